/- YtidmjeehcmpjnaaDoorTxtI: an instruction read from a text, by the program. Conditions: the text is shorter than 2 to the 32; the listed variables hold what the program's text lays. -/
import Derived.Test.YtidmjeehcmpjnaaDoorTxtQ
import Derived.Test.YtidmjeehcmpjnaaDoorShelfB
import Derived.Lib.AtoiErrMem
namespace Go.Proofs.YtidmjeehcmpjnaaDoor
open Go.ChangeShapes Go.WideShapes Go.ChangeAt Go.RowKit
set_option linter.unusedVariables false
theorem newB (w : World) (o : Obj) : Below w.heap.size w (w.alloc o) := (Below.refl _ _).alloc (Nat.le_refl _) _
theorem txts_eq (ss : List ByteArray) : ss.map Value.string = txts (ss.map fun s => s.data.toList) := by
  unfold txts
  rw [List.map_map]
  apply List.map_congr_left
  intro s _
  show Value.string s = .string ⟨s.data.toList.toArray⟩
  rw [← bytes_eta s]
theorem split_any (l : List UInt8) (w : World) (hL : LaidB w) (hs : l.length ≤ 4294967280) : Calls Tryd.prog 62 #[.string ⟨l.toArray⟩, .string ⟨#[32]⟩] w fun e w' =>
    e = .returned (.slice (some ⟨w.heap.size, 0, none⟩) (splitW l).length (splitW l).length) ∧ OwT w.heap.size w' (.slice (some ⟨w.heap.size, 0, none⟩) (splitW l).length (splitW l).length) (splitW l) ∧ Below w.heap.size w w' := by
  obtain ⟨m, hm⟩ := hL.max
  refine (Tryd.strings_Split ⟨l.toArray⟩ ⟨#[32]⟩ m w (show l.toArray.size < _ by rw [List.size_toArray]; omega) hm (show 1 ≤ 1 by decide)).mono ?_
  rintro e w' ⟨he, hw⟩
  have hd := Lib.splitB_data ⟨#[32]⟩ 0 (Lib.countB ⟨l.toArray⟩ ⟨#[32]⟩) ⟨l.toArray⟩
  have hc : Lib.countB ⟨l.toArray⟩ ⟨#[32]⟩ = Lib.count l [32] := by unfold Lib.countB; simp
  have hsp : Lib.splitK [32] 0 (Lib.count l [32]) l = splitW l := splitK_words l
  have hcut : (Lib.splitB ⟨#[32]⟩ 0 (Lib.countB ⟨l.toArray⟩ ⟨#[32]⟩) ⟨l.toArray⟩).map (fun s => s.data.toList) = splitW l := by
    rw [hd, hc]; exact hsp
  have hlen : Lib.countB ⟨l.toArray⟩ ⟨#[32]⟩ + 1 = (splitW l).length := by
    rw [← hcut, List.length_map, Lib.splitB_all ⟨#[32]⟩ (by decide) 0 _ ⟨l.toArray⟩ rfl]
  have hb := newB w (.cells (txts (splitW l)).toArray 9)
  have hlw := splitW_len l
  rw [txts_eq, hcut] at hw
  rw [hlen] at he
  refine ⟨he, ?_, by rw [hw]; exact hb⟩
  rw [hw]
  unfold OwT
  have := World.ownsRow_lit w (e := 9) (size := 1) (txts (splitW l)).toArray (splitW l).length (Nat.le_refl _) (by unfold maxLen; omega) (by unfold txts; simp)
  simpa using this
/-- The place of a name among the names of the operations; -1 for none. -/
def nmB : List ByteArray := nmL.map fun l => ⟨l.toArray⟩
def opI (x : List UInt8) : Int := Lib.idxOfS (nmB.take 15) ⟨x.toArray⟩
theorem nm_at : ∀ j : Nat, j < 15 → nmB.getD j ByteArray.empty = ⟨(nm j).toArray⟩ := by
  intro j hj
  have := nm_get (k := j) (by omega)
  unfold nmB
  rw [List.getD_eq_getElem?_getD, List.getElem?_map, this]
  rfl
theorem nm_inj {i j : Nat} (hi : i ≤ 14) (hj : j ≤ 14) (h : nm i = nm j) : i = j := by
  have : ∀ a : Fin 15, ∀ b : Fin 15, nm (a.val : Nat) = nm (b.val : Nat) → a = b := by decide +kernel
  exact congrArg Fin.val (this ⟨i, by omega⟩ ⟨j, by omega⟩ h)
theorem opI_nm {k : Nat} (h : k ≤ 14) : opI (nm k) = k := by
  unfold opI
  refine Lib.idxOfS_hit _ 15 k _ (by omega) (by decide) (nm_at k (by omega)) fun j hj he => ?_
  rw [nm_at j (by omega), bytes_eq] at he
  have := nm_inj (by omega) h he
  omega
theorem opI_cases (x : List UInt8) : (opI x = -1 ∧ ∀ k : Nat, k ≤ 14 → x ≠ nm k) ∨ ∃ k : Nat, k ≤ 14 ∧ x = nm k ∧ opI x = k := by
  by_cases h : ∃ k : Nat, k ≤ 14 ∧ x = nm k
  · obtain ⟨k, hk, hx⟩ := h
    exact .inr ⟨k, hk, hx, by rw [hx]; exact opI_nm hk⟩
  · refine .inl ⟨Lib.idxOfS_miss _ 15 _ fun j hj he => ?_, fun k hk hx => h ⟨k, hk, hx⟩⟩
    rw [nm_at j hj, bytes_eq] at he
    exact h ⟨j, by omega, he.symm⟩
theorem index_any (x : List UInt8) (w : World) (hL : LaidA w) : Calls Tryd.prog 63 #[.slice (some ⟨0, 0, none⟩) 15 15, .string ⟨x.toArray⟩] w fun e w' => e = .returned (.int .i64 (opI x)) ∧ w' = w :=
  Tryd.slices_Index_string 0 0 15 15 nmB ⟨x.toArray⟩ w (by decide) (by decide) (fun j hj => by
    have hj15 : j < 15 := hj
    rw [nm_at j hj15, Nat.zero_add]
    exact hL.names j _ (nm_get (by omega)))
theorem atoi_ok (x : List UInt8) (v : Int) (h : Lib.atoiAll x = .ok v) (hx : x.length ≤ 4294967280) (w : World) : Calls Tryd.prog 64 #[.string ⟨x.toArray⟩] w fun e w' => e = .returned (.tuple #[.int .i64 v, .nilIface]) ∧ Below w.heap.size w w' :=
  (Tryd.strconv_Atoi_ok ⟨x.toArray⟩ (show x.toArray.size ≤ _ by rw [List.size_toArray]; omega) v (by simpa using h) w).mono fun e w' ⟨he, hw⟩ => ⟨he, by
    rcases hw with rfl | ⟨t, rfl⟩
    · exact Below.refl _ _
    · exact Lib.bytesWorld_below _ _ _⟩
theorem atoi_no (x : List UInt8) (h : ∀ v, Lib.atoiAll x ≠ .ok v) (hx : x.length ≤ 4294967280) (w : World) (hL : LaidB w) : Calls Tryd.prog 64 #[.string ⟨x.toArray⟩] w fun e w' => ∃ n N, e = .returned (.tuple #[.int .i64 n, .iface 97 (.pointer (some ⟨N, 0, none⟩))]) ∧ Below w.heap.size w w' :=
  Tryd.strconv_Atoi_no ⟨x.toArray⟩ (show x.toArray.size ≤ _ by rw [List.size_toArray]; omega) (by simpa using h) w hL.syn hL.rng
/-- What is known of the words of a text that reads as an instruction. -/
theorem read_known {l : List UInt8} {d : Cd} (h : readT l = some d) : cValid d = true ∧ ctext d = l ∧ splitW l = nm d.op :: d.nums.map dig ∧ (1 ≤ d.op ∧ d.op ≤ 14) ∧ (∀ n ∈ d.nums, 0 ≤ n ∧ n ≤ 255) ∧ d.nums.length = shownN d.op := by
  obtain ⟨hv, ht⟩ := readT_iff.1 h
  have hw := words_text hv
  obtain ⟨h1, h2, _⟩ := valid_nums hv
  obtain ⟨_, h3, h4⟩ := words_c hv
  rw [ht] at hw
  refine ⟨hv, ht, hw, h1, h2, ?_⟩
  simp at h3
  omega
theorem nm_injI {a b : Int} (ha : 1 ≤ a ∧ a ≤ 14) (hb : 0 ≤ b ∧ b ≤ 14) (h : nm a = nm b) : a = b := by
  obtain ⟨i, rfl⟩ : ∃ i : Nat, a = i := ⟨a.toNat, by omega⟩
  obtain ⟨j, rfl⟩ : ∃ j : Nat, b = j := ⟨b.toNat, by omega⟩
  have := nm_inj (by omega) (by omega) h
  omega
theorem read_bad {l h0 : List UInt8} {tl : List (List UInt8)} (hw : splitW l = h0 :: tl) (h : ∀ k : Nat, 1 ≤ k → k ≤ 14 → h0 ≠ nm k) : readT l = none := by
  cases hr : readT l with
  | none => rfl
  | some d =>
    obtain ⟨_, _, hk, ho, _⟩ := read_known hr
    rw [hw] at hk
    refine absurd (List.cons.inj hk).1 ?_
    obtain ⟨i, hi⟩ : ∃ i : Nat, d.op = i := ⟨d.op.toNat, by omega⟩
    rw [hi]
    exact h i (by omega) (by omega)
theorem read_op {l : List UInt8} {tl : List (List UInt8)} {o : Nat} (ho : o ≤ 14) (hw : splitW l = nm o :: tl) {d : Cd} (hr : readT l = some d) : d.op = o ∧ tl = d.nums.map dig := by
  obtain ⟨_, _, hk, h1, _⟩ := read_known hr
  rw [hw] at hk
  exact ⟨nm_injI h1 (by omega) (List.cons.inj hk).1.symm, (List.cons.inj hk).2⟩
theorem read_len {l : List UInt8} {tl : List (List UInt8)} {o : Nat} (ho : o ≤ 14) (hw : splitW l = nm o :: tl) (hl : tl.length ≠ shownN o) : readT l = none := by
  cases hr : readT l with
  | none => rfl
  | some d =>
    obtain ⟨h1, h2⟩ := read_op ho hw hr
    obtain ⟨_, _, _, _, _, h3⟩ := read_known hr
    rw [h2, List.length_map, h3, h1] at hl
    exact absurd rfl hl
theorem read_word {l : List UInt8} {tl : List (List UInt8)} {o : Nat} (ho : o ≤ 14) (hw : splitW l = nm o :: tl) {j : Nat} {x : List UInt8} (hx : tl[j]? = some x) (hn : ∀ v, Lib.atoiAll x ≠ .ok v) : readT l = none := by
  cases hr : readT l with
  | none => rfl
  | some d =>
    obtain ⟨h1, h2⟩ := read_op ho hw hr
    obtain ⟨_, _, _, _, h4, _⟩ := read_known hr
    rw [h2, List.getElem?_map] at hx
    cases hd : d.nums[j]? with
    | none => rw [hd] at hx; cases hx
    | some n =>
      rw [hd] at hx
      have hx : dig n = x := Option.some.inj hx
      exact absurd (by rw [← hx]; exact atoi_dig (h4 n (List.mem_of_getElem? hd))) (hn n)
/-- The numbers that have been read off the words. -/
structure NS (tl : List (List UInt8)) (k : Nat) (n0 n1 n2 : Int) : Prop where
  p0 : 0 < k → ∃ x, tl[0]? = some x ∧ Lib.atoiAll x = .ok n0
  p1 : 1 < k → ∃ x, tl[1]? = some x ∧ Lib.atoiAll x = .ok n1
  p2 : 2 < k → ∃ x, tl[2]? = some x ∧ Lib.atoiAll x = .ok n2
  z0 : ¬ 0 < k → n0 = 0
  z1 : ¬ 1 < k → n1 = 0
  z2 : ¬ 2 < k → n2 = 0
theorem NS.start (tl : List (List UInt8)) : NS tl 0 0 0 0 := ⟨fun h => absurd h (by decide), fun h => absurd h (by decide), fun h => absurd h (by decide), fun _ => rfl, fun _ => rfl, fun _ => rfl⟩
theorem NS.s0 {tl : List (List UInt8)} {n0 n1 n2 : Int} (h : NS tl 0 n0 n1 n2) {x : List UInt8} {n : Int} (hx : tl[0]? = some x) (hn : Lib.atoiAll x = .ok n) : NS tl 1 n n1 n2 :=
  ⟨fun _ => ⟨x, hx, hn⟩, fun h => absurd h (by decide), fun h => absurd h (by decide), fun h => absurd (by decide) h, fun _ => h.z1 (by decide), fun _ => h.z2 (by decide)⟩
theorem NS.s1 {tl : List (List UInt8)} {n0 n1 n2 : Int} (h : NS tl 1 n0 n1 n2) {x : List UInt8} {n : Int} (hx : tl[1]? = some x) (hn : Lib.atoiAll x = .ok n) : NS tl 2 n0 n n2 :=
  ⟨fun _ => h.p0 (by decide), fun _ => ⟨x, hx, hn⟩, fun h => absurd h (by decide), fun h => absurd (by decide) h, fun h => absurd (by decide) h, fun _ => h.z2 (by decide)⟩
theorem NS.s2 {tl : List (List UInt8)} {n0 n1 n2 : Int} (h : NS tl 2 n0 n1 n2) {x : List UInt8} {n : Int} (hx : tl[2]? = some x) (hn : Lib.atoiAll x = .ok n) : NS tl 3 n0 n1 n :=
  ⟨fun _ => h.p0 (by decide), fun _ => h.p1 (by decide), fun _ => ⟨x, hx, hn⟩, fun h => absurd (by decide) h, fun h => absurd (by decide) h, fun h => absurd (by decide) h⟩
theorem ok_inj {a b : Int} {x y : List UInt8} (h : x = y) (ha : Lib.atoiAll x = .ok a) (hb : Lib.atoiAll y = .ok b) : a = b := by
  subst h
  rw [ha] at hb
  cases hb
  rfl
theorem read_same {tl : List (List UInt8)} {o : Nat} {n0 n1 n2 : Int} {d : Cd} (hop : d.op = o) (htl : tl = d.nums.map dig) (hn : ∀ n ∈ d.nums, 0 ≤ n ∧ n ≤ 255) (hv : cValid d = true) (hs : NS tl (shownN o) n0 n1 n2) : d = ⟨o, n0, n1, n2⟩ := by
  obtain ⟨_, _, hz⟩ := valid_nums hv
  obtain ⟨p, a, b, c⟩ := d
  simp only at hop hz
  subst hop
  unfold Cd.nums at hn htl
  simp only at hn htl
  have at0 : ∀ {x n}, 0 < shownN o → tl[0]? = some x → Lib.atoiAll x = .ok n → a = n := fun h0 hx ha => by
    rw [htl, List.getElem?_map, List.getElem?_take, if_pos h0] at hx
    have hx := Option.some.inj hx
    exact ok_inj hx (atoi_dig (hn a (by rw [List.mem_take_iff_getElem]; exact ⟨0, by simp; omega, rfl⟩))) ha
  have at1 : ∀ {x n}, 1 < shownN o → tl[1]? = some x → Lib.atoiAll x = .ok n → b = n := fun h0 hx ha => by
    rw [htl, List.getElem?_map, List.getElem?_take, if_pos h0] at hx
    have hx := Option.some.inj hx
    exact ok_inj hx (atoi_dig (hn b (by rw [List.mem_take_iff_getElem]; exact ⟨1, by simp; omega, rfl⟩))) ha
  have at2 : ∀ {x n}, 2 < shownN o → tl[2]? = some x → Lib.atoiAll x = .ok n → c = n := fun h0 hx ha => by
    rw [htl, List.getElem?_map, List.getElem?_take, if_pos h0] at hx
    have hx := Option.some.inj hx
    exact ok_inj hx (atoi_dig (hn c (by rw [List.mem_take_iff_getElem]; exact ⟨2, by simp; omega, rfl⟩))) ha
  have ea : a = n0 := by
    by_cases h : 0 < shownN o
    · obtain ⟨x, hx, hxa⟩ := hs.p0 h
      exact at0 h hx hxa
    · rw [hs.z0 h]; omega
  have eb : b = n1 := by
    by_cases h : 1 < shownN o
    · obtain ⟨x, hx, hxa⟩ := hs.p1 h
      exact at1 h hx hxa
    · rw [hs.z1 h]; omega
  have ec : c = n2 := by
    by_cases h : 2 < shownN o
    · obtain ⟨x, hx, hxa⟩ := hs.p2 h
      exact at2 h hx hxa
    · rw [hs.z2 h]; omega
  rw [ea, eb, ec]
theorem read_end {l : List UInt8} {tl : List (List UInt8)} {o : Nat} (ho : 1 ≤ o ∧ o ≤ 14) (hw : splitW l = nm o :: tl) {n0 n1 n2 : Int} (hs : NS tl (shownN o) n0 n1 n2) :
    readT l = if ctext ⟨o, n0, n1, n2⟩ = l then some ⟨o, n0, n1, n2⟩ else none := by
  by_cases ht : ctext ⟨o, n0, n1, n2⟩ = l
  · rw [if_pos ht]
    cases hv : cValid ⟨o, n0, n1, n2⟩ with
    | true => exact readT_iff.2 ⟨hv, ht⟩
    | false =>
      rw [ctext_bad hv] at ht
      rw [← ht] at hw
      have := (List.cons.inj hw).1
      exact absurd this.symm (nm_no (op := (o : Int)) (by omega)).2
  · rw [if_neg ht]
    cases hr : readT l with
    | none => rfl
    | some d =>
      obtain ⟨h1, h2⟩ := read_op ho.2 hw hr
      obtain ⟨hv, h3, _, _, h4, _⟩ := read_known hr
      have := read_same h1 h2 h4 hv hs
      rw [this] at h3
      exact absurd h3 ht
/-- Three cells that may be written. -/
structure K3 (w : World) (N : Nat) (x y z : Int) : Prop where
  c0 : w.cell? ⟨N, 0, none⟩ = some (.int .i64 x)
  c1 : w.cell? ⟨N, 1, none⟩ = some (.int .i64 y)
  c2 : w.cell? ⟨N, 2, none⟩ = some (.int .i64 z)
  f0 : w.frozen? ⟨N, 0, none⟩ = false
  f1 : w.frozen? ⟨N, 1, none⟩ = false
  f2 : w.frozen? ⟨N, 2, none⟩ = false
  lt : N < w.heap.size
theorem K3.below {w w' : World} {N : Nat} {x y z : Int} (h : K3 w N x y z) (hb : Below w.heap.size w w') : K3 w' N x y z :=
  ⟨(hb.cell (p := ⟨N, 0, none⟩) h.lt).trans h.c0, (hb.cell (p := ⟨N, 1, none⟩) h.lt).trans h.c1, (hb.cell (p := ⟨N, 2, none⟩) h.lt).trans h.c2, (hb.frozen (p := ⟨N, 0, none⟩) h.lt).trans h.f0, (hb.frozen (p := ⟨N, 1, none⟩) h.lt).trans h.f1, (hb.frozen (p := ⟨N, 2, none⟩) h.lt).trans h.f2, Nat.lt_of_lt_of_le h.lt hb.size⟩
theorem K3.new (w : World) (E : TypeId) : K3 (w.alloc (.cells #[.int .i64 0, .int .i64 0, .int .i64 0] E)) w.heap.size 0 0 0 := by
  have h := fun o => cell_of_row (w.alloc (.cells #[.int .i64 0, .int .i64 0, .int .i64 0] E)) w.heap.size o #[.int .i64 0, .int .i64 0, .int .i64 0] E (0, 0) (heap_alloc_new w _)
  have f := fun o => frozen_of_row (w.alloc (.cells #[.int .i64 0, .int .i64 0, .int .i64 0] E)) w.heap.size o #[.int .i64 0, .int .i64 0, .int .i64 0] E (heap_alloc_new w _)
  exact ⟨h 0, h 1, h 2, f 0, f 1, f 2, by simp⟩
theorem K3.s0 {w : World} {N : Nat} {x y z : Int} (h : K3 w N x y z) (n : Int) : K3 (w.setCell ⟨N, 0, none⟩ (.int .i64 n)) N n y z := by
  obtain ⟨h0, h1, h2, h3, h4, h5, h6⟩ := h
  have o := fun (j : Nat) (hj : j ≠ 0) => World.cell?_setCell_other w ⟨N, 0, none⟩ ⟨N, j, none⟩ (.int .i64 n) (by intro e; exact hj (congrArg Addr.off e).symm)
  exact ⟨World.cell?_setCell_same _ _ _ h0, (o 1 (by decide)).trans h1, (o 2 (by decide)).trans h2, by simpa using h3, by simpa using h4, by simpa using h5, by simpa using h6⟩
theorem K3.s1 {w : World} {N : Nat} {x y z : Int} (h : K3 w N x y z) (n : Int) : K3 (w.setCell ⟨N, 1, none⟩ (.int .i64 n)) N x n z := by
  obtain ⟨h0, h1, h2, h3, h4, h5, h6⟩ := h
  have o := fun (j : Nat) (hj : j ≠ 1) => World.cell?_setCell_other w ⟨N, 1, none⟩ ⟨N, j, none⟩ (.int .i64 n) (by intro e; exact hj (congrArg Addr.off e).symm)
  exact ⟨(o 0 (by decide)).trans h0, World.cell?_setCell_same _ _ _ h1, (o 2 (by decide)).trans h2, by simpa using h3, by simpa using h4, by simpa using h5, by simpa using h6⟩
theorem K3.s2 {w : World} {N : Nat} {x y z : Int} (h : K3 w N x y z) (n : Int) : K3 (w.setCell ⟨N, 2, none⟩ (.int .i64 n)) N x y n := by
  obtain ⟨h0, h1, h2, h3, h4, h5, h6⟩ := h
  have o := fun (j : Nat) (hj : j ≠ 2) => World.cell?_setCell_other w ⟨N, 2, none⟩ ⟨N, j, none⟩ (.int .i64 n) (by intro e; exact hj (congrArg Addr.off e).symm)
  exact ⟨(o 0 (by decide)).trans h0, (o 1 (by decide)).trans h1, World.cell?_setCell_same _ _ _ h2, by simpa using h3, by simpa using h4, by simpa using h5, by simpa using h6⟩
/-- What the program's reading has in memory ahead of its numbers. -/
structure RW (w0 : World) (b : Nat) (ws : List (List UInt8)) (w : World) : Prop where
  bel : Below b w0 w
  r : C4 w b 0 0 0 0
  wd : OwT (b + 1) w (.slice (some ⟨b + 1, 0, none⟩) ws.length ws.length) ws
  hb : w0.heap.size = b
  la : LaidB w
theorem RW.below {w0 w w' : World} {b : Nat} {ws : List (List UInt8)} (h : RW w0 b ws w) (hb : Below w.heap.size w w') : RW w0 b ws w' :=
  ⟨h.bel.trans (hb.mono (by have := h.r.lt; omega)), h.r.below hb, h.wd.below hb, h.hb, h.la.below hb⟩
theorem RW.lt {w0 w : World} {b : Nat} {ws : List (List UInt8)} (h : RW w0 b ws w) : b + 1 < w.heap.size ∨ ws = [] := by
  rcases h.wd.2 with ⟨hv, _⟩ | ⟨g, cap, cur, hv, _, hg, _⟩
  · cases hv
  · obtain rfl : g = b + 1 := by cases hv; rfl
    exact .inl (Array.getElem?_eq_some_iff.1 hg).1
/-- Something of the call's own is written behind the words. -/
theorem RW.wr {w0 w : World} {b N : Nat} {ws : List (List UInt8)} (h : RW w0 b ws w) (hL : LaidB w0) (hN : b + 1 < N) (j : Nat) (t : Value) : RW w0 b ws (w.setCell ⟨N, j, none⟩ t) := by
  have hw := Wr_set0 w N j t
  have hbl := Below.wr h.bel hw (by have := h.r.lt; omega) (fun k hk => by omega)
  exact ⟨hbl, c4_other h.r (by omega) j t, h.wd.wr hw (fun k hk hh => by have : b + 1 = k := Option.some.inj hk; omega), h.hb, hL.below (by rw [h.hb]; exact hbl)⟩
theorem RW.fin {w0 w : World} {b : Nat} {ws : List (List UInt8)} (h : RW w0 b ws w) (t0 t1 t2 t3 : Value) : Below b w0 ((((w.setCell ⟨b, 0, none⟩ t0).setCell ⟨b, 1, none⟩ t1).setCell ⟨b, 2, none⟩ t2).setCell ⟨b, 3, none⟩ t3) := by
  have hw := (((Wr_set0 w b 0 t0).trans (Wr_set0 _ b 1 t1)).trans (Wr_set0 _ b 2 t2)).trans (Wr_set0 _ b 3 t3)
  exact Below.wr h.bel hw (by have := h.r.lt; omega) (fun k hk => by omega)
set_option maxRecDepth 100000 in
set_option maxHeartbeats 8000000 in
theorem implReadCode (l : List UInt8) (w : World) (hL : LaidB w) (hs : l.length ≤ 4294967280) : Calls Tryd.prog 41 #[.string ⟨l.toArray⟩] w fun e w' => e = .returned (okV (readT l)) ∧ Below w.heap.size w w' := by
  obtain ⟨b, hb⟩ : ∃ b, w.heap.size = b := ⟨_, rfl⟩
  have hbA : Below b w (w.alloc (.cells #[.int .i64 0, .int .i64 0, .int .i64 0, .int .i64 0] 42)) := by rw [← hb]; exact newB _ _
  have hrA : C4 (w.alloc (.cells #[.int .i64 0, .int .i64 0, .int .i64 0, .int .i64 0] 42)) b 0 0 0 0 := by
    refine c4_of ?_
    rw [← hb]; exact heap_alloc_new _ _
  have hLA := hL.below (w' := w.alloc (.cells #[.int .i64 0, .int .i64 0, .int .i64 0, .int .i64 0] 42)) (newB _ _)
  have HB := Lib.hid hb
  have HBA := Lib.hid hbA
  have HRA := Lib.hid hrA
  have HLA := Lib.hid hLA
  have HL := Lib.hid hL
  rw [hb]
  clear hb hbA hrA hLA hL
  go_enter Tryd.func41, Tryd.ntmps41
  go_wp2_with fail
  refine (split_any l _ HLA.out hs).mono ?_
  rintro e w1 ⟨rfl, ho1, hb1⟩
  simp only [World.size_alloc] at ho1
  rw [HB.out] at ho1
  obtain ⟨ws, hws⟩ : ∃ ws, splitW l = ws := ⟨_, rfl⟩
  rw [hws] at ho1
  obtain ⟨h0, tl, hh⟩ := List.exists_cons_of_ne_nil (show ws ≠ [] by rw [← hws]; exact splitW_ne l)
  have hR1 : RW w b ws w1 := ⟨HBA.out.trans (hb1.mono (by simp; have := HB.out; omega)), HRA.out.below hb1, ho1, HB.out, HLA.out.below hb1⟩
  rw [World.size_alloc, HB.out, hws]
  have hwl : ws.length ≤ l.length + 1 := by rw [← hws]; exact splitW_len l
  have hw1 : 0 < ws.length := by rw [hh]; simp
  have hq0 := ho1.cell (i := 0) (l := h0) (by rw [hh]; rfl)
  have HWS := Lib.hid (hws.trans hh)
  have HH := Lib.hid hh
  have HR1 := Lib.hid hR1
  have HQ := Lib.hid (fun w5 (h : LaidA w5) => index_any h0 w5 h)
  have hsl : ∀ w5, (Instr.sliceAt 66 (.pointer (some ⟨0, 0, none⟩)) none none none).run Tryd.prog w5 = .ok (.slice (some ⟨0, 0, none⟩) 15 15) w5 := fun _ => by kernel_rfl
  clear hws hh ho1 hb1 HBA HRA HLA hR1
  go_wp2_with fail
  go_quiet ((go_at_call 63; exact (HQ.out _ (HR1.out.la.toLaidA.below (below_dn (Below.refl _ _) _))).mono (fun e w'' hh => ⟨hh.1, _, hh.2⟩)))
  have HR2 := Lib.hid (HR1.out.below (below_dn (Below.refl _ _) nq))
  clear hq0 hsl HR1 HQ
  generalize w1.drewN nq = w2 at *
  obtain ⟨P, hP⟩ : ∃ P, opI h0 = P := ⟨_, rfl⟩
  rw [hP]
  by_cases hp1 : P < 1
  · have HE := Lib.hid (show readT l = none from read_bad HWS.out (fun k hk1 hk2 he => by rw [he, opI_nm hk2] at hP; omega))
    obtain ⟨r0, r1, r2, r3, g0, g1, g2, g3, g4⟩ := HR2.out.r
    have HF := Lib.hid (HR2.out.fin (.int .i64 0) (.int .i64 0) (.int .i64 0) (.int .i64 0))
    clear HR2 hP
    go_wp2
    refine bodyPost_ret (v := okV none) (by simp [results, Tryd.results41, go_sem, r0, r1, r2, r3, okV, cdZ]) rfl ⟨by rw [HE.out], HF.out⟩
  obtain ⟨o, ho1, ho2, ho3, ho4⟩ : ∃ o : Nat, 1 ≤ o ∧ o ≤ 14 ∧ P = o ∧ h0 = nm o := by
    rcases opI_cases h0 with ⟨h1, _⟩ | ⟨k, hk, h1, h2⟩
    · omega
    · exact ⟨k, by omega, hk, by omega, h1⟩
  subst ho3
  have hW := HWS.out
  rw [ho4] at hW
  have HW := Lib.hid hW
  have hlen : ws.length = tl.length + 1 := by rw [HH.out]; simp
  obtain ⟨S, hS⟩ : ∃ S, shownN o = S := ⟨_, rfl⟩
  have hS3 : S ≤ 3 := by
    rw [← hS]; unfold shownN regsN
    split
    · omega
    · split
      · decide
      · split
        · decide
        · split <;> decide
  have HSH := Lib.hid (fun w => shown_any (o : Int) w (by omega))
  rw [hS] at HSH
  have HS := Lib.hid hS
  clear hW hS hP ho4
  by_cases hls : tl.length = S
  rotate_left
  · have HE := Lib.hid (show readT l = none from read_len ho2 HW.out (by rw [HS.out]; exact hls))
    have hne : (((ws.length : Nat) : Int) != 1 + (S : Int)) = true := by simp; omega
    obtain ⟨r0, r1, r2, r3, g0, g1, g2, g3, g4⟩ := HR2.out.r
    have HF := Lib.hid (HR2.out.fin (.int .i64 0) (.int .i64 0) (.int .i64 0) (.int .i64 0))
    clear HR2
    go_wp2_with fail
    refine (HSH.out _).mono ?_
    rintro e w' ⟨rfl, rfl⟩
    go_wp2
    refine bodyPost_ret (v := okV none) (by simp [results, Tryd.results41, go_sem, r0, r1, r2, r3, okV, cdZ]) rfl ⟨by rw [HE.out], HF.out⟩
  have hlenS : ws.length = S + 1 := by omega
  have HLS := Lib.hid hlenS
  have HTS := Lib.hid hls
  have hwl' : S ≤ l.length := by omega
  rw [hlenS]
  clear hlen hlenS hls hwl hw1
  have hwN : b + 1 < w2.heap.size := by
    rcases HR2.out.lt with h | h
    · exact h
    · have := HLS.out; rw [h] at this; simp at this
  have hNN := K3.new w2 72
  have HR3 := Lib.hid (HR2.out.below (newB w2 (.cells #[.int .i64 0, .int .i64 0, .int .i64 0] 72)))
  obtain ⟨N, hN⟩ : ∃ N, w2.heap.size = N := ⟨_, rfl⟩
  rw [hN] at hNN hwN
  have HNN := Lib.hid hNN
  have HN := Lib.hid hN
  clear HR2 hN hNN
  cases S with
  | zero =>
    have hne : (((0 : Nat) : Int) + 1 != 1 + ((0 : Nat) : Int)) = false := by simp
    go_wp2_with fail
    refine (HSH.out _).mono ?_
    rintro e w' ⟨rfl, rfl⟩
    go_wp2_with fail
    rw [HN.out]
    refine wp_loop_rounds 1 ?_
    rw [rounds_succ]
    have hR := HR3.out
    have hK := HNN.out
    clear HR3 HNN
    revert hR hK
    generalize w2.alloc _ = wr
    intro hR hK
    have hNS : NS tl 0 0 0 0 := NS.start tl
    have HRT := Lib.hid (show readT l = if ctext ⟨o, 0, 0, 0⟩ = l then some ⟨o, 0, 0, 0⟩ else none from read_end ⟨ho1, ho2⟩ HW.out (by rw [HS.out]; exact hNS))
    have HR4 := Lib.hid (hR.below (newB wr (.cells #[.int .i64 (o : Int), .int .i64 0, .int .i64 0, .int .i64 0] 42)))
    have hC4 : C4 (wr.alloc (.cells #[.int .i64 (o : Int), .int .i64 0, .int .i64 0, .int .i64 0] 42)) wr.heap.size o 0 0 0 := c4_of (heap_alloc_new wr _)
    have HC4 := Lib.hid hC4
    obtain ⟨k0, k1, k2, g0, g1, g2, g3⟩ := hK
    have C2 := Lib.hid (fun w (h : LaidA w) => implCodeText ⟨o, 0, 0, 0⟩ w h)
    obtain ⟨T, hT⟩ : ∃ T, ctext ⟨o, 0, 0, 0⟩ = T := ⟨_, rfl⟩
    rw [hT] at C2 HRT
    clear hR hNS hC4 hT
    by_cases htl : T = l
    · have HE := Lib.hid (HRT.out.trans (if_pos htl))
      have e1 : (T == l) = true := by rw [beq_iff_eq]; exact htl
      have e2 : (T != l) = false := by rw [bne, e1]; rfl
      clear htl HRT
      go_wp2_with fail
      refine (C2.out _ HR4.out.la.toLaidA).mono ?_
      rintro e w6 ⟨rfl, hb6⟩
      have HR6 := Lib.hid (HR4.out.below hb6)
      obtain ⟨y0, y1, y2, y3, f0, f1, f2, f3, f4⟩ := HC4.out.below hb6
      obtain ⟨r0, r1, r2, r3, h0, h1, h2, h3, h4⟩ := HR6.out.r
      have HF := Lib.hid (HR6.out.fin (.int .i64 (o : Int)) (.int .i64 0) (.int .i64 0) (.int .i64 0))
      clear HR6 HR4 HC4 hb6 k0 k1 k2 g0 g1 g2 g3
      go_wp2
      refine bodyPost_ret (v := okV (some ⟨o, 0, 0, 0⟩)) (by simp [results, Tryd.results41, go_sem, r0, r1, r2, r3, okV, cdZ]) rfl ⟨by rw [HE.out], HF.out⟩
    · have HE := Lib.hid (HRT.out.trans (if_neg htl))
      have e1 : (T == l) = false := by rw [beq_eq_false_iff_ne]; exact htl
      have e2 : (T != l) = true := by rw [bne, e1]; rfl
      clear htl HRT
      go_wp2_with fail
      refine (C2.out _ HR4.out.la.toLaidA).mono ?_
      rintro e w6 ⟨rfl, hb6⟩
      have HR6 := Lib.hid (HR4.out.below hb6)
      obtain ⟨r0, r1, r2, r3, h0, h1, h2, h3, h4⟩ := HR6.out.r
      have HF := Lib.hid (HR6.out.fin (.int .i64 0) (.int .i64 0) (.int .i64 0) (.int .i64 0))
      clear HR6 HR4 HC4 hb6 k0 k1 k2 g0 g1 g2 g3
      go_wp2
      refine bodyPost_ret (v := okV none) (by simp [results, Tryd.results41, go_sem, r0, r1, r2, r3, okV, cdZ]) rfl ⟨by rw [HE.out], HF.out⟩
  | succ S =>
    have hne : (((S + 1 : Nat) : Int) + 1 != 1 + ((S + 1 : Nat) : Int)) = false := by simp; omega
    have hne2 : ((S : Int) + 1 + 1 != 1 + ((S : Int) + 1)) = false := by simp; omega
    go_wp2_with fail
    refine (HSH.out _).mono ?_
    rintro e w' ⟨rfl, rfl⟩
    go_wp2_with fail
    rw [HN.out]
    go_loopg [33] (S + 1) (fun gk i wr => ∃ (k : Nat) (n0 n1 n2 : Int), k + gk = S + 1 ∧ i = .int .i64 k ∧ RW w b ws wr ∧ K3 wr N n0 n1 n2 ∧ NS tl k n0 n1 n2)
    case atStart => exact ⟨0, 0, 0, 0, by omega, rfl, HR3.out, HNN.out, NS.start tl⟩
    case round =>
      clear HR3 HNN
      obtain ⟨k, n0, n1, n2, hk, rfl, hR, hK, hNS⟩ := hrel
      by_cases hlt : k < S + 1
      · obtain ⟨x, hx⟩ := get_lt (show k < tl.length by have := HTS.out; omega)
        have hxl : x.length ≤ 4294967280 := by
          have hm := splitW_mem l x (by rw [HWS.out]; exact List.mem_cons_of_mem _ (List.mem_of_getElem? hx))
          omega
        have HX := Lib.hid hx
        have HR5 := Lib.hid hR
        have HK5 := Lib.hid hK
        clear hx hR hK
        rcases (show k = 0 ∨ k = 1 ∨ k = 2 by omega) with rfl | rfl | rfl
        · have hcx : wr.cell? ⟨b + 1, 1 + 0, none⟩ = some (.string ⟨x.toArray⟩) := by
            have := HR5.out.wd.cell (i := 0 + 1) (l := x) (by rw [HH.out]; exact HX.out)
            exact this
          cases hax : Lib.atoiAll x with
          | ok n =>
            have HA := Lib.hid (atoi_ok x n hax hxl wr)
            have HNN := Lib.hid (hNS.s0 HX.out hax)
            obtain ⟨k0, k1, k2, g0, g1, g2, g3⟩ := HK5.out
            clear hNS hax
            go_wp2_with fail
            refine HA.out.mono ?_
            rintro e w6 ⟨rfl, hb6⟩
            have hR6 := HR5.out.below hb6
            have hK6 := HK5.out.below hb6
            have HR7 := Lib.hid (hR6.wr HL.out (show b + 1 < N by omega) 0 (.int .i64 n))
            have HK7 := Lib.hid (hK6.s0 n)
            clear k0 k1 k2 g0 g1 g2 g3 hR6 hb6
            obtain ⟨k0, k1, k2, g0, g1, g2, g3⟩ := hK6
            go_wp2
            go_roundg (S + 1 - 1)
            case measure => omega
            case rel => exact ⟨1, _, _, _, by omega, by go_num, HR7.out, HK7.out, HNN.out⟩
          | _ =>
            have hno : ∀ v, Lib.atoiAll x ≠ .ok v := fun v hv => by rw [hax] at hv; cases hv
            have HE := Lib.hid (show readT l = none from read_word ho2 HW.out HX.out hno)
            have HA := Lib.hid (atoi_no x hno hxl wr HR5.out.la)
            clear hNS hax hno
            go_wp2_with fail
            refine HA.out.mono ?_
            rintro e w6 ⟨n, M, rfl, hb6⟩
            have HR6 := Lib.hid (HR5.out.below hb6)
            obtain ⟨r0, r1, r2, r3, h0, h1, h2, h3, h4⟩ := HR6.out.r
            have HF := Lib.hid (HR6.out.fin (.int .i64 0) (.int .i64 0) (.int .i64 0) (.int .i64 0))
            clear HR6 hb6
            go_wp2
            refine bodyPost_ret (v := okV none) (by simp [results, Tryd.results41, go_sem, r0, r1, r2, r3, okV, cdZ]) rfl ⟨by rw [HE.out], HF.out⟩
        · have hcx : wr.cell? ⟨b + 1, 1 + 1, none⟩ = some (.string ⟨x.toArray⟩) := by
            have := HR5.out.wd.cell (i := 1 + 1) (l := x) (by rw [HH.out]; exact HX.out)
            exact this
          cases hax : Lib.atoiAll x with
          | ok n =>
            have HA := Lib.hid (atoi_ok x n hax hxl wr)
            have HNN := Lib.hid (hNS.s1 HX.out hax)
            obtain ⟨k0, k1, k2, g0, g1, g2, g3⟩ := HK5.out
            clear hNS hax
            go_wp2_with fail
            refine HA.out.mono ?_
            rintro e w6 ⟨rfl, hb6⟩
            have hR6 := HR5.out.below hb6
            have hK6 := HK5.out.below hb6
            have HR7 := Lib.hid (hR6.wr HL.out (show b + 1 < N by omega) 1 (.int .i64 n))
            have HK7 := Lib.hid (hK6.s1 n)
            clear k0 k1 k2 g0 g1 g2 g3 hR6 hb6
            obtain ⟨k0, k1, k2, g0, g1, g2, g3⟩ := hK6
            go_wp2
            go_roundg (S + 1 - 2)
            case measure => omega
            case rel => exact ⟨2, _, _, _, by omega, by go_num, HR7.out, HK7.out, HNN.out⟩
          | _ =>
            have hno : ∀ v, Lib.atoiAll x ≠ .ok v := fun v hv => by rw [hax] at hv; cases hv
            have HE := Lib.hid (show readT l = none from read_word ho2 HW.out HX.out hno)
            have HA := Lib.hid (atoi_no x hno hxl wr HR5.out.la)
            clear hNS hax hno
            go_wp2_with fail
            refine HA.out.mono ?_
            rintro e w6 ⟨n, M, rfl, hb6⟩
            have HR6 := Lib.hid (HR5.out.below hb6)
            obtain ⟨r0, r1, r2, r3, h0, h1, h2, h3, h4⟩ := HR6.out.r
            have HF := Lib.hid (HR6.out.fin (.int .i64 0) (.int .i64 0) (.int .i64 0) (.int .i64 0))
            clear HR6 hb6
            go_wp2
            refine bodyPost_ret (v := okV none) (by simp [results, Tryd.results41, go_sem, r0, r1, r2, r3, okV, cdZ]) rfl ⟨by rw [HE.out], HF.out⟩
        · have hcx : wr.cell? ⟨b + 1, 1 + 2, none⟩ = some (.string ⟨x.toArray⟩) := by
            have := HR5.out.wd.cell (i := 2 + 1) (l := x) (by rw [HH.out]; exact HX.out)
            exact this
          cases hax : Lib.atoiAll x with
          | ok n =>
            have HA := Lib.hid (atoi_ok x n hax hxl wr)
            have HNN := Lib.hid (hNS.s2 HX.out hax)
            obtain ⟨k0, k1, k2, g0, g1, g2, g3⟩ := HK5.out
            clear hNS hax
            go_wp2_with fail
            refine HA.out.mono ?_
            rintro e w6 ⟨rfl, hb6⟩
            have hR6 := HR5.out.below hb6
            have hK6 := HK5.out.below hb6
            have HR7 := Lib.hid (hR6.wr HL.out (show b + 1 < N by omega) 2 (.int .i64 n))
            have HK7 := Lib.hid (hK6.s2 n)
            clear k0 k1 k2 g0 g1 g2 g3 hR6 hb6
            obtain ⟨k0, k1, k2, g0, g1, g2, g3⟩ := hK6
            go_wp2
            go_roundg (S + 1 - 3)
            case measure => omega
            case rel => exact ⟨3, _, _, _, by omega, by go_num, HR7.out, HK7.out, HNN.out⟩
          | _ =>
            have hno : ∀ v, Lib.atoiAll x ≠ .ok v := fun v hv => by rw [hax] at hv; cases hv
            have HE := Lib.hid (show readT l = none from read_word ho2 HW.out HX.out hno)
            have HA := Lib.hid (atoi_no x hno hxl wr HR5.out.la)
            clear hNS hax hno
            go_wp2_with fail
            refine HA.out.mono ?_
            rintro e w6 ⟨n, M, rfl, hb6⟩
            have HR6 := Lib.hid (HR5.out.below hb6)
            obtain ⟨r0, r1, r2, r3, h0, h1, h2, h3, h4⟩ := HR6.out.r
            have HF := Lib.hid (HR6.out.fin (.int .i64 0) (.int .i64 0) (.int .i64 0) (.int .i64 0))
            clear HR6 hb6
            go_wp2
            refine bodyPost_ret (v := okV none) (by simp [results, Tryd.results41, go_sem, r0, r1, r2, r3, okV, cdZ]) rfl ⟨by rw [HE.out], HF.out⟩
      · obtain rfl : k = S + 1 := by omega
        have HRT := Lib.hid (show readT l = if ctext ⟨o, n0, n1, n2⟩ = l then some ⟨o, n0, n1, n2⟩ else none from read_end ⟨ho1, ho2⟩ HW.out (by rw [HS.out]; exact hNS))
        have HR4 := Lib.hid (hR.below (newB wr (.cells #[.int .i64 (o : Int), .int .i64 n0, .int .i64 n1, .int .i64 n2] 42)))
        have hC4 : C4 (wr.alloc (.cells #[.int .i64 (o : Int), .int .i64 n0, .int .i64 n1, .int .i64 n2] 42)) wr.heap.size o n0 n1 n2 := c4_of (heap_alloc_new wr _)
        have HC4 := Lib.hid hC4
        obtain ⟨k0, k1, k2, g0, g1, g2, g3⟩ := hK
        have C2 := Lib.hid (fun w (h : LaidA w) => implCodeText ⟨o, n0, n1, n2⟩ w h)
        obtain ⟨T, hT⟩ : ∃ T, ctext ⟨o, n0, n1, n2⟩ = T := ⟨_, rfl⟩
        rw [hT] at C2 HRT
        clear hR hNS hC4 hT
        by_cases htl : T = l
        · have HE := Lib.hid (HRT.out.trans (if_pos htl))
          have e1 : (T == l) = true := by rw [beq_iff_eq]; exact htl
          have e2 : (T != l) = false := by rw [bne, e1]; rfl
          clear htl HRT
          go_wp2_with fail
          refine (C2.out _ HR4.out.la.toLaidA).mono ?_
          rintro e w6 ⟨rfl, hb6⟩
          have HR6 := Lib.hid (HR4.out.below hb6)
          obtain ⟨y0, y1, y2, y3, f0, f1, f2, f3, f4⟩ := HC4.out.below hb6
          obtain ⟨r0, r1, r2, r3, h0, h1, h2, h3, h4⟩ := HR6.out.r
          have HF := Lib.hid (HR6.out.fin (.int .i64 (o : Int)) (.int .i64 n0) (.int .i64 n1) (.int .i64 n2))
          clear HR6 HR4 HC4 hb6 k0 k1 k2 g0 g1 g2 g3
          go_wp2
          refine bodyPost_ret (v := okV (some ⟨o, n0, n1, n2⟩)) (by simp [results, Tryd.results41, go_sem, r0, r1, r2, r3, okV, cdZ]) rfl ⟨by rw [HE.out], HF.out⟩
        · have HE := Lib.hid (HRT.out.trans (if_neg htl))
          have e1 : (T == l) = false := by rw [beq_eq_false_iff_ne]; exact htl
          have e2 : (T != l) = true := by rw [bne, e1]; rfl
          clear htl HRT
          go_wp2_with fail
          refine (C2.out _ HR4.out.la.toLaidA).mono ?_
          rintro e w6 ⟨rfl, hb6⟩
          have HR6 := Lib.hid (HR4.out.below hb6)
          obtain ⟨r0, r1, r2, r3, h0, h1, h2, h3, h4⟩ := HR6.out.r
          have HF := Lib.hid (HR6.out.fin (.int .i64 0) (.int .i64 0) (.int .i64 0) (.int .i64 0))
          clear HR6 HR4 HC4 hb6 k0 k1 k2 g0 g1 g2 g3
          go_wp2
          refine bodyPost_ret (v := okV none) (by simp [results, Tryd.results41, go_sem, r0, r1, r2, r3, okV, cdZ]) rfl ⟨by rw [HE.out], HF.out⟩
end Go.Proofs.YtidmjeehcmpjnaaDoor
