/- YtidmjeehcmpjnaaDoorCodeM: instructions and lists of instructions in memory; the copies and comparisons that the laws make of them. Conditions: a list that is copied has at most 1048576 instructions. -/
import Derived.Test.YtidmjeehcmpjnaaDoorCodeP
import Derived.Deep.RegionWith
namespace Go.Proofs.YtidmjeehcmpjnaaDoor
open Go.ChangeShapes Go.WideShapes Go.ChangeAt Go.RowKit
set_option linter.unusedVariables false

def Cd.cells (c : Cd) : List Value := [.int .i64 c.op, .int .i64 c.a, .int .i64 c.b, .int .i64 c.c]
def Cd.wf (c : Cd) : Prop := (Lit.int .i64 c.op).wf = true ∧ (Lit.int .i64 c.a).wf = true ∧ (Lit.int .i64 c.b).wf = true ∧ (Lit.int .i64 c.c).wf = true
def cdCells (cs : List Cd) : List Value := cs.flatMap Cd.cells
theorem cdCells_length (cs : List Cd) : (cdCells cs).length = cs.length * 4 := by
  induction cs with
  | nil => rfl
  | cons c r ih => simp only [cdCells, List.flatMap_cons, List.length_append] at ih ⊢; rw [ih]; simp [Cd.cells]; omega
theorem cdCells_get (cs : List Cd) : ∀ (i : Nat) (c : Cd), cs[i]? = some c → (cdCells cs)[4 * i]? = some (.int .i64 c.op) ∧ (cdCells cs)[4 * i + 1]? = some (.int .i64 c.a) ∧ (cdCells cs)[4 * i + 2]? = some (.int .i64 c.b) ∧ (cdCells cs)[4 * i + 3]? = some (.int .i64 c.c) := by
  induction cs with
  | nil => intro i c h; simp at h
  | cons d r ih =>
    intro i c h
    cases i with
    | zero =>
      simp only [List.getElem?_cons_zero, Option.some.injEq] at h
      subst h
      exact ⟨rfl, rfl, rfl, rfl⟩
    | succ j =>
      have h2 := ih j c (by simpa using h)
      have e : cdCells (d :: r) = .int .i64 d.op :: .int .i64 d.a :: .int .i64 d.b :: .int .i64 d.c :: cdCells r := rfl
      rw [e, show 4 * (j + 1) = 4 * j + 1 + 1 + 1 + 1 by omega]
      simpa using h2
/-- The value v reads as a list of instructions. -/
def RdC (w : World) (v : Value) (cs : List Cd) : Prop := Rd w v 4 cs.length (cdCells cs) ∧ ∀ c ∈ cs, c.wf
theorem RdC.below {B : Nat} {w w' : World} {v : Value} {cs : List Cd} (h : RdC w v cs) (hb : Below B w w') (hB : w.heap.size ≤ B) : RdC w' v cs := ⟨h.1.below hb hB, h.2⟩
theorem RdC.shape {w : World} {v : Value} {cs : List Cd} (h : RdC w v cs) : ∃ a c, v = .slice a cs.length c ∧ cs.length ≤ c ∧ c ≤ 9223372036854775807 := by
  obtain ⟨⟨_, a, c, hv, h1, h2, _⟩, _⟩ := h
  exact ⟨a, c, hv, h1, by unfold maxLen at h2; omega⟩
/-- Opened: its shape, and the four cells of each instruction. -/
theorem RdC.form {w : World} {v : Value} {cs : List Cd} (h : RdC w v cs) :
    ∃ a n b off, v = .slice a cs.length n ∧ cs.length ≤ n ∧ n ≤ 9223372036854775807 ∧ (cs ≠ [] → b < w.heap.size) ∧ ∀ i c, cs[i]? = some c → a = some ⟨b, off, none⟩ ∧
      w.cell? ⟨b, off + i * 4, none⟩ = some (.int .i64 c.op) ∧ w.cell? ⟨b, off + i * 4 + 1, none⟩ = some (.int .i64 c.a) ∧ w.cell? ⟨b, off + i * 4 + 2, none⟩ = some (.int .i64 c.b) ∧ w.cell? ⟨b, off + i * 4 + 3, none⟩ = some (.int .i64 c.c) := by
  obtain ⟨⟨h1, a, n, hv, h3, h4, h5⟩, _⟩ := h
  have h4' : n ≤ 9223372036854775807 := by unfold maxLen at h4; omega
  by_cases hx : cs = []
  · exact ⟨a, n, 0, 0, hv, h3, h4', fun h => absurd hx h, by simp [hx]⟩
  · obtain ⟨b, off, ha, hb, hc⟩ := h5 (List.length_pos_iff.2 hx)
    refine ⟨a, n, b, off, hv, h3, h4', fun _ => hb, fun i c hi => ⟨ha, ?_⟩⟩
    obtain ⟨g0, g1, g2, g3⟩ := cdCells_get cs i c hi
    rw [show i * 4 = 4 * i by omega]
    exact ⟨hc _ _ g0, by rw [Nat.add_assoc]; exact hc _ _ g1, by rw [Nat.add_assoc]; exact hc _ _ g2, by rw [Nat.add_assoc]; exact hc _ _ g3⟩
theorem rdC_of_owns {w : World} {base e : Nat} {v : Value} {cs : List Cd} (h : w.ownsRow base e 4 v cs.length (cdCells cs)) (hw : ∀ c ∈ cs, c.wf) : RdC w v cs := ⟨rd_of_owns h, hw⟩

/-- An instruction as a value. -/
def Cd.val (c : Cd) : Value := .agg #[.int .i64 c.op, .int .i64 c.a, .int .i64 c.b, .int .i64 c.c]
/-- A new list of instructions is returned; nothing that was there has changed. -/
def NewC (w : World) (cs : List Cd) (e : Ending) (w' : World) : Prop :=
  ∃ v, e = .returned v ∧ w'.ownsRow w.heap.size 42 4 v cs.length (cdCells cs) ∧ Below w.heap.size w w'
theorem infoCode : (Tryd.prog.info? 42).map (fun i => (i.zero, i.size, i.bytes)) = some (some (.agg #[.int .i64 0, .int .i64 0, .int .i64 0, .int .i64 0]), 4, 32) := by kernel_rfl
theorem oneC (cs : List Cd) : ∀ u ∈ cdCells cs, u.oneCell' = true := by
  intro u hu
  obtain ⟨c, _, hc⟩ := List.mem_flatMap.1 hu
  simp only [Cd.cells, List.mem_cons, List.not_mem_nil, or_false] at hc
  rcases hc with rfl | rfl | rfl | rfl <;> rfl

theorem toList_made4 (z : Value) (n : Nat) : (madeCells #[z, z, z, z] n).toList = List.replicate n z := by
  apply List.ext_getElem?
  intro j
  by_cases hj : j < n
  · have h4 : j % 4 < 4 := Nat.mod_lt _ (by decide)
    have : j % 4 = 0 ∨ j % 4 = 1 ∨ j % 4 = 2 ∨ j % 4 = 3 := by omega
    simp [madeCells, hj]
    rcases this with h | h | h | h <;> (rw [h]; rfl)
  · simp [madeCells, hj]
/-- Four cells are stored into a row. -/
theorem stored4 {w : World} {base e n cap g : Nat} {cs : List Value} (h : w.ownsRow base e 4 (.slice (some ⟨g, 0, none⟩) n cap) n cs) (j : Nat) (a b c d : Value) :
    ((((w.setCell ⟨g, j, none⟩ a).setCell ⟨g, j + 1, none⟩ b).setCell ⟨g, j + 2, none⟩ c).setCell ⟨g, j + 3, none⟩ d).ownsRow base e 4 (.slice (some ⟨g, 0, none⟩) n cap) n ((((cs.set j a).set (j + 1) b).set (j + 2) c).set (j + 3) d) ∧
      w.grownBy ((((w.setCell ⟨g, j, none⟩ a).setCell ⟨g, j + 1, none⟩ b).setCell ⟨g, j + 2, none⟩ c).setCell ⟨g, j + 3, none⟩ d) (some g) := by
  have s1 := h.stored j a
  have s2 := s1.1.stored (j + 1) b
  have s3 := s2.1.stored (j + 2) c
  have s4 := s3.1.stored (j + 3) d
  exact ⟨s4.1, ((s1.2.trans s2.2).trans s3.2).trans s4.2⟩
theorem fill_get' (xs : List Value) (z : Value) {k j : Nat} (hj : k ≤ j) (h : j < xs.length) : (fillL xs z k)[j]? = some z := by
  unfold fillL
  rw [List.getElem?_append_right (by simp; omega), List.getElem?_replicate, if_pos (by simp; omega)]
theorem fill4 (cs : List Cd) {k : Nat} {c : Cd} (h : cs[k]? = some c) (z : Value) :
    ((((fillL (cdCells cs) z (k * 4)).set (k * 4) (.int .i64 c.op)).set (k * 4 + 1) (.int .i64 c.a)).set (k * 4 + 2) (.int .i64 c.b)).set (k * 4 + 3) (.int .i64 c.c) = fillL (cdCells cs) z ((k + 1) * 4) := by
  obtain ⟨g0, g1, g2, g3⟩ := cdCells_get cs k c h
  rw [show 4 * k = k * 4 by omega] at g0 g1 g2 g3
  rw [fill_set _ _ g0, fill_set _ _ g1, fill_set _ _ g2, fill_set _ _ g3, show k * 4 + 3 + 1 = (k + 1) * 4 by omega]
set_option maxHeartbeats 1000000 in
theorem toCode_any (c : Cd) (w : World) : Calls Tryd.prog 31 #[.agg #[.int .i64 c.op, .int .i64 c.a, .int .i64 c.b, .int .i64 c.c]] w fun e w' => e = .returned (.agg #[.int .i64 c.op, .int .i64 c.a, .int .i64 c.b, .int .i64 c.c]) ∧ Below w.heap.size w w' := by
  go_enter Tryd.func31, Tryd.ntmps31
  go_wp2
  refine bodyPost_ret (v := .agg #[.int .i64 c.op, .int .i64 c.a, .int .i64 c.b, .int .i64 c.c]) (by simp [results, Tryd.results31, go_sem]) rfl ⟨rfl, (((Below.refl _ _).alloc (Nat.le_refl _) _).alloc (by simp) _).alloc (by simp; omega) _⟩
theorem szCodeS_any (v : Value) (cs : List Cd) (l : Int) (w : World) (h : RdC w v cs) (hl : 0 ≤ l ∧ l ≤ 1048576) : Calls Tryd.prog 36 #[v, .int .i64 l] w fun e w' => e = .returned (.int .i64 (if l < cs.length then -1 else l - cs.length)) ∧ w = w' := by
  obtain ⟨a, n, rfl, h1, h2⟩ := h.shape
  by_cases hn : l < cs.length
  · rw [if_pos hn]
    go_enter Tryd.func36, Tryd.ntmps36
    go_wp2
    go_ret
    exact ⟨rfl, rfl⟩
  · rw [if_neg hn]
    go_enter Tryd.func36, Tryd.ntmps36
    go_wp2
    go_ret
    exact ⟨rfl, rfl⟩
set_option maxHeartbeats 2000000 in
theorem toCodeS_any (v : Value) (cs : List Cd) (w : World) (h : RdC w v cs) (hn : cs.length ≤ 1048576) : Calls Tryd.prog 37 #[v] w (NewC w cs) := by
  obtain ⟨a, c, b, off, rfl, hlc, hm, hb, hcell⟩ := h.form
  obtain ⟨i0, hi, hz0, hz1, hz2⟩ := info_parts infoCode
  have hz3 : i0.bytes * cs.length ≤ 281474976710656 := by rw [hz2]; omega
  have hz4 : cs.length ≤ maxLen := by unfold maxLen; omega
  have HZ := Lib.hid hz2
  clear hz2
  go_enter Tryd.func37, Tryd.ntmps37
  go_wp2_with (at_make; refine wpList_make_full _ rfl _ _ 24 rfl w.heap.size 42 i0 (.agg #[.int .i64 0, .int .i64 0, .int .i64 0, .int .i64 0]) 4 Tryd.underlying24 hi hz0 hz1 _ _ _ _ cs.length rfl rfl rfl rfl hz3 hz4 (Nat.le_refl _) ?_)
  clear hz3 hz4 HZ hz0 hz1 hi
  intro w1 hown1 hg1
  have hown2 : w1.ownsRow w.heap.size 42 4 (.slice (some ⟨w.heap.size, 0, none⟩) cs.length cs.length) cs.length (fillL (cdCells cs) (.int .i64 0) (0 * 4)) := by
    rw [Nat.zero_mul, fill_zero, cdCells_length, ← toList_made4]
    exact hown1
  have hb1 : Below w.heap.size w w1 := (Below.refl _ _).grown hg1 (Nat.le_refl _) (by intro k hk; cases hk)
  clear hown1 hg1
  go_wp2_with fail
  go_loopg [4] cs.length (fun g i wr => ∃ k : Nat, k + g = cs.length ∧ i = .int .i64 k ∧ wr.ownsRow w.heap.size 42 4 (.slice (some ⟨w.heap.size, 0, none⟩) cs.length cs.length) cs.length (fillL (cdCells cs) (.int .i64 0) (k * 4)) ∧ Below w.heap.size w wr)
  case atStart => exact ⟨0, by omega, rfl, hown2, hb1⟩
  case round =>
    clear hown2 hb1
    obtain ⟨k, hk, rfl, hown, hbl⟩ := hrel
    by_cases hlt : k < cs.length
    · obtain ⟨d, hx⟩ := get_lt hlt
      obtain ⟨rfl, c0, c1, c2, c3⟩ := hcell k d hx
      have hne : cs ≠ [] := by rintro rfl; simp at hlt
      have hq := fun o => hbl.cell (p := ⟨b, o, none⟩) (hb hne)
      have e0 := (hq _).trans c0
      have e1 := (hq _).trans c1
      have e2 := (hq _).trans c2
      have e3 := (hq _).trans c3
      have hf4 := fill4 cs hx (.int .i64 0)
      have HF := Lib.hid hf4
      have hwl := hown.lt w.heap.size rfl
      clear hcell hx hq c0 c1 c2 c3 hf4
      go_wp2_with fail
      refine (toCode_any d _).mono ?_
      rintro e w2 ⟨rfl, hb2⟩
      have hown3 := owns_below hown hb2 (Nat.le_refl _)
      have hbl3 := hbl.trans (hb2.mono hbl.size)
      have hst := stored4 hown3 (k * 4) (.int .i64 d.op) (.int .i64 d.a) (.int .i64 d.b) (.int .i64 d.c)
      rw [HF.out] at hst
      have HST := Lib.hid hst.1
      have hB4 := Below.wr hbl3 (Wr.of_grown hst.2) hbl3.size (fun k hk => by cases hk; exact Nat.le_refl _)
      have HB4 := Lib.hid hB4
      have f0 := hown3.frozenAt (k * 4)
      have f1 := hown3.frozenAt (k * 4 + 1)
      have f2 := hown3.frozenAt (k * 4 + 2)
      have f3 := hown3.frozenAt (k * 4 + 3)
      have fg := fun j (hj : j < cs.length * 4) (hk : k * 4 ≤ j) => (hown3.cellAt j hj).trans (fill_get' (cdCells cs) (.int .i64 0) hk (by rw [cdCells_length]; exact hj))
      have g0 := fg (k * 4) (by omega) (by omega)
      have g1 := fg (k * 4 + 1) (by omega) (by omega)
      have g2 := fg (k * 4 + 2) (by omega) (by omega)
      have g3 := fg (k * 4 + 3) (by omega) (by omega)
      clear hst hown hown3 hbl hbl3 hb2 hB4 e0 e1 e2 e3 fg
      go_wp2
      go_roundg (cs.length - (k + 1))
      case measure => omega
      case rel => exact ⟨k + 1, by omega, by go_num, HST.out, HB4.out⟩
    · have hkn : cs.length ≤ k := by omega
      rw [fill_all _ _ (by rw [cdCells_length]; omega)] at hown
      clear hcell
      go_wp2
      go_ret
      exact ⟨_, rfl, hown, hbl⟩
def eqCd (c d : Cd) : Bool := (c.op == d.op) && (c.a == d.a) && (c.b == d.b) && (c.c == d.c)
set_option maxHeartbeats 1000000 in
theorem eqCode_same (c : Cd) (w : World) : Calls Tryd.prog 42 #[.agg #[.int .i64 c.op, .int .i64 c.a, .int .i64 c.b, .int .i64 c.c], .agg #[.int .i64 c.op, .int .i64 c.a, .int .i64 c.b, .int .i64 c.c]] w fun e w' => e = .returned (.bool true) ∧ Below w.heap.size w w' := by
  have hb := ((Below.refl w.heap.size w).alloc (Nat.le_refl _) (.cells #[.int .i64 c.op, .int .i64 c.a, .int .i64 c.b, .int .i64 c.c] 42)).alloc (by simp) (.cells #[.int .i64 c.op, .int .i64 c.a, .int .i64 c.b, .int .i64 c.c] 42)
  go_enter Tryd.func42, Tryd.ntmps42
  go_wp2
  go_ret
  exact ⟨rfl, hb⟩
set_option maxHeartbeats 2000000 in
theorem eqCodeS_same (v u : Value) (cs : List Cd) (w : World) (h : RdC w v cs) (h' : RdC w u cs) :
    Calls Tryd.prog 17 #[v, u] w fun e w' => e = .returned (.bool true) ∧ Below w.heap.size w w' := by
  obtain ⟨a, n, b, off, rfl, hlc, hm, hb, hcell⟩ := h.form
  obtain ⟨a', n', b', off', rfl, hlc', hm', hb', hcell'⟩ := h'.form
  go_enter Tryd.func17, Tryd.ntmps17
  go_wp2_with fail
  go_loopg [5] cs.length (fun g i wr => ∃ k : Nat, k + g = cs.length ∧ i = .int .i64 k ∧ Below w.heap.size w wr)
  case atStart => exact ⟨0, by omega, rfl, Below.refl _ _⟩
  case round =>
    obtain ⟨k, hk, rfl, hbl⟩ := hrel
    by_cases hlt : k < cs.length
    · obtain ⟨c, hx⟩ := get_lt hlt
      obtain ⟨rfl, c0, c1, c2, c3⟩ := hcell k c hx
      obtain ⟨rfl, d0, d1, d2, d3⟩ := hcell' k c hx
      have hne : cs ≠ [] := by rintro rfl; simp at hlt
      have hq := fun o => hbl.cell (p := ⟨b, o, none⟩) (hb hne)
      have hq' := fun o => hbl.cell (p := ⟨b', o, none⟩) (hb' hne)
      have e0 := (hq _).trans c0
      have e1 := (hq _).trans c1
      have e2 := (hq _).trans c2
      have e3 := (hq _).trans c3
      have f0 := (hq' _).trans d0
      have f1 := (hq' _).trans d1
      have f2 := (hq' _).trans d2
      have f3 := (hq' _).trans d3
      clear hcell hcell' hx hq hq' c0 c1 c2 c3 d0 d1 d2 d3
      go_wp2_with fail
      go_region_with (go_at_call 42; refine (eqCode_same c _).mono ?_; rintro e w5 ⟨rfl, hb5⟩)
      all_goals
        go_wp2
        go_roundg (cs.length - (k + 1))
        case measure => omega
        case rel => exact ⟨k + 1, by omega, by go_num, by first | exact (hbl.drew).trans (hb5.mono hbl.size) | exact ((hbl.drew).trans (hb5.mono hbl.size)).drew | exact hbl.trans (hb5.mono hbl.size)⟩
    · clear hcell hcell'
      go_wp2
      go_ret
      exact ⟨rfl, hbl⟩
end Go.Proofs.YtidmjeehcmpjnaaDoor
