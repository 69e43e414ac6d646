/- YtmjkjdibolcblaaFCodeReads: If a register that an instruction does not read has another value, a step of a lane gives all other registers and the memory the same values. No conditions. -/
import Derived.Test.YtmjkjdibolcblaaDrawB
import Derived.Test.YtmjkjdibolcblaaOpensL
import Derived.Test.YtmjkjdibolcblaaAlive
import Derived.Deep.CutBlock
import Derived.BigRegion
import Derived.Deep.Light
namespace Go.Proofs.Ytmjkjdibolcblaa
open Go.ChangeShapes Go.WideShapes Go.ChangeAt Go.RowKit
set_option linter.unusedVariables false
theorem bit_one : ∀ a r : Nat, a < 4 → r < 4 → (((2 : Int) ^ a) / 2 ^ r % 2 == 1) = false → a ≠ r := by
  intro a r ha hr
  rcases (show a = 0 ∨ a = 1 ∨ a = 2 ∨ a = 3 by omega) with rfl | rfl | rfl | rfl <;> rcases (show r = 0 ∨ r = 1 ∨ r = 2 ∨ r = 3 by omega) with rfl | rfl | rfl | rfl <;> decide +kernel
theorem bit_two : ∀ a b r : Fin 4, ((orI ((2 : Int) ^ a.val) (2 ^ b.val)) / 2 ^ r.val % 2 == 1) = false → a ≠ r ∧ b ≠ r := by decide +kernel
theorem bit_three : ∀ a b c r : Fin 4, ((orI (orI ((2 : Int) ^ a.val) (2 ^ b.val)) (2 ^ c.val)) / 2 ^ r.val % 2 == 1) = false → a ≠ r ∧ b ≠ r ∧ c ≠ r := by decide +kernel
theorem bit2 {a b r : Nat} (ha : a < 4) (hb : b < 4) (hr : r < 4) (h : ((orI ((2 : Int) ^ a) (2 ^ b)) / 2 ^ r % 2 == 1) = false) : a ≠ r ∧ b ≠ r := by
  have q := bit_two ⟨a, ha⟩ ⟨b, hb⟩ ⟨r, hr⟩ h
  exact ⟨fun e => q.1 (Fin.ext e), fun e => q.2 (Fin.ext e)⟩
theorem bit3 {a b c r : Nat} (ha : a < 4) (hb : b < 4) (hc : c < 4) (hr : r < 4) (h : ((orI (orI ((2 : Int) ^ a) (2 ^ b)) (2 ^ c)) / 2 ^ r % 2 == 1) = false) : a ≠ r ∧ b ≠ r ∧ c ≠ r := by
  have q := bit_three ⟨a, ha⟩ ⟨b, hb⟩ ⟨c, hc⟩ ⟨r, hr⟩ h
  exact ⟨fun e => q.1 (Fin.ext e), fun e => q.2.1 (Fin.ext e), fun e => q.2.2 (Fin.ext e)⟩
theorem rg_set_ne {rs : List Int} {r : Nat} {i v : Int} (h : i.toNat ≠ r) : rg (rs.set r v) i = rg rs i := by
  unfold rg
  rw [List.getElem?_set_ne (fun e => h e.symm)]
theorem set_set_other {rs : List Int} {r a k : Nat} {v y : Int} (h : k ≠ r) : ((rs.set r v).set a y)[k]? = (rs.set a y)[k]? := by
  by_cases e : a = k
  · subst e
    simp [List.getElem?_set]
  · rw [List.getElem?_set_ne e, List.getElem?_set_ne e, List.getElem?_set_ne (fun x => h x.symm)]
theorem or2_bd : ∀ a b : Fin 4, 0 ≤ orI ((2 : Int) ^ a.val) (2 ^ b.val) ∧ orI ((2 : Int) ^ a.val) (2 ^ b.val) ≤ 15 := by decide +kernel
theorem or3_bd : ∀ a b c : Fin 4, 0 ≤ orI (orI ((2 : Int) ^ a.val) (2 ^ b.val)) (2 ^ c.val) ∧ orI (orI ((2 : Int) ^ a.val) (2 ^ b.val)) (2 ^ c.val) ≤ 15 := by decide +kernel
theorem one_bd {x : Int} (h : 0 ≤ x ∧ x ≤ 3) : 0 ≤ (2 : Int) ^ x.toNat ∧ (2 : Int) ^ x.toNat ≤ 15 := by have := shl_bd h; omega
theorem cReads_bd (c : Cd) : 0 ≤ cReads c ∧ cReads c ≤ 15 := by
  cases hv : cValid c with
  | false => simp [cReads, hv]
  | true =>
    obtain ⟨_, _, ha0, ha3, hb0, _, hc0, hc3, ho, _⟩ := cValid_bd hv
    unfold cReads
    rw [hv, if_pos rfl]
    split
    · exact one_bd ⟨hb0, ho (by unfold regsN; rw [if_neg (by omega), if_pos (by omega)]; decide)⟩
    split
    · have hb3 := ho (by unfold regsN; rw [if_neg (by omega), if_pos (by omega)]; decide)
      exact or2_bd ⟨c.a.toNat, by omega⟩ ⟨c.b.toNat, by omega⟩
    split
    · have hb3 := ho (by unfold regsN; rw [if_neg (by omega), if_neg (by omega), if_pos (by omega)]; decide)
      exact or2_bd ⟨c.b.toNat, by omega⟩ ⟨c.c.toNat, by omega⟩
    split
    · have hb3 := ho (by unfold regsN; rw [if_neg (by omega), if_neg (by omega), if_pos (by omega)]; decide)
      exact or3_bd ⟨c.a.toNat, by omega⟩ ⟨c.b.toNat, by omega⟩ ⟨c.c.toNat, by omega⟩
    split
    · exact one_bd ⟨ha0, ha3⟩
    · decide
/-- A plain instruction does not look at a register that it does not read. -/
theorem plain_reads {c : Cd} (h : plainC c) {r : Nat} (hr : r < 4) (hb : (cReads c / 2 ^ r % 2 == 1) = false) (rs ms : List Int) (id v : Int) :
    (simple (rs.set r v) ms c id).2 = (simple rs ms c id).2 ∧ ∀ k : Nat, k ≠ r → (simple (rs.set r v) ms c id).1[k]? = (simple rs ms c id).1[k]? := by
  obtain ⟨hv, ho⟩ := h
  obtain ⟨h1, _, ha0, ha3, hb0, _, hc0, hc3, hbb, _⟩ := cValid_bd hv
  unfold cReads at hb
  rw [hv, if_pos rfl] at hb
  unfold simple
  rcases (show c.op = 1 ∨ c.op = 2 ∨ c.op = 3 ∨ c.op = 4 ∨ c.op = 5 ∨ c.op = 6 ∨ c.op = 7 ∨ c.op = 8 ∨ c.op = 9 ∨ c.op = 10 by omega) with e | e | e | e | e | e | e | e | e | e
  · rw [if_pos e, if_pos e]
    exact ⟨rfl, fun k hk => set_set_other hk⟩
  · simp only [e]
    exact ⟨rfl, fun k hk => set_set_other hk⟩
  · have hb3 := hbb (by rw [e]; decide)
    simp only [e] at hb
    have q := bit2 (a := c.a.toNat) (b := c.b.toNat) (by omega) (by omega) hr hb
    simp only [e, rg_set_ne q.1, rg_set_ne q.2]
    exact ⟨rfl, fun k hk => set_set_other hk⟩
  · have hb3 := hbb (by rw [e]; decide)
    simp only [e] at hb
    have q := bit2 (a := c.a.toNat) (b := c.b.toNat) (by omega) (by omega) hr hb
    simp only [e, rg_set_ne q.1, rg_set_ne q.2]
    exact ⟨rfl, fun k hk => set_set_other hk⟩
  · have hb3 := hbb (by rw [e]; decide)
    simp only [e] at hb
    have q := bit_one c.b.toNat r (by omega) hr hb
    simp only [e, rg_set_ne q]
    exact ⟨rfl, fun k hk => set_set_other hk⟩
  · have hb3 := hbb (by rw [e]; decide)
    simp only [e] at hb
    have q := bit2 (a := c.b.toNat) (b := c.c.toNat) (by omega) (by omega) hr hb
    simp only [e, rg_set_ne q.1, rg_set_ne q.2]
    exact ⟨rfl, fun k hk => set_set_other hk⟩
  · have hb3 := hbb (by rw [e]; decide)
    simp only [e] at hb
    have q := bit3 (a := c.a.toNat) (b := c.b.toNat) (c := c.c.toNat) (by omega) (by omega) (by omega) hr hb
    simp only [e, rg_set_ne q.2.1, rg_set_ne q.2.2]
    refine ⟨rfl, fun k hk => ?_⟩
    show (if rg rs c.c = 0 then rs.set r v else (rs.set r v).set c.a.toNat (rg rs c.b))[k]? = (if rg rs c.c = 0 then rs else rs.set c.a.toNat (rg rs c.b))[k]?
    split
    · exact set_other hk _
    · exact set_set_other hk
  · have hb3 := hbb (by rw [e]; decide)
    simp only [e] at hb
    have q := bit_one c.b.toNat r (by omega) hr hb
    simp only [e, rg_set_ne q]
    exact ⟨rfl, fun k hk => set_set_other hk⟩
  · have hb3 := hbb (by rw [e]; decide)
    simp only [e] at hb
    have q := bit2 (a := c.a.toNat) (b := c.b.toNat) (by omega) (by omega) hr hb
    simp only [e, rg_set_ne q.1, rg_set_ne q.2]
    exact ⟨rfl, fun k hk => set_other hk _⟩
  · simp only [e]
    exact ⟨rfl, fun k hk => set_other hk _⟩
/-- A new lane in box X, its registers in row g. -/
structure La (B : Nat) (w : World) (X g cap : Nat) (tv : Value) (rs : List Int) : Prop where
  k : Box4 w X (.slice (some ⟨g, 0, none⟩) 4 cap) (.int .i64 0) tv (.bool false)
  r : OI B w g cap rs
  t : OwI B w tv []
  ne : tv.ownBlock ≠ some g
  lt : g < X
theorem La.below {B : Nat} {w w' : World} {X g cap : Nat} {tv : Value} {rs : List Int} (h : La B w X g cap tv rs) (hb : Below w.heap.size w w') : La B w' X g cap tv rs := ⟨h.k.below hb (Nat.le_refl _), h.r.below hb, h.t.below hb, h.ne, h.lt⟩
theorem La.wr {B : Nat} {w w' : World} {p : Nat → Prop} {X g cap : Nat} {tv : Value} {rs : List Int} (h : La B w X g cap tv rs) (hw : Wr w w' p) (h1 : ¬ p X) (h2 : ¬ p g) (h3 : ∀ k, tv.ownBlock = some k → ¬ p k) : La B w' X g cap tv rs := ⟨h.k.wr hw h1, h.r.wr hw h2, hw.owns h.t h3, h.ne, h.lt⟩
theorem La.set {B : Nat} {w : World} {X g cap : Nat} {tv : Value} {rs : List Int} (h : La B w X g cap tv rs) (i : Nat) (x : Int) : La B (w.setCell ⟨g, i, none⟩ (.int .i64 x)) X g cap tv (rs.set i x) := by
  have hw := (h.r.set i x).2
  exact ⟨h.k.wr hw (by have := h.lt; omega), (h.r.set i x).1, hw.owns h.t (fun k hk e => h.ne (by rw [hk, e])), h.ne, h.lt⟩
/-- Two new lanes, made one after the other. -/
structure Tw (B m : Nat) (w : World) (X g cap : Nat) (tv : Value) (Y f dap : Nat) (sv : Value) (rs qs : List Int) : Prop where
  a : La B w X g cap tv rs
  b : La m w Y f dap sv qs
  lo : X < m ∧ B ≤ m
  tl : ∀ k, tv.ownBlock = some k → k < m
theorem Tw.below {B m : Nat} {w w' : World} {X g cap Y f dap : Nat} {tv sv : Value} {rs qs : List Int} (h : Tw B m w X g cap tv Y f dap sv rs qs) (hb : Below w.heap.size w w') : Tw B m w' X g cap tv Y f dap sv rs qs := ⟨h.a.below hb, h.b.below hb, h.lo, h.tl⟩
theorem Tw.setA {B m : Nat} {w : World} {X g cap Y f dap : Nat} {tv sv : Value} {rs qs : List Int} (h : Tw B m w X g cap tv Y f dap sv rs qs) (i : Nat) (x : Int) : Tw B m (w.setCell ⟨g, i, none⟩ (.int .i64 x)) X g cap tv Y f dap sv (rs.set i x) qs := by
  have h1 := h.a.lt
  have h2 := h.lo
  have h3 := h.b.r.ge
  have h4 := h.b.lt
  refine ⟨h.a.set i x, h.b.wr (h.a.r.set i x).2 (by omega) (by omega) (fun k hk => ?_), h.lo, h.tl⟩
  have := own_ge h.b.t k hk
  omega
theorem Tw.setB {B m : Nat} {w : World} {X g cap Y f dap : Nat} {tv sv : Value} {rs qs : List Int} (h : Tw B m w X g cap tv Y f dap sv rs qs) (i : Nat) (x : Int) : Tw B m (w.setCell ⟨f, i, none⟩ (.int .i64 x)) X g cap tv Y f dap sv rs (qs.set i x) := by
  have h1 := h.a.lt
  have h2 := h.lo
  have h3 := h.b.r.ge
  exact ⟨h.a.wr (h.b.r.set i x).2 (by omega) (by omega) (fun k hk => by have := h.tl k hk; omega), h.b.set i x, h.lo, h.tl⟩
theorem Tw.bel {B m : Nat} {w w' : World} {X g cap Y f dap : Nat} {tv sv : Value} {rs qs : List Int} (h : Tw B m w' X g cap tv Y f dap sv rs qs) (hb : Below B w w') (hB : B ≤ w'.heap.size) (i : Nat) (x : Int) :
    Below B w (w'.setCell ⟨g, i, none⟩ (.int .i64 x)) ∧ Below B w (w'.setCell ⟨f, i, none⟩ (.int .i64 x)) := by
  have h1 := h.a.r.ge
  have h2 := h.b.r.ge
  have h3 := h.lo
  exact ⟨Below.wr hb (h.a.r.set i x).2 hB (fun k hk => by omega), Below.wr hb (h.b.r.set i x).2 hB (fun k hk => by omega)⟩
set_option maxHeartbeats 1000000 in
theorem sameInts_same (v u : Value) (xs : List Int) (w : World) (h : RdI .i64 w v xs) (h' : RdI .i64 w u xs) :
    Calls Try.prog 19 #[v, u] w fun e w' => e = .returned (.bool true) ∧ Below w.heap.size w w' := by
  obtain ⟨a, c, b, off, rfl, hlc, hm, hb, hcell⟩ := h.form
  obtain ⟨a', c', b', off', rfl, hlc', hm', hb', hcell'⟩ := h'.form
  go_enter Try.func19, Try.ntmps19
  go_wp2_with fail
  go_loopg [5] xs.length (fun g i wr => ∃ k : Nat, k + g = xs.length ∧ i = .int .i64 k ∧ Below w.heap.size w wr)
  case atStart => exact ⟨0, by omega, rfl, Below.refl _ _⟩
  case round =>
    obtain ⟨k, hk, rfl, hbl⟩ := hrel
    by_cases hlt : k < xs.length
    · obtain ⟨x, hx⟩ := get_lt hlt
      obtain ⟨rfl, hc⟩ := hcell k x hx
      obtain ⟨rfl, hc2⟩ := hcell' k x hx
      have hne : xs ≠ [] := by rintro rfl; simp at hlt
      have hc3 : wr.cell? ⟨b, off + k, none⟩ = some (.int .i64 x) := (hbl.cell (hb hne)).trans hc
      have hc4 : wr.cell? ⟨b', off' + k, none⟩ = some (.int .i64 x) := (hbl.cell (hb' hne)).trans hc2
      clear hcell hcell' hc hc2 hx
      go_wp2
      go_quiet (fail)
      go_wp2
      go_roundg (xs.length - (k + 1))
      case measure => omega
      case rel => exact ⟨k + 1, by omega, by go_num, by first | exact hbl | exact hbl.drew | exact ⟨hbl.os, hbl.tape, hbl.output, hbl.size, hbl.block⟩⟩
    · clear hcell hcell'
      go_wp2
      go_ret
      exact ⟨rfl, hbl⟩
set_option maxRecDepth 100000 in
set_option maxHeartbeats 16000000 in
theorem fnCodeReads_walk (v : Value) (bs : List Int) (w0 : World) (h : RdI .u8 w0 v bs) : Calls Try.prog 4 #[v] w0 fun e w' => e = .returned (.bool true) ∧ Below w0.heap.size w0 w' := by
  obtain ⟨ad, cc, hv, hlc, hcm⟩ := h.shape
  subst hv
  have hB0 := Below.refl w0.heap.size w0
  by_cases hn : bs.length ≤ 1048576
  rotate_left
  · go_enter Try.func4, Try.ntmps4
    go_wp2
    go_ret
    exact ⟨rfl, hB0⟩
  go_enter Try.func4, Try.ntmps4
  go_wp2_with fail
  refine (DrawCodeReads_any _ bs _ h).mono ?_
  rintro e w1 ⟨c, rfl, hci, hB1⟩
  have hz1 := hB1.size
  have hs1 := Box4.new w1 (.int .i64 c.op) (.int .i64 c.a) (.int .i64 c.b) (.int .i64 c.c) 24
  have hA1 := below_alloc w1 (.cells #[.int .i64 c.op, .int .i64 c.a, .int .i64 c.b, .int .i64 c.c] 24)
  have hB1a := hB1.trans (hA1.mono hz1)
  obtain ⟨N, hN⟩ : ∃ N, cReads c = N := ⟨_, rfl⟩
  have hNb := cReads_bd c
  rw [hN] at hNb
  obtain ⟨hN0, hN15⟩ := hNb
  have HN := Lib.hid hN
  have HCI := Lib.hid hci
  clear hN hci hA1 hB1 h
  go_wp2_with fail
  refine (implCodeReads c _).mono ?_
  rintro e w2 ⟨rfl, hb2⟩
  rw [HN.out]
  have hB2 := hB1a.trans (hb2.mono hB1a.size)
  have hs2 := hs1.below hb2 (Nat.le_refl _)
  clear hb2 hs1 hB1a
  obtain ⟨x0, x1, x2, x3, x4⟩ := _root_.id hs2
  go_wp2_with fail
  refine (specCodeReads c _).mono ?_
  rintro e w3 ⟨rfl, hb3⟩
  rw [HN.out]
  have hB3 := hB2.trans (hb3.mono hB2.size)
  have hs3 := hs2.below hb3 (Nat.le_refl _)
  clear hb3 hs2 hB2 x0 x1 x2 x3 x4
  obtain ⟨x0, x1, x2, x3, x4⟩ := _root_.id hs3
  obtain ⟨O, hO⟩ : ∃ O, isOp c = O := ⟨_, rfl⟩
  have HO := Lib.hid hO
  clear hO
  go_wp2_with fail
  refine (opens_any c _).mono ?_
  rintro e w4 ⟨rfl, hb4⟩
  rw [HO.out]
  have hB4 := hB3.trans (hb4.mono hB3.size)
  have hs4 := hs3.below hb4 (Nat.le_refl _)
  clear hb4 hs3 hB3 x0 x1 x2 x3 x4
  have HS4 := Lib.hid hs4
  obtain ⟨x0, x1, x2, x3, x4⟩ := _root_.id hs4
  clear hs4
  cases O
  rotate_left
  · go_wp2_with (go_at_call 13; refine (alive_any _).mono ?_; rintro e w' ⟨rfl, rfl⟩)
    go_ret
    exact ⟨rfl, hB4⟩
  by_cases h12 : c.op = 12
  · rw [h12] at x0
    clear h12
    go_wp2_with (go_at_call 13; refine (alive_any _).mono ?_; rintro e w' ⟨rfl, rfl⟩)
    go_ret
    exact ⟨rfl, hB4⟩
  by_cases h14 : c.op = 14
  · rw [h14] at x0
    clear h14
    go_wp2_with (go_at_call 13; refine (alive_any _).mono ?_; rintro e w' ⟨rfl, rfl⟩)
    go_ret
    exact ⟨rfl, hB4⟩
  have e12 : (c.op == 12) = false := by simpa using h12
  have e14 : (c.op == 14) = false := by simpa using h14
  obtain ⟨V, hV⟩ : ∃ V, cValid c = V := ⟨_, rfl⟩
  have HV := Lib.hid hV
  clear hV
  go_wp2_with fail
  refine (specCodeValid c _).mono ?_
  rintro e w5 ⟨rfl, hb5⟩
  rw [HV.out]
  have hB5 := hB4.trans (hb5.mono hB4.size)
  have HS5 := Lib.hid (HS4.out.below hb5 (Nat.le_refl _))
  clear hb5 HS4 hB4 x0 x1 x2 x3 x4
  cases V
  · clear e12 e14 h12 h14
    go_wp2_with (go_at_call 13; refine (alive_any _).mono ?_; rintro e w' ⟨rfl, rfl⟩)
    go_ret
    exact ⟨rfl, hB5⟩
  have HP := Lib.hid (plain_of HO.out h12 h14 HV.out)
  clear e12 e14 h12 h14 HO HV
  have hz5 := hB5.size
  obtain ⟨wS, hwS⟩ : ∃ x, x = w5.alloc (.cells #[.int .i64 c.op, .int .i64 c.a, .int .i64 c.b, .int .i64 c.c] 24) := ⟨_, rfl⟩
  have hAS := below_alloc w5 (.cells #[.int .i64 c.op, .int .i64 c.a, .int .i64 c.b, .int .i64 c.c] 24)
  rw [← hwS] at hAS
  have hcode : wS.ownsRow 0 24 4 (.slice (some ⟨w5.heap.size, 0, none⟩) 1 1) 1 (cdCells [c]) := by
    rw [hwS]; exact World.ownsRow_lit (base := 0) (e := 24) (size := 4) w5 #[.int .i64 c.op, .int .i64 c.a, .int .i64 c.b, .int .i64 c.c] 1 (Nat.zero_le _) (by decide) rfl
  have hcd : RdC wS (.slice (some ⟨w5.heap.size, 0, none⟩) ([c] : List Cd).length 1) [c] := rdC_of_owns hcode (fun x hx => by simp at hx; subst hx; exact HCI.out.wf)
  have HBS := Lib.hid (hB5.trans (hAS.mono hB5.size))
  have HCS := Lib.hid hcd
  have HWS := Lib.hid hwS
  obtain ⟨x0, x1, x2, x3, x4⟩ := _root_.id HS5.out
  clear hcode hcd hwS hAS hB5 HS5
  go_upto_region 10 with fail
  rw [← HWS.out]
  obtain ⟨bL, hbL⟩ : ∃ x, w5.heap.size = x := ⟨_, rfl⟩
  rw [hbL] at HCS ⊢
  clear x0 x1 x2 x3 x4 HWS HCI hbL
  go_wp2_with fail
  go_loopg [6] 4 (fun g i wr => ∃ k : Nat, k + g = 4 ∧ i = .int .i64 k ∧ Below wS.heap.size wS wr)
  case atStart => exact ⟨0, rfl, rfl, Below.refl _ _⟩
  case round =>
    obtain ⟨r, hr, rfl, hbr⟩ := hrel
    by_cases hlt : r < 4
    rotate_left
    · go_wp2
      go_ret
      exact ⟨rfl, HBS.out.trans (hbr.mono HBS.out.size)⟩
    have HBR := Lib.hid hbr
    have hzr := hbr.size
    have hrl : (r : Int) < 4 := by omega
    clear hbr
    go_wp2_with fail
    refine (implNewLane4 _).mono ?_
    rintro e w6 ⟨g6, c6, b6, d6, rfl, oi6, ot6, hne6, hc6, hb6⟩
    have hA6 := below_alloc w6 (.cells #[.slice (some ⟨g6, 0, none⟩) 4 c6, .int .i64 0, .slice b6 0 d6, .bool false] 31)
    have hLa : La wr.heap.size (w6.alloc (.cells #[.slice (some ⟨g6, 0, none⟩) 4 c6, .int .i64 0, .slice b6 0 d6, .bool false] 31)) w6.heap.size g6 c6 (.slice b6 0 d6) [0, 0, 0, 0] := ⟨Box4.new _ _ _ _ _ _, oi6.below hA6, OwI.below ot6 hA6, hne6, oi6.lt⟩
    have htl : ∀ k, (Value.slice b6 0 d6).ownBlock = some k → k < (w6.alloc (.cells #[.slice (some ⟨g6, 0, none⟩) 4 c6, .int .i64 0, .slice b6 0 d6, .bool false] 31)).heap.size := fun k hk => own_lt (OwI.below ot6 hA6) k hk
    have hbA := hb6.trans (hA6.mono hb6.size)
    obtain ⟨wA, hwA⟩ : ∃ x, x = w6.alloc (.cells #[.slice (some ⟨g6, 0, none⟩) 4 c6, .int .i64 0, .slice b6 0 d6, .bool false] 31) := ⟨_, rfl⟩
    obtain ⟨bA, hbA2⟩ : ∃ x, w6.heap.size = x := ⟨_, rfl⟩
    rw [← hwA] at hLa hbA htl
    rw [hbA2] at hLa
    have HLA := Lib.hid (And.intro hLa (And.intro hbA htl))
    have HWA := Lib.hid hwA
    have HBA := Lib.hid hbA2
    clear oi6 ot6 hne6 hb6 hA6 hLa hbA hwA hbA2 htl
    go_upto_region 14 with fail
    rw [← HWA.out, HBA.out]
    clear HWA HBA
    go_wp2_with fail
    refine (implNewLane4 _).mono ?_
    rintro e w7 ⟨g7, c7, b7, d7, rfl, oi7, ot7, hne7, hc7, hb7⟩
    have hA7 := below_alloc w7 (.cells #[.slice (some ⟨g7, 0, none⟩) 4 c7, .int .i64 0, .slice b7 0 d7, .bool false] 31)
    have hLb : La wA.heap.size (w7.alloc (.cells #[.slice (some ⟨g7, 0, none⟩) 4 c7, .int .i64 0, .slice b7 0 d7, .bool false] 31)) w7.heap.size g7 c7 (.slice b7 0 d7) [0, 0, 0, 0] := ⟨Box4.new _ _ _ _ _ _, oi7.below hA7, OwI.below ot7 hA7, hne7, oi7.lt⟩
    have hb7a := hb7.trans (hA7.mono hb7.size)
    have hTw := Tw.mk (HLA.out.1.below hb7a) hLb ⟨HLA.out.1.k.lt, HLA.out.2.1.size⟩ HLA.out.2.2
    have hbP := HLA.out.2.1.trans (hb7a.mono HLA.out.2.1.size)
    obtain ⟨wP, hwP⟩ : ∃ x, x = w7.alloc (.cells #[.slice (some ⟨g7, 0, none⟩) 4 c7, .int .i64 0, .slice b7 0 d7, .bool false] 31) := ⟨_, rfl⟩
    obtain ⟨bP, hbP2⟩ : ∃ x, w7.heap.size = x := ⟨_, rfl⟩
    obtain ⟨mP, hmP⟩ : ∃ x, wA.heap.size = x := ⟨_, rfl⟩
    rw [← hwP] at hTw hbP
    rw [hbP2, hmP] at hTw
    have HTW := Lib.hid (And.intro hTw hbP)
    have HWP := Lib.hid hwP
    have HBP := Lib.hid hbP2
    clear oi7 ot7 hne7 hb7 hA7 hLb hb7a hTw hbP hwP hbP2 hmP HLA
    go_upto_region 15 with fail
    rw [← HWP.out, HBP.out]
    clear HWP HBP
    obtain ⟨y0, y1, y2, y3, y4⟩ := _root_.id HTW.out.1.a.k
    obtain ⟨x0, x1, x2, x3, x4⟩ := _root_.id HTW.out.1.b.k
    go_upto_block 2 with fail
    clear y1 y2 y3 x1 x2 x3
    go_cut [9] from 70 to 87 (fun _ wq => Tw wr.heap.size mP wq bA g6 c6 (.slice b6 0 d6) bP g7 c7 (.slice b7 0 d7) (rowN 4) (rowN 4) ∧ Below wr.heap.size wr wq)
    case first =>
      go_wp2_with fail
      go_loopg [9] 4 (fun g i wq => ∃ k : Nat, k + g = 4 ∧ i = .int .i64 k ∧ Tw wr.heap.size mP wq bA g6 c6 (.slice b6 0 d6) bP g7 c7 (.slice b7 0 d7) (rowN k) (rowN k) ∧ Below wr.heap.size wr wq)
      case atStart => exact ⟨0, rfl, rfl, HTW.out.1, HTW.out.2⟩
      case round =>
        clear x0 y0 x4 y4
        obtain ⟨k, hk, rfl, hT, hbq⟩ := hrel
        by_cases hlk : k < 4
        · have hT1 := hT.setA k (3 + 5 * (k : Int))
          rw [rowN_set hlk] at hT1
          have hb1 := (hT.bel hbq hbq.size k (3 + 5 * (k : Int))).1
          have hold := hT.a.r.get (i := k) (by rw [rowN_len]; exact hlk)
          have hfr := hT.a.r.frz k
          obtain ⟨y0, y1, y2, y3, y4⟩ := _root_.id hT.a.k
          obtain ⟨w8, hw8⟩ : ∃ x, x = wr.setCell ⟨g6, k, none⟩ (.int .i64 (3 + 5 * (k : Int))) := ⟨_, rfl⟩
          rw [← hw8] at hT1 hb1
          have HT1 := Lib.hid (And.intro hT1 hb1)
          have HW8 := Lib.hid hw8
          have hkl : (k : Int) < 4 := by omega
          clear hT hT1 hb1 hbq hw8 y1 y2 y3
          go_upto_region 21 with fail
          rw [← HW8.out]
          clear HW8 hold hfr y0 y4
          have hT2 := HT1.out.1.setB k (3 + 5 * (k : Int))
          rw [rowN_set hlk] at hT2
          have hb2 := (HT1.out.1.bel HT1.out.2 HT1.out.2.size k (3 + 5 * (k : Int))).2
          have hold := HT1.out.1.b.r.get (i := k) (by rw [rowN_len]; exact hlk)
          have hfr := HT1.out.1.b.r.frz k
          obtain ⟨x0, x1, x2, x3, x4⟩ := _root_.id HT1.out.1.b.k
          have HT2 := Lib.hid (And.intro hT2 hb2)
          clear hT2 hb2 HT1 x1 x2 x3
          go_wp2
          go_roundg (4 - (k + 1))
          case measure => omega
          case rel => exact ⟨k + 1, by omega, by go_num, HT2.out.1, HT2.out.2⟩
        · have hk4 : k = 4 := by omega
          subst hk4
          have HE := Lib.hid (And.intro hT hbq)
          clear hT hbq
          go_wp2
          go_meet
          exact HE.out
    case rest =>
      obtain ⟨hT, hbq⟩ := hcut
      obtain ⟨wq, hwq⟩ : ∃ x, x = wc := ⟨_, rfl⟩
      subst hwq
      clear x0 y0 x4 y4 HTW
      have hT1 := hT.setB r 77
      have hb1 := (hT.bel hbq hbq.size r 77).2
      have hold := hT.b.r.get (i := r) (by rw [rowN_len]; exact hlt)
      have hfr := hT.b.r.frz r
      obtain ⟨x0, x1, x2, x3, x4⟩ := _root_.id hT.b.k
      obtain ⟨w8, hw8⟩ : ∃ x, x = wq.setCell ⟨g7, r, none⟩ (.int .i64 77) := ⟨_, rfl⟩
      rw [← hw8] at hT1 hb1
      have HT1 := Lib.hid (And.intro hT1 hb1)
      have HW8 := Lib.hid hw8
      clear hT hT1 hb1 hbq hw8 x1 x2 x3
      go_upto_region 23 with fail
      rw [← HW8.out]
      clear HW8 hold hfr x0 x4
      have hRS : ∀ x ∈ rows4.set r 77, 0 ≤ x ∧ x ≤ 255 := all_set rows4_ok (by omega) r
      have hM7 : MOK [1, 2, 3, 4, 5, 6, 7] := ⟨by decide, by intro x hx; simp at hx; omega⟩
      have hst := plain_step (rs := rows4) (ms := [1, 2, 3, 4, 5, 6, 7]) (id := 2) HP.out rfl rows4_ok hM7 rfl (by decide)
      have hst2 := plain_step (rs := rows4.set r 77) (ms := [1, 2, 3, 4, 5, 6, 7]) (id := 2) HP.out (by rw [List.length_set]; rfl) hRS hM7 rfl (by decide)
      have hlen := (simple_ok (r := rows4) (m := [1, 2, 3, 4, 5, 6, 7]) (c := c) (id := 2) rows4_ok hM7 HP.out.1 (by decide)).1
      have hlen2 := (simple_ok (r := rows4.set r 77) (m := [1, 2, 3, 4, 5, 6, 7]) (c := c) (id := 2) hRS hM7 HP.out.1 (by decide)).1
      have hmok := (simple_ok (r := rows4) (m := [1, 2, 3, 4, 5, 6, 7]) (c := c) (id := 2) rows4_ok hM7 HP.out.1 (by decide)).2.2.2
      have hsame := fun hb => plain_reads HP.out (r := r) hlt hb rows4 [1, 2, 3, 4, 5, 6, 7] 2 77
      rw [HN.out] at hsame
      rw [List.length_set] at hlen2
      have hc1 := fun (w : World) (B1 B2 Bm : Nat) (rv tv mv lv : Value) (k1 : OwI B1 w rv rows4) (k2 : OwI B2 w tv []) (k3 : OwI Bm w mv [1, 2, 3, 4, 5, 6, 7]) (k4 : RdC w lv [c]) => implStepLane B1 B2 Bm rv tv mv lv ⟨rows4, 0, [], false⟩ [c] [1, 2, 3, 4, 5, 6, 7] 2 w k1 k2 k3 k4 (fun x hx => WalkArith.wf_i64 (by have := rows4_ok x hx; omega)) (fun x hx => by simp at hx) (fun x hx => WalkArith.wf_i64 (by have := hM7.2 x hx; omega))
      have hc2 := fun (w : World) (B1 B2 Bm : Nat) (rv tv mv lv : Value) (k1 : OwI B1 w rv (rows4.set r 77)) (k2 : OwI B2 w tv []) (k3 : OwI Bm w mv [1, 2, 3, 4, 5, 6, 7]) (k4 : RdC w lv [c]) => implStepLane B1 B2 Bm rv tv mv lv ⟨rows4.set r 77, 0, [], false⟩ [c] [1, 2, 3, 4, 5, 6, 7] 2 w k1 k2 k3 k4 (fun x hx => WalkArith.wf_i64 (by have := hRS x hx; omega)) (fun x hx => by simp at hx) (fun x hx => WalkArith.wf_i64 (by have := hM7.2 x hx; omega))
      have hr5 : (rows4.set r 77).length = 4 := by rw [List.length_set]; rfl
      have hTr : Tw wr.heap.size mP w8 bA g6 c6 (.slice b6 0 d6) bP g7 c7 (.slice b7 0 d7) rows4 (rows4.set r 77) := HT1.out.1
      have hBr := HT1.out.2
      generalize rows4.set r 77 = rows5 at *
      generalize (stepV ⟨rows4, 0, [], false⟩ [c] 2 [1, 2, 3, 4, 5, 6, 7]).2 = M at *
      generalize (stepV ⟨rows4, 0, [], false⟩ [c] 2 [1, 2, 3, 4, 5, 6, 7]).1 = L at *
      generalize (stepV ⟨rows5, 0, [], false⟩ [c] 2 [1, 2, 3, 4, 5, 6, 7]).2 = M2 at *
      generalize (stepV ⟨rows5, 0, [], false⟩ [c] 2 [1, 2, 3, 4, 5, 6, 7]).1 = L2 at *
      generalize simple rows4 [1, 2, 3, 4, 5, 6, 7] c 2 = RM at *
      generalize simple rows5 [1, 2, 3, 4, 5, 6, 7] c 2 = RM2 at *
      have HR5 := Lib.hid hr5
      clear hr5
      have HC1 := Lib.hid hc1
      have HC2 := Lib.hid hc2
      have HS1 := Lib.hid (And.intro hst (And.intro hlen hmok))
      have HS2 := Lib.hid (And.intro hst2 hlen2)
      have HSAME := Lib.hid hsame
      have HTR := Lib.hid hTr
      have HBRR := Lib.hid hBr
      have HCR := Lib.hid (HCS.out.below (HBR.out.trans (hBr.mono hzr)) (Nat.le_refl _))
      have HPR := Lib.hid (HBR.out.trans (hBr.mono hzr))
      clear hst hst2 hlen hlen2 hmok hsame hc1 hc2 hTr hBr HT1 hRS hM7 HBR
      obtain ⟨y0, y1, y2, y3, y4⟩ := _root_.id HTR.out.a.k
      obtain ⟨wM, hwM⟩ : ∃ x, x = w8.alloc (.cells #[.int .i64 1, .int .i64 2, .int .i64 3, .int .i64 4, .int .i64 5, .int .i64 6, .int .i64 7] 3) := ⟨_, rfl⟩
      have hbM := below_alloc w8 (.cells #[.int .i64 1, .int .i64 2, .int .i64 3, .int .i64 4, .int .i64 5, .int .i64 6, .int .i64 7] 3)
      have hmem : OwI 0 wM (.slice (some ⟨w8.heap.size, 0, none⟩) 7 7) [1, 2, 3, 4, 5, 6, 7] := by
        rw [hwM]; exact World.ownsRow_lit (base := 0) (e := 3) (size := 1) w8 #[.int .i64 1, .int .i64 2, .int .i64 3, .int .i64 4, .int .i64 5, .int .i64 6, .int .i64 7] 7 (Nat.zero_le _) (by decide) rfl
      rw [← hwM] at hbM
      have HCA := Lib.hid (HC1.out wM _ _ _ _ _ _ _ (HTR.out.below hbM).a.r.own (HTR.out.below hbM).a.t hmem (HCR.out.below hbM (Nat.le_refl _)))
      have HWM := Lib.hid hwM
      have HBM := Lib.hid hbM
      clear hmem hwM hbM HC1
      go_wp2_with fail
      rw [← HWM.out]
      refine HCA.out.mono ?_
      rintro e w9 ⟨r9, t9, m9, rfl, n1, n2, n3, nd, nd2, hb9⟩
      clear HCA HWM y0 y1 y2 y3 y4 nd nd2
      rw [HS1.out.1.1] at n1
      rw [HS1.out.1.2] at n3
      have hRl : RM.1.length = 4 := HS1.out.2.1
      obtain ⟨gR, cR, hr9, oi9, hc9a, hc9b⟩ := OI.shape n1 (by omega)
      obtain ⟨b9, d9, ht9⟩ := own_shape n2
      obtain ⟨e9, f9, hm9⟩ := own_shape n3
      subst hr9 ht9 hm9
      rw [hRl]
      clear hRl
      have hb89 := HBM.out.trans (hb9.mono HBM.out.size)
      have hA9 := below_alloc w9 (.cells #[.slice (some ⟨gR, 0, none⟩) 4 cR, .int .i64 L.pc, .slice b9 L.turns.length d9, .bool L.waits] 31)
      have hX9 := Box4.new w9 (.slice (some ⟨gR, 0, none⟩) 4 cR) (.int .i64 L.pc) (.slice b9 L.turns.length d9) (.bool L.waits) 31
      have h29 := hb89.trans (hA9.mono hb89.size)
      obtain ⟨wX, hwX⟩ : ∃ x, x = w9.alloc (.cells #[.slice (some ⟨gR, 0, none⟩) 4 cR, .int .i64 L.pc, .slice b9 L.turns.length d9, .bool L.waits] 31) := ⟨_, rfl⟩
      obtain ⟨bX, hbX⟩ : ∃ x, w9.heap.size = x := ⟨_, rfl⟩
      have HOR := Lib.hid (oi9.below hA9)
      have HMR := Lib.hid (OwI.below n3 hA9)
      rw [← hwX] at h29 hX9 HOR HMR
      rw [hbX] at hX9
      have HTX := Lib.hid (HTR.out.below h29)
      have HBX := Lib.hid (HPR.out.trans (h29.mono HPR.out.size))
      have HCX := Lib.hid (HCR.out.below h29 (Nat.le_refl _))
      have HXX := Lib.hid hX9
      have HWX := Lib.hid hwX
      have HbX := Lib.hid hbX
      clear n1 n2 n3 hb9 oi9 hb89 hA9 hX9 h29 hwX hbX HBM HTR HPR HCR
      go_upto_region 24 with fail
      rw [← HWX.out, HbX.out]
      clear HWX HbX
      obtain ⟨y0, y1, y2, y3, y4⟩ := _root_.id HTX.out.b.k
      obtain ⟨wN, hwN⟩ : ∃ x, x = wX.alloc (.cells #[.int .i64 1, .int .i64 2, .int .i64 3, .int .i64 4, .int .i64 5, .int .i64 6, .int .i64 7] 3) := ⟨_, rfl⟩
      have hbN := below_alloc wX (.cells #[.int .i64 1, .int .i64 2, .int .i64 3, .int .i64 4, .int .i64 5, .int .i64 6, .int .i64 7] 3)
      have hmem : OwI 0 wN (.slice (some ⟨wX.heap.size, 0, none⟩) 7 7) [1, 2, 3, 4, 5, 6, 7] := by
        rw [hwN]; exact World.ownsRow_lit (base := 0) (e := 3) (size := 1) wX #[.int .i64 1, .int .i64 2, .int .i64 3, .int .i64 4, .int .i64 5, .int .i64 6, .int .i64 7] 7 (Nat.zero_le _) (by decide) rfl
      rw [← hwN] at hbN
      have hca := HC2.out wN _ _ _ _ _ _ _ (HTX.out.below hbN).b.r.own (HTX.out.below hbN).b.t hmem (HCX.out.below hbN (Nat.le_refl _))
      rw [HR5.out] at hca
      have HCA := Lib.hid hca
      clear hca
      have HWN := Lib.hid hwN
      have HBN := Lib.hid hbN
      clear hmem hwN hbN HC2
      go_wp2_with fail
      rw [← HWN.out]
      refine HCA.out.mono ?_
      rintro e w10 ⟨r10, t10, m10, rfl, n1, n2, n3, nd, nd2, hb10⟩
      clear HCA HWN y0 y1 y2 y3 y4 nd nd2
      rw [HS2.out.1.1] at n1
      rw [HS2.out.1.2] at n3
      have hRl : RM2.1.length = 4 := HS2.out.2
      obtain ⟨gS, cS, hr10, oi10, hc10a, hc10b⟩ := OI.shape n1 (by omega)
      obtain ⟨b10, d10, ht10⟩ := own_shape n2
      obtain ⟨e10, f10, hm10⟩ := own_shape n3
      subst hr10 ht10 hm10
      rw [hRl]
      clear hRl
      have hb89 := HBN.out.trans (hb10.mono HBN.out.size)
      have hA9 := below_alloc w10 (.cells #[.slice (some ⟨gS, 0, none⟩) 4 cS, .int .i64 L2.pc, .slice b10 L2.turns.length d10, .bool L2.waits] 31)
      have hX9 := Box4.new w10 (.slice (some ⟨gS, 0, none⟩) 4 cS) (.int .i64 L2.pc) (.slice b10 L2.turns.length d10) (.bool L2.waits) 31
      have h29 := hb89.trans (hA9.mono hb89.size)
      obtain ⟨wY, hwY⟩ : ∃ x, x = w10.alloc (.cells #[.slice (some ⟨gS, 0, none⟩) 4 cS, .int .i64 L2.pc, .slice b10 L2.turns.length d10, .bool L2.waits] 31) := ⟨_, rfl⟩
      obtain ⟨bY, hbY⟩ : ∃ x, w10.heap.size = x := ⟨_, rfl⟩
      have HOS := Lib.hid (oi10.below hA9)
      have HMS := Lib.hid (OwI.below n3 hA9)
      rw [← hwY] at h29 hX9 HOS HMS
      rw [hbY] at hX9
      have HOR2 := Lib.hid (HOR.out.below h29)
      have HMR2 := Lib.hid (OwI.below HMR.out h29)
      have HXX2 := Lib.hid (HXX.out.below h29 (Nat.le_refl _))
      have HBY := Lib.hid (HBX.out.trans (h29.mono HBX.out.size))
      have HYY := Lib.hid hX9
      have HWY := Lib.hid hwY
      have HbY := Lib.hid hbY
      clear n1 n2 n3 hb10 oi10 hb89 hA9 hX9 h29 hwY hbY HBN HTX HCX HXX HBX HOR HMR HP HCS hc9a hc9b hc10a hc10b HN
      as_aux_lemma =>
        go_upto_region 25 with fail
        rw [← HWY.out, HbY.out]
        obtain ⟨x0, x1, x2, x3, x4⟩ := _root_.id HXX2.out
        obtain ⟨y0, y1, y2, y3, y4⟩ := _root_.id HYY.out
        have htm : (N / 2 ^ r).tmod 2 = N / 2 ^ r % 2 := Int.tmod_eq_emod_of_nonneg (Int.ediv_nonneg hN0 (Int.le_of_lt (Int.pow_pos (by decide))))
        have HTM := Lib.hid htm
        clear htm
        cases hq : ((N / 2 ^ r).tmod 2 == 1)
        rotate_left
        · go_wp2
          go_roundg (4 - (r + 1))
          case measure => omega
          case rel => exact ⟨r + 1, by omega, by go_num, HBY.out⟩
        have HQ := Lib.hid (HSAME.out (by rw [← HTM.out]; exact hq))
        clear HSAME HTM
        go_upto_region 26 with fail
        clear hq x0 x1 x2 x3 x4 y0 y1 y2 y3 y4
        go_wp2_with fail
        go_loopg [14] 4 (fun g i wr => ∃ k : Nat, k + g = 4 ∧ i = .int .i64 k ∧ Below wY.heap.size wY wr)
        case atStart => exact ⟨0, rfl, rfl, Below.refl _ _⟩
        case round =>
          obtain ⟨k, hk, rfl, hbk⟩ := hrel
          by_cases hlk : k < 4
          · have o1 := (HOR2.out.below hbk).get (i := k) (by rw [HS1.out.2.1]; exact hlk)
            have o2 := (HOS.out.below hbk).get (i := k) (by rw [HS2.out.2]; exact hlk)
            obtain ⟨x0, x1, x2, x3, x4⟩ := HXX2.out.below hbk (Nat.le_refl _)
            obtain ⟨y0, y1, y2, y3, y4⟩ := HYY.out.below hbk (Nat.le_refl _)
            have hkl : (k : Int) < 4 := by omega
            have HBK := Lib.hid hbk
            clear hbk x1 x2 x3 y1 y2 y3
            have hk4d : decide ((4 : Int) ≤ (k : Int)) = false := by rw [decide_eq_false_iff_not]; omega
            by_cases hkn : k = r
            · subst hkn
              go_wp2
              go_quiet (fail)
              go_wp2
              go_roundg (4 - (k + 1))
              case measure => omega
              case rel => exact ⟨k + 1, by omega, by go_num, below_drewN HBK.out _⟩
            · have hv := HQ.out.2 k hkn
              have hv2 : rg RM2.1 k = rg RM.1 k := by unfold rg; rw [Int.toNat_natCast, hv]
              rw [hv2] at o2
              generalize rg RM.1 (k : Int) = y at *
              have e1 : ((k : Int) != (r : Int)) = true := by simp; omega
              clear hv hv2
              go_wp2
              go_quiet (fail)
              go_wp2
              go_roundg (4 - (k + 1))
              case measure => omega
              case rel => exact ⟨k + 1, by omega, by go_num, below_drewN HBK.out _⟩
          · have hm1 := rdI_of_owns (OwI.below HMR2.out hbk) (fun x hx => WalkArith.wf_i64 (by have := HS1.out.2.2 x hx; omega))
            have hm2 := OwI.below HMS.out hbk
            have HBK := Lib.hid (HBY.out.trans (hbk.mono HBY.out.size))
            obtain ⟨ms, hms⟩ : ∃ x, RM.2 = x := ⟨_, rfl⟩
            obtain ⟨ms2, hms2⟩ : ∃ x, RM2.2 = x := ⟨_, rfl⟩
            have he : ms2 = ms := by rw [← hms, ← hms2]; exact HQ.out.1
            rw [hms] at hm1 ⊢
            rw [hms2] at hm2 ⊢
            subst he
            have hm3 := rdI_of_owns hm2 hm1.2
            clear hm2 hms hms2 hbk
            go_wp2_with fail
            refine (sameInts_same _ _ ms2 _ hm1 hm3).mono ?_
            rintro e w11 ⟨rfl, hb11⟩
            have HB11 := Lib.hid (HBK.out.trans (hb11.mono HBK.out.size))
            clear hm1 hm3 hb11 HBK
            go_wp2
            go_roundg (4 - (r + 1))
            case measure => omega
            case rel => exact ⟨r + 1, by omega, by go_num, HB11.out⟩
namespace fnCodeReads
set_option linter.unusedVariables false
set_option maxRecDepth 100000 in
theorem lifted (os : Os) (started : os.Started) (H : Type) (enc : TypeId × Value → H) :
    ReturnsInHanded {} Try.checked os 4 .any (Rows.fnCodeReadsSpec.pre6 enc Try.prog Try.f4 Rows.fnCodeReadsRow.domain false) (Rows.fnCodeReadsSpec.post enc Try.prog Try.f4 false true false false) := by
  refine returnsInHanded_of_change (C := Try.checked) own started (by kernel_rfl) Try.func4
    (ChangeSpec.witness6 (enc := enc) (C := Try.checked) false ⟨#[], #[.slice none 0 0], []⟩ 8 (by kernel_rfl) (by kernel_rfl) (by kernel_rfl) (by kernel_rfl)) ?_
  intro W base args ds gs before hval0 hW hcnd _
  have hval : ∀ (j : Nat) t v, Try.f4.params[j]? = some t → args[j]? = some v → Value.okWide Try.prog W .any base t v := hval0
  have hW' := hW
  obtain ⟨p, q, hA0, hV, rfl, hfz, hnd⟩ := hW
  have hA : DataW.TrodAll enc Try.prog W 0 (fun _ => true) true Try.f4.params.toList args.toList ds p := hA0
  rw [Try.params4] at hA hval
  obtain ⟨v0, vs0, d0, ds0, p0, q0, hargs, rfl, rfl, h0, r0⟩ := trodAll_cons hA
  obtain ⟨rfl, rfl, rfl⟩ := trodAll_nil r0
  obtain rfl : args = #[v0] := by cases args; simp_all
  obtain ⟨rfl, rfl⟩ := trodVars_none hV
  have k0 := h0
  have lt0 : ∀ x ∈ p0, x.block < W.heap.size := by obtain ⟨m, hm⟩ := k0; exact DataW.trod_lt m _ _ _ hm
  obtain ⟨z0, w0⟩ := open_rdI (kk := .u8) Try.underlying22 Try.underlying5 (by kernel_rfl) (hval 0 22 v0 rfl rfl) h0
  clear hA0 hval0
  refine (fnCodeReads_walk v0 z0 W w0).mono fun e W' ⟨he, bel⟩ => ?_
  subst he
  exact ⟨_, rfl, _, _, _, [], _, [], hW', trodAll_mk1 (shut_bool Try.underlying4 _), (trodAll_cons_mk (Below.trod laidOut (by kernel_rfl) (of_decide_eq_true (by kernel_rfl)) k0 bel lt0) trodAll_mk0), rfl, bel.frame _, fun h => by cases h⟩
theorem over : Rows.fnCodeReadsRow.holds Try.pinned (OpenSpec.ofChange Rows.fnCodeReadsSpec) :=
  OpenClaim.holds_of_wide 4 Try.f4 rfl rfl rfl rfl rfl rfl rfl ⟨rfl, rfl, rfl, rfl, rfl⟩ rfl rfl rfl rfl rfl (by kernel_rfl) Try.func4 (by kernel_rfl)
    (of_decide_eq_true (by kernel_rfl)) (by unfold Func.isWrapper; first | (rw [if_pos (by decide +kernel)]; kernel_rfl) | (rw [if_neg (by decide +kernel)]; exact ⟨rfl, rfl⟩))
    (fun os started H enc _ => lifted os started H enc)
end fnCodeReads
/-- The given statement on FnCodeReads. -/
theorem fnCodeReads_holds : Rows.FnCodeReadsSaid := fnCodeReads.over
#print axioms fnCodeReads_holds
end Go.Proofs.Ytmjkjdibolcblaa
