/- YthhdffgfldphlaaStepT: the reference's StepLane: what it returns, in new memory. Conditions: the numbers of the arguments are integers of 64 bits. -/
import Derived.Test.YthhdffgfldphlaaStepS
namespace Go.Proofs.Ythhdffgfldphlaa
open Go.ChangeShapes Go.WideShapes Go.ChangeAt Go.RowKit
set_option linter.unusedVariables false
def stepOk (l : Ln) (cs : List Cd) (id : Int) (ms : List Int) : Bool := lValid l cs && (memValid ms && inB id 0 7)
def lnZ : Ln := ⟨[], 0, [], false⟩
/-- What StepLane returns. -/
def stepV (l : Ln) (cs : List Cd) (id : Int) (ms : List Int) : Ln × List Int :=
  if stepOk l cs id ms then (if l.waits || (l.pc == cs.length) then (l, ms) else lstep cs id l ms) else (lnZ, [])
/-- A lane and a memory in new memory. -/
def StepO (w : World) (L : Ln) (M : List Int) (e : Ending) (w' : World) : Prop :=
  ∃ r t mv, e = .returned (.tuple #[.agg #[r, .int .i64 L.pc, t, .bool L.waits], mv]) ∧ OwI w.heap.size w' r L.regs ∧ OwI w.heap.size w' t L.turns ∧ OwI w.heap.size w' mv M ∧ (∀ k, r.ownBlock = some k → t.ownBlock ≠ some k) ∧ (∀ k, mv.ownBlock = some k → r.ownBlock ≠ some k ∧ t.ownBlock ≠ some k) ∧ Below w.heap.size w w'
theorem lValid_ok {l : Ln} {cs : List Cd} (h : lValid l cs = true) : pValid cs = true ∧ LOK cs l ∧ 0 ≤ l.pc ∧ l.pc ≤ cs.length := by
  unfold lValid at h
  simp only [Bool.and_eq_true, decide_eq_true_eq] at h
  obtain ⟨h1, h2, h3, h4, h5, _⟩ := h
  have hp := inB_i h2
  refine ⟨h1, ⟨hp, h3, fun x hx => ?_, (turnsB_iff _ _ _).1 h5⟩, hp⟩
  have := List.all_eq_true.1 h4 x hx
  exact inB_i this
theorem memValid_ok {ms : List Int} (h : memValid ms = true) : MOK ms := by
  unfold memValid at h
  simp only [Bool.and_eq_true, Bool.not_eq_true'] at h
  refine ⟨by have := inB_i h.1; omega, fun x hx => ?_⟩
  have h2 := h.2
  rw [List.any_eq_false] at h2
  have := h2 x hx
  exact inB_i (by simpa using this)
theorem lok_small {cs : List Cd} {l : Ln} (hp : pValid cs = true) (h : LOK cs l) : l.regs.length ≤ 1000000 ∧ l.turns.length ≤ 1000000 ∧ l.regs.length = 4 ∧ l.turns.length ≤ 3 ∧ ∀ x ∈ l.turns, 0 ≤ x ∧ x ≤ 3 := by
  obtain ⟨s, hs, hI⟩ := pValid_stk hp (show l.pc.toNat ≤ cs.length by have := h.pc; omega)
  have h1 := h.turns
  rw [loopsAt_eq hs] at h1
  have h2 := loops_len hI.deep
  have h3 := h.len
  have h4 := h1.1
  refine ⟨by omega, by omega, h3, by omega, fun x hx => ?_⟩
  obtain ⟨i, hi⟩ := List.mem_iff_getElem?.1 hx
  have hil := (List.getElem?_eq_some_iff.1 hi).1
  obtain ⟨p, hpp⟩ := get_lt (show i < (loopsOf s).length by omega)
  obtain ⟨h5, h6⟩ := h1.2 i x p hi hpp
  refine ⟨h5, ?_⟩
  have hmem := List.mem_of_getElem? hpp
  unfold loopsOf at hmem
  rw [List.mem_reverse, List.mem_map] at hmem
  obtain ⟨f, hf, rfl⟩ := hmem
  rw [List.mem_filter] at hf
  obtain ⟨j, hj⟩ := List.mem_iff_getElem?.1 hf.1
  obtain ⟨_, c, hc, ho⟩ := hI.code j f hj
  have hop : f.op = 13 := by simpa using hf.2
  have hb := (cValid_bd (pValid_code hp hc)).2.2.2.2.2.2.2.2.2 (by omega)
  have h7 : bAt cs f.p = c.b := by unfold bAt; rw [codeAt_nat hc]
  omega
theorem simple_mlen (rs ms : List Int) (c : Cd) (id : Int) : (simple rs ms c id).2.length = ms.length := by
  unfold simple
  repeat' split
  all_goals simp
theorem lstep_mlen (cs : List Cd) (id : Int) (l : Ln) (ms : List Int) : (lstep cs id l ms).2.length = ms.length := by
  unfold lstep
  repeat' split
  all_goals first | rfl | exact simple_mlen _ _ _ _
theorem nil_own (B : Nat) (w : World) : OwI B w (.slice none 0 0) [] := ⟨rfl, .inl ⟨rfl, rfl⟩⟩
/-- The state of StepLane: the lane in block b, the result's in b + 1. -/
structure S3 (B1 B2 Bm : Nat) (w : World) (b : Nat) (lv r0 t0 m0 : Value) (l : Ln) (cs : List Cd) (ms : List Int) (wk : World) : Prop where
  wb : w.heap.size = b
  kX : Box4 wk b r0 (.int .i64 l.pc) t0 (.bool l.waits)
  kY : Box4 wk (b + 1) (.slice none 0 0) (.int .i64 0) (.slice none 0 0) (.bool false)
  kG : ∀ o, wk.frozen? ⟨b + 1, o, none⟩ = false
  kB : Below b w wk
  kr : OwI B1 wk r0 l.regs
  kt : OwI B2 wk t0 l.turns
  km : OwI Bm wk m0 ms
  kc : RdC wk lv cs
section
variable {B1 B2 Bm : Nat} {w : World} {b : Nat} {lv r0 t0 m0 : Value} {l : Ln} {cs : List Cd} {ms : List Int} {wk : World}
theorem S3.below (h : S3 B1 B2 Bm w b lv r0 t0 m0 l cs ms wk) {w3 : World} (hb : Below wk.heap.size wk w3) : S3 B1 B2 Bm w b lv r0 t0 m0 l cs ms w3 :=
  ⟨h.wb, h.kX.below hb (Nat.le_refl _), h.kY.below hb (Nat.le_refl _), fun o => (hb.frozen (p := ⟨b + 1, o, none⟩) h.kY.lt).trans (h.kG o), h.kB.trans (hb.mono (by have := h.kX.lt; omega)), h.kr.below hb, h.kt.below hb, h.km.below hb, h.kc.below hb (Nat.le_refl _)⟩
/-- A block made behind b is written: old memory is as it was. -/
theorem S3.wr (h : S3 B1 B2 Bm w b lv r0 t0 m0 l cs ms wk) {w3 : World} {p : Nat → Prop} (hw : Wr wk w3 p) (hp : ∀ k, p k → b + 2 ≤ k) : Box4 w3 (b + 1) (.slice none 0 0) (.int .i64 0) (.slice none 0 0) (.bool false) ∧ (∀ o, w3.frozen? ⟨b + 1, o, none⟩ = false) ∧ Below b w w3 :=
  ⟨h.kY.wr hw (fun hh => by have := hp _ hh; omega), fun o => (hw.frozen h.kY.lt (fun hh => by have := hp _ hh; omega)).trans (h.kG o), Below.wr h.kB hw (by have := h.kX.lt; omega) (fun k hk => by have := hp k hk; omega)⟩
end
/-- The result's block is filled. -/
theorem stepO_fin {w w6 wr : World} {b : Nat} {r t mv : Value} {L : Ln} {M : List Int} (wb : w.heap.size = b) (kY : Box4 w6 (b + 1) (.slice none 0 0) (.int .i64 0) (.slice none 0 0) (.bool false)) (kB : Below b w w6) (hr : OwI (b + 2) w6 r L.regs) (ht : OwI (b + 2) w6 t L.turns) (hm : OwI (b + 2) w6 mv M) (hd : ∀ k, r.ownBlock = some k → t.ownBlock ≠ some k) (hd2 : ∀ k, mv.ownBlock = some k → r.ownBlock ≠ some k ∧ t.ownBlock ≠ some k)
    (hb : Below w6.heap.size ((((w6.setCell ⟨b + 1, 0, none⟩ r).setCell ⟨b + 1, 1, none⟩ (.int .i64 L.pc)).setCell ⟨b + 1, 2, none⟩ t).setCell ⟨b + 1, 3, none⟩ (.bool L.waits)) wr) :
    StepO w L M (.returned (.tuple #[.agg #[r, .int .i64 L.pc, t, .bool L.waits], mv])) wr ∧ Box4 wr (b + 1) r (.int .i64 L.pc) t (.bool L.waits) := by
  have hw := Wr_set4 w6 (b + 1) r (.int .i64 L.pc) t (.bool L.waits)
  have hz : ((((w6.setCell ⟨b + 1, 0, none⟩ r).setCell ⟨b + 1, 1, none⟩ (.int .i64 L.pc)).setCell ⟨b + 1, 2, none⟩ t).setCell ⟨b + 1, 3, none⟩ (.bool L.waits)).heap.size = w6.heap.size := by simp [World.setCell]
  have hlt := kY.lt
  have own : ∀ (v : Value) (xs : List Int), OwI (b + 2) w6 v xs → OwI b wr v xs := fun v xs h => by
    have h2 : OwI (b + 2) _ v xs := hw.owns h (fun k hk hh => by have := own_ge h k hk; omega)
    exact owns_below (own_mono h2 (by omega)) hb (by omega)
  refine ⟨⟨r, t, mv, rfl, by rw [wb]; exact own _ _ hr, by rw [wb]; exact own _ _ ht, by rw [wb]; exact own _ _ hm, hd, hd2, ?_⟩, (kY.set4 _ _ _ _).below hb (by omega)⟩
  rw [wb]
  exact (Below.wr kB hw (by omega) (fun k hk => by omega)).trans (hb.mono (by omega))
theorem stepO_zero {w wk : World} {b : Nat} (wb : w.heap.size = b) (kY : Box4 wk (b + 1) (.slice none 0 0) (.int .i64 0) (.slice none 0 0) (.bool false)) (kB : Below b w wk) :
    StepO w lnZ [] (.returned (.tuple #[.agg #[.slice none 0 0, .int .i64 0, .slice none 0 0, .bool false], .slice (some ⟨wk.heap.size, 0, none⟩) 0 0])) (((((wk.setCell ⟨b + 1, 0, none⟩ (.slice none 0 0)).setCell ⟨b + 1, 1, none⟩ (.int .i64 0)).setCell ⟨b + 1, 2, none⟩ (.slice none 0 0)).setCell ⟨b + 1, 3, none⟩ (.bool false)).alloc (.cells #[] 3)) ∧
      Box4 (((((wk.setCell ⟨b + 1, 0, none⟩ (.slice none 0 0)).setCell ⟨b + 1, 1, none⟩ (.int .i64 0)).setCell ⟨b + 1, 2, none⟩ (.slice none 0 0)).setCell ⟨b + 1, 3, none⟩ (.bool false)).alloc (.cells #[] 3)) (b + 1) (.slice none 0 0) (.int .i64 0) (.slice none 0 0) (.bool false) := by
  have hz : ((((wk.setCell ⟨b + 1, 0, none⟩ (.slice none 0 0)).setCell ⟨b + 1, 1, none⟩ (.int .i64 0)).setCell ⟨b + 1, 2, none⟩ (.slice none 0 0)).setCell ⟨b + 1, 3, none⟩ (.bool false)).heap.size = wk.heap.size := by simp [World.setCell]
  have hlt := kY.lt
  have hw := Wr_set4 wk (b + 1) (.slice none 0 0) (.int .i64 0) (.slice none 0 0) (.bool false)
  have hb := below_alloc ((((wk.setCell ⟨b + 1, 0, none⟩ (.slice none 0 0)).setCell ⟨b + 1, 1, none⟩ (.int .i64 0)).setCell ⟨b + 1, 2, none⟩ (.slice none 0 0)).setCell ⟨b + 1, 3, none⟩ (.bool false)) (.cells #[] 3)
  have hl := OwI.lit ((((wk.setCell ⟨b + 1, 0, none⟩ (.slice none 0 0)).setCell ⟨b + 1, 1, none⟩ (.int .i64 0)).setCell ⟨b + 1, 2, none⟩ (.slice none 0 0)).setCell ⟨b + 1, 3, none⟩ (.bool false)) b (by omega)
  rw [hz] at hl
  refine ⟨⟨.slice none 0 0, .slice none 0 0, .slice (some ⟨wk.heap.size, 0, none⟩) 0 0, rfl, nil_own _ _, nil_own _ _, by rw [wb]; exact hl, fun k hk => (by cases hk), fun k hk => ⟨fun h => (by cases h), fun h => (by cases h)⟩, ?_⟩, (kY.set4 _ _ _ _).below hb (Nat.le_refl _)⟩
  rw [wb]
  exact (Below.wr kB hw (by omega) (fun k hk => by omega)).trans (hb.mono (by omega))
set_option maxRecDepth 100000 in
set_option maxHeartbeats 16000000 in
theorem specStepLane (B1 B2 Bm : Nat) (r t mv lv : Value) (l : Ln) (cs : List Cd) (ms : List Int) (id : Int) (w : World) (hr : OwI B1 w r l.regs) (ht : OwI B2 w t l.turns) (hmv : OwI Bm w mv ms) (hc : RdC w lv cs)
    (hwr : ∀ x ∈ l.regs, (Lit.int .i64 x).wf = true) (hwt : ∀ x ∈ l.turns, (Lit.int .i64 x).wf = true) (hwm : ∀ x ∈ ms, (Lit.int .i64 x).wf = true) :
    Calls Try.prog 25 #[.agg #[r, .int .i64 l.pc, t, .bool l.waits], lv, .int .i64 id, mv] w (StepO w (stepV l cs id ms).1 (stepV l cs id ms).2) := by
  obtain ⟨b, hb⟩ : ∃ x, w.heap.size = x := ⟨_, rfl⟩
  obtain ⟨ra, rc, hrv⟩ := own_shape hr
  obtain ⟨ta, tc, htv⟩ := own_shape ht
  obtain ⟨ma, mc, hmvv⟩ := own_shape hmv
  obtain ⟨la, ln, hlv, hln1, hln2⟩ := hc.shape
  subst hrv htv hmvv hlv
  obtain ⟨L, M, hLM⟩ : ∃ L M, stepV l cs id ms = (L, M) := ⟨_, _, rfl⟩
  rw [hLM]
  obtain ⟨W, hW⟩ : ∃ W, W = ((w.alloc (.cells #[.slice ra l.regs.length rc, .int .i64 l.pc, .slice ta l.turns.length tc, .bool l.waits] 25)).alloc (.cells #[.slice none 0 0, .int .i64 0, .slice none 0 0, .bool false] 25)) := ⟨_, rfl⟩
  have h1 := below_alloc w (.cells #[.slice ra l.regs.length rc, .int .i64 l.pc, .slice ta l.turns.length tc, .bool l.waits] 25)
  have h2 := below_alloc (w.alloc (.cells #[.slice ra l.regs.length rc, .int .i64 l.pc, .slice ta l.turns.length tc, .bool l.waits] 25)) (.cells #[.slice none 0 0, .int .i64 0, .slice none 0 0, .bool false] 25)
  have h3 := (h1.trans (h2.mono h1.size))
  have hX := ((Box4.new w (.slice ra l.regs.length rc) (.int .i64 l.pc) (.slice ta l.turns.length tc) (.bool l.waits) 25).below h2 (Nat.le_refl _))
  have hX3 := Box4.new (w.alloc (.cells #[.slice ra l.regs.length rc, .int .i64 l.pc, .slice ta l.turns.length tc, .bool l.waits] 25)) (.slice none 0 0) (.int .i64 0) (.slice none 0 0) (.bool false) 25
  have hF3 := fun o => frozen_of_row ((w.alloc (.cells #[.slice ra l.regs.length rc, .int .i64 l.pc, .slice ta l.turns.length tc, .bool l.waits] 25)).alloc (.cells #[.slice none 0 0, .int .i64 0, .slice none 0 0, .bool false] 25)) (w.alloc (.cells #[.slice ra l.regs.length rc, .int .i64 l.pc, .slice ta l.turns.length tc, .bool l.waits] 25)).heap.size o #[.slice none 0 0, .int .i64 0, .slice none 0 0, .bool false] 25 (heap_alloc_new _ _)
  rw [World.size_alloc] at hX3 hF3
  rw [hb] at hX hX3 hF3
  have kX : Box4 W b (.slice ra l.regs.length rc) (.int .i64 l.pc) (.slice ta l.turns.length tc) (.bool l.waits) := by rw [hW]; exact ⟨hX.at0, hX.at1, hX.at2, hX.at3, hX.lt⟩
  have kY : Box4 W (b + 1) (.slice none 0 0) (.int .i64 0) (.slice none 0 0) (.bool false) := by rw [hW]; exact ⟨hX3.at0, hX3.at1, hX3.at2, hX3.at3, hX3.lt⟩
  have kG : ∀ o, W.frozen? ⟨b + 1, o, none⟩ = false := by rw [hW]; exact hF3
  have kB : Below b w W := by rw [hW, ← hb]; exact h3
  have kr : OwI B1 W (.slice ra l.regs.length rc) l.regs := by rw [hW]; exact hr.below h3
  have kt : OwI B2 W (.slice ta l.turns.length tc) l.turns := by rw [hW]; exact ht.below h3
  have km : OwI Bm W (.slice ma ms.length mc) ms := by rw [hW]; exact hmv.below h3
  have kc : RdC W (.slice la cs.length ln) cs := by rw [hW]; exact hc.below h3 (Nat.le_refl _)
  have kz : b + 2 ≤ W.heap.size := by rw [hW, ← hb]; simp
  have HB := Lib.hid hb
  have HW := Lib.hid hW
  have HLM := Lib.hid hLM
  have HWR := Lib.hid hwr
  have HWT := Lib.hid hwt
  have HWM := Lib.hid hwm
  clear h1 h2 h3 hX hX3 hF3 hr ht hmv hc hb hW hLM hwr hwt hwm
  obtain ⟨V, hV⟩ : ∃ V, lValid l cs = V := ⟨_, rfl⟩
  obtain ⟨N, hN⟩ : ∃ V, memValid ms = V := ⟨_, rfl⟩
  obtain ⟨I, hI⟩ : ∃ V, inB id 0 7 = V := ⟨_, rfl⟩
  have hst : stepOk l cs id ms = (V && (N && I)) := by unfold stepOk; rw [hV, hN, hI]
  have HST := Lib.hid hst
  have HV := Lib.hid hV
  have HN := Lib.hid hN
  have HI := Lib.hid hI
  clear hst hV hN hI
  go_enter Try.func25, Try.ntmps25
  have hS : S3 B1 B2 Bm w b (.slice la cs.length ln) (.slice ra l.regs.length rc) (.slice ta l.turns.length tc) (.slice ma ms.length mc) l cs ms W := ⟨HB.out, kX, kY, kG, kB, kr, kt, km, kc⟩
  have HS := Lib.hid hS
  clear kX kY kG kB kr kt km kc hS
  have hkz : b + 2 ≤ W.heap.size := kz
  go_wp2_with fail
  rw [← HW.out, HB.out]
  refine (specLaneValid _ _ (.slice la cs.length ln) l cs W (rdI_of_owns HS.out.kr HWR.out) (rdI_of_owns HS.out.kt HWT.out) HS.out.kc).mono ?_
  rintro e w1 ⟨rfl, hb1⟩
  rw [HV.out]
  have hS1 := HS.out.below hb1
  have HS1 := Lib.hid hS1
  have hz1 := hb1.size
  clear HS HW hS1 hb1
  obtain ⟨x0, x1, x2, x3, x4⟩ := HS1.out.kX
  obtain ⟨y0, y1, y2, y3, y4⟩ := HS1.out.kY
  have f0 := HS1.out.kG 0
  have f1 := HS1.out.kG 1
  have f2 := HS1.out.kG 2
  have f3 := HS1.out.kG 3
  cases V
  · rw [Bool.false_and] at HST
    have HLZ := HLM.out
    rw [stepV, HST.out, if_neg (by simp)] at HLZ
    obtain ⟨rfl, rfl⟩ := Prod.mk.inj HLZ
    clear HLZ HLM
    have HZ := Lib.hid (stepO_zero HB.out HS1.out.kY HS1.out.kB)
    go_wp2
    obtain ⟨hR, z0, z1, z2, z3, _⟩ := HZ.out
    refine bodyPost_ret (v := .tuple #[.agg #[.slice none 0 0, .int .i64 0, .slice none 0 0, .bool false], .slice (some ⟨w1.heap.size, 0, none⟩) 0 0]) (by simp [results, Try.results25, go_sem, z0, z1, z2, z3]) rfl hR
  rw [Bool.true_and] at HST
  go_wp2_with fail
  refine (specMemoryValid _ ms w1 (rdI_of_owns HS1.out.km HWM.out)).mono ?_
  rintro e w' ⟨rfl, rfl⟩
  rw [HN.out]
  cases N
  · rw [Bool.false_and] at HST
    have HLZ := HLM.out
    rw [stepV, HST.out, if_neg (by simp)] at HLZ
    obtain ⟨rfl, rfl⟩ := Prod.mk.inj HLZ
    clear HLZ HLM
    have HZ := Lib.hid (stepO_zero HB.out HS1.out.kY HS1.out.kB)
    go_wp2
    obtain ⟨hR, z0, z1, z2, z3, _⟩ := HZ.out
    refine bodyPost_ret (v := .tuple #[.agg #[.slice none 0 0, .int .i64 0, .slice none 0 0, .bool false], .slice (some ⟨w1.heap.size, 0, none⟩) 0 0]) (by simp [results, Try.results25, go_sem, z0, z1, z2, z3]) rfl hR
  rw [Bool.true_and] at HST
  go_wp2_with fail
  refine (l1In_any id 0 7 w1).mono ?_
  rintro e w' ⟨rfl, rfl⟩
  rw [HI.out]
  cases I
  ·
    have HLZ := HLM.out
    rw [stepV, HST.out, if_neg (by simp)] at HLZ
    obtain ⟨rfl, rfl⟩ := Prod.mk.inj HLZ
    clear HLZ HLM
    have HZ := Lib.hid (stepO_zero HB.out HS1.out.kY HS1.out.kB)
    go_wp2
    obtain ⟨hR, z0, z1, z2, z3, _⟩ := HZ.out
    refine bodyPost_ret (v := .tuple #[.agg #[.slice none 0 0, .int .i64 0, .slice none 0 0, .bool false], .slice (some ⟨w1.heap.size, 0, none⟩) 0 0]) (by simp [results, Try.results25, go_sem, z0, z1, z2, z3]) rfl hR
  obtain ⟨hpv, hlok, hpc0, hpc1⟩ := lValid_ok HV.out
  have hrl := (lok_small hpv hlok).1
  have htl := (lok_small hpv hlok).2.1
  have hmok := memValid_ok HN.out
  have hid := inB_i HI.out
  have hml := hmok.1
  have hLM2 := HLM.out
  rw [stepV, HST.out, if_pos rfl] at hLM2
  have HLM2 := Lib.hid hLM2
  have hn5 := OwI.lit w1 w1.heap.size (Nat.le_refl _)
  have hsrc := HS1.out.km.below (below_alloc w1 (.cells #[] 3))
  clear hLM2 HLM HST
  go_wp2_with (at_builtin; refine wpList_app2g _ (by rfl) _ _ 23 3 rfl _ _ 1 8 (.int .i64 0) Try.underlying23 infoInt rfl (by decide) _ _ _ _ _ _ hn5 hsrc (oneI2 _) rfl rfl (by simp; omega) (by simp; omega) (by simp) ?_)
  intro v5 w5 ho5 hw5 hbb5
  have hB5 := hbb5 w1.heap.size w1 (Nat.le_refl _) (below_alloc w1 _)
  have hO5 : OwI w1.heap.size w5 v5 ms := by simpa [OwI] using ho5
  have hS5 := HS1.out.below hB5
  have HS5 := Lib.hid hS5
  have hz5 := hB5.size
  clear hn5 hsrc ho5 hw5 hbb5 hB5 hS5 x0 x1 x2 x3 x4 y0 y1 y2 y3 y4 f0 f1 f2 f3 HS1
  obtain ⟨x0, x1, x2, x3, x4⟩ := HS5.out.kX
  obtain ⟨y0, y1, y2, y3, y4⟩ := HS5.out.kY
  have f0 := HS5.out.kG 0
  have f1 := HS5.out.kG 1
  have f2 := HS5.out.kG 2
  have f3 := HS5.out.kG 3
  obtain ⟨rs, pc, ts, wt⟩ := l
  simp only at x0 x1 x2 x3 hrl htl hpc0 hpc1
  obtain ⟨a5, c5, hs5⟩ := own_shape hO5
  subst hs5
  cases wt
  · by_cases hpe : pc = cs.length
    · subst hpe
      go_wp2_with fail
      refine (l6Copy_any B1 B2 _ _ ⟨rs, (cs.length : Int), ts, false⟩ w5 HS5.out.kr HS5.out.kt hrl htl).mono ?_
      rintro e w6 ⟨r', t', rfl, n1, n2, nd, hb6⟩
      obtain ⟨a3, c3, hs3⟩ := own_shape n1
      obtain ⟨a4, c4, hs4⟩ := own_shape n2
      subst hs3 hs4
      have HL3 := HLM2.out
      rw [if_pos (by simp)] at HL3
      obtain ⟨rfl, rfl⟩ := Prod.mk.inj HL3
      have hS6 := HS5.out.below hb6
      have hz6 := hb6.size
      have hd2 : ∀ k, (Value.slice a5 ms.length c5).ownBlock = some k → (Value.slice a3 rs.length c3).ownBlock ≠ some k ∧ (Value.slice a4 ts.length c4).ownBlock ≠ some k := fun k hk => ⟨fun hh => by have := own_lt hO5 k hk; have := own_ge n1 k hh; omega, fun hh => by have := own_lt hO5 k hk; have := own_ge n2 k hh; omega⟩
      have HF := Lib.hid (stepO_fin (L := ⟨rs, (cs.length : Int), ts, false⟩) (M := ms) HB.out hS6.kY hS6.kB (own_mono n1 (by omega)) (own_mono n2 (by omega)) (own_mono (hO5.below hb6) (by omega)) nd hd2 (Below.refl _ _))
      clear x0 x1 x2 x3 x4 y0 y1 y2 y3 y4 f0 f1 f2 f3 n1 n2 nd hb6 hd2 HL3 HLM2
      obtain ⟨y0, y1, y2, y3, y4⟩ := hS6.kY
      have f0 := hS6.kG 0
      have f1 := hS6.kG 1
      have f2 := hS6.kG 2
      have f3 := hS6.kG 3
      clear hS6
      go_wp2
      obtain ⟨hR, z0, z1, z2, z3, _⟩ := HF.out
      try simp only at z0 z1 z2 z3
      refine bodyPost_ret (v := .tuple #[.agg #[.slice a3 rs.length c3, .int .i64 ((cs.length : Int)), .slice a4 ts.length c4, .bool false], .slice a5 ms.length c5]) (by simp [results, Try.results25, go_sem, z0, z1, z2, z3]) rfl hR
    · have hlt : pc < cs.length := by omega
      have hpb : (pc == (cs.length : Int)) = false := by simpa using hpe
      have HL3 := HLM2.out
      rw [if_neg (by simp [hpe])] at HL3
      obtain ⟨gm, rfl, _, oi5, _, _⟩ := OwI.ne hO5 (by omega)
      have hst := l6Step_any B1 B2 w1.heap.size gm c5 _ _ (.slice la cs.length ln) ⟨rs, pc, ts, false⟩ cs ms id w5 hpv hlok hmok hid hlt rfl HS5.out.kr HS5.out.kt oi5 HS5.out.kc
      rw [HL3] at hst
      have HSTP := Lib.hid hst
      have HLMZ := Lib.hid HL3
      have hgm := oi5.ge
      have hgl := oi5.lt
      clear hst HL3 HLM2 oi5
      go_wp2_with fail
      refine HSTP.out.mono ?_
      rintro e w6 ⟨r', t', rfl, n1, n2, nd, m6, hw6⟩
      obtain ⟨a3, c3, hs3⟩ := own_shape n1
      obtain ⟨a4, c4, hs4⟩ := own_shape n2
      subst hs3 hs4
      obtain ⟨kY6, kG6, kB6⟩ := HS5.out.wr hw6 (fun k hk => by omega)
      have hml6 : M.length = ms.length := by have h := lstep_mlen cs id ⟨rs, pc, ts, false⟩ ms; rw [HLMZ.out] at h; exact h
      have hz6 := hw6.size
      have o6 : OwI (b + 2) w6 (.slice (some ⟨gm, 0, none⟩) ms.length c5) M := by
        have := (m6.rebase (show b + 2 ≤ gm by omega)).own
        rw [hml6] at this; unfold OwI; rw [hml6]; exact this
      have hd2 : ∀ k, (Value.slice (some ⟨gm, 0, none⟩) ms.length c5).ownBlock = some k → (Value.slice a3 L.regs.length c3).ownBlock ≠ some k ∧ (Value.slice a4 L.turns.length c4).ownBlock ≠ some k := fun k hk => by
        have hk2 : (some gm : Option Nat) = some k := hk
        injection hk2 with hk3
        exact ⟨fun hh => by have := own_ge n1 k hh; omega, fun hh => by have := own_ge n2 k hh; omega⟩
      have HF := Lib.hid (stepO_fin (wr := ((((w6.setCell ⟨b + 1, 0, none⟩ (.slice a3 L.regs.length c3)).setCell ⟨b + 1, 1, none⟩ (.int .i64 L.pc)).setCell ⟨b + 1, 2, none⟩ (.slice a4 L.turns.length c4)).setCell ⟨b + 1, 3, none⟩ (.bool L.waits)).alloc (.cells #[.slice a3 L.regs.length c3, .int .i64 L.pc, .slice a4 L.turns.length c4, .bool L.waits] 25)) HB.out kY6 kB6 (own_mono n1 (by omega)) (own_mono n2 (by omega)) o6 nd hd2 ((Below.refl _ _).alloc (by simp [World.setCell]) _))
      clear x0 x1 x2 x3 x4 y0 y1 y2 y3 y4 f0 f1 f2 f3 n1 n2 nd m6 hw6 hd2 o6
      obtain ⟨y0, y1, y2, y3, y4⟩ := kY6
      have f0 := kG6 0
      have f1 := kG6 1
      have f2 := kG6 2
      have f3 := kG6 3
      clear kG6 kB6
      go_wp2
      obtain ⟨hR, z0, z1, z2, z3, _⟩ := HF.out
      refine bodyPost_ret (v := .tuple #[.agg #[.slice a3 L.regs.length c3, .int .i64 L.pc, .slice a4 L.turns.length c4, .bool L.waits], .slice (some ⟨gm, 0, none⟩) ms.length c5]) (by simp [results, Try.results25, go_sem, z0, z1, z2, z3]) rfl hR
  ·
    go_wp2_with fail
    refine (l6Copy_any B1 B2 _ _ ⟨rs, pc, ts, true⟩ w5 HS5.out.kr HS5.out.kt hrl htl).mono ?_
    rintro e w6 ⟨r', t', rfl, n1, n2, nd, hb6⟩
    obtain ⟨a3, c3, hs3⟩ := own_shape n1
    obtain ⟨a4, c4, hs4⟩ := own_shape n2
    subst hs3 hs4
    have HL3 := HLM2.out
    rw [if_pos (by simp)] at HL3
    obtain ⟨rfl, rfl⟩ := Prod.mk.inj HL3
    have hS6 := HS5.out.below hb6
    have hz6 := hb6.size
    have hd2 : ∀ k, (Value.slice a5 ms.length c5).ownBlock = some k → (Value.slice a3 rs.length c3).ownBlock ≠ some k ∧ (Value.slice a4 ts.length c4).ownBlock ≠ some k := fun k hk => ⟨fun hh => by have := own_lt hO5 k hk; have := own_ge n1 k hh; omega, fun hh => by have := own_lt hO5 k hk; have := own_ge n2 k hh; omega⟩
    have HF := Lib.hid (stepO_fin (L := ⟨rs, pc, ts, true⟩) (M := ms) HB.out hS6.kY hS6.kB (own_mono n1 (by omega)) (own_mono n2 (by omega)) (own_mono (hO5.below hb6) (by omega)) nd hd2 (Below.refl _ _))
    clear x0 x1 x2 x3 x4 y0 y1 y2 y3 y4 f0 f1 f2 f3 n1 n2 nd hb6 hd2 HL3 HLM2
    obtain ⟨y0, y1, y2, y3, y4⟩ := hS6.kY
    have f0 := hS6.kG 0
    have f1 := hS6.kG 1
    have f2 := hS6.kG 2
    have f3 := hS6.kG 3
    clear hS6
    go_wp2
    obtain ⟨hR, z0, z1, z2, z3, _⟩ := HF.out
    try simp only at z0 z1 z2 z3
    refine bodyPost_ret (v := .tuple #[.agg #[.slice a3 rs.length c3, .int .i64 (pc), .slice a4 ts.length c4, .bool true], .slice a5 ms.length c5]) (by simp [results, Try.results25, go_sem, z0, z1, z2, z3]) rfl hR
end Go.Proofs.Ythhdffgfldphlaa
