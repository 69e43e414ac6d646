/- YtmjkjdibolcblaaMach: the program's machine: made of a valid program; which steps can be made. Conditions: the program is valid. -/
import Derived.Test.YtmjkjdibolcblaaStepU
import Derived.Test.YtmjkjdibolcblaaLaneD
namespace Go.Proofs.Ytmjkjdibolcblaa
open Go.ChangeShapes Go.WideShapes Go.ChangeAt Go.RowKit
set_option linter.unusedVariables false
/-- A machine in block m: the program and its blocks, which lie in blocks lo to m. -/
def Mach (cs : List Cd) (w : World) (lo m : Nat) (lv : Value) : Prop :=
  ∃ hi va vo, Blks cs w lo hi va vo ∧ lo ≤ hi ∧ hi ≤ m ∧ m < w.heap.size ∧ w.cell? ⟨m, 0, none⟩ = some lv ∧ w.cell? ⟨m, 1, none⟩ = some vo
theorem Mach.keep {cs : List Cd} {w w2 : World} {lo m : Nat} {lv : Value} (h : Mach cs w lo m lv) (hb : ∀ k, lo ≤ k → k ≤ m → w2.heap[k]? = w.heap[k]?) (hs : m < w2.heap.size) : Mach cs w2 lo m lv := by
  obtain ⟨hi, va, vo, h1, h2, h3, h4, h5, h6⟩ := h
  exact ⟨hi, va, vo, h1.keep (fun k x y => hb k x (by omega)) (by omega), h2, h3, hs, (World.cell?_of_block (hb m (by omega) (Nat.le_refl _))).trans h5, (World.cell?_of_block (hb m (by omega) (Nat.le_refl _))).trans h6⟩
set_option maxRecDepth 100000 in
set_option maxHeartbeats 2000000 in
theorem newMachine_any (lv : Value) (cs : List Cd) (w : World) (h : RdC w lv cs) (hp : pValid cs = true) : Calls Try.prog 47 #[lv] w fun e w' => ∃ m, e = .returned (.pointer (some ⟨m, 0, none⟩)) ∧ Mach cs w' w.heap.size m lv ∧ Below w.heap.size w w' := by
  have hok : sOk cs = true := by have h2 := hp; simp only [pValid, Bool.and_eq_true] at h2; exact h2.2.2
  have h40 := pValid_len hp
  obtain ⟨la, ln, hlv, _, _⟩ := h.shape
  subst hlv
  have HB := Lib.hid (implBlocks _ cs w h (by omega))
  have HOK := Lib.hid hok
  clear h hok hp
  go_enter Try.func47, Try.ntmps47
  go_wp2_with fail
  refine HB.out.mono ?_
  rintro e w1 ⟨va, vo, rfl, hbk, hb1⟩
  have hk := hbk HOK.out
  have hk0 := hk
  obtain ⟨A, O, ad, rfl, rfl, k1, k2, k3, k4, k5, _⟩ := hk0
  have hal := below_alloc w1 (.cells #[.slice la cs.length ln, .slice (some ⟨O, 0, none⟩) cs.length cs.length] 82)
  have hz1 := hb1.size
  have hc := fun o => cell_of_row (w1.alloc (.cells #[.slice la cs.length ln, .slice (some ⟨O, 0, none⟩) cs.length cs.length] 82)) w1.heap.size o _ _ (0, 0) (heap_alloc_new w1 _)
  have HF : Hid (Mach cs (w1.alloc (.cells #[.slice la cs.length ln, .slice (some ⟨O, 0, none⟩) cs.length cs.length] 82)) w.heap.size w1.heap.size (.slice la cs.length ln)) := Lib.hid ⟨_, _, _, hk.below hal, hz1, Nat.le_refl _, by simp, hc 0, hc 1⟩
  have HBF := Lib.hid (hb1.trans (hal.mono hz1))
  clear hk hbk hb1 hal hc HB
  go_wp2
  go_ret
  exact ⟨_, rfl, HF.out, HBF.out⟩
set_option maxRecDepth 100000 in
set_option maxHeartbeats 2000000 in
theorem canStep_any (B1 B2 Bm : Nat) (r t mv lv : Value) (l : Ln) (cs : List Cd) (ms : List Int) (id : Int) (w : World) (hr : OwI B1 w r l.regs) (ht : OwI B2 w t l.turns) (hm : OwI Bm w mv ms) (hc : RdC w lv cs)
    (hwr : ∀ x ∈ l.regs, (Lit.int .i64 x).wf = true) (hwt : ∀ x ∈ l.turns, (Lit.int .i64 x).wf = true) (hwm : ∀ x ∈ ms, (Lit.int .i64 x).wf = true) :
    Calls Try.prog 44 #[.agg #[r, .int .i64 l.pc, t, .bool l.waits], lv, .int .i64 id, mv] w fun e w' => e = .returned (.bool (stepOk l cs id ms)) ∧ Below w.heap.size w w' := by
  obtain ⟨ra, rc, hrv⟩ := own_shape hr
  obtain ⟨ta, tc, htv⟩ := own_shape ht
  obtain ⟨ma, mc, hmvv⟩ := own_shape hm
  subst hrv htv hmvv
  have h1 := below_alloc w (.cells #[.slice ra l.regs.length rc, .int .i64 l.pc, .slice ta l.turns.length tc, .bool l.waits] 31)
  have kr := hr.below h1
  have kt := ht.below h1
  have km := hm.below h1
  have kc := hc.below h1 (Nat.le_refl _)
  obtain ⟨V, hV⟩ : ∃ V, lValid l cs = V := ⟨_, rfl⟩
  obtain ⟨N, hN⟩ : ∃ V, memValid ms = V := ⟨_, rfl⟩
  obtain ⟨I, hI⟩ : ∃ V, inB id 0 7 = V := ⟨_, rfl⟩
  have hst : stepOk l cs id ms = (V && (N && I)) := by unfold stepOk; rw [hV, hN, hI]
  have HST := Lib.hid hst
  have HV := Lib.hid hV
  have HN := Lib.hid hN
  have HI := Lib.hid hI
  have HL := Lib.hid (implLaneValid _ _ lv l cs _ (rdI_of_owns kr hwr) (rdI_of_owns kt hwt) kc)
  have HKM := Lib.hid (rdI_of_owns km hwm)
  clear hst hV hN hI kr kt km kc hr ht hm hc hwr hwt hwm
  go_enter Try.func44, Try.ntmps44
  go_wp2_with fail
  refine HL.out.mono ?_
  rintro e w1 ⟨rfl, hb1⟩
  rw [HV.out]
  have hB1 := h1.trans (hb1.mono h1.size)
  have HM1 := Lib.hid (HKM.out.below hb1 (Nat.le_refl _))
  clear hb1 h1 HL HKM
  cases V
  · go_wp2
    go_ret
    exact ⟨by rw [HST.out]; rfl, hB1⟩
  · go_wp2_with fail
    refine (within_any id 0 7 w1).mono ?_
    rintro e w' ⟨rfl, rfl⟩
    rw [HI.out]
    cases I
    · go_wp2
      go_ret
      exact ⟨by rw [HST.out]; cases N <;> rfl, hB1⟩
    · go_wp2_with fail
      refine (implMemoryValid _ ms w1 HM1.out).mono ?_
      rintro e w' ⟨rfl, rfl⟩
      rw [HN.out]
      go_wp2
      go_ret
      exact ⟨by rw [HST.out]; cases N <;> rfl, hB1⟩
end Go.Proofs.Ytmjkjdibolcblaa
