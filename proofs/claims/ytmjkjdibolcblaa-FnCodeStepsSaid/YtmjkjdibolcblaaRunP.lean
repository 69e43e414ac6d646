/- YtmjkjdibolcblaaRunP: plain laws on runs of a lane: step after step until it waits or is at the end. No Go function is walked here. No conditions. -/
import Derived.Test.YtmjkjdibolcblaaStepT
namespace Go.Proofs.Ytmjkjdibolcblaa
open Go.ChangeShapes Go.WideShapes Go.ChangeAt Go.RowKit
set_option linter.unusedVariables false
/-- A lane that goes on ends as L, the memory as M. -/
inductive Runs (cs : List Cd) (id : Int) : Ln → List Int → Ln → List Int → Prop
  | stop {l : Ln} {m : List Int} (h : (l.waits || (l.pc == cs.length)) = true) : Runs cs id l m l m
  | step {l : Ln} {m : List Int} {L : Ln} {M : List Int} (h : (l.waits || (l.pc == cs.length)) = false) (hr : Runs cs id (lstep cs id l m).1 (lstep cs id l m).2 L M) : Runs cs id l m L M
theorem runs_ex {cs : List Cd} {id : Int} (hp : pValid cs = true) (hid : 0 ≤ id ∧ id ≤ 7) : ∀ (n : Nat) (l : Ln) (m : List Int), LOK cs l → MOK m → lfar cs l < n → ∃ L M, Runs cs id l m L M ∧ LOK cs L ∧ MOK M ∧ (L.waits || (L.pc == cs.length)) = true := by
  intro n
  induction n with
  | zero => intro l m _ _ h; omega
  | succ n ih =>
    intro l m hl hm hn
    cases hs : (l.waits || (l.pc == cs.length)) with
    | true => exact ⟨l, m, .stop hs, hl, hm, hs⟩
    | false =>
      have hs2 := hs
      simp only [Bool.or_eq_false_iff, beq_eq_false_iff_ne] at hs2
      have hpc := hl.pc
      obtain ⟨h1, h2, h3⟩ := step_ok (id := id) hp hl hm hid (by have := hs2.2; omega)
      obtain ⟨L, M, h4, h5, h6, h7⟩ := ih _ _ h1 h2 (by omega)
      exact ⟨L, M, .step hs h4, h5, h6, h7⟩
theorem Runs.fun {cs : List Cd} {id : Int} {l : Ln} {m : List Int} {L L' : Ln} {M M' : List Int} (h : Runs cs id l m L M) : Runs cs id l m L' M' → L' = L ∧ M' = M := by
  induction h with
  | stop hs =>
    intro h
    cases h with
    | stop _ => exact ⟨rfl, rfl⟩
    | step hs2 _ => rw [hs] at hs2; cases hs2
  | step hs _ ih =>
    intro h
    cases h with
    | stop hs2 => rw [hs] at hs2; cases hs2
    | step _ hr => exact ih hr
theorem Runs.one {cs : List Cd} {id : Int} {l : Ln} {m : List Int} {L : Ln} {M : List Int} (h : Runs cs id l m L M) (hs : (l.waits || (l.pc == cs.length)) = false) : Runs cs id (lstep cs id l m).1 (lstep cs id l m).2 L M := by
  cases h with
  | stop hs2 => rw [hs] at hs2; cases hs2
  | step _ hr => exact hr
theorem Runs.done {cs : List Cd} {id : Int} {l : Ln} {m : List Int} {L : Ln} {M : List Int} (h : Runs cs id l m L M) (hs : (l.waits || (l.pc == cs.length)) = true) : L = l ∧ M = m := by
  cases h with
  | stop _ => exact ⟨rfl, rfl⟩
  | step hs2 _ => rw [hs] at hs2; cases hs2
theorem Runs.mlen {cs : List Cd} {id : Int} {l : Ln} {m : List Int} {L : Ln} {M : List Int} (h : Runs cs id l m L M) : M.length = m.length := by
  induction h with
  | stop _ => rfl
  | step _ _ ih => rw [ih]; exact lstep_mlen _ _ _ _
/-- What RunLane returns: L and M, or nothing for other arguments. -/
def RunV (l : Ln) (cs : List Cd) (id : Int) (ms : List Int) (L : Ln) (M : List Int) : Prop :=
  if stepOk l cs id ms then Runs cs id ⟨l.regs, l.pc, l.turns, false⟩ ms L M else L = lnZ ∧ M = []
theorem LOK.unwait {cs : List Cd} {l : Ln} (h : LOK cs l) : LOK cs ⟨l.regs, l.pc, l.turns, false⟩ := ⟨h.pc, h.len, h.regs, h.turns⟩
theorem runV_ex (l : Ln) (cs : List Cd) (id : Int) (ms : List Int) : ∃ L M, RunV l cs id ms L M := by
  unfold RunV
  cases hs : stepOk l cs id ms with
  | false => exact ⟨lnZ, [], by rw [if_neg (by simp)]; exact ⟨rfl, rfl⟩⟩
  | true =>
    unfold stepOk at hs
    simp only [Bool.and_eq_true] at hs
    obtain ⟨hp, hk, _⟩ := lValid_ok hs.1
    obtain ⟨L, M, h, _⟩ := runs_ex hp (inB_i hs.2.2) _ _ _ hk.unwait (memValid_ok hs.2.1) (Nat.lt_succ_self _)
    exact ⟨L, M, by rw [if_pos rfl]; exact h⟩
theorem RunV.fun {l : Ln} {cs : List Cd} {id : Int} {ms : List Int} {L L' : Ln} {M M' : List Int} (h : RunV l cs id ms L M) (h' : RunV l cs id ms L' M') : L' = L ∧ M' = M := by
  unfold RunV at h h'
  cases hs : stepOk l cs id ms with
  | false =>
    rw [hs, if_neg (by simp)] at h h'
    exact ⟨by rw [h.1, h'.1], by rw [h.2, h'.2]⟩
  | true =>
    rw [hs, if_pos rfl] at h h'
    exact h.fun h'
end Go.Proofs.Ytmjkjdibolcblaa
