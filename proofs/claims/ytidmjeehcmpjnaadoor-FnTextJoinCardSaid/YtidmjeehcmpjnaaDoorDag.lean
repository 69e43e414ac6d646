/- YtidmjeehcmpjnaaDoorDag: a region that draws its order: shown by a relation on what has been carried out so far, each operation once. No Go function is walked here. No conditions. -/
import Derived.Test.YtidmjeehcmpjnaaDoorDrawM
namespace Go.Proofs.YtidmjeehcmpjnaaDoor
open Go.ChangeShapes Go.WideShapes Go.ChangeAt Go.RowKit
set_option linter.unusedVariables false
section
variable {P : Program} {ops : Array Oper} {Q : Exit → Act → World → Prop} {md : Region.Mode}
theorem upon_mono {o : Oper} {a : Act} {K K' : Act → World → Prop} {Q' : Exit → Act → World → Prop} (hk : ∀ a w, K a w → K' a w) (hq : ∀ e a w, e ≠ .normal → Q e a w → Q' e a w) {r : Result Next} (h : o.upon P a K Q r) : o.upon P a K' Q' r := by
  cases r with
  | ok n w' =>
    cases n with
    | value v => exact hk _ _ h
    | skip => exact hk _ _ h
    | defer d => exact hk _ _ h
    | enter f args =>
      refine Calls.mono (show Calls P f args w' _ from h) (fun e w'' he => ?_)
      cases e with
      | returned v => exact hk _ _ he
      | panicked c => exact hq _ _ _ (by simp) he
      | outgrown => obtain ⟨a2, w2, h2⟩ := he; exact ⟨a2, w2, hq _ _ _ (by simp) h2⟩
    | row row args => exact Rows.mono (show Rows P row args w' _ from h) (fun _ _ he => hk _ _ he)
    | _ => exact False.elim h
  | halt x w' =>
    cases x with
    | panic v => exact hq _ _ _ (by simp) h
    | _ => exact False.elim h
/-- One operation, walked as a list of one. -/
theorem wpOp_list {i : Nat} {o : Oper} {K : Act → World → Prop} {a : Act} {w : World} (ho : ops[i]? = some o)
    (h : ∀ K' : Act → World → Prop, (∀ a w, K a w → K' a w) → wpList P ops (Exit.then K' Q) [o] a w) : wpOp P ops Q i K a w := by
  have h1 := h K (fun _ _ h => h)
  unfold wpOp
  rw [ho]
  unfold wpList at h1
  show if Region.wanted o (yielded ops a.tmps) = true then _ else _
  have hq : ∀ e a w, e ≠ .normal → Exit.then K Q e a w → Q e a w := by
    intro e a w he hh
    cases e <;> first | exact absurd rfl he | exact hh
  split
  · rename_i hw
    rw [if_pos hw] at h1
    rcases h1 with h1 | ⟨h1, a2, w2, h2⟩
    · exact .inl (upon_mono (fun a w hh => hh) hq h1)
    · exact .inr ⟨h1, a2, w2, hq _ _ _ (by simp) h2⟩
  · rename_i hw
    rw [if_neg hw] at h1
    exact h1
theorem ready_mem {L : Array Bool} {i : Nat} (h : i ∈ Region.ready md ops L) : i < ops.size ∧ L.getD i true = false ∧ ((ops[i]?).map (·.after.all fun e => !Region.binds md e || L.getD e.on false)).getD false = true := by
  unfold Region.ready at h
  rw [List.mem_filter, List.mem_range, Bool.and_eq_true, Bool.not_eq_true'] at h
  exact ⟨h.1, h.2.1, h.2.2⟩
theorem ready_all {L : Array Bool} (i : Nat) (h : Region.ready md ops L = []) (hi : i < ops.size) (hd : ((ops[i]?).map (·.after.all fun e => !Region.binds md e || L.getD e.on false)).getD false = true) : L.getD i true = true := by
  cases hL : L.getD i true with
  | true => rfl
  | false =>
    have : i ∈ Region.ready md ops L := by
      unfold Region.ready
      rw [List.mem_filter, List.mem_range, Bool.and_eq_true, Bool.not_eq_true']
      exact ⟨hi, hL, hd⟩
    rw [h] at this
    cases this
def left (L : Array Bool) : Nat := L.toList.countP (fun b => !b)
theorem left_set_lt {L : Array Bool} {i : Nat} (h : L.getD i true = false) : left (L.setIfInBounds i true) < left L := by
  unfold left
  rw [Array.toList_setIfInBounds]
  have hi : i < L.toList.length ∧ L.toList[i]? = some false := by
    unfold Array.getD at h
    split at h
    · rename_i hlt
      refine ⟨by simpa using hlt, ?_⟩
      simp only [Array.getInternal_eq_getElem] at h
      rw [Array.getElem?_toList, Array.getElem?_eq_getElem hlt, h]
    · cases h
  generalize L.toList = l at hi
  clear h
  induction l generalizing i with
  | nil => simp at hi
  | cons x r ih =>
    cases i with
    | zero =>
      have hx : x = false := by simpa using hi.2
      subst hx
      simp
    | succ i =>
      have := ih (i := i) ⟨by have := hi.1; simp at this; omega, by simpa using hi.2⟩
      simp only [List.set_cons_succ, List.countP_cons]
      omega
theorem ready_none {L : Array Bool} (hs : ops.size = L.size) (h : left L = 0) : Region.ready md ops L = [] := by
  rw [List.eq_nil_iff_forall_not_mem]
  intro i hi
  have := left_set_lt (ready_mem hi).2.1
  omega
theorem wpAny_dag (I : Array Bool → Act → World → Prop) (step : ∀ L a w, I L a w → ∀ i ∈ Region.ready md ops L, wpOp P ops Q i (fun a' w' => I (L.setIfInBounds i true) a' w') a w)
    (done : ∀ L a w, I L a w → Region.ready md ops L = [] → Q .normal a w) : ∀ (fuel : Nat) (L : Array Bool) (a : Act) (w : World), ops.size = L.size → left L ≤ fuel → I L a w → wpAny P md ops Q fuel L a w := by
  intro fuel
  induction fuel with
  | zero =>
    intro L a w hs hl hI
    have := ready_none (md := md) hs (Nat.le_zero.1 hl)
    exact ⟨this, done L a w hI this⟩
  | succ fuel ih =>
    intro L a w hs hl hI
    refine ⟨fun hr => done L a w hI hr, fun i hi => wpOp_mono (fun a' w' h => ih _ a' w' (by simpa using hs) ?_ h) (step L a w hI i hi)⟩
    have := left_set_lt (ready_mem hi).2.1
    omega
theorem region_dag {id : Nat} {a : Act} {w : World} (hm : P.follows .mixedOrders = true) (I : Array Bool → Act → World → Prop) (start : I (Array.replicate ops.size false) a { w with drawn := w.drawn + 1 })
    (step : ∀ L a w, I L a w → ∀ i ∈ Region.ready .any ops L, wpOp P ops Q i (fun a' w' => I (L.setIfInBounds i true) a' w') a w)
    (done : ∀ L a w, I L a w → Region.ready .any ops L = [] → Q .normal a w) : (Code.region id ops true).wp P Q a w := by
  refine wp_region_any hm (wpAny_dag I step done _ _ _ _ (by simp) ?_ start)
  unfold left
  exact Nat.le_trans List.countP_le_length (by simp)
end
end Go.Proofs.YtidmjeehcmpjnaaDoor
