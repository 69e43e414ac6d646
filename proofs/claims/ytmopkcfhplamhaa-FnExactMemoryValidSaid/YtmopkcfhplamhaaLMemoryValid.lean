/- YtmopkcfhplamhaaLMemoryValid: the program's MemoryValid returns what the reference's returns, for all arguments. No conditions. -/
import Derived.Test.YtmopkcfhplamhaaMaskOf
namespace Go.Proofs.Ytmopkcfhplamhaa
open Go.ChangeShapes Go.WideShapes Go.ChangeAt Go.RowKit
set_option linter.unusedVariables false
set_option maxHeartbeats 1000000 in
theorem fnExactMemoryValid_walk (v : Value) (xs : List Int) (w0 : World) (h : RdI .i64 w0 v xs) : Calls Try.prog 9 #[v] w0 fun e w' => e = .returned (.bool true) ∧ Below w0.heap.size w0 w' := by
  obtain ⟨a, c, hv, hlc, hcm⟩ := h.shape
  subst hv
  have hB0 := Below.refl w0.heap.size w0
  by_cases hn : xs.length ≤ 1048576
  · go_enter Try.func9, Try.ntmps9
    go_wp2_with fail
    refine (toIntS_any _ _ _ h hn).mono ?_
    rintro e w1 ⟨v1, rfl, ho1, hb1⟩
    have hB1 := hB0.trans (hb1.mono hB0.size)
    go_wp2_with fail
    refine (specMemoryValid _ _ _ (rdI_of_owns ho1 h.2)).mono ?_
    rintro e w' ⟨rfl, rfl⟩
    go_wp2_with fail
    refine (toIntS_any _ _ _ (h.below hB1 (Nat.le_refl _)) hn).mono ?_
    rintro e w2 ⟨v2, rfl, ho2, hb2⟩
    have hB2 := hB1.trans (hb2.mono hB1.size)
    go_wp2_with fail
    refine (implMemoryValid _ _ _ (rdI_of_owns ho2 h.2)).mono ?_
    rintro e w' ⟨rfl, rfl⟩
    go_wp2_with fail
    refine (toIntS_any _ _ _ (h.below hB2 (Nat.le_refl _)) hn).mono ?_
    rintro e w3 ⟨v3, rfl, ho3, hb3⟩
    have hB3 := hB2.trans (hb3.mono hB2.size)
    go_wp2_with fail
    refine (eqIntS_same _ _ xs _ ((rdI_of_owns ho2 h.2).below hb3 (Nat.le_refl _)) (rdI_of_owns ho3 h.2)).mono ?_
    rintro e w4 ⟨rfl, hb4⟩
    have hB4 := hB3.trans (hb4.mono hB3.size)
    go_wp2
    go_ret
    exact ⟨rfl, hB4⟩
  · go_enter Try.func9, Try.ntmps9
    go_wp2
    go_ret
    exact ⟨rfl, hB0⟩
namespace fnExactMemoryValid
set_option linter.unusedVariables false
set_option maxRecDepth 100000 in
theorem lifted (os : Os) (started : os.Started) (H : Type) (enc : TypeId × Value → H) :
    ReturnsInHanded {} Try.checked os 9 .any (Rows.fnExactMemoryValidSpec.pre6 enc Try.prog Try.f9 Rows.fnExactMemoryValidRow.domain false) (Rows.fnExactMemoryValidSpec.post enc Try.prog Try.f9 false true false false) := by
  refine returnsInHanded_of_change (C := Try.checked) own started (by kernel_rfl) Try.func9
    (ChangeSpec.witness6 (enc := enc) (C := Try.checked) false ⟨#[], #[.slice none 0 0], []⟩ 8 (by kernel_rfl) (by kernel_rfl) (by kernel_rfl) (by kernel_rfl)) ?_
  intro W base args ds gs before hval0 hW hcnd _
  have hval : ∀ (j : Nat) t v, Try.f9.params[j]? = some t → args[j]? = some v → Value.okWide Try.prog W .any base t v := hval0
  have hW' := hW
  obtain ⟨p, q, hA0, hV, rfl, hfz, hnd⟩ := hW
  have hA : DataW.TrodAll enc Try.prog W 0 (fun _ => true) true Try.f9.params.toList args.toList ds p := hA0
  rw [Try.params9] at hA hval
  obtain ⟨v0, vs0, d0, ds0, p0, q0, hargs, rfl, rfl, h0, r0⟩ := trodAll_cons hA
  obtain ⟨rfl, rfl, rfl⟩ := trodAll_nil r0
  obtain rfl : args = #[v0] := by cases args; simp_all
  obtain ⟨rfl, rfl⟩ := trodVars_none hV
  have k0 := h0
  have lt0 : ∀ x ∈ p0, x.block < W.heap.size := by obtain ⟨m, hm⟩ := k0; exact DataW.trod_lt m _ _ _ hm
  obtain ⟨z0, w0⟩ := open_rdI (kk := .i64) Try.underlying27 Try.underlying3 (by kernel_rfl) (hval 0 27 v0 rfl rfl) h0
  clear hA0 hval0
  refine (fnExactMemoryValid_walk v0 z0 W w0).mono fun e W' ⟨he, bel⟩ => ?_
  subst he
  exact ⟨_, rfl, _, _, _, [], _, [], hW', trodAll_mk1 (shut_bool Try.underlying4 _), (trodAll_cons_mk (Below.trod laidOut (by kernel_rfl) (of_decide_eq_true (by kernel_rfl)) k0 bel lt0) trodAll_mk0), rfl, bel.frame _, fun h => by cases h⟩
theorem over : Rows.fnExactMemoryValidRow.holds Try.pinned (OpenSpec.ofChange Rows.fnExactMemoryValidSpec) :=
  OpenClaim.holds_of_wide 9 Try.f9 rfl rfl rfl rfl rfl rfl rfl ⟨rfl, rfl, rfl, rfl, rfl⟩ rfl rfl rfl rfl rfl (by kernel_rfl) Try.func9 (by kernel_rfl)
    (of_decide_eq_true (by kernel_rfl)) (by unfold Func.isWrapper; first | (rw [if_pos (by decide +kernel)]; kernel_rfl) | (rw [if_neg (by decide +kernel)]; exact ⟨rfl, rfl⟩))
    (fun os started H enc _ => lifted os started H enc)
end fnExactMemoryValid
/-- The given statement on FnExactMemoryValid. -/
theorem fnExactMemoryValid_holds : Rows.FnExactMemoryValidSaid := fnExactMemoryValid.over
#print axioms fnExactMemoryValid_holds
end Go.Proofs.Ytmopkcfhplamhaa
