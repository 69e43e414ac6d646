/- YtmopkcfhplamhaaLMaskLanes: the program's MaskLanes returns what the reference's returns, for all arguments, in memory of its own. No conditions. -/
import Derived.Test.YtmopkcfhplamhaaMasks
namespace Go.Proofs.Ytmopkcfhplamhaa
open Go.ChangeShapes Go.WideShapes Go.ChangeAt Go.RowKit
set_option linter.unusedVariables false
set_option maxHeartbeats 1000000 in
theorem fnExactMaskLanes_walk (m l : Int) (w0 : World) (_ : (Lit.int .i64 m).wf = true) (_ : (Lit.int .i64 l).wf = true) : Calls Try.prog 13 #[.int .i64 m, .int .i64 l] w0 fun e w' => e = .returned (.bool true) ∧ Below w0.heap.size w0 w' := by
  obtain ⟨L, hL⟩ : ∃ L, L = (if maskValid m l then lanesL m l.toNat else []) := ⟨_, rfl⟩
  have hwf : ∀ x ∈ L, (Lit.int .i64 x).wf = true := by
    rw [hL]
    by_cases hv : maskValid m l = true
    · rw [if_pos hv]; exact lanesL_wf m (by have := (maskValid_i hv).2.1; omega)
    · rw [if_neg hv]; simp
  have hlen : L.length ≤ 8 := by
    rw [hL]
    by_cases hv : maskValid m l = true
    · rw [if_pos hv]; have := (maskValid_i hv).2.1; have := lanesL_le m l.toNat; omega
    · rw [if_neg hv]; simp
  have hs : ∀ w, Calls Try.prog 38 #[.int .i64 m, .int .i64 l] w (NewI w L) := by rw [hL]; exact specMaskLanes m l
  have hi : ∀ w, Calls Try.prog 39 #[.int .i64 m, .int .i64 l] w (NewI w L) := by rw [hL]; exact implMaskLanes m l
  have HS := Lib.hid hs
  have HI := Lib.hid hi
  have HW := Lib.hid hwf
  clear hL hs hi hwf
  have hB0 := Below.refl w0.heap.size w0
  go_enter Try.func13, Try.ntmps13
  go_wp2_with fail
  refine (HS.out _).mono ?_
  rintro e w1 ⟨v1, rfl, ho1, hb1⟩
  have hB1 := hB0.trans (hb1.mono hB0.size)
  go_wp2_with fail
  refine (HI.out _).mono ?_
  rintro e w2 ⟨v2, rfl, ho2, hb2⟩
  have hB2 := hB1.trans (hb2.mono hB1.size)
  go_wp2_with fail
  refine (eqIntS_same _ _ L _ (rdI_of_owns ho2 HW.out) ((rdI_of_owns ho1 HW.out).below hb2 (Nat.le_refl _))).mono ?_
  rintro e w3 ⟨rfl, hb3⟩
  have hB3 := hB2.trans (hb3.mono hB2.size)
  go_wp2_with fail
  have ho3 := owns_below ho2 hb3 (Nat.le_refl _)
  refine (markIntS_any _ L 1 w1.heap.size _ ho3 (by omega) (by omega) (by omega)).mono ?_
  rintro e w4 ⟨rfl, ho4, hwr4⟩
  have hb4 : Below w1.heap.size w3 w4 := hwr4.below (by have := hb2.size; have := hb3.size; omega) (own_ge ho3)
  have hB4 := hB3.trans (hb4.mono hB1.size)
  have hC4 : Below w1.heap.size w1 w4 := (hb2.trans (hb3.mono hb2.size)).trans hb4
  rw [marks_length] at ho4
  have hr4 : RdI .i64 w4 v2 (marks 1 L.length) := rdI_of_owns (by rw [marks_length]; exact ho4) (marks_wf (by omega) (by omega))
  go_wp2_with fail
  refine (heldIntS_any _ L.length 1 _ hr4 (by omega) (by omega)).mono ?_
  rintro e w5 ⟨rfl, hb5⟩
  have hB5 := hB4.trans (hb5.mono hB4.size)
  go_wp2_with fail
  refine (HI.out _).mono ?_
  rintro e w6 ⟨v6, rfl, ho6, hb6⟩
  have hB6 := hB5.trans (hb6.mono hB5.size)
  have hC6 := hC4.trans ((hb5.trans (hb6.mono hb5.size)).mono hC4.size)
  go_wp2_with fail
  refine (eqIntS_same _ _ L _ (rdI_of_owns ho6 HW.out) ((rdI_of_owns ho1 HW.out).below hC6 (Nat.le_refl _))).mono ?_
  rintro e w7 ⟨rfl, hb7⟩
  have hB7 := hB6.trans (hb7.mono hB6.size)
  have hD7 := (hb5.trans (hb6.mono hb5.size)).trans (hb7.mono (Nat.le_trans hb5.size hb6.size))
  go_wp2_with fail
  refine (heldIntS_any _ L.length 1 _ (hr4.below hD7 (Nat.le_refl _)) (by omega) (by omega)).mono ?_
  rintro e w8 ⟨rfl, hb8⟩
  have hB8 := hB7.trans (hb8.mono hB7.size)
  go_wp2
  go_ret
  exact ⟨rfl, hB8⟩
namespace fnExactMaskLanes
set_option linter.unusedVariables false
set_option maxRecDepth 100000 in
theorem lifted (os : Os) (started : os.Started) (H : Type) (enc : TypeId × Value → H) :
    ReturnsInHanded {} Try.checked os 13 .any (Rows.fnExactMaskLanesSpec.pre6 enc Try.prog Try.f13 Rows.fnExactMaskLanesRow.domain false) (Rows.fnExactMaskLanesSpec.post enc Try.prog Try.f13 false true false false) := by
  refine returnsInHanded_of_change (C := Try.checked) own started (by kernel_rfl) Try.func13
    (ChangeSpec.witness6 (enc := enc) (C := Try.checked) false ⟨#[], #[.int .i64 0, .int .i64 0], []⟩ 8 (by kernel_rfl) (by kernel_rfl) (by kernel_rfl) (by kernel_rfl)) ?_
  intro W base args ds gs before hval0 hW hcnd _
  have hval : ∀ (j : Nat) t v, Try.f13.params[j]? = some t → args[j]? = some v → Value.okWide Try.prog W .any base t v := hval0
  have hW' := hW
  obtain ⟨p, q, hA0, hV, rfl, hfz, hnd⟩ := hW
  have hA : DataW.TrodAll enc Try.prog W 0 (fun _ => true) true Try.f13.params.toList args.toList ds p := hA0
  rw [Try.params13] at hA hval
  obtain ⟨v0, vs0, d0, ds0, p0, q0, hargs, rfl, rfl, h0, r0⟩ := trodAll_cons hA
  obtain ⟨v1, vs1, d1, ds1, p1, q1, rfl, rfl, rfl, h1, r1⟩ := trodAll_cons r0
  obtain ⟨rfl, rfl, rfl⟩ := trodAll_nil r1
  obtain rfl : args = #[v0, v1] := by cases args; simp_all
  obtain ⟨rfl, rfl⟩ := trodVars_none hV
  have k0 := h0
  have lt0 : ∀ x ∈ p0, x.block < W.heap.size := by obtain ⟨m, hm⟩ := k0; exact DataW.trod_lt m _ _ _ hm
  obtain ⟨a0, rfl, g0, e0, w0⟩ := open_int Try.underlying3 (hval 0 3 v0 rfl rfl) h0
  have k1 := h1
  have lt1 : ∀ x ∈ p1, x.block < W.heap.size := by obtain ⟨m, hm⟩ := k1; exact DataW.trod_lt m _ _ _ hm
  obtain ⟨a1, rfl, g1, e1, w1⟩ := open_int Try.underlying3 (hval 1 3 v1 rfl rfl) h1
  clear hA0 hval0
  refine (fnExactMaskLanes_walk a0 a1 W w0 w1).mono fun e W' ⟨he, bel⟩ => ?_
  subst he
  exact ⟨_, rfl, _, _, _, [], _, [], hW', trodAll_mk1 (shut_bool Try.underlying4 _), (trodAll_cons_mk (Below.trod laidOut (by kernel_rfl) (of_decide_eq_true (by kernel_rfl)) k0 bel lt0) (trodAll_cons_mk (Below.trod laidOut (by kernel_rfl) (of_decide_eq_true (by kernel_rfl)) k1 bel lt1) trodAll_mk0)), rfl, bel.frame _, fun h => by cases h⟩
theorem over : Rows.fnExactMaskLanesRow.holds Try.pinned (OpenSpec.ofChange Rows.fnExactMaskLanesSpec) :=
  OpenClaim.holds_of_wide 13 Try.f13 rfl rfl rfl rfl rfl rfl rfl ⟨rfl, rfl, rfl, rfl, rfl⟩ rfl rfl rfl rfl rfl (by kernel_rfl) Try.func13 (by kernel_rfl)
    (of_decide_eq_true (by kernel_rfl)) (by unfold Func.isWrapper; first | (rw [if_pos (by decide +kernel)]; kernel_rfl) | (rw [if_neg (by decide +kernel)]; exact ⟨rfl, rfl⟩))
    (fun os started H enc _ => lifted os started H enc)
end fnExactMaskLanes
/-- The given statement on FnExactMaskLanes. -/
theorem fnExactMaskLanes_holds : Rows.FnExactMaskLanesSaid := fnExactMaskLanes.over
#print axioms fnExactMaskLanes_holds
end Go.Proofs.Ytmopkcfhplamhaa
