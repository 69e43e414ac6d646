/- YteephdbjhpbnjaaLCodeReads: the program's CodeReads returns what the reference's returns, for all arguments. No conditions. -/
import Derived.Test.YteephdbjhpbnjaaCodeN
import Derived.Test.YteephdbjhpbnjaaCodeO
namespace Go.Proofs.Yteephdbjhpbnjaa
open Go.ChangeShapes Go.WideShapes Go.ChangeAt Go.RowKit
set_option linter.unusedVariables false
set_option maxHeartbeats 1000000 in
theorem fnExactCodeReads_walk (c : Cd) (w0 : World) (hw : c.wf) : Calls Try.prog 7 #[.agg #[.int .i64 c.op, .int .i64 c.a, .int .i64 c.b, .int .i64 c.c]] w0 fun e w' => e = .returned (.bool true) ∧ Below w0.heap.size w0 w' := by
  go_enter Try.func7, Try.ntmps7
  go_wp2_with fail
  refine (toCode_any c _).mono ?_
  rintro e w1 ⟨rfl, hb1⟩
  go_wp2_with fail
  refine (specCodeReads c _).mono ?_
  rintro e w2 ⟨rfl, hb2⟩
  have hC2 := hb1.trans (hb2.mono hb1.size)
  obtain ⟨q0, q1, q2, q3, _⟩ := box_cells hC2
  clear hb1 hb2
  go_wp2_with fail
  refine (toCode_any c _).mono ?_
  rintro e w3 ⟨rfl, hb3⟩
  have hC3 := hC2.trans (hb3.mono hC2.size)
  clear q0 q1 q2 q3 hb3 hC2
  go_wp2_with fail
  refine (implCodeReads c _).mono ?_
  rintro e w4 ⟨rfl, hb4⟩
  have hC4 := hC3.trans (hb4.mono hC3.size)
  obtain ⟨q0, q1, q2, q3, hB⟩ := box_cells hC4
  clear hb4 hC3 hC4
  go_wp2
  go_ret
  exact ⟨rfl, hB⟩
namespace fnExactCodeReads
set_option linter.unusedVariables false
set_option maxRecDepth 100000 in
theorem lifted (os : Os) (started : os.Started) (H : Type) (enc : TypeId × Value → H) :
    ReturnsInHanded {} Try.checked os 7 .any (Rows.fnExactCodeReadsSpec.pre6 enc Try.prog Try.f7 Rows.fnExactCodeReadsRow.domain false) (Rows.fnExactCodeReadsSpec.post enc Try.prog Try.f7 false true false false) := by
  refine returnsInHanded_of_change (C := Try.checked) own started (by kernel_rfl) Try.func7
    (ChangeSpec.witness6 (enc := enc) (C := Try.checked) false ⟨#[], #[.agg #[.int .i64 0, .int .i64 0, .int .i64 0, .int .i64 0]], []⟩ 8 (by kernel_rfl) (by kernel_rfl) (by kernel_rfl) (by kernel_rfl)) ?_
  intro W base args ds gs before hval0 hW hcnd _
  have hval : ∀ (j : Nat) t v, Try.f7.params[j]? = some t → args[j]? = some v → Value.okWide Try.prog W .any base t v := hval0
  have hW' := hW
  obtain ⟨p, q, hA0, hV, rfl, hfz, hnd⟩ := hW
  have hA : DataW.TrodAll enc Try.prog W 0 (fun _ => true) true Try.f7.params.toList args.toList ds p := hA0
  rw [Try.params7] at hA hval
  obtain ⟨v0, vs0, d0, ds0, p0, q0, hargs, rfl, rfl, h0, r0⟩ := trodAll_cons hA
  obtain ⟨rfl, rfl, rfl⟩ := trodAll_nil r0
  obtain rfl : args = #[v0] := by cases args; simp_all
  obtain ⟨rfl, rfl⟩ := trodVars_none hV
  have k0 := h0
  have lt0 : ∀ x ∈ p0, x.block < W.heap.size := by obtain ⟨m, hm⟩ := k0; exact DataW.trod_lt m _ _ _ hm
  obtain ⟨c0, rfl, w0⟩ := open_code Try.underlying23 (by kernel_rfl) (by kernel_rfl) Try.underlying3 rfl rfl rfl rfl (hval 0 23 v0 rfl rfl) h0
  clear hA0 hval0
  refine (fnExactCodeReads_walk c0 W w0).mono fun e W' ⟨he, bel⟩ => ?_
  subst he
  exact ⟨_, rfl, _, _, _, [], _, [], hW', trodAll_mk1 (shut_bool Try.underlying4 _), (trodAll_cons_mk (Below.trod laidOut (by kernel_rfl) (of_decide_eq_true (by kernel_rfl)) k0 bel lt0) trodAll_mk0), rfl, bel.frame _, fun h => by cases h⟩
theorem over : Rows.fnExactCodeReadsRow.holds Try.pinned (OpenSpec.ofChange Rows.fnExactCodeReadsSpec) :=
  OpenClaim.holds_of_wide 7 Try.f7 rfl rfl rfl rfl rfl rfl rfl ⟨rfl, rfl, rfl, rfl, rfl⟩ rfl rfl rfl rfl rfl (by kernel_rfl) Try.func7 (by kernel_rfl)
    (of_decide_eq_true (by kernel_rfl)) (by unfold Func.isWrapper; first | (rw [if_pos (by decide +kernel)]; kernel_rfl) | (rw [if_neg (by decide +kernel)]; exact ⟨rfl, rfl⟩))
    (fun os started H enc _ => lifted os started H enc)
end fnExactCodeReads
/-- The given statement on FnExactCodeReads. -/
theorem fnExactCodeReads_holds : Rows.FnExactCodeReadsSaid := fnExactCodeReads.over
#print axioms fnExactCodeReads_holds
end Go.Proofs.Yteephdbjhpbnjaa
