/- YteephdbjhpbnjaaLCodeFrom: the program's CodeFrom returns what the reference's returns, for all arguments. No conditions. -/
import Derived.Test.YteephdbjhpbnjaaCodeF
import Derived.Test.YteephdbjhpbnjaaCodeO
namespace Go.Proofs.Yteephdbjhpbnjaa
open Go.ChangeShapes Go.WideShapes Go.ChangeAt Go.RowKit
set_option linter.unusedVariables false
set_option maxHeartbeats 1000000 in
theorem fnExactCodeFrom_walk (n : Int) (w0 : World) (hw : (Lit.int .i64 n).wf = true) : Calls Try.prog 6 #[.int .i64 n] w0 fun e w' => e = .returned (.bool true) ∧ Below w0.heap.size w0 w' := by
  have hn := (wf_bd hw).2
  obtain ⟨C, D, hV⟩ : ∃ (C : Cd) (D : Bool), cFromV n = .tuple #[.agg #[.int .i64 C.op, .int .i64 C.a, .int .i64 C.b, .int .i64 C.c], .bool D] := ⟨cFrom n, cFromOk n, rfl⟩
  have HV := Lib.hid hV
  clear hV
  go_enter Try.func6, Try.ntmps6
  go_wp2_with fail
  refine (specCodeFrom n _ hn).mono ?_
  rintro e w1 ⟨rfl, hb1⟩
  rw [HV.out]
  go_wp2_with fail
  refine (implCodeFrom n _ hn).mono ?_
  rintro e w2 ⟨rfl, hb2⟩
  rw [HV.out]
  obtain ⟨q0, q1, q2, q3, hB⟩ := box_cells hb2
  have hB2 := hb1.trans (hB.mono hb1.size)
  have hB3 := hB2.alloc hB2.size (.cells #[.int .i64 C.op, .int .i64 C.a, .int .i64 C.b, .int .i64 C.c] 25)
  have hs := hB.size
  have hs2 := hb2.size
  simp only [World.size_alloc] at hs2
  have hlt : w1.heap.size < w2.heap.size := by omega
  clear hs hs2
  clear hb1 hb2 hB hB2
  go_wp2_with fail
  refine (eqCode_same C _).mono ?_
  rintro e w3 ⟨rfl, hb3⟩
  have hB4 := hB3.trans (hb3.mono hB3.size)
  clear hb3 hB3 q0 q1 q2 q3
  go_wp2
  go_ret
  exact ⟨rfl, hB4⟩
namespace fnExactCodeFrom
set_option linter.unusedVariables false
set_option maxRecDepth 100000 in
theorem lifted (os : Os) (started : os.Started) (H : Type) (enc : TypeId × Value → H) :
    ReturnsInHanded {} Try.checked os 6 .any (Rows.fnExactCodeFromSpec.pre6 enc Try.prog Try.f6 Rows.fnExactCodeFromRow.domain false) (Rows.fnExactCodeFromSpec.post enc Try.prog Try.f6 false true false false) := by
  refine returnsInHanded_of_change (C := Try.checked) own started (by kernel_rfl) Try.func6
    (ChangeSpec.witness6 (enc := enc) (C := Try.checked) false ⟨#[], #[.int .i64 0], []⟩ 8 (by kernel_rfl) (by kernel_rfl) (by kernel_rfl) (by kernel_rfl)) ?_
  intro W base args ds gs before hval0 hW hcnd _
  have hval : ∀ (j : Nat) t v, Try.f6.params[j]? = some t → args[j]? = some v → Value.okWide Try.prog W .any base t v := hval0
  have hW' := hW
  obtain ⟨p, q, hA0, hV, rfl, hfz, hnd⟩ := hW
  have hA : DataW.TrodAll enc Try.prog W 0 (fun _ => true) true Try.f6.params.toList args.toList ds p := hA0
  rw [Try.params6] at hA hval
  obtain ⟨v0, vs0, d0, ds0, p0, q0, hargs, rfl, rfl, h0, r0⟩ := trodAll_cons hA
  obtain ⟨rfl, rfl, rfl⟩ := trodAll_nil r0
  obtain rfl : args = #[v0] := by cases args; simp_all
  obtain ⟨rfl, rfl⟩ := trodVars_none hV
  have k0 := h0
  have lt0 : ∀ x ∈ p0, x.block < W.heap.size := by obtain ⟨m, hm⟩ := k0; exact DataW.trod_lt m _ _ _ hm
  obtain ⟨a0, rfl, g0, e0, w0⟩ := open_int Try.underlying3 (hval 0 3 v0 rfl rfl) h0
  clear hA0 hval0
  refine (fnExactCodeFrom_walk a0 W w0).mono fun e W' ⟨he, bel⟩ => ?_
  subst he
  exact ⟨_, rfl, _, _, _, [], _, [], hW', trodAll_mk1 (shut_bool Try.underlying4 _), (trodAll_cons_mk (Below.trod laidOut (by kernel_rfl) (of_decide_eq_true (by kernel_rfl)) k0 bel lt0) trodAll_mk0), rfl, bel.frame _, fun h => by cases h⟩
theorem over : Rows.fnExactCodeFromRow.holds Try.pinned (OpenSpec.ofChange Rows.fnExactCodeFromSpec) :=
  OpenClaim.holds_of_wide 6 Try.f6 rfl rfl rfl rfl rfl rfl rfl ⟨rfl, rfl, rfl, rfl, rfl⟩ rfl rfl rfl rfl rfl (by kernel_rfl) Try.func6 (by kernel_rfl)
    (of_decide_eq_true (by kernel_rfl)) (by unfold Func.isWrapper; first | (rw [if_pos (by decide +kernel)]; kernel_rfl) | (rw [if_neg (by decide +kernel)]; exact ⟨rfl, rfl⟩))
    (fun os started H enc _ => lifted os started H enc)
end fnExactCodeFrom
/-- The given statement on FnExactCodeFrom. -/
theorem fnExactCodeFrom_holds : Rows.FnExactCodeFromSaid := fnExactCodeFrom.over
#print axioms fnExactCodeFrom_holds
end Go.Proofs.Yteephdbjhpbnjaa
