/- YteephdbjhpbnjaaLBlockEnd: the program's BlockEnd returns what the reference's returns, for all arguments. No conditions. -/
import Derived.Test.YteephdbjhpbnjaaPgmC
import Derived.Test.YteephdbjhpbnjaaCodeO
namespace Go.Proofs.Yteephdbjhpbnjaa
open Go.ChangeShapes Go.WideShapes Go.ChangeAt Go.RowKit
set_option linter.unusedVariables false
set_option maxRecDepth 100000 in
set_option maxHeartbeats 2000000 in
theorem fnExactBlockEnd_walk (v : Value) (cs : List Cd) (i : Int) (w0 : World) (h : RdC w0 v cs) (hi : (Lit.int .i64 i).wf = true) : Calls Try.prog 12 #[v, .int .i64 i] w0 fun e w' => e = .returned (.bool true) ∧ Below w0.heap.size w0 w' := by
  obtain ⟨a, c, hv, hlc, hcm⟩ := h.shape
  subst hv
  have hB0 := Below.refl w0.heap.size w0
  have HSZ := Lib.hid (szCodeS_any _ cs 1048576 _ h (by omega))
  by_cases hn : cs.length ≤ 1048576
  · rw [if_neg (by omega)] at HSZ
    go_enter Try.func12, Try.ntmps12
    go_wp2_with fail
    refine HSZ.out.mono ?_
    rintro e w' ⟨rfl, rfl⟩
    go_wp2_with fail
    refine (toCodeS_any _ _ _ h hn).mono ?_
    rintro e w1 ⟨v1, rfl, ho1, hb1⟩
    have hB1 := hB0.trans (hb1.mono hB0.size)
    go_wp2_with fail
    refine (specBlockEnd _ cs i _ (rdC_of_owns ho1 h.2)).mono ?_
    rintro e w2 ⟨rfl, hb2⟩
    have hB2 := hB1.trans (hb2.mono hB1.size)
    go_wp2_with fail
    refine (toCodeS_any _ _ _ (h.below hB2 (Nat.le_refl _)) hn).mono ?_
    rintro e w3 ⟨v3, rfl, ho3, hb3⟩
    have hB3 := hB2.trans (hb3.mono hB2.size)
    go_wp2_with fail
    refine (implBlockEnd _ cs i _ (rdC_of_owns ho3 h.2)).mono ?_
    rintro e w4 ⟨rfl, hb4⟩
    have hB4 := hB3.trans (hb4.mono hB3.size)
    go_wp2_with fail
    refine (toCodeS_any _ _ _ (h.below hB4 (Nat.le_refl _)) hn).mono ?_
    rintro e w5 ⟨v5, rfl, ho5, hb5⟩
    have hB5 := hB4.trans (hb5.mono hB4.size)
    go_wp2_with fail
    refine (eqCodeS_same _ _ cs _ (((rdC_of_owns ho3 h.2).below hb4 (Nat.le_refl _)).below hb5 (Nat.le_refl _)) (rdC_of_owns ho5 h.2)).mono ?_
    rintro e w6 ⟨rfl, hb6⟩
    have hB6 := hB5.trans (hb6.mono hB5.size)
    go_wp2
    go_ret
    exact ⟨rfl, hB6⟩
  · rw [if_pos (by omega)] at HSZ
    go_enter Try.func12, Try.ntmps12
    go_wp2_with fail
    refine HSZ.out.mono ?_
    rintro e w' ⟨rfl, rfl⟩
    go_wp2
    go_ret
    exact ⟨rfl, hB0⟩
namespace fnExactBlockEnd
set_option linter.unusedVariables false
set_option maxRecDepth 100000 in
theorem lifted (os : Os) (started : os.Started) (H : Type) (enc : TypeId × Value → H) :
    ReturnsInHanded {} Try.checked os 12 .any (Rows.fnExactBlockEndSpec.pre6 enc Try.prog Try.f12 Rows.fnExactBlockEndRow.domain false) (Rows.fnExactBlockEndSpec.post enc Try.prog Try.f12 false true false false) := by
  refine returnsInHanded_of_change (C := Try.checked) own started (by kernel_rfl) Try.func12
    (ChangeSpec.witness6 (enc := enc) (C := Try.checked) false ⟨#[], #[.slice none 0 0, .int .i64 0], []⟩ 8 (by kernel_rfl) (by kernel_rfl) (by kernel_rfl) (by kernel_rfl)) ?_
  intro W base args ds gs before hval0 hW hcnd _
  have hval : ∀ (j : Nat) t v, Try.f12.params[j]? = some t → args[j]? = some v → Value.okWide Try.prog W .any base t v := hval0
  have hW' := hW
  obtain ⟨p, q, hA0, hV, rfl, hfz, hnd⟩ := hW
  have hA : DataW.TrodAll enc Try.prog W 0 (fun _ => true) true Try.f12.params.toList args.toList ds p := hA0
  rw [Try.params12] at hA hval
  obtain ⟨v0, vs0, d0, ds0, p0, q0, hargs, rfl, rfl, h0, r0⟩ := trodAll_cons hA
  obtain ⟨v1, vs1, d1, ds1, p1, q1, rfl, rfl, rfl, h1, r1⟩ := trodAll_cons r0
  obtain ⟨rfl, rfl, rfl⟩ := trodAll_nil r1
  obtain rfl : args = #[v0, v1] := by cases args; simp_all
  obtain ⟨rfl, rfl⟩ := trodVars_none hV
  have k0 := h0
  have lt0 : ∀ x ∈ p0, x.block < W.heap.size := by obtain ⟨m, hm⟩ := k0; exact DataW.trod_lt m _ _ _ hm
  obtain ⟨c0, w0⟩ := open_codes Try.underlying33 Try.underlying23 (by kernel_rfl) (by kernel_rfl) Try.underlying3 rfl rfl rfl rfl (hval 0 33 v0 rfl rfl) h0
  have k1 := h1
  have lt1 : ∀ x ∈ p1, x.block < W.heap.size := by obtain ⟨m, hm⟩ := k1; exact DataW.trod_lt m _ _ _ hm
  obtain ⟨a1, rfl, g1, e1, w1⟩ := open_int Try.underlying3 (hval 1 3 v1 rfl rfl) h1
  clear hA0 hval0
  refine (fnExactBlockEnd_walk v0 c0 a1 W w0 w1).mono fun e W' ⟨he, bel⟩ => ?_
  subst he
  exact ⟨_, rfl, _, _, _, [], _, [], hW', trodAll_mk1 (shut_bool Try.underlying4 _), (trodAll_cons_mk (Below.trod laidOut (by kernel_rfl) (of_decide_eq_true (by kernel_rfl)) k0 bel lt0) (trodAll_cons_mk (Below.trod laidOut (by kernel_rfl) (of_decide_eq_true (by kernel_rfl)) k1 bel lt1) trodAll_mk0)), rfl, bel.frame _, fun h => by cases h⟩
theorem over : Rows.fnExactBlockEndRow.holds Try.pinned (OpenSpec.ofChange Rows.fnExactBlockEndSpec) :=
  OpenClaim.holds_of_wide 12 Try.f12 rfl rfl rfl rfl rfl rfl rfl ⟨rfl, rfl, rfl, rfl, rfl⟩ rfl rfl rfl rfl rfl (by kernel_rfl) Try.func12 (by kernel_rfl)
    (of_decide_eq_true (by kernel_rfl)) (by unfold Func.isWrapper; first | (rw [if_pos (by decide +kernel)]; kernel_rfl) | (rw [if_neg (by decide +kernel)]; exact ⟨rfl, rfl⟩))
    (fun os started H enc _ => lifted os started H enc)
end fnExactBlockEnd
/-- The given statement on FnExactBlockEnd. -/
theorem fnExactBlockEnd_holds : Rows.FnExactBlockEndSaid := fnExactBlockEnd.over
#print axioms fnExactBlockEnd_holds
end Go.Proofs.Yteephdbjhpbnjaa
