/- YtmopkcfhplamhaaLNewLane: the program's NewLane returns what the reference's returns, in memory of its own. No conditions. -/
import Derived.Test.YtmopkcfhplamhaaLane0
namespace Go.Proofs.Ytmopkcfhplamhaa
open Go.ChangeShapes Go.WideShapes Go.ChangeAt Go.RowKit
set_option linter.unusedVariables false
set_option maxHeartbeats 1000000 in
theorem fnExactNewLane_walk (w0 : World) : Calls Try.prog 12 #[] w0 fun e w' => e = .returned (.bool true) ∧ Below w0.heap.size w0 w' := by
  have hB0 := Below.refl w0.heap.size w0
  have hwf1 : ∀ x ∈ ln0.regs, (Lit.int .i64 x).wf = true := by intro x hx; simp [ln0] at hx; subst hx; rfl
  have hwf2 : ∀ x ∈ ln0.turns, (Lit.int .i64 x).wf = true := by intro x hx; simp [ln0] at hx
  go_enter Try.func12, Try.ntmps12
  go_wp2_with fail
  refine (specNewLane _).mono ?_
  rintro e w1 ⟨r1, t1, rfl, ho1, hb1⟩
  have hB1 := hB0.trans (hb1.mono hB0.size)
  obtain ⟨ra1, rc1, hr1⟩ := own_shape ho1.1
  obtain ⟨ta1, tc1, ht1⟩ := own_shape ho1.2.1
  subst hr1 ht1
  obtain ⟨o1, ho1e⟩ : ∃ o : Obj, o = .cells #[.slice ra1 ln0.regs.length rc1, .int .i64 ln0.pc, .slice ta1 ln0.turns.length tc1, .bool ln0.waits] 35 := ⟨_, rfl⟩
  have hX1 := Box4.new w1 (.slice ra1 ln0.regs.length rc1) (.int .i64 ln0.pc) (.slice ta1 ln0.turns.length tc1) (.bool ln0.waits) 35
  have hA1 := below_alloc w1 o1
  rw [ho1e] at hA1
  have hBA1 := hB1.trans (hA1.mono hB1.size)
  go_wp2_with fail
  refine (implNewLane _).mono ?_
  rintro e w2 ⟨r2, t2, rfl, ho2, hb2⟩
  obtain ⟨ra2, rc2, hr2⟩ := own_shape ho2.1
  obtain ⟨ta2, tc2, ht2⟩ := own_shape ho2.2.1
  subst hr2 ht2
  have hB2 := hBA1.trans (hb2.mono hBA1.size)
  have hX12 := hX1.below hb2 (Nat.le_refl _)
  obtain ⟨p0, p1, p2, p3, pz⟩ := hX12
  obtain ⟨o2, ho2e⟩ : ∃ o : Obj, o = .cells #[.slice ra2 ln0.regs.length rc2, .int .i64 ln0.pc, .slice ta2 ln0.turns.length tc2, .bool ln0.waits] 35 := ⟨_, rfl⟩
  have hA2 := below_alloc w2 o2
  have hX2 := Box4.new w2 (.slice ra2 ln0.regs.length rc2) (.int .i64 ln0.pc) (.slice ta2 ln0.turns.length tc2) (.bool ln0.waits) 35
  rw [ho2e] at hA2
  clear ho1e ho2e
  have hBA2 := hB2.trans (hA2.mono hB2.size)
  have hl2 := ((ho2.below hA2 (Nat.le_refl _)).rd hwf1 hwf2)
  have hC12 := (hA1.trans (hb2.mono hA1.size)).trans (hA2.mono (Nat.le_trans hA1.size hb2.size))
  have hl1 := ((ho1.below hC12 (Nat.le_refl _)).rd hwf1 hwf2)
  have hXA := (hX1.below hb2 (Nat.le_refl _)).below hA2 (Nat.le_refl _)
  go_wp2_with fail
  refine (eqLane_same _ _ ln0 _ hl2 hl1).mono ?_
  rintro e w3 ⟨rfl, hb3⟩
  clear p0 p1 p2 p3 pz
  have hB3 := hBA2.trans (hb3.mono hBA2.size)
  have hX13 := hXA.below hb3 (Nat.le_refl _)
  have hX23 := hX2.below hb3 (Nat.le_refl _)
  have hC13 := hC12.trans (hb3.mono hC12.size)
  have ho3 := (ho2.below hA2 (Nat.le_refl _)).below hb3 (Nat.le_refl _)
  have hz2 := hA1.size
  have hz3 := hb2.size
  have hz4 := hA2.size
  have hz5 := hb3.size
  obtain ⟨p0, p1, p2, p3, pz⟩ := hX23
  go_wp2_with fail
  refine (markLane_any _ _ ln0 1 (w1.alloc (.cells #[.slice ra1 ln0.regs.length rc1, .int .i64 ln0.pc, .slice ta1 ln0.turns.length tc1, .bool ln0.waits] 35)).heap.size _ ho3 (by decide) (by decide) (by omega) (by omega)).mono ?_
  rintro e w4 ⟨rfl, ho4, hw4⟩
  clear p0 p1 p2 p3 pz
  have hq : ∀ k, (Value.ownBlock (.slice ra2 ln0.regs.length rc2) = some k ∨ Value.ownBlock (.slice ta2 ln0.turns.length tc2) = some k) → (w1.alloc (.cells #[.slice ra1 ln0.regs.length rc1, .int .i64 ln0.pc, .slice ta1 ln0.turns.length tc1, .bool ln0.waits] 35)).heap.size ≤ k ∧ k < w2.heap.size := by
    intro k hk
    rcases hk with hk | hk
    · exact ⟨own_ge ho2.1 k hk, own_lt ho2.1 k hk⟩
    · exact ⟨own_ge ho2.2.1 k hk, own_lt ho2.2.1 k hk⟩
  have hb4 := hw4.below (B := (w1.alloc (.cells #[.slice ra1 ln0.regs.length rc1, .int .i64 ln0.pc, .slice ta1 ln0.turns.length tc1, .bool ln0.waits] 35)).heap.size) (by omega) (fun k hk => (hq k hk).1)
  have hX14 := hX13.wr hw4 (fun hk => by have := (hq _ hk).1; simp at this; omega)
  have hX24 := (hX2.below hb3 (Nat.le_refl _)).wr hw4 (fun hk => by have := (hq _ hk).2; omega)
  have hB4 := hB3.trans (hb4.mono hBA1.size)
  have hC14 := hC13.trans (hb4.mono hA1.size)
  have hm1 : ∀ x ∈ marks 1 4, (Lit.int .i64 x).wf = true := marks_wf (by omega) (by omega)
  have hr4 := ho4.rd hm1 (by intro x hx; cases hx)
  clear hX13 hX1 hX2 hXA
  obtain ⟨p0, p1, p2, p3, pz⟩ := id hX24
  go_wp2_with fail
  refine (heldLane_any _ 4 0 _ _ 1 _ hr4 (by decide) (by decide) (by omega) (by omega)).mono ?_
  rintro e w5 ⟨rfl, hb5⟩
  clear p0 p1 p2 p3 pz
  have hB5 := hB4.trans (hb5.mono hB4.size)
  go_wp2_with fail
  refine (implNewLane _).mono ?_
  rintro e w6 ⟨r6, t6, rfl, ho6, hb6⟩
  obtain ⟨ra6, rc6, hr6⟩ := own_shape ho6.1
  obtain ⟨ta6, tc6, ht6⟩ := own_shape ho6.2.1
  subst hr6 ht6
  have hB6 := hB5.trans (hb6.mono hB5.size)
  obtain ⟨o6, ho6e⟩ : ∃ o : Obj, o = .cells #[.slice ra6 ln0.regs.length rc6, .int .i64 ln0.pc, .slice ta6 ln0.turns.length tc6, .bool ln0.waits] 35 := ⟨_, rfl⟩
  have hA6 := below_alloc w6 o6
  rw [ho6e] at hA6
  clear ho6e
  have hBA6 := hB6.trans (hA6.mono hB6.size)
  have hC16 := hC14.trans (((hb5.trans (hb6.mono hb5.size)).trans (hA6.mono (Nat.le_trans hb5.size hb6.size))).mono hC14.size)
  have hl16 := ((ho1.below hC16 (Nat.le_refl _)).rd hwf1 hwf2)
  have hl6 := ((ho6.below hA6 (Nat.le_refl _)).rd hwf1 hwf2)
  have hX16 := (hX14.below hb5 (Nat.le_refl _)).below hb6 (Nat.le_refl _)
  obtain ⟨p0, p1, p2, p3, pz⟩ := hX16
  go_wp2_with fail
  refine (eqLane_same _ _ ln0 _ hl6 hl16).mono ?_
  rintro e w7 ⟨rfl, hb7⟩
  clear p0 p1 p2 p3 pz
  have hB7 := hBA6.trans (hb7.mono hBA6.size)
  have hX27 := (((hX24.below hb5 (Nat.le_refl _)).below hb6 (Nat.le_refl _)).below hA6 (Nat.le_refl _)).below hb7 (Nat.le_refl _)
  have hr7 := (((hr4.below hb5 (Nat.le_refl _)).below hb6 (Nat.le_refl _)).below hA6 (Nat.le_refl _)).below hb7 (Nat.le_refl _)
  obtain ⟨p0, p1, p2, p3, pz⟩ := hX27
  go_wp2_with fail
  refine (heldLane_any _ 4 0 _ _ 1 _ hr7 (by decide) (by decide) (by omega) (by omega)).mono ?_
  rintro e w8 ⟨rfl, hb8⟩
  clear p0 p1 p2 p3 pz
  have hB8 := hB7.trans (hb8.mono hB7.size)
  go_wp2
  go_ret
  exact ⟨rfl, hB8⟩
namespace fnExactNewLane
set_option linter.unusedVariables false
set_option maxRecDepth 100000 in
theorem lifted (os : Os) (started : os.Started) (H : Type) (enc : TypeId × Value → H) :
    ReturnsInHanded {} Try.checked os 12 .any (Rows.fnExactNewLaneSpec.pre6 enc Try.prog Try.f12 Rows.fnExactNewLaneRow.domain false) (Rows.fnExactNewLaneSpec.post enc Try.prog Try.f12 false true false false) := by
  refine returnsInHanded_of_change (C := Try.checked) own started (by kernel_rfl) Try.func12
    (ChangeSpec.witness6 (enc := enc) (C := Try.checked) false ⟨#[], #[], []⟩ 8 (by kernel_rfl) (by kernel_rfl) (by kernel_rfl) (by kernel_rfl)) ?_
  intro W base args ds gs before hval0 hW hcnd _
  have hval : ∀ (j : Nat) t v, Try.f12.params[j]? = some t → args[j]? = some v → Value.okWide Try.prog W .any base t v := hval0
  have hW' := hW
  obtain ⟨p, q, hA0, hV, rfl, hfz, hnd⟩ := hW
  have hA : DataW.TrodAll enc Try.prog W 0 (fun _ => true) true Try.f12.params.toList args.toList ds p := hA0
  rw [Try.params12] at hA hval
  obtain ⟨rfl, rfl, rfl⟩ := trodAll_none hA
  obtain ⟨rfl, rfl⟩ := trodVars_none hV
  clear hA0 hval0
  refine (fnExactNewLane_walk W).mono fun e W' ⟨he, bel⟩ => ?_
  subst he
  exact ⟨_, rfl, _, _, _, [], [], [], hW', trodAll_mk1 (shut_bool Try.underlying4 _), trodAll_mk0, rfl, bel.frame _, fun h => by cases h⟩
theorem over : Rows.fnExactNewLaneRow.holds Try.pinned (OpenSpec.ofChange Rows.fnExactNewLaneSpec) :=
  OpenClaim.holds_of_wide 12 Try.f12 rfl rfl rfl rfl rfl rfl rfl ⟨rfl, rfl, rfl, rfl, rfl⟩ rfl rfl rfl rfl rfl (by kernel_rfl) Try.func12 (by kernel_rfl)
    (of_decide_eq_true (by kernel_rfl)) (by unfold Func.isWrapper; first | (rw [if_pos (by decide +kernel)]; kernel_rfl) | (rw [if_neg (by decide +kernel)]; exact ⟨rfl, rfl⟩))
    (fun os started H enc _ => lifted os started H enc)
end fnExactNewLane
/-- The given statement on FnExactNewLane. -/
theorem fnExactNewLane_holds : Rows.FnExactNewLaneSaid := fnExactNewLane.over
#print axioms fnExactNewLane_holds
end Go.Proofs.Ytmopkcfhplamhaa
