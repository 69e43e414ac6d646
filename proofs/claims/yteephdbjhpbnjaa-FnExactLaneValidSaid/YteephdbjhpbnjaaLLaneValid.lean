/- YteephdbjhpbnjaaLLaneValid: the program's LaneValid returns what the reference's returns, for all arguments. No conditions. -/
import Derived.Test.YteephdbjhpbnjaaLaneX
import Derived.Test.YteephdbjhpbnjaaLaneO
namespace Go.Proofs.Yteephdbjhpbnjaa
open Go.ChangeShapes Go.WideShapes Go.ChangeAt Go.RowKit
set_option linter.unusedVariables false
set_option maxRecDepth 100000 in
set_option maxHeartbeats 4000000 in
theorem fnExactLaneValid_walk (r t : Value) (l : Ln) (v : Value) (cs : List Cd) (w0 : World) (hr : RdI .i64 w0 r l.regs) (ht : RdI .i64 w0 t l.turns) (hp : (Lit.int .i64 l.pc).wf = true) (h : RdC w0 v cs) : Calls Try.prog 13 #[.agg #[r, .int .i64 l.pc, t, .bool l.waits], v] w0 fun e w' => e = .returned (.bool true) ∧ Below w0.heap.size w0 w' := by
  have hb0 : Below w0.heap.size w0 (w0.alloc (.cells #[r, .int .i64 l.pc, t, .bool l.waits] 46)) := (Below.refl _ _).alloc (Nat.le_refl _) _
  have hX0 := Box4.new w0 r (.int .i64 l.pc) t (.bool l.waits) 46
  obtain ⟨a, c, hv, hlc, hcm⟩ := h.shape
  obtain ⟨ra, rn, hrv, _, _⟩ := hr.shape
  obtain ⟨ta, tn, htv, _, _⟩ := ht.shape
  have HR := Lib.hid hr
  have HT := Lib.hid ht
  have HC := Lib.hid h
  have HSZ := Lib.hid (szLane_any r t l 1048576 _ (hr.below hb0 (Nat.le_refl _)) (ht.below hb0 (Nat.le_refl _)) (by omega))
  subst hv hrv htv
  obtain ⟨K, hK⟩ : ∃ K, szLn l 1048576 = K := ⟨_, rfl⟩
  rw [hK] at HSZ
  have hKc : K < 0 ∨ (0 ≤ K ∧ K ≤ 1048576 ∧ l.regs.length ≤ 1048576 ∧ l.turns.length ≤ 1048576) := by
    rw [← hK]; unfold szLn
    split
    · left; omega
    · split
      · left; omega
      · right; omega
  clear hK hr ht
  rcases hKc with hKn | ⟨hK0, hK1, hn1, hn2⟩
  · go_enter Try.func13, Try.ntmps13
    go_wp2_with fail
    refine HSZ.out.mono ?_
    rintro e w1 ⟨rfl, hb1⟩
    have hB1 := hb0.trans (hb1.mono hb0.size)
    go_wp2
    go_ret
    exact ⟨rfl, hB1⟩
  by_cases hn : K < cs.length
  · go_enter Try.func13, Try.ntmps13
    go_wp2_with fail
    refine HSZ.out.mono ?_
    rintro e w1 ⟨rfl, hb1⟩
    have hB1 := hb0.trans (hb1.mono hb0.size)
    have HS2 := Lib.hid (szCodeS_any _ cs K w1 (HC.out.below hB1 (Nat.le_refl _)) ⟨hK0, hK1⟩)
    rw [if_pos (by omega)] at HS2
    go_wp2_with fail
    refine HS2.out.mono ?_
    rintro e w' ⟨rfl, rfl⟩
    go_wp2
    go_ret
    exact ⟨rfl, hB1⟩
  have hcn : cs.length ≤ 1048576 := by omega
  have hkn : ¬ K - cs.length < 0 := by omega
  have hwr := HR.out.2
  have hwt := HT.out.2
  have HWR := Lib.hid hwr
  have HWT := Lib.hid hwt
  have HWC := Lib.hid h.2
  clear hwr hwt h
  go_enter Try.func13, Try.ntmps13
  go_wp2_with fail
  refine HSZ.out.mono ?_
  rintro e w1 ⟨rfl, hb1⟩
  have hB1 := hb0.trans (hb1.mono hb0.size)
  have hX1 := hX0.below hb1 (Nat.le_refl _)
  have HS2 := Lib.hid (szCodeS_any _ cs K w1 (HC.out.below hB1 (Nat.le_refl _)) ⟨hK0, hK1⟩)
  rw [if_neg (by omega)] at HS2
  clear hX0 hb1 HSZ
  go_wp2_with fail
  refine HS2.out.mono ?_
  rintro e w' ⟨rfl, rfl⟩
  clear HS2
  obtain ⟨x0, x1, x2, x3, x4⟩ := id hX1
  go_wp2_with fail
  refine (toLane_any _ _ l w1 (HR.out.below hB1 (Nat.le_refl _)) (HT.out.below hB1 (Nat.le_refl _)) hn1 hn2).mono ?_
  rintro e w2 ⟨r2, t2, rfl, ho2, hb2⟩
  clear x0 x1 x2 x3 x4
  have hB2 := hB1.trans (hb2.mono hB1.size)
  have hX2 := hX1.below hb2 (Nat.le_refl _)
  go_wp2_with fail
  refine (toCodeS_any _ cs w2 (HC.out.below hB2 (Nat.le_refl _)) hcn).mono ?_
  rintro e w3 ⟨v3, rfl, ho3, hb3⟩
  have hB3 := hB2.trans (hb3.mono hB2.size)
  have hX3 := hX2.below hb3 (Nat.le_refl _)
  have ho23 := ho2.below hb3 (Nat.le_refl _)
  go_wp2_with fail
  refine (specLaneValid r2 t2 v3 l cs w3 (rdI_of_owns ho23.1 HWR.out) (rdI_of_owns ho23.2.1 HWT.out) (rdC_of_owns ho3 HWC.out)).mono ?_
  rintro e w4 ⟨rfl, hb4⟩
  have hB4 := hB3.trans (hb4.mono hB3.size)
  have hX4 := hX3.below hb4 (Nat.le_refl _)
  clear hX1 hX2 hX3 hb2 hb3 hb4 ho2 ho3 ho23
  obtain ⟨x0, x1, x2, x3, x4⟩ := id hX4
  go_wp2_with fail
  refine (toLane_any _ _ l w4 (HR.out.below hB4 (Nat.le_refl _)) (HT.out.below hB4 (Nat.le_refl _)) hn1 hn2).mono ?_
  rintro e w5 ⟨r5, t5, rfl, ho5, hb5⟩
  obtain ⟨a5, c5, hr5⟩ := own_shape ho5.1
  obtain ⟨b5, d5, ht5⟩ := own_shape ho5.2.1
  subst hr5 ht5
  clear x0 x1 x2 x3 x4
  have hB5 := hB4.trans (hb5.mono hB4.size)
  have hX5 := hX4.below hb5 (Nat.le_refl _)
  have hA5 := below_alloc w5 (.cells #[.slice a5 l.regs.length c5, .int .i64 l.pc, .slice b5 l.turns.length d5, .bool l.waits] 49)
  have hY5 := Box4.new w5 (.slice a5 l.regs.length c5) (.int .i64 l.pc) (.slice b5 l.turns.length d5) (.bool l.waits) 49
  have hBA5 := hB5.trans (hA5.mono hB5.size)
  have hXA5 := hX5.below hA5 (Nat.le_refl _)
  have hoA5 := ho5.below hA5 (Nat.le_refl _)
  have hxy : w0.heap.size < w5.heap.size := hX5.lt
  clear hX4 hX5 hb5 ho5 hA5
  go_wp2_with fail
  refine (toCodeS_any _ cs _ (HC.out.below hBA5 (Nat.le_refl _)) hcn).mono ?_
  rintro e w6 ⟨v6, rfl, ho6, hb6⟩
  have hB6 := hBA5.trans (hb6.mono hBA5.size)
  have hX6 := hXA5.below hb6 (Nat.le_refl _)
  have hY6 := hY5.below hb6 (Nat.le_refl _)
  have ho56 := hoA5.below hb6 (Nat.le_refl _)
  clear hXA5 hY5 hb6 hoA5
  obtain ⟨y0, y1, y2, y3, y4⟩ := id hY6
  go_wp2_with fail
  refine (implLaneValid _ _ v6 l cs w6 (rdI_of_owns ho56.1 HWR.out) (rdI_of_owns ho56.2.1 HWT.out) (rdC_of_owns ho6 HWC.out)).mono ?_
  rintro e w7 ⟨rfl, hb7⟩
  have hB7 := hB6.trans (hb7.mono hB6.size)
  have hX7 := hX6.below hb7 (Nat.le_refl _)
  have hY7 := hY6.below hb7 (Nat.le_refl _)
  have ho57 := ho56.below hb7 (Nat.le_refl _)
  have ho67 := owns_below ho6 hb7 (Nat.le_refl _)
  clear hX6 hY6 hb7 ho6 ho56 y0 y1 y2 y3 y4
  obtain ⟨x0, x1, x2, x3, x4⟩ := id hX7
  obtain ⟨y0, y1, y2, y3, y4⟩ := id hY7
  have HL := Lib.hid (ho57.rd HWR.out HWT.out)
  generalize lValid l cs = LV at *
  have hBd := hB7.drew
  have hRd := HR.out.below hBd (Nat.le_refl _)
  have hTd := HT.out.below hBd (Nat.le_refl _)
  have hdr : Below w7.heap.size w7 w7.drew := (Below.refl _ _).drew
  have hYd := hY7.below hdr (Nat.le_refl _)
  have hLd := HL.out.below hdr (Nat.le_refl _)
  have hCd := (rdC_of_owns ho67 HWC.out).below hdr (Nat.le_refl _)
  have HYd := Lib.hid hYd
  have HLd := Lib.hid hLd
  have HCd := Lib.hid hCd
  have HRd := Lib.hid hRd
  have HTd := Lib.hid hTd
  have HBd := Lib.hid hBd
  clear hBd hRd hTd hdr hYd hLd hCd hY7 hX7 hB7
  go_wp2_with fail
  go_region_with (first | (go_at_call 41; refine (toLane_any _ _ l _ HRd.out HTd.out hn1 hn2).mono ?_; rintro e w8 ⟨r8, t8, rfl, ho8, hb8⟩; obtain ⟨z0, z1, z2, z3, z4⟩ := HYd.out.below hb8 (Nat.le_refl _); have hB8 := HBd.out.trans (hb8.mono HBd.out.size); have hL8 := HLd.out.below hb8 (Nat.le_refl _); have hC8 := HCd.out.below hb8 (Nat.le_refl _)) | (go_at_call 43; refine (eqLane_same _ _ l _ hL8 (ho8.rd HWR.out HWT.out)).mono ?_; rintro e w9 ⟨rfl, hb9⟩; have hB9 := hB8.trans (hb9.mono hB8.size); have hC9 := hC8.below hb9 (Nat.le_refl _)))
  all_goals
    clear z0 z1 z2 z3 z4 hL8 hC8 hB8 hb8 hb9 ho8
    go_wp2_with fail
    refine (toCodeS_any _ cs _ (HC.out.below hB9 (Nat.le_refl _)) hcn).mono ?_
    rintro e wa ⟨va, rfl, hoa, hba⟩
    have hBa := hB9.trans (hba.mono hB9.size)
    go_wp2_with fail
    refine (eqCodeS_same _ _ cs _ (hC9.below hba (Nat.le_refl _)) (rdC_of_owns hoa HWC.out)).mono ?_
    rintro e wb ⟨rfl, hbb⟩
    have hBb := hBa.trans (hbb.mono hBa.size)
    go_wp2
    go_ret
    exact ⟨rfl, hBb⟩
namespace fnExactLaneValid
set_option linter.unusedVariables false
set_option maxRecDepth 100000 in
theorem lifted (os : Os) (started : os.Started) (H : Type) (enc : TypeId × Value → H) :
    ReturnsInHanded {} Try.checked os 13 .any (Rows.fnExactLaneValidSpec.pre6 enc Try.prog Try.f13 Rows.fnExactLaneValidRow.domain false) (Rows.fnExactLaneValidSpec.post enc Try.prog Try.f13 false true false false) := by
  refine returnsInHanded_of_change (C := Try.checked) own started (by kernel_rfl) Try.func13
    (ChangeSpec.witness6 (enc := enc) (C := Try.checked) false ⟨#[], #[.agg #[.slice none 0 0, .int .i64 0, .slice none 0 0, .bool false], .slice none 0 0], []⟩ 8 (by kernel_rfl) (by kernel_rfl) (by kernel_rfl) (by kernel_rfl)) ?_
  intro W base args ds gs before hval0 hW hcnd _
  have hval : ∀ (j : Nat) t v, Try.f13.params[j]? = some t → args[j]? = some v → Value.okWide Try.prog W .any base t v := hval0
  have hW' := hW
  obtain ⟨p, q, hA0, hV, rfl, hfz, hnd⟩ := hW
  have hA : DataW.TrodAll enc Try.prog W 0 (fun _ => true) true Try.f13.params.toList args.toList ds p := hA0
  rw [Try.params13] at hA hval
  obtain ⟨v0, vs0, d0, ds0, p0, q0, hargs, rfl, rfl, h0, r0⟩ := trodAll_cons hA
  obtain ⟨v1, vs1, d1, ds1, p1, q1, rfl, rfl, rfl, h1, r1⟩ := trodAll_cons r0
  obtain ⟨rfl, rfl, rfl⟩ := trodAll_nil r1
  obtain rfl : args = #[v0, v1] := by cases args; simp_all
  obtain ⟨rfl, rfl⟩ := trodVars_none hV
  have k0 := h0
  have lt0 : ∀ x ∈ p0, x.block < W.heap.size := by obtain ⟨m, hm⟩ := k0; exact DataW.trod_lt m _ _ _ hm
  obtain ⟨ra0, ta0, c0, rfl, w0, wt0, wp0⟩ := open_lane Try.underlying46 (by kernel_rfl) (by kernel_rfl) Try.underlying44 Try.underlying3 Try.underlying4 (by kernel_rfl) rfl rfl rfl rfl (hval 0 46 v0 rfl rfl) h0
  have k1 := h1
  have lt1 : ∀ x ∈ p1, x.block < W.heap.size := by obtain ⟨m, hm⟩ := k1; exact DataW.trod_lt m _ _ _ hm
  obtain ⟨c1, w1⟩ := open_codes Try.underlying33 Try.underlying23 (by kernel_rfl) (by kernel_rfl) Try.underlying3 rfl rfl rfl rfl (hval 1 33 v1 rfl rfl) h1
  clear hA0 hval0
  refine (fnExactLaneValid_walk ra0 ta0 c0 v1 c1 W w0 wt0 wp0 w1).mono fun e W' ⟨he, bel⟩ => ?_
  subst he
  exact ⟨_, rfl, _, _, _, [], _, [], hW', trodAll_mk1 (shut_bool Try.underlying4 _), (trodAll_cons_mk (Below.trod laidOut (by kernel_rfl) (of_decide_eq_true (by kernel_rfl)) k0 bel lt0) (trodAll_cons_mk (Below.trod laidOut (by kernel_rfl) (of_decide_eq_true (by kernel_rfl)) k1 bel lt1) trodAll_mk0)), rfl, bel.frame _, fun h => by cases h⟩
theorem over : Rows.fnExactLaneValidRow.holds Try.pinned (OpenSpec.ofChange Rows.fnExactLaneValidSpec) :=
  OpenClaim.holds_of_wide 13 Try.f13 rfl rfl rfl rfl rfl rfl rfl ⟨rfl, rfl, rfl, rfl, rfl⟩ rfl rfl rfl rfl rfl (by kernel_rfl) Try.func13 (by kernel_rfl)
    (of_decide_eq_true (by kernel_rfl)) (by unfold Func.isWrapper; first | (rw [if_pos (by decide +kernel)]; kernel_rfl) | (rw [if_neg (by decide +kernel)]; exact ⟨rfl, rfl⟩))
    (fun os started H enc _ => lifted os started H enc)
end fnExactLaneValid
/-- The given statement on FnExactLaneValid. -/
theorem fnExactLaneValid_holds : Rows.FnExactLaneValidSaid := fnExactLaneValid.over
#print axioms fnExactLaneValid_holds
end Go.Proofs.Yteephdbjhpbnjaa
