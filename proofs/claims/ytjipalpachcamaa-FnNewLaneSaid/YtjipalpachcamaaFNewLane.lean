/- YtjipalpachcamaaFNewLane: new lanes are valid for every program; their registers are 0, and they are at the beginning. No conditions. -/
import Derived.Test.YtjipalpachcamaaDrawS
import Derived.Test.YtjipalpachcamaaLawC
import Derived.Test.YtjipalpachcamaaSameL
import Derived.Test.YtjipalpachcamaaLaneX
import Derived.Test.YtjipalpachcamaaAlive
namespace Go.Proofs.Ytjipalpachcamaa
open Go.ChangeShapes Go.WideShapes Go.ChangeAt Go.RowKit
set_option linter.unusedVariables false
theorem lValid_new (cs : List Cd) : lValid ln0 cs = pValid cs := by
  cases h : pValid cs with
  | false => exact lv_pv h
  | true =>
    rw [lv_all h rfl (inB_t ⟨by decide, by show (0 : Int) ≤ cs.length; omega⟩) rfl ⟨?_, ?_⟩]
    · rfl
    · show 0 = (loopsAt cs 0).length
      rw [loopsAt_eq (s := []) rfl]; rfl
    · intro i t p ht; simp [ln0] at ht
set_option maxRecDepth 100000 in
set_option maxHeartbeats 8000000 in
theorem fnNewLane_walk (v : Value) (bs : List Int) (w0 : World) (h : RdI .u8 w0 v bs) : Calls Try.prog 10 #[v] w0 fun e w' => e = .returned (.bool true) ∧ Below w0.heap.size w0 w' := by
  have hwf1 : ∀ x ∈ ln0.regs, (Lit.int .i64 x).wf = true := by intro x hx; simp [ln0] at hx; subst hx; rfl
  have hwf2 : ∀ x ∈ ln0.turns, (Lit.int .i64 x).wf = true := by intro x hx; simp [ln0] at hx
  have HW1 := Lib.hid hwf1
  have HW2 := Lib.hid hwf2
  clear hwf1 hwf2
  obtain ⟨ad, c, hv, hlc, hcm⟩ := h.shape
  subst hv
  have hB0 := Below.refl w0.heap.size w0
  by_cases hn : bs.length ≤ 1048576
  · go_enter Try.func10, Try.ntmps10
    go_wp2_with fail
    refine (implNewLane _).mono ?_
    rintro e w1 ⟨r1, t1, rfl, ho1, hb1⟩
    obtain ⟨ra1, rc1, hr1⟩ := own_shape ho1.1
    obtain ⟨ta1, tc1, ht1⟩ := own_shape ho1.2.1
    subst hr1 ht1
    have hX1 := Box4.new w1 (.slice ra1 ln0.regs.length rc1) (.int .i64 ln0.pc) (.slice ta1 ln0.turns.length tc1) (.bool ln0.waits) 45
    have hA1 := below_alloc w1 (.cells #[.slice ra1 ln0.regs.length rc1, .int .i64 ln0.pc, .slice ta1 ln0.turns.length tc1, .bool ln0.waits] 45)
    have hBA1 := hb1.trans (hA1.mono hb1.size)
    have hl1 := (ho1.below hA1 (Nat.le_refl _)).rd HW1.out HW2.out
    have hdat := h.below hBA1 (Nat.le_refl _)
    clear hA1 hb1 ho1 h
    go_upto_region 4 with fail
    generalize w1.alloc _ = wA at *
    have hX1' := hX1
    obtain ⟨p0, p1, p2, p3, pz⟩ := hX1'
    have HX := Lib.hid hX1
    have HL := Lib.hid hl1
    have HD := Lib.hid hdat
    have HBA := Lib.hid hBA1
    clear hX1 hl1 hdat hBA1
    go_cut [12] from 9 to 12 (fun v wr => v = .bool false ∧ Below wA.heap.size wA wr)
    case first =>
      go_region_with ((first | (go_at_call 38; refine (specNewLane _).mono ?_; rintro e w2 ⟨r2, t2, rfl, ho2, hb2⟩; have hbb : Below wA.heap.size wA w2 := ((Below.refl wA.heap.size wA).drew).trans hb2; obtain ⟨q0, q1, q2, q3, qz⟩ := HX.out.below hbb (Nat.le_refl _)) | (go_at_call 37; refine (sameLane_same _ _ ln0 _ (HL.out.below hbb (Nat.le_refl _)) (ho2.rd HW1.out HW2.out)).mono ?_; rintro e w3 ⟨rfl, hb3⟩)))
      all_goals
        go_wp2
        go_meet
        exact ⟨rfl, hbb.trans (hb3.mono hbb.size)⟩
    case rest =>
      obtain ⟨rfl, hb3⟩ := hcut
      generalize wc = w3 at hb3
      have hX3 := HX.out.below hb3 (Nat.le_refl _)
      have hl3 := HL.out.below hb3 (Nat.le_refl _)
      have hd3 := HD.out.below hb3 (Nat.le_refl _)
      have hB3 := HBA.out.trans (hb3.mono HBA.out.size)
      clear hb3 HX HL HD HBA p0 p1 p2 p3 pz
      go_wp2_with fail
      refine (DrawProgramValid_any _ bs _ hd3).mono ?_
      rintro e w4 ⟨u, rfl, cs, ho, hl, hc, hb4⟩
      have hO4 : OC w3.heap.size w4 u cs := ⟨ho, hc⟩
      have hX4 := hX3.below hb4 (Nat.le_refl _)
      have hl4 := hl3.below hb4 (Nat.le_refl _)
      have hB4 := hB3.trans (hb4.mono hB3.size)
      clear hb4 hX3 hl3 hd3 hB3 ho hc
      have HX4 := Lib.hid hX4
      obtain ⟨p0, p1, p2, p3, pz⟩ := hX4
      obtain ⟨r5, t5, hv5, hr5, ht5⟩ := hl4
      injection hv5 with hv5
      have e1 : Value.slice ra1 ln0.regs.length rc1 = r5 ∧ Value.slice ta1 ln0.turns.length tc1 = t5 := by
        have h5 := congrArg (fun (a : Array Value) => (a[0]?, a[2]?)) hv5
        simp at h5; exact h5
      obtain ⟨rfl, rfl⟩ := e1
      clear hv5
      have HV := Lib.hid (lValid_new cs)
      obtain ⟨P, hP⟩ : ∃ P, pValid cs = P := ⟨_, rfl⟩
      have HP := Lib.hid hP
      clear hP
      go_wp2_with fail
      refine (implLaneValid _ _ _ ln0 cs _ hr5 ht5 hO4.rd).mono ?_
      rintro e w5 ⟨rfl, hb5⟩
      rw [HV.out, HP.out]
      have hO5 := hO4.below hb5
      have hX5 := HX4.out.below hb5 (Nat.le_refl _)
      have hr6 := hr5.below hb5 (Nat.le_refl _)
      have hB5 := hB4.trans (hb5.mono hB4.size)
      clear hb5 hO4 hB4 HX4 hr5 ht5 p0 p1 p2 p3 pz
      go_wp2_with fail
      refine (specProgramValid _ cs _ hO5.rd).mono ?_
      rintro e w6 ⟨rfl, hb6⟩
      rw [HP.out]
      have hX6 := hX5.below hb6 (Nat.le_refl _)
      have hr7 := hr6.below hb6 (Nat.le_refl _)
      have hB6 := hB5.trans (hb6.mono hB5.size)
      clear hb6 hO5 hB5 hX5 hr6
      have HX6 := Lib.hid hX6
      obtain ⟨p0, p1, p2, p3, pz⟩ := hX6
      have hoE : (w6.alloc (.cells #[.int .i64 0, .int .i64 0, .int .i64 0, .int .i64 0] 3)).ownsRow w6.heap.size 3 1 (.slice (some ⟨w6.heap.size, 0, none⟩) 4 4) 4 (([0, 0, 0, 0] : List Int).map (Value.int .i64)) := World.ownsRow_lit w6 #[.int .i64 0, .int .i64 0, .int .i64 0, .int .i64 0] 4 (Nat.le_refl _) (by decide) rfl
      have hrE := rdI_of_owns hoE (by intro x hx; simp at hx; subst hx; rfl)
      have hbE := below_alloc w6 (.cells #[.int .i64 0, .int .i64 0, .int .i64 0, .int .i64 0] 3)
      have hr8 := hr7.below hbE (Nat.le_refl _)
      have hB7 := hB6.trans (hbE.mono hB6.size)
      have hX7 := HX6.out.below hbE (Nat.le_refl _)
      have HX7 := Lib.hid hX7
      clear hbE hoE hX7 hr7 hB6
      go_wp2_with fail
      refine (sameInts_same _ _ [0, 0, 0, 0] _ hr8 hrE).mono ?_
      rintro e w8 ⟨rfl, hb8⟩
      have hB8 := hB7.trans (hb8.mono hB7.size)
      have hX8 := HX7.out.below hb8 (Nat.le_refl _)
      clear hb8 hB7 HX7 hr8 hrE p0 p1 p2 p3 pz HX6
      obtain ⟨p0, p1, p2, p3, pz⟩ := hX8
      go_wp2_with (go_at_call 18; refine (alive_any _).mono ?_; rintro e w' ⟨rfl, rfl⟩)
      go_ret
      exact ⟨rfl, hB8⟩
  · go_enter Try.func10, Try.ntmps10
    go_wp2
    go_ret
    exact ⟨rfl, hB0⟩
namespace fnNewLane
set_option linter.unusedVariables false
set_option maxRecDepth 100000 in
theorem lifted (os : Os) (started : os.Started) (H : Type) (enc : TypeId × Value → H) :
    ReturnsInHanded {} Try.checked os 10 .any (Rows.fnNewLaneSpec.pre6 enc Try.prog Try.f10 Rows.fnNewLaneRow.domain false) (Rows.fnNewLaneSpec.post enc Try.prog Try.f10 false true false false) := by
  refine returnsInHanded_of_change (C := Try.checked) own started (by kernel_rfl) Try.func10
    (ChangeSpec.witness6 (enc := enc) (C := Try.checked) false ⟨#[], #[.slice none 0 0], []⟩ 8 (by kernel_rfl) (by kernel_rfl) (by kernel_rfl) (by kernel_rfl)) ?_
  intro W base args ds gs before hval0 hW hcnd _
  have hval : ∀ (j : Nat) t v, Try.f10.params[j]? = some t → args[j]? = some v → Value.okWide Try.prog W .any base t v := hval0
  have hW' := hW
  obtain ⟨p, q, hA0, hV, rfl, hfz, hnd⟩ := hW
  have hA : DataW.TrodAll enc Try.prog W 0 (fun _ => true) true Try.f10.params.toList args.toList ds p := hA0
  rw [Try.params10] at hA hval
  obtain ⟨v0, vs0, d0, ds0, p0, q0, hargs, rfl, rfl, h0, r0⟩ := trodAll_cons hA
  obtain ⟨rfl, rfl, rfl⟩ := trodAll_nil r0
  obtain rfl : args = #[v0] := by cases args; simp_all
  obtain ⟨rfl, rfl⟩ := trodVars_none hV
  have k0 := h0
  have lt0 : ∀ x ∈ p0, x.block < W.heap.size := by obtain ⟨m, hm⟩ := k0; exact DataW.trod_lt m _ _ _ hm
  obtain ⟨z0, w0⟩ := open_rdI (kk := .u8) Try.underlying22 Try.underlying5 (by kernel_rfl) (hval 0 22 v0 rfl rfl) h0
  clear hA0 hval0
  refine (fnNewLane_walk v0 z0 W w0).mono fun e W' ⟨he, bel⟩ => ?_
  subst he
  exact ⟨_, rfl, _, _, _, [], _, [], hW', trodAll_mk1 (shut_bool Try.underlying4 _), (trodAll_cons_mk (Below.trod laidOut (by kernel_rfl) (of_decide_eq_true (by kernel_rfl)) k0 bel lt0) trodAll_mk0), rfl, bel.frame _, fun h => by cases h⟩
theorem over : Rows.fnNewLaneRow.holds Try.pinned (OpenSpec.ofChange Rows.fnNewLaneSpec) :=
  OpenClaim.holds_of_wide 10 Try.f10 rfl rfl rfl rfl rfl rfl rfl ⟨rfl, rfl, rfl, rfl, rfl⟩ rfl rfl rfl rfl rfl (by kernel_rfl) Try.func10 (by kernel_rfl)
    (of_decide_eq_true (by kernel_rfl)) (by unfold Func.isWrapper; first | (rw [if_pos (by decide +kernel)]; kernel_rfl) | (rw [if_neg (by decide +kernel)]; exact ⟨rfl, rfl⟩))
    (fun os started H enc _ => lifted os started H enc)
end fnNewLane
/-- The given statement on FnNewLane. -/
theorem fnNewLane_holds : Rows.FnNewLaneSaid := fnNewLane.over
#print axioms fnNewLane_holds
end Go.Proofs.Ytjipalpachcamaa
