/- YtjipalpachcamaaFCountOps: The numbers for all operations are together the number of instructions; there are as many OpEnd as OpIf and OpLoop. No conditions. -/
import Derived.Test.YtjipalpachcamaaDrawS
import Derived.Test.YtjipalpachcamaaLawC
import Derived.Test.YtjipalpachcamaaLawQ
import Derived.Test.YtjipalpachcamaaPgmC
import Derived.Test.YtjipalpachcamaaAlive
namespace Go.Proofs.Ytjipalpachcamaa
open Go.ChangeShapes Go.WideShapes Go.ChangeAt Go.RowKit
set_option linter.unusedVariables false
set_option maxRecDepth 100000 in
set_option maxHeartbeats 8000000 in
theorem fnCountOps_walk (v : Value) (bs : List Int) (w0 : World) (h : RdI .u8 w0 v bs) : Calls Try.prog 7 #[v] w0 fun e w' => e = .returned (.bool true) ∧ Below w0.heap.size w0 w' := by
  obtain ⟨ad, c, hv, hlc, hcm⟩ := h.shape
  subst hv
  have hB0 := Below.refl w0.heap.size w0
  by_cases hn : bs.length ≤ 1048576
  · go_enter Try.func7, Try.ntmps7
    go_wp2_with fail
    refine (DrawCountOps_any _ bs _ h).mono ?_
    rintro e w1 ⟨u, i, rfl, hi, cs, ho, hl, hc, hB1⟩
    have hO1 : OC w0.heap.size w1 u cs := ⟨ho, hc⟩
    clear h ho hc
    obtain ⟨P, hP⟩ : ∃ P, pValid cs = P := ⟨_, rfl⟩
    cases P
    · have HC := Lib.hid (count_no hP)
      clear hP
      go_wp2_with fail
      refine (implCountOps _ cs i _ hO1.rd).mono ?_
      rintro e w2 ⟨rfl, hb2⟩
      rw [HC.out]
      have hB2 := hB1.trans (hb2.mono hB1.size)
      have hO2 := hO1.below hb2
      clear hb2 hB1 hO1
      go_wp2_with fail
      refine (specCountOps _ cs i _ hO2.rd).mono ?_
      rintro e w3 ⟨rfl, hb3⟩
      rw [HC.out]
      have hB3 := hB2.trans (hb3.mono hB2.size)
      have hO3 := hO2.below hb3
      clear hb3 hB2 hO2
      go_wp2_with (go_at_call 18; refine (alive_any _).mono ?_; rintro e w' ⟨rfl, rfl⟩)
      go_ret
      exact ⟨rfl, hB3⟩
    · have hci := count_yes hP i
      obtain ⟨N, hN⟩ : ∃ N, cnt i cs = N := ⟨_, rfl⟩
      have hN40 : N ≤ 40 := by rw [← hN]; exact hci.2
      have HN := Lib.hid (show cCount cs i = (N : Int) by rw [hci.1, hN])
      have HP := Lib.hid hP
      have hl40 := pValid_len hP
      clear hP hci hN
      go_wp2_with fail
      refine (implCountOps _ cs i _ hO1.rd).mono ?_
      rintro e w2 ⟨rfl, hb2⟩
      rw [HN.out]
      have hB2 := hB1.trans (hb2.mono hB1.size)
      have hO2 := hO1.below hb2
      clear hb2 hB1 hO1
      go_wp2_with fail
      refine (specCountOps _ cs i _ hO2.rd).mono ?_
      rintro e w3 ⟨rfl, hb3⟩
      rw [HN.out]
      have hB3 := hB2.trans (hb3.mono hB2.size)
      have hO3 := hO2.below hb3
      clear hb3 hB2 hO2
      go_wp2_with fail
      go_loopg [6, 7] 14 (fun g s k wr => ∃ j : Nat, j + g = 14 ∧ k = .int .i64 ((j + 1 : Nat) : Int) ∧ s = .int .i64 (sumC cs j : Int) ∧ Below w0.heap.size w0 wr ∧ OC w0.heap.size wr u cs)
      case atStart => exact ⟨0, rfl, rfl, rfl, hB3, hO3⟩
      case round =>
        clear hB3 hO3
        obtain ⟨j, hj, rfl, rfl, hB3, hO3⟩ := hrel
        have hs40 := sumC_le HP.out j
        by_cases hlt : j < 14
        · have hcj := count_yes HP.out ((j + 1 : Nat) : Int)
          obtain ⟨M, hM⟩ : ∃ M, cnt ((j + 1 : Nat) : Int) cs = M := ⟨_, rfl⟩
          have hM40 : M ≤ 40 := by rw [← hM]; exact hcj.2
          have HM := Lib.hid (show cCount cs ((j : Int) + 1) = (M : Int) by rw [show (j : Int) + 1 = ((j + 1 : Nat) : Int) by omega, hcj.1, hM])
          have HS := Lib.hid (show ((sumC cs j + M : Nat) : Int) = (sumC cs (j + 1) : Nat) by rw [← hM]; rfl)
          clear hcj hM
          generalize sumC cs j = SJ at *
          go_wp2_with fail
          refine (implCountOps _ cs _ _ hO3.rd).mono ?_
          rintro e w4 ⟨rfl, hb4⟩
          rw [HM.out]
          have hB4 := hB3.trans (hb4.mono hB3.size)
          have hO4 := hO3.below hb4
          clear hb4 hB3 hO3
          go_wp2
          go_roundg (14 - (j + 1))
          case measure => omega
          case rel => exact ⟨j + 1, by omega, by go_num, by rw [← HS.out]; go_num, hB4, hO4⟩
        · obtain rfl : j = 14 := by omega
          have HS := Lib.hid (sumC_all HP.out)
          rw [HS.out] at hs40 ⊢
          have h14 := count_yes HP.out 14
          have h11 := count_yes HP.out 11
          have h13 := count_yes HP.out 13
          have hce := count_ends HP.out
          obtain ⟨a1, ha1⟩ : ∃ M, cnt 11 cs = M := ⟨_, rfl⟩
          obtain ⟨a2, ha2⟩ : ∃ M, cnt 13 cs = M := ⟨_, rfl⟩
          rw [hce] at h14
          rw [ha1, ha2] at h14
          rw [ha1] at h11
          rw [ha2] at h13
          have H14 := Lib.hid h14.1
          have H11 := Lib.hid h11.1
          have H13 := Lib.hid h13.1
          have hb1 := h11.2
          have hb2 := h13.2
          clear h14 h11 h13 hce ha1 ha2
          obtain ⟨au, cu, hu, _, _⟩ := hO3.shape
          subst hu
          go_wp2_with fail
          refine (implCountOps _ cs 14 _ hO3.rd).mono ?_
          rintro e w4 ⟨rfl, hb4⟩
          rw [H14.out]
          have hB4 := hB3.trans (hb4.mono hB3.size)
          have hO4 := hO3.below hb4
          clear hb4 hB3 hO3
          go_wp2_with fail
          refine (implCountOps _ cs 11 _ hO4.rd).mono ?_
          rintro e w5 ⟨rfl, hb5⟩
          rw [H11.out]
          have hB5 := hB4.trans (hb5.mono hB4.size)
          have hO5 := hO4.below hb5
          clear hb5 hB4 hO4
          go_wp2_with fail
          refine (implCountOps _ cs 13 _ hO5.rd).mono ?_
          rintro e w6 ⟨rfl, hb6⟩
          rw [H13.out]
          have hB6 := hB5.trans (hb6.mono hB5.size)
          have hO6 := hO5.below hb6
          clear hb6 hB5 hO5
          go_wp2
          go_ret
          exact ⟨rfl, hB6⟩
  · go_enter Try.func7, Try.ntmps7
    go_wp2
    go_ret
    exact ⟨rfl, hB0⟩
namespace fnCountOps
set_option linter.unusedVariables false
set_option maxRecDepth 100000 in
theorem lifted (os : Os) (started : os.Started) (H : Type) (enc : TypeId × Value → H) :
    ReturnsInHanded {} Try.checked os 7 .any (Rows.fnCountOpsSpec.pre6 enc Try.prog Try.f7 Rows.fnCountOpsRow.domain false) (Rows.fnCountOpsSpec.post enc Try.prog Try.f7 false true false false) := by
  refine returnsInHanded_of_change (C := Try.checked) own started (by kernel_rfl) Try.func7
    (ChangeSpec.witness6 (enc := enc) (C := Try.checked) false ⟨#[], #[.slice none 0 0], []⟩ 8 (by kernel_rfl) (by kernel_rfl) (by kernel_rfl) (by kernel_rfl)) ?_
  intro W base args ds gs before hval0 hW hcnd _
  have hval : ∀ (j : Nat) t v, Try.f7.params[j]? = some t → args[j]? = some v → Value.okWide Try.prog W .any base t v := hval0
  have hW' := hW
  obtain ⟨p, q, hA0, hV, rfl, hfz, hnd⟩ := hW
  have hA : DataW.TrodAll enc Try.prog W 0 (fun _ => true) true Try.f7.params.toList args.toList ds p := hA0
  rw [Try.params7] at hA hval
  obtain ⟨v0, vs0, d0, ds0, p0, q0, hargs, rfl, rfl, h0, r0⟩ := trodAll_cons hA
  obtain ⟨rfl, rfl, rfl⟩ := trodAll_nil r0
  obtain rfl : args = #[v0] := by cases args; simp_all
  obtain ⟨rfl, rfl⟩ := trodVars_none hV
  have k0 := h0
  have lt0 : ∀ x ∈ p0, x.block < W.heap.size := by obtain ⟨m, hm⟩ := k0; exact DataW.trod_lt m _ _ _ hm
  obtain ⟨z0, w0⟩ := open_rdI (kk := .u8) Try.underlying22 Try.underlying5 (by kernel_rfl) (hval 0 22 v0 rfl rfl) h0
  clear hA0 hval0
  refine (fnCountOps_walk v0 z0 W w0).mono fun e W' ⟨he, bel⟩ => ?_
  subst he
  exact ⟨_, rfl, _, _, _, [], _, [], hW', trodAll_mk1 (shut_bool Try.underlying4 _), (trodAll_cons_mk (Below.trod laidOut (by kernel_rfl) (of_decide_eq_true (by kernel_rfl)) k0 bel lt0) trodAll_mk0), rfl, bel.frame _, fun h => by cases h⟩
theorem over : Rows.fnCountOpsRow.holds Try.pinned (OpenSpec.ofChange Rows.fnCountOpsSpec) :=
  OpenClaim.holds_of_wide 7 Try.f7 rfl rfl rfl rfl rfl rfl rfl ⟨rfl, rfl, rfl, rfl, rfl⟩ rfl rfl rfl rfl rfl (by kernel_rfl) Try.func7 (by kernel_rfl)
    (of_decide_eq_true (by kernel_rfl)) (by unfold Func.isWrapper; first | (rw [if_pos (by decide +kernel)]; kernel_rfl) | (rw [if_neg (by decide +kernel)]; exact ⟨rfl, rfl⟩))
    (fun os started H enc _ => lifted os started H enc)
end fnCountOps
/-- The given statement on FnCountOps. -/
theorem fnCountOps_holds : Rows.FnCountOpsSaid := fnCountOps.over
#print axioms fnCountOps_holds
end Go.Proofs.Ytjipalpachcamaa
