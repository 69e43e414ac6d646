/- YtjipalpachcamaaFProgramValid: a valid program with a further OpEnd, or with a block that is not closed, is invalid. No conditions. -/
import Derived.Test.YtjipalpachcamaaDrawS
import Derived.Test.YtjipalpachcamaaLawC
import Derived.Test.YtjipalpachcamaaPgmI
import Derived.Test.YtjipalpachcamaaAlive
namespace Go.Proofs.Ytjipalpachcamaa
open Go.ChangeShapes Go.WideShapes Go.ChangeAt Go.RowKit
set_option linter.unusedVariables false
set_option maxHeartbeats 4000000 in
theorem fnProgramValid_walk (v : Value) (bs : List Int) (w0 : World) (h : RdI .u8 w0 v bs) : Calls Try.prog 6 #[v] w0 fun e w' => e = .returned (.bool true) ∧ Below w0.heap.size w0 w' := by
  obtain ⟨ad, c, hv, hlc, hcm⟩ := h.shape
  subst hv
  have hB0 := Below.refl w0.heap.size w0
  by_cases hn : bs.length ≤ 1048576
  · go_enter Try.func6, Try.ntmps6
    go_wp2_with fail
    refine (DrawProgramValid_any _ bs _ h).mono ?_
    rintro e w1 ⟨u, rfl, cs, ho, hl, hc, hB1⟩
    have hO1 : OC w0.heap.size w1 u cs := ⟨ho, hc⟩
    obtain ⟨P, hP⟩ : ∃ P, pValid cs = P := ⟨_, rfl⟩
    have HP := Lib.hid hP
    clear hP h ho hc
    go_wp2_with fail
    refine (implProgramValid _ cs _ hO1.rd).mono ?_
    rintro e w2 ⟨rfl, hb2⟩
    rw [HP.out]
    have hB2 := hB1.trans (hb2.mono hB1.size)
    have hO2 := hO1.below hb2
    clear hb2 hB1 hO1
    go_wp2_with fail
    refine (specProgramValid _ cs _ hO2.rd).mono ?_
    rintro e w3 ⟨rfl, hb3⟩
    rw [HP.out]
    have hB3 := hB2.trans (hb3.mono hB2.size)
    have hO3 := hO2.below hb3
    clear hb3 hB2 hO2
    cases P
    · go_wp2_with (go_at_call 18; refine (alive_any _).mono ?_; rintro e w' ⟨rfl, rfl⟩)
      go_ret
      exact ⟨rfl, hB3⟩
    · have H1 := Lib.hid (pValid_more HP.out 0 0 0)
      have H2 := Lib.hid (pValid_left HP.out 0 0 0)
      have hz3 := hB3.size
      go_wp2_with (at_builtin; refine wpList_ocL _ (by rfl) _ _ rfl [] (by simp) _ rfl hO3 (by simp) (by omega) rfl rfl ?_)
      intro v5 w5 hO5 hb5
      have hz5 := hb5.size
      go_wp2_with (at_builtin; refine wpList_ocR _ (by rfl) _ _ rfl [⟨14, 0, 0, 0⟩] (by unfold cdIn; simp) _ rfl hO5 (by omega) (by omega) (by simp) rfl rfl ?_)
      intro v6 w6 hO6 hb6
      have hbb := hb5.trans hb6
      have hq6 := hO3.below hbb
      have hB6 := hB3.trans (hbb.mono hB3.size)
      clear hb5 hO5 hb6 hbb hB3 hO3
      go_wp2_with fail
      refine (implProgramValid _ _ _ hO6.rd).mono ?_
      rintro e w7 ⟨rfl, hb7⟩
      rw [H1.out]
      have hB7 := hB6.trans (hb7.mono hB6.size)
      have hq7 := hq6.below hb7
      clear hb7 hB6 hq6
      clear hO6
      have hz7 := hB7.size
      go_wp2_with (at_builtin; refine wpList_ocL _ (by rfl) _ _ rfl [⟨11, 0, 0, 0⟩] (by unfold cdIn; simp) _ rfl hq7 (by simp) (by omega) rfl rfl ?_)
      intro v8 w8 hO8 hb8
      have hB8 := hB7.trans (hb8.mono hB7.size)
      clear hb8 hB7 hq7
      go_wp2_with fail
      refine (implProgramValid _ _ _ hO8.rd).mono ?_
      rintro e w9 ⟨rfl, hb9⟩
      rw [H2.out]
      have hB9 := hB8.trans (hb9.mono hB8.size)
      clear hb9 hB8 
      clear hO8
      go_wp2_with fail
      refine (implProgramValid (.slice none 0 0) [] _ ⟨⟨rfl, none, 0, rfl, Nat.le_refl _, by simp [maxLen], fun h => absurd h (by simp)⟩, by simp⟩).mono ?_
      rintro e w10 ⟨rfl, hb10⟩
      rw [pValid_nil]
      have hB10 := hB9.trans (hb10.mono hB9.size)
      clear hb10 hB9 
      go_wp2
      go_ret
      exact ⟨rfl, hB10⟩
  · go_enter Try.func6, Try.ntmps6
    go_wp2
    go_ret
    exact ⟨rfl, hB0⟩
namespace fnProgramValid
set_option linter.unusedVariables false
set_option maxRecDepth 100000 in
theorem lifted (os : Os) (started : os.Started) (H : Type) (enc : TypeId × Value → H) :
    ReturnsInHanded {} Try.checked os 6 .any (Rows.fnProgramValidSpec.pre6 enc Try.prog Try.f6 Rows.fnProgramValidRow.domain false) (Rows.fnProgramValidSpec.post enc Try.prog Try.f6 false true false false) := by
  refine returnsInHanded_of_change (C := Try.checked) own started (by kernel_rfl) Try.func6
    (ChangeSpec.witness6 (enc := enc) (C := Try.checked) false ⟨#[], #[.slice none 0 0], []⟩ 8 (by kernel_rfl) (by kernel_rfl) (by kernel_rfl) (by kernel_rfl)) ?_
  intro W base args ds gs before hval0 hW hcnd _
  have hval : ∀ (j : Nat) t v, Try.f6.params[j]? = some t → args[j]? = some v → Value.okWide Try.prog W .any base t v := hval0
  have hW' := hW
  obtain ⟨p, q, hA0, hV, rfl, hfz, hnd⟩ := hW
  have hA : DataW.TrodAll enc Try.prog W 0 (fun _ => true) true Try.f6.params.toList args.toList ds p := hA0
  rw [Try.params6] at hA hval
  obtain ⟨v0, vs0, d0, ds0, p0, q0, hargs, rfl, rfl, h0, r0⟩ := trodAll_cons hA
  obtain ⟨rfl, rfl, rfl⟩ := trodAll_nil r0
  obtain rfl : args = #[v0] := by cases args; simp_all
  obtain ⟨rfl, rfl⟩ := trodVars_none hV
  have k0 := h0
  have lt0 : ∀ x ∈ p0, x.block < W.heap.size := by obtain ⟨m, hm⟩ := k0; exact DataW.trod_lt m _ _ _ hm
  obtain ⟨z0, w0⟩ := open_rdI (kk := .u8) Try.underlying22 Try.underlying5 (by kernel_rfl) (hval 0 22 v0 rfl rfl) h0
  clear hA0 hval0
  refine (fnProgramValid_walk v0 z0 W w0).mono fun e W' ⟨he, bel⟩ => ?_
  subst he
  exact ⟨_, rfl, _, _, _, [], _, [], hW', trodAll_mk1 (shut_bool Try.underlying4 _), (trodAll_cons_mk (Below.trod laidOut (by kernel_rfl) (of_decide_eq_true (by kernel_rfl)) k0 bel lt0) trodAll_mk0), rfl, bel.frame _, fun h => by cases h⟩
theorem over : Rows.fnProgramValidRow.holds Try.pinned (OpenSpec.ofChange Rows.fnProgramValidSpec) :=
  OpenClaim.holds_of_wide 6 Try.f6 rfl rfl rfl rfl rfl rfl rfl ⟨rfl, rfl, rfl, rfl, rfl⟩ rfl rfl rfl rfl rfl (by kernel_rfl) Try.func6 (by kernel_rfl)
    (of_decide_eq_true (by kernel_rfl)) (by unfold Func.isWrapper; first | (rw [if_pos (by decide +kernel)]; kernel_rfl) | (rw [if_neg (by decide +kernel)]; exact ⟨rfl, rfl⟩))
    (fun os started H enc _ => lifted os started H enc)
end fnProgramValid
/-- The given statement on FnProgramValid. -/
theorem fnProgramValid_holds : Rows.FnProgramValidSaid := fnProgramValid.over
#print axioms fnProgramValid_holds
end Go.Proofs.Ytjipalpachcamaa
