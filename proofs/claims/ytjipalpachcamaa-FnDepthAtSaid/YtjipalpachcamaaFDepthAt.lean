/- YtjipalpachcamaaFDepthAt: The depth is one more than that of the instruction around the place, and at most MaxDepth; without one it is 0. No conditions. -/
import Derived.Test.YtjipalpachcamaaDrawS
import Derived.Test.YtjipalpachcamaaLawC
import Derived.Test.YtjipalpachcamaaLawQ
import Derived.Test.YtjipalpachcamaaPgmC
import Derived.Test.YtjipalpachcamaaAlive
namespace Go.Proofs.Ytjipalpachcamaa
open Go.ChangeShapes Go.WideShapes Go.ChangeAt Go.RowKit
set_option linter.unusedVariables false
set_option maxRecDepth 100000 in
set_option maxHeartbeats 8000000 in
theorem fnDepthAt_walk (v : Value) (bs : List Int) (w0 : World) (h : RdI .u8 w0 v bs) : Calls Try.prog 11 #[v] w0 fun e w' => e = .returned (.bool true) ∧ Below w0.heap.size w0 w' := by
  obtain ⟨ad, c, hv, hlc, hcm⟩ := h.shape
  subst hv
  have hB0 := Below.refl w0.heap.size w0
  by_cases hn : bs.length ≤ 1048576
  · go_enter Try.func11, Try.ntmps11
    go_wp2_with fail
    refine (DrawDepthAt_any _ bs _ h).mono ?_
    rintro e w1 ⟨u, i, rfl, hi, cs, ho, hl, hc, hB1⟩
    have hO1 : OC w0.heap.size w1 u cs := ⟨ho, hc⟩
    clear h ho hc
    rcases spot_cases cs i with ⟨h1, h2⟩ | ⟨p, rfl, hp, hpv, h1, h2⟩
    · have HD := Lib.hid h1
      clear h1 h2
      go_wp2_with fail
      refine (implDepthAt _ cs i _ hO1.rd).mono ?_
      rintro e w2 ⟨rfl, hb2⟩
      rw [HD.out]
      have hB2 := hB1.trans (hb2.mono hB1.size)
      have hO2 := hO1.below hb2
      clear hb2 hB1 hO1
      go_wp2_with fail
      refine (specDepthAt _ cs i _ hO2.rd).mono ?_
      rintro e w3 ⟨rfl, hb3⟩
      rw [HD.out]
      have hB3 := hB2.trans (hb3.mono hB2.size)
      have hO3 := hO2.below hb3
      clear hb3 hB2 hO2
      go_wp2_with (go_at_call 18; refine (alive_any _).mono ?_; rintro e w' ⟨rfl, rfl⟩)
      go_ret
      exact ⟨rfl, hB3⟩
    · have hd3 := depth_le hpv (Nat.le_of_lt hp)
      rcases depth_arnd hpv (Nat.le_of_lt hp) with ⟨ha, hd⟩ | ⟨n, ha, hnp, hd⟩
      · rw [hd] at h1
        rw [ha] at h2
        have HD := Lib.hid h1
        have HA := Lib.hid h2
        clear h1 h2 ha hd hd3
        go_wp2_with fail
        refine (implDepthAt _ cs p _ hO1.rd).mono ?_
        rintro e w2 ⟨rfl, hb2⟩
        rw [HD.out]
        have hB2 := hB1.trans (hb2.mono hB1.size)
        have hO2 := hO1.below hb2
        clear hb2 hB1 hO1
        go_wp2_with fail
        refine (specDepthAt _ cs p _ hO2.rd).mono ?_
        rintro e w3 ⟨rfl, hb3⟩
        rw [HD.out]
        have hB3 := hB2.trans (hb3.mono hB2.size)
        have hO3 := hO2.below hb3
        clear hb3 hB2 hO2
        go_wp2_with fail
        refine (implBlockAround _ cs p _ hO3.rd).mono ?_
        rintro e w4 ⟨rfl, hb4⟩
        rw [HA.out]
        have hB4 := hB3.trans (hb4.mono hB3.size)
        have hO4 := hO3.below hb4
        clear hb4 hB3 hO3
        go_wp2
        go_ret
        exact ⟨rfl, hB4⟩
      · rw [hd] at h1 hd3
        rw [ha] at h2
        have h3 := (depth_at (p := n) hpv (by omega)).1
        obtain ⟨E, hE⟩ : ∃ E, depth cs n = E := ⟨_, rfl⟩
        rw [hE] at h1 h3 hd3
        have HD := Lib.hid h1
        have HA := Lib.hid h2
        have HE := Lib.hid h3
        clear h1 h2 h3 ha hd hE
        go_wp2_with fail
        refine (implDepthAt _ cs p _ hO1.rd).mono ?_
        rintro e w2 ⟨rfl, hb2⟩
        rw [HD.out]
        have hB2 := hB1.trans (hb2.mono hB1.size)
        have hO2 := hO1.below hb2
        clear hb2 hB1 hO1
        go_wp2_with fail
        refine (specDepthAt _ cs p _ hO2.rd).mono ?_
        rintro e w3 ⟨rfl, hb3⟩
        rw [HD.out]
        have hB3 := hB2.trans (hb3.mono hB2.size)
        have hO3 := hO2.below hb3
        clear hb3 hB2 hO2
        go_wp2_with fail
        refine (implBlockAround _ cs p _ hO3.rd).mono ?_
        rintro e w4 ⟨rfl, hb4⟩
        rw [HA.out]
        have hB4 := hB3.trans (hb4.mono hB3.size)
        have hO4 := hO3.below hb4
        clear hb4 hB3 hO3
        go_wp2_with fail
        refine (implDepthAt _ cs n _ hO4.rd).mono ?_
        rintro e w5 ⟨rfl, hb5⟩
        rw [HE.out]
        have hB5 := hB4.trans (hb5.mono hB4.size)
        have hO5 := hO4.below hb5
        clear hb5 hB4 hO4
        go_wp2
        go_ret
        exact ⟨rfl, hB5⟩
  · go_enter Try.func11, Try.ntmps11
    go_wp2
    go_ret
    exact ⟨rfl, hB0⟩
namespace fnDepthAt
set_option linter.unusedVariables false
set_option maxRecDepth 100000 in
theorem lifted (os : Os) (started : os.Started) (H : Type) (enc : TypeId × Value → H) :
    ReturnsInHanded {} Try.checked os 11 .any (Rows.fnDepthAtSpec.pre6 enc Try.prog Try.f11 Rows.fnDepthAtRow.domain false) (Rows.fnDepthAtSpec.post enc Try.prog Try.f11 false true false false) := by
  refine returnsInHanded_of_change (C := Try.checked) own started (by kernel_rfl) Try.func11
    (ChangeSpec.witness6 (enc := enc) (C := Try.checked) false ⟨#[], #[.slice none 0 0], []⟩ 8 (by kernel_rfl) (by kernel_rfl) (by kernel_rfl) (by kernel_rfl)) ?_
  intro W base args ds gs before hval0 hW hcnd _
  have hval : ∀ (j : Nat) t v, Try.f11.params[j]? = some t → args[j]? = some v → Value.okWide Try.prog W .any base t v := hval0
  have hW' := hW
  obtain ⟨p, q, hA0, hV, rfl, hfz, hnd⟩ := hW
  have hA : DataW.TrodAll enc Try.prog W 0 (fun _ => true) true Try.f11.params.toList args.toList ds p := hA0
  rw [Try.params11] at hA hval
  obtain ⟨v0, vs0, d0, ds0, p0, q0, hargs, rfl, rfl, h0, r0⟩ := trodAll_cons hA
  obtain ⟨rfl, rfl, rfl⟩ := trodAll_nil r0
  obtain rfl : args = #[v0] := by cases args; simp_all
  obtain ⟨rfl, rfl⟩ := trodVars_none hV
  have k0 := h0
  have lt0 : ∀ x ∈ p0, x.block < W.heap.size := by obtain ⟨m, hm⟩ := k0; exact DataW.trod_lt m _ _ _ hm
  obtain ⟨z0, w0⟩ := open_rdI (kk := .u8) Try.underlying22 Try.underlying5 (by kernel_rfl) (hval 0 22 v0 rfl rfl) h0
  clear hA0 hval0
  refine (fnDepthAt_walk v0 z0 W w0).mono fun e W' ⟨he, bel⟩ => ?_
  subst he
  exact ⟨_, rfl, _, _, _, [], _, [], hW', trodAll_mk1 (shut_bool Try.underlying4 _), (trodAll_cons_mk (Below.trod laidOut (by kernel_rfl) (of_decide_eq_true (by kernel_rfl)) k0 bel lt0) trodAll_mk0), rfl, bel.frame _, fun h => by cases h⟩
theorem over : Rows.fnDepthAtRow.holds Try.pinned (OpenSpec.ofChange Rows.fnDepthAtSpec) :=
  OpenClaim.holds_of_wide 11 Try.f11 rfl rfl rfl rfl rfl rfl rfl ⟨rfl, rfl, rfl, rfl, rfl⟩ rfl rfl rfl rfl rfl (by kernel_rfl) Try.func11 (by kernel_rfl)
    (of_decide_eq_true (by kernel_rfl)) (by unfold Func.isWrapper; first | (rw [if_pos (by decide +kernel)]; kernel_rfl) | (rw [if_neg (by decide +kernel)]; exact ⟨rfl, rfl⟩))
    (fun os started H enc _ => lifted os started H enc)
end fnDepthAt
/-- The given statement on FnDepthAt. -/
theorem fnDepthAt_holds : Rows.FnDepthAtSaid := fnDepthAt.over
#print axioms fnDepthAt_holds
end Go.Proofs.Ytjipalpachcamaa
