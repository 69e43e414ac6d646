/- YtjipalpachcamaaFBlockEnd: The end is an OpEnd, and the instruction of the block is the one around it; the OpElse, if there is one, is in between, and in the block as well. No conditions. -/
import Derived.Test.YtjipalpachcamaaDrawS
import Derived.Test.YtjipalpachcamaaLawC
import Derived.Test.YtjipalpachcamaaLawQ
import Derived.Test.YtjipalpachcamaaPgmC
import Derived.Test.YtjipalpachcamaaAlive
namespace Go.Proofs.Ytjipalpachcamaa
open Go.ChangeShapes Go.WideShapes Go.ChangeAt Go.RowKit
set_option linter.unusedVariables false
set_option maxRecDepth 100000 in
set_option maxHeartbeats 8000000 in
theorem fnBlockEnd_walk (v : Value) (bs : List Int) (w0 : World) (h : RdI .u8 w0 v bs) : Calls Try.prog 12 #[v] w0 fun e w' => e = .returned (.bool true) ∧ Below w0.heap.size w0 w' := by
  obtain ⟨ad, c, hv, hlc, hcm⟩ := h.shape
  subst hv
  have hB0 := Below.refl w0.heap.size w0
  by_cases hn : bs.length ≤ 1048576
  · go_enter Try.func12, Try.ntmps12
    go_wp2_with fail
    refine (DrawBlockEnd_any _ bs _ h).mono ?_
    rintro e w1 ⟨u, i, rfl, hi, cs, ho, hl, hc, hB1⟩
    have hO1 : OC w0.heap.size w1 u cs := ⟨ho, hc⟩
    clear h ho hc
    rcases ends_cases cs i with h1 | ⟨p, d, rfl, hp, hpv, hd, hdo, h1⟩
    · have HD := Lib.hid h1
      clear h1
      go_wp2_with fail
      refine (implBlockEnd _ cs i _ hO1.rd).mono ?_
      rintro e w2 ⟨rfl, hb2⟩
      rw [HD.out]
      have hB2 := hB1.trans (hb2.mono hB1.size)
      have hO2 := hO1.below hb2
      clear hb2 hB1 hO1
      go_wp2_with fail
      refine (specBlockEnd _ cs i _ hO2.rd).mono ?_
      rintro e w3 ⟨rfl, hb3⟩
      rw [HD.out]
      have hB3 := hB2.trans (hb3.mono hB2.size)
      have hO3 := hO2.below hb3
      clear hb3 hB2 hO2
      go_wp2_with (go_at_call 18; refine (alive_any _).mono ?_; rintro e w' ⟨rfl, rfl⟩)
      go_ret
      exact ⟨rfl, hB3⟩
    · obtain ⟨e, o, c', hbe, hpe, hel, hce, hc14, hae, hoth⟩ := block_law hpv hd hdo
      rw [hbe] at h1
      have h2 := (depth_at (p := e) hpv hel).2
      rw [hae] at h2
      have HD := Lib.hid h1
      have HA := Lib.hid h2
      have HC := Lib.hid hce
      have HD2 := Lib.hid hd
      have HPV := Lib.hid hpv
      clear h1 h2 hbe hae hce hd hpv hdo
      rcases hoth with rfl | ⟨j, d2, rfl, hj1, hj2, hd2, hd12, hd11, haj⟩
      · go_wp2_with fail
        refine (implBlockEnd _ cs p _ hO1.rd).mono ?_
        rintro e w2 ⟨rfl, hb2⟩
        rw [HD.out]
        have hB2 := hB1.trans (hb2.mono hB1.size)
        have hO2 := hO1.below hb2
        clear hb2 hB1 hO1
        go_wp2_with fail
        refine (specBlockEnd _ cs p _ hO2.rd).mono ?_
        rintro e w3 ⟨rfl, hb3⟩
        rw [HD.out]
        have hB3 := hB2.trans (hb3.mono hB2.size)
        have hO3 := hO2.below hb3
        clear hb3 hB2 hO2
        have HO3 := Lib.hid hO3
        have hBA := implBlockAround _ cs e _ hO3.rd
        have HBA := Lib.hid hBA
        obtain ⟨au, nu, bu, offu, hu, _, _, hub, hcell⟩ := hO3.rd.form
        obtain ⟨rfl, e0, _⟩ := hcell e c' HC.out
        subst hu
        rw [hc14] at e0
        clear hcell hBA hub hO3
        go_wp2_with fail
        refine HBA.out.mono ?_
        rintro e w4 ⟨rfl, hb4⟩
        rw [HA.out]
        have hB4 := hB3.trans (hb4.mono hB3.size)
        clear hb4 hB3 e0 HBA HO3
        go_wp2
        go_ret
        exact ⟨rfl, hB4⟩
      · have h5 := (depth_at (p := j) HPV.out (by omega)).2
        rw [haj] at h5
        have HJ := Lib.hid h5
        have HJ2 := Lib.hid hd2
        clear h5 haj hd2
        go_wp2_with fail
        refine (implBlockEnd _ cs p _ hO1.rd).mono ?_
        rintro e w2 ⟨rfl, hb2⟩
        rw [HD.out]
        have hB2 := hB1.trans (hb2.mono hB1.size)
        have hO2 := hO1.below hb2
        clear hb2 hB1 hO1
        go_wp2_with fail
        refine (specBlockEnd _ cs p _ hO2.rd).mono ?_
        rintro e w3 ⟨rfl, hb3⟩
        rw [HD.out]
        have hB3 := hB2.trans (hb3.mono hB2.size)
        have hO3 := hO2.below hb3
        clear hb3 hB2 hO2
        have HO3 := Lib.hid hO3
        have hBA := implBlockAround _ cs e _ hO3.rd
        have HBA := Lib.hid hBA
        obtain ⟨au, nu, bu, offu, hu, _, _, hub, hcell⟩ := hO3.rd.form
        obtain ⟨rfl, e0, _⟩ := hcell e c' HC.out
        subst hu
        rw [hc14] at e0
        clear hcell hBA hub hO3
        go_wp2_with fail
        refine HBA.out.mono ?_
        rintro e w4 ⟨rfl, hb4⟩
        rw [HA.out]
        have hB4 := hB3.trans (hb4.mono hB3.size)
        have hO4 := HO3.out.below hb4
        clear hb4 hB3 e0 HBA HO3
        have hBA := implBlockAround _ cs j _ hO4.rd
        have HBA := Lib.hid hBA
        obtain ⟨_, _, bu2, offu2, hu, _, _, hub, hcell⟩ := hO4.rd.form
        obtain ⟨rfl, e0, _⟩ := hcell j d2 HJ2.out
        obtain ⟨_, e1, _⟩ := hcell p d HD2.out
        injection hu with hu1 _ hu3
        injection hu1 with hu1
        injection hu1 with hu1 hu2
        subst hu1 hu2 hu3
        rw [hd12] at e0
        rw [hd11] at e1
        clear hcell hBA hub hO4
        go_wp2_with fail
        refine HBA.out.mono ?_
        rintro e w5 ⟨rfl, hb5⟩
        rw [HJ.out]
        have hB5 := hB4.trans (hb5.mono hB4.size)
        clear hb5 hB4 e0 e1 HBA
        go_wp2
        go_ret
        exact ⟨rfl, hB5⟩
  · go_enter Try.func12, Try.ntmps12
    go_wp2
    go_ret
    exact ⟨rfl, hB0⟩
namespace fnBlockEnd
set_option linter.unusedVariables false
set_option maxRecDepth 100000 in
theorem lifted (os : Os) (started : os.Started) (H : Type) (enc : TypeId × Value → H) :
    ReturnsInHanded {} Try.checked os 12 .any (Rows.fnBlockEndSpec.pre6 enc Try.prog Try.f12 Rows.fnBlockEndRow.domain false) (Rows.fnBlockEndSpec.post enc Try.prog Try.f12 false true false false) := by
  refine returnsInHanded_of_change (C := Try.checked) own started (by kernel_rfl) Try.func12
    (ChangeSpec.witness6 (enc := enc) (C := Try.checked) false ⟨#[], #[.slice none 0 0], []⟩ 8 (by kernel_rfl) (by kernel_rfl) (by kernel_rfl) (by kernel_rfl)) ?_
  intro W base args ds gs before hval0 hW hcnd _
  have hval : ∀ (j : Nat) t v, Try.f12.params[j]? = some t → args[j]? = some v → Value.okWide Try.prog W .any base t v := hval0
  have hW' := hW
  obtain ⟨p, q, hA0, hV, rfl, hfz, hnd⟩ := hW
  have hA : DataW.TrodAll enc Try.prog W 0 (fun _ => true) true Try.f12.params.toList args.toList ds p := hA0
  rw [Try.params12] at hA hval
  obtain ⟨v0, vs0, d0, ds0, p0, q0, hargs, rfl, rfl, h0, r0⟩ := trodAll_cons hA
  obtain ⟨rfl, rfl, rfl⟩ := trodAll_nil r0
  obtain rfl : args = #[v0] := by cases args; simp_all
  obtain ⟨rfl, rfl⟩ := trodVars_none hV
  have k0 := h0
  have lt0 : ∀ x ∈ p0, x.block < W.heap.size := by obtain ⟨m, hm⟩ := k0; exact DataW.trod_lt m _ _ _ hm
  obtain ⟨z0, w0⟩ := open_rdI (kk := .u8) Try.underlying22 Try.underlying5 (by kernel_rfl) (hval 0 22 v0 rfl rfl) h0
  clear hA0 hval0
  refine (fnBlockEnd_walk v0 z0 W w0).mono fun e W' ⟨he, bel⟩ => ?_
  subst he
  exact ⟨_, rfl, _, _, _, [], _, [], hW', trodAll_mk1 (shut_bool Try.underlying4 _), (trodAll_cons_mk (Below.trod laidOut (by kernel_rfl) (of_decide_eq_true (by kernel_rfl)) k0 bel lt0) trodAll_mk0), rfl, bel.frame _, fun h => by cases h⟩
theorem over : Rows.fnBlockEndRow.holds Try.pinned (OpenSpec.ofChange Rows.fnBlockEndSpec) :=
  OpenClaim.holds_of_wide 12 Try.f12 rfl rfl rfl rfl rfl rfl rfl ⟨rfl, rfl, rfl, rfl, rfl⟩ rfl rfl rfl rfl rfl (by kernel_rfl) Try.func12 (by kernel_rfl)
    (of_decide_eq_true (by kernel_rfl)) (by unfold Func.isWrapper; first | (rw [if_pos (by decide +kernel)]; kernel_rfl) | (rw [if_neg (by decide +kernel)]; exact ⟨rfl, rfl⟩))
    (fun os started H enc _ => lifted os started H enc)
end fnBlockEnd
/-- The given statement on FnBlockEnd. -/
theorem fnBlockEnd_holds : Rows.FnBlockEndSaid := fnBlockEnd.over
#print axioms fnBlockEnd_holds
end Go.Proofs.Ytjipalpachcamaa
