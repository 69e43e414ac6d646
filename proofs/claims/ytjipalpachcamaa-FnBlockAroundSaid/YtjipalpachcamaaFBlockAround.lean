/- YtjipalpachcamaaFBlockAround: The place is between the instruction and the end of the block; and no block in this block contains it. No conditions. -/
import Derived.Test.YtjipalpachcamaaDrawS
import Derived.Test.YtjipalpachcamaaLawC
import Derived.Test.YtjipalpachcamaaLawQ
import Derived.Test.YtjipalpachcamaaPgmC
import Derived.Test.YtjipalpachcamaaAlive
namespace Go.Proofs.Ytjipalpachcamaa
open Go.ChangeShapes Go.WideShapes Go.ChangeAt Go.RowKit
set_option linter.unusedVariables false
theorem opens_any (c : Cd) (w : World) : Calls Try.prog 47 #[.agg #[.int .i64 c.op, .int .i64 c.a, .int .i64 c.b, .int .i64 c.c]] w fun e w' => e = .returned (.bool (isOp c)) ∧ Below w.heap.size w w' := by
  have hb := belowA w (.cells #[.int .i64 c.op, .int .i64 c.a, .int .i64 c.b, .int .i64 c.c] 24)
  by_cases h1 : c.op = 11
  · have he : isOp c = true := isOp_t (Or.inl h1)
    have HE := Lib.hid he
    clear he
    go_enter Try.func47, Try.ntmps47
    go_wp2
    go_ret
    exact ⟨by rw [HE.out]; rfl, belowA _ _⟩
  · by_cases h2 : c.op = 13
    · have he : isOp c = true := isOp_t (Or.inr h2)
      have HE := Lib.hid he
      clear he
      go_enter Try.func47, Try.ntmps47
      go_wp2
      go_ret
      exact ⟨by rw [HE.out]; rfl, belowA _ _⟩
    · have he : isOp c = false := isOp_f (by omega)
      have HE := Lib.hid he
      have e1 : (c.op == 11) = false := by simpa using h1
      have e2 : (c.op == 13) = false := by simpa using h2
      clear he
      go_enter Try.func47, Try.ntmps47
      go_wp2
      go_ret
      exact ⟨by rw [HE.out]; rfl, belowA _ _⟩
set_option maxRecDepth 100000 in
set_option maxHeartbeats 8000000 in
theorem fnBlockAround_walk (v : Value) (bs : List Int) (w0 : World) (h : RdI .u8 w0 v bs) : Calls Try.prog 13 #[v] w0 fun e w' => e = .returned (.bool true) ∧ Below w0.heap.size w0 w' := by
  obtain ⟨ad, c, hv, hlc, hcm⟩ := h.shape
  subst hv
  have hB0 := Below.refl w0.heap.size w0
  by_cases hn : bs.length ≤ 1048576
  · go_enter Try.func13, Try.ntmps13
    go_wp2_with fail
    refine (DrawBlockAround_any _ bs _ h).mono ?_
    rintro e w1 ⟨u, i, rfl, hi, cs, ho, hl, hc, hB1⟩
    have hO1 : OC w0.heap.size w1 u cs := ⟨ho, hc⟩
    clear h ho hc
    rcases spot_cases cs i with ⟨h1, h2⟩ | ⟨p, rfl, hp, hpv, h1, h2⟩
    · have HD := Lib.hid h2
      clear h1 h2
      go_wp2_with fail
      refine (implBlockAround _ cs i _ hO1.rd).mono ?_
      rintro e w2 ⟨rfl, hb2⟩
      rw [HD.out]
      have hB2 := hB1.trans (hb2.mono hB1.size)
      have hO2 := hO1.below hb2
      clear hb2 hB1 hO1
      go_wp2_with fail
      refine (specBlockAround _ cs i _ hO2.rd).mono ?_
      rintro e w3 ⟨rfl, hb3⟩
      rw [HD.out]
      have hB3 := hB2.trans (hb3.mono hB2.size)
      have hO3 := hO2.below hb3
      clear hb3 hB2 hO2
      go_wp2_with (go_at_call 18; refine (alive_any _).mono ?_; rintro e w' ⟨rfl, rfl⟩)
      go_ret
      exact ⟨rfl, hB3⟩
    · rcases depth_arnd hpv (Nat.le_of_lt hp) with ⟨ha, hd⟩ | ⟨n, ha, hnp, hd⟩
      · rw [ha] at h2
        have HD := Lib.hid h2
        clear h1 h2 ha hd
        go_wp2_with fail
        refine (implBlockAround _ cs p _ hO1.rd).mono ?_
        rintro e w2 ⟨rfl, hb2⟩
        rw [HD.out]
        have hB2 := hB1.trans (hb2.mono hB1.size)
        have hO2 := hO1.below hb2
        clear hb2 hB1 hO1
        go_wp2_with fail
        refine (specBlockAround _ cs p _ hO2.rd).mono ?_
        rintro e w3 ⟨rfl, hb3⟩
        rw [HD.out]
        have hB3 := hB2.trans (hb3.mono hB2.size)
        have hO3 := hO2.below hb3
        clear hb3 hB2 hO2
        go_wp2_with (go_at_call 18; refine (alive_any _).mono ?_; rintro e w' ⟨rfl, rfl⟩)
        go_ret
        exact ⟨rfl, hB3⟩
      · obtain ⟨hnp, ⟨d, hd0, hdo, hde⟩, hin⟩ := around_ends hpv hp ha
        rw [ha] at h2
        have h3 := ends_at hpv hd0 hdo
        obtain ⟨e1, o1, c1, hbe1, _⟩ := block_law hpv hd0 hdo
        rw [hbe1] at h3 hde
        have hde : (p : Int) ≤ e1 := hde
        have HD := Lib.hid h2
        have HE := Lib.hid h3
        have HPV := Lib.hid hpv
        have HIN := Lib.hid hin
        clear h1 h2 h3 ha hd hd0 hdo hbe1 hin hpv
        go_wp2_with fail
        refine (implBlockAround _ cs p _ hO1.rd).mono ?_
        rintro e w2 ⟨rfl, hb2⟩
        rw [HD.out]
        have hB2 := hB1.trans (hb2.mono hB1.size)
        have hO2 := hO1.below hb2
        clear hb2 hB1 hO1
        go_wp2_with fail
        refine (specBlockAround _ cs p _ hO2.rd).mono ?_
        rintro e w3 ⟨rfl, hb3⟩
        rw [HD.out]
        have hB3 := hB2.trans (hb3.mono hB2.size)
        have hO3 := hO2.below hb3
        clear hb3 hB2 hO2
        go_wp2_with fail
        refine (implBlockEnd _ cs n _ hO3.rd).mono ?_
        rintro e w4 ⟨rfl, hb4⟩
        rw [HE.out]
        have hB4 := hB3.trans (hb4.mono hB3.size)
        have hO4 := hO3.below hb4
        clear hb4 hB3 hO3
        go_wp2_with fail
        go_loopg [8] (p - (n + 1)) (fun g k wr => ∃ j : Nat, j + g = p ∧ n < j ∧ k = .int .i64 (j : Int) ∧ Below w0.heap.size w0 wr ∧ OC w0.heap.size wr u cs)
        case atStart => exact ⟨n + 1, by omega, by omega, rfl, hB4, hO4⟩
        case round =>
          clear hB4 hO4
          obtain ⟨j, hj, hnj, rfl, hB4, hO4⟩ := hrel
          by_cases hlt : j < p
          · obtain ⟨d, hd⟩ := get_lt (show j < cs.length by omega)
            have HO4 := Lib.hid hO4
            obtain ⟨au, nu, bu, offu, hu, _, _, hub, hcell⟩ := hO4.rd.form
            obtain ⟨rfl, e0, e1, e2, e3⟩ := hcell j d hd
            subst hu
            have HD2 := Lib.hid hd
            clear hcell hub hO4 hd
            go_wp2_with fail
            refine (opens_any d _).mono ?_
            rintro e w5 ⟨rfl, hb5⟩
            have hB5 := hB4.trans (hb5.mono hB4.size)
            have hO5 := HO4.out.below hb5
            clear hb5 hB4 HO4 e0 e1 e2 e3
            by_cases hop : d.op = 11 ∨ d.op = 13
            · have hopt := isOp_t hop
              have HOP := Lib.hid hopt
              have h6 := ends_at HPV.out HD2.out hop
              obtain ⟨e6, o6, c6, hbe6, _⟩ := block_law HPV.out HD2.out hop
              have h7 := HIN.out j d hnj hlt HD2.out hop
              rw [hbe6] at h6 h7
              have h7 : (e6 : Int) < p := h7
              have HE6 := Lib.hid h6
              clear h6 hbe6 hopt hop
              rw [HOP.out]
              go_wp2_with fail
              refine (implBlockEnd _ cs j _ hO5.rd).mono ?_
              rintro e w6 ⟨rfl, hb6⟩
              rw [HE6.out]
              have hB6 := hB5.trans (hb6.mono hB5.size)
              have hO6 := hO5.below hb6
              clear hb6 hB5 hO5
              go_wp2
              go_roundg (p - (j + 1))
              case measure => omega
              case rel => exact ⟨j + 1, by omega, by omega, by go_num, hB6, hO6⟩
            · have hopf := isOp_f hop
              have HOP := Lib.hid hopf
              clear hop hopf
              rw [HOP.out]
              go_wp2
              go_roundg (p - (j + 1))
              case measure => omega
              case rel => exact ⟨j + 1, by omega, by omega, by go_num, hB5, hO5⟩
          · have hlt2 : ¬ (j : Int) < p := by omega
            go_wp2
            go_ret
            exact ⟨rfl, hB4⟩
  · go_enter Try.func13, Try.ntmps13
    go_wp2
    go_ret
    exact ⟨rfl, hB0⟩
namespace fnBlockAround
set_option linter.unusedVariables false
set_option maxRecDepth 100000 in
theorem lifted (os : Os) (started : os.Started) (H : Type) (enc : TypeId × Value → H) :
    ReturnsInHanded {} Try.checked os 13 .any (Rows.fnBlockAroundSpec.pre6 enc Try.prog Try.f13 Rows.fnBlockAroundRow.domain false) (Rows.fnBlockAroundSpec.post enc Try.prog Try.f13 false true false false) := by
  refine returnsInHanded_of_change (C := Try.checked) own started (by kernel_rfl) Try.func13
    (ChangeSpec.witness6 (enc := enc) (C := Try.checked) false ⟨#[], #[.slice none 0 0], []⟩ 8 (by kernel_rfl) (by kernel_rfl) (by kernel_rfl) (by kernel_rfl)) ?_
  intro W base args ds gs before hval0 hW hcnd _
  have hval : ∀ (j : Nat) t v, Try.f13.params[j]? = some t → args[j]? = some v → Value.okWide Try.prog W .any base t v := hval0
  have hW' := hW
  obtain ⟨p, q, hA0, hV, rfl, hfz, hnd⟩ := hW
  have hA : DataW.TrodAll enc Try.prog W 0 (fun _ => true) true Try.f13.params.toList args.toList ds p := hA0
  rw [Try.params13] at hA hval
  obtain ⟨v0, vs0, d0, ds0, p0, q0, hargs, rfl, rfl, h0, r0⟩ := trodAll_cons hA
  obtain ⟨rfl, rfl, rfl⟩ := trodAll_nil r0
  obtain rfl : args = #[v0] := by cases args; simp_all
  obtain ⟨rfl, rfl⟩ := trodVars_none hV
  have k0 := h0
  have lt0 : ∀ x ∈ p0, x.block < W.heap.size := by obtain ⟨m, hm⟩ := k0; exact DataW.trod_lt m _ _ _ hm
  obtain ⟨z0, w0⟩ := open_rdI (kk := .u8) Try.underlying22 Try.underlying5 (by kernel_rfl) (hval 0 22 v0 rfl rfl) h0
  clear hA0 hval0
  refine (fnBlockAround_walk v0 z0 W w0).mono fun e W' ⟨he, bel⟩ => ?_
  subst he
  exact ⟨_, rfl, _, _, _, [], _, [], hW', trodAll_mk1 (shut_bool Try.underlying4 _), (trodAll_cons_mk (Below.trod laidOut (by kernel_rfl) (of_decide_eq_true (by kernel_rfl)) k0 bel lt0) trodAll_mk0), rfl, bel.frame _, fun h => by cases h⟩
theorem over : Rows.fnBlockAroundRow.holds Try.pinned (OpenSpec.ofChange Rows.fnBlockAroundSpec) :=
  OpenClaim.holds_of_wide 13 Try.f13 rfl rfl rfl rfl rfl rfl rfl ⟨rfl, rfl, rfl, rfl, rfl⟩ rfl rfl rfl rfl rfl (by kernel_rfl) Try.func13 (by kernel_rfl)
    (of_decide_eq_true (by kernel_rfl)) (by unfold Func.isWrapper; first | (rw [if_pos (by decide +kernel)]; kernel_rfl) | (rw [if_neg (by decide +kernel)]; exact ⟨rfl, rfl⟩))
    (fun os started H enc _ => lifted os started H enc)
end fnBlockAround
/-- The given statement on FnBlockAround. -/
theorem fnBlockAround_holds : Rows.FnBlockAroundSaid := fnBlockAround.over
#print axioms fnBlockAround_holds
end Go.Proofs.Ytjipalpachcamaa
