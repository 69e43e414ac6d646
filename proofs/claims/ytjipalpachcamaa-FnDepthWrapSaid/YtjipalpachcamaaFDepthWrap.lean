/- YtjipalpachcamaaFDepthWrap: In a program that is put into an OpIf every place is one block deeper. No conditions. -/
import Derived.Test.YtjipalpachcamaaDrawS
import Derived.Test.YtjipalpachcamaaLawC
import Derived.Test.YtjipalpachcamaaLawQ
import Derived.Test.YtjipalpachcamaaPgmC
import Derived.Test.YtjipalpachcamaaAlive
namespace Go.Proofs.Ytjipalpachcamaa
open Go.ChangeShapes Go.WideShapes Go.ChangeAt Go.RowKit
set_option linter.unusedVariables false
set_option maxHeartbeats 1000000 in
theorem wrapped_any (f : Cd) (hf : cdIn f) (u : Value) (cs : List Cd) (B : Nat) (w : World) (h : OC B w u cs) (hl : cs.length ≤ 150000) : Calls Try.prog 35 #[.agg #[.int .i64 f.op, .int .i64 f.a, .int .i64 f.b, .int .i64 f.c], u] w
    fun e w' => ∃ x, e = .returned (.tuple #[x, .bool (pValid ((f :: cs) ++ [(⟨14, 0, 0, 0⟩ : Cd)]))]) ∧ OC w.heap.size w' x ((f :: cs) ++ [(⟨14, 0, 0, 0⟩ : Cd)]) ∧ Below w.heap.size w w' := by
  have hb0 := belowA w (.cells #[.int .i64 f.op, .int .i64 f.a, .int .i64 f.b, .int .i64 f.c] 24)
  have h1 := h.below hb0
  have hz0 := hb0.size
  go_enter Try.func35, Try.ntmps35
  go_wp2_with (at_builtin; refine wpList_ocL _ (by rfl) _ _ rfl [f] (by simp; exact hf) _ rfl h1 (by simp) (by omega) (by show Value.slice (some ⟨w.heap.size + 1, 0, none⟩) 1 1 = _; simp) rfl ?_)
  intro v5 w5 hO5 hb5
  have hz5 := hb5.size
  have hbx := hb0.trans (hb5.mono (Nat.le_succ _))
  have hO5' : OC w.heap.size w5 v5 ([f] ++ cs) := ⟨own_mono hO5.own (Nat.le_succ _), hO5.inn⟩
  have hzx := hbx.size
  have hlx : ([f] ++ cs).length ≤ 1000000 := by simp; omega
  have HL := Lib.hid hlx
  have HX := Lib.hid hbx
  clear hO5 hb5 hz5 h1 h hb0 hz0 hbx hlx
  go_wp2_with (at_builtin; refine wpList_ocR _ (by rfl) _ _ rfl [⟨14, 0, 0, 0⟩] (by unfold cdIn; simp) _ rfl hO5' hzx HL.out (by simp) rfl rfl ?_)
  intro v6 w6 hO6 hb6
  have hB6 := HX.out.trans hb6
  clear hO5' hb6 HX
  go_wp2_with fail
  refine (specProgramValid _ _ _ hO6.rd).mono ?_
  rintro e w7 ⟨rfl, hb7⟩
  have hO7 := hO6.below hb7
  have hB7 := hB6.trans (hb7.mono hB6.size)
  clear hb7 hO6 hB6
  have HPV := Lib.hid (show pValid (([f] ++ cs) ++ [(⟨14, 0, 0, 0⟩ : Cd)]) = pValid (f :: (cs ++ [(⟨14, 0, 0, 0⟩ : Cd)])) from rfl)
  generalize pValid (([f] ++ cs) ++ [(⟨14, 0, 0, 0⟩ : Cd)]) = PV at *
  go_wp2
  go_ret2
  exact ⟨_, by rw [← HPV.out]; rfl, hO7, hB7⟩
set_option maxRecDepth 100000 in
set_option maxHeartbeats 8000000 in
theorem fnDepthWrap_walk (v : Value) (bs : List Int) (w0 : World) (h : RdI .u8 w0 v bs) : Calls Try.prog 9 #[v] w0 fun e w' => e = .returned (.bool true) ∧ Below w0.heap.size w0 w' := by
  obtain ⟨ad, c, hv, hlc, hcm⟩ := h.shape
  subst hv
  have hB0 := Below.refl w0.heap.size w0
  by_cases hn : bs.length ≤ 1048576
  · go_enter Try.func9, Try.ntmps9
    go_wp2_with fail
    refine (DrawDepthAt_any _ bs _ h).mono ?_
    rintro e w1 ⟨u, i, rfl, hi, cs, ho, hl, hc, hB1⟩
    have hO1 : OC w0.heap.size w1 u cs := ⟨ho, hc⟩
    clear h ho hc
    obtain ⟨X, hX⟩ : ∃ X, X = ((⟨11, 0, 0, 0⟩ : Cd) :: cs) ++ [(⟨14, 0, 0, 0⟩ : Cd)] := ⟨_, rfl⟩
    have hXl : X.length = cs.length + 2 := by rw [hX]; simp
    obtain ⟨OK, hOK⟩ : ∃ b, pValid X = b := ⟨_, rfl⟩
    rcases spot_cases cs i with ⟨h1, h2⟩ | ⟨p, rfl, hp, hpv, h1, h2⟩
    · have HD := Lib.hid h1
      have HX := Lib.hid hX
      clear h1 h2 hX hOK hXl
      go_wp2_with fail
      refine (implDepthAt _ cs i _ hO1.rd).mono ?_
      rintro e w2 ⟨rfl, hb2⟩
      rw [HD.out]
      have hB2 := hB1.trans (hb2.mono hB1.size)
      have hO2 := hO1.below hb2
      clear hb2 hB1 hO1
      go_wp2_with fail
      refine (specDepthAt _ cs i _ hO2.rd).mono ?_
      rintro e w3 ⟨rfl, hb3⟩
      rw [HD.out]
      have hB3 := hB2.trans (hb3.mono hB2.size)
      have hO3 := hO2.below hb3
      clear hb3 hB2 hO2
      go_wp2_with fail
      refine (wrapped_any ⟨11, 0, 0, 0⟩ (by unfold cdIn; simp) _ cs _ _ hO3 hl).mono ?_
      rintro e w4 ⟨x, rfl, hO4, hb4⟩
      have hB4 := hB3.trans (hb4.mono hB3.size)
      clear hb4 hB3 hO3 hO4
      go_wp2_with (go_at_call 18; refine (alive_any _).mono ?_; rintro e w' ⟨rfl, rfl⟩)
      go_ret
      exact ⟨rfl, hB4⟩
    · have hd3 := depth_le hpv (Nat.le_of_lt hp)
      obtain ⟨D, hD⟩ : ∃ D, depth cs p = D := ⟨_, rfl⟩
      rw [hD] at h1 hd3
      have HD := Lib.hid h1
      cases OK
      · have HX := Lib.hid hX
        have HK := Lib.hid hOK
        clear h1 h2 hX hOK hD hXl
        go_wp2_with fail
        refine (implDepthAt _ cs p _ hO1.rd).mono ?_
        rintro e w2 ⟨rfl, hb2⟩
        rw [HD.out]
        have hB2 := hB1.trans (hb2.mono hB1.size)
        have hO2 := hO1.below hb2
        clear hb2 hB1 hO1
        go_wp2_with fail
        refine (specDepthAt _ cs p _ hO2.rd).mono ?_
        rintro e w3 ⟨rfl, hb3⟩
        rw [HD.out]
        have hB3 := hB2.trans (hb3.mono hB2.size)
        have hO3 := hO2.below hb3
        clear hb3 hB2 hO2
        go_wp2_with fail
        refine (wrapped_any ⟨11, 0, 0, 0⟩ (by unfold cdIn; simp) _ cs _ _ hO3 hl).mono ?_
        rintro e w4 ⟨x, rfl, hO4, hb4⟩
        rw [← HX.out, HK.out]
        have hB4 := hB3.trans (hb4.mono hB3.size)
        clear hb4 hB3 hO3 hO4
        go_wp2_with (go_at_call 18; refine (alive_any _).mono ?_; rintro e w' ⟨rfl, rfl⟩)
        go_ret
        exact ⟨rfl, hB4⟩
      · have hw1 := depth_wrap (k := p) (by rw [← hX]; exact hOK) hpv (Nat.le_of_lt hp)
        have hw2 := depth_wrap (k := cs.length) (by rw [← hX]; exact hOK) hpv (Nat.le_refl _)
        have hd0 : depth cs cs.length = 0 := by unfold depth; rw [pValid_end hpv]; rfl
        rw [← hX] at hw1 hw2
        rw [hD] at hw1
        rw [hd0] at hw2
        have e1 := (depth_at (cs := X) (p := p + 1) hOK (by omega)).1
        have e2 := (depth_at (cs := X) (p := cs.length + 1) hOK (by omega)).1
        rw [hw1, show ((p + 1 : Nat) : Int) = (p : Int) + 1 from rfl, show ((D + 1 : Nat) : Int) = (D : Int) + 1 from rfl] at e1
        rw [hw2, show ((cs.length + 1 : Nat) : Int) = (X.length : Int) - 1 by omega] at e2
        have HX := Lib.hid hX
        have HK := Lib.hid hOK
        have E1 := Lib.hid e1
        have E2 := Lib.hid e2
        have HXl := Lib.hid hXl
        clear h1 h2 hX hOK hD hXl hw1 hw2 e1 e2 hd0
        go_wp2_with fail
        refine (implDepthAt _ cs p _ hO1.rd).mono ?_
        rintro e w2 ⟨rfl, hb2⟩
        rw [HD.out]
        have hB2 := hB1.trans (hb2.mono hB1.size)
        have hO2 := hO1.below hb2
        clear hb2 hB1 hO1
        go_wp2_with fail
        refine (specDepthAt _ cs p _ hO2.rd).mono ?_
        rintro e w3 ⟨rfl, hb3⟩
        rw [HD.out]
        have hB3 := hB2.trans (hb3.mono hB2.size)
        have hO3 := hO2.below hb3
        clear hb3 hB2 hO2
        go_wp2_with fail
        refine (wrapped_any ⟨11, 0, 0, 0⟩ (by unfold cdIn; simp) _ cs _ _ hO3 hl).mono ?_
        rintro e w4 ⟨x, rfl, hO4, hb4⟩
        rw [← HX.out] at hO4 ⊢
        rw [HK.out]
        have hB4 := hB3.trans (hb4.mono hB3.size)
        have hz3 := hB3.size
        clear hb4 hB3 hO3
        obtain ⟨ax, cx, hx, hx1, hx2⟩ := hO4.shape
        subst hx
        have hxl3 : 2 ≤ X.length := by have := HXl.out; omega
        go_wp2_with fail
        refine (implDepthAt _ X _ _ hO4.rd).mono ?_
        rintro e w5 ⟨rfl, hb5⟩
        rw [E1.out]
        have hB5 := hB4.trans (hb5.mono hB4.size)
        have hO5 := hO4.below hb5
        clear hb5 hB4 hO4
        go_wp2_with fail
        refine (implDepthAt _ X _ _ hO5.rd).mono ?_
        rintro e w6 ⟨rfl, hb6⟩
        rw [E2.out]
        have hB6 := hB5.trans (hb6.mono hB5.size)
        clear hb6 hB5 hO5
        go_wp2_with (go_at_call 18; refine (alive_any _).mono ?_; rintro e w' ⟨rfl, rfl⟩)
        go_ret
        exact ⟨rfl, hB6⟩
  · go_enter Try.func9, Try.ntmps9
    go_wp2
    go_ret
    exact ⟨rfl, hB0⟩
namespace fnDepthWrap
set_option linter.unusedVariables false
set_option maxRecDepth 100000 in
theorem lifted (os : Os) (started : os.Started) (H : Type) (enc : TypeId × Value → H) :
    ReturnsInHanded {} Try.checked os 9 .any (Rows.fnDepthWrapSpec.pre6 enc Try.prog Try.f9 Rows.fnDepthWrapRow.domain false) (Rows.fnDepthWrapSpec.post enc Try.prog Try.f9 false true false false) := by
  refine returnsInHanded_of_change (C := Try.checked) own started (by kernel_rfl) Try.func9
    (ChangeSpec.witness6 (enc := enc) (C := Try.checked) false ⟨#[], #[.slice none 0 0], []⟩ 8 (by kernel_rfl) (by kernel_rfl) (by kernel_rfl) (by kernel_rfl)) ?_
  intro W base args ds gs before hval0 hW hcnd _
  have hval : ∀ (j : Nat) t v, Try.f9.params[j]? = some t → args[j]? = some v → Value.okWide Try.prog W .any base t v := hval0
  have hW' := hW
  obtain ⟨p, q, hA0, hV, rfl, hfz, hnd⟩ := hW
  have hA : DataW.TrodAll enc Try.prog W 0 (fun _ => true) true Try.f9.params.toList args.toList ds p := hA0
  rw [Try.params9] at hA hval
  obtain ⟨v0, vs0, d0, ds0, p0, q0, hargs, rfl, rfl, h0, r0⟩ := trodAll_cons hA
  obtain ⟨rfl, rfl, rfl⟩ := trodAll_nil r0
  obtain rfl : args = #[v0] := by cases args; simp_all
  obtain ⟨rfl, rfl⟩ := trodVars_none hV
  have k0 := h0
  have lt0 : ∀ x ∈ p0, x.block < W.heap.size := by obtain ⟨m, hm⟩ := k0; exact DataW.trod_lt m _ _ _ hm
  obtain ⟨z0, w0⟩ := open_rdI (kk := .u8) Try.underlying22 Try.underlying5 (by kernel_rfl) (hval 0 22 v0 rfl rfl) h0
  clear hA0 hval0
  refine (fnDepthWrap_walk v0 z0 W w0).mono fun e W' ⟨he, bel⟩ => ?_
  subst he
  exact ⟨_, rfl, _, _, _, [], _, [], hW', trodAll_mk1 (shut_bool Try.underlying4 _), (trodAll_cons_mk (Below.trod laidOut (by kernel_rfl) (of_decide_eq_true (by kernel_rfl)) k0 bel lt0) trodAll_mk0), rfl, bel.frame _, fun h => by cases h⟩
theorem over : Rows.fnDepthWrapRow.holds Try.pinned (OpenSpec.ofChange Rows.fnDepthWrapSpec) :=
  OpenClaim.holds_of_wide 9 Try.f9 rfl rfl rfl rfl rfl rfl rfl ⟨rfl, rfl, rfl, rfl, rfl⟩ rfl rfl rfl rfl rfl (by kernel_rfl) Try.func9 (by kernel_rfl)
    (of_decide_eq_true (by kernel_rfl)) (by unfold Func.isWrapper; first | (rw [if_pos (by decide +kernel)]; kernel_rfl) | (rw [if_neg (by decide +kernel)]; exact ⟨rfl, rfl⟩))
    (fun os started H enc _ => lifted os started H enc)
end fnDepthWrap
/-- The given statement on FnDepthWrap. -/
theorem fnDepthWrap_holds : Rows.FnDepthWrapSaid := fnDepthWrap.over
#print axioms fnDepthWrap_holds
end Go.Proofs.Ytjipalpachcamaa
