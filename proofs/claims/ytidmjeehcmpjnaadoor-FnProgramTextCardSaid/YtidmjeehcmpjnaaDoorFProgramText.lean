/- YtidmjeehcmpjnaaDoorFProgramText: a program's texts read as the program. Conditions: the listed variables hold what the program's text lays (the card ties that). -/
import Derived.Test.YtidmjeehcmpjnaaDoorDrawS
import Derived.Test.YtidmjeehcmpjnaaDoorLawC
import Derived.Test.YtidmjeehcmpjnaaDoorTxtU
import Derived.Test.YtidmjeehcmpjnaaDoorTxtV
import Derived.Test.YtidmjeehcmpjnaaDoorCardB
import Derived.Test.YtidmjeehcmpjnaaDoorAlive
namespace Go.Proofs.YtidmjeehcmpjnaaDoor
open Go.ChangeShapes Go.WideShapes Go.ChangeAt Go.RowKit
set_option linter.unusedVariables false
set_option maxRecDepth 100000 in
set_option maxHeartbeats 8000000 in
theorem fnProgramText_walk (v : Value) (bs : List Int) (w0 : World) (h : RdI .u8 w0 v bs) (hL : LaidB w0) : Calls Tryd.prog 4 #[v] w0 fun e w' => e = .returned (.bool true) ∧ Below w0.heap.size w0 w' := by
  obtain ⟨ad, c, hv, hlc, hcm⟩ := h.shape
  subst hv
  have hB0 := Below.refl w0.heap.size w0
  have HL := Lib.hid hL
  have HR := Lib.hid h
  clear hL h
  by_cases hn : bs.length ≤ 1048576
  rotate_left
  · go_enter Tryd.func4, Tryd.ntmps4
    go_wp2
    go_ret
    exact ⟨rfl, hB0⟩
  go_enter Tryd.func4, Tryd.ntmps4
  go_wp2_with fail
  refine (DrawProgramText_any _ bs _ HR.out).mono ?_
  rintro e w1 ⟨u, rfl, cs, ho, hl, hin, hB1⟩
  have HO := Lib.hid (show OC w0.heap.size w1 u cs from ⟨ho, hin⟩)
  have HB1 := Lib.hid hB1
  clear hB1 hB0 ho hin
  obtain ⟨ua, uc, hu, hu1, hu2⟩ := HO.out.shape
  subst hu
  obtain ⟨P, hP⟩ : ∃ P, ptext cs = P := ⟨_, rfl⟩
  have hpl := ptext_len cs
  have HPX := Lib.hid (ptext_fit cs)
  have CI := Lib.hid (fun v w (h : RdC w v cs) (hl : LaidA w) => implProgramText v cs w h hl)
  have CS := Lib.hid (fun v w (h : RdC w v cs) => specProgramText v cs w h)
  have CV := Lib.hid (fun v w (h : RdC w v cs) => specProgramValid v cs w h)
  rw [hP] at CI CS hpl HPX
  have HP := Lib.hid hP
  clear hP
  have HPF := Lib.hid (fun x (hx : x ∈ P) => show x.length ≤ 9223372036854775807 by have := HPX.out x hx; omega)
  go_wp2_with fail
  refine (CI.out _ w1 HO.out.rd (HL.out.below HB1.out).toLaidA).mono ?_
  rintro e w2 ⟨v4, rfl, ho4, hb2⟩
  have HB2 := Lib.hid (HB1.out.trans (hb2.mono HB1.out.size))
  have HO2 := Lib.hid (HO.out.below hb2)
  have HT2 := Lib.hid (ho4.rd HPF.out)
  clear ho4 hb2 HB1 HO
  obtain ⟨la, lc, hv4, hl1, hl2⟩ := HT2.out.shape
  subst hv4
  go_wp2_with fail
  refine (CS.out _ w2 HO2.out.rd).mono ?_
  rintro e w3 ⟨v5, rfl, ho5, hb3⟩
  have HB3 := Lib.hid (HB2.out.trans (hb3.mono HB2.out.size))
  have HO3 := Lib.hid (HO2.out.below hb3)
  have HT3 := Lib.hid (HT2.out.below hb3 (Nat.le_refl _))
  have HS3 := Lib.hid (ho5.rd HPF.out)
  clear ho5 hb3 HB2 HO2 HT2
  go_wp2_with fail
  refine (sameTexts_same _ _ P w3 HT3.out HS3.out).mono ?_
  rintro e w4 ⟨rfl, hb4⟩
  have HB4 := Lib.hid (HB3.out.trans (hb4.mono HB3.out.size))
  have HO4 := Lib.hid (HO3.out.below hb4)
  have HT4 := Lib.hid (HT3.out.below hb4 (Nat.le_refl _))
  clear hb4 HB3 HO3 HT3 HS3
  go_wp2_with fail
  cases hpv : pValid cs with
  | false =>
    rw [hpv] at CV
    have hP0 : P = [] := by rw [← HP.out]; exact ptext_f hpv
    subst hP0
    clear hpv
    refine (CV.out _ w4 HO4.out.rd).mono ?_
    rintro e w5 ⟨rfl, hb5⟩
    have HB5 := Lib.hid (HB4.out.trans (hb5.mono HB4.out.size))
    clear hb5 HB4 HO4 HT4
    go_wp2_with (go_at_call 27; refine (alive_any _).mono ?_; rintro e w' ⟨rfl, rfl⟩)
    go_ret
    exact ⟨rfl, HB5.out⟩
  | true =>
    rw [hpv] at CV
    have h40 := pValid_len hpv
    have hPm : P = cs.map ctext := by rw [← HP.out]; exact ptext_t hpv
    have hPl : P.length = cs.length := by rw [hPm]; simp
    have hrd : rdP P = some cs := by rw [hPm]; exact rdP_texts hpv
    have CR := Lib.hid (fun v w (h : RdT w v P) (hl : LaidB w) => implReadProgram v P w h hl (by omega) (fun x hx => by have := HPX.out x hx; omega))
    rw [hrd] at CR
    unfold NewP at CR
    simp only [Option.getD_some, Option.isSome_some] at CR
    have HPL := Lib.hid hPl
    clear hpv hPm hrd hPl
    refine (CV.out _ w4 HO4.out.rd).mono ?_
    rintro e w5 ⟨rfl, hb5⟩
    have HB5 := Lib.hid (HB4.out.trans (hb5.mono HB4.out.size))
    have HO5 := Lib.hid (HO4.out.below hb5)
    have HT5 := Lib.hid (HT4.out.below hb5 (Nat.le_refl _))
    clear hb5 HB4 HO4 HT4
    go_wp2_with fail
    refine (CR.out _ w5 HT5.out (HL.out.below HB5.out)).mono ?_
    rintro e w6 ⟨v6, rfl, ho6, hb6⟩
    have HB6 := Lib.hid (HB5.out.trans (hb6.mono HB5.out.size))
    have HO6 := Lib.hid (HO5.out.below hb6)
    have HC6 := Lib.hid (rdC_of_owns ho6 (fun c hc => (HO6.out.inn c hc).wf))
    clear hb6 HB5 HO5 HT5 ho6
    go_wp2_with fail
    refine (sameCodes_same _ _ cs w6 HC6.out HO6.out.rd).mono ?_
    rintro e w7 ⟨rfl, hb7⟩
    have HB7 := Lib.hid (HB6.out.trans (hb7.mono HB6.out.size))
    clear hb7 HB6 HO6 HC6
    go_wp2
    go_ret
    exact ⟨by simp [HPL.out], HB7.out⟩
namespace fnProgramText
set_option linter.unusedVariables false
set_option maxRecDepth 100000 in
theorem lifted (os : Os) (started : os.Started) (H : Type) (enc : TypeId × Value → H) :
    ReturnsInHanded {} Tryd.checked os 4 .any (fun w args => (Rows.fnProgramTextSpec.pre enc Tryd.prog Tryd.f4 [] false w args ∧ laidMetH Tryd.prog laidB w) ∧ sizedMet enc Tryd.prog Tryd.f4 (OpenSpec.ofChange Rows.fnProgramTextSpec) false w args) (Rows.fnProgramTextSpec.post enc Tryd.prog Tryd.f4 false true false false) := by
  refine handed_and_shaped (C := Tryd.checked) (X := fun w _ => laidMetH Tryd.prog laidB w) (fun _ _ _ hh h => h.of_heap hh) own started (by kernel_rfl) Tryd.func4
    (ChangeSpec.witness_shaped (enc := enc) (C := Tryd.checked) (os := os) (X := fun w _ => laidMetH Tryd.prog laidB w) false (World.laidAll Tryd.prog os laidB) #[.slice none 0 0] 8 (World.laidAll_os _ _ _)
      (World.shaped_of_ZipB (by kernel_rfl) (by kernel_rfl)) (by kernel_rfl) (by kernel_rfl) (by kernel_rfl)
      (by rw [MakeChecks.laidMetH_plain _ _ _ (by kernel_rfl)]; exact laidMet_laidAll _ (by kernel_rfl) (by kernel_rfl))) ?_
  intro W base args ds gs before hval0 hW _ hshape hlaid
  have hval : ∀ (j : Nat) t v, Tryd.f4.params[j]? = some t → args[j]? = some v → Value.okWide Tryd.prog W .any base t v := hval0
  have hW' := hW
  obtain ⟨p, q, hA0, hV, rfl, hfz, hnd⟩ := hW
  have hA : DataW.TrodAll enc Tryd.prog W 0 (fun _ => true) true Tryd.f4.params.toList args.toList ds p := hA0
  rw [Tryd.params4] at hA hval
  obtain ⟨v0, vs0, d0, ds0, p0, q0, hargs, rfl, rfl, h0, r0⟩ := trodAll_cons hA
  obtain ⟨rfl, rfl, rfl⟩ := trodAll_nil r0
  obtain rfl : args = #[v0] := by cases args; simp_all
  obtain ⟨gv, rfl⟩ := vars_one hV
  have k0 := h0
  have lt0 : ∀ x ∈ p0, x.block < W.heap.size := by obtain ⟨m, hm⟩ := k0; exact DataW.trod_lt m _ _ _ hm
  obtain ⟨z0, w0⟩ := open_rdI (kk := .u8) Tryd.underlying32 Tryd.underlying5 (by kernel_rfl) (hval 0 32 v0 rfl rfl) h0
  clear hA0 hval0
  refine (fnProgramText_walk v0 z0 W w0 (laidB_of hlaid hshape)).mono fun e W' ⟨he, bel⟩ => ?_
  subst he
  exact ⟨_, rfl, _, _, _, [], _, _, hW', trodAll_mk1 (shut_bool Tryd.underlying4 _), (trodAll_cons_mk (Below.trod laidOut (by kernel_rfl) (of_decide_eq_true (by kernel_rfl)) k0 bel lt0) trodAll_mk0), Below.trodVars laidOut bel varsKept hV, bel.frame _, fun h => by cases h⟩
theorem over : Rows.fnProgramTextRow.holds Tryd.pinned (OpenSpec.ofChange Rows.fnProgramTextSpec) :=
  OpenClaim.holds_of_wide 4 Tryd.f4 rfl rfl rfl rfl rfl rfl rfl ⟨rfl, rfl, rfl, rfl, rfl⟩ rfl rfl rfl rfl rfl (by kernel_rfl) Tryd.func4 (by kernel_rfl)
    (of_decide_eq_true (by kernel_rfl)) (by unfold Func.isWrapper; first | (rw [if_pos (by decide +kernel)]; kernel_rfl) | (rw [if_neg (by decide +kernel)]; exact ⟨rfl, rfl⟩))
    (fun os started H enc _ => lifted os started H enc)
theorem carded : Rows.FnProgramTextCardSaid :=
  Claim7.holds_tied_plain_at .later [] [.data, .data, .data, .data, .sentinel, .sentinel, .widerDeep, .pinned] true (true, "035660c64568d2cd316fd08c4cbc06c1be121de206d0751e4ebf56ec72942bdf") true over (fun _ h => by cases h) (by kernel_rfl) (fun _ h => by cases h) fnProgramText_row_tie rfl ⟨rfl, rfl⟩ (by kernel_rfl) rfl
    (fun f fn hf hfn => by
      obtain rfl : f = 4 := Option.some.inj ((show Tryd.prog.funcNamed "loop.example/lanekernel/laws.FnProgramText" = some 4 by kernel_rfl).symm.trans hf) |>.symm
      obtain rfl : fn = Tryd.f4 := (Option.some.inj (Tryd.func4.symm.trans hfn)).symm
      exact ⟨by kernel_rfl, fun j t ht => by
        rw [Tryd.params4] at ht
        have hm : t ∈ [32] := by simpa using Array.mem_of_getElem? ht
        have hall : ([32].all fun u => !Tryd.prog.wantsStandIn u) = true := by kernel_rfl
        exact (show Tryd.prog.wantsStandIn t = false by simpa using List.all_eq_true.1 hall t hm)⟩)
    (by kernel_rfl)
end fnProgramText
/-- The given card on FnProgramText. -/
theorem fnProgramText_holds : Rows.FnProgramTextCardSaid := fnProgramText.carded
#print axioms fnProgramText_holds
end Go.Proofs.YtidmjeehcmpjnaaDoor
