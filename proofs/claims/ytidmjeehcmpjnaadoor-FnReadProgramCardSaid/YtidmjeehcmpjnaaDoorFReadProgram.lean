/- YtidmjeehcmpjnaaDoorFReadProgram: the texts of a program that is read from lines are the lines. Conditions: the listed variables hold what the program's text lays (the card ties that). -/
import Derived.Test.YtidmjeehcmpjnaaDoorDrawR
import Derived.Test.YtidmjeehcmpjnaaDoorTxtU
import Derived.Test.YtidmjeehcmpjnaaDoorTxtV
import Derived.Test.YtidmjeehcmpjnaaDoorCardB
import Derived.Test.YtidmjeehcmpjnaaDoorAlive
namespace Go.Proofs.YtidmjeehcmpjnaaDoor
open Go.ChangeShapes Go.WideShapes Go.ChangeAt Go.RowKit
set_option linter.unusedVariables false
set_option maxRecDepth 100000 in
set_option maxHeartbeats 8000000 in
theorem fnReadProgram_walk (v : Value) (bs : List Int) (w0 : World) (h : RdI .u8 w0 v bs) (hL : LaidB w0) : Calls Tryd.prog 5 #[v] w0 fun e w' => e = .returned (.bool true) ∧ Below w0.heap.size w0 w' := by
  obtain ⟨ad, c, hv, hlc, hcm⟩ := h.shape
  subst hv
  have hB0 := Below.refl w0.heap.size w0
  have HL := Lib.hid hL
  have HR := Lib.hid h
  clear hL h
  by_cases hn : bs.length ≤ 1048576
  rotate_left
  · go_enter Tryd.func5, Tryd.ntmps5
    go_wp2
    go_ret
    exact ⟨rfl, hB0⟩
  go_enter Tryd.func5, Tryd.ntmps5
  go_wp2_with fail
  refine (DrawReadProgram_any _ bs _ HR.out).mono ?_
  rintro e w1 ⟨u, ls, rfl, ho, hl, hx, hB1⟩
  have HXF := Lib.hid (fun x (hh : x ∈ ls) => show x.length ≤ 9223372036854775807 by have := hx x hh; omega)
  have HT := Lib.hid (ho.rd HXF.out)
  have HB1 := Lib.hid hB1
  have CI := Lib.hid (fun v w (h : RdT w v ls) (hl2 : LaidB w) => implReadProgram v ls w h hl2 (by omega) (fun x hh => by have := hx x hh; omega))
  have CS := Lib.hid (fun v w (h : RdT w v ls) => specReadProgram v ls w h (by omega) (fun x hh => by have := hx x hh; omega))
  unfold NewP at CI CS
  have HWF := Lib.hid (rdP_wf (ls := ls))
  clear hB1 ho hx hB0
  cases hrd : rdP ls with
  | none =>
    rw [hrd] at CI CS
    simp only [Option.getD_none, Option.isSome_none, List.length_nil] at CI CS
    clear hrd HWF
    go_wp2_with fail
    refine (CI.out _ w1 HT.out (HL.out.below HB1.out)).mono ?_
    rintro e w2 ⟨v4, rfl, ho4, hb2⟩
    have HB2 := Lib.hid (HB1.out.trans (hb2.mono HB1.out.size))
    have HT2 := Lib.hid (HT.out.below hb2 (Nat.le_refl _))
    have HC2 := Lib.hid (show RdC w2 v4 [] from rdC_of_owns ho4 (by simp))
    obtain ⟨a4, c4, hv4⟩ := own_shape ho4
    subst hv4
    clear hb2 HB1 HT ho4
    go_wp2_with fail
    refine (CS.out _ w2 HT2.out).mono ?_
    rintro e w3 ⟨v6, rfl, ho6, hb3⟩
    have HB3 := Lib.hid (HB2.out.trans (hb3.mono HB2.out.size))
    have HC3 := Lib.hid (HC2.out.below hb3 (Nat.le_refl _))
    have HD3 := Lib.hid (show RdC w3 v6 [] from rdC_of_owns ho6 (by simp))
    clear hb3 HB2 HT2 HC2 ho6
    go_wp2_with fail
    refine (sameCodes_same _ _ [] w3 HC3.out HD3.out).mono ?_
    rintro e w4 ⟨rfl, hb4⟩
    have HB4 := Lib.hid (HB3.out.trans (hb4.mono HB3.out.size))
    clear hb4 HB3 HC3 HD3
    go_wp2_with (go_at_call 27; refine (alive_any _).mono ?_; rintro e w' ⟨rfl, rfl⟩)
    go_ret
    exact ⟨rfl, HB4.out⟩
  | some cs =>
    rw [hrd] at CI CS HWF
    simp only [Option.getD_some, Option.isSome_some] at CI CS HWF
    have CP := Lib.hid (fun v w (h : RdC w v cs) (hl2 : LaidA w) => implProgramText v cs w h hl2)
    rw [rdP_text hrd] at CP
    clear hrd
    go_wp2_with fail
    refine (CI.out _ w1 HT.out (HL.out.below HB1.out)).mono ?_
    rintro e w2 ⟨v4, rfl, ho4, hb2⟩
    have HB2 := Lib.hid (HB1.out.trans (hb2.mono HB1.out.size))
    have HT2 := Lib.hid (HT.out.below hb2 (Nat.le_refl _))
    have HC2 := Lib.hid (rdC_of_owns ho4 HWF.out)
    obtain ⟨a4, c4, hv4⟩ := own_shape ho4
    subst hv4
    clear hb2 HB1 HT ho4
    go_wp2_with fail
    refine (CS.out _ w2 HT2.out).mono ?_
    rintro e w3 ⟨v6, rfl, ho6, hb3⟩
    have HB3 := Lib.hid (HB2.out.trans (hb3.mono HB2.out.size))
    have HT3 := Lib.hid (HT2.out.below hb3 (Nat.le_refl _))
    have HC3 := Lib.hid (HC2.out.below hb3 (Nat.le_refl _))
    have HD3 := Lib.hid (rdC_of_owns ho6 HWF.out)
    clear hb3 HB2 HT2 HC2 ho6
    go_wp2_with fail
    refine (sameCodes_same _ _ cs w3 HC3.out HD3.out).mono ?_
    rintro e w4 ⟨rfl, hb4⟩
    have HB4 := Lib.hid (HB3.out.trans (hb4.mono HB3.out.size))
    have HT4 := Lib.hid (HT3.out.below hb4 (Nat.le_refl _))
    have HC4 := Lib.hid (HC3.out.below hb4 (Nat.le_refl _))
    clear hb4 HB3 HC3 HD3 HT3
    go_wp2_with fail
    refine (CP.out _ w4 HC4.out (HL.out.below HB4.out).toLaidA).mono ?_
    rintro e w5 ⟨v7, rfl, ho7, hb5⟩
    have HB5 := Lib.hid (HB4.out.trans (hb5.mono HB4.out.size))
    have HT5 := Lib.hid (HT4.out.below hb5 (Nat.le_refl _))
    have HU5 := Lib.hid (ho7.rd HXF.out)
    clear hb5 HB4 HT4 HC4 ho7
    go_wp2_with fail
    refine (sameTexts_same _ _ ls w5 HU5.out HT5.out).mono ?_
    rintro e w6 ⟨rfl, hb6⟩
    have HB6 := Lib.hid (HB5.out.trans (hb6.mono HB5.out.size))
    clear hb6 HB5 HT5 HU5
    go_wp2
    go_ret
    exact ⟨rfl, HB6.out⟩
namespace fnReadProgram
set_option linter.unusedVariables false
set_option maxRecDepth 100000 in
theorem lifted (os : Os) (started : os.Started) (H : Type) (enc : TypeId × Value → H) :
    ReturnsInHanded {} Tryd.checked os 5 .any (fun w args => (Rows.fnReadProgramSpec.pre enc Tryd.prog Tryd.f5 [] false w args ∧ laidMetH Tryd.prog laidB w) ∧ sizedMet enc Tryd.prog Tryd.f5 (OpenSpec.ofChange Rows.fnReadProgramSpec) false w args) (Rows.fnReadProgramSpec.post enc Tryd.prog Tryd.f5 false true false false) := by
  refine handed_and_shaped (C := Tryd.checked) (X := fun w _ => laidMetH Tryd.prog laidB w) (fun _ _ _ hh h => h.of_heap hh) own started (by kernel_rfl) Tryd.func5
    (ChangeSpec.witness_shaped (enc := enc) (C := Tryd.checked) (os := os) (X := fun w _ => laidMetH Tryd.prog laidB w) false (World.laidAll Tryd.prog os laidB) #[.slice none 0 0] 8 (World.laidAll_os _ _ _)
      (World.shaped_of_ZipB (by kernel_rfl) (by kernel_rfl)) (by kernel_rfl) (by kernel_rfl) (by kernel_rfl)
      (by rw [MakeChecks.laidMetH_plain _ _ _ (by kernel_rfl)]; exact laidMet_laidAll _ (by kernel_rfl) (by kernel_rfl))) ?_
  intro W base args ds gs before hval0 hW _ hshape hlaid
  have hval : ∀ (j : Nat) t v, Tryd.f5.params[j]? = some t → args[j]? = some v → Value.okWide Tryd.prog W .any base t v := hval0
  have hW' := hW
  obtain ⟨p, q, hA0, hV, rfl, hfz, hnd⟩ := hW
  have hA : DataW.TrodAll enc Tryd.prog W 0 (fun _ => true) true Tryd.f5.params.toList args.toList ds p := hA0
  rw [Tryd.params5] at hA hval
  obtain ⟨v0, vs0, d0, ds0, p0, q0, hargs, rfl, rfl, h0, r0⟩ := trodAll_cons hA
  obtain ⟨rfl, rfl, rfl⟩ := trodAll_nil r0
  obtain rfl : args = #[v0] := by cases args; simp_all
  obtain ⟨gv, rfl⟩ := vars_one hV
  have k0 := h0
  have lt0 : ∀ x ∈ p0, x.block < W.heap.size := by obtain ⟨m, hm⟩ := k0; exact DataW.trod_lt m _ _ _ hm
  obtain ⟨z0, w0⟩ := open_rdI (kk := .u8) Tryd.underlying32 Tryd.underlying5 (by kernel_rfl) (hval 0 32 v0 rfl rfl) h0
  clear hA0 hval0
  refine (fnReadProgram_walk v0 z0 W w0 (laidB_of hlaid hshape)).mono fun e W' ⟨he, bel⟩ => ?_
  subst he
  exact ⟨_, rfl, _, _, _, [], _, _, hW', trodAll_mk1 (shut_bool Tryd.underlying4 _), (trodAll_cons_mk (Below.trod laidOut (by kernel_rfl) (of_decide_eq_true (by kernel_rfl)) k0 bel lt0) trodAll_mk0), Below.trodVars laidOut bel varsKept hV, bel.frame _, fun h => by cases h⟩
theorem over : Rows.fnReadProgramRow.holds Tryd.pinned (OpenSpec.ofChange Rows.fnReadProgramSpec) :=
  OpenClaim.holds_of_wide 5 Tryd.f5 rfl rfl rfl rfl rfl rfl rfl ⟨rfl, rfl, rfl, rfl, rfl⟩ rfl rfl rfl rfl rfl (by kernel_rfl) Tryd.func5 (by kernel_rfl)
    (of_decide_eq_true (by kernel_rfl)) (by unfold Func.isWrapper; first | (rw [if_pos (by decide +kernel)]; kernel_rfl) | (rw [if_neg (by decide +kernel)]; exact ⟨rfl, rfl⟩))
    (fun os started H enc _ => lifted os started H enc)
theorem carded : Rows.FnReadProgramCardSaid :=
  Claim7.holds_tied_plain_at .later [] [.data, .data, .data, .data, .sentinel, .sentinel, .widerDeep, .pinned] true (true, "035660c64568d2cd316fd08c4cbc06c1be121de206d0751e4ebf56ec72942bdf") true over (fun _ h => by cases h) (by kernel_rfl) (fun _ h => by cases h) fnReadProgram_row_tie rfl ⟨rfl, rfl⟩ (by kernel_rfl) rfl
    (fun f fn hf hfn => by
      obtain rfl : f = 5 := Option.some.inj ((show Tryd.prog.funcNamed "loop.example/lanekernel/laws.FnReadProgram" = some 5 by kernel_rfl).symm.trans hf) |>.symm
      obtain rfl : fn = Tryd.f5 := (Option.some.inj (Tryd.func5.symm.trans hfn)).symm
      exact ⟨by kernel_rfl, fun j t ht => by
        rw [Tryd.params5] at ht
        have hm : t ∈ [32] := by simpa using Array.mem_of_getElem? ht
        have hall : ([32].all fun u => !Tryd.prog.wantsStandIn u) = true := by kernel_rfl
        exact (show Tryd.prog.wantsStandIn t = false by simpa using List.all_eq_true.1 hall t hm)⟩)
    (by kernel_rfl)
end fnReadProgram
/-- The given card on FnReadProgram. -/
theorem fnReadProgram_holds : Rows.FnReadProgramCardSaid := fnReadProgram.carded
#print axioms fnReadProgram_holds
end Go.Proofs.YtidmjeehcmpjnaaDoor
