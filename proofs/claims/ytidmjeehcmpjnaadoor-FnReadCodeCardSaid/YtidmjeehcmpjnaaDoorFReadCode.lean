/- YtidmjeehcmpjnaaDoorFReadCode: CodeText of an instruction that is read from a text is the text. Conditions: the listed variables hold what the program's text lays (the card ties that). -/
import Derived.Test.YtidmjeehcmpjnaaDoorDrawX
import Derived.Test.YtidmjeehcmpjnaaDoorAlive
namespace Go.Proofs.YtidmjeehcmpjnaaDoor
open Go.ChangeShapes Go.WideShapes Go.ChangeAt Go.RowKit
set_option linter.unusedVariables false
set_option maxRecDepth 100000 in
set_option maxHeartbeats 4000000 in
theorem fnReadCode_walk (v : Value) (bs : List Int) (w0 : World) (h : RdI .u8 w0 v bs) (hL : LaidB w0) : Calls Tryd.prog 12 #[v] w0 fun e w' => e = .returned (.bool true) ∧ Below w0.heap.size w0 w' := by
  obtain ⟨ad, c, hv, hlc, hcm⟩ := h.shape
  subst hv
  have hB0 := Below.refl w0.heap.size w0
  have HL := Lib.hid hL
  have HR := Lib.hid h
  clear hL h
  by_cases hn : bs.length ≤ 1048576
  rotate_left
  · go_enter Tryd.func12, Tryd.ntmps12
    go_wp2
    go_ret
    exact ⟨rfl, hB0⟩
  go_enter Tryd.func12, Tryd.ntmps12
  go_wp2_with fail
  refine (DrawReadCode_any _ bs _ HR.out).mono ?_
  rintro e w1 ⟨l, rfl, hl, hB1⟩
  cases hrt : readT l with
  | none =>
    have C1 := Lib.hid (fun w => specReadCode l w (by omega))
    have C2 := Lib.hid (fun w (h : LaidB w) => implReadCode l w h (by omega))
    unfold okV at C1 C2
    rw [hrt] at C1 C2
    simp only [Option.getD_none, Option.isSome_none, cdZ] at C1 C2
    clear hrt
    go_wp2_with fail
    refine (C2.out _ (HL.out.below hB1)).mono ?_
    rintro e w2 ⟨rfl, hb2⟩
    have hB2 := hB1.trans (hb2.mono hB1.size)
    have hB3 := hB2.trans ((newB w2 (cObj 0 0 0 0)).mono hB2.size)
    have HX := Lib.hid (c4_of (b := w2.heap.size) (heap_alloc_new w2 (cObj 0 0 0 0)))
    clear hb2 hB2 hB1 hB0
    go_wp2_with fail
    refine (C1.out _).mono ?_
    rintro e w3 ⟨rfl, hb3⟩
    have hB4 := hB3.trans (hb3.mono hB3.size)
    have hB5 := hB4.trans ((newB w3 (cObj 0 0 0 0)).mono hB4.size)
    obtain ⟨x0, x1, x2, x3, _, _, _, _, x8⟩ := (HX.out.below hb3).below (newB w3 (cObj 0 0 0 0))
    clear hb3 hB4 hB3 HX
    unfold cObj at *
    go_wp2_with (go_at_call 27; refine (alive_any _).mono ?_; rintro e w' ⟨rfl, rfl⟩)
    go_ret
    exact ⟨rfl, hB5⟩
  | some c =>
    have C1 := Lib.hid (fun w => specReadCode l w (by omega))
    have C2 := Lib.hid (fun w (h : LaidB w) => implReadCode l w h (by omega))
    have C3 := Lib.hid (fun w (h : LaidA w) => implCodeText c w h)
    unfold okV at C1 C2
    rw [hrt] at C1 C2
    rw [(readT_iff.1 hrt).2] at C3
    simp only [Option.getD_some, Option.isSome_some] at C1 C2
    clear hrt
    obtain ⟨op, a, b, d⟩ := c
    simp only at C1 C2 C3
    go_wp2_with fail
    refine (C2.out _ (HL.out.below hB1)).mono ?_
    rintro e w2 ⟨rfl, hb2⟩
    have hB2 := hB1.trans (hb2.mono hB1.size)
    have hB3 := hB2.trans ((newB w2 (cObj op a b d)).mono hB2.size)
    have HX := Lib.hid (c4_of (b := w2.heap.size) (heap_alloc_new w2 (cObj op a b d)))
    clear hb2 hB2 hB1 hB0
    go_wp2_with fail
    refine (C1.out _).mono ?_
    rintro e w3 ⟨rfl, hb3⟩
    have hB4 := hB3.trans (hb3.mono hB3.size)
    have hB5 := hB4.trans ((newB w3 (cObj op a b d)).mono hB4.size)
    obtain ⟨x0, x1, x2, x3, _, _, _, _, x8⟩ := (HX.out.below hb3).below (newB w3 (cObj op a b d))
    clear hb3 hB4 hB3 HX
    unfold cObj at *
    go_wp2_with fail
    refine (C3.out _ (HL.out.below hB5).toLaidA).mono ?_
    rintro e w4 ⟨rfl, hb4⟩
    have hB6 := hB5.trans (hb4.mono hB5.size)
    go_wp2
    go_ret
    exact ⟨rfl, hB6⟩
namespace fnReadCode
set_option linter.unusedVariables false
set_option maxRecDepth 100000 in
theorem lifted (os : Os) (started : os.Started) (H : Type) (enc : TypeId × Value → H) :
    ReturnsInHanded {} Tryd.checked os 12 .any (fun w args => (Rows.fnReadCodeSpec.pre enc Tryd.prog Tryd.f12 [] false w args ∧ laidMetH Tryd.prog laidB w) ∧ sizedMet enc Tryd.prog Tryd.f12 (OpenSpec.ofChange Rows.fnReadCodeSpec) false w args) (Rows.fnReadCodeSpec.post enc Tryd.prog Tryd.f12 false true false false) := by
  refine handed_and_shaped (C := Tryd.checked) (X := fun w _ => laidMetH Tryd.prog laidB w) (fun _ _ _ hh h => h.of_heap hh) own started (by kernel_rfl) Tryd.func12
    (ChangeSpec.witness_shaped (enc := enc) (C := Tryd.checked) (os := os) (X := fun w _ => laidMetH Tryd.prog laidB w) false (World.laidAll Tryd.prog os laidB) #[.slice none 0 0] 8 (World.laidAll_os _ _ _)
      (World.shaped_of_ZipB (by kernel_rfl) (by kernel_rfl)) (by kernel_rfl) (by kernel_rfl) (by kernel_rfl)
      (by rw [MakeChecks.laidMetH_plain _ _ _ (by kernel_rfl)]; exact laidMet_laidAll _ (by kernel_rfl) (by kernel_rfl))) ?_
  intro W base args ds gs before hval0 hW _ hshape hlaid
  have hval : ∀ (j : Nat) t v, Tryd.f12.params[j]? = some t → args[j]? = some v → Value.okWide Tryd.prog W .any base t v := hval0
  have hW' := hW
  obtain ⟨p, q, hA0, hV, rfl, hfz, hnd⟩ := hW
  have hA : DataW.TrodAll enc Tryd.prog W 0 (fun _ => true) true Tryd.f12.params.toList args.toList ds p := hA0
  rw [Tryd.params12] at hA hval
  obtain ⟨v0, vs0, d0, ds0, p0, q0, hargs, rfl, rfl, h0, r0⟩ := trodAll_cons hA
  obtain ⟨rfl, rfl, rfl⟩ := trodAll_nil r0
  obtain rfl : args = #[v0] := by cases args; simp_all
  obtain ⟨gv, rfl⟩ := vars_one hV
  have k0 := h0
  have lt0 : ∀ x ∈ p0, x.block < W.heap.size := by obtain ⟨m, hm⟩ := k0; exact DataW.trod_lt m _ _ _ hm
  obtain ⟨z0, w0⟩ := open_rdI (kk := .u8) Tryd.underlying32 Tryd.underlying5 (by kernel_rfl) (hval 0 32 v0 rfl rfl) h0
  clear hA0 hval0
  refine (fnReadCode_walk v0 z0 W w0 (laidB_of hlaid hshape)).mono fun e W' ⟨he, bel⟩ => ?_
  subst he
  exact ⟨_, rfl, _, _, _, [], _, _, hW', trodAll_mk1 (shut_bool Tryd.underlying4 _), (trodAll_cons_mk (Below.trod laidOut (by kernel_rfl) (of_decide_eq_true (by kernel_rfl)) k0 bel lt0) trodAll_mk0), Below.trodVars laidOut bel varsKept hV, bel.frame _, fun h => by cases h⟩
theorem over : Rows.fnReadCodeRow.holds Tryd.pinned (OpenSpec.ofChange Rows.fnReadCodeSpec) :=
  OpenClaim.holds_of_wide 12 Tryd.f12 rfl rfl rfl rfl rfl rfl rfl ⟨rfl, rfl, rfl, rfl, rfl⟩ rfl rfl rfl rfl rfl (by kernel_rfl) Tryd.func12 (by kernel_rfl)
    (of_decide_eq_true (by kernel_rfl)) (by unfold Func.isWrapper; first | (rw [if_pos (by decide +kernel)]; kernel_rfl) | (rw [if_neg (by decide +kernel)]; exact ⟨rfl, rfl⟩))
    (fun os started H enc _ => lifted os started H enc)
theorem carded : Rows.FnReadCodeCardSaid :=
  Claim7.holds_tied_plain_at .later [] [.data, .data, .data, .data, .sentinel, .sentinel, .widerDeep, .pinned] true (true, "035660c64568d2cd316fd08c4cbc06c1be121de206d0751e4ebf56ec72942bdf") true over (fun _ h => by cases h) (by kernel_rfl) (fun _ h => by cases h) fnReadCode_row_tie rfl ⟨rfl, rfl⟩ (by kernel_rfl) rfl
    (fun f fn hf hfn => by
      obtain rfl : f = 12 := Option.some.inj ((show Tryd.prog.funcNamed "loop.example/lanekernel/laws.FnReadCode" = some 12 by kernel_rfl).symm.trans hf) |>.symm
      obtain rfl : fn = Tryd.f12 := (Option.some.inj (Tryd.func12.symm.trans hfn)).symm
      exact ⟨by kernel_rfl, fun j t ht => by
        rw [Tryd.params12] at ht
        have hm : t ∈ [32] := by simpa using Array.mem_of_getElem? ht
        have hall : ([32].all fun u => !Tryd.prog.wantsStandIn u) = true := by kernel_rfl
        exact (show Tryd.prog.wantsStandIn t = false by simpa using List.all_eq_true.1 hall t hm)⟩)
    (by kernel_rfl)
end fnReadCode
/-- The given card on FnReadCode. -/
theorem fnReadCode_holds : Rows.FnReadCodeCardSaid := fnReadCode.carded
#print axioms fnReadCode_holds
end Go.Proofs.YtidmjeehcmpjnaaDoor
