/- YtidmjeehcmpjnaaDoorLReadCode: the program's ReadCode returns what the reference's returns, for all arguments. Conditions: the listed variables hold what the program's text lays (the card ties that). -/
import Derived.Test.YtidmjeehcmpjnaaDoorTxtI
namespace Go.Proofs.YtidmjeehcmpjnaaDoor
open Go.ChangeShapes Go.WideShapes Go.ChangeAt Go.RowKit
set_option linter.unusedVariables false
set_option maxHeartbeats 2000000 in
theorem fnExactReadCode_walk (s : ByteArray) (w0 : World) (hs : s.size ≤ maxLen) (hL : LaidB w0) : Calls Tryd.prog 10 #[.string s] w0 fun e w' => e = .returned (.bool true) ∧ Below w0.heap.size w0 w' := by
  obtain ⟨l, rfl⟩ : ∃ l : List UInt8, s = ⟨l.toArray⟩ := ⟨_, bytes_eta s⟩
  have hm : l.length ≤ 9223372036854775807 := by
    have : l.toArray.size ≤ maxLen := hs
    rw [List.size_toArray] at this
    unfold maxLen at this
    omega
  have hB0 := Below.refl w0.heap.size w0
  have HL := Lib.hid hL
  clear hL hs
  by_cases hbig : 1048576 < l.length
  · go_enter Tryd.func10, Tryd.ntmps10
    go_wp2
    go_ret
    exact ⟨rfl, hB0⟩
  obtain ⟨c, hc⟩ : ∃ c, (readT l).getD cdZ = c := ⟨_, rfl⟩
  obtain ⟨b, hb⟩ : ∃ b, (readT l).isSome = b := ⟨_, rfl⟩
  have C1 := Lib.hid (fun w => specReadCode l w (by omega))
  have C2 := Lib.hid (fun w (h : LaidB w) => implReadCode l w h (by omega))
  unfold okV at C1 C2
  rw [hc, hb] at C1 C2
  clear hc hb
  go_enter Tryd.func10, Tryd.ntmps10
  go_wp2_with fail
  refine (C1.out _).mono ?_
  rintro e w1 ⟨rfl, hb1⟩
  have hB1 := hb1.trans ((newB w1 (.cells #[.int .i64 c.op, .int .i64 c.a, .int .i64 c.b, .int .i64 c.c] 42)).mono hb1.size)
  have HX1 := Lib.hid (c4_of (b := w1.heap.size) (heap_alloc_new w1 (cObj c.op c.a c.b c.c)))
  have HL1 := Lib.hid (HL.out.below hB1)
  clear hb1 hB0
  go_wp2_with fail
  refine (C2.out _ HL1.out).mono ?_
  rintro e w2 ⟨rfl, hb2⟩
  have hB2 := hB1.trans (hb2.mono hB1.size)
  have hB3 := hB2.trans ((newB w2 (.cells #[.int .i64 c.op, .int .i64 c.a, .int .i64 c.b, .int .i64 c.c] 42)).mono hB2.size)
  have hX1 := HX1.out.below hb2
  obtain ⟨x0, x1, x2, x3, _, _, _, _, x8⟩ := hX1.below (newB w2 (.cells #[.int .i64 c.op, .int .i64 c.a, .int .i64 c.b, .int .i64 c.c] 42))
  clear hb2 hB1 hX1 HX1 HL1 hB2
  go_wp2_with fail
  refine (eqCode_same c _).mono ?_
  rintro e w3 ⟨rfl, hb3⟩
  have hB4 := hB3.trans (hb3.mono hB3.size)
  go_wp2
  go_ret
  exact ⟨rfl, hB4⟩
namespace fnExactReadCode
set_option linter.unusedVariables false
set_option maxRecDepth 100000 in
theorem lifted (os : Os) (started : os.Started) (H : Type) (enc : TypeId × Value → H) :
    ReturnsInHanded {} Tryd.checked os 10 .any (fun w args => (Rows.fnExactReadCodeSpec.pre enc Tryd.prog Tryd.f10 [] false w args ∧ laidMetH Tryd.prog laidB w) ∧ sizedMet enc Tryd.prog Tryd.f10 (OpenSpec.ofChange Rows.fnExactReadCodeSpec) false w args) (Rows.fnExactReadCodeSpec.post enc Tryd.prog Tryd.f10 false true false false) := by
  refine handed_and_shaped (C := Tryd.checked) (X := fun w _ => laidMetH Tryd.prog laidB w) (fun _ _ _ hh h => h.of_heap hh) own started (by kernel_rfl) Tryd.func10
    (ChangeSpec.witness_shaped (enc := enc) (C := Tryd.checked) (os := os) (X := fun w _ => laidMetH Tryd.prog laidB w) false (World.laidAll Tryd.prog os laidB) #[.string ByteArray.empty] 8 (World.laidAll_os _ _ _)
      (World.shaped_of_ZipB (by kernel_rfl) (by kernel_rfl)) (by kernel_rfl) (by kernel_rfl) (by kernel_rfl)
      (by rw [MakeChecks.laidMetH_plain _ _ _ (by kernel_rfl)]; exact laidMet_laidAll _ (by kernel_rfl) (by kernel_rfl))) ?_
  intro W base args ds gs before hval0 hW _ hshape hlaid
  have hval : ∀ (j : Nat) t v, Tryd.f10.params[j]? = some t → args[j]? = some v → Value.okWide Tryd.prog W .any base t v := hval0
  have hW' := hW
  obtain ⟨p, q, hA0, hV, rfl, hfz, hnd⟩ := hW
  have hA : DataW.TrodAll enc Tryd.prog W 0 (fun _ => true) true Tryd.f10.params.toList args.toList ds p := hA0
  rw [Tryd.params10] at hA hval
  obtain ⟨v0, vs0, d0, ds0, p0, q0, hargs, rfl, rfl, h0, r0⟩ := trodAll_cons hA
  obtain ⟨rfl, rfl, rfl⟩ := trodAll_nil r0
  obtain rfl : args = #[v0] := by cases args; simp_all
  obtain ⟨gv, rfl⟩ := vars_one hV
  have k0 := h0
  have lt0 : ∀ x ∈ p0, x.block < W.heap.size := by obtain ⟨m, hm⟩ := k0; exact DataW.trod_lt m _ _ _ hm
  obtain ⟨a0, rfl, g0, e0, w0⟩ := Go.ChangeMaps.open_string Tryd.underlying9 (hval 0 9 v0 rfl rfl) h0
  clear hA0 hval0
  refine (fnExactReadCode_walk a0 W w0 (laidB_of hlaid hshape)).mono fun e W' ⟨he, bel⟩ => ?_
  subst he
  exact ⟨_, rfl, _, _, _, [], _, _, hW', trodAll_mk1 (shut_bool Tryd.underlying4 _), (trodAll_cons_mk (Below.trod laidOut (by kernel_rfl) (of_decide_eq_true (by kernel_rfl)) k0 bel lt0) trodAll_mk0), Below.trodVars laidOut bel varsKept hV, bel.frame _, fun h => by cases h⟩
theorem over : Rows.fnExactReadCodeRow.holds Tryd.pinned (OpenSpec.ofChange Rows.fnExactReadCodeSpec) :=
  OpenClaim.holds_of_wide 10 Tryd.f10 rfl rfl rfl rfl rfl rfl rfl ⟨rfl, rfl, rfl, rfl, rfl⟩ rfl rfl rfl rfl rfl (by kernel_rfl) Tryd.func10 (by kernel_rfl)
    (of_decide_eq_true (by kernel_rfl)) (by unfold Func.isWrapper; first | (rw [if_pos (by decide +kernel)]; kernel_rfl) | (rw [if_neg (by decide +kernel)]; exact ⟨rfl, rfl⟩))
    (fun os started H enc _ => lifted os started H enc)
theorem carded : Rows.FnExactReadCodeCardSaid :=
  Claim7.holds_tied_plain_at .later [] [.data, .data, .data, .data, .sentinel, .sentinel, .widerDeep, .pinned] true (true, "035660c64568d2cd316fd08c4cbc06c1be121de206d0751e4ebf56ec72942bdf") true over (fun _ h => by cases h) (by kernel_rfl) (fun _ h => by cases h) fnExactReadCode_row_tie rfl ⟨rfl, rfl⟩ (by kernel_rfl) rfl
    (fun f fn hf hfn => by
      obtain rfl : f = 10 := Option.some.inj ((show Tryd.prog.funcNamed "loop.example/lanekernel/laws.FnExactReadCode" = some 10 by kernel_rfl).symm.trans hf) |>.symm
      obtain rfl : fn = Tryd.f10 := (Option.some.inj (Tryd.func10.symm.trans hfn)).symm
      exact ⟨by kernel_rfl, fun j t ht => by
        rw [Tryd.params10] at ht
        have hm : t ∈ [9] := by simpa using Array.mem_of_getElem? ht
        have hall : ([9].all fun u => !Tryd.prog.wantsStandIn u) = true := by kernel_rfl
        exact (show Tryd.prog.wantsStandIn t = false by simpa using List.all_eq_true.1 hall t hm)⟩)
    (by kernel_rfl)
end fnExactReadCode
/-- The given card on FnExactReadCode. -/
theorem fnExactReadCode_holds : Rows.FnExactReadCodeCardSaid := fnExactReadCode.carded
#print axioms fnExactReadCode_holds
end Go.Proofs.YtidmjeehcmpjnaaDoor
