/- YtidmjeehcmpjnaaDoorFCodeText: ReadCode of an instruction's text returns the instruction. Conditions: the listed variables hold what the program's text lays (the card ties that). -/
import Derived.Test.YtidmjeehcmpjnaaDoorDrawX
import Derived.Test.YtidmjeehcmpjnaaDoorAlive
namespace Go.Proofs.YtidmjeehcmpjnaaDoor
open Go.ChangeShapes Go.WideShapes Go.ChangeAt Go.RowKit
set_option linter.unusedVariables false
theorem dig_ne {n : Int} (h : 0 ≤ n ∧ n ≤ 255) : dig n ≠ [] := by
  intro he
  have := atoi_dig h
  rw [he] at this
  cases this
/-- A text with a space behind it reads as no instruction. -/
theorem read_space (l : List UInt8) : readT (l ++ [32]) = none := by
  cases hr : readT (l ++ [32]) with
  | none => rfl
  | some d =>
    obtain ⟨_, _, hk, ho, hn, _⟩ := read_known hr
    rw [splitW_snoc_sp] at hk
    have hm : ([] : List UInt8) ∈ nm d.op :: d.nums.map dig := by rw [← hk]; simp
    rcases List.mem_cons.1 hm with h | h
    · exact absurd h.symm (nm_no ho).2
    · obtain ⟨n, hn1, hn2⟩ := List.mem_map.1 h
      exact absurd hn2 (dig_ne (hn n hn1))
set_option maxRecDepth 100000 in
set_option maxHeartbeats 4000000 in
theorem fnCodeText_walk (v : Value) (bs : List Int) (w0 : World) (h : RdI .u8 w0 v bs) (hL : LaidB w0) : Calls Tryd.prog 11 #[v] w0 fun e w' => e = .returned (.bool true) ∧ Below w0.heap.size w0 w' := by
  obtain ⟨ad, c, hv, hlc, hcm⟩ := h.shape
  subst hv
  have hB0 := Below.refl w0.heap.size w0
  have HL := Lib.hid hL
  have HR := Lib.hid h
  clear hL h
  by_cases hn : bs.length ≤ 1048576
  rotate_left
  · go_enter Tryd.func11, Tryd.ntmps11
    go_wp2
    go_ret
    exact ⟨rfl, hB0⟩
  go_enter Tryd.func11, Tryd.ntmps11
  go_wp2_with fail
  refine (DrawCodeText_any _ bs _ HR.out).mono ?_
  rintro e w1 ⟨c, rfl, hc, hB1⟩
  have hBx := hB1.trans ((newB w1 (cObj c.op c.a c.b c.c)).mono hB1.size)
  have hX := c4_of (b := w1.heap.size) (heap_alloc_new w1 (cObj c.op c.a c.b c.c))
  have hz := hB1.size
  clear hc hB1 hB0
  unfold cObj at *
  have CV := Lib.hid (fun w => specCodeValid c w)
  have CI := Lib.hid (fun w (h : LaidA w) => implCodeText c w h)
  have CS := Lib.hid (fun w => specCodeText c w)
  obtain ⟨T, hT⟩ : ∃ T, ctext c = T := ⟨_, rfl⟩
  have htl : T.length ≤ 19 := by rw [← hT]; exact ctext_len c
  rw [hT] at CI CS
  have HT := Lib.hid hT
  clear hT
  generalize hwx : w1.alloc _ = wx at hBx hX
  have HWX := Lib.hid hwx
  clear hwx
  go_upto_region 4 with fail
  rw [HWX.out]
  have HXx := Lib.hid hX
  have HBx := Lib.hid hBx
  obtain ⟨x0, x1, x2, x3, _, _, _, _, x8⟩ := hX
  go_wp2_with fail
  refine (CI.out _ (HL.out.below HBx.out).toLaidA).mono ?_
  rintro e w2 ⟨rfl, hb2⟩
  have HX2 := Lib.hid (HXx.out.below hb2)
  have HB2 := Lib.hid (HBx.out.trans (hb2.mono HBx.out.size))
  clear x0 x1 x2 x3 x8 hb2 HXx HBx hBx
  obtain ⟨x0, x1, x2, x3, _, _, _, _, x8⟩ := HX2.out
  go_wp2_with fail
  refine (CS.out _).mono ?_
  rintro e w3 ⟨rfl, hb3⟩
  have HX3 := Lib.hid (HX2.out.below hb3)
  have HB3 := Lib.hid (HB2.out.trans (hb3.mono HB2.out.size))
  clear x0 x1 x2 x3 x8 hb3 HX2 HB2
  obtain ⟨x0, x1, x2, x3, _, _, _, _, x8⟩ := HX3.out
  go_wp2_with fail
  cases hcv : cValid c with
  | false =>
    rw [hcv] at CV
    have hTn : T = [] := by rw [← HT.out]; exact ctext_bad hcv
    subst hTn
    clear hcv
    refine (CV.out _).mono ?_
    rintro e w4 ⟨rfl, hb4⟩
    have HB4 := Lib.hid (HB3.out.trans (hb4.mono HB3.out.size))
    clear x0 x1 x2 x3 x8 hb4 HX3 HB3
    go_wp2_with (go_at_call 27; refine (alive_any _).mono ?_; rintro e w' ⟨rfl, rfl⟩)
    go_ret
    exact ⟨rfl, HB4.out⟩
  | true =>
    rw [hcv] at CV
    have C1 := Lib.hid (fun w (h : LaidB w) => implReadCode T w h (by omega))
    have C2 := Lib.hid (fun w (h : LaidB w) => implReadCode (T ++ [32]) w h (by simp; omega))
    have hr1 : readT T = some c := by rw [← HT.out]; exact readT_text hcv
    unfold okV at C1 C2
    rw [read_space] at C2
    rw [hr1] at C1
    simp only [Option.getD_none, Option.isSome_none, cdZ, Option.getD_some, Option.isSome_some] at C1 C2
    clear hcv hr1
    refine (CV.out _).mono ?_
    rintro e w4 ⟨rfl, hb4⟩
    have HX4 := Lib.hid (HX3.out.below hb4)
    have HB4 := Lib.hid (HB3.out.trans (hb4.mono HB3.out.size))
    clear x0 x1 x2 x3 x8 hb4 HX3 HB3
    go_wp2_with fail
    refine (C1.out _ (HL.out.below HB4.out)).mono ?_
    rintro e w5 ⟨rfl, hb5⟩
    have hX5 := HX4.out.below hb5
    have hB5 := HB4.out.trans (hb5.mono HB4.out.size)
    have HB6 := Lib.hid (hB5.trans ((newB w5 (.cells #[.int .i64 c.op, .int .i64 c.a, .int .i64 c.b, .int .i64 c.c] 42)).mono hB5.size))
    have HX6 := Lib.hid (hX5.below (newB w5 (.cells #[.int .i64 c.op, .int .i64 c.a, .int .i64 c.b, .int .i64 c.c] 42)))
    have HY6 := Lib.hid (c4_of (b := w5.heap.size) (heap_alloc_new w5 (cObj c.op c.a c.b c.c)))
    clear hb5 hX5 hB5 HX4 HB4
    unfold cObj at HY6
    have e32 : (⟨T.toArray⟩ : ByteArray) ++ ⟨#[32]⟩ = ⟨(T ++ [32]).toArray⟩ := bapp T [32]
    have HE := Lib.hid e32
    clear e32
    go_wp2_with fail
    rw [HE.out]
    refine (C2.out _ (HL.out.below HB6.out)).mono ?_
    rintro e w7 ⟨rfl, hb7⟩
    have hX7 := HX6.out.below hb7
    have hY7 := HY6.out.below hb7
    have hB7 := HB6.out.trans (hb7.mono HB6.out.size)
    have hB8 := hB7.trans ((newB w7 (.cells #[.int .i64 0, .int .i64 0, .int .i64 0, .int .i64 0] 42)).mono hB7.size)
    obtain ⟨x0, x1, x2, x3, _, _, _, _, x8⟩ := hX7.below (newB w7 (.cells #[.int .i64 0, .int .i64 0, .int .i64 0, .int .i64 0] 42))
    obtain ⟨y0, y1, y2, y3, _, _, _, _, y8⟩ := hY7.below (newB w7 (.cells #[.int .i64 0, .int .i64 0, .int .i64 0, .int .i64 0] 42))
    clear hb7 hX7 hY7 hB7 HX6 HY6 HB6
    go_wp2
    go_ret
    exact ⟨rfl, hB8⟩
namespace fnCodeText
set_option linter.unusedVariables false
set_option maxRecDepth 100000 in
theorem lifted (os : Os) (started : os.Started) (H : Type) (enc : TypeId × Value → H) :
    ReturnsInHanded {} Tryd.checked os 11 .any (fun w args => (Rows.fnCodeTextSpec.pre enc Tryd.prog Tryd.f11 [] false w args ∧ laidMetH Tryd.prog laidB w) ∧ sizedMet enc Tryd.prog Tryd.f11 (OpenSpec.ofChange Rows.fnCodeTextSpec) false w args) (Rows.fnCodeTextSpec.post enc Tryd.prog Tryd.f11 false true false false) := by
  refine handed_and_shaped (C := Tryd.checked) (X := fun w _ => laidMetH Tryd.prog laidB w) (fun _ _ _ hh h => h.of_heap hh) own started (by kernel_rfl) Tryd.func11
    (ChangeSpec.witness_shaped (enc := enc) (C := Tryd.checked) (os := os) (X := fun w _ => laidMetH Tryd.prog laidB w) false (World.laidAll Tryd.prog os laidB) #[.slice none 0 0] 8 (World.laidAll_os _ _ _)
      (World.shaped_of_ZipB (by kernel_rfl) (by kernel_rfl)) (by kernel_rfl) (by kernel_rfl) (by kernel_rfl)
      (by rw [MakeChecks.laidMetH_plain _ _ _ (by kernel_rfl)]; exact laidMet_laidAll _ (by kernel_rfl) (by kernel_rfl))) ?_
  intro W base args ds gs before hval0 hW _ hshape hlaid
  have hval : ∀ (j : Nat) t v, Tryd.f11.params[j]? = some t → args[j]? = some v → Value.okWide Tryd.prog W .any base t v := hval0
  have hW' := hW
  obtain ⟨p, q, hA0, hV, rfl, hfz, hnd⟩ := hW
  have hA : DataW.TrodAll enc Tryd.prog W 0 (fun _ => true) true Tryd.f11.params.toList args.toList ds p := hA0
  rw [Tryd.params11] at hA hval
  obtain ⟨v0, vs0, d0, ds0, p0, q0, hargs, rfl, rfl, h0, r0⟩ := trodAll_cons hA
  obtain ⟨rfl, rfl, rfl⟩ := trodAll_nil r0
  obtain rfl : args = #[v0] := by cases args; simp_all
  obtain ⟨gv, rfl⟩ := vars_one hV
  have k0 := h0
  have lt0 : ∀ x ∈ p0, x.block < W.heap.size := by obtain ⟨m, hm⟩ := k0; exact DataW.trod_lt m _ _ _ hm
  obtain ⟨z0, w0⟩ := open_rdI (kk := .u8) Tryd.underlying32 Tryd.underlying5 (by kernel_rfl) (hval 0 32 v0 rfl rfl) h0
  clear hA0 hval0
  refine (fnCodeText_walk v0 z0 W w0 (laidB_of hlaid hshape)).mono fun e W' ⟨he, bel⟩ => ?_
  subst he
  exact ⟨_, rfl, _, _, _, [], _, _, hW', trodAll_mk1 (shut_bool Tryd.underlying4 _), (trodAll_cons_mk (Below.trod laidOut (by kernel_rfl) (of_decide_eq_true (by kernel_rfl)) k0 bel lt0) trodAll_mk0), Below.trodVars laidOut bel varsKept hV, bel.frame _, fun h => by cases h⟩
theorem over : Rows.fnCodeTextRow.holds Tryd.pinned (OpenSpec.ofChange Rows.fnCodeTextSpec) :=
  OpenClaim.holds_of_wide 11 Tryd.f11 rfl rfl rfl rfl rfl rfl rfl ⟨rfl, rfl, rfl, rfl, rfl⟩ rfl rfl rfl rfl rfl (by kernel_rfl) Tryd.func11 (by kernel_rfl)
    (of_decide_eq_true (by kernel_rfl)) (by unfold Func.isWrapper; first | (rw [if_pos (by decide +kernel)]; kernel_rfl) | (rw [if_neg (by decide +kernel)]; exact ⟨rfl, rfl⟩))
    (fun os started H enc _ => lifted os started H enc)
theorem carded : Rows.FnCodeTextCardSaid :=
  Claim7.holds_tied_plain_at .later [] [.data, .data, .data, .data, .sentinel, .sentinel, .widerDeep, .pinned] true (true, "035660c64568d2cd316fd08c4cbc06c1be121de206d0751e4ebf56ec72942bdf") true over (fun _ h => by cases h) (by kernel_rfl) (fun _ h => by cases h) fnCodeText_row_tie rfl ⟨rfl, rfl⟩ (by kernel_rfl) rfl
    (fun f fn hf hfn => by
      obtain rfl : f = 11 := Option.some.inj ((show Tryd.prog.funcNamed "loop.example/lanekernel/laws.FnCodeText" = some 11 by kernel_rfl).symm.trans hf) |>.symm
      obtain rfl : fn = Tryd.f11 := (Option.some.inj (Tryd.func11.symm.trans hfn)).symm
      exact ⟨by kernel_rfl, fun j t ht => by
        rw [Tryd.params11] at ht
        have hm : t ∈ [32] := by simpa using Array.mem_of_getElem? ht
        have hall : ([32].all fun u => !Tryd.prog.wantsStandIn u) = true := by kernel_rfl
        exact (show Tryd.prog.wantsStandIn t = false by simpa using List.all_eq_true.1 hall t hm)⟩)
    (by kernel_rfl)
end fnCodeText
/-- The given card on FnCodeText. -/
theorem fnCodeText_holds : Rows.FnCodeTextCardSaid := fnCodeText.carded
#print axioms fnCodeText_holds
end Go.Proofs.YtidmjeehcmpjnaaDoor
