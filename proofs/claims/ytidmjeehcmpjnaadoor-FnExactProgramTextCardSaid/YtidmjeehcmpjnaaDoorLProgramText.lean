/- YtidmjeehcmpjnaaDoorLProgramText: the program's ProgramText returns what the reference's returns, for all arguments. Conditions: the listed variables hold what the program's text lays (the card ties that). -/
import Derived.Test.YtidmjeehcmpjnaaDoorTxtT
import Derived.Test.YtidmjeehcmpjnaaDoorCodeO
import Derived.Test.YtidmjeehcmpjnaaDoorCodeK
namespace Go.Proofs.YtidmjeehcmpjnaaDoor
open Go.ChangeShapes Go.WideShapes Go.ChangeAt Go.RowKit
set_option linter.unusedVariables false
/-- What the law has in memory: the reference's texts, the list that was handed over, the program's texts. -/
structure LX (w0 : World) (B4 B5 B6 : Nat) (v4 v5 v6 : Value) (n : Nat) (ys : List Int) (P Q : List (List UInt8)) (w : World) : Prop where
  bel : Below w0.heap.size w0 w
  t4 : OwT B4 w v4 P
  c5 : w.ownsRow B5 42 4 v5 n (ys.map (Value.int .i64))
  t6 : OwT B6 w v6 Q
  up4 : ∀ k, v4.ownBlock = some k → k < B5
  up5 : ∀ k, v5.ownBlock = some k → k < B6
  ord : w0.heap.size ≤ B4 ∧ B4 ≤ B5 ∧ B5 ≤ B6 ∧ B6 ≤ w.heap.size
section
variable {w0 w w' : World} {B4 B5 B6 : Nat} {v4 v5 v6 : Value} {n : Nat} {ys : List Int} {P Q : List (List UInt8)}
theorem LX.below (h : LX w0 B4 B5 B6 v4 v5 v6 n ys P Q w) (hb : Below w.heap.size w w') : LX w0 B4 B5 B6 v4 v5 v6 n ys P Q w' :=
  ⟨h.bel.trans (hb.mono h.bel.size), h.t4.below hb, owns_below h.c5 hb (Nat.le_refl _), h.t6.below hb, h.up4, h.up5, by have := h.ord; have := hb.size; omega⟩
/-- The list that was handed over is written. -/
theorem LX.wr5 (h : LX w0 B4 B5 B6 v4 v5 v6 n ys P Q w) {zs : List Int} (ho : w'.ownsRow B5 42 4 v5 n (zs.map (Value.int .i64))) (hw : Wr w w' (fun b => v5.ownBlock = some b)) : LX w0 B4 B5 B6 v4 v5 v6 n zs P Q w' := by
  have hord := h.ord
  have hge5 := own_ge h.c5
  have hge6 := own_ge h.t6
  have hu4 := h.up4
  have hu5 := h.up5
  exact ⟨Below.wr h.bel hw (by omega) (fun k hk => by have := hge5 k hk; omega), h.t4.wr hw (fun k hk hh => by have := hu4 k hk; have := hge5 k hh; omega), ho, h.t6.wr hw (fun k hk hh => by have := hge6 k hk; have := hu5 k hh; omega), h.up4, h.up5, by have := hw.size; omega⟩
/-- The program's texts are written. -/
theorem LX.wr6 (h : LX w0 B4 B5 B6 v4 v5 v6 n ys P Q w) {R : List (List UInt8)} (ho : OwT B6 w' v6 R) (hw : Wr w w' (fun b => v6.ownBlock = some b)) : LX w0 B4 B5 B6 v4 v5 v6 n ys P R w' := by
  have hord := h.ord
  have hge6 := own_ge h.t6
  have hu4 := h.up4
  have hu5 := h.up5
  exact ⟨Below.wr h.bel hw (by omega) (fun k hk => by have := hge6 k hk; omega), h.t4.wr hw (fun k hk hh => by have := hu4 k hk; have := hge6 k hh; omega), hw.owns h.c5 (fun k hk hh => by have := hu5 k hk; have := hge6 k hh; omega), ho, h.up4, h.up5, by have := hw.size; omega⟩
end
set_option maxRecDepth 100000 in
set_option maxHeartbeats 8000000 in
theorem fnExactProgramText_walk (v : Value) (cs : List Cd) (w0 : World) (h : RdC w0 v cs) (hL : LaidA w0) : Calls Tryd.prog 8 #[v] w0 fun e w' => e = .returned (.bool true) ∧ Below w0.heap.size w0 w' := by
  obtain ⟨a, c, hv, hlc, hcm⟩ := h.shape
  have HR := Lib.hid h
  have HL := Lib.hid hL
  have HSZ := Lib.hid (szCodeS_any v cs 1048576 w0 h (by omega))
  have HWF := Lib.hid h.2
  subst hv
  clear h hL
  by_cases hn : (1048576 : Int) < cs.length
  · rw [if_pos hn] at HSZ
    go_enter Tryd.func8, Tryd.ntmps8
    go_wp2_with fail
    refine HSZ.out.mono ?_
    rintro e w' ⟨rfl, rfl⟩
    go_wp2
    go_ret
    exact ⟨rfl, Below.refl _ _⟩
  rw [if_neg hn] at HSZ
  have hn2 : cs.length ≤ 1048576 := by omega
  have hpl := ptext_len cs
  have HPF := Lib.hid (fun x (hx : x ∈ ptext cs) => show x.length ≤ 9223372036854775807 by have := ptext_fit cs x hx; omega)
  obtain ⟨P, hP⟩ : ∃ P, ptext cs = P := ⟨_, rfl⟩
  have CS := Lib.hid (fun v w (h : RdC w v cs) => specProgramText v cs w h)
  have CI := Lib.hid (fun v w (h : RdC w v cs) (hl : LaidA w) => implProgramText v cs w h hl)
  rw [hP] at CS CI HPF hpl
  have hd0 : 0 ≤ 1048576 - (cs.length : Int) := by omega
  clear hP hn
  go_enter Tryd.func8, Tryd.ntmps8
  go_wp2_with fail
  refine HSZ.out.mono ?_
  rintro e w' ⟨rfl, rfl⟩
  clear HSZ
  go_wp2_with fail
  refine (toCodeS_any _ cs w0 HR.out hn2).mono ?_
  rintro e w1 ⟨u1, rfl, ho1, hb1⟩
  go_wp2_with fail
  refine (CS.out u1 w1 (rdC_of_owns ho1 HWF.out)).mono ?_
  rintro e w2 ⟨v4, rfl, ho4, hb2⟩
  have hB2 := hb1.trans (hb2.mono hb1.size)
  have hu4 := own_lt ho4
  go_wp2_with fail
  refine (toCodeS_any _ cs w2 (HR.out.below hB2 (Nat.le_refl _)) hn2).mono ?_
  rintro e w3 ⟨v5, rfl, ho5, hb3⟩
  have hB3 := hB2.trans (hb3.mono hB2.size)
  have hu5 := own_lt ho5
  go_wp2_with fail
  refine (CI.out v5 w3 (rdC_of_owns ho5 HWF.out) (HL.out.below hB3)).mono ?_
  rintro e w4 ⟨v6, rfl, ho6, hb4⟩
  have HX := Lib.hid (show LX w0 w1.heap.size w2.heap.size w3.heap.size v4 v5 v6 cs.length (cdInts cs) P P w4 from
    ⟨hB3.trans (hb4.mono hB3.size), (ho4.below hb3).below hb4, by rw [cdInts_cells]; exact owns_below ho5 hb4 (Nat.le_refl _), ho6, hu4, hu5, by have := hb1.size; have := hb2.size; have := hb3.size; have := hb4.size; omega⟩)
  clear ho1 ho4 ho5 ho6 hu4 hu5 hb1 hb2 hb3 hb4 hB2 hB3
  have hm1 : 0 ≤ (1 : Int) + cs.length * 4 := by omega
  have hm2 : 0 ≤ (1 : Int) + P.length := by omega
  go_wp2_with fail
  refine (eqStringS_same v6 v4 P w4 (HX.out.t6.rd HPF.out) (HX.out.t4.rd HPF.out)).mono ?_
  rintro e w5 ⟨rfl, hb5⟩
  have HX5 := Lib.hid (HX.out.below hb5)
  clear HX hb5
  go_wp2_with fail
  refine (toCodeS_any _ cs w5 (HR.out.below HX5.out.bel (Nat.le_refl _)) hn2).mono ?_
  rintro e w6 ⟨u7, rfl, ho7, hb6⟩
  have HX6 := Lib.hid (HX5.out.below hb6)
  clear HX5 hb6
  go_wp2_with fail
  refine (eqCodeS_same v5 u7 cs w6 (rdC_of_owns (by rw [← cdInts_cells]; exact HX6.out.c5) HWF.out) (rdC_of_owns ho7 HWF.out)).mono ?_
  rintro e w7 ⟨rfl, hb7⟩
  have HX7 := Lib.hid (HX6.out.below hb7)
  clear HX6 hb7 ho7
  go_wp2_with fail
  refine (markCodeS_any v5 cs.length (cdInts cs) (cdInts_length cs) 1 _ w7 HX7.out.c5 (by omega) (by omega) (by omega)).mono ?_
  rintro e w8 ⟨rfl, ho8, hw8⟩
  have HX8 := Lib.hid (HX7.out.wr5 ho8 hw8)
  clear HX7 ho8 hw8
  go_wp2_with fail
  refine (eqStringS_same v6 v4 P w8 (HX8.out.t6.rd HPF.out) (HX8.out.t4.rd HPF.out)).mono ?_
  rintro e w9 ⟨rfl, hb9⟩
  have HX9 := Lib.hid (HX8.out.below hb9)
  clear HX8 hb9
  go_wp2_with fail
  refine (markStringS_any v6 P 1 _ w9 HX9.out.t6 (by omega) (by omega) (by omega)).mono ?_
  rintro e wa ⟨rfl, hoa, hwa⟩
  have HXa := Lib.hid (HX9.out.wr6 hoa hwa)
  have HMF := Lib.hid (mtexts_fit (k := 1) (n := P.length) (by omega))
  clear HX9 hoa hwa
  go_wp2_with fail
  refine (heldStringS_any v6 P.length 1 wa (HXa.out.t6.rd HMF.out) (by omega) (by omega)).mono ?_
  rintro e wb ⟨rfl, hbb⟩
  have HXb := Lib.hid (HXa.out.below hbb)
  clear HXa hbb
  go_wp2_with fail
  refine (toCodeS_any _ cs wb (HR.out.below HXb.out.bel (Nat.le_refl _)) hn2).mono ?_
  rintro e wc ⟨u8, rfl, ho8, hbc⟩
  have HXc := Lib.hid (HXb.out.below hbc)
  clear HXb hbc
  go_wp2_with fail
  refine (CI.out u8 wc (rdC_of_owns ho8 HWF.out) (HL.out.below HXc.out.bel)).mono ?_
  rintro e wd ⟨v10, rfl, hod, hbd⟩
  have HXd := Lib.hid (HXc.out.below hbd)
  clear HXc hbd ho8
  go_wp2_with fail
  refine (eqStringS_same v10 v4 P wd (hod.rd HPF.out) (HXd.out.t4.rd HPF.out)).mono ?_
  rintro e we ⟨rfl, hbe⟩
  have HXe := Lib.hid (HXd.out.below hbe)
  clear HXd hbe hod
  go_wp2_with fail
  refine (heldStringS_any v6 P.length 1 we (HXe.out.t6.rd HMF.out) (by omega) (by omega)).mono ?_
  rintro e wf ⟨rfl, hbf⟩
  have HXf := Lib.hid (HXe.out.below hbf)
  clear HXe hbf
  go_wp2
  go_ret
  exact ⟨rfl, HXf.out.bel⟩
namespace fnExactProgramText
set_option linter.unusedVariables false
set_option maxRecDepth 100000 in
theorem lifted (os : Os) (started : os.Started) (H : Type) (enc : TypeId × Value → H) :
    ReturnsInHanded {} Tryd.checked os 8 .any (fun w args => (Rows.fnExactProgramTextSpec.pre enc Tryd.prog Tryd.f8 [] false w args ∧ laidMetH Tryd.prog laidA w) ∧ sizedMet enc Tryd.prog Tryd.f8 (OpenSpec.ofChange Rows.fnExactProgramTextSpec) false w args) (Rows.fnExactProgramTextSpec.post enc Tryd.prog Tryd.f8 false true false false) := by
  refine handed_and_shaped (C := Tryd.checked) (X := fun w _ => laidMetH Tryd.prog laidA w) (fun _ _ _ hh h => h.of_heap hh) own started (by kernel_rfl) Tryd.func8
    (ChangeSpec.witness_shaped (enc := enc) (C := Tryd.checked) (os := os) (X := fun w _ => laidMetH Tryd.prog laidA w) false (World.laidAll Tryd.prog os laidA) #[.slice none 0 0] 8 (World.laidAll_os _ _ _)
      (World.shaped_of_ZipB (by kernel_rfl) (by kernel_rfl)) (by kernel_rfl) (by kernel_rfl) (by kernel_rfl)
      (by rw [MakeChecks.laidMetH_plain _ _ _ (by kernel_rfl)]; exact laidMet_laidAll _ (by kernel_rfl) (by kernel_rfl))) ?_
  intro W base args ds gs before hval0 hW _ hshape hlaid
  have hval : ∀ (j : Nat) t v, Tryd.f8.params[j]? = some t → args[j]? = some v → Value.okWide Tryd.prog W .any base t v := hval0
  have hW' := hW
  obtain ⟨p, q, hA0, hV, rfl, hfz, hnd⟩ := hW
  have hA : DataW.TrodAll enc Tryd.prog W 0 (fun _ => true) true Tryd.f8.params.toList args.toList ds p := hA0
  rw [Tryd.params8] at hA hval
  obtain ⟨v0, vs0, d0, ds0, p0, q0, hargs, rfl, rfl, h0, r0⟩ := trodAll_cons hA
  obtain ⟨rfl, rfl, rfl⟩ := trodAll_nil r0
  obtain rfl : args = #[v0] := by cases args; simp_all
  obtain ⟨gv, rfl⟩ := vars_one hV
  have k0 := h0
  have lt0 : ∀ x ∈ p0, x.block < W.heap.size := by obtain ⟨m, hm⟩ := k0; exact DataW.trod_lt m _ _ _ hm
  obtain ⟨c0, w0⟩ := open_codes Tryd.underlying48 Tryd.underlying40 (by kernel_rfl) (by kernel_rfl) Tryd.underlying3 rfl rfl rfl rfl (hval 0 48 v0 rfl rfl) h0
  clear hA0 hval0
  refine (fnExactProgramText_walk v0 c0 W w0 (laidA_of hlaid)).mono fun e W' ⟨he, bel⟩ => ?_
  subst he
  exact ⟨_, rfl, _, _, _, [], _, _, hW', trodAll_mk1 (shut_bool Tryd.underlying4 _), (trodAll_cons_mk (Below.trod laidOut (by kernel_rfl) (of_decide_eq_true (by kernel_rfl)) k0 bel lt0) trodAll_mk0), Below.trodVars laidOut bel varsKept hV, bel.frame _, fun h => by cases h⟩
theorem over : Rows.fnExactProgramTextRow.holds Tryd.pinned (OpenSpec.ofChange Rows.fnExactProgramTextSpec) :=
  OpenClaim.holds_of_wide 8 Tryd.f8 rfl rfl rfl rfl rfl rfl rfl ⟨rfl, rfl, rfl, rfl, rfl⟩ rfl rfl rfl rfl rfl (by kernel_rfl) Tryd.func8 (by kernel_rfl)
    (of_decide_eq_true (by kernel_rfl)) (by unfold Func.isWrapper; first | (rw [if_pos (by decide +kernel)]; kernel_rfl) | (rw [if_neg (by decide +kernel)]; exact ⟨rfl, rfl⟩))
    (fun os started H enc _ => lifted os started H enc)
theorem carded : Rows.FnExactProgramTextCardSaid :=
  Claim7.holds_tied_plain_at .later [] [.data, .data, .data, .widerDeep] true (true, "035660c64568d2cd316fd08c4cbc06c1be121de206d0751e4ebf56ec72942bdf") true over (fun _ h => by cases h) (by kernel_rfl) (fun _ h => by cases h) fnExactProgramText_row_tie rfl ⟨rfl, rfl⟩ (by kernel_rfl) rfl
    (fun f fn hf hfn => by
      obtain rfl : f = 8 := Option.some.inj ((show Tryd.prog.funcNamed "loop.example/lanekernel/laws.FnExactProgramText" = some 8 by kernel_rfl).symm.trans hf) |>.symm
      obtain rfl : fn = Tryd.f8 := (Option.some.inj (Tryd.func8.symm.trans hfn)).symm
      exact ⟨by kernel_rfl, fun j t ht => by
        rw [Tryd.params8] at ht
        have hm : t ∈ [48] := by simpa using Array.mem_of_getElem? ht
        have hall : ([48].all fun u => !Tryd.prog.wantsStandIn u) = true := by kernel_rfl
        exact (show Tryd.prog.wantsStandIn t = false by simpa using List.all_eq_true.1 hall t hm)⟩)
    (by kernel_rfl)
end fnExactProgramText
/-- The given card on FnExactProgramText. -/
theorem fnExactProgramText_holds : Rows.FnExactProgramTextCardSaid := fnExactProgramText.carded
#print axioms fnExactProgramText_holds
end Go.Proofs.YtidmjeehcmpjnaaDoor
