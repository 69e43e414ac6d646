/- YtidmjeehcmpjnaaDoorLReadProgram: the program's ReadProgram returns what the reference's returns, for all arguments. Conditions: the listed variables hold what the program's text lays (the card ties that). -/
import Derived.Test.YtidmjeehcmpjnaaDoorTxtU
import Derived.Test.YtidmjeehcmpjnaaDoorCardB
import Derived.Test.YtidmjeehcmpjnaaDoorCodeK
namespace Go.Proofs.YtidmjeehcmpjnaaDoor
open Go.ChangeShapes Go.WideShapes Go.ChangeAt Go.RowKit
set_option linter.unusedVariables false
/-- What the law has in memory: the reference's list, the texts that were handed over, the program's list. -/
structure LY (w0 : World) (B4 B5 B6 : Nat) (v4 v5 v6 : Value) (cs : List Cd) (P : List (List UInt8)) (ys : List Int) (w : World) : Prop where
  bel : Below w0.heap.size w0 w
  c4 : w.ownsRow B4 42 4 v4 cs.length (cdCells cs)
  t5 : OwT B5 w v5 P
  c6 : w.ownsRow B6 42 4 v6 cs.length (ys.map (Value.int .i64))
  up4 : ∀ k, v4.ownBlock = some k → k < B5
  up5 : ∀ k, v5.ownBlock = some k → k < B6
  ord : w0.heap.size ≤ B4 ∧ B4 ≤ B5 ∧ B5 ≤ B6 ∧ B6 ≤ w.heap.size
section
variable {w0 w w' : World} {B4 B5 B6 : Nat} {v4 v5 v6 : Value} {cs : List Cd} {ys : List Int} {P : List (List UInt8)}
theorem LY.below (h : LY w0 B4 B5 B6 v4 v5 v6 cs P ys w) (hb : Below w.heap.size w w') : LY w0 B4 B5 B6 v4 v5 v6 cs P ys w' :=
  ⟨h.bel.trans (hb.mono h.bel.size), owns_below h.c4 hb (Nat.le_refl _), h.t5.below hb, owns_below h.c6 hb (Nat.le_refl _), h.up4, h.up5, by have := h.ord; have := hb.size; omega⟩
/-- The texts that were handed over are written. -/
theorem LY.wr5 (h : LY w0 B4 B5 B6 v4 v5 v6 cs P ys w) {Q : List (List UInt8)} (ho : OwT B5 w' v5 Q) (hw : Wr w w' (fun b => v5.ownBlock = some b)) : LY w0 B4 B5 B6 v4 v5 v6 cs Q ys w' := by
  have hord := h.ord
  have hge5 := own_ge h.t5
  have hge6 := own_ge h.c6
  have hu4 := h.up4
  have hu5 := h.up5
  exact ⟨Below.wr h.bel hw (by omega) (fun k hk => by have := hge5 k hk; omega), hw.owns h.c4 (fun k hk hh => by have := hu4 k hk; have := hge5 k hh; omega), ho, hw.owns h.c6 (fun k hk hh => by have := hge6 k hk; have := hu5 k hh; omega), h.up4, h.up5, by have := hw.size; omega⟩
/-- The program's list is written. -/
theorem LY.wr6 (h : LY w0 B4 B5 B6 v4 v5 v6 cs P ys w) {zs : List Int} (ho : w'.ownsRow B6 42 4 v6 cs.length (zs.map (Value.int .i64))) (hw : Wr w w' (fun b => v6.ownBlock = some b)) : LY w0 B4 B5 B6 v4 v5 v6 cs P zs w' := by
  have hord := h.ord
  have hge6 := own_ge h.c6
  have hu4 := h.up4
  have hu5 := h.up5
  exact ⟨Below.wr h.bel hw (by omega) (fun k hk => by have := hge6 k hk; omega), hw.owns h.c4 (fun k hk hh => by have := hu4 k hk; have := hge6 k hh; omega), h.t5.wr hw (fun k hk hh => by have := hu5 k hk; have := hge6 k hh; omega), ho, h.up4, h.up5, by have := hw.size; omega⟩
end
theorem rdP_len {ls : List (List UInt8)} : ((rdP ls).getD []).length ≤ ls.length := by
  unfold rdP
  split
  · next cs h =>
    have := readsT_len h
    split
    · simp; omega
    · simp
  · simp
theorem rdP_wf {ls : List (List UInt8)} : ∀ c ∈ (rdP ls).getD [], c.wf := by
  unfold rdP
  split
  · next cs h =>
    split
    · exact cds_wf (readsT_some h).2
    · simp
  · simp
set_option maxRecDepth 100000 in
set_option maxHeartbeats 8000000 in
theorem fnExactReadProgram_walk (v : Value) (ls : List (List UInt8)) (w0 : World) (h : RdT w0 v ls) (hL : LaidB w0) : Calls Tryd.prog 3 #[v] w0 fun e w' => e = .returned (.bool true) ∧ Below w0.heap.size w0 w' := by
  obtain ⟨a, c, hv, hlc, hcm⟩ := h.shape
  have HR := Lib.hid h
  have HL := Lib.hid hL
  have HSZ := Lib.hid (szStringS_any v ls 1048576 w0 h (by omega))
  have HPF := Lib.hid h.2
  have HFT := Lib.hid (fun h0 => szT_fit (ls := ls) (l := 1048576) h0)
  subst hv
  clear h hL
  obtain ⟨z, hz⟩ : ∃ z, szT ls 1048576 = z := ⟨_, rfl⟩
  rw [hz] at HSZ HFT
  clear hz
  by_cases hn : z < 0
  · clear HFT HPF
    go_enter Tryd.func3, Tryd.ntmps3
    go_wp2_with fail
    refine HSZ.out.mono ?_
    rintro e w' ⟨rfl, rfl⟩
    go_wp2
    go_ret
    exact ⟨rfl, Below.refl _ _⟩
  obtain ⟨hn1, hx1⟩ := HFT.out (by omega)
  have hn2 : ls.length ≤ 1048576 := by omega
  have HXL := Lib.hid (fun x (hx : x ∈ ls) => show x.length ≤ 4294967280 by have := hx1 x hx; omega)
  have hrl := rdP_len (ls := ls)
  have HWF := Lib.hid (rdP_wf (ls := ls))
  have CS := Lib.hid (fun v w (h : RdT w v ls) => specReadProgram v ls w h hn2 HXL.out)
  have CI := Lib.hid (fun v w (h : RdT w v ls) (hl : LaidB w) => implReadProgram v ls w h hl hn2 HXL.out)
  unfold NewP at CS CI
  obtain ⟨K, hK⟩ : ∃ K, rdP ls = K := ⟨_, rfl⟩
  rw [hK] at CS CI hrl HWF
  obtain ⟨cs, hcs⟩ : ∃ cs, K.getD [] = cs := ⟨_, rfl⟩
  obtain ⟨b, hb⟩ : ∃ b, K.isSome = b := ⟨_, rfl⟩
  rw [hcs, hb] at CS CI
  rw [hcs] at HWF hrl
  clear hK hcs hb hx1 HXL HFT K hn1
  have hm1 : 0 ≤ (1 : Int) + ls.length := by omega
  have hm2 : 0 ≤ (1 : Int) + cs.length * 4 := by omega
  cases b
  all_goals
    go_enter Tryd.func3, Tryd.ntmps3
    go_wp2_with fail
    refine HSZ.out.mono ?_
    rintro e w' ⟨rfl, rfl⟩
    clear HSZ
    go_wp2_with fail
    refine (toStringS_any _ ls w0 HR.out hn2).mono ?_
    rintro e w1 ⟨u1, rfl, ho1, hb1⟩
    go_wp2_with fail
    refine (CS.out u1 w1 (ho1.rd HPF.out)).mono ?_
    rintro e w2 ⟨v4, rfl, ho4, hb2⟩
    have hB2 := hb1.trans (hb2.mono hb1.size)
    have hu4 := own_lt ho4
    go_wp2_with fail
    refine (toStringS_any _ ls w2 (HR.out.below hB2 (Nat.le_refl _)) hn2).mono ?_
    rintro e w3 ⟨v5, rfl, ho5, hb3⟩
    have hB3 := hB2.trans (hb3.mono hB2.size)
    have hu5 := own_lt ho5
    go_wp2_with fail
    refine (CI.out v5 w3 (ho5.rd HPF.out) (HL.out.below hB3)).mono ?_
    rintro e w4 ⟨v6, rfl, ho6, hb4⟩
    have HX := Lib.hid (show LY w0 w1.heap.size w2.heap.size w3.heap.size v4 v5 v6 cs ls (cdInts cs) w4 from
      ⟨hB3.trans (hb4.mono hB3.size), owns_below (owns_below ho4 hb3 (Nat.le_refl _)) hb4 (Nat.le_refl _), ho5.below hb4, by rw [cdInts_cells]; exact ho6, hu4, hu5, by have := hb1.size; have := hb2.size; have := hb3.size; have := hb4.size; omega⟩)
    clear ho1 ho4 ho5 ho6 hu4 hu5 hb1 hb2 hb3 hb4 hB2 hB3
    go_wp2_with fail
    refine (eqCodeS_same v6 v4 cs w4 (rdC_of_owns (by rw [← cdInts_cells]; exact HX.out.c6) HWF.out) (rdC_of_owns HX.out.c4 HWF.out)).mono ?_
    rintro e w5 ⟨rfl, hb5⟩
    have HX5 := Lib.hid (HX.out.below hb5)
    clear HX hb5
    go_wp2_with fail
    refine (toStringS_any _ ls w5 (HR.out.below HX5.out.bel (Nat.le_refl _)) hn2).mono ?_
    rintro e w6 ⟨u7, rfl, ho7, hb6⟩
    have HX6 := Lib.hid (HX5.out.below hb6)
    clear HX5 hb6
    go_wp2_with fail
    refine (eqStringS_same v5 u7 ls w6 (HX6.out.t5.rd HPF.out) (ho7.rd HPF.out)).mono ?_
    rintro e w7 ⟨rfl, hb7⟩
    have HX7 := Lib.hid (HX6.out.below hb7)
    clear HX6 hb7 ho7
    go_wp2_with fail
    refine (markStringS_any v5 ls 1 _ w7 HX7.out.t5 (by omega) (by omega) (by omega)).mono ?_
    rintro e w8 ⟨rfl, ho8, hw8⟩
    have HX8 := Lib.hid (HX7.out.wr5 ho8 hw8)
    clear HX7 ho8 hw8
    go_wp2_with fail
    refine (eqCodeS_same v6 v4 cs w8 (rdC_of_owns (by rw [← cdInts_cells]; exact HX8.out.c6) HWF.out) (rdC_of_owns HX8.out.c4 HWF.out)).mono ?_
    rintro e w9 ⟨rfl, hb9⟩
    have HX9 := Lib.hid (HX8.out.below hb9)
    clear HX8 hb9
    go_wp2_with fail
    refine (markCodeS_any v6 cs.length (cdInts cs) (cdInts_length cs) 1 _ w9 HX9.out.c6 (by omega) (by omega) (by omega)).mono ?_
    rintro e wa ⟨rfl, hoa, hwa⟩
    have HXa := Lib.hid (HX9.out.wr6 hoa hwa)
    clear HX9 hoa hwa
    go_wp2_with fail
    refine (heldCodeS_any v6 cs.length 1 wa (rd_of_owns HXa.out.c6) (by omega) (by omega)).mono ?_
    rintro e wb ⟨rfl, rfl⟩
    go_wp2_with fail
    refine (toStringS_any _ ls wa (HR.out.below HXa.out.bel (Nat.le_refl _)) hn2).mono ?_
    rintro e wc ⟨u8, rfl, ho8, hbc⟩
    have HXc := Lib.hid (HXa.out.below hbc)
    clear HXa hbc
    go_wp2_with fail
    refine (CI.out u8 wc (ho8.rd HPF.out) (HL.out.below HXc.out.bel)).mono ?_
    rintro e wd ⟨v10, rfl, hod, hbd⟩
    have HXd := Lib.hid (HXc.out.below hbd)
    clear HXc hbd ho8
    go_wp2_with fail
    refine (eqCodeS_same v10 v4 cs wd (rdC_of_owns hod HWF.out) (rdC_of_owns HXd.out.c4 HWF.out)).mono ?_
    rintro e we ⟨rfl, hbe⟩
    have HXe := Lib.hid (HXd.out.below hbe)
    clear HXd hbe hod
    go_wp2_with fail
    refine (heldCodeS_any v6 cs.length 1 we (rd_of_owns HXe.out.c6) (by omega) (by omega)).mono ?_
    rintro e wf ⟨rfl, rfl⟩
    go_wp2
    go_ret
    exact ⟨rfl, HXe.out.bel⟩
namespace fnExactReadProgram
set_option linter.unusedVariables false
set_option maxRecDepth 100000 in
theorem lifted (os : Os) (started : os.Started) (H : Type) (enc : TypeId × Value → H) :
    ReturnsInHanded {} Tryd.checked os 3 .any (fun w args => (Rows.fnExactReadProgramSpec.pre enc Tryd.prog Tryd.f3 [] false w args ∧ laidMetH Tryd.prog laidB w) ∧ sizedMet enc Tryd.prog Tryd.f3 (OpenSpec.ofChange Rows.fnExactReadProgramSpec) false w args) (Rows.fnExactReadProgramSpec.post enc Tryd.prog Tryd.f3 false true false false) := by
  refine handed_and_shaped (C := Tryd.checked) (X := fun w _ => laidMetH Tryd.prog laidB w) (fun _ _ _ hh h => h.of_heap hh) own started (by kernel_rfl) Tryd.func3
    (ChangeSpec.witness_shaped (enc := enc) (C := Tryd.checked) (os := os) (X := fun w _ => laidMetH Tryd.prog laidB w) false (World.laidAll Tryd.prog os laidB) #[.slice none 0 0] 8 (World.laidAll_os _ _ _)
      (World.shaped_of_ZipB (by kernel_rfl) (by kernel_rfl)) (by kernel_rfl) (by kernel_rfl) (by kernel_rfl)
      (by rw [MakeChecks.laidMetH_plain _ _ _ (by kernel_rfl)]; exact laidMet_laidAll _ (by kernel_rfl) (by kernel_rfl))) ?_
  intro W base args ds gs before hval0 hW _ hshape hlaid
  have hval : ∀ (j : Nat) t v, Tryd.f3.params[j]? = some t → args[j]? = some v → Value.okWide Tryd.prog W .any base t v := hval0
  have hW' := hW
  obtain ⟨p, q, hA0, hV, rfl, hfz, hnd⟩ := hW
  have hA : DataW.TrodAll enc Tryd.prog W 0 (fun _ => true) true Tryd.f3.params.toList args.toList ds p := hA0
  rw [Tryd.params3] at hA hval
  obtain ⟨v0, vs0, d0, ds0, p0, q0, hargs, rfl, rfl, h0, r0⟩ := trodAll_cons hA
  obtain ⟨rfl, rfl, rfl⟩ := trodAll_nil r0
  obtain rfl : args = #[v0] := by cases args; simp_all
  obtain ⟨gv, rfl⟩ := vars_one hV
  have k0 := h0
  have lt0 : ∀ x ∈ p0, x.block < W.heap.size := by obtain ⟨m, hm⟩ := k0; exact DataW.trod_lt m _ _ _ hm
  obtain ⟨c0, w0⟩ := open_strs Tryd.underlying22 Tryd.underlying9 (by kernel_rfl) (hval 0 22 v0 rfl rfl) h0
  clear hA0 hval0
  refine (fnExactReadProgram_walk v0 c0 W w0 (laidB_of hlaid hshape)).mono fun e W' ⟨he, bel⟩ => ?_
  subst he
  exact ⟨_, rfl, _, _, _, [], _, _, hW', trodAll_mk1 (shut_bool Tryd.underlying4 _), (trodAll_cons_mk (Below.trod laidOut (by kernel_rfl) (of_decide_eq_true (by kernel_rfl)) k0 bel lt0) trodAll_mk0), Below.trodVars laidOut bel varsKept hV, bel.frame _, fun h => by cases h⟩
theorem over : Rows.fnExactReadProgramRow.holds Tryd.pinned (OpenSpec.ofChange Rows.fnExactReadProgramSpec) :=
  OpenClaim.holds_of_wide 3 Tryd.f3 rfl rfl rfl rfl rfl rfl rfl ⟨rfl, rfl, rfl, rfl, rfl⟩ rfl rfl rfl rfl rfl (by kernel_rfl) Tryd.func3 (by kernel_rfl)
    (of_decide_eq_true (by kernel_rfl)) (by unfold Func.isWrapper; first | (rw [if_pos (by decide +kernel)]; kernel_rfl) | (rw [if_neg (by decide +kernel)]; exact ⟨rfl, rfl⟩))
    (fun os started H enc _ => lifted os started H enc)
theorem carded : Rows.FnExactReadProgramCardSaid :=
  Claim7.holds_tied_plain_at .later [] [.data, .data, .data, .data, .sentinel, .sentinel, .widerDeep, .pinned] true (true, "035660c64568d2cd316fd08c4cbc06c1be121de206d0751e4ebf56ec72942bdf") true over (fun _ h => by cases h) (by kernel_rfl) (fun _ h => by cases h) fnExactReadProgram_row_tie rfl ⟨rfl, rfl⟩ (by kernel_rfl) rfl
    (fun f fn hf hfn => by
      obtain rfl : f = 3 := Option.some.inj ((show Tryd.prog.funcNamed "loop.example/lanekernel/laws.FnExactReadProgram" = some 3 by kernel_rfl).symm.trans hf) |>.symm
      obtain rfl : fn = Tryd.f3 := (Option.some.inj (Tryd.func3.symm.trans hfn)).symm
      exact ⟨by kernel_rfl, fun j t ht => by
        rw [Tryd.params3] at ht
        have hm : t ∈ [22] := by simpa using Array.mem_of_getElem? ht
        have hall : ([22].all fun u => !Tryd.prog.wantsStandIn u) = true := by kernel_rfl
        exact (show Tryd.prog.wantsStandIn t = false by simpa using List.all_eq_true.1 hall t hm)⟩)
    (by kernel_rfl)
end fnExactReadProgram
/-- The given card on FnExactReadProgram. -/
theorem fnExactReadProgram_holds : Rows.FnExactReadProgramCardSaid := fnExactReadProgram.carded
#print axioms fnExactReadProgram_holds
end Go.Proofs.YtidmjeehcmpjnaaDoor
