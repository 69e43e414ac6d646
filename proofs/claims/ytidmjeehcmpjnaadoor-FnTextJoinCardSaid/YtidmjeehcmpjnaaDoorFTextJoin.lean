/- YtidmjeehcmpjnaaDoorFTextJoin: the texts of two programs together are the texts of the one and those of the other. Conditions: the listed variables hold what the program's text lays (the card ties that). -/
import Derived.Test.YtidmjeehcmpjnaaDoorDrawS
import Derived.Test.YtidmjeehcmpjnaaDoorLawC
import Derived.Test.YtidmjeehcmpjnaaDoorTxtV
import Derived.Test.YtidmjeehcmpjnaaDoorCardB
import Derived.Test.YtidmjeehcmpjnaaDoorAlive
namespace Go.Proofs.YtidmjeehcmpjnaaDoor
open Go.ChangeShapes Go.WideShapes Go.ChangeAt Go.RowKit
set_option linter.unusedVariables false
set_option maxHeartbeats 2000000 in
theorem joined_any (u v : Value) (a b : List Cd) (B1 B2 : Nat) (w : World) (h1 : OC B1 w u a) (h2 : OC B2 w v b) : Calls Tryd.prog 39 #[u, v] w
    fun e w' => e = .returned (.bool (pValid a && (pValid b && decide (a.length + b.length ≤ 40)))) ∧ Below w.heap.size w w' := by
  have hB1 := Below.refl w.heap.size w
  obtain ⟨PA, hPA⟩ : ∃ P, pValid a = P := ⟨_, rfl⟩
  obtain ⟨PB, hPB⟩ : ∃ P, pValid b = P := ⟨_, rfl⟩
  have la : PA = true → a.length ≤ 40 := fun h => pValid_len (by rw [hPA]; exact h)
  have lb : PB = true → b.length ≤ 40 := fun h => pValid_len (by rw [hPB]; exact h)
  have HA := Lib.hid hPA
  have HB := Lib.hid hPB
  have hO1 := h1
  have hp1 := h2
  clear hPA hPB h1 h2
  rw [HA.out, HB.out]
  obtain ⟨a1, c1, hs1, _, _⟩ := hO1.shape
  obtain ⟨a2, c2, hs2, _, _⟩ := hp1.shape
  subst hs1 hs2
  go_enter Tryd.func39, Tryd.ntmps39
  go_wp2_with fail
  refine (specProgramValid _ a _ hO1.rd).mono ?_
  rintro e w2 ⟨rfl, hb2⟩
  rw [HA.out]
  have hB2 := hB1.trans (hb2.mono hB1.size)
  have hO2 := hO1.below hb2
  have hp2 := hp1.below hb2
  clear hb2 hB1 hO1 hp1
  cases PA
  · go_wp2
    go_ret
    exact ⟨rfl, hB2⟩
  · have la := la rfl
    go_wp2_with fail
    refine (specProgramValid _ b _ hp2.rd).mono ?_
    rintro e w3 ⟨rfl, hb3⟩
    rw [HB.out]
    have hB3 := hB2.trans (hb3.mono hB2.size)
    have hO3 := hO2.below hb3
    have hp3 := hp2.below hb3
    clear hb3 hB2 hO2 hp2
    cases PB
    · go_wp2
      go_ret
      exact ⟨rfl, hB3⟩
    · have lb := lb rfl
      go_wp2
      go_ret
      exact ⟨by show Ending.returned (.bool (decide ((a.length : Int) + (b.length : Int) ≤ 40))) = _; rw [Bool.true_and, Bool.true_and, decide_eq_decide.2 (show ((a.length : Int) + (b.length : Int) ≤ 40) ↔ (a.length + b.length ≤ 40) by omega)], hB3⟩
theorem oneT (ls : List (List UInt8)) : ∀ u ∈ txts ls, u.oneCell' = true := by
  intro u hu
  obtain ⟨x, _, rfl⟩ := List.mem_map.1 hu
  rfl
/-- A list of texts, and another behind it. -/
theorem wpList_owA {ops : Array Oper} {rest : List Oper} {o : Oper} {act : Act} {Q : Exit → Act → World → Prop} (w : World) (hgd : Region.wanted o (yielded ops act.tmps) = true) (s x : Operand) (ho : o.op = .call { callee := .builtin .append, args := #[s, x], argTypes := #[22, 22] })
    {B B2 : Nat} {u v : Value} {xs ys : List (List UInt8)} (hu : OwT B w u xs) (hv : OwT B2 w v ys) (hB : B ≤ w.heap.size) (hl1 : xs.length ≤ 1000000) (hl2 : ys.length ≤ 1000000) (hs : act.eval s = u) (hx : act.eval x = v)
    (hK : ∀ v' w', OwT B w' v' (xs ++ ys) → Below B w w' → wpList Tryd.prog ops Q rest (act.put o.dst v') w') :
    wpList Tryd.prog ops Q (o :: rest) act w := by
  refine wpList_app2g w hgd s x 22 9 ho _ _ 1 16 (.string ByteArray.empty) Tryd.underlying22 infoStr rfl (by decide) _ _ _ _ _ _ hu hv (oneT ys) hs hx (by omega) (by omega) hB ?_
  intro v' w' ho3 hw hb
  exact hK v' w' (by unfold OwT txts; rw [List.length_append, List.map_append]; exact ho3) (hw.below hB (own_ge hu))
theorem ptext_len40 (cs : List Cd) : (ptext cs).length ≤ 40 := by
  unfold ptext
  split
  · next h => have := pValid_len h; simpa using this
  · simp
theorem ptext_fit2 (cs : List Cd) : ∀ x ∈ ptext cs, x.length ≤ 9223372036854775807 := fun x hx => by have := ptext_fit cs x hx; omega
set_option maxRecDepth 100000 in
set_option maxHeartbeats 8000000 in
theorem fnTextJoin_walk (v : Value) (bs : List Int) (v2 : Value) (bs2 : List Int) (w0 : World) (h : RdI .u8 w0 v bs) (h2 : RdI .u8 w0 v2 bs2) (hL : LaidA w0) : Calls Tryd.prog 9 #[v, v2] w0 fun e w' => e = .returned (.bool true) ∧ Below w0.heap.size w0 w' := by
  obtain ⟨ad, c, hv, hlc, hcm⟩ := h.shape
  obtain ⟨ad2, c2, hv2, hlc2, hcm2⟩ := h2.shape
  subst hv hv2
  have HL := Lib.hid hL
  clear hL
  have hB0 := Below.refl w0.heap.size w0
  by_cases hn : bs.length ≤ 1048576
  · by_cases hn2 : bs2.length ≤ 1048576
    · go_enter Tryd.func9, Tryd.ntmps9
      go_wp2_with fail
      refine (DrawProgramText_any _ bs _ h).mono ?_
      rintro e w1 ⟨u, rfl, a, ho, hl, hc, hB1⟩
      have hO1 : OC w0.heap.size w1 u a := ⟨ho, hc⟩
      have h3 := h2.below hB1 (Nat.le_refl _)
      clear h h2 ho hc
      go_wp2_with fail
      refine (DrawProgramText_any _ bs2 _ h3).mono ?_
      rintro e w2 ⟨x, rfl, b, ho, hl2, hc, hb2⟩
      have hz1 := hB1.size
      have hp2 : OC w0.heap.size w2 x b := ⟨own_mono ho hz1, hc⟩
      have hO2 := hO1.below hb2
      have hB2 := hB1.trans (hb2.mono hB1.size)
      clear h3 ho hc hb2 hO1 hB1
      have CI := Lib.hid (fun v cs w (h : RdC w v cs) (hl : LaidA w) => implProgramText v cs w h hl)
      have HF := Lib.hid ptext_fit2
      obtain ⟨PA, hPA⟩ : ∃ P, ptext a = P := ⟨_, rfl⟩
      obtain ⟨PB, hPB⟩ : ∃ P, ptext b = P := ⟨_, rfl⟩
      have hla := ptext_len40 a
      have hlb := ptext_len40 b
      rw [hPA] at hla
      rw [hPB] at hlb
      obtain ⟨J, hJ⟩ : ∃ J, (pValid a && (pValid b && decide (a.length + b.length ≤ 40))) = J := ⟨_, rfl⟩
      have hS : J = true → ptext (a ++ b) = PA ++ PB := by
        intro h
        rw [h] at hJ
        simp only [Bool.and_eq_true, decide_eq_true_eq] at hJ
        rw [ptext_join hJ.1 hJ.2.1 hJ.2.2, hPA, hPB]
      have HFA := Lib.hid (show ∀ x ∈ PA, x.length ≤ 9223372036854775807 by rw [← hPA]; exact ptext_fit2 a)
      have HJF := Lib.hid (show ∀ x ∈ PA ++ PB, x.length ≤ 9223372036854775807 by
        intro x hx
        rw [← hPA, ← hPB] at hx
        rcases List.mem_append.1 hx with hx | hx
        · exact ptext_fit2 a x hx
        · exact ptext_fit2 b x hx)
      have HPA := Lib.hid hPA
      have HPB := Lib.hid hPB
      have HJ := Lib.hid hJ
      have HS := Lib.hid hS
      clear hPA hPB hJ hS HF
      have HBB := Lib.hid hB2
      have HO := Lib.hid hO2
      have HP := Lib.hid hp2
      clear hB2 hO2 hp2
      go_wp2_with fail
      refine (CI.out _ a w2 HO.out.rd (HL.out.below HBB.out)).mono ?_
      rw [HPA.out]
      rintro e w3 ⟨v6, rfl, ho6, hb3⟩
      have HB3 := Lib.hid (HBB.out.trans (hb3.mono HBB.out.size))
      have HO3 := Lib.hid (HO.out.below hb3)
      have HP3 := Lib.hid (HP.out.below hb3)
      have HT3 := Lib.hid (ho6.rd HFA.out)
      clear hb3 HBB HO HP ho6
      go_wp2_with fail
      refine (specProgramText _ a w3 HO3.out.rd).mono ?_
      rw [HPA.out]
      rintro e w4 ⟨v7, rfl, ho7, hb4⟩
      have HB4 := Lib.hid (HB3.out.trans (hb4.mono HB3.out.size))
      have HO4 := Lib.hid (HO3.out.below hb4)
      have HP4 := Lib.hid (HP3.out.below hb4)
      have HT4 := Lib.hid (HT3.out.below hb4 (Nat.le_refl _))
      have HU4 := Lib.hid (ho7.rd HFA.out)
      clear hb4 HB3 HO3 HP3 HT3 ho7
      go_wp2_with fail
      refine (sameTexts_same _ _ PA w4 HT4.out HU4.out).mono ?_
      rintro e w5 ⟨rfl, hb5⟩
      have HB5 := Lib.hid (HB4.out.trans (hb5.mono HB4.out.size))
      have HO5 := Lib.hid (HO4.out.below hb5)
      have HP5 := Lib.hid (HP4.out.below hb5)
      clear hb5 HB4 HO4 HP4 HT4 HU4
      go_wp2_with fail
      refine (joined_any _ _ a b _ _ w5 HO5.out HP5.out).mono ?_
      rw [HJ.out]
      rintro e w6 ⟨rfl, hb6⟩
      have HB6 := Lib.hid (HB5.out.trans (hb6.mono HB5.out.size))
      have HO6 := Lib.hid (HO5.out.below hb6)
      have HP6 := Lib.hid (HP5.out.below hb6)
      clear hb6 HB5 HO5 HP5
      cases J
      · go_wp2_with (go_at_call 27; refine (alive_any _).mono ?_; rintro e w' ⟨rfl, rfl⟩)
        go_ret
        exact ⟨rfl, HB6.out⟩
      · have HS2 := Lib.hid (HS.out rfl)
        have hz6 := HB6.out.size
        clear HS HJ
        go_wp2_with (at_builtin; refine wpList_ocL w6 (by rfl) _ _ rfl [] (by simp) _ rfl HO6.out (by simp) (by omega) rfl rfl ?_)
        intro v7 w7 hO7 hb7
        try rw [List.nil_append] at hO7
        have HO7 := Lib.hid hO7
        have HP7 := Lib.hid (HP6.out.below hb7)
        have hz7 := hb7.size
        have HX7 := Lib.hid hb7
        clear hO7 hb7
        go_wp2_with (at_builtin; refine wpList_ocA w7 (by rfl) _ _ rfl HO7.out HP7.out hz7 (by omega) (by omega) rfl rfl ?_)
        intro v8 w8 hO8 hb8
        have hbb := HX7.out.trans hb8
        have HP8 := Lib.hid (HP6.out.below hbb)
        have HO8 := Lib.hid (HO6.out.below hbb)
        have HB8 := Lib.hid (HB6.out.trans (hbb.mono HB6.out.size))
        have HJ8 := Lib.hid hO8
        clear hbb hb8 hO8 HP7 HO7 HX7 HP6 HO6 HB6 hz6 hz7
        go_wp2_with fail
        refine (CI.out _ (a ++ b) w8 HJ8.out.rd (HL.out.below HB8.out)).mono ?_
        rw [HS2.out]
        rintro e w9 ⟨v9, rfl, hT9, hb9⟩
        have HB9 := Lib.hid (HB8.out.trans (hb9.mono HB8.out.size))
        have HO9 := Lib.hid (HO8.out.below hb9)
        have HP9 := Lib.hid (HP8.out.below hb9)
        have HT9 := Lib.hid hT9
        clear hb9 hT9 HB8 HO8 HP8 HJ8
        have hbx := boxNew w9 (.cells #[] 9)
        have HX := Lib.hid hbx
        have HOx := Lib.hid (HO9.out.below hbx)
        have HLx := Lib.hid (OwT.lit0 w9)
        have HBx := Lib.hid (HB9.out.trans (hbx.mono HB9.out.size))
        clear hbx HO9
        go_wp2_with fail
        refine (CI.out _ a _ HOx.out.rd (HL.out.below HBx.out)).mono ?_
        rw [HPA.out]
        rintro e wa ⟨va, rfl, hTa, hba⟩
        have HXa := Lib.hid (HX.out.trans (hba.mono HX.out.size))
        have HLa := Lib.hid (HLx.out.below hba)
        have HTa := Lib.hid hTa
        have hza := HXa.out.size
        clear hba hTa HX HOx HLx HBx
        go_wp2_with (at_builtin; refine wpList_owA wa (by rfl) _ _ rfl HLa.out HTa.out hza (by simp) (by omega) rfl rfl ?_)
        intro vb wb hob hbb
        try rw [List.nil_append] at hob
        have hxb := HXa.out.trans hbb
        have HXb := Lib.hid hxb
        have HBb := Lib.hid (HB9.out.trans (hxb.mono HB9.out.size))
        have HLb := Lib.hid hob
        have hzb := hxb.size
        have hpb := HP9.out.below hxb
        have HPb := Lib.hid hpb
        clear hob hbb hxb HXa HLa HTa hza hpb HP9
        go_wp2_with fail
        refine (CI.out _ b _ HPb.out.rd (HL.out.below HBb.out)).mono ?_
        rw [HPB.out]
        rintro e wc ⟨vc, rfl, hTc, hbc⟩
        have HXc := Lib.hid (HXb.out.trans (hbc.mono HXb.out.size))
        have HLc := Lib.hid (HLb.out.below hbc)
        have HTc := Lib.hid hTc
        have hzc := HXc.out.size
        clear hbc hTc HXb HPb HLb HBb hzb
        go_wp2_with (at_builtin; refine wpList_owA wc (by rfl) _ _ rfl HLc.out HTc.out hzc (by omega) (by omega) rfl rfl ?_)
        intro vd wd hod hbd
        have hxd := HXc.out.trans hbd
        have HBd := Lib.hid (HB9.out.trans (hxd.mono HB9.out.size))
        have HTd := Lib.hid ((HT9.out.below hxd).rd HJF.out)
        have HLd := Lib.hid (hod.rd HJF.out)
        clear hod hbd hxd HXc HLc HTc hzc HT9 HB9
        go_wp2_with fail
        refine (sameTexts_same _ _ (PA ++ PB) wd HTd.out HLd.out).mono ?_
        rintro e we ⟨rfl, hbe⟩
        have HBe := Lib.hid (HBd.out.trans (hbe.mono HBd.out.size))
        clear hbe HBd HTd HLd
        go_wp2
        go_ret
        exact ⟨rfl, HBe.out⟩
    · go_enter Tryd.func9, Tryd.ntmps9
      go_wp2
      go_ret
      exact ⟨rfl, hB0⟩
  · go_enter Tryd.func9, Tryd.ntmps9
    go_wp2
    go_ret
    exact ⟨rfl, hB0⟩
namespace fnTextJoin
set_option linter.unusedVariables false
set_option maxRecDepth 100000 in
theorem lifted (os : Os) (started : os.Started) (H : Type) (enc : TypeId × Value → H) :
    ReturnsInHanded {} Tryd.checked os 9 .any (fun w args => (Rows.fnTextJoinSpec.pre enc Tryd.prog Tryd.f9 [] false w args ∧ laidMetH Tryd.prog laidA w) ∧ sizedMet enc Tryd.prog Tryd.f9 (OpenSpec.ofChange Rows.fnTextJoinSpec) false w args) (Rows.fnTextJoinSpec.post enc Tryd.prog Tryd.f9 false true false false) := by
  refine handed_and_shaped (C := Tryd.checked) (X := fun w _ => laidMetH Tryd.prog laidA w) (fun _ _ _ hh h => h.of_heap hh) own started (by kernel_rfl) Tryd.func9
    (ChangeSpec.witness_shaped (enc := enc) (C := Tryd.checked) (os := os) (X := fun w _ => laidMetH Tryd.prog laidA w) false (World.laidAll Tryd.prog os laidA) #[.slice none 0 0, .slice none 0 0] 8 (World.laidAll_os _ _ _)
      (World.shaped_of_ZipB (by kernel_rfl) (by kernel_rfl)) (by kernel_rfl) (by kernel_rfl) (by kernel_rfl)
      (by rw [MakeChecks.laidMetH_plain _ _ _ (by kernel_rfl)]; exact laidMet_laidAll _ (by kernel_rfl) (by kernel_rfl))) ?_
  intro W base args ds gs before hval0 hW _ hshape hlaid
  have hval : ∀ (j : Nat) t v, Tryd.f9.params[j]? = some t → args[j]? = some v → Value.okWide Tryd.prog W .any base t v := hval0
  have hW' := hW
  obtain ⟨p, q, hA0, hV, rfl, hfz, hnd⟩ := hW
  have hA : DataW.TrodAll enc Tryd.prog W 0 (fun _ => true) true Tryd.f9.params.toList args.toList ds p := hA0
  rw [Tryd.params9] at hA hval
  obtain ⟨v0, vs0, d0, ds0, p0, q0, hargs, rfl, rfl, h0, r0⟩ := trodAll_cons hA
  obtain ⟨v1, vs1, d1, ds1, p1, q1, rfl, rfl, rfl, h1, r1⟩ := trodAll_cons r0
  obtain ⟨rfl, rfl, rfl⟩ := trodAll_nil r1
  obtain rfl : args = #[v0, v1] := by cases args; simp_all
  obtain ⟨gv, rfl⟩ := vars_one hV
  have k0 := h0
  have lt0 : ∀ x ∈ p0, x.block < W.heap.size := by obtain ⟨m, hm⟩ := k0; exact DataW.trod_lt m _ _ _ hm
  obtain ⟨z0, w0⟩ := open_rdI (kk := .u8) Tryd.underlying32 Tryd.underlying5 (by kernel_rfl) (hval 0 32 v0 rfl rfl) h0
  have k1 := h1
  have lt1 : ∀ x ∈ p1, x.block < W.heap.size := by obtain ⟨m, hm⟩ := k1; exact DataW.trod_lt m _ _ _ hm
  obtain ⟨z1, w1⟩ := open_rdI (kk := .u8) Tryd.underlying32 Tryd.underlying5 (by kernel_rfl) (hval 1 32 v1 rfl rfl) h1
  clear hA0 hval0
  refine (fnTextJoin_walk v0 z0 v1 z1 W w0 w1 (laidA_of hlaid)).mono fun e W' ⟨he, bel⟩ => ?_
  subst he
  exact ⟨_, rfl, _, _, _, [], _, _, hW', trodAll_mk1 (shut_bool Tryd.underlying4 _), (trodAll_cons_mk (Below.trod laidOut (by kernel_rfl) (of_decide_eq_true (by kernel_rfl)) k0 bel lt0) (trodAll_cons_mk (Below.trod laidOut (by kernel_rfl) (of_decide_eq_true (by kernel_rfl)) k1 bel lt1) trodAll_mk0)), Below.trodVars laidOut bel varsKept hV, bel.frame _, fun h => by cases h⟩
theorem over : Rows.fnTextJoinRow.holds Tryd.pinned (OpenSpec.ofChange Rows.fnTextJoinSpec) :=
  OpenClaim.holds_of_wide 9 Tryd.f9 rfl rfl rfl rfl rfl rfl rfl ⟨rfl, rfl, rfl, rfl, rfl⟩ rfl rfl rfl rfl rfl (by kernel_rfl) Tryd.func9 (by kernel_rfl)
    (of_decide_eq_true (by kernel_rfl)) (by unfold Func.isWrapper; first | (rw [if_pos (by decide +kernel)]; kernel_rfl) | (rw [if_neg (by decide +kernel)]; exact ⟨rfl, rfl⟩))
    (fun os started H enc _ => lifted os started H enc)
theorem carded : Rows.FnTextJoinCardSaid :=
  Claim7.holds_tied_plain_at .later [] [.data, .data, .data, .widerDeep] true (true, "035660c64568d2cd316fd08c4cbc06c1be121de206d0751e4ebf56ec72942bdf") true over (fun _ h => by cases h) (by kernel_rfl) (fun _ h => by cases h) fnTextJoin_row_tie rfl ⟨rfl, rfl⟩ (by kernel_rfl) rfl
    (fun f fn hf hfn => by
      obtain rfl : f = 9 := Option.some.inj ((show Tryd.prog.funcNamed "loop.example/lanekernel/laws.FnTextJoin" = some 9 by kernel_rfl).symm.trans hf) |>.symm
      obtain rfl : fn = Tryd.f9 := (Option.some.inj (Tryd.func9.symm.trans hfn)).symm
      exact ⟨by kernel_rfl, fun j t ht => by
        rw [Tryd.params9] at ht
        have hm : t ∈ [32, 32] := by simpa using Array.mem_of_getElem? ht
        have hall : ([32, 32].all fun u => !Tryd.prog.wantsStandIn u) = true := by kernel_rfl
        exact (show Tryd.prog.wantsStandIn t = false by simpa using List.all_eq_true.1 hall t hm)⟩)
    (by kernel_rfl)
end fnTextJoin
/-- The given card on FnTextJoin. -/
theorem fnTextJoin_holds : Rows.FnTextJoinCardSaid := fnTextJoin.carded
#print axioms fnTextJoin_holds
end Go.Proofs.YtidmjeehcmpjnaaDoor
