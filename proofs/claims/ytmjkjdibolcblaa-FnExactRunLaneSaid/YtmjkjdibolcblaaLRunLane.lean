/- YtmjkjdibolcblaaLRunLane: the program's RunLane returns what the reference's returns, for all arguments, in memory of its own. No conditions. -/
import Derived.Test.YtmjkjdibolcblaaLawL
import Derived.Deep.RegionWith
namespace Go.Proofs.Ytmjkjdibolcblaa
open Go.ChangeShapes Go.WideShapes Go.ChangeAt Go.RowKit
set_option linter.unusedVariables false
set_option maxRecDepth 100000 in
set_option maxHeartbeats 16000000 in
theorem fnExactRunLane_walk (r t : Value) (l : Ln) (lv : Value) (cs : List Cd) (id : Int) (mv : Value) (ms : List Int) (w0 : World) (hr : RdI .i64 w0 r l.regs) (ht : RdI .i64 w0 t l.turns) (hp : (Lit.int .i64 l.pc).wf = true) (h : RdC w0 lv cs) (hid : (Lit.int .i64 id).wf = true) (hm : RdI .i64 w0 mv ms) :
    Calls Try.prog 6 #[.agg #[r, .int .i64 l.pc, t, .bool l.waits], lv, .int .i64 id, mv] w0 fun e w' => e = .returned (.bool true) ∧ Below w0.heap.size w0 w' := by
  have hb0 : Below w0.heap.size w0 (w0.alloc (.cells #[r, .int .i64 l.pc, t, .bool l.waits] 38)) := (Below.refl _ _).alloc (Nat.le_refl _) _
  have hX0 := Box4.new w0 r (.int .i64 l.pc) t (.bool l.waits) 38
  obtain ⟨a, c, hv, hlc, hcm⟩ := h.shape
  obtain ⟨ra, rn, hrv, _, _⟩ := hr.shape
  obtain ⟨ta, tn, htv, _, _⟩ := ht.shape
  obtain ⟨ma, mn, hmv, _, _⟩ := hm.shape
  have HR := Lib.hid hr
  have HT := Lib.hid ht
  have HC := Lib.hid h
  have HM := Lib.hid hm
  have HSZ := Lib.hid (szLane_any r t l 1048576 _ (hr.below hb0 (Nat.le_refl _)) (ht.below hb0 (Nat.le_refl _)) (by omega))
  subst hv hrv htv hmv
  obtain ⟨K, hK⟩ : ∃ K, szLn l 1048576 = K := ⟨_, rfl⟩
  rw [hK] at HSZ
  have hKc : K < 0 ∨ (0 ≤ K ∧ K ≤ 1048576 ∧ l.regs.length ≤ 1048576 ∧ l.turns.length ≤ 1048576) := by
    rw [← hK]; unfold szLn
    split
    · left; omega
    · split
      · left; omega
      · right; omega
  clear hK hr ht hm
  by_cases hmn : ms.length ≤ 1048576
  rotate_left
  · go_enter Try.func6, Try.ntmps6
    go_wp2
    go_ret
    exact ⟨rfl, hb0⟩
  rcases hKc with hKn | ⟨hK0, hK1, hn1, hn2⟩
  · go_enter Try.func6, Try.ntmps6
    go_wp2_with fail
    refine HSZ.out.mono ?_
    rintro e w1 ⟨rfl, hb1⟩
    have hB1 := hb0.trans (hb1.mono hb0.size)
    go_wp2
    go_ret
    exact ⟨rfl, hB1⟩
  by_cases hn : K < cs.length
  · go_enter Try.func6, Try.ntmps6
    go_wp2_with fail
    refine HSZ.out.mono ?_
    rintro e w1 ⟨rfl, hb1⟩
    have hB1 := hb0.trans (hb1.mono hb0.size)
    have HS2 := Lib.hid (szCodeS_any _ cs K w1 (HC.out.below hB1 (Nat.le_refl _)) ⟨hK0, hK1⟩)
    rw [if_pos (by omega)] at HS2
    go_wp2_with fail
    refine HS2.out.mono ?_
    rintro e w' ⟨rfl, rfl⟩
    go_wp2
    go_ret
    exact ⟨rfl, hB1⟩
  have hcn : cs.length ≤ 1048576 := by omega
  have hkn : ¬ K - cs.length < 0 := by omega
  have hwr := HR.out.2
  have hwt := HT.out.2
  have hwm := HM.out.2
  have HWR := Lib.hid hwr
  have HWT := Lib.hid hwt
  have HWM := Lib.hid hwm
  have HWC := Lib.hid h.2
  clear hwr hwt hwm h
  go_enter Try.func6, Try.ntmps6
  go_wp2_with fail
  refine HSZ.out.mono ?_
  rintro e w1 ⟨rfl, hb1⟩
  have hB1 := hb0.trans (hb1.mono hb0.size)
  have hX1 := hX0.below hb1 (Nat.le_refl _)
  have HS2 := Lib.hid (szCodeS_any _ cs K w1 (HC.out.below hB1 (Nat.le_refl _)) ⟨hK0, hK1⟩)
  rw [if_neg (by omega)] at HS2
  clear hX0 hb1 HSZ
  go_wp2_with fail
  refine HS2.out.mono ?_
  rintro e w' ⟨rfl, rfl⟩
  clear HS2
  as_aux_lemma =>
    -- the reference
    obtain ⟨x0, x1, x2, x3, x4⟩ := _root_.id hX1
    go_wp2_with fail
    refine (toLane_any _ _ l w1 (HR.out.below hB1 (Nat.le_refl _)) (HT.out.below hB1 (Nat.le_refl _)) hn1 hn2).mono ?_
    rintro e w2 ⟨r2, t2, rfl, ho2, hb2⟩
    clear x0 x1 x2 x3 x4
    have hB2 := hB1.trans (hb2.mono hB1.size)
    have hX2 := hX1.below hb2 (Nat.le_refl _)
    go_wp2_with fail
    refine (toCodeS_any _ cs w2 (HC.out.below hB2 (Nat.le_refl _)) hcn).mono ?_
    rintro e w3 ⟨v3, rfl, ho3, hb3⟩
    have hB3 := hB2.trans (hb3.mono hB2.size)
    have hX3 := hX2.below hb3 (Nat.le_refl _)
    have ho23 := ho2.below hb3 (Nat.le_refl _)
    go_wp2_with fail
    refine (toIntS_any _ ms w3 (HM.out.below hB3 (Nat.le_refl _)) hmn).mono ?_
    rintro e w4 ⟨v4, rfl, ho4, hb4⟩
    have hB4 := hB3.trans (hb4.mono hB3.size)
    have hX4 := hX3.below hb4 (Nat.le_refl _)
    have ho24 := ho23.below hb4 (Nat.le_refl _)
    have ho34 := owns_below ho3 hb4 (Nat.le_refl _)
    go_wp2_with fail
    refine (specRunLane _ _ _ r2 t2 v4 v3 l cs ms id w4 ho24.1 ho24.2.1 ho4 (rdC_of_owns ho34 HWC.out) HWR.out HWT.out HWM.out).mono ?_
    rintro e w5 ⟨L, M, hlm, r5, t5, m5, rfl, n1, n2, n3, nd, nd2, hb5⟩
    have hgd := runV_good hlm
    have HGD := Lib.hid hgd
    have HLM := Lib.hid hlm
    obtain ⟨a5, c5, hs5⟩ := own_shape n1
    obtain ⟨b5, d5, ht5⟩ := own_shape n2
    obtain ⟨e5, f5, hm5⟩ := own_shape n3
    subst hs5 ht5 hm5
    have hB5 := hB4.trans (hb5.mono hB4.size)
    have hX5 := hX4.below hb5 (Nat.le_refl _)
    have hA5 := below_alloc w5 (.cells #[.slice a5 L.regs.length c5, .int .i64 L.pc, .slice b5 L.turns.length d5, .bool L.waits] 31)
    have hz5 := hX5.lt
    have hs4 := hB4.size
    have hK10 := KL.new (w := w5) (l := L) (base := w0.heap.size) (r := .slice a5 L.regs.length c5) (t := .slice b5 L.turns.length d5) ⟨own_mono n1 hs4, own_mono n2 hs4, nd⟩
    have hM10 : OwI w0.heap.size _ _ M := OwI.below (own_mono n3 hs4) hA5
    have hup10 : ∀ k, (Value.slice a5 L.regs.length c5).ownBlock = some k ∨ (Value.slice b5 L.turns.length d5).ownBlock = some k ∨ (Value.slice e5 M.length f5).ownBlock = some k → k < w5.heap.size := fun k hk => by
      rcases hk with hk | hk | hk
      · exact own_lt n1 k hk
      · exact own_lt n2 k hk
      · exact own_lt n3 k hk
    have hBA5 := hB5.trans (hA5.mono hB5.size)
    have hXA5 := hX5.below hA5 (Nat.le_refl _)
    have HUP10 := Lib.hid hup10
    clear hX1 hX2 hX3 hX4 hX5 hb2 hb3 hb4 hb5 ho2 ho3 ho4 ho23 ho24 ho34 n1 n2 n3 nd nd2 hA5 hgd hlm hup10 hB1 hB2 hB3 hB4
    have HK10 := Lib.hid hK10
    have HM10 := Lib.hid hM10
    clear hK10 hM10
    as_aux_lemma =>
      -- the program
      obtain ⟨x0, x1, x2, x3, x4⟩ := _root_.id hXA5
      go_wp2_with fail
      refine (toLane_any _ _ l _ (HR.out.below hBA5 (Nat.le_refl _)) (HT.out.below hBA5 (Nat.le_refl _)) hn1 hn2).mono ?_
      rintro e w6 ⟨r6, t6, rfl, ho6, hb6⟩
      obtain ⟨a6, c6, hr6⟩ := own_shape ho6.1
      obtain ⟨b6, d6, ht6⟩ := own_shape ho6.2.1
      subst hr6 ht6
      clear x0 x1 x2 x3 x4
      have hB6 := hBA5.trans (hb6.mono hBA5.size)
      have hX6 := hXA5.below hb6 (Nat.le_refl _)
      have hK10 := HK10.out.below hb6
      have hM10 := HM10.out.below hb6
      have hA6 := below_alloc w6 (.cells #[.slice a6 l.regs.length c6, .int .i64 l.pc, .slice b6 l.turns.length d6, .bool l.waits] 31)
      have hs6 := hb6.size
      simp only [World.size_alloc] at hs6
      have hlo12 : ∀ k, (Value.slice a6 l.regs.length c6).ownBlock = some k ∨ (Value.slice b6 l.turns.length d6).ownBlock = some k → w5.heap.size < k := fun k hk => by
        rcases hk with hk | hk
        · have := own_ge ho6.1 k hk; simp only [World.size_alloc] at this; omega
        · have := own_ge ho6.2.1 k hk; simp only [World.size_alloc] at this; omega
      have hup12 : ∀ k, (Value.slice a6 l.regs.length c6).ownBlock = some k ∨ (Value.slice b6 l.turns.length d6).ownBlock = some k → k < w6.heap.size := fun k hk => by
        rcases hk with hk | hk
        · exact own_lt ho6.1 k hk
        · exact own_lt ho6.2.1 k hk
      have hK12 := KL.new (w := w6) (l := l) (base := w5.heap.size) (r := .slice a6 l.regs.length c6) (t := .slice b6 l.turns.length d6) ⟨own_mono ho6.1 (by simp), own_mono ho6.2.1 (by simp), ho6.2.2⟩
      have hBA6 := hB6.trans (hA6.mono hB6.size)
      have hXA6 := hX6.below hA6 (Nat.le_refl _)
      have hK10a := hK10.below hA6
      have hM10a := hM10.below hA6
      clear hX6 hb6 ho6 hA6 hK10 hM10 hXA5 hBA5 HK10 HM10
      have HU12 := Lib.hid (And.intro hlo12 hup12)
      clear hlo12 hup12
      go_wp2_with fail
      refine (toCodeS_any _ cs _ (HC.out.below hBA6 (Nat.le_refl _)) hcn).mono ?_
      rintro e w7 ⟨v7, rfl, ho7, hb7⟩
      have hs7 := hb7.size
      simp only [World.size_alloc] at hs7
      have hB7 := hBA6.trans (hb7.mono hBA6.size)
      have hX7 := hXA6.below hb7 (Nat.le_refl _)
      have hK12a := hK12.below hb7
      have hK10b := hK10a.below hb7
      have hM10b := hM10a.below hb7
      have hlo13 : ∀ k, v7.ownBlock = some k → w6.heap.size < k ∧ k < w7.heap.size := fun k hk => ⟨by have := own_ge ho7 k hk; simp only [World.size_alloc] at this; omega, own_lt ho7 k hk⟩
      have ho7a := own_mono ho7 (show w6.heap.size ≤ _ by simp)
      have HL13 := Lib.hid hlo13
      clear hXA6 hb7 hK12 hK10a hM10a ho7 hlo13 hBA6
      go_wp2_with fail
      refine (toIntS_any _ ms w7 (HM.out.below hB7 (Nat.le_refl _)) hmn).mono ?_
      rintro e w8 ⟨v8, rfl, ho8, hb8⟩
      have hs8 := hb8.size
      have hB8 := hB7.trans (hb8.mono hB7.size)
      have hX8 := hX7.below hb8 (Nat.le_refl _)
      have hK12b := hK12a.below hb8
      have hK10c := hK10b.below hb8
      have hM10c := hM10b.below hb8
      have ho7b := owns_below ho7a hb8 (Nat.le_refl _)
      have HU13 := Lib.hid (own_lt ho8)
      clear hX7 hb8 hK12a hK10b hM10b ho7a hB7
      obtain ⟨y0, y1, y2, y3, y4⟩ := _root_.id hK12b.box
      have HI := Lib.hid (implRunLane _ _ _ _ _ v8 v7 l cs ms id w8 hK12b.own.1 hK12b.own.2.1 ho8 (rdC_of_owns ho7b HWC.out) HWR.out HWT.out HWM.out)
      go_wp2_with fail
      refine HI.out.mono ?_
      rintro e w9 ⟨L', M', hlm', r9, t9, m9, rfl, n1, n2, n3, nd, nd2, hb9⟩
      obtain ⟨hL', hM'⟩ := HLM.out.fun hlm'
      have hL' := hL'.symm
      have hM' := hM'.symm
      subst hL' hM'
      clear hlm'
      clear y0 y1 y2 y3 y4
      obtain ⟨a9, c9, hs9⟩ := own_shape n1
      obtain ⟨b9, d9, ht9⟩ := own_shape n2
      obtain ⟨e9, f9, hm9⟩ := own_shape n3
      subst hs9 ht9 hm9
      have hs9 := hb9.size
      have hA9 := below_alloc w9 (.cells #[.slice a9 L.regs.length c9, .int .i64 L.pc, .slice b9 L.turns.length d9, .bool L.waits] 31)
      have hK15 := KL.new (w := w9) (l := L) (base := w8.heap.size) (r := .slice a9 L.regs.length c9) (t := .slice b9 L.turns.length d9) ⟨n1, n2, nd⟩
      have hB9 := hB8.trans (hb9.mono hB8.size)
      have hup15 : ∀ k, (Value.slice a9 L.regs.length c9).ownBlock = some k ∨ (Value.slice b9 L.turns.length d9).ownBlock = some k ∨ (Value.slice e9 M.length f9).ownBlock = some k → k < w9.heap.size := fun k hk => by
        rcases hk with hk | hk | hk
        · exact own_lt n1 k hk
        · exact own_lt n2 k hk
        · exact own_lt n3 k hk
      have hLS : LS w0 w5.heap.size w6.heap.size w7.heap.size w8.heap.size w9.heap.size (.slice ra l.regs.length rn) (.slice ta l.turns.length tn) l cs ms (.slice a5 L.regs.length c5) (.slice b5 L.turns.length d5) (.slice e5 M.length f5) (.slice a6 l.regs.length c6) (.slice b6 l.turns.length d6) v7 v8 (.slice a9 L.regs.length c9) (.slice b9 L.turns.length d9) (.slice e9 M.length f9) L M (w9.alloc (.cells #[.slice a9 L.regs.length c9, .int .i64 L.pc, .slice b9 L.turns.length d9, .bool L.waits] 31)) := by
        have h89 := hb9.trans (hA9.mono hb9.size)
        exact ⟨hB9.trans (hA9.mono hB9.size), hX8.below h89 (Nat.le_refl _), hK10c.below h89, hM10c.below h89, hK12b.below h89, owns_below ho7b h89 (Nat.le_refl _), OwI.below ho8 h89, hK15, OwI.below n3 hA9, nd2, ⟨by omega, by omega, by omega, by omega, by omega⟩, HUP10.out, HU12.out.1, HU12.out.2, HL13.out, HU13.out, hup15⟩
      have HLS := Lib.hid hLS
      clear hLS hup15 hB9 hB8 hK15 hA9 n1 n2 n3 nd nd2 hX8 hK10c hM10c hK12b ho7b ho8 hb9 HUP10 HU12 HL13 HU13 HI hs9 hs8 hs7 hs6 hB6
      obtain ⟨ab, hab⟩ : ∃ x, w5.heap.size = x := ⟨_, rfl⟩
      as_aux_lemma =>
        -- the results are alike
        obtain ⟨y0, y1, y2, y3, y4⟩ := _root_.id HLS.out.k15.box
        obtain ⟨z0, z1, z2, z3, z4⟩ := _root_.id HLS.out.k10.box
        clear hab
        go_wp2_with fail
        refine (eqLane_same _ _ L _ (HLS.out.k15.own.rd HGD.out.r HGD.out.t) (HLS.out.k10.own.rd HGD.out.r HGD.out.t)).mono ?_
        rintro e w10 ⟨rfl, hb10⟩
        have HLA := Lib.hid (HLS.out.below hb10)
        clear hb10 HLS y0 y1 y2 y3 y4 z0 z1 z2 z3 z4
        go_wp2_with fail
        refine (eqIntS_same _ _ M _ (rdI_of_owns HLA.out.m15 HGD.out.m) (rdI_of_owns HLA.out.m10 HGD.out.m)).mono ?_
        rintro e w11 ⟨rfl, hb11⟩
        have HLB := Lib.hid (HLA.out.below hb11)
        clear hb11 HLA
        obtain ⟨wq, hwq⟩ : ∃ x, x = w11.drew := ⟨_, rfl⟩
        have HLD := Lib.hid (HLB.out.below (Below.refl w11.heap.size w11).drew)
        clear hwq wq
        obtain ⟨x0, x1, x2, x3, x4⟩ := _root_.id HLB.out.xa
        obtain ⟨y0, y1, y2, y3, y4⟩ := _root_.id HLB.out.k12.box
        go_upto_region 17 with fail
        go_cut [74] from 70 to 74 (fun v wr => v = .bool false ∧ LS w0 w5.heap.size w6.heap.size w7.heap.size w8.heap.size w9.heap.size (.slice ra l.regs.length rn) (.slice ta l.turns.length tn) l cs ms (.slice a5 L.regs.length c5) (.slice b5 L.turns.length d5) (.slice e5 M.length f5) (.slice a6 l.regs.length c6) (.slice b6 l.turns.length d6) v7 v8 (.slice a9 L.regs.length c9) (.slice b9 L.turns.length d9) (.slice e9 M.length f9) L M wr)
        case first =>
          go_region_with (first | (go_at_call 23; refine (toLane_any _ _ l _ (HR.out.below HLD.out.bel (Nat.le_refl _)) (HT.out.below HLD.out.bel (Nat.le_refl _)) hn1 hn2).mono ?_; rintro e wc8 ⟨rc8, tc8, rfl, hoc8, hbc8⟩; obtain ⟨z0, z1, z2, z3, z4⟩ := HLD.out.k12.box.below hbc8 (Nat.le_refl _); have hLc := HLD.out.below hbc8) | (go_at_call 26; refine (eqLane_same _ _ l _ (hLc.k12.own.rd HWR.out HWT.out) (hoc8.rd HWR.out HWT.out)).mono ?_; rintro e wc9 ⟨rfl, hbc9⟩; have HLE := Lib.hid (hLc.below hbc9)))
          all_goals
            clear z0 z1 z2 z3 z4 hLc hbc8 hbc9 hoc8
            go_wp2
            go_meet
            exact ⟨rfl, HLE.out⟩
        case rest =>
          obtain ⟨rfl, hLS⟩ := hcut
          have HL0 := Lib.hid hLS
          clear hLS x0 x1 x2 x3 x4 y0 y1 y2 y3 y4 HLD HLB
          as_aux_lemma =>
            go_wp2_with fail
            refine (toCodeS_any _ cs _ (HC.out.below HL0.out.bel (Nat.le_refl _)) hcn).mono ?_
            rintro e wa ⟨va, rfl, hoa, hba⟩
            have HLa := Lib.hid (HL0.out.below hba)
            clear HL0 hba
            go_wp2_with fail
            refine (eqCodeS_same _ _ cs _ (rdC_of_owns HLa.out.c12 HWC.out) (rdC_of_owns hoa HWC.out)).mono ?_
            rintro e wb ⟨rfl, hbb⟩
            have HLb := Lib.hid (HLa.out.below hbb)
            clear HLa hbb hoa
            go_wp2_with fail
            refine (toIntS_any _ ms _ (HM.out.below HLb.out.bel (Nat.le_refl _)) hmn).mono ?_
            rintro e wd ⟨vd, rfl, hod, hbd⟩
            have HLd := Lib.hid (HLb.out.below hbd)
            clear HLb hbd
            go_wp2_with fail
            refine (eqIntS_same _ _ ms _ (rdI_of_owns HLd.out.m12 HWM.out) (rdI_of_owns hod HWM.out)).mono ?_
            rintro e we ⟨rfl, hbe⟩
            have HLe := Lib.hid (HLd.out.below hbe)
            clear HLd hbe hod
            -- the arguments are marked
            obtain ⟨y0, y1, y2, y3, y4⟩ := _root_.id HLe.out.k12.box
            obtain ⟨K1, hK1⟩ : ∃ K : Int, 1 + (l.regs.length : Int) + l.turns.length = K := ⟨_, rfl⟩
            have hK1a : 1 ≤ K1 ∧ K1 ≤ 3000000 := by omega
            have HK1 := Lib.hid hK1
            clear hK1
            go_wp2_with fail
            refine (markLane_any _ _ l 1 w5.heap.size _ HLe.out.k12.own (by omega) (by omega) (by omega) (by omega)).mono ?_
            rintro e wf ⟨rfl, hof, hwf⟩
            rw [HK1.out]
            have hor := HLe.out.ord
            have h12 : ∀ k, ((Value.slice a6 l.regs.length c6).ownBlock = some k ∨ (Value.slice b6 l.turns.length d6).ownBlock = some k) → w5.heap.size < k ∧ k < w6.heap.size := fun k hk => ⟨HLe.out.lo12 k hk, HLe.out.up12 k hk⟩
            have hT1 := HLe.out.lt.wrt hwf (fun k hk => by have := h12 k hk; omega)
            have hc12 := hwf.owns HLe.out.c12 (fun k hk hh => by have := h12 k hh; have := HLe.out.lo13 k hk; omega)
            have hm12 := hwf.owns HLe.out.m12 (fun k hk hh => by have := h12 k hh; have := own_ge HLe.out.m12 k hk; omega)
            have HT1 := Lib.hid hT1
            clear hT1 h12 hwf hof y0 y1 y2 y3 y4
            obtain ⟨K2, hK2⟩ : ∃ K : Int, K1 + (cs.length : Int) * 4 = K := ⟨_, rfl⟩
            have hK2a : 1 ≤ K2 ∧ K2 ≤ 9000000 := by omega
            have HK2 := Lib.hid hK2
            clear hK2
            go_wp2_with fail
            refine (markCodeS_any v7 cs.length (cdInts cs) (cdInts_length cs) K1 _ _ (by rw [cdInts_cells]; exact hc12) (by omega) (by omega) (by omega)).mono ?_
            rintro e wg ⟨rfl, hog, hwg⟩
            rw [HK2.out]
            have hT2 := HT1.out.wrt hwg (fun k hk => by have := HLe.out.lo13 k hk; omega)
            have hm12b := hwg.owns hm12 (fun k hk hh => by have := HLe.out.lo13 k hh; have := own_ge HLe.out.m12 k hk; omega)
            have HT2 := Lib.hid hT2
            clear hT2 HT1 hwg hog hc12 hm12
            obtain ⟨K3, hK3⟩ : ∃ K : Int, K2 + (ms.length : Int) = K := ⟨_, rfl⟩
            have hK3a : 1 ≤ K3 ∧ K3 ≤ 19000000 := by omega
            have hK3n : ¬ K3 < 0 := by omega
            have HK3 := Lib.hid hK3
            clear hK3
            go_wp2_with fail
            refine (markIntS_any v8 ms K2 _ _ hm12b (by omega) (by omega) (by omega)).mono ?_
            rintro e wh ⟨rfl, hoh, hwh⟩
            rw [HK3.out]
            have hT3 := HT2.out.wrt hwh (fun k hk => by have := HLe.out.up13 k hk; have := own_ge HLe.out.m12 k hk; omega)
            have HT3 := Lib.hid hT3
            clear hT3 HT2 hwh hoh hm12b HLe HK1 HK2 HK3 hK1a hK2a
            as_aux_lemma =>
              -- the results are as they were
              obtain ⟨y0, y1, y2, y3, y4⟩ := _root_.id HT3.out.k15.box
              obtain ⟨z0, z1, z2, z3, z4⟩ := _root_.id HT3.out.k10.box
              go_wp2_with fail
              refine (eqLane_same _ _ L _ (HT3.out.k15.own.rd HGD.out.r HGD.out.t) (HT3.out.k10.own.rd HGD.out.r HGD.out.t)).mono ?_
              rintro e wi ⟨rfl, hbi⟩
              have HT4 := Lib.hid (HT3.out.below hbi)
              clear hbi HT3 y0 y1 y2 y3 y4 z0 z1 z2 z3 z4
              go_wp2_with fail
              refine (eqIntS_same _ _ M _ (rdI_of_owns HT4.out.m15 HGD.out.m) (rdI_of_owns HT4.out.m10 HGD.out.m)).mono ?_
              rintro e wj ⟨rfl, hbj⟩
              have HT5 := Lib.hid (HT4.out.below hbj)
              clear hbj HT4
              have hg1 := HGD.out.nr
              have hg2 := HGD.out.nt
              have hg3 := HGD.out.nm
              -- the result is marked
              obtain ⟨Q1, hQ1⟩ : ∃ K : Int, 1 + (L.regs.length : Int) + L.turns.length = K := ⟨_, rfl⟩
              have hQ1a : 1 ≤ Q1 ∧ Q1 ≤ 8 := by omega
              have hQ1n : ¬ Q1 < 0 := by omega
              have HQ1 := Lib.hid hQ1
              clear hQ1
              obtain ⟨Q2, hQ2⟩ : ∃ K : Int, Q1 + (M.length : Int) = K := ⟨_, rfl⟩
              have hQ2n : ¬ Q2 < 0 := by omega
              have HQ2 := Lib.hid hQ2
              clear hQ2
              obtain ⟨y0, y1, y2, y3, y4⟩ := _root_.id HT5.out.k15.box
              go_wp2_with fail
              refine (markLane_any _ _ L 1 w8.heap.size _ HT5.out.k15.own (by omega) (by omega) (by omega) (by omega)).mono ?_
              rintro e wk ⟨rfl, hok, hwk⟩
              rw [HQ1.out]
              have HT6 := Lib.hid (HT5.out.markL hwk hok rfl rfl)
              clear hok hwk HT5 y0 y1 y2 y3 y4
              go_wp2_with fail
              refine (markIntS_any _ M Q1 w8.heap.size _ HT6.out.m15 (by omega) (by omega) (by omega)).mono ?_
              rintro e wl ⟨rfl, hol, hwl⟩
              rw [HQ2.out]
              have HT7 := Lib.hid (HT6.out.markM (N' := marks Q1 M.length) hwl hol)
              clear hol hwl HT6
              have hm1 : ∀ x ∈ marks 1 L.regs.length, (Lit.int .i64 x).wf = true := marks_wf (by omega) (by omega)
              have hm2 : ∀ x ∈ marks (1 + L.regs.length) L.turns.length, (Lit.int .i64 x).wf = true := marks_wf (by omega) (by omega)
              have hm3 : ∀ x ∈ marks Q1 M.length, (Lit.int .i64 x).wf = true := marks_wf (by omega) (by omega)
              have HM1 := Lib.hid hm1
              have HM2 := Lib.hid hm2
              have HM3 := Lib.hid hm3
              clear hm1 hm2 hm3
              as_aux_lemma =>
                obtain ⟨y0, y1, y2, y3, y4⟩ := _root_.id HT7.out.k15.box
                simp only at y0 y1 y2 y3
                go_wp2_with fail
                refine (heldLane_any _ L.regs.length L.turns.length L.pc L.waits 1 _ (HT7.out.k15.own.rd HM1.out HM2.out) (by omega) (by omega) (by omega) (by omega)).mono ?_
                rintro e wm ⟨rfl, hbm⟩
                rw [HQ1.out]
                have HT8 := Lib.hid (HT7.out.below hbm)
                clear HT7 hbm y0 y1 y2 y3 y4
                go_wp2_with fail
                refine (heldIntS_any _ M.length Q1 _ (rdI_of_owns HT8.out.m15 HM3.out) (by omega) (by omega)).mono ?_
                rintro e wn ⟨rfl, hbn⟩
                rw [HQ2.out]
                have HT9 := Lib.hid (HT8.out.below hbn)
                clear HT8 hbn
                -- another call
                obtain ⟨x0, x1, x2, x3, x4⟩ := _root_.id HT9.out.xa
                go_wp2_with fail
                refine (toLane_any _ _ l _ (HR.out.below HT9.out.bel (Nat.le_refl _)) (HT.out.below HT9.out.bel (Nat.le_refl _)) hn1 hn2).mono ?_
                rintro e wo ⟨rxo, txo, rfl, hoo, hbo⟩
                have HTa := Lib.hid (HT9.out.below hbo)
                clear x0 x1 x2 x3 x4 HT9 hbo
                go_wp2_with fail
                refine (toCodeS_any _ cs _ (HC.out.below HTa.out.bel (Nat.le_refl _)) hcn).mono ?_
                rintro e wp ⟨vp, rfl, hop, hbp⟩
                have hoo2 := hoo.below hbp (Nat.le_refl _)
                have HTb := Lib.hid (HTa.out.below hbp)
                clear HTa hbp hoo
                go_wp2_with fail
                refine (toIntS_any _ ms _ (HM.out.below HTb.out.bel (Nat.le_refl _)) hmn).mono ?_
                rintro e wq ⟨vq, rfl, hoq, hbq⟩
                have hoo3 := hoo2.below hbq (Nat.le_refl _)
                have hop3 := owns_below hop hbq (Nat.le_refl _)
                have HTc := Lib.hid (HTb.out.below hbq)
                clear HTb hbq hoo2 hop
                have HI := Lib.hid (implRunLane _ _ _ _ _ vq vp l cs ms id wq hoo3.1 hoo3.2.1 hoq (rdC_of_owns hop3 HWC.out) HWR.out HWT.out HWM.out)
                clear hoo3 hop3 hoq
                go_wp2_with fail
                refine HI.out.mono ?_
                rintro e wr ⟨L', M', hlm', r9, t9, m9, rfl, n1, n2, n3, nd, nd2, hb9⟩
                obtain ⟨hL', hM'⟩ := HLM.out.fun hlm'
                have hL' := hL'.symm
                have hM' := hM'.symm
                subst hL' hM'
                clear hlm'
                have HTd := Lib.hid (HTc.out.below hb9)
                clear HTc HI
                obtain ⟨ar, cr, hsr⟩ := own_shape n1
                obtain ⟨br, dr, htr⟩ := own_shape n2
                obtain ⟨er, fr, hmr⟩ := own_shape n3
                subst hsr htr hmr
                have hAr := below_alloc wr (.cells #[.slice ar L.regs.length cr, .int .i64 L.pc, .slice br L.turns.length dr, .bool L.waits] 31)
                have HKr := Lib.hid (KL.new (w := wr) (l := L) (base := wq.heap.size) (r := .slice ar L.regs.length cr) (t := .slice br L.turns.length dr) ⟨n1, n2, nd⟩)
                have HMr := Lib.hid (OwI.below n3 hAr)
                have HTe := Lib.hid (HTd.out.below hAr)
                have hzr : wr.heap.size < (wr.alloc (.cells #[.slice ar L.regs.length cr, .int .i64 L.pc, .slice br L.turns.length dr, .bool L.waits] 31)).heap.size := by simp
                clear hAr hb9 n1 n2 n3 nd nd2 HTd hzr
                as_aux_lemma =>
                  obtain ⟨y0, y1, y2, y3, y4⟩ := _root_.id HKr.out.box
                  obtain ⟨z0, z1, z2, z3, z4⟩ := _root_.id HTe.out.k10.box
                  go_wp2_with fail
                  refine (eqLane_same _ _ L _ (HKr.out.own.rd HGD.out.r HGD.out.t) (HTe.out.k10.own.rd HGD.out.r HGD.out.t)).mono ?_
                  rintro e ws ⟨rfl, hbs⟩
                  have HTf := Lib.hid (HTe.out.below hbs)
                  have HMs := Lib.hid (OwI.below HMr.out hbs)
                  clear hbs HTe HKr HMr y0 y1 y2 y3 y4 z0 z1 z2 z3 z4
                  go_wp2_with fail
                  refine (eqIntS_same _ _ M _ (rdI_of_owns HMs.out HGD.out.m) (rdI_of_owns HTf.out.m10 HGD.out.m)).mono ?_
                  rintro e wt ⟨rfl, hbt⟩
                  have HTg := Lib.hid (HTf.out.below hbt)
                  clear hbt HTf HMs
                  obtain ⟨y0, y1, y2, y3, y4⟩ := _root_.id HTg.out.k15.box
                  simp only at y0 y1 y2 y3
                  go_wp2_with fail
                  refine (heldLane_any _ L.regs.length L.turns.length L.pc L.waits 1 _ (HTg.out.k15.own.rd HM1.out HM2.out) (by omega) (by omega) (by omega) (by omega)).mono ?_
                  rintro e wu ⟨rfl, hbu⟩
                  rw [HQ1.out]
                  have HTh := Lib.hid (HTg.out.below hbu)
                  clear HTg hbu y0 y1 y2 y3 y4
                  go_wp2_with fail
                  refine (heldIntS_any _ M.length Q1 _ (rdI_of_owns HTh.out.m15 HM3.out) (by omega) (by omega)).mono ?_
                  rintro e wv ⟨rfl, hbv⟩
                  rw [HQ2.out]
                  have HTi := Lib.hid (HTh.out.below hbv)
                  clear HTh hbv
                  go_wp2
                  go_ret
                  exact ⟨rfl, HTi.out.bel⟩
namespace fnExactRunLane
set_option linter.unusedVariables false
set_option maxRecDepth 100000 in
theorem lifted (os : Os) (started : os.Started) (H : Type) (enc : TypeId × Value → H) :
    ReturnsInHanded {} Try.checked os 6 .any (Rows.fnExactRunLaneSpec.pre6 enc Try.prog Try.f6 Rows.fnExactRunLaneRow.domain false) (Rows.fnExactRunLaneSpec.post enc Try.prog Try.f6 false true false false) := by
  refine returnsInHanded_of_change (C := Try.checked) own started (by kernel_rfl) Try.func6
    (ChangeSpec.witness6 (enc := enc) (C := Try.checked) false ⟨#[], #[.agg #[.slice none 0 0, .int .i64 0, .slice none 0 0, .bool false], .slice none 0 0, .int .i64 0, .slice none 0 0], []⟩ 8 (by kernel_rfl) (by kernel_rfl) (by kernel_rfl) (by kernel_rfl)) ?_
  intro W base args ds gs before hval0 hW hcnd _
  have hval : ∀ (j : Nat) t v, Try.f6.params[j]? = some t → args[j]? = some v → Value.okWide Try.prog W .any base t v := hval0
  have hW' := hW
  obtain ⟨p, q, hA0, hV, rfl, hfz, hnd⟩ := hW
  have hA : DataW.TrodAll enc Try.prog W 0 (fun _ => true) true Try.f6.params.toList args.toList ds p := hA0
  rw [Try.params6] at hA hval
  obtain ⟨v0, vs0, d0, ds0, p0, q0, hargs, rfl, rfl, h0, r0⟩ := trodAll_cons hA
  obtain ⟨v1, vs1, d1, ds1, p1, q1, rfl, rfl, rfl, h1, r1⟩ := trodAll_cons r0
  obtain ⟨v2, vs2, d2, ds2, p2, q2, rfl, rfl, rfl, h2, r2⟩ := trodAll_cons r1
  obtain ⟨v3, vs3, d3, ds3, p3, q3, rfl, rfl, rfl, h3, r3⟩ := trodAll_cons r2
  obtain ⟨rfl, rfl, rfl⟩ := trodAll_nil r3
  obtain rfl : args = #[v0, v1, v2, v3] := by cases args; simp_all
  obtain ⟨rfl, rfl⟩ := trodVars_none hV
  have k0 := h0
  have lt0 : ∀ x ∈ p0, x.block < W.heap.size := by obtain ⟨m, hm⟩ := k0; exact DataW.trod_lt m _ _ _ hm
  obtain ⟨ra0, ta0, c0, rfl, w0, wt0, wp0⟩ := open_lane Try.underlying38 (by kernel_rfl) (by kernel_rfl) Try.underlying29 Try.underlying3 Try.underlying4 (by kernel_rfl) rfl rfl rfl rfl (hval 0 38 v0 rfl rfl) h0
  have k1 := h1
  have lt1 : ∀ x ∈ p1, x.block < W.heap.size := by obtain ⟨m, hm⟩ := k1; exact DataW.trod_lt m _ _ _ hm
  obtain ⟨c1, w1⟩ := open_codes Try.underlying39 Try.underlying70 (by kernel_rfl) (by kernel_rfl) Try.underlying3 rfl rfl rfl rfl (hval 1 39 v1 rfl rfl) h1
  have k2 := h2
  have lt2 : ∀ x ∈ p2, x.block < W.heap.size := by obtain ⟨m, hm⟩ := k2; exact DataW.trod_lt m _ _ _ hm
  obtain ⟨a2, rfl, g2, e2, w2⟩ := open_int Try.underlying3 (hval 2 3 v2 rfl rfl) h2
  have k3 := h3
  have lt3 : ∀ x ∈ p3, x.block < W.heap.size := by obtain ⟨m, hm⟩ := k3; exact DataW.trod_lt m _ _ _ hm
  obtain ⟨z3, w3⟩ := open_rdI (kk := .i64) Try.underlying29 Try.underlying3 (by kernel_rfl) (hval 3 29 v3 rfl rfl) h3
  clear hA0 hval0
  refine (fnExactRunLane_walk ra0 ta0 c0 v1 c1 a2 v3 z3 W w0 wt0 wp0 w1 w2 w3).mono fun e W' ⟨he, bel⟩ => ?_
  subst he
  exact ⟨_, rfl, _, _, _, [], _, [], hW', trodAll_mk1 (shut_bool Try.underlying4 _), (trodAll_cons_mk (Below.trod laidOut (by kernel_rfl) (of_decide_eq_true (by kernel_rfl)) k0 bel lt0) (trodAll_cons_mk (Below.trod laidOut (by kernel_rfl) (of_decide_eq_true (by kernel_rfl)) k1 bel lt1) (trodAll_cons_mk (Below.trod laidOut (by kernel_rfl) (of_decide_eq_true (by kernel_rfl)) k2 bel lt2) (trodAll_cons_mk (Below.trod laidOut (by kernel_rfl) (of_decide_eq_true (by kernel_rfl)) k3 bel lt3) trodAll_mk0)))), rfl, bel.frame _, fun h => by cases h⟩
theorem over : Rows.fnExactRunLaneRow.holds Try.pinned (OpenSpec.ofChange Rows.fnExactRunLaneSpec) :=
  OpenClaim.holds_of_wide 6 Try.f6 rfl rfl rfl rfl rfl rfl rfl ⟨rfl, rfl, rfl, rfl, rfl⟩ rfl rfl rfl rfl rfl (by kernel_rfl) Try.func6 (by kernel_rfl)
    (of_decide_eq_true (by kernel_rfl)) (by unfold Func.isWrapper; first | (rw [if_pos (by decide +kernel)]; kernel_rfl) | (rw [if_neg (by decide +kernel)]; exact ⟨rfl, rfl⟩))
    (fun os started H enc _ => lifted os started H enc)
end fnExactRunLane
/-- The given statement on FnExactRunLane. -/
theorem fnExactRunLane_holds : Rows.FnExactRunLaneSaid := fnExactRunLane.over
#print axioms fnExactRunLane_holds
end Go.Proofs.Ytmjkjdibolcblaa
