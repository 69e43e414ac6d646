/- YthhdffgfldphlaaLaneX: what LaneValid of the program returns. No conditions. -/
import Derived.Test.YthhdffgfldphlaaLaneW
namespace Go.Proofs.Ythhdffgfldphlaa
open Go.ChangeShapes Go.WideShapes Go.ChangeAt Go.RowKit
set_option linter.unusedVariables false

/-- The bounds of the loops among the first k open blocks, counted from without. -/
def lbk (cs : List Cd) (s : List Fr) (k : Nat) : List Int := ((s.reverse.take k).filter fun f => f.op == 13).map fun f => bAt cs f.p
theorem lbk_all (cs : List Cd) (s : List Fr) : lbk cs s s.length = (loopsOf s).map (bAt cs) := by
  unfold lbk loopsOf
  rw [List.take_of_length_le (by simp), ← List.map_reverse, ← List.filter_reverse, List.map_map]; rfl
theorem lbk_step (cs : List Cd) {s : List Fr} {k : Nat} {f : Fr} (h : s.reverse[k]? = some f) : lbk cs s (k + 1) = lbk cs s k ++ (if f.op = 13 then [bAt cs f.p] else []) := by
  unfold lbk
  rw [take_snoc h, List.filter_append, List.map_append]
  by_cases h2 : f.op = 13
  · rw [if_pos h2, List.filter_cons_of_pos (by simpa using h2)]; rfl
  · rw [if_neg h2, List.filter_cons_of_neg (by simpa using h2)]; rfl
theorem lbk_len (cs : List Cd) (s : List Fr) (k : Nat) : (lbk cs s k).length ≤ s.length := by
  unfold lbk
  rw [List.length_map]
  refine Nat.le_trans (List.length_filter_le _ _) ?_
  rw [List.length_take, List.length_reverse]; omega
set_option maxRecDepth 100000 in
set_option maxHeartbeats 16000000 in
theorem implLaneValid (r t lv : Value) (l : Ln) (cs : List Cd) (w : World) (hr : RdI .i64 w r l.regs) (ht : RdI .i64 w t l.turns) (h : RdC w lv cs) : Calls Try.prog 5 #[.agg #[r, .int .i64 l.pc, t, .bool l.waits], lv] w fun e w' => e = .returned (.bool (lValid l cs)) ∧ Below w.heap.size w w' := by
  have hb0 : Below w.heap.size w (w.alloc (.cells #[r, .int .i64 l.pc, t, .bool l.waits] 25)) := (Below.refl _ _).alloc (Nat.le_refl _) _
  have HPV := Lib.hid (implProgramValid lv cs _ (h.below hb0 (Nat.le_refl _)))
  have hX0 := Box4.new w r (.int .i64 l.pc) t (.bool l.waits) 25
  have HR := Lib.hid h
  have HRR := Lib.hid hr
  obtain ⟨a, n, b, off, rfl, hlc, hm, hb, hcell⟩ := h.opened
  obtain ⟨ra, rn, rb, ro, rfl, hrl, hrm, hrb, hrc⟩ := hr.opened
  obtain ⟨ta, tn, tb, to, rfl, htl, htm, htb, htc⟩ := ht.opened
  cases hpv : pValid cs
  · have HN := Lib.hid (lv_pv (l := l) hpv)
    rw [hpv] at HPV
    clear hpv hX0
    go_enter Try.func5, Try.ntmps5
    go_wp2_with fail
    refine HPV.out.mono ?_
    rintro e w1 ⟨rfl, hb1⟩
    have hB1 := hb0.trans (hb1.mono hb0.size)
    go_wp2
    go_ret
    exact ⟨by rw [HN.out]; rfl, hB1⟩
  have HV := Lib.hid hpv
  rw [hpv] at HPV
  clear hpv
  cases hpc : inB l.pc 0 cs.length
  · have HN := Lib.hid (lv_pc (l := l) (cs := cs) hpc)
    go_enter Try.func5, Try.ntmps5
    go_wp2_with fail
    refine HPV.out.mono ?_
    rintro e w1 ⟨rfl, hb1⟩
    have hB1 := hb0.trans (hb1.mono hb0.size)
    obtain ⟨x0, x1, x2, x3, x4⟩ := hX0.below hb1 (Nat.le_refl _)
    go_wp2_with (go_at_call 11; refine (within_any _ _ _ _).mono ?_; rintro e w' ⟨rfl, rfl⟩)
    go_ret
    exact ⟨by rw [HN.out]; rfl, hB1⟩
  by_cases h4 : l.regs.length = 4
  rotate_left
  · have HN := Lib.hid (lv_len (l := l) (cs := cs) h4)
    have o1 : ((l.regs.length : Int) != 4) = true := by rw [bne_iff_ne]; omega
    go_enter Try.func5, Try.ntmps5
    go_wp2_with fail
    refine HPV.out.mono ?_
    rintro e w1 ⟨rfl, hb1⟩
    have hB1 := hb0.trans (hb1.mono hb0.size)
    obtain ⟨x0, x1, x2, x3, x4⟩ := hX0.below hb1 (Nat.le_refl _)
    go_wp2_with (go_at_call 11; refine (within_any _ _ _ _).mono ?_; rintro e w' ⟨rfl, rfl⟩)
    go_ret
    exact ⟨by rw [HN.out]; rfl, hB1⟩
  have o1 : ((l.regs.length : Int) != 4) = false := by rw [bne_eq_false_iff_eq]; omega
  have HPC := Lib.hid hpc
  have H4 := Lib.hid h4
  have hpcb := inB_i hpc
  clear h4
  cases hany : l.regs.any (fun x => !inB x 0 255)
  rotate_left
  · have HN := Lib.hid (lv_reg (l := l) (cs := cs) (by rw [four_any, hany]; rfl))
    have HA := Lib.hid hany
    clear hany
    go_enter Try.func5, Try.ntmps5
    go_wp2_with fail
    refine HPV.out.mono ?_
    rintro e w1 ⟨rfl, hb1⟩
    have hB1 := hb0.trans (hb1.mono hb0.size)
    have hRR := HRR.out.below hB1 (Nat.le_refl _)
    obtain ⟨x0, x1, x2, x3, x4⟩ := hX0.below hb1 (Nat.le_refl _)
    go_wp2_with (first | (go_at_call 11; refine (within_any _ _ _ _).mono ?_; rintro e w' ⟨rfl, rfl⟩) | (go_at_call 12; refine (containsF_lane _ _ _ hRR).mono ?_; rintro e w' ⟨rfl, rfl⟩; rw [HA.out]))
    go_ret
    exact ⟨by rw [HN.out]; rfl, hB1⟩
  have H5 : Hid (fourW l.regs = true) := Lib.hid (by rw [four_any, hany]; rfl)
  have HA := Lib.hid hany
  clear hany hrc hrb
  obtain ⟨q, hq⟩ : ∃ q : Nat, l.pc = q := ⟨l.pc.toNat, by omega⟩
  have hql : q ≤ cs.length := by omega
  have h40 := pValid_len HV.out
  obtain ⟨s, hs, hI⟩ := pValid_stk HV.out hql
  have HI := Lib.hid hI
  have HS := Lib.hid hs
  have HLA : Hid (loopsAt cs l.pc.toNat = loopsOf s) := Lib.hid (by rw [hq, Int.toNat_natCast]; exact loopsAt_eq hs)
  have hl3 := loops_len hI.deep
  have hdeep := hI.deep
  have HQ := Lib.hid hq
  rw [hq] at hX0 hb0 HPV
  have hcb : inB (q : Int) 0 cs.length = true := by rw [← hq]; exact hpc
  clear hs hI hpc
  rw [hq] at hpcb
  obtain ⟨WT, hWT⟩ : ∃ b, l.waits = b := ⟨_, rfl⟩
  rw [hWT] at hX0 hb0 HPV
  show Calls _ _ #[.agg #[_, .int .i64 l.pc, _, .bool l.waits], _] _ _
  rw [hq, hWT]
  have HWT := Lib.hid hWT
  clear hq hWT
  cases WT with
  | false =>
    have HW : Hid ((!l.waits || (decide (0 < l.pc) && ((codeAt cs (l.pc - 1)).op == 10))) = true) := Lib.hid (by rw [HWT.out]; rfl)
    go_enter Try.func5, Try.ntmps5
    go_wp2_with fail
    refine HPV.out.mono ?_
    rintro e w1 ⟨rfl, hb1⟩
    have hB1 := hb0.trans (hb1.mono hb0.size)
    have hRR := HRR.out.below hB1 (Nat.le_refl _)
    have hX1 := hX0.below hb1 (Nat.le_refl _)
    obtain ⟨x0, x1, x2, x3, x4⟩ := id hX1
    by_cases hqe : q < cs.length
    · have hR1 := HR.out.below hB1 (Nat.le_refl _)
      have HBK := Lib.hid (implBlocks _ cs w1 hR1 (by omega))
      have hqi : (q : Int) < (cs.length : Int) := by omega
      clear hR1
      go_wp2_with (first | (go_at_call 11; refine (within_any _ _ _ _).mono ?_; rintro e w' ⟨rfl, rfl⟩) | (go_at_call 12; refine (containsF_lane _ _ _ hRR).mono ?_; rintro e w' ⟨rfl, rfl⟩; rw [HA.out]))
      refine HBK.out.mono ?_
      rintro e w2 ⟨va, vo, rfl, hbk, hb2⟩
      have hok : sOk cs = true := by have h2 := HV.out; simp only [pValid, Bool.and_eq_true] at h2; exact h2.2.2
      have hB2 := hB1.trans (hb2.mono hB1.size)
      have hX2 := hX1.below hb2 (Nat.le_refl _)
      obtain ⟨A, O, ad, rfl, rfl, _, _, _, _, k7, k8, k9, k10⟩ := hbk hok
      obtain ⟨aa, cc, q0, q1, q2, q3⟩ := k10 q s hqe HS.out
      have K9 := Lib.hid k9
      have Q3 := Lib.hid q3
      clear x0 x1 x2 x3 x4 hX1 hb2 HBK hbk hok k8 k9 k10 q3
      obtain ⟨x0, x1, x2, x3, x4⟩ := id hX2
      go_wp2_with fail
      clear q0 x0 x1 x2 x3 x4
      go_loopg [5, 69] s.length (fun g u i wr => ∃ k : Nat, k + g = s.length ∧ i = .int .i64 k ∧ wr.ownsRow w2.heap.size 3 1 u (lbk cs s k).length ((lbk cs s k).map (Value.int .i64)) ∧ Below w2.heap.size w2 wr)
      case atStart => exact ⟨0, by omega, rfl, World.ownsRow_nil _ _ _ _, Below.refl _ _⟩
      case round =>
        obtain ⟨k, hk, rfl, ho, hbl⟩ := hrel
        have hB3 := hB2.trans (hbl.mono hB2.size)
        have hkl := lbk_len cs s k
        by_cases hlt : k < s.length
        · obtain ⟨f, hf⟩ := get_lt (show k < s.reverse.length by rw [List.length_reverse]; exact hlt)
          have hf2 : s[s.length - 1 - k]? = some f := by rw [List.getElem?_reverse hlt] at hf; exact hf
          have HF := Lib.hid hf
          obtain ⟨g, rfl, _, hghi, hgc⟩ := Q3.out (by omega)
          have g0 := hgc _ _ hf2
          rw [show s.length - 1 - (s.length - 1 - k) = k by omega] at g0
          obtain ⟨hfo, cf, hcf, hcfo⟩ := HI.out.code _ f hf2
          obtain ⟨_, hdhi, g1, _, _⟩ := K9.out f.p ⟨cf, hcf, by rw [hcfo]; exact hfo⟩
          unfold ptr at g0
          have c0 := (hbl.cell (p := ⟨g, k, none⟩) (Nat.lt_of_lt_of_le hghi (Nat.le_refl _))).trans g0
          have c1 := (hbl.cell (p := ⟨ad f.p, 0, none⟩) (Nat.lt_of_lt_of_le hdhi (Nat.le_refl _))).trans g1
          obtain ⟨hblt, ha⟩ := hb (ne_of_get hcf)
          obtain ⟨e0, e1, e2, e3⟩ := hcell.get hb hB3 hcf
          subst ha
          have hpl := (List.getElem?_eq_some_iff.1 hcf).1
          have hpll : (f.p : Int) < (cs.length : Int) := by omega
          have hst := lbk_step cs hf
          have hba : bAt cs f.p = cf.b := by unfold bAt; rw [codeAt_nat hcf]
          rw [hcfo] at e0
          have hz := hbl.size
          clear hb hcf hf hf2 hgc g0 g1 hfo hcfo
          by_cases h13 : f.op = 13
          · have o3 : (f.op == 13) = true := beq_iff_eq.2 h13
            rw [if_pos h13, hba] at hst
            have HST := Lib.hid hst
            obtain ⟨F, hF⟩ : ∃ F, f.op = F := ⟨_, rfl⟩
            rw [hF] at e0 o3
            clear hst h13 hF hba
            go_wp2_with (at_builtin; refine wpList_app1 _ rfl _ _ 23 3 rfl _ 1 8 [.int .i64 cf.b] (.int .i64 0) Try.underlying23 infoInt rfl (by decide) rfl (by intro u hu; simp at hu; subst hu; rfl) _ _ _ ho rfl rfl (by omega) (by omega) (by omega) ?_)
            intro v' w4 ho4 hw4 hbb4
            have hB4 := hbb4 _ _ (Nat.le_refl _) hbl
            have ho5 : w4.ownsRow w2.heap.size 3 1 v' (lbk cs s (k + 1)).length ((lbk cs s (k + 1)).map (Value.int .i64)) := by
              rw [HST.out]; simpa using ho4
            clear ho ho4 hw4 hbb4 hbl c0 c1 e0 e1 e2 e3 hB3
            go_wp2
            go_roundg (s.length - (k + 1))
            case measure => omega
            case rel => exact ⟨k + 1, by omega, by go_num, ho5, hB4⟩
          · have o3 : (f.op == 13) = false := beq_eq_false_iff_ne.2 h13
            rw [if_neg h13, List.append_nil] at hst
            have HST := Lib.hid hst
            obtain ⟨F, hF⟩ : ∃ F, f.op = F := ⟨_, rfl⟩
            rw [hF] at e0 o3
            have ho5 := ho
            rw [← hst] at ho5
            clear hst h13 hF hba ho
            go_wp2
            go_roundg (s.length - (k + 1))
            case measure => omega
            case rel => exact ⟨k + 1, by omega, by go_num, ho5, hbl⟩
        · obtain rfl : k = s.length := by omega
          obtain ⟨w5, hw5⟩ : ∃ x : World, x = wr := ⟨_, rfl⟩
          subst hw5
          have hB5 := hB3
          obtain ⟨x0, x1, x2, x3, x4⟩ := hX2.below hbl (Nat.le_refl _)
          have hll : (lbk cs s s.length).length = (loopsOf s).length := by rw [lbk_all, List.length_map]
          obtain ⟨a6, n6, b6, o6, hv6, _, hm6, hb6, hc6⟩ := (rdI_of_owns ho (fun x hx => by
            rw [lbk_all] at hx
            obtain ⟨p, hp, rfl⟩ := List.mem_map.1 hx
            obtain ⟨i, hi⟩ := List.mem_iff_getElem?.1 hp
            obtain ⟨c, hc, hcb3⟩ := loop_code HI.out hi
            have := cValid_bd (pValid_code HV.out hc)
            rw [hcb3]
            exact WalkArith.wf_i64 (by omega))).opened
          subst hv6
          rw [hll]
          clear ho hk hlt hkl hB3 hbl hll
          by_cases hlen : (loopsOf s).length = l.turns.length
          rotate_left
          · have o2 : (((loopsOf s).length : Int) != (l.turns.length : Int)) = true := by rw [bne_iff_ne]; omega
            have HN := Lib.hid (lv_turns (l := l) (cs := cs) (fun hh => hlen (by have := hh.1; rw [HLA.out] at this; exact this.symm)))
            clear hlen
            go_wp2
            go_ret
            exact ⟨by rw [HN.out]; rfl, hB5⟩
          have o2 : (((loopsOf s).length : Int) != (l.turns.length : Int)) = false := by rw [bne_eq_false_iff_eq]; omega
          have HLE := Lib.hid hlen
          have hge : (loopsOf s).length ≤ l.turns.length := by omega
          have hge2 : l.turns.length ≤ (loopsOf s).length := by omega
          clear hlen
          go_wp2_with fail
          go_loopg [103] l.turns.length (fun g i wr => ∃ k : Nat, k + g = l.turns.length ∧ i = .int .i64 k ∧ TUp cs l.turns (loopsOf s) k ∧ wr = w5)
          case atStart => exact ⟨0, by omega, rfl, TUp.zero _ _ _, rfl⟩
          case round =>
            obtain ⟨k, hk, rfl, hup, rfl⟩ := hrel
            have HUP := Lib.hid hup
            clear hup
            by_cases hlt : k < l.turns.length
            · obtain ⟨tv, htv⟩ := get_lt hlt
              obtain ⟨pk, hpk⟩ := get_lt (show k < (loopsOf s).length by omega)
              obtain ⟨c, hc, hcb2⟩ := loop_code HI.out hpk
              obtain ⟨rfl, q1⟩ := htc.get htb hB5 htv
              have hpi : (lbk cs s s.length)[k]? = some c.b := by rw [lbk_all, List.getElem?_map, hpk]; exact congrArg some hcb2
              obtain ⟨rfl, q2⟩ := hc6.get hb6 (Below.refl _ _) hpi
              have hcv := cValid_bd (pValid_code HV.out hc)
              have hb0x := hcv.2.2.2.2.1
              have hb1x := hcv.2.2.2.2.2.1
              have hklen : k < (loopsOf s).length := by omega
              have HTV := Lib.hid htv
              have HPK := Lib.hid hpk
              have HCB := Lib.hid hcb2
              clear htb hb6 hc htv hpk hpi hcv hcb2
              cases hin : inB tv 0 (c.b - 1)
              · have HN := Lib.hid (lv_turns (l := l) (cs := cs) (by rw [HLA.out]; exact TOK.not_at HTV.out HPK.out (by rw [HCB.out]; exact inB_n hin)))
                go_wp2_with (go_at_call 11; refine (within_any _ _ _ _).mono ?_; rintro e w' ⟨rfl, rfl⟩)
                go_ret
                exact ⟨by rw [HN.out]; rfl, hB5⟩
              · have HU2 := Lib.hid (HUP.out.succ HTV.out HPK.out (by rw [HCB.out]; exact inB_i hin))
                go_wp2_with (go_at_call 11; refine (within_any _ _ _ _).mono ?_; rintro e w' ⟨rfl, rfl⟩)
                go_roundg (l.turns.length - (k + 1))
                case measure => omega
                case rel => exact ⟨k + 1, by omega, by go_num, HU2.out, rfl⟩
            · obtain rfl : k = l.turns.length := by omega
              have HF := Lib.hid ((lv_all HV.out H4.out HPC.out H5.out (by rw [HLA.out]; exact TUp.all HLE.out.symm HUP.out)).trans HW.out)
              clear hk hlt
              go_wp2
              go_ret
              exact ⟨by rw [HF.out]; rfl, hB5⟩
    · have hse : s = [] := by
        have h1 := HS.out
        rw [show q = cs.length by omega, pValid_end HV.out] at h1
        exact (Option.some.inj h1).symm
      have HLN : Hid (loopsAt cs l.pc.toNat = []) := Lib.hid (by rw [HLA.out, hse]; rfl)
      have hqi : ¬ (q : Int) < (cs.length : Int) := by omega
      clear hse
      by_cases htn : l.turns.length = 0
      · have HF := Lib.hid ((lv_all HV.out H4.out HPC.out H5.out (by rw [HLN.out]; exact ⟨htn, fun i t p _ hp => by simp at hp⟩)).trans HW.out)
        have htn2 : ((l.turns.length : Int)) = 0 := by omega
        rw [htn] at x2
        clear htn2
        go_wp2_with (first | (go_at_call 11; refine (within_any _ _ _ _).mono ?_; rintro e w' ⟨rfl, rfl⟩) | (go_at_call 12; refine (containsF_lane _ _ _ hRR).mono ?_; rintro e w' ⟨rfl, rfl⟩; rw [HA.out]))
        refine wp_loop_rounds 1 ?_
        rw [rounds_succ]
        go_wp2
        go_ret
        exact ⟨by rw [HF.out]; rfl, hB1⟩
      · have HN := Lib.hid (lv_turns (l := l) (cs := cs) (fun hh => htn (by have := hh.1; rw [HLN.out] at this; exact this)))
        have o2 : ((0 : Int) != (l.turns.length : Int)) = true := by rw [bne_iff_ne]; omega
        go_wp2_with (first | (go_at_call 11; refine (within_any _ _ _ _).mono ?_; rintro e w' ⟨rfl, rfl⟩) | (go_at_call 12; refine (containsF_lane _ _ _ hRR).mono ?_; rintro e w' ⟨rfl, rfl⟩; rw [HA.out]))
        go_ret
        exact ⟨by rw [HN.out]; rfl, hB1⟩
  | true =>
    by_cases hq0 : 0 < q
    · obtain ⟨q', rfl⟩ : ∃ q', q = q' + 1 := ⟨q - 1, by omega⟩
      obtain ⟨c, hc⟩ := get_lt (show q' < cs.length by omega)
      have hco : codeAt cs (l.pc - 1) = c := by
        rw [HQ.out, show ((q' + 1 : Nat) : Int) - 1 = (q' : Int) by omega]; exact codeAt_nat hc
      have hq1 : ((q' + 1 : Nat) : Int) - 1 = (q' : Int) := by omega
      have hqn : (((q' + 1 : Nat) : Int) == 0) = false := beq_eq_false_iff_ne.2 (by omega)
      have hql2 : q' < cs.length := by omega
      have HC := Lib.hid hc
      by_cases h10 : c.op = 10
      · have HW : Hid ((!l.waits || (decide (0 < l.pc) && ((codeAt cs (l.pc - 1)).op == 10))) = true) := Lib.hid (by rw [HWT.out, hco, h10, decide_eq_true (by rw [HQ.out]; omega)]; rfl)
        have o10 : (c.op != 10) = false := by rw [bne_eq_false_iff_eq]; exact h10
        clear hc hco h10
        go_enter Try.func5, Try.ntmps5
        go_wp2_with fail
        refine HPV.out.mono ?_
        rintro e w1 ⟨rfl, hb1⟩
        have hB1 := hb0.trans (hb1.mono hb0.size)
        have hRR := HRR.out.below hB1 (Nat.le_refl _)
        have hX1 := hX0.below hb1 (Nat.le_refl _)
        obtain ⟨x0, x1, x2, x3, x4⟩ := id hX1
        obtain ⟨e0, e1, e2, e3⟩ := hcell.get hb hB1 HC.out
        obtain ⟨hblt, ha⟩ := hb (ne_of_get HC.out)
        subst ha
        clear hb
        have hb : cs ≠ [] → b < w.heap.size ∧ (some ⟨b, off, none⟩ : Option Addr) = some ⟨b, off, none⟩ := fun _ => ⟨hblt, rfl⟩
        by_cases hqe : q' + 1 < cs.length
        · have hR1 := HR.out.below hB1 (Nat.le_refl _)
          have HBK := Lib.hid (implBlocks _ cs w1 hR1 (by omega))
          have hqi : ((q' + 1 : Nat) : Int) < (cs.length : Int) := by omega
          clear hR1
          go_wp2_with (first | (go_at_call 11; refine (within_any _ _ _ _).mono ?_; rintro e w' ⟨rfl, rfl⟩) | (go_at_call 12; refine (containsF_lane _ _ _ hRR).mono ?_; rintro e w' ⟨rfl, rfl⟩; rw [HA.out]))
          refine HBK.out.mono ?_
          rintro e w2 ⟨va, vo, rfl, hbk, hb2⟩
          have hok : sOk cs = true := by have h2 := HV.out; simp only [pValid, Bool.and_eq_true] at h2; exact h2.2.2
          have hB2 := hB1.trans (hb2.mono hB1.size)
          have hX2 := hX1.below hb2 (Nat.le_refl _)
          obtain ⟨A, O, ad, rfl, rfl, _, _, _, _, k7, k8, k9, k10⟩ := hbk hok
          obtain ⟨aa, cc, q0, q1, q2, q3⟩ := k10 (q' + 1) s hqe HS.out
          have K9 := Lib.hid k9
          have Q3 := Lib.hid q3
          clear x0 x1 x2 x3 x4 hX1 hb2 HBK hbk hok k8 k9 k10 q3
          obtain ⟨x0, x1, x2, x3, x4⟩ := id hX2
          go_wp2_with fail
          clear q0 x0 x1 x2 x3 x4
          go_loopg [5, 69] s.length (fun g u i wr => ∃ k : Nat, k + g = s.length ∧ i = .int .i64 k ∧ wr.ownsRow w2.heap.size 3 1 u (lbk cs s k).length ((lbk cs s k).map (Value.int .i64)) ∧ Below w2.heap.size w2 wr)
          case atStart => exact ⟨0, by omega, rfl, World.ownsRow_nil _ _ _ _, Below.refl _ _⟩
          case round =>
            obtain ⟨k, hk, rfl, ho, hbl⟩ := hrel
            have hB3 := hB2.trans (hbl.mono hB2.size)
            have hkl := lbk_len cs s k
            by_cases hlt : k < s.length
            · obtain ⟨f, hf⟩ := get_lt (show k < s.reverse.length by rw [List.length_reverse]; exact hlt)
              have hf2 : s[s.length - 1 - k]? = some f := by rw [List.getElem?_reverse hlt] at hf; exact hf
              have HF := Lib.hid hf
              obtain ⟨g, rfl, _, hghi, hgc⟩ := Q3.out (by omega)
              have g0 := hgc _ _ hf2
              rw [show s.length - 1 - (s.length - 1 - k) = k by omega] at g0
              obtain ⟨hfo, cf, hcf, hcfo⟩ := HI.out.code _ f hf2
              obtain ⟨_, hdhi, g1, _, _⟩ := K9.out f.p ⟨cf, hcf, by rw [hcfo]; exact hfo⟩
              unfold ptr at g0
              have c0 := (hbl.cell (p := ⟨g, k, none⟩) (Nat.lt_of_lt_of_le hghi (Nat.le_refl _))).trans g0
              have c1 := (hbl.cell (p := ⟨ad f.p, 0, none⟩) (Nat.lt_of_lt_of_le hdhi (Nat.le_refl _))).trans g1
              obtain ⟨e0, e1, e2, e3⟩ := hcell.get (a := some ⟨b, off, none⟩) (fun _ => ⟨hblt, rfl⟩) hB3 hcf
              have hpl := (List.getElem?_eq_some_iff.1 hcf).1
              have hpll : (f.p : Int) < (cs.length : Int) := by omega
              have hst := lbk_step cs hf
              have hba : bAt cs f.p = cf.b := by unfold bAt; rw [codeAt_nat hcf]
              rw [hcfo] at e0
              have hz := hbl.size
              clear hb hcf hf hf2 hgc g0 g1 hfo hcfo
              by_cases h13 : f.op = 13
              · have o3 : (f.op == 13) = true := beq_iff_eq.2 h13
                rw [if_pos h13, hba] at hst
                have HST := Lib.hid hst
                obtain ⟨F, hF⟩ : ∃ F, f.op = F := ⟨_, rfl⟩
                rw [hF] at e0 o3
                clear hst h13 hF hba
                go_wp2_with (at_builtin; refine wpList_app1 _ rfl _ _ 23 3 rfl _ 1 8 [.int .i64 cf.b] (.int .i64 0) Try.underlying23 infoInt rfl (by decide) rfl (by intro u hu; simp at hu; subst hu; rfl) _ _ _ ho rfl rfl (by omega) (by omega) (by omega) ?_)
                intro v' w4 ho4 hw4 hbb4
                have hB4 := hbb4 _ _ (Nat.le_refl _) hbl
                have ho5 : w4.ownsRow w2.heap.size 3 1 v' (lbk cs s (k + 1)).length ((lbk cs s (k + 1)).map (Value.int .i64)) := by
                  rw [HST.out]; simpa using ho4
                clear ho ho4 hw4 hbb4 hbl c0 c1 e0 e1 e2 e3 hB3
                go_wp2
                go_roundg (s.length - (k + 1))
                case measure => omega
                case rel => exact ⟨k + 1, by omega, by go_num, ho5, hB4⟩
              · have o3 : (f.op == 13) = false := beq_eq_false_iff_ne.2 h13
                rw [if_neg h13, List.append_nil] at hst
                have HST := Lib.hid hst
                obtain ⟨F, hF⟩ : ∃ F, f.op = F := ⟨_, rfl⟩
                rw [hF] at e0 o3
                have ho5 := ho
                rw [← hst] at ho5
                clear hst h13 hF hba ho
                go_wp2
                go_roundg (s.length - (k + 1))
                case measure => omega
                case rel => exact ⟨k + 1, by omega, by go_num, ho5, hbl⟩
            · obtain rfl : k = s.length := by omega
              obtain ⟨w5, hw5⟩ : ∃ x : World, x = wr := ⟨_, rfl⟩
              subst hw5
              have hB5 := hB3
              obtain ⟨x0, x1, x2, x3, x4⟩ := hX2.below hbl (Nat.le_refl _)
              have hll : (lbk cs s s.length).length = (loopsOf s).length := by rw [lbk_all, List.length_map]
              obtain ⟨a6, n6, b6, o6, hv6, _, hm6, hb6, hc6⟩ := (rdI_of_owns ho (fun x hx => by
                rw [lbk_all] at hx
                obtain ⟨p, hp, rfl⟩ := List.mem_map.1 hx
                obtain ⟨i, hi⟩ := List.mem_iff_getElem?.1 hp
                obtain ⟨c, hc, hcb3⟩ := loop_code HI.out hi
                have := cValid_bd (pValid_code HV.out hc)
                rw [hcb3]
                exact WalkArith.wf_i64 (by omega))).opened
              subst hv6
              rw [hll]
              clear ho hk hlt hkl hB3 hbl hll
              by_cases hlen : (loopsOf s).length = l.turns.length
              rotate_left
              · have o2 : (((loopsOf s).length : Int) != (l.turns.length : Int)) = true := by rw [bne_iff_ne]; omega
                have HN := Lib.hid (lv_turns (l := l) (cs := cs) (fun hh => hlen (by have := hh.1; rw [HLA.out] at this; exact this.symm)))
                clear hlen
                go_wp2
                go_ret
                exact ⟨by rw [HN.out]; rfl, hB5⟩
              have o2 : (((loopsOf s).length : Int) != (l.turns.length : Int)) = false := by rw [bne_eq_false_iff_eq]; omega
              have HLE := Lib.hid hlen
              have hge : (loopsOf s).length ≤ l.turns.length := by omega
              have hge2 : l.turns.length ≤ (loopsOf s).length := by omega
              clear hlen
              go_wp2_with fail
              go_loopg [103] l.turns.length (fun g i wr => ∃ k : Nat, k + g = l.turns.length ∧ i = .int .i64 k ∧ TUp cs l.turns (loopsOf s) k ∧ wr = w5)
              case atStart => exact ⟨0, by omega, rfl, TUp.zero _ _ _, rfl⟩
              case round =>
                obtain ⟨k, hk, rfl, hup, rfl⟩ := hrel
                have HUP := Lib.hid hup
                clear hup
                by_cases hlt : k < l.turns.length
                · obtain ⟨tv, htv⟩ := get_lt hlt
                  obtain ⟨pk, hpk⟩ := get_lt (show k < (loopsOf s).length by omega)
                  obtain ⟨c, hc, hcb2⟩ := loop_code HI.out hpk
                  obtain ⟨rfl, q1⟩ := htc.get htb hB5 htv
                  have hpi : (lbk cs s s.length)[k]? = some c.b := by rw [lbk_all, List.getElem?_map, hpk]; exact congrArg some hcb2
                  obtain ⟨rfl, q2⟩ := hc6.get hb6 (Below.refl _ _) hpi
                  have hcv := cValid_bd (pValid_code HV.out hc)
                  have hb0x := hcv.2.2.2.2.1
                  have hb1x := hcv.2.2.2.2.2.1
                  have hklen : k < (loopsOf s).length := by omega
                  have HTV := Lib.hid htv
                  have HPK := Lib.hid hpk
                  have HCB := Lib.hid hcb2
                  clear htb hb6 hc htv hpk hpi hcv hcb2
                  cases hin : inB tv 0 (c.b - 1)
                  · have HN := Lib.hid (lv_turns (l := l) (cs := cs) (by rw [HLA.out]; exact TOK.not_at HTV.out HPK.out (by rw [HCB.out]; exact inB_n hin)))
                    go_wp2_with (go_at_call 11; refine (within_any _ _ _ _).mono ?_; rintro e w' ⟨rfl, rfl⟩)
                    go_ret
                    exact ⟨by rw [HN.out]; rfl, hB5⟩
                  · have HU2 := Lib.hid (HUP.out.succ HTV.out HPK.out (by rw [HCB.out]; exact inB_i hin))
                    go_wp2_with (go_at_call 11; refine (within_any _ _ _ _).mono ?_; rintro e w' ⟨rfl, rfl⟩)
                    go_roundg (l.turns.length - (k + 1))
                    case measure => omega
                    case rel => exact ⟨k + 1, by omega, by go_num, HU2.out, rfl⟩
                · obtain rfl : k = l.turns.length := by omega
                  have HF := Lib.hid ((lv_all HV.out H4.out HPC.out H5.out (by rw [HLA.out]; exact TUp.all HLE.out.symm HUP.out)).trans HW.out)
                  clear hk hlt
                  go_wp2
                  go_ret
                  exact ⟨by rw [HF.out]; rfl, hB5⟩
        · have hse : s = [] := by
            have h1 := HS.out
            rw [show q' + 1 = cs.length by omega, pValid_end HV.out] at h1
            exact (Option.some.inj h1).symm
          have HLN : Hid (loopsAt cs l.pc.toNat = []) := Lib.hid (by rw [HLA.out, hse]; rfl)
          have hqi : ¬ ((q' + 1 : Nat) : Int) < (cs.length : Int) := by omega
          clear hse
          by_cases htn : l.turns.length = 0
          · have HF := Lib.hid ((lv_all HV.out H4.out HPC.out H5.out (by rw [HLN.out]; exact ⟨htn, fun i t p _ hp => by simp at hp⟩)).trans HW.out)
            have htn2 : ((l.turns.length : Int)) = 0 := by omega
            rw [htn] at x2
            clear htn2
            go_wp2_with (first | (go_at_call 11; refine (within_any _ _ _ _).mono ?_; rintro e w' ⟨rfl, rfl⟩) | (go_at_call 12; refine (containsF_lane _ _ _ hRR).mono ?_; rintro e w' ⟨rfl, rfl⟩; rw [HA.out]))
            refine wp_loop_rounds 1 ?_
            rw [rounds_succ]
            go_wp2
            go_ret
            exact ⟨by rw [HF.out]; rfl, hB1⟩
          · have HN := Lib.hid (lv_turns (l := l) (cs := cs) (fun hh => htn (by have := hh.1; rw [HLN.out] at this; exact this)))
            have o2 : ((0 : Int) != (l.turns.length : Int)) = true := by rw [bne_iff_ne]; omega
            go_wp2_with (first | (go_at_call 11; refine (within_any _ _ _ _).mono ?_; rintro e w' ⟨rfl, rfl⟩) | (go_at_call 12; refine (containsF_lane _ _ _ hRR).mono ?_; rintro e w' ⟨rfl, rfl⟩; rw [HA.out]))
            go_ret
            exact ⟨by rw [HN.out]; rfl, hB1⟩
      · have HN := Lib.hid (lv_wait (l := l) (cs := cs) (by rw [HWT.out, hco, beq_eq_false_iff_ne.2 h10]; simp))
        have o10 : (c.op != 10) = true := by rw [bne_iff_ne]; exact h10
        clear hc hco h10
        go_enter Try.func5, Try.ntmps5
        go_wp2_with fail
        refine HPV.out.mono ?_
        rintro e w1 ⟨rfl, hb1⟩
        have hB1 := hb0.trans (hb1.mono hb0.size)
        have hRR := HRR.out.below hB1 (Nat.le_refl _)
        have hX1 := hX0.below hb1 (Nat.le_refl _)
        obtain ⟨x0, x1, x2, x3, x4⟩ := id hX1
        obtain ⟨e0, e1, e2, e3⟩ := hcell.get hb hB1 HC.out
        obtain ⟨hblt, ha⟩ := hb (ne_of_get HC.out)
        subst ha
        clear hb
        go_wp2_with (first | (go_at_call 11; refine (within_any _ _ _ _).mono ?_; rintro e w' ⟨rfl, rfl⟩) | (go_at_call 12; refine (containsF_lane _ _ _ hRR).mono ?_; rintro e w' ⟨rfl, rfl⟩; rw [HA.out]))
        go_ret
        exact ⟨by rw [HN.out]; rfl, hB1⟩
    · obtain rfl : q = 0 := by omega
      have HN := Lib.hid (lv_wait (l := l) (cs := cs) (by rw [HWT.out, decide_eq_false (by rw [HQ.out]; omega)]; rfl))
      go_enter Try.func5, Try.ntmps5
      go_wp2_with fail
      refine HPV.out.mono ?_
      rintro e w1 ⟨rfl, hb1⟩
      have hB1 := hb0.trans (hb1.mono hb0.size)
      have hRR := HRR.out.below hB1 (Nat.le_refl _)
      have hX1 := hX0.below hb1 (Nat.le_refl _)
      obtain ⟨x0, x1, x2, x3, x4⟩ := id hX1
      go_wp2_with (first | (go_at_call 11; refine (within_any _ _ _ _).mono ?_; rintro e w' ⟨rfl, rfl⟩) | (go_at_call 12; refine (containsF_lane _ _ _ hRR).mono ?_; rintro e w' ⟨rfl, rfl⟩; rw [HA.out]))
      go_ret
      exact ⟨by rw [HN.out]; rfl, hB1⟩
end Go.Proofs.Ythhdffgfldphlaa
