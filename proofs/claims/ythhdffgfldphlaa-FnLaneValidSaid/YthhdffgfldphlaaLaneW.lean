/- YthhdffgfldphlaaLaneW: what LaneValid of the reference and of the program return. No conditions. -/
import Derived.Test.YthhdffgfldphlaaLaneV
namespace Go.Proofs.Ythhdffgfldphlaa
open Go.ChangeShapes Go.WideShapes Go.ChangeAt Go.RowKit
set_option linter.unusedVariables false

/-- The cells of a list of numbers. -/
def IsAt (w : World) (b off : Nat) (xs : List Int) : Prop := ∀ i x, xs[i]? = some x → w.cell? ⟨b, off + i, none⟩ = some (.int .i64 x)
theorem RdI.opened {w : World} {v : Value} {xs : List Int} (h : RdI .i64 w v xs) :
    ∃ a n b off, v = .slice a xs.length n ∧ xs.length ≤ n ∧ n ≤ 9223372036854775807 ∧ (xs ≠ [] → b < w.heap.size ∧ a = some ⟨b, off, none⟩) ∧ IsAt w b off xs := by
  obtain ⟨a, n, b, off, hv, h1, h2, h3, h4⟩ := h.form
  refine ⟨a, n, b, off, hv, h1, h2, fun hne => ⟨h3 hne, ?_⟩, fun i c hi => (h4 i c hi).2⟩
  obtain ⟨c, hc⟩ := get_lt (List.length_pos_iff.2 hne)
  exact (h4 0 c hc).1
theorem IsAt.get {w wr : World} {xs : List Int} {a : Option Addr} {b off B : Nat} (h : IsAt w b off xs) (hb : xs ≠ [] → b < B ∧ a = some ⟨b, off, none⟩) (hbl : Below B w wr) {k : Nat} {x : Int} (hx : xs[k]? = some x) :
    a = some ⟨b, off, none⟩ ∧ wr.cell? ⟨b, off + k, none⟩ = some (.int .i64 x) := by
  have hne : xs ≠ [] := by rintro rfl; simp at hx
  exact ⟨(hb hne).2, (hbl.cell (p := ⟨b, off + k, none⟩) (hb hne).1).trans (h k x hx)⟩
theorem lv_pv {l : Ln} {cs : List Cd} (h : pValid cs = false) : lValid l cs = false := by simp [lValid, h]
theorem lv_len {l : Ln} {cs : List Cd} (h : ¬ l.regs.length = 4) : lValid l cs = false := by simp [lValid, h]
theorem lv_pc {l : Ln} {cs : List Cd} (h : inB l.pc 0 cs.length = false) : lValid l cs = false := by simp [lValid, h]
theorem lv_reg {l : Ln} {cs : List Cd} (h : fourW l.regs = false) : lValid l cs = false := by simp [lValid, h]
theorem lv_turns {l : Ln} {cs : List Cd} (h : ¬ TOK cs l.turns (loopsAt cs l.pc.toNat)) : lValid l cs = false := by
  have : turnsB cs l.turns (loopsAt cs l.pc.toNat) = false := by
    rw [← Bool.not_eq_true, turnsB_iff]; exact h
  simp [lValid, this]
theorem lv_wait {l : Ln} {cs : List Cd} (h : (!l.waits || (decide (0 < l.pc) && ((codeAt cs (l.pc - 1)).op == 10))) = false) : lValid l cs = false := by
  simp only [lValid, h, Bool.and_false]
theorem lv_all {l : Ln} {cs : List Cd} (h1 : pValid cs = true) (h2 : l.regs.length = 4) (h3 : inB l.pc 0 cs.length = true) (h4 : fourW l.regs = true) (h5 : TOK cs l.turns (loopsAt cs l.pc.toNat)) :
    lValid l cs = (!l.waits || (decide (0 < l.pc) && ((codeAt cs (l.pc - 1)).op == 10))) := by
  unfold lValid
  rw [h1, decide_eq_true h2, h3, h4, (turnsB_iff _ _ _).2 h5]
  simp only [Bool.true_and]
theorem four_no {r : List Int} {j : Nat} {x : Int} (hx : r[j]? = some x) (h : inB x 0 255 = false) : fourW r = false := by
  cases h2 : fourW r
  · rfl
  · unfold fourW at h2
    rw [List.all_eq_true] at h2
    rw [h2 x (List.mem_of_getElem? hx)] at h; cases h
theorem four_yes {r : List Int} (h : ∀ j x, j < r.length → r[j]? = some x → inB x 0 255 = true) : fourW r = true := by
  unfold fourW
  rw [List.all_eq_true]
  intro x hx
  obtain ⟨j, hj⟩ := List.mem_iff_getElem?.1 hx
  exact h j x (List.getElem?_eq_some_iff.1 hj).1 hj
theorem four_any (r : List Int) : fourW r = !(r.any fun x => !inB x 0 255) := by
  unfold fourW; rw [List.not_any_eq_all_not]; simp
theorem all_more {P : Nat → Prop} {k : Nat} (h : ∀ j, j < k → P j) (hk : P k) : ∀ j, j < k + 1 → P j := by
  intro j hj
  by_cases e : j = k
  · subst e; exact hk
  · exact h j (by omega)
/-- The instruction of a loop. -/
theorem loop_code {cs : List Cd} {k : Nat} {s : List Fr} (hI : Inv cs k s) {i p : Nat} (h : (loopsOf s)[i]? = some p) : ∃ c, cs[p]? = some c ∧ bAt cs p = c.b := by
  have hm := List.mem_of_getElem? h
  unfold loopsOf at hm
  obtain ⟨f, hf, rfl⟩ := List.mem_map.1 (List.mem_reverse.1 hm)
  obtain ⟨j, hj⟩ := List.mem_iff_getElem?.1 (List.mem_filter.1 hf).1
  obtain ⟨_, c, hc, _⟩ := hI.code j f hj
  exact ⟨c, hc, by unfold bAt; rw [codeAt_nat hc]⟩
/-- The turns are as they must be up to place k. -/
def TUp (cs : List Cd) (ts : List Int) (ps : List Nat) (k : Nat) : Prop := ∀ (i : Nat) (t : Int) (p : Nat), i < k → ts[i]? = some t → ps[i]? = some p → 0 ≤ t ∧ t ≤ bAt cs p - 1
theorem TUp.zero (cs : List Cd) (ts : List Int) (ps : List Nat) : TUp cs ts ps 0 := fun i t p h => absurd h (Nat.not_lt_zero i)
theorem TUp.succ {cs : List Cd} {ts : List Int} {ps : List Nat} {k : Nat} (h : TUp cs ts ps k) {t : Int} {p : Nat} (ht : ts[k]? = some t) (hp : ps[k]? = some p) (hb : 0 ≤ t ∧ t ≤ bAt cs p - 1) : TUp cs ts ps (k + 1) := by
  intro i t' p' hi h1 h2
  by_cases e : i = k
  · subst e; rw [ht] at h1; rw [hp] at h2; cases h1; cases h2; exact hb
  · exact h i t' p' (by omega) h1 h2
theorem TUp.all {cs : List Cd} {ts : List Int} {ps : List Nat} (hl : ts.length = ps.length) (h : TUp cs ts ps ts.length) : TOK cs ts ps :=
  ⟨hl, fun i t p h1 h2 => h i t p (List.getElem?_eq_some_iff.1 h1).1 h1 h2⟩
theorem TOK.not_at {cs : List Cd} {ts : List Int} {ps : List Nat} {k : Nat} {t : Int} {p : Nat} (ht : ts[k]? = some t) (hp : ps[k]? = some p) (hb : ¬ (0 ≤ t ∧ t ≤ bAt cs p - 1)) : ¬ TOK cs ts ps :=
  fun h => hb (h.2 k t p ht hp)
set_option maxRecDepth 100000 in
set_option maxHeartbeats 8000000 in
theorem specLaneValid (r t lv : Value) (l : Ln) (cs : List Cd) (w : World) (hr : RdI .i64 w r l.regs) (ht : RdI .i64 w t l.turns) (h : RdC w lv cs) : Calls Try.prog 6 #[.agg #[r, .int .i64 l.pc, t, .bool l.waits], lv] w fun e w' => e = .returned (.bool (lValid l cs)) ∧ Below w.heap.size w w' := by
  have hb0 : Below w.heap.size w (w.alloc (.cells #[r, .int .i64 l.pc, t, .bool l.waits] 25)) := (Below.refl _ _).alloc (Nat.le_refl _) _
  have HPV := Lib.hid (specProgramValid lv cs _ (h.below hb0 (Nat.le_refl _)))
  have hX0 := Box4.new w r (.int .i64 l.pc) t (.bool l.waits) 25
  have HR := Lib.hid h
  obtain ⟨a, n, b, off, rfl, hlc, hm, hb, hcell⟩ := h.opened
  obtain ⟨ra, rn, rb, ro, rfl, hrl, hrm, hrb, hrc⟩ := hr.opened
  obtain ⟨ta, tn, tb, to, rfl, htl, htm, htb, htc⟩ := ht.opened
  cases hpv : pValid cs
  · have HN := Lib.hid (lv_pv (l := l) hpv)
    rw [hpv] at HPV
    clear hpv hX0
    go_enter Try.func6, Try.ntmps6
    go_wp2_with fail
    refine HPV.out.mono ?_
    rintro e w1 ⟨rfl, hb1⟩
    have hB1 := hb0.trans (hb1.mono hb0.size)
    go_wp2
    go_ret
    exact ⟨by rw [HN.out]; rfl, hB1⟩
  have HV := Lib.hid hpv
  rw [hpv] at HPV
  clear hpv
  by_cases h4 : l.regs.length = 4
  rotate_left
  · have HN := Lib.hid (lv_len (l := l) (cs := cs) h4)
    have o1 : ((l.regs.length : Int) != 4) = true := by rw [bne_iff_ne]; omega
    go_enter Try.func6, Try.ntmps6
    go_wp2_with fail
    refine HPV.out.mono ?_
    rintro e w1 ⟨rfl, hb1⟩
    have hB1 := hb0.trans (hb1.mono hb0.size)
    obtain ⟨x0, x1, x2, x3, x4⟩ := hX0.below hb1 (Nat.le_refl _)
    go_wp2
    go_ret
    exact ⟨by rw [HN.out]; rfl, hB1⟩
  have o1 : ((l.regs.length : Int) != 4) = false := by rw [bne_eq_false_iff_eq]; omega
  cases hpc : inB l.pc 0 cs.length
  · have HN := Lib.hid (lv_pc (l := l) (cs := cs) hpc)
    clear h4
    go_enter Try.func6, Try.ntmps6
    go_wp2_with fail
    refine HPV.out.mono ?_
    rintro e w1 ⟨rfl, hb1⟩
    have hB1 := hb0.trans (hb1.mono hb0.size)
    obtain ⟨x0, x1, x2, x3, x4⟩ := hX0.below hb1 (Nat.le_refl _)
    go_wp2_with (go_at_call 17; refine (l1In_any _ _ _ _).mono ?_; rintro e w' ⟨rfl, rfl⟩)
    go_ret
    exact ⟨by rw [HN.out]; rfl, hB1⟩
  have HPC := Lib.hid hpc
  have H4 := Lib.hid h4
  have hpcb := inB_i hpc
  have hrlen : 4 ≤ l.regs.length := by omega
  clear h4
  go_enter Try.func6, Try.ntmps6
  go_wp2_with fail
  refine HPV.out.mono ?_
  rintro e w1 ⟨rfl, hb1⟩
  have hB1 := hb0.trans (hb1.mono hb0.size)
  have hX1 := hX0.below hb1 (Nat.le_refl _)
  obtain ⟨x0, x1, x2, x3, x4⟩ := id hX1
  clear hX0
  go_wp2_with (go_at_call 17; refine (l1In_any _ _ _ _).mono ?_; rintro e w' ⟨rfl, rfl⟩)
  go_loopg [5] 4 (fun g i wr => ∃ k : Nat, k + g = 4 ∧ i = .int .i64 k ∧ (∀ j, j < k → ∀ x, l.regs[j]? = some x → inB x 0 255 = true) ∧ wr = w1)
  case atStart => exact ⟨0, by omega, rfl, fun j hj => absurd hj (Nat.not_lt_zero j), rfl⟩
  case round =>
    obtain ⟨k, hk, rfl, hall, rfl⟩ := hrel
    have HAL := Lib.hid hall
    clear hall
    by_cases hlt : k < 4
    · obtain ⟨x, hx⟩ := get_lt (show k < l.regs.length by omega)
      obtain ⟨rfl, q0⟩ := hrc.get hrb hB1 hx
      have HX := Lib.hid hx
      clear hrb hx
      cases hxv : inB x 0 255
      · have HN := Lib.hid (lv_reg (cs := cs) (four_no HX.out hxv))
        go_wp2_with (go_at_call 18; refine (l2Word_any _ _).mono ?_; rintro e w' ⟨rfl, rfl⟩)
        go_ret
        exact ⟨by rw [HN.out]; rfl, hB1⟩
      · have HA2 := Lib.hid (all_more HAL.out (fun y hy => by rw [HX.out] at hy; rw [← Option.some.inj hy]; exact hxv))
        go_wp2_with (go_at_call 18; refine (l2Word_any _ _).mono ?_; rintro e w' ⟨rfl, rfl⟩)
        go_roundg (4 - (k + 1))
        case measure => omega
        case rel => exact ⟨k + 1, by omega, by go_num, HA2.out, rfl⟩
    · obtain rfl : k = 4 := by omega
      have H5 := Lib.hid (four_yes (r := l.regs) (fun j x hj hx => HAL.out j (by have := H4.out; omega) x hx))
      obtain ⟨q, hq⟩ : ∃ q : Nat, l.pc = q := ⟨l.pc.toNat, by omega⟩
      have hql : q ≤ cs.length := by omega
      obtain ⟨s, hs, hI⟩ := pValid_stk HV.out hql
      have HI := Lib.hid hI
      have hR1 := HR.out.below hB1 (Nat.le_refl _)
      have HCT := Lib.hid (l6Loops_any _ cs q wr hR1 hql hs)
      have HLA : Hid (loopsAt cs l.pc.toNat = loopsOf s) := Lib.hid (by rw [hq, Int.toNat_natCast]; exact loopsAt_eq hs)
      have hll : (loopsI s).length = (loopsOf s).length := by simp [loopsI]
      have hl3 := loops_len hI.deep
      have HQ := Lib.hid hq
      rw [hq] at x1
      clear hs hI hR1 hk hlt HAL
      go_wp2_with fail
      refine HCT.out.mono ?_
      rintro e w2 ⟨v6, rfl, ho6, hb2⟩
      have hX2 := hX1.below hb2 (Nat.le_refl _)
      have hB2 := hB1.trans (hb2.mono hB1.size)
      obtain ⟨a6, n6, b6, o6, hv6, _, hm6, hb6, hc6⟩ := (rdI_of_owns ho6 (fun x hx => by
        obtain ⟨p, hp, rfl⟩ := List.mem_map.1 hx
        obtain ⟨i, hi⟩ := List.mem_iff_getElem?.1 hp
        obtain ⟨c, hc, _⟩ := loop_code HI.out hi
        have := (List.getElem?_eq_some_iff.1 hc).1
        exact WalkArith.wf_i64 (by omega))).opened
      subst hv6
      clear x0 x1 x2 x3 x4 hX1 ho6 hb2 HCT
      obtain ⟨x0, x1, x2, x3, x4⟩ := id hX2
      rw [hll]
      by_cases hlen : (loopsOf s).length = l.turns.length
      rotate_left
      · have o2 : (((loopsOf s).length : Int) != (l.turns.length : Int)) = true := by rw [bne_iff_ne]; omega
        have HN := Lib.hid (lv_turns (l := l) (cs := cs) (fun hh => hlen (by have := hh.1; rw [HLA.out] at this; exact this.symm)))
        clear hlen
        go_wp2
        go_ret
        exact ⟨by rw [HN.out]; rfl, hB2⟩
      have HLE := Lib.hid hlen
      have o2 : (((loopsOf s).length : Int) != (l.turns.length : Int)) = false := by rw [bne_eq_false_iff_eq]; omega
      have htl3 : l.turns.length ≤ 3 := by omega
      have hge : (loopsOf s).length ≤ l.turns.length := by omega
      have hge2 : l.turns.length ≤ (loopsOf s).length := by omega
      clear hlen hll
      go_wp2_with fail
      go_loopg [7] l.turns.length (fun g i wr => ∃ k : Nat, k + g = l.turns.length ∧ i = .int .i64 k ∧ TUp cs l.turns (loopsOf s) k ∧ Below w2.heap.size w2 wr)
      case atStart => exact ⟨0, by omega, rfl, TUp.zero _ _ _, Below.refl _ _⟩
      case round =>
        clear x0 x1 x2 x3 x4
        obtain ⟨k, hk, rfl, hup, hbl⟩ := hrel
        have HUP := Lib.hid hup
        obtain ⟨x0, x1, x2, x3, x4⟩ := hX2.below hbl (Nat.le_refl _)
        have hB3 := hB2.trans (hbl.mono hB2.size)
        clear hup
        by_cases hlt : k < l.turns.length
        · obtain ⟨tv, htv⟩ := get_lt hlt
          obtain ⟨pk, hpk⟩ := get_lt (show k < (loopsOf s).length by omega)
          obtain ⟨c, hc, hcb⟩ := loop_code HI.out hpk
          obtain ⟨rfl, q1⟩ := htc.get htb hB3 htv
          have hpi : (loopsI s)[k]? = some (pk : Int) := by unfold loopsI; rw [List.getElem?_map, hpk]; rfl
          obtain ⟨rfl, q2⟩ := hc6.get hb6 hbl hpi
          obtain ⟨hblt, ha⟩ := hb (ne_of_get hc)
          obtain ⟨e0, e1, e2, e3⟩ := hcell.get hb hB3 hc
          subst ha
          have hcv := cValid_bd (pValid_code HV.out hc)
          have hb0x := hcv.2.2.2.2.1
          have hb1x := hcv.2.2.2.2.2.1
          have hpl := (List.getElem?_eq_some_iff.1 hc).1
          have hklen : k < (loopsOf s).length := by omega
          have HTV := Lib.hid htv
          have HPK := Lib.hid hpk
          have HCB := Lib.hid hcb
          have hkk : (k : Int) < (l.turns.length : Int) := by omega
          have hkk2 : (k : Int) < ((loopsOf s).length : Int) := by omega
          have hpll : (pk : Int) < (cs.length : Int) := by omega
          clear hb htb hb6 hc htv hpk hpi hcv hcb
          cases hin : inB tv 0 (c.b - 1)
          · have HN := Lib.hid (lv_turns (l := l) (cs := cs) (by rw [HLA.out]; exact TOK.not_at HTV.out HPK.out (by rw [HCB.out]; exact inB_n hin)))
            go_wp2_with fail
            go_quiet ((go_at_call 17; exact Calls.quiet_of_same ((l1In_any _ _ _ _).mono fun _ _ ⟨h1, h2⟩ => ⟨h1, h2.symm⟩)))
            go_wp2
            go_ret
            exact ⟨by rw [HN.out]; rfl, below_dn hB3 _⟩
          · have HU2 := Lib.hid (HUP.out.succ HTV.out HPK.out (by rw [HCB.out]; exact inB_i hin))
            go_wp2_with fail
            go_quiet ((go_at_call 17; exact Calls.quiet_of_same ((l1In_any _ _ _ _).mono fun _ _ ⟨h1, h2⟩ => ⟨h1, h2.symm⟩)))
            go_wp2
            go_roundg (l.turns.length - (k + 1))
            case measure => omega
            case rel => exact ⟨k + 1, by omega, by go_num, HU2.out, below_dn hbl _⟩
        · obtain rfl : k = l.turns.length := by omega
          have HF := Lib.hid (lv_all HV.out H4.out HPC.out H5.out (by rw [HLA.out]; exact TUp.all HLE.out.symm HUP.out))
          clear hk hlt
          cases hwt : l.waits
          · rw [hwt] at HF x3
            clear hwt
            go_wp2
            go_ret
            exact ⟨by rw [HF.out]; rfl, hB3⟩
          · rw [hwt] at HF x3
            clear hwt
            by_cases hq0 : 0 < q
            · obtain ⟨q', rfl⟩ : ∃ q', q = q' + 1 := ⟨q - 1, by omega⟩
              obtain ⟨c, hc⟩ := get_lt (show q' < cs.length by omega)
              obtain ⟨hblt, ha⟩ := hb (ne_of_get hc)
              obtain ⟨e0, e1, e2, e3⟩ := hcell.get hb hB3 hc
              subst ha
              have hco : codeAt cs (l.pc - 1) = c := by
                rw [HQ.out, show ((q' + 1 : Nat) : Int) - 1 = (q' : Int) by omega]; exact codeAt_nat hc
              have HF2 : Hid (lValid l cs = (c.op == 10)) := Lib.hid (by rw [HF.out, hco, decide_eq_true (by rw [HQ.out]; omega)]; simp)
              have hq1 : ((q' + 1 : Nat) : Int) - 1 = (q' : Int) := by omega
              have hqp : (0 : Int) < ((q' + 1 : Nat) : Int) := by omega
              clear hb hc hco
              go_wp2
              go_ret
              exact ⟨by rw [HF2.out]; rfl, hB3⟩
            · obtain rfl : q = 0 := by omega
              have HF2 : Hid (lValid l cs = false) := Lib.hid (by rw [HF.out, decide_eq_false (by rw [HQ.out]; omega)]; rfl)
              go_wp2
              go_ret
              exact ⟨by rw [HF2.out]; rfl, hB3⟩
end Go.Proofs.Ythhdffgfldphlaa
