/- YtmjkjdibolcblaaMachG: the program goes on at an OpEnd. Conditions: the program is valid, the lane fits it. -/
import Derived.Test.YtmjkjdibolcblaaMachF
namespace Go.Proofs.Ytmjkjdibolcblaa
open Go.ChangeShapes Go.WideShapes Go.ChangeAt Go.RowKit
set_option linter.unusedVariables false
set_option maxRecDepth 100000 in
set_option maxHeartbeats 16000000 in
theorem leave_any (w0 : World) (b lo m X gm cm : Nat) (la : Option Addr) (ln : Nat) (r t : Value) (rs ts ms : List Int) (q : Nat) (d : Cd) (cs : List Cd) (id : Int) (wr : World) (hc : RdC w0 (.slice la cs.length ln) cs) (hp : pValid cs = true) (hk : LOK cs ⟨rs, q, ts, false⟩) (hd : cs[q]? = some d) (ho : d.op = 14)
    (h : RI w0 b lo m X gm cm (.slice la cs.length ln) r t ⟨rs, q, ts, false⟩ ms cs wr) :
    Calls Try.prog 70 #[.pointer (some ⟨m, 0, none⟩), .pointer (some ⟨X, 0, none⟩)] wr (StI w0 b lo m X gm cm (.slice la cs.length ln) r cs (lstep cs id ⟨rs, q, ts, false⟩ ms).1 ms) := by
  obtain ⟨p0, c0, har, hp0, hcc, hco⟩ := around_in hp hd (Or.inr ho)
  obtain ⟨O, P, m0, m1, hO, b0, _, _, lO, lP, _, _, loP, Pm, _⟩ := h.mach.own hd p0 ⟨c0, hcc, hco⟩ (.inr ⟨.inr ho, har⟩)
  have hlm := h.mach.lt.2
  have hc1 := hc.below h.kB (by rw [h.wb]; exact Nat.le_refl _)
  have hql : q < cs.length := (List.getElem?_eq_some_iff.1 hd).1
  have hpl : p0 < cs.length := (List.getElem?_eq_some_iff.1 hcc).1
  have h40 := pValid_len hp
  obtain ⟨la', ln', lb, lo', hlv, hln1, hln2, hlb, hcell⟩ := hc1.form
  obtain ⟨rfl, d0, d1, d2, d3⟩ := hcell p0 c0 hcc
  simp only [Value.slice.injEq, true_and] at hlv
  obtain ⟨rfl, rfl⟩ := hlv
  have hlb1 : lb < wr.heap.size := hlb (by rintro rfl; simp at hql)
  clear hcell hc1 hlb
  have hrl : rs.length = 4 := hk.len
  have htl : ts.length ≤ 3 := by
    have h1 : ts.length = (loopsAt cs ((q : Int)).toNat).length := hk.turns.1
    have h2 : (loopsAt cs ((q : Int)).toNat).length ≤ 3 := by
      obtain ⟨s, hs, hI⟩ := pValid_stk hp (show ((q : Int)).toNat ≤ cs.length by omega)
      rw [loopsAt_eq hs]; exact loops_len hI.deep
    omega
  have htl13 : c0.op = 13 → 1 ≤ ts.length ∧ 0 ≤ rg ts (ts.length - 1 : Int) ∧ rg ts (ts.length - 1 : Int) ≤ 3 := fun hh => turn_last (d := c0) hp hk hql har hcc hh
  obtain ⟨gr, rc, hrv, orr, hrc1, hrc2⟩ := OI.shape h.nr (by show 0 < rs.length; omega)
  obtain ⟨ta, tc, htv⟩ := own_shape h.nt
  subst hrv htv
  have v0 := cValid_bd (pValid_code hp hcc)
  obtain ⟨op, dA, dB, dC⟩ := c0
  simp only at d0 d1 d2 d3 hco v0 htl13
  obtain ⟨A, rfl⟩ : ∃ n : Nat, dA = n := ⟨dA.toNat, by omega⟩
  have hA4 : A < rs.length := by omega
  have hAl : (A : Int) < rs.length := by omega
  have hL := congrArg Prod.fst (lstep_end (id := id) (rs := rs) (ts := ts) (ms := ms) hd ho)
  rw [har, codeAt_nat hcc] at hL
  simp only at hL
  generalize (lstep cs id ⟨rs, q, ts, false⟩ ms).1 = L at *
  obtain ⟨W1, hW1⟩ : ∃ W1, W1 = wr.drew := ⟨_, rfl⟩
  have hb1 : Below wr.heap.size wr W1 := by rw [hW1]; exact (Below.refl _ _).drew
  have hz1 := hb1.size
  obtain ⟨W, hW⟩ : ∃ W, W = (W1.alloc (.cells #[.int .i64 op, .int .i64 A, .int .i64 dB, .int .i64 dC] 24)).drew := ⟨_, rfl⟩
  obtain ⟨Y, hY⟩ : ∃ Y, W1.heap.size = Y := ⟨_, rfl⟩
  have hb2 : Below W1.heap.size W1 W := by rw [hW]; exact (below_alloc W1 _).drew
  have hBx : Box4 W Y (.int .i64 op) (.int .i64 A) (.int .i64 dB) (.int .i64 dC) := by
    have hx := Box4.new W1 (.int .i64 op) (.int .i64 A) (.int .i64 dB) (.int .i64 dC) 24
    rw [hY] at hx
    rw [hW]; exact ⟨hx.at0, hx.at1, hx.at2, hx.at3, hx.lt⟩
  have hb := hb1.trans (hb2.mono hz1)
  have HS := Lib.hid (h.below hb)
  have HL := Lib.hid hL
  have HRL := Lib.hid hrl
  have B0 := Lib.hid ((hb.cell (p := ⟨P, 0, none⟩) lP).trans b0)
  have HBX := Lib.hid hBx
  have HW := Lib.hid hW
  have HW1 := Lib.hid hW1
  have HY := Lib.hid hY
  have HT := Lib.hid htl13
  have M0 := Lib.hid ((hb1.cell (p := ⟨m, 0, none⟩) hlm).trans m0)
  have B1 := Lib.hid ((hb1.cell (p := ⟨P, 0, none⟩) lP).trans b0)
  have D0 := Lib.hid ((hb1.cell (p := ⟨lb, lo' + p0 * 4, none⟩) hlb1).trans d0)
  have D1 := Lib.hid ((hb1.cell (p := ⟨lb, lo' + p0 * 4 + 1, none⟩) hlb1).trans d1)
  have D2 := Lib.hid ((hb1.cell (p := ⟨lb, lo' + p0 * 4 + 2, none⟩) hlb1).trans d2)
  have D3 := Lib.hid ((hb1.cell (p := ⟨lb, lo' + p0 * 4 + 3, none⟩) hlb1).trans d3)
  have kX := h.kX
  obtain ⟨x0, x1, x2, x3, x4⟩ := kX
  simp only at x0 x1 x2 x3
  have hYX : ¬ Y = X := by have := h.kX.lt; omega
  clear h hc hk hd hcc hW hW1 hb hb1 hb2 hBx hL hrl orr hY htl13 d0 d1 d2 d3 m0 b0 har v0
  have kP : P < W1.heap.size := by omega
  have kb : lb < W1.heap.size := by omega
  have km : m < W1.heap.size := by omega
  go_enter Try.func70, Try.ntmps70
  go_wp2
  go_region
  go_wp2_with fail
  rw [← HW1.out]
  clear m1 hO x0 x1 x2 x3 x4
  have m0 := M0.out
  have b0 := B1.out
  have d0 := D0.out
  have d1 := D1.out
  have d2 := D2.out
  have d3 := D3.out
  go_region
  go_upto_region 2 with fail
  rw [← HW.out, HY.out]
  clear m0 b0 d0 d1 d2 d3
  obtain ⟨x0, x1, x2, x3, x4⟩ := HS.out.kX
  obtain ⟨y0, y1, y2, y3, y4⟩ := HBX.out
  have f1 := HS.out.fX 1
  simp only at x0 x1 x2 x3
  have hS2 := HS.out.cells (pc := q + 1) (wt := false) (Wr_set0 W X 1 _) (HS.out.kX.s1 _) (fun o => by simp; exact HS.out.fX o)
  simp only at hS2
  have HE := HL.out
  clear HL
  by_cases h13 : op = 13
  · subst h13
    obtain ⟨ht1, ht2, ht3⟩ := HT.out rfl
    obtain ⟨n, hn⟩ : ∃ n, ts.length = n + 1 := ⟨ts.length - 1, by omega⟩
    have hni : (ts.length : Int) - 1 = (n : Int) := by omega
    have hnn : ts.length - 1 = n := by omega
    have hnl : n < ts.length := by omega
    have hnli : (n : Int) < ts.length := by omega
    rw [if_pos rfl, hni, hnn] at HE
    rw [hni] at ht2 ht3
    obtain ⟨g2, hg2, _, oi2, hcc2, hcc3⟩ := OwI.ne HS.out.nt (by show 0 < ts.length; omega)
    subst hg2
    obtain ⟨W2, hW2⟩ : ∃ W2, W2 = W.setCell ⟨X, 1, none⟩ (.int .i64 (q + 1)) := ⟨_, rfl⟩
    rw [← hW2] at hS2
    have hBX2 := HBX.out.wr (hW2 ▸ Wr_set0 W X 1 (.int .i64 (q + 1))) hYX
    have b2 : W2.cell? ⟨P, 0, none⟩ = some (.int .i64 p0) := by rw [hW2, World.cell?_setCell_other _ _ _ _ (by simp)]; exact B0.out
    have hr2 := (OI.mk hS2.nr).get (i := A) hA4
    have ht4 := (OI.mk hS2.nt).get (i := n) hnl
    have HS2 := Lib.hid hS2
    have HW2 := Lib.hid hW2
    have HN := Lib.hid hni
    clear hS2 hW2 hn hnn hni HT
    generalize rg ts (n : Int) = T at *
    generalize rg rs (A : Int) = x at *
    have HHE := Lib.hid HE
    clear HE
    go_upto_region 5 with fail
    rw [← HW2.out, HN.out]
    clear x0 x1 x2 x3 x4 y0 y1 y2 y3 y4 f1
    have ft := (OI.mk HS2.out.nt).frz n
    obtain ⟨x0, x1, x2, x3, x4⟩ := HS2.out.kX
    obtain ⟨y0, y1, y2, y3, y4⟩ := hBX2
    have f1 := HS2.out.fX 1
    have f2 := HS2.out.fX 2
    have hgX : ¬ g2 = X := (HS2.out.xt g2 rfl).1
    have hgP : ¬ g2 = P := by have := (HS2.out.xt g2 rfl).2.2; omega
    clear loP Pm lO lP hlb1 hql hln1 hln2 hp0 hlm hz1 hrc1 hrc2 hp hco kP kb km hYX oi2 ht1
    simp only at x0 x1 x2 x3
    by_cases hx : x = 0
    · have e := HHE.out
      rw [if_neg (by rw [hx]; simp)] at e
      subst hx e
      clear HHE
      go_quiet (fail)
      go_wp2
      go_end0
      exact ⟨rfl, _, (HS2.out.below (below_drewN (Below.refl _ _) _)).drop (n := n) rfl (Nat.le_of_lt hnl)⟩
    · have hxb : (x == 0) = false := by simpa using hx
      by_cases hT : 0 < T
      · have e := HHE.out
        rw [if_pos ⟨hT, hx⟩] at e
        subst e
        clear HHE
        go_quiet (fail)
        go_wp2
        go_end0
        exact ⟨rfl, _, (HS2.out.below (below_drewN (Below.refl _ _) _)).turn rfl n (T - 1) (p0 + 1)⟩
      · have e := HHE.out
        rw [if_neg (fun h => hT h.1)] at e
        have hTb : decide (0 < T) = false := by simpa using hT
        subst e
        clear HHE
        go_quiet (fail)
        go_wp2
        go_end0
        exact ⟨rfl, _, (HS2.out.below (below_drewN (Below.refl _ _) _)).drop (n := n) rfl (Nat.le_of_lt hnl)⟩
  · rw [if_neg h13] at HE
    subst HE
    have hob : (op == 13) = false := by simpa using h13
    have HS2 := Lib.hid hS2
    clear hS2
    go_wp2
    go_end0
    exact ⟨rfl, _, HS2.out⟩
end Go.Proofs.Ytmjkjdibolcblaa
