/- YtmjkjdibolcblaaFCodeStepsZ: a step of the program's machine. Conditions: the program is valid, the lane and the memory fit it. the program's StepLane: what it returns, in new memory. Conditions: the numbers of the arguments are integers of 64 bits. two equal lists of numbers are found equal; and appending one list of the call's own to another. No conditions but on the lengths. two equal lanes are found equal. No conditions. the fixed answer that the laws check. No conditions. the draws of lanes from bytes: a lane, a program, a number and a memory, far within 64 bits, in new memory. No conditions. A lane that executes an instruction that is neither OpBarrier nor part of the structure goes on with the next one and waits for nothing. No conditions. -/
import Derived.Test.YtmjkjdibolcblaaMachG
import Derived.StillTailTactics
import Derived.Test.YtmjkjdibolcblaaMemI
import Derived.Laws.AppendOwnNone
import Derived.Deep.RegionLaw
import Derived.Test.YtmjkjdibolcblaaLane0
import Derived.Test.YtmjkjdibolcblaaWords
import Derived.Test.YtmjkjdibolcblaaDrawN
namespace Go.Proofs.Ytmjkjdibolcblaa
open Go.ChangeShapes Go.WideShapes Go.ChangeAt Go.RowKit
set_option linter.unusedVariables false
set_option maxRecDepth 100000 in
set_option maxHeartbeats 4000000 in
theorem step_stop (w0 : World) (b lo m X gm cm : Nat) (la : Option Addr) (ln : Nat) (r t : Value) (rs ts ms : List Int) (pc : Int) (wt : Bool) (cs : List Cd) (id : Int) (wr : World) (hln : cs.length ≤ ln ∧ ln ≤ 9223372036854775807) (hs : (wt || (pc == cs.length)) = true)
    (h : RI w0 b lo m X gm cm (.slice la cs.length ln) r t ⟨rs, pc, ts, wt⟩ ms cs wr) :
    Calls Try.prog 48 #[.pointer (some ⟨m, 0, none⟩), .pointer (some ⟨X, 0, none⟩), .int .i64 id, .slice (some ⟨gm, 0, none⟩) ms.length cm] wr (StI w0 b lo m X gm cm (.slice la cs.length ln) r cs ⟨rs, pc, ts, wt⟩ ms) := by
  have HD := Lib.hid (isDone_any cs wr lo m X la ln r t pc wt h.mach h.kX hln)
  have HH := Lib.hid h
  have HS := Lib.hid hs
  obtain ⟨x0, x1, x2, x3, x4⟩ := h.kX
  simp only at x3
  clear h hs
  cases wt
  · have hp := HS.out
    rw [Bool.false_or] at hp
    have HP := Lib.hid hp
    clear hp
    go_enter Try.func48, Try.ntmps48
    go_wp2_with fail
    refine HD.out.mono ?_
    rintro e w1 ⟨rfl, hb1⟩
    rw [HP.out]
    go_wp2
    go_end0
    exact ⟨rfl, _, HH.out.below hb1⟩
  · go_enter Try.func48, Try.ntmps48
    go_wp2
    go_end0
    exact ⟨rfl, _, HH.out⟩
set_option maxRecDepth 100000 in
set_option maxHeartbeats 16000000 in
theorem step_go (w0 : World) (b lo m X gm cm : Nat) (la : Option Addr) (ln : Nat) (r t : Value) (rs ts ms : List Int) (q : Nat) (cs : List Cd) (id : Int) (wr : World) (hc : RdC w0 (.slice la cs.length ln) cs) (hp : pValid cs = true) (hk : LOK cs ⟨rs, q, ts, false⟩) (hm : MOK ms) (hid : 0 ≤ id ∧ id ≤ 7) (hql : q < cs.length)
    (h : RI w0 b lo m X gm cm (.slice la cs.length ln) r t ⟨rs, q, ts, false⟩ ms cs wr) :
    Calls Try.prog 48 #[.pointer (some ⟨m, 0, none⟩), .pointer (some ⟨X, 0, none⟩), .int .i64 id, .slice (some ⟨gm, 0, none⟩) ms.length cm] wr (StI w0 b lo m X gm cm (.slice la cs.length ln) r cs (lstep cs id ⟨rs, q, ts, false⟩ ms).1 (lstep cs id ⟨rs, q, ts, false⟩ ms).2) := by
  obtain ⟨d, hd⟩ := get_lt hql
  have h40 := pValid_len hp
  have hcv := pValid_code hp hd
  have hln : cs.length ≤ ln ∧ ln ≤ 9223372036854775807 := by
    obtain ⟨la', ln', hlv, h1, h2⟩ := hc.shape
    simp only [Value.slice.injEq, true_and] at hlv
    obtain ⟨rfl, rfl⟩ := hlv
    exact ⟨h1, h2⟩
  have HD := Lib.hid (isDone_any cs wr lo m X la ln r t q false h.mach h.kX hln)
  have hrl : rs.length = 4 := hk.len
  obtain ⟨gr, rc, hrv, orr, hrc1, hrc2⟩ := OI.shape h.nr (by show 0 < rs.length; omega)
  subst hrv
  obtain ⟨ta, tc, htv⟩ := own_shape h.nt
  subst htv
  have hqe : ((q : Int) == (cs.length : Int)) = false := by simp; omega
  obtain ⟨v1, v2, v3, v4, v5, v6, v7, v8, v9, v10⟩ := cValid_bd hcv
  obtain ⟨L, hL⟩ : ∃ L, lstep cs id ⟨rs, q, ts, false⟩ ms = L := ⟨_, rfl⟩
  rw [hL]
  have HL := Lib.hid hL
  have HC := Lib.hid hc
  have HK := Lib.hid hk
  have HM := Lib.hid hm
  have HH := Lib.hid h
  have HQ := Lib.hid hqe
  have HCV := Lib.hid hcv
  have HDD := Lib.hid hd
  have HRL := Lib.hid hrl
  have hll := hln
  obtain ⟨x0, x1, x2, x3, x4⟩ := h.kX
  simp only at x3
  clear h hc hk hm hL hqe hcv hd hrl orr x0 x1 x2 hln
  go_enter Try.func48, Try.ntmps48
  go_wp2_with fail
  refine HD.out.mono ?_
  rintro e w1 ⟨rfl, hb1⟩
  rw [HQ.out]
  have HS1 := Lib.hid (HH.out.below hb1)
  clear hb1 HD HH x3 x4
  -- the instruction into a box
  have hc1 := HC.out.below HS1.out.kB (by rw [HS1.out.wb]; exact Nat.le_refl _)
  obtain ⟨la', ln', lb, lo', hlv, hln1, hln2, hlb, hcell⟩ := hc1.form
  obtain ⟨rfl, d0, d1, d2, d3⟩ := hcell q d HDD.out
  simp only [Value.slice.injEq, true_and] at hlv
  obtain ⟨rfl, rfl⟩ := hlv
  have hlb1 : lb < w1.heap.size := hlb (by rintro rfl; simp at hql)
  obtain ⟨op, dA, dB, dC⟩ := d
  simp only at d0 d1 d2 d3 v1 v2
  obtain ⟨hi, va, vo, _, _, _, hml, m0, m1⟩ := HS1.out.mach
  obtain ⟨x0, x1, x2, x3, x4⟩ := HS1.out.kX
  simp only at x0 x1 x2 x3
  obtain ⟨W, hW⟩ : ∃ W, W = (w1.alloc (.cells #[.int .i64 op, .int .i64 dA, .int .i64 dB, .int .i64 dC] 24)).drew := ⟨_, rfl⟩
  obtain ⟨Y, hY⟩ : ∃ Y, w1.heap.size = Y := ⟨_, rfl⟩
  have hb2 : Below w1.heap.size w1 W := by rw [hW]; exact (below_alloc w1 _).drew
  have hBx : Box4 W Y (.int .i64 op) (.int .i64 dA) (.int .i64 dB) (.int .i64 dC) := by
    have hx := Box4.new w1 (.int .i64 op) (.int .i64 dA) (.int .i64 dB) (.int .i64 dC) 24
    rw [hY] at hx
    rw [hW]; exact ⟨hx.at0, hx.at1, hx.at2, hx.at3, hx.lt⟩
  have HS := Lib.hid (HS1.out.below hb2)
  have HBX := Lib.hid hBx
  have HW := Lib.hid hW
  have HY := Lib.hid hY
  clear hcell hc1 hlb hW hY hb2 hBx m1 v3 v4 v5 v6 v7 v8 v9 v10 hrc1 hrc2
  go_wp2_with fail
  go_region
  go_upto_region 2 with fail
  rw [← HW.out, HY.out]
  have HG : Hid (m < Y ∧ gr < Y) := Lib.hid (by
    have h1 := own_lt HS1.out.nr gr rfl
    have h2 := HS1.out.mach.lt
    rw [HY.out] at h1 h2
    exact ⟨h2.2, h1⟩)
  clear m0 d0 d1 d2 d3 x0 x1 x2 x3 x4 hml hlb1 hll hln1 hln2 HS1
  obtain ⟨y0, y1, y2, y3, y4⟩ := HBX.out
  as_aux_lemma =>
    rcases (show op ≤ 10 ∨ op = 11 ∨ op = 13 ∨ op = 12 ∨ op = 14 by omega) with ho | rfl | rfl | rfl | rfl
    · have hgm := HS.out.mm
      have hg1 := HS.out.xr gr rfl
      have hsl := simple_ok (c := ⟨op, dA, dB, dC⟩) HK.out.regs HM.out HCV.out hid
      obtain ⟨Wd, hWd⟩ : ∃ y, y = W.drew := ⟨_, rfl⟩
      have hS3 := HS.out.below (show Below W.heap.size W Wd by rw [hWd]; exact (Below.refl _ _).drew)
      have hBd := HBX.out.below (show Below W.heap.size W Wd by rw [hWd]; exact (Below.refl _ _).drew) (Nat.le_refl _)
      have hcl := simple_impl_any 0 gr rc gm cm rs ms ⟨op, dA, dB, dC⟩ id Wd ((OI.mk hS3.nr).rebase (Nat.zero_le _)) (hS3.mm.rebase (Nat.zero_le _)) hg1.2.1 HRL.out HK.out.regs HM.out HCV.out ho
      have hgY : ¬ (Y = gr ∨ Y = gm) := fun hh => by have h1 := own_lt HS.out.nr gr rfl; have h2 := HS.out.mach.lt; have h3 := HS.out.gl; have h4 := HG.out; rcases hh with hh | hh <;> omega
      have hL2 : L = (⟨(simple rs ms ⟨op, dA, dB, dC⟩ id).1, q + 1, ts, op == 10⟩, (simple rs ms ⟨op, dA, dB, dC⟩ id).2) := by
        rw [← HL.out]
        by_cases h10 : op = 10
        · subst h10
          rw [lstep_bar HDD.out rfl]; rfl
        · rw [lstep_simple HDD.out (by show op < 10; omega)]
          have : (op == 10) = false := by simpa using h10
          rw [this]
      have HL2 := Lib.hid hL2
      simp only at hcl
      have HCL := Lib.hid hcl
      have HSL := Lib.hid hsl.1
      have HS3 := Lib.hid hS3
      have HWD := Lib.hid hWd
      have e1 : (op == 11) = false := by simp; omega
      have e2 : (op == 12) = false := by simp; omega
      have e3 : (op == 13) = false := by simp; omega
      have e4 : (op == 14) = false := by simp; omega
      clear hcl hsl hS3 hWd HL hL2 hgm
      obtain ⟨x0, x1, x2, x3, x4⟩ := HS3.out.kX
      obtain ⟨z0, z1, z2, z3, z4⟩ := hBd
      simp only at x0 x1 x2 x3
      as_aux_lemma =>
        go_upto_region 3 with fail
        refine wp_region_still_tail 7 (by kernel_rfl) (by kernel_rfl) ?_
        rw [World.drew_eq, ← HWD.out]
        clear y0 y1 y2 y3 y4 e1 e2 e3 e4
        simp only [List.take_succ_cons, List.take_zero, List.drop_succ_cons, List.drop_zero]
        repeat still_step
        refine wpStill_nil ?_
        go_wp2_with fail
        refine HCL.out.mono ?_
        rintro e w3 ⟨rfl, s1, s2, s3⟩
        have hz0 := (s3.cell z4 hgY).trans z0
        have HF := Lib.hid (HS3.out.sim rfl s1 s2 HSL.out s3)
        clear s1 s2 s3 x0 x1 x2 x3 x4 z0 z1 z2 z3 z4
        obtain ⟨x0, x1, x2, x3, x4⟩ := HF.out.kX
        have f1 := HF.out.fX 1
        have f3 := HF.out.fX 3
        simp only at x0 x1 x2 x3
        go_wp2
        go_end0
        exact ⟨rfl, _, by rw [HL2.out]; exact HF.out.cells ((Wr_set0 _ X 3 _).trans (Wr_set0 _ X 1 _)) ((HF.out.kX.s3 _).s1 _) (fun o => by simp; exact HF.out.fX o)⟩
    · have he := enter_any w0 b lo m X gm cm (some ⟨lb, lo', none⟩) ln (.slice (some ⟨gr, 0, none⟩) rs.length rc) (.slice ta ts.length tc) rs ts ms q _ cs id W HC.out hp HK.out HDD.out (.inl rfl) HS.out
      rw [HL.out] at he
      have hl2 : L.2 = ms := by rw [← HL.out, lstep_if HDD.out rfl]
      have HE := Lib.hid he
      have HL2 := Lib.hid hl2
      clear he hl2 HL
      as_aux_lemma =>
        go_wp2_with fail
        refine HE.out.mono ?_
        rintro e w3 ⟨rfl, t', hR⟩
        have HR := Lib.hid hR
        clear hR
        go_wp2
        go_end0
        exact ⟨rfl, _, by rw [HL2.out]; exact HR.out⟩
    · have he := enter_any w0 b lo m X gm cm (some ⟨lb, lo', none⟩) ln (.slice (some ⟨gr, 0, none⟩) rs.length rc) (.slice ta ts.length tc) rs ts ms q _ cs id W HC.out hp HK.out HDD.out (.inr rfl) HS.out
      rw [HL.out] at he
      have hl2 : L.2 = ms := by rw [← HL.out, lstep_loop HDD.out rfl]
      have HE := Lib.hid he
      have HL2 := Lib.hid hl2
      clear he hl2 HL
      as_aux_lemma =>
        go_wp2_with fail
        refine HE.out.mono ?_
        rintro e w3 ⟨rfl, t', hR⟩
        have HR := Lib.hid hR
        clear hR
        go_wp2
        go_end0
        exact ⟨rfl, _, by rw [HL2.out]; exact HR.out⟩
    · obtain ⟨p0, c0, har, hp0, hcc, hco⟩ := around_in hp HDD.out (Or.inl rfl)
      obtain ⟨en, oth, hbe, he1, ho1, ho2⟩ := end_in hp hcc hco
      obtain ⟨Wd, hWd⟩ : ∃ y, y = W.drew := ⟨_, rfl⟩
      have hD := HS.out.below (show Below W.heap.size W Wd by rw [hWd]; exact (Below.refl _ _).drew)
      have HWD := Lib.hid hWd
      clear hWd
      obtain ⟨O, P, m0, m1, hO, b0, b1, b2, lO, lP, _⟩ := hD.mach.own HDD.out p0 ⟨c0, hcc, hco⟩ (.inr ⟨.inl rfl, har⟩)
      have hL2 : L = (⟨rs, (en : Int) + 1, ts, false⟩, ms) := by rw [← HL.out, lstep_else HDD.out rfl, har, Int.toNat_natCast, hbe]
      rw [hbe] at b2
      simp only at b2
      have HL2 := Lib.hid hL2
      have HD := Lib.hid hD
      obtain ⟨x0, x1, x2, x3, x4⟩ := HD.out.kX
      simp only at x0 x1 x2 x3
      have f1 := HD.out.fX 1
      clear hD hL2 HL har hbe hcc hco ho1 ho2 b0 b1
      as_aux_lemma =>
        go_upto_region 10 with fail
        refine wp_region_still_tail 17 (by kernel_rfl) (by kernel_rfl) ?_
        rw [World.drew_eq, ← HWD.out]
        clear y0 y1 y2 y3 y4
        simp only [List.take_succ_cons, List.take_zero, List.drop_succ_cons, List.drop_zero]
        repeat still_step
        refine wpStill_nil ?_
        go_wp2
        go_end0
        exact ⟨rfl, _, by rw [HL2.out]; exact HD.out.cells (Wr_set0 _ X 1 _) (HD.out.kX.s1 _) (fun o => by simp; exact HD.out.fX o)⟩
    · have he := leave_any w0 b lo m X gm cm (some ⟨lb, lo', none⟩) ln (.slice (some ⟨gr, 0, none⟩) rs.length rc) (.slice ta ts.length tc) rs ts ms q _ cs id W HC.out hp HK.out HDD.out rfl HS.out
      rw [HL.out] at he
      have hl2 : L.2 = ms := by rw [← HL.out, lstep_end HDD.out rfl]
      have HE := Lib.hid he
      have HL2 := Lib.hid hl2
      clear he hl2 HL
      as_aux_lemma =>
        go_wp2_with fail
        refine HE.out.mono ?_
        rintro e w3 ⟨rfl, t', hR⟩
        have HR := Lib.hid hR
        clear hR
        go_wp2
        go_end0
        exact ⟨rfl, _, by rw [HL2.out]; exact HR.out⟩
end Go.Proofs.Ytmjkjdibolcblaa
namespace Go.Proofs.Ytmjkjdibolcblaa
open Go.ChangeShapes Go.WideShapes Go.ChangeAt Go.RowKit
set_option linter.unusedVariables false
/-- The zero values, nil for the memory. -/
theorem stepO_none {w wk : World} {b : Nat} (wb : w.heap.size = b) (kY : Box4 wk (b + 1) (.slice none 0 0) (.int .i64 0) (.slice none 0 0) (.bool false)) (kB : Below b w wk) :
    StepO w lnZ [] (.returned (.tuple #[.agg #[.slice none 0 0, .int .i64 0, .slice none 0 0, .bool false], .slice none 0 0])) ((((wk.setCell ⟨b + 1, 0, none⟩ (.slice none 0 0)).setCell ⟨b + 1, 1, none⟩ (.int .i64 0)).setCell ⟨b + 1, 2, none⟩ (.slice none 0 0)).setCell ⟨b + 1, 3, none⟩ (.bool false)) ∧
      Box4 ((((wk.setCell ⟨b + 1, 0, none⟩ (.slice none 0 0)).setCell ⟨b + 1, 1, none⟩ (.int .i64 0)).setCell ⟨b + 1, 2, none⟩ (.slice none 0 0)).setCell ⟨b + 1, 3, none⟩ (.bool false)) (b + 1) (.slice none 0 0) (.int .i64 0) (.slice none 0 0) (.bool false) :=
  stepO_fin (L := lnZ) (M := []) wb kY kB (nil_own _ _) (nil_own _ _) (nil_own _ _) (fun k hk => (by cases hk)) (fun k hk => (by cases hk)) (Below.refl _ _)
/-- The copies lie behind what was there: the machine's state as it begins. -/
theorem RI.start {w1 w2 w3 w4 w5 : World} {r1 t1 : Value} {gm cm lo X m : Nat} {lv : Value} {l : Ln} {cs : List Cd} {ms : List Int} (n1 : OwI w1.heap.size w2 r1 l.regs) (n2 : OwI w1.heap.size w2 t1 l.turns) (nd : ∀ k, r1.ownBlock = some k → t1.ownBlock ≠ some k) (hb2 : Below w1.heap.size w1 w2)
    (n3 : OI w2.heap.size w3 gm cm ms) (hb3 : Below w2.heap.size w2 w3) (hX : w3.heap.size = X) (hlo : X + 1 = lo) (hw4 : Below w3.heap.size w3 w4) (hB4 : Box4 w4 X r1 (.int .i64 l.pc) t1 (.bool l.waits)) (hF4 : ∀ o, w4.frozen? ⟨X, o, none⟩ = false) (hz4 : w4.heap.size = lo) (hm : Mach cs w5 lo m lv) (hb5 : Below w4.heap.size w4 w5) :
    RI w1 w1.heap.size lo m X gm cm lv r1 t1 l ms cs w5 := by
  have s2 := hb2.size
  have s3 := hb3.size
  have s4 := hw4.size
  have s5 := hb5.size
  have h35 := hw4.trans (hb5.mono s4)
  have h25 := hb3.trans (h35.mono s3)
  have h15 := hb2.trans (h25.mono s2)
  have g1 := own_lt n1
  have g2 := own_lt n2
  have g3 := n3.ge
  have g4 := n3.lt
  exact ⟨rfl, h15, hm, by omega, ⟨by omega, by omega⟩, by omega, by omega, hB4.below hb5 (Nat.le_refl _), fun o => (hb5.frozen (p := ⟨X, o, none⟩) hB4.lt).trans (hF4 o), n1.below h25, n2.below h25, nd, fun k hk => by have := g1 k hk; exact ⟨by omega, by omega, .inl (by omega)⟩, fun k hk => by have := g2 k hk; exact ⟨by omega, by omega, .inl (by omega)⟩, (n3.rebase (by omega)).below h35⟩
set_option maxRecDepth 100000 in
set_option maxHeartbeats 16000000 in
theorem implStepLane (B1 B2 Bm : Nat) (r t mv lv : Value) (l : Ln) (cs : List Cd) (ms : List Int) (id : Int) (w : World) (hr : OwI B1 w r l.regs) (ht : OwI B2 w t l.turns) (hmv : OwI Bm w mv ms) (hc : RdC w lv cs)
    (hwr : ∀ x ∈ l.regs, (Lit.int .i64 x).wf = true) (hwt : ∀ x ∈ l.turns, (Lit.int .i64 x).wf = true) (hwm : ∀ x ∈ ms, (Lit.int .i64 x).wf = true) :
    Calls Try.prog 15 #[.agg #[r, .int .i64 l.pc, t, .bool l.waits], lv, .int .i64 id, mv] w (StepO w (stepV l cs id ms).1 (stepV l cs id ms).2) := by
  obtain ⟨b, hb⟩ : ∃ x, w.heap.size = x := ⟨_, rfl⟩
  obtain ⟨ra, rc, hrv⟩ := own_shape hr
  obtain ⟨ta, tc, htv⟩ := own_shape ht
  obtain ⟨ma, mc, hmvv⟩ := own_shape hmv
  obtain ⟨la, ln, hlv, hln1, hln2⟩ := hc.shape
  subst hrv htv hmvv hlv
  obtain ⟨L, M, hLM⟩ : ∃ L M, stepV l cs id ms = (L, M) := ⟨_, _, rfl⟩
  rw [hLM]
  have hc0 := hc
  obtain ⟨W, hW⟩ : ∃ W, W = ((w.alloc (.cells #[.slice ra l.regs.length rc, .int .i64 l.pc, .slice ta l.turns.length tc, .bool l.waits] 31)).alloc (.cells #[.slice none 0 0, .int .i64 0, .slice none 0 0, .bool false] 31)) := ⟨_, rfl⟩
  have h1 := below_alloc w (.cells #[.slice ra l.regs.length rc, .int .i64 l.pc, .slice ta l.turns.length tc, .bool l.waits] 31)
  have h2 := below_alloc (w.alloc (.cells #[.slice ra l.regs.length rc, .int .i64 l.pc, .slice ta l.turns.length tc, .bool l.waits] 31)) (.cells #[.slice none 0 0, .int .i64 0, .slice none 0 0, .bool false] 31)
  have h3 := (h1.trans (h2.mono h1.size))
  have hX := ((Box4.new w (.slice ra l.regs.length rc) (.int .i64 l.pc) (.slice ta l.turns.length tc) (.bool l.waits) 31).below h2 (Nat.le_refl _))
  have hX3 := Box4.new (w.alloc (.cells #[.slice ra l.regs.length rc, .int .i64 l.pc, .slice ta l.turns.length tc, .bool l.waits] 31)) (.slice none 0 0) (.int .i64 0) (.slice none 0 0) (.bool false) 31
  have hF3 := fun o => frozen_of_row ((w.alloc (.cells #[.slice ra l.regs.length rc, .int .i64 l.pc, .slice ta l.turns.length tc, .bool l.waits] 31)).alloc (.cells #[.slice none 0 0, .int .i64 0, .slice none 0 0, .bool false] 31)) (w.alloc (.cells #[.slice ra l.regs.length rc, .int .i64 l.pc, .slice ta l.turns.length tc, .bool l.waits] 31)).heap.size o #[.slice none 0 0, .int .i64 0, .slice none 0 0, .bool false] 31 (heap_alloc_new _ _)
  rw [World.size_alloc] at hX3 hF3
  rw [hb] at hX hX3 hF3
  have kX : Box4 W b (.slice ra l.regs.length rc) (.int .i64 l.pc) (.slice ta l.turns.length tc) (.bool l.waits) := by rw [hW]; exact ⟨hX.at0, hX.at1, hX.at2, hX.at3, hX.lt⟩
  have kY : Box4 W (b + 1) (.slice none 0 0) (.int .i64 0) (.slice none 0 0) (.bool false) := by rw [hW]; exact ⟨hX3.at0, hX3.at1, hX3.at2, hX3.at3, hX3.lt⟩
  have kG : ∀ o, W.frozen? ⟨b + 1, o, none⟩ = false := by rw [hW]; exact hF3
  have kB : Below b w W := by rw [hW, ← hb]; exact h3
  have kr : OwI B1 W (.slice ra l.regs.length rc) l.regs := by rw [hW]; exact hr.below h3
  have kt : OwI B2 W (.slice ta l.turns.length tc) l.turns := by rw [hW]; exact ht.below h3
  have km : OwI Bm W (.slice ma ms.length mc) ms := by rw [hW]; exact hmv.below h3
  have kc : RdC W (.slice la cs.length ln) cs := by rw [hW]; exact hc.below h3 (Nat.le_refl _)
  have kz : b + 2 ≤ W.heap.size := by rw [hW, ← hb]; simp
  have HB := Lib.hid hb
  have HW := Lib.hid hW
  have HLM := Lib.hid hLM
  have HC0 := Lib.hid hc0
  clear hc0
  have HWR := Lib.hid hwr
  have HWT := Lib.hid hwt
  have HWM := Lib.hid hwm
  clear h1 h2 h3 hX hX3 hF3 hr ht hmv hc hb hW hLM hwr hwt hwm
  obtain ⟨V, hV⟩ : ∃ V, stepOk l cs id ms = V := ⟨_, rfl⟩
  have HV := Lib.hid hV
  clear hV
  go_enter Try.func15, Try.ntmps15
  have hS : S3 B1 B2 Bm w b (.slice la cs.length ln) (.slice ra l.regs.length rc) (.slice ta l.turns.length tc) (.slice ma ms.length mc) l cs ms W := ⟨HB.out, kX, kY, kG, kB, kr, kt, km, kc⟩
  have HS := Lib.hid hS
  clear kX kY kG kB kr kt km kc hS
  have hkz : b + 2 ≤ W.heap.size := kz
  go_wp2_with fail
  rw [← HW.out, HB.out]
  refine (canStep_any B1 B2 Bm _ _ (.slice ma ms.length mc) (.slice la cs.length ln) l cs ms id W HS.out.kr HS.out.kt HS.out.km HS.out.kc HWR.out HWT.out HWM.out).mono ?_
  rintro e w1 ⟨rfl, hb1⟩
  rw [HV.out]
  have hS1 := HS.out.below hb1
  have HS1 := Lib.hid hS1
  have hz1 := hb1.size
  clear HS HW hS1 hb1
  obtain ⟨x0, x1, x2, x3, x4⟩ := HS1.out.kX
  obtain ⟨y0, y1, y2, y3, y4⟩ := HS1.out.kY
  have f0 := HS1.out.kG 0
  have f1 := HS1.out.kG 1
  have f2 := HS1.out.kG 2
  have f3 := HS1.out.kG 3
  cases V
  · have hLZ := HLM.out
    rw [stepV, HV.out, if_neg (by simp)] at hLZ
    obtain ⟨rfl, rfl⟩ := Prod.mk.inj hLZ
    have HZ := Lib.hid (stepO_none HB.out HS1.out.kY HS1.out.kB)
    clear hLZ
    go_wp2
    obtain ⟨hR, z0, z1, z2, z3, _⟩ := HZ.out
    refine bodyPost_ret (v := .tuple #[.agg #[.slice none 0 0, .int .i64 0, .slice none 0 0, .bool false], .slice none 0 0]) (by simp [results, Try.results15, go_sem, z0, z1, z2, z3]) rfl hR
  have hok := HV.out
  unfold stepOk at hok
  simp only [Bool.and_eq_true] at hok
  obtain ⟨hpv, hlok, hpc0, hpc1⟩ := lValid_ok hok.1
  have hmok := memValid_ok hok.2.1
  have hrl := (lok_small hpv hlok).1
  have htl := (lok_small hpv hlok).2.1
  have hml : ms.length ≤ 1000000 := by have := hmok.1; omega
  have hid := inB_i hok.2.2
  have hml1 := hmok.1
  clear hok
  have HOK := Lib.hid hlok
  have HMK := Lib.hid hmok
  clear hlok hmok
  go_wp2_with fail
  refine (clone_any B1 B2 _ _ l w1 HS1.out.kr HS1.out.kt hrl htl).mono ?_
  rintro e w2 ⟨r1, t1, rfl, n1, n2, nd, hb2⟩
  obtain ⟨a3, c3, hs3⟩ := own_shape n1
  obtain ⟨a4, c4, hs4⟩ := own_shape n2
  subst hs3 hs4
  have hS2 := HS1.out.below hb2
  have HN := Lib.hid (And.intro n1 (And.intro n2 (And.intro nd hb2)))
  have HS2 := Lib.hid hS2
  clear n1 n2 nd hb2 hS2
  as_aux_lemma =>
    go_wp2_with fail
    refine (cloneI_any Bm _ ms w2 HS2.out.km hml).mono ?_
    rintro e w3 ⟨v3, rfl, n3, hb3⟩
    obtain ⟨a5, c5, hs5⟩ := own_shape n3
    subst hs5
    obtain ⟨gm, rfl, _, oi3, hcc5, hcc6⟩ := OwI.ne n3 (by omega)
    have hX : ∃ X, w3.heap.size = X := ⟨_, rfl⟩
    obtain ⟨X, hX⟩ := hX
    obtain ⟨w4, hw4⟩ : ∃ y, y = (w3.alloc (.cells #[.slice a3 l.regs.length c3, .int .i64 l.pc, .slice a4 l.turns.length c4, .bool l.waits] 31)) := ⟨_, rfl⟩
    have hb4 : Below w3.heap.size w3 w4 := by rw [hw4]; exact below_alloc w3 _
    have hz4 : w4.heap.size = X + 1 := by rw [hw4, World.size_alloc, hX]
    have hB4 : Box4 w4 X (.slice a3 l.regs.length c3) (.int .i64 l.pc) (.slice a4 l.turns.length c4) (.bool l.waits) := by
      have hx := Box4.new w3 (.slice a3 l.regs.length c3) (.int .i64 l.pc) (.slice a4 l.turns.length c4) (.bool l.waits) 31
      rw [hX] at hx
      rw [hw4]; exact ⟨hx.at0, hx.at1, hx.at2, hx.at3, hx.lt⟩
    have hF4 : ∀ o, w4.frozen? ⟨X, o, none⟩ = false := fun o => by rw [hw4, ← hX]; exact frozen_of_row _ w3.heap.size o _ _ (heap_alloc_new w3 _)
    have hS4 := HS2.out.below (hb3.trans (hb4.mono hb3.size))
    have HMA := Lib.hid (newMachine_any (.slice la cs.length ln) cs w4 hS4.kc hpv)
    have HN3 := Lib.hid (And.intro oi3 (And.intro hb3 (And.intro hb4 (And.intro hB4 hF4))))
    have HW4 := Lib.hid hw4
    have HX := Lib.hid hX
    have HZ4 := Lib.hid hz4
    clear n3 hb3 oi3 hw4 hb4 hB4 hF4 hX hz4 hS4
    clear x0 x1 x2 x3 x4 y0 y1 y2 y3 y4 f0 f1 f2 f3
    go_upto_region 4 with fail
    rw [← HW4.out, HX.out]
    go_wp2_with fail
    refine HMA.out.mono ?_
    rintro e w5 ⟨m, rfl, hM, hb5⟩
    rw [HZ4.out] at hM
    have hR := RI.start (lo := X + 1) (l := l) HN.out.1 HN.out.2.1 HN.out.2.2.1 HN.out.2.2.2 HN3.out.1 HN3.out.2.1 HX.out rfl HN3.out.2.2.1 HN3.out.2.2.2.1 HN3.out.2.2.2.2 HZ4.out hM hb5
    have HR := Lib.hid hR
    clear hM hb5 hR HMA HN HN3
    have hst : Calls Try.prog 48 #[.pointer (some ⟨m, 0, none⟩), .pointer (some ⟨X, 0, none⟩), .int .i64 id, .slice (some ⟨gm, 0, none⟩) ms.length c5] w5 (StI w1 w1.heap.size (X + 1) m X gm c5 (.slice la cs.length ln) (.slice a3 l.regs.length c3) cs L M) := by
      have hLZ := HLM.out
      rw [stepV, HV.out, if_pos rfl] at hLZ
      obtain ⟨rs, pc, ts, wt⟩ := l
      cases hs : (wt || (pc == cs.length)) with
      | true =>
        simp only at hLZ
        rw [hs, if_pos rfl] at hLZ
        obtain ⟨rfl, rfl⟩ := Prod.mk.inj hLZ
        exact step_stop w1 _ _ m X gm c5 la ln _ _ rs ts ms pc wt cs id w5 ⟨hln1, hln2⟩ hs HR.out
      | false =>
        simp only at hLZ
        rw [hs, if_neg (by simp)] at hLZ
        simp only [Bool.or_eq_false_iff, beq_eq_false_iff_ne] at hs
        obtain ⟨rfl, hne⟩ := hs
        simp only at hpc0 hpc1
        obtain ⟨q, rfl⟩ : ∃ q : Nat, pc = q := ⟨pc.toNat, by omega⟩
        have h := step_go w1 _ _ m X gm c5 la ln _ _ rs ts ms q cs id w5 HS1.out.kc hpv HOK.out HMK.out hid (by omega) HR.out
        rw [hLZ] at h
        exact h
    have HST := Lib.hid hst
    clear hst HR
    as_aux_lemma =>
      go_wp2_with fail
      refine HST.out.mono ?_
      rintro e w6 ⟨rfl, t', hR⟩
      obtain ⟨a6, c6, hs6⟩ := own_shape hR.nr
      obtain ⟨a7, c7, hs7⟩ := own_shape hR.nt
      have hml6 : M.length = ms.length := by
        have h := congrArg (fun p => p.2.length) HLM.out
        simp only at h
        rw [← h, stepV, HV.out, if_pos rfl]
        split
        · rfl
        · exact lstep_mlen _ _ _ _
      have o6 : OwI (b + 2) w6 (.slice (some ⟨gm, 0, none⟩) ms.length c5) M := by have := (hR.mm.rebase (B' := b + 2) (by have := hR.mm.ge; omega)).own; unfold OwI; rw [hml6] at this ⊢; exact this
      have hd2 : ∀ k, (Value.slice (some ⟨gm, 0, none⟩) ms.length c5).ownBlock = some k → (Value.slice a3 l.regs.length c3).ownBlock ≠ some k ∧ t'.ownBlock ≠ some k := fun k hk => by
        have hk2 : (some gm : Option Nat) = some k := hk
        injection hk2 with hk3
        exact ⟨fun hh => (hR.xr k hh).2.1 hk3.symm, fun hh => (hR.xt k hh).2.1 hk3.symm⟩
      have hY6 := (HS1.out.below hR.kB)
      have HF := Lib.hid (stepO_fin (L := L) (M := M) HB.out hY6.kY hY6.kB (own_mono hR.nr (by omega)) (own_mono hR.nt (by omega)) o6 hR.nd hd2 (Below.refl _ _))
      obtain ⟨x0, x1, x2, x3, x4⟩ := hR.kX
      obtain ⟨y0, y1, y2, y3, y4⟩ := hY6.kY
      have f0 := hY6.kG 0
      have f1 := hY6.kG 1
      have f2 := hY6.kG 2
      have f3 := hY6.kG 3
      subst hs7
      clear o6 hd2 hR hY6 hs6
      go_wp2
      obtain ⟨hRR, z0, z1, z2, z3, _⟩ := HF.out
      refine bodyPost_ret (v := .tuple #[.agg #[.slice a3 l.regs.length c3, .int .i64 L.pc, .slice a7 L.turns.length c7, .bool L.waits], .slice (some ⟨gm, 0, none⟩) ms.length c5]) (by simp [results, Try.results15, go_sem, z0, z1, z2, z3]) rfl hRR
end Go.Proofs.Ytmjkjdibolcblaa
namespace Go.Proofs.Ytmjkjdibolcblaa
open Go.ChangeShapes Go.WideShapes Go.ChangeAt Go.RowKit

set_option maxHeartbeats 1000000 in
theorem sameInts_same (v u : Value) (xs : List Int) (w : World) (h : RdI .i64 w v xs) (h' : RdI .i64 w u xs) :
    Calls Try.prog 19 #[v, u] w fun e w' => e = .returned (.bool true) ∧ Below w.heap.size w w' := by
  obtain ⟨a, c, b, off, rfl, hlc, hm, hb, hcell⟩ := h.form
  obtain ⟨a', c', b', off', rfl, hlc', hm', hb', hcell'⟩ := h'.form
  go_enter Try.func19, Try.ntmps19
  go_wp2_with fail
  go_loopg [5] xs.length (fun g i wr => ∃ k : Nat, k + g = xs.length ∧ i = .int .i64 k ∧ Below w.heap.size w wr)
  case atStart => exact ⟨0, by omega, rfl, Below.refl _ _⟩
  case round =>
    obtain ⟨k, hk, rfl, hbl⟩ := hrel
    by_cases hlt : k < xs.length
    · obtain ⟨x, hx⟩ := get_lt hlt
      obtain ⟨rfl, hc⟩ := hcell k x hx
      obtain ⟨rfl, hc2⟩ := hcell' k x hx
      have hne : xs ≠ [] := by rintro rfl; simp at hlt
      have hc3 : wr.cell? ⟨b, off + k, none⟩ = some (.int .i64 x) := (hbl.cell (hb hne)).trans hc
      have hc4 : wr.cell? ⟨b', off' + k, none⟩ = some (.int .i64 x) := (hbl.cell (hb' hne)).trans hc2
      clear hcell hcell' hc hc2 hx
      go_wp2
      go_quiet (fail)
      go_wp2
      go_roundg (xs.length - (k + 1))
      case measure => omega
      case rel => exact ⟨k + 1, by omega, by go_num, by first | exact hbl | exact hbl.drew | exact ⟨hbl.os, hbl.tape, hbl.output, hbl.size, hbl.block⟩⟩
    · clear hcell hcell'
      go_wp2
      go_ret
      exact ⟨rfl, hbl⟩
/-- 'append(v, vs...)', both the call's own. -/
theorem wpList_app2 {ops : Array Oper} {rest : List Oper} {o : Oper} {a : Act} {Q : Exit → Act → World → Prop} (w : World) (hgd : o.guard = none) (s x : Operand) (T E : TypeId) (ho : o.op = .call { callee := .builtin .append, args := #[s, x], argTypes := #[T, T] })
    (base base2 sz bytes : Nat) (z : Value) (ht : Try.prog.underlying T = some (.slice E)) (hinfo : (Try.prog.info? E).map (fun i => (i.zero, i.size, i.bytes)) = some (some z, sz, bytes)) (hz : z.cells.size = sz) (hsz : 0 < sz)
    (v vs : Value) (n m : Nat) (xs ys : List Value) (hown : w.ownsRow base E sz v n xs) (hsrc : w.ownsRow base2 E sz vs m ys) (h1 : ∀ u ∈ ys, u.oneCell' = true) (hs : a.eval s = v) (hx : a.eval x = vs) (h63 : n + m ≤ 9223372036854775807) (hb : (n + m) * bytes ≤ 140737488355328) (hbase : base ≤ w.heap.size)
    (h : ∀ v' w', w'.ownsRow base E sz v' (n + m) (xs ++ ys) → Wr w w' (fun b => v.ownBlock = some b) → (∀ B w0, B ≤ base → Below B w0 w → Below B w0 w') → wpList Try.prog ops Q rest (a.put o.dst v') w') :
    wpList Try.prog ops Q (o :: rest) a w := by
  obtain ⟨i, hi, hz0, hz1, hz2⟩ := info_parts hinfo
  have fin : ∀ v' w', w'.ownsRow base E sz v' (n + m) (xs ++ ys) → w.grownBy w' v.ownBlock → wpList Try.prog ops Q rest (a.put o.dst v') w' := fun v' w' ho2 hg => by
    have hw := Wr.of_grown hg
    refine h v' w' ho2 hw fun B w0 hB hb0 => ?_
    refine Below.wr hb0 hw (by omega) fun k hk => ?_
    have := (hown.lt k hk).1
    omega
  rcases hsrc.2 with ⟨hv, hm⟩ | ⟨g, cap, cur, hv, hbg, hgg, hmc, hcm, hcs, htk⟩
  · subst hv hm
    have hy : ys = [] := List.eq_nil_of_length_eq_zero (by simpa using hsrc.1)
    subst hy
    refine wpList_append_own_none hgd s x T ho base E i sz ht hi v n xs hs hown hx ?_
    exact fin _ _ (by simpa using hown) (World.grownBy.refl _ _)
  · subst hv
    refine wpList_append_own w hgd s x T ho base E i z sz bytes ht hi hz0 hz1 hz2 hz hsz v n xs hs hown ⟨g, 0, none⟩ m cap ys hx hsrc.1 (hsrc.cells rfl) h1 (by unfold maxLen; omega) hb hbase ?_
    intro v' w' ho2 hg _
    exact fin v' w' ho2 hg
/-- 'append(v, x, ..)' for m new elements in a region that draws its order: the new row; what was below stays. -/
theorem step_appN {ops : Array Oper} {o : Oper} {a : Act} {K : Act → World → Prop} {Q : Exit → Act → World → Prop} {Els : Prop} (w : World) (hgd : o.guard = none) (s x : Operand) (T E : TypeId) (ho : o.op = .call { callee := .builtin .append, args := #[s, x], argTypes := #[T, T] })
    (base sz bytes m : Nat) (us : List Value) (z : Value) (ht : Try.prog.underlying T = some (.slice E)) (hinfo : (Try.prog.info? E).map (fun i => (i.zero, i.size, i.bytes)) = some (some z, sz, bytes)) (hz : z.cells.size = sz) (hsz : 0 < sz) (hus : us.length = m * sz) (h1 : ∀ u ∈ us, u.oneCell' = true)
    (v : Value) (n : Nat) (xs : List Value) (hown : w.ownsRow base E sz v n xs) (hs : a.eval s = v) (hx : a.eval x = .slice (some ⟨w.heap.size, 0, none⟩) m m) (h63 : n + m ≤ 9223372036854775807) (hb : (n + m) * bytes ≤ 140737488355328) (hbase : base ≤ w.heap.size)
    (h : ∀ v' w', w'.ownsRow base E sz v' (n + m) (xs ++ us) → Wr w w' (fun b => v.ownBlock = some b) → (∀ B w0, B ≤ base → Below B w0 w → Below B w0 w') → K (a.put o.dst v') w') :
    if Region.wanted o (yielded ops a.tmps) = true then Oper.wp Try.prog o a (w.alloc (.cells us.toArray E)) K Q else Els := by
  have hwt : Region.wanted o (yielded ops a.tmps) = true := by simp [Region.wanted, hgd]
  rw [if_pos hwt]
  obtain ⟨i, hi, hz0, hz1, hz2⟩ := info_parts hinfo
  refine wp_append_own _ s x T ho base E i z sz bytes ht hi hz0 hz1 hz2 hz hsz v n xs hs (hown.alloc _) ⟨w.heap.size, 0, none⟩ m m us hx hus ?_ h1 (by unfold maxLen; omega) hb (by simp; omega) ?_
  · intro j u hj
    rw [Addr.add_lit, Nat.zero_add, cell_of_row _ w.heap.size j us.toArray E (0, 0) (heap_alloc_new w _)]
    simpa using hj
  · intro v' w' ho2 hg _
    have hw : Wr w w' (fun b => v.ownBlock = some b) := (Wr.of_below ((Below.refl _ _).alloc (Nat.le_refl _) _)).trans (Wr.of_grown hg)
    refine h v' w' ho2 hw fun B w0 hB hb0 => ?_
    refine Below.wr hb0 hw (by omega) fun k hk => ?_
    have := (hown.lt k hk).1
    omega
theorem oneI (xs : List Int) : ∀ u ∈ xs.map (Value.int .i64), u.oneCell' = true := by
  intro u hu
  obtain ⟨_, _, rfl⟩ := List.mem_map.1 hu
  rfl
end Go.Proofs.Ytmjkjdibolcblaa
namespace Go.Proofs.Ytmjkjdibolcblaa
open Go.ChangeShapes Go.WideShapes Go.ChangeAt Go.RowKit
set_option linter.unusedVariables false
set_option maxHeartbeats 1000000 in
theorem sameLane_same (v u : Value) (l : Ln) (w : World) (hl : RdLn w v l) (hl' : RdLn w u l) :
    Calls Try.prog 37 #[v, u] w fun e w' => e = .returned (.bool true) ∧ Below w.heap.size w w' := by
  obtain ⟨r, t, rfl, h1, h2⟩ := hl
  obtain ⟨r', t', rfl, h3, h4⟩ := hl'
  have hb0 : Below w.heap.size w ((w.alloc (.cells #[r, .int .i64 l.pc, t, .bool l.waits] 31)).alloc (.cells #[r', .int .i64 l.pc, t', .bool l.waits] 31)) := ((Below.refl _ _).alloc (Nat.le_refl _) _).alloc (by simp) _
  go_enter Try.func37, Try.ntmps37
  go_wp2_with fail
  refine (sameInts_same _ _ l.regs _ (h1.below hb0 (Nat.le_refl _)) (h3.below hb0 (Nat.le_refl _))).mono ?_
  rintro e w1 ⟨rfl, hb1⟩
  obtain ⟨hc1, hf1⟩ := bcell hb1
  have hz1 := hb1.size
  have hB1 := hb0.trans (hb1.mono hb0.size)
  simp only [World.size_alloc] at hc1 hf1 hz1
  go_wp2_with fail
  refine (sameInts_same _ _ l.turns _ (h2.below hB1 (Nat.le_refl _)) (h4.below hB1 (Nat.le_refl _))).mono ?_
  rintro e w2 ⟨rfl, hb2⟩
  obtain ⟨hc2, hf2⟩ := bcell hb2
  have hB2 := hB1.trans (hb2.mono hB1.size)
  have g0 := hc2 w.heap.size 3 (by omega)
  have g1 := hc2 (w.heap.size + 1) 3 (by omega)
  rw [hc1 _ _ (by omega)] at g0 g1
  clear hc1 hf1 hc2 hf2
  go_wp2
  go_ret
  exact ⟨rfl, hB2⟩
end Go.Proofs.Ytmjkjdibolcblaa
namespace Go.Proofs.Ytmjkjdibolcblaa
open Go.ChangeShapes Go.WideShapes Go.ChangeAt Go.RowKit
theorem alive_any (w : World) : Calls Try.prog 13 #[] w fun e w' => e = .returned (.bool true) ∧ w = w' := by
  have hal : maskAll 3 = 7 := rfl
  go_enter Try.func13, Try.ntmps13
  go_wp2_with (go_at_call 43; refine (implMaskAll _ _).mono ?_; rintro e w' ⟨rfl, rfl⟩)
  go_ret
  exact ⟨rfl, rfl⟩
end Go.Proofs.Ytmjkjdibolcblaa
namespace Go.Proofs.Ytmjkjdibolcblaa
open Go.ChangeShapes Go.WideShapes Go.ChangeAt Go.RowKit
set_option linter.unusedVariables false
/-- What a draw of a lane leaves. -/
structure LaneDB (w : World) (r t lv mv : Value) (l : Ln) (cs : List Cd) (ms : List Int) (id : Int) (w' : World) : Prop where
  nr : OwI w.heap.size w' r l.regs
  nt : OwI w.heap.size w' t l.turns
  li : lnIn l
  len : l.regs.length ≤ 4 ∧ l.turns.length ≤ 4
  nd : ∀ k, r.ownBlock = some k → t.ownBlock ≠ some k
  ol : w'.ownsRow w.heap.size 24 4 lv cs.length (cdCells cs)
  ci : ∀ c ∈ cs, cdIn c
  cl : cs.length ≤ 150000
  om : OwI w.heap.size w' mv ms
  ml : ms.length ≤ 33
  mb : ∀ x ∈ ms, -1 ≤ x ∧ x ≤ 256
  id : -1 ≤ id ∧ id ≤ 8
  bl : Below w.heap.size w w'
theorem laneDB_end {w w1 w2 : World} {b a : Nat} {bs : List Int} {r t lv mv : Value} {l : Ln} {cs : List Cd} {ms : List Int} {id : Int} (hb : w.heap.size = b) (hb1 : Below (b + 1) (w.alloc (.cells #[.slice none 0 0, .int .i64 0, .slice none 0 0, .bool false] 31)) w1) (ha : b + 1 ≤ a) (hz : b + 1 ≤ w1.heap.size)
    (o1 : OwI w1.heap.size w2 r l.regs) (o2 : OwI w1.heap.size w2 t l.turns) (hli : lnIn l) (hln : l.regs.length ≤ 4 ∧ l.turns.length ≤ 4) (hnd : ∀ k, r.ownBlock = some k → t.ownBlock ≠ some k) (o3 : w2.ownsRow w1.heap.size 24 4 lv cs.length (cdCells cs)) (hci : ∀ c ∈ cs, cdIn c) (hcl : cs.length ≤ 150000)
    (o4 : OwI w1.heap.size w2 mv ms) (hml : ms.length ≤ 33) (hmb : ∀ x ∈ ms, -1 ≤ x ∧ x ≤ 256) (hid : -1 ≤ id ∧ id ≤ 8) (hw2 : Wr w1 w2 (fun k => k = a)) (v0 v1 v2 v3 : Value) :
    LaneDB w r t lv mv l cs ms id ((((w2.setCell ⟨b, 0, none⟩ v0).setCell ⟨b, 1, none⟩ v1).setCell ⟨b, 2, none⟩ v2).setCell ⟨b, 3, none⟩ v3) := by
  have hw4 := Wr_set4 w2 b v0 v1 v2 v3
  have q : ∀ (k : Nat), w1.heap.size ≤ k → ¬ k = b := fun k hk hh => by omega
  have h1 : OwI w1.heap.size _ r l.regs := hw4.owns o1 (fun k hk => q k (own_ge o1 k hk))
  have h2 : OwI w1.heap.size _ t l.turns := hw4.owns o2 (fun k hk => q k (own_ge o2 k hk))
  have h3 := hw4.owns o3 (fun k hk => q k (own_ge o3 k hk))
  have h4 : OwI w1.heap.size _ mv ms := hw4.owns o4 (fun k hk => q k (own_ge o4 k hk))
  have hbl : Below w.heap.size w _ := ((below_alloc w (.cells #[.slice none 0 0, .int .i64 0, .slice none 0 0, .bool false] 31)).trans (hb1.mono (by omega)))
  have hbl2 := Below.wr hbl hw2 (by omega) (fun k hk => by omega)
  exact ⟨own_mono h1 (by omega), own_mono h2 (by omega), hli, hln, hnd, own_mono h3 (by omega), hci, hcl, own_mono h4 (by omega), hml, hmb, hid, Below.wr hbl2 hw4 (by have := hw2.size; omega) (fun k hk => by omega)⟩
set_option maxHeartbeats 4000000 in
theorem DrawStepLane_any (v : Value) (bs0 : List Int) (w : World) (h : RdI .u8 w v bs0) : Calls Try.prog 36 #[v] w
    fun e w' => ∃ r t lv mv l cs ms id, e = .returned (.tuple #[.agg #[r, .int .i64 l.pc, t, .bool l.waits], lv, .int .i64 id, mv]) ∧ LaneDB w r t lv mv l cs ms id w' := by
  obtain ⟨bs, hbs⟩ : ∃ bs, bs = bs0.take 2000 := ⟨_, rfl⟩
  obtain ⟨b, hb⟩ : ∃ x, w.heap.size = x := ⟨_, rfl⟩
  have h0 := h.below (below_alloc w (.cells #[.slice none 0 0, .int .i64 0, .slice none 0 0, .bool false] 31)) (Nat.le_refl _)
  have hR0 := Box4.new w (.slice none 0 0) (.int .i64 0) (.slice none 0 0) (.bool false) 31
  have hF0 := fun o => frozen_of_row (w.alloc (.cells #[.slice none 0 0, .int .i64 0, .slice none 0 0, .bool false] 31)) w.heap.size o _ _ (heap_alloc_new w _)
  rw [hb] at hR0 hF0
  have HB := Lib.hid hb
  have HR0 := Lib.hid hR0
  have HF0 := Lib.hid hF0
  clear hb hR0 hF0 h
  go_enter Try.func36, Try.ntmps36
  go_wp2_with fail
  refine (open_any _ bs0 _ h0).mono ?_
  rintro e w1 ⟨a, rfl, hr1, ha, hb1⟩
  rw [← hbs] at hr1
  rw [HB.out]
  clear hbs h0
  have hz1 := hb1.size
  simp only [World.size_alloc] at ha hb1 hz1
  rw [HB.out] at ha hz1 hb1
  have HB1 := Lib.hid hb1
  go_wp2_with fail
  refine (l20Lane_any a bs 0 16 w1 hr1 (by omega) (by omega)).mono ?_
  rintro e w2 ⟨r, t, lv, mv, l, cs, ms, id, rfl, o1, o2, hli, hln, hnd, o3, hci, hcl, o4, hml, hmb, hid, hw2⟩
  obtain ⟨ra, rc, hrv⟩ := own_shape o1
  obtain ⟨ta, tc, htv⟩ := own_shape o2
  obtain ⟨la, lc, hlv⟩ := own_shape o3
  obtain ⟨ma, mc, hmv⟩ := own_shape o4
  subst hrv htv hlv hmv
  have hbx := (HR0.out.below HB1.out (by simp; rw [HB.out]; exact Nat.le_refl _)).wr hw2 (show ¬ b = a by omega)
  have hfb := fun o => (hw2.frozen (o := o) (show b < w1.heap.size by omega) (show ¬ b = a by omega)).trans ((HB1.out.frozen (p := ⟨b, o, none⟩) (Nat.lt_succ_self b)).trans (HF0.out o))
  obtain ⟨s0, s1, s2, s3, s4⟩ := _root_.id hbx
  have q0 := hfb 0
  have q1 := hfb 1
  have q2 := hfb 2
  have q3 := hfb 3
  have HEND := Lib.hid (laneDB_end (bs := bs) HB.out HB1.out ha hz1 o1 o2 hli hln hnd o3 hci hcl o4 hml hmb hid hw2 (.slice ra l.regs.length rc) (.int .i64 l.pc) (.slice ta l.turns.length tc) (.bool l.waits))
  clear hbx hfb o1 o2 o3 o4 hw2 hr1 hb1 hci hmb hnd
  go_wp2
  refine bodyPost_ret (v := .tuple #[.agg #[.slice ra l.regs.length rc, .int .i64 l.pc, .slice ta l.turns.length tc, .bool l.waits], .slice la cs.length lc, .int .i64 id, .slice ma ms.length mc]) (by simp [results, Try.results36, go_sem, s0, s1, s2, s3]) rfl ⟨_, _, _, _, l, cs, ms, id, rfl, HEND.out⟩
end Go.Proofs.Ytmjkjdibolcblaa
namespace Go.Proofs.Ytmjkjdibolcblaa
open Go.ChangeShapes Go.WideShapes Go.ChangeAt Go.RowKit
set_option linter.unusedVariables false
theorem stepV_mem {l : Ln} {cs : List Cd} {id : Int} {ms : List Int} (hm : ∀ x ∈ ms, -1 ≤ x ∧ x ≤ 256) (hml : ms.length ≤ 33) : (∀ x ∈ (stepV l cs id ms).2, -1 ≤ x ∧ x ≤ 256) ∧ (stepV l cs id ms).2.length ≤ 33 := by
  unfold stepV
  cases hs : stepOk l cs id ms with
  | false => rw [if_neg (by simp)]; exact ⟨by simp, by simp⟩
  | true =>
    rw [if_pos rfl]
    cases hw : (l.waits || (l.pc == cs.length)) with
    | true => rw [if_pos rfl]; exact ⟨hm, hml⟩
    | false =>
      rw [if_neg (by simp)]
      unfold stepOk at hs
      simp only [Bool.and_eq_true] at hs
      simp only [Bool.or_eq_false_iff, beq_eq_false_iff_ne] at hw
      obtain ⟨hp, hk, h0, h1⟩ := lValid_ok hs.1
      obtain ⟨_, h2, _⟩ := step_ok hp hk (memValid_ok hs.2.1) (inB_i hs.2.2) (by have := hw.2; omega)
      exact ⟨fun x hx => by have := h2.2 x hx; omega, by have := h2.1; omega⟩
/-- The law, in plain Lean. -/
theorem steps_plain {l L : Ln} {cs : List Cd} {id : Int} {ms M : List Int} (hlm : stepV l cs id ms = (L, M)) (hm : M.length ≠ 0) (hw : l.waits = false) (hp : l.pc < cs.length) : 0 ≤ l.pc ∧ ∃ c, cs[l.pc.toNat]? = some c ∧ (c.op ≤ 9 → L.pc = l.pc + 1 ∧ L.waits = false ∧ L.turns = l.turns) := by
  unfold stepV at hlm
  cases hs : stepOk l cs id ms with
  | false => rw [hs, if_neg (by simp)] at hlm; cases hlm; exact absurd rfl hm
  | true =>
    rw [hs, if_pos rfl] at hlm
    have hne : ¬ l.pc = (cs.length : Int) := by omega
    rw [hw, Bool.false_or, if_neg (by simpa using hne)] at hlm
    unfold stepOk at hs
    simp only [Bool.and_eq_true] at hs
    obtain ⟨hpv, hk, h0, h1⟩ := lValid_ok hs.1
    refine ⟨h0, ?_⟩
    obtain ⟨q, hq⟩ : ∃ q : Nat, l.pc = q := ⟨l.pc.toNat, by omega⟩
    have hqt : l.pc.toNat = q := by omega
    obtain ⟨c, hc⟩ := get_lt (show q < cs.length by omega)
    rw [hqt]
    refine ⟨c, hc, fun h9 => ?_⟩
    have hcode : codeAt cs l.pc = c := by rw [hq]; exact codeAt_nat hc
    unfold lstep at hlm
    rw [hcode, if_neg (by omega), if_neg (by omega), if_neg (by omega), if_neg (by omega), if_neg (by omega)] at hlm
    cases hlm
    exact ⟨rfl, rfl, rfl⟩
set_option maxRecDepth 100000 in
set_option maxHeartbeats 8000000 in
theorem fnCodeSteps_walk (v : Value) (bs : List Int) (v2 : Value) (bs2 : List Int) (w0 : World) (h : RdI .u8 w0 v bs) (h2 : RdI .u8 w0 v2 bs2) : Calls Try.prog 7 #[v, v2] w0 fun e w' => e = .returned (.bool true) ∧ Below w0.heap.size w0 w' := by
  obtain ⟨ad, c, hv, hlc, hcm⟩ := h.shape
  obtain ⟨ad2, c2, hv2, hlc2, hcm2⟩ := h2.shape
  subst hv hv2
  have hB0 := Below.refl w0.heap.size w0
  by_cases hn : bs.length ≤ 1048576
  rotate_left
  · go_enter Try.func7, Try.ntmps7
    go_wp2
    go_ret
    exact ⟨rfl, hB0⟩
  by_cases hn2 : bs2.length ≤ 1048576
  rotate_left
  · go_enter Try.func7, Try.ntmps7
    go_wp2
    go_ret
    exact ⟨rfl, hB0⟩
  go_enter Try.func7, Try.ntmps7
  go_wp2_with fail
  refine (DrawStepLane_any _ bs _ h).mono ?_
  rintro e w1 ⟨r, t, lv, mv, l, cs, ms, id, rfl, hD⟩
  obtain ⟨ra, rc, hrv⟩ := own_shape hD.nr
  obtain ⟨ta, tc, htv⟩ := own_shape hD.nt
  obtain ⟨la, lc, hlv⟩ := own_shape hD.ol
  obtain ⟨ma, mc, hmv⟩ := own_shape hD.om
  subst hrv htv hlv hmv
  have hXA := Box4.new w1 (.slice ra l.regs.length rc) (.int .i64 l.pc) (.slice ta l.turns.length tc) (.bool l.waits) 31
  have hA := below_alloc w1 (.cells #[.slice ra l.regs.length rc, .int .i64 l.pc, .slice ta l.turns.length tc, .bool l.waits] 31)
  have hRA := OwI.below hD.nr hA
  have hTA := OwI.below hD.nt hA
  have hLA := owns_below hD.ol hA (Nat.le_refl _)
  have hMA := OwI.below hD.om hA
  have hBA := hD.bl.trans (hA.mono hD.bl.size)
  have HD := Lib.hid hD
  clear h h2 hA hD
  go_upto_region 4 with fail
  generalize w1.alloc _ = wA at *
  have HXA := Lib.hid hXA
  have hcl := HD.out.cl
  have hrw : RdI .i64 wA _ l.regs := rdI_of_owns hRA (fun x hx => far_wf (HD.out.li.1 x hx))
  have htw : RdI .i64 wA _ l.turns := rdI_of_owns hTA (fun x hx => far_wf (HD.out.li.2.1 x hx))
  have hlw : RdC wA _ cs := rdC_of_owns hLA (fun x hx => (HD.out.ci x hx).wf)
  have HTW := Lib.hid htw
  have HLW := Lib.hid hlw
  have hWR : ∀ x ∈ l.regs, (Lit.int .i64 x).wf = true := fun x hx => far_wf (HD.out.li.1 x hx)
  have hWT : ∀ x ∈ l.turns, (Lit.int .i64 x).wf = true := fun x hx => far_wf (HD.out.li.2.1 x hx)
  have hWM : ∀ x ∈ ms, (Lit.int .i64 x).wf = true := fun x hx => far_wf (by have := HD.out.mb x hx; omega)
  obtain ⟨L, M, hlm⟩ : ∃ L M, stepV l cs id ms = (L, M) := ⟨_, _, rfl⟩
  have hsi := stepV_in (id := id) (ms := ms) HD.out.li HD.out.cl
  have hsm := stepV_mem (l := l) (cs := cs) (id := id) HD.out.mb HD.out.ml
  have hc1 := implStepLane _ _ _ _ _ _ _ l cs ms id wA hRA hTA hMA hlw hWR hWT hWM
  rw [hlm] at hsi hsm hc1
  have HLM := Lib.hid hlm
  have HSI := Lib.hid hsi
  have HSM := Lib.hid hsm
  have HRA := Lib.hid hRA
  have HTA := Lib.hid hTA
  have HMA := Lib.hid hMA
  have HWR := Lib.hid hWR
  have HWT := Lib.hid hWT
  have HWM := Lib.hid hWM
  clear hrw htw hlw hlm hsi hsm hRA hTA hMA hWR hWT hWM hLA
  obtain ⟨x0, x1, x2, x3, x4⟩ := hXA
  go_wp2_with fail
  refine hc1.mono ?_
  rintro e w2 ⟨r2, t2, m2, rfl, n1, n2, n3, nd, nd2, hb2⟩
  clear hc1 x0 x1 x2 x3 x4
  obtain ⟨ra2, rc2, hrv⟩ := own_shape n1
  obtain ⟨ta2, tc2, htv⟩ := own_shape n2
  obtain ⟨ma2, mc2, hmv⟩ := own_shape n3
  subst hrv htv hmv
  have hXB := Box4.new w2 (.slice ra2 L.regs.length rc2) (.int .i64 L.pc) (.slice ta2 L.turns.length tc2) (.bool L.waits) 31
  have hA2 := below_alloc w2 (.cells #[.slice ra2 L.regs.length rc2, .int .i64 L.pc, .slice ta2 L.turns.length tc2, .bool L.waits] 31)
  have hAB := hb2.trans (hA2.mono hb2.size)
  have hrB : RdI .i64 _ _ L.regs := (rdI_of_owns n1 (fun x hx => far_wf (HSI.out.1 x hx))).below hA2 (Nat.le_refl _)
  have htB : RdI .i64 _ _ L.turns := (rdI_of_owns n2 (fun x hx => far_wf (HSI.out.2.1 x hx))).below hA2 (Nat.le_refl _)
  have hmB : RdI .i64 _ _ M := (rdI_of_owns n3 (fun x hx => far_wf (by have := HSM.out.1 x hx; omega))).below hA2 (Nat.le_refl _)
  have hX1 := HXA.out.below hAB (Nat.le_refl _)
  have hRB := OwI.below HRA.out hAB
  have hTB := OwI.below HTA.out hAB
  have hMB := OwI.below HMA.out hAB
  have hLB := HLW.out.below hAB (Nat.le_refl _)
  have hBB := hBA.trans (hAB.mono hBA.size)
  have hzB : wA.heap.size ≤ w2.heap.size := hb2.size
  clear n1 n2 n3 nd nd2 hb2 hA2 hAB HXA HRA HTA HMA HLW HTW hBA
  go_upto_region 5 with fail
  generalize hG : w2.alloc _ = wB at *
  clear hG
  have hc2 := specStepLane _ _ _ _ _ _ _ l cs ms id wB hRB hTB hMB hLB HWR.out HWT.out HWM.out
  rw [HLM.out] at hc2
  have HXB := Lib.hid hXB
  have HX1 := Lib.hid hX1
  have HRB := Lib.hid hrB
  have HTB := Lib.hid htB
  have HMB := Lib.hid hmB
  have HLB := Lib.hid hLB
  have hto := rdI_of_owns hTB HWT.out
  have HTO := Lib.hid hto
  clear hXB hrB htB hmB hRB hTB hMB hLB HWR HWT HWM hto
  obtain ⟨x0, x1, x2, x3, x4⟩ := hX1
  go_wp2_with fail
  refine hc2.mono ?_
  rintro e w3 ⟨r3, t3, m3, rfl, n1, n2, n3, nd, nd2, hb3⟩
  clear hc2 x0 x1 x2 x3 x4
  obtain ⟨ra3, rc3, hrv⟩ := own_shape n1
  obtain ⟨ta3, tc3, htv⟩ := own_shape n2
  obtain ⟨ma3, mc3, hmv⟩ := own_shape n3
  subst hrv htv hmv
  have hXC := Box4.new w3 (.slice ra3 L.regs.length rc3) (.int .i64 L.pc) (.slice ta3 L.turns.length tc3) (.bool L.waits) 31
  have hA3 := below_alloc w3 (.cells #[.slice ra3 L.regs.length rc3, .int .i64 L.pc, .slice ta3 L.turns.length tc3, .bool L.waits] 31)
  have hBC := hb3.trans (hA3.mono hb3.size)
  have hrC : RdI .i64 _ _ L.regs := (rdI_of_owns n1 (fun x hx => far_wf (HSI.out.1 x hx))).below hA3 (Nat.le_refl _)
  have htC : RdI .i64 _ _ L.turns := (rdI_of_owns n2 (fun x hx => far_wf (HSI.out.2.1 x hx))).below hA3 (Nat.le_refl _)
  have hmC : RdI .i64 _ _ M := (rdI_of_owns n3 (fun x hx => far_wf (by have := HSM.out.1 x hx; omega))).below hA3 (Nat.le_refl _)
  have hX1 := HX1.out.below hBC (Nat.le_refl _)
  have hXB := HXB.out.below hBC (Nat.le_refl _)
  have hrB := HRB.out.below hBC (Nat.le_refl _)
  have htB := HTB.out.below hBC (Nat.le_refl _)
  have hmB := HMB.out.below hBC (Nat.le_refl _)
  have hLB := HLB.out.below hBC (Nat.le_refl _)
  have hto := HTO.out.below hBC (Nat.le_refl _)
  have hBB3 := hBB.trans (hBC.mono hBB.size)
  clear n1 n2 n3 nd nd2 hb3 hA3 hBC HX1 HXB HRB HTB HMB HLB HTO hBB
  go_upto_region 6 with fail
  generalize hG : w3.alloc _ = wC at *
  clear hG
  have HX1 := Lib.hid hX1
  have HXB := Lib.hid hXB
  have HXC := Lib.hid hXC
  have HTB := Lib.hid htB
  have HMB := Lib.hid hmB
  have HMC := Lib.hid hmC
  have HLB := Lib.hid hLB
  have HTO := Lib.hid hto
  have hsl : Calls Try.prog 37 _ wC fun e w' => e = .returned (.bool true) ∧ Below wC.heap.size wC w' := sameLane_same (.agg #[.slice ra2 L.regs.length rc2, .int .i64 L.pc, .slice ta2 L.turns.length tc2, .bool L.waits]) (.agg #[.slice ra3 L.regs.length rc3, .int .i64 L.pc, .slice ta3 L.turns.length tc3, .bool L.waits]) L wC ⟨_, _, rfl, hrB, htB⟩ ⟨_, _, rfl, hrC, htC⟩
  clear hX1 htB hmB hmC hrB hrC htC hLB hto
  obtain ⟨x0, x1, x2, x3, x4⟩ := hXB
  obtain ⟨y0, y1, y2, y3, y4⟩ := hXC
  go_wp2_with fail
  refine hsl.mono ?_
  rintro e w4 ⟨rfl, hb4⟩
  clear hsl x0 x1 x2 x3 x4 y0 y1 y2 y3 y4
  have hmB := HMB.out.below hb4 (Nat.le_refl _)
  have hmC := HMC.out.below hb4 (Nat.le_refl _)
  have HLM := HLM
  have HL4 := Lib.hid (HLB.out.below hb4 (Nat.le_refl _))
  have HT4 := Lib.hid (HTO.out.below hb4 (Nat.le_refl _))
  have HU4 := Lib.hid (HTB.out.below hb4 (Nat.le_refl _))
  have HX4 := Lib.hid (HX1.out.below hb4 (Nat.le_refl _))
  have HY4 := Lib.hid (HXB.out.below hb4 (Nat.le_refl _))
  have hB4 := hBB3.trans (hb4.mono hBB3.size)
  clear hb4 HMB HMC HLB HTO HTB HX1 HXB HXC hBB3
  go_wp2_with fail
  refine (sameInts_same _ _ M _ hmB hmC).mono ?_
  rintro e w5 ⟨rfl, hb5⟩
  have hL5 := HL4.out.below hb5 (Nat.le_refl _)
  have HT5 := Lib.hid (HT4.out.below hb5 (Nat.le_refl _))
  have HU5 := Lib.hid (HU4.out.below hb5 (Nat.le_refl _))
  have hX5 := HX4.out.below hb5 (Nat.le_refl _)
  have hY5 := HY4.out.below hb5 (Nat.le_refl _)
  have hB5 := hB4.trans (hb5.mono hB4.size)
  clear hmB hmC hb5 HL4 HT4 HU4 HX4 HY4 hB4
  obtain ⟨x0, x1, x2, x3, x4⟩ := hX5
  obtain ⟨y0, y1, y2, y3, y4⟩ := hY5
  have hpc := HD.out.li.2.2
  by_cases hM0 : M.length = 0
  · have hm0 : (M.length : Int) = 0 := by omega
    have hm1 : ((M.length : Int) == 0) = true := by rw [beq_iff_eq]; omega
    clear hM0 hm0
    go_wp2_with (go_at_call 13; refine (alive_any _).mono ?_; rintro e w' ⟨rfl, rfl⟩)
    go_ret
    exact ⟨rfl, hB5⟩
  have hm1 : ((M.length : Int) == 0) = false := by rw [beq_eq_false_iff_ne]; omega
  cases hW : l.waits
  rotate_left
  · rw [hW] at x3
    go_wp2_with (go_at_call 13; refine (alive_any _).mono ?_; rintro e w' ⟨rfl, rfl⟩)
    go_ret
    exact ⟨rfl, hB5⟩
  rw [hW] at x3
  by_cases hge : (cs.length : Int) ≤ l.pc
  · go_wp2_with (go_at_call 13; refine (alive_any _).mono ?_; rintro e w' ⟨rfl, rfl⟩)
    go_ret
    exact ⟨rfl, hB5⟩
  obtain ⟨h0, cd, hcd, hres⟩ := steps_plain HLM.out hM0 hW (by omega)
  obtain ⟨q, hq⟩ : ∃ q : Nat, l.pc = q := ⟨l.pc.toNat, by omega⟩
  have hqt : l.pc.toNat = q := by omega
  rw [hqt] at hcd
  obtain ⟨a5, n5, b5, off5, hv5, _, _, _, hcell⟩ := hL5.form
  obtain ⟨hae, e0, _, _, _⟩ := hcell q cd hcd
  rw [hae] at hv5
  have hq1 : q < cs.length := by omega
  simp only [Value.slice.injEq] at hv5
  obtain ⟨rfl, _, rfl⟩ := hv5
  have hql : (q : Int) < cs.length := by omega
  rw [hq] at x1
  have HQ := Lib.hid hq
  have HRES := Lib.hid hres
  clear hcell hae hres hq hqt hcd hM0 hL5 hge
  by_cases h9 : cd.op ≤ 9
  · obtain ⟨r1, r2, r3⟩ := HRES.out h9
    rw [HQ.out] at r1
    rw [r1] at y1
    rw [r2] at y3
    have HSI2 := Lib.hid (sameInts_same _ _ L.turns _ HU5.out (by rw [r3]; exact HT5.out))
    clear r1 r2 r3 HRES
    go_wp2_with fail
    refine HSI2.out.mono ?_
    rintro e w6 ⟨rfl, hb6⟩
    have hB6 := hB5.trans (hb6.mono hB5.size)
    go_wp2
    go_ret
    exact ⟨rfl, hB6⟩
  · have h10 : ¬ cd.op ≤ 9 := h9
    have h11 : (9 : Int) < cd.op := by omega
    go_wp2_with (go_at_call 13; refine (alive_any _).mono ?_; rintro e w' ⟨rfl, rfl⟩)
    go_ret
    exact ⟨rfl, hB5⟩
namespace fnCodeSteps
set_option linter.unusedVariables false
set_option maxRecDepth 100000 in
theorem lifted (os : Os) (started : os.Started) (H : Type) (enc : TypeId × Value → H) :
    ReturnsInHanded {} Try.checked os 7 .any (Rows.fnCodeStepsSpec.pre6 enc Try.prog Try.f7 Rows.fnCodeStepsRow.domain false) (Rows.fnCodeStepsSpec.post enc Try.prog Try.f7 false true false false) := by
  refine returnsInHanded_of_change (C := Try.checked) own started (by kernel_rfl) Try.func7
    (ChangeSpec.witness6 (enc := enc) (C := Try.checked) false ⟨#[], #[.slice none 0 0, .slice none 0 0], []⟩ 8 (by kernel_rfl) (by kernel_rfl) (by kernel_rfl) (by kernel_rfl)) ?_
  intro W base args ds gs before hval0 hW hcnd _
  have hval : ∀ (j : Nat) t v, Try.f7.params[j]? = some t → args[j]? = some v → Value.okWide Try.prog W .any base t v := hval0
  have hW' := hW
  obtain ⟨p, q, hA0, hV, rfl, hfz, hnd⟩ := hW
  have hA : DataW.TrodAll enc Try.prog W 0 (fun _ => true) true Try.f7.params.toList args.toList ds p := hA0
  rw [Try.params7] at hA hval
  obtain ⟨v0, vs0, d0, ds0, p0, q0, hargs, rfl, rfl, h0, r0⟩ := trodAll_cons hA
  obtain ⟨v1, vs1, d1, ds1, p1, q1, rfl, rfl, rfl, h1, r1⟩ := trodAll_cons r0
  obtain ⟨rfl, rfl, rfl⟩ := trodAll_nil r1
  obtain rfl : args = #[v0, v1] := by cases args; simp_all
  obtain ⟨rfl, rfl⟩ := trodVars_none hV
  have k0 := h0
  have lt0 : ∀ x ∈ p0, x.block < W.heap.size := by obtain ⟨m, hm⟩ := k0; exact DataW.trod_lt m _ _ _ hm
  obtain ⟨z0, w0⟩ := open_rdI (kk := .u8) Try.underlying22 Try.underlying5 (by kernel_rfl) (hval 0 22 v0 rfl rfl) h0
  have k1 := h1
  have lt1 : ∀ x ∈ p1, x.block < W.heap.size := by obtain ⟨m, hm⟩ := k1; exact DataW.trod_lt m _ _ _ hm
  obtain ⟨z1, w1⟩ := open_rdI (kk := .u8) Try.underlying22 Try.underlying5 (by kernel_rfl) (hval 1 22 v1 rfl rfl) h1
  clear hA0 hval0
  refine (fnCodeSteps_walk v0 z0 v1 z1 W w0 w1).mono fun e W' ⟨he, bel⟩ => ?_
  subst he
  exact ⟨_, rfl, _, _, _, [], _, [], hW', trodAll_mk1 (shut_bool Try.underlying4 _), (trodAll_cons_mk (Below.trod laidOut (by kernel_rfl) (of_decide_eq_true (by kernel_rfl)) k0 bel lt0) (trodAll_cons_mk (Below.trod laidOut (by kernel_rfl) (of_decide_eq_true (by kernel_rfl)) k1 bel lt1) trodAll_mk0)), rfl, bel.frame _, fun h => by cases h⟩
theorem over : Rows.fnCodeStepsRow.holds Try.pinned (OpenSpec.ofChange Rows.fnCodeStepsSpec) :=
  OpenClaim.holds_of_wide 7 Try.f7 rfl rfl rfl rfl rfl rfl rfl ⟨rfl, rfl, rfl, rfl, rfl⟩ rfl rfl rfl rfl rfl (by kernel_rfl) Try.func7 (by kernel_rfl)
    (of_decide_eq_true (by kernel_rfl)) (by unfold Func.isWrapper; first | (rw [if_pos (by decide +kernel)]; kernel_rfl) | (rw [if_neg (by decide +kernel)]; exact ⟨rfl, rfl⟩))
    (fun os started H enc _ => lifted os started H enc)
end fnCodeSteps
/-- The given statement on FnCodeSteps. -/
theorem fnCodeSteps_holds : Rows.FnCodeStepsSaid := fnCodeSteps.over
#print axioms fnCodeSteps_holds
end Go.Proofs.Ytmjkjdibolcblaa
