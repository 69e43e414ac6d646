/- YtmjkjdibolcblaaMachS: a step of the program's machine. Conditions: the program is valid, the lane and the memory fit it. -/
import Derived.Test.YtmjkjdibolcblaaMachG
import Derived.StillTailTactics
namespace Go.Proofs.Ytmjkjdibolcblaa
open Go.ChangeShapes Go.WideShapes Go.ChangeAt Go.RowKit
set_option linter.unusedVariables false
set_option maxRecDepth 100000 in
set_option maxHeartbeats 4000000 in
theorem step_stop (w0 : World) (b lo m X gm cm : Nat) (la : Option Addr) (ln : Nat) (r t : Value) (rs ts ms : List Int) (pc : Int) (wt : Bool) (cs : List Cd) (id : Int) (wr : World) (hln : cs.length ≤ ln ∧ ln ≤ 9223372036854775807) (hs : (wt || (pc == cs.length)) = true)
    (h : RI w0 b lo m X gm cm (.slice la cs.length ln) r t ⟨rs, pc, ts, wt⟩ ms cs wr) :
    Calls Try.prog 48 #[.pointer (some ⟨m, 0, none⟩), .pointer (some ⟨X, 0, none⟩), .int .i64 id, .slice (some ⟨gm, 0, none⟩) ms.length cm] wr (StI w0 b lo m X gm cm (.slice la cs.length ln) r cs ⟨rs, pc, ts, wt⟩ ms) := by
  have HD := Lib.hid (isDone_any cs wr lo m X la ln r t pc wt h.mach h.kX hln)
  have HH := Lib.hid h
  have HS := Lib.hid hs
  obtain ⟨x0, x1, x2, x3, x4⟩ := h.kX
  simp only at x3
  clear h hs
  cases wt
  · have hp := HS.out
    rw [Bool.false_or] at hp
    have HP := Lib.hid hp
    clear hp
    go_enter Try.func48, Try.ntmps48
    go_wp2_with fail
    refine HD.out.mono ?_
    rintro e w1 ⟨rfl, hb1⟩
    rw [HP.out]
    go_wp2
    go_end0
    exact ⟨rfl, _, HH.out.below hb1⟩
  · go_enter Try.func48, Try.ntmps48
    go_wp2
    go_end0
    exact ⟨rfl, _, HH.out⟩
set_option maxRecDepth 100000 in
set_option maxHeartbeats 16000000 in
theorem step_go (w0 : World) (b lo m X gm cm : Nat) (la : Option Addr) (ln : Nat) (r t : Value) (rs ts ms : List Int) (q : Nat) (cs : List Cd) (id : Int) (wr : World) (hc : RdC w0 (.slice la cs.length ln) cs) (hp : pValid cs = true) (hk : LOK cs ⟨rs, q, ts, false⟩) (hm : MOK ms) (hid : 0 ≤ id ∧ id ≤ 7) (hql : q < cs.length)
    (h : RI w0 b lo m X gm cm (.slice la cs.length ln) r t ⟨rs, q, ts, false⟩ ms cs wr) :
    Calls Try.prog 48 #[.pointer (some ⟨m, 0, none⟩), .pointer (some ⟨X, 0, none⟩), .int .i64 id, .slice (some ⟨gm, 0, none⟩) ms.length cm] wr (StI w0 b lo m X gm cm (.slice la cs.length ln) r cs (lstep cs id ⟨rs, q, ts, false⟩ ms).1 (lstep cs id ⟨rs, q, ts, false⟩ ms).2) := by
  obtain ⟨d, hd⟩ := get_lt hql
  have h40 := pValid_len hp
  have hcv := pValid_code hp hd
  have hln : cs.length ≤ ln ∧ ln ≤ 9223372036854775807 := by
    obtain ⟨la', ln', hlv, h1, h2⟩ := hc.shape
    simp only [Value.slice.injEq, true_and] at hlv
    obtain ⟨rfl, rfl⟩ := hlv
    exact ⟨h1, h2⟩
  have HD := Lib.hid (isDone_any cs wr lo m X la ln r t q false h.mach h.kX hln)
  have hrl : rs.length = 4 := hk.len
  obtain ⟨gr, rc, hrv, orr, hrc1, hrc2⟩ := OI.shape h.nr (by show 0 < rs.length; omega)
  subst hrv
  obtain ⟨ta, tc, htv⟩ := own_shape h.nt
  subst htv
  have hqe : ((q : Int) == (cs.length : Int)) = false := by simp; omega
  obtain ⟨v1, v2, v3, v4, v5, v6, v7, v8, v9, v10⟩ := cValid_bd hcv
  obtain ⟨L, hL⟩ : ∃ L, lstep cs id ⟨rs, q, ts, false⟩ ms = L := ⟨_, rfl⟩
  rw [hL]
  have HL := Lib.hid hL
  have HC := Lib.hid hc
  have HK := Lib.hid hk
  have HM := Lib.hid hm
  have HH := Lib.hid h
  have HQ := Lib.hid hqe
  have HCV := Lib.hid hcv
  have HDD := Lib.hid hd
  have HRL := Lib.hid hrl
  have hll := hln
  obtain ⟨x0, x1, x2, x3, x4⟩ := h.kX
  simp only at x3
  clear h hc hk hm hL hqe hcv hd hrl orr x0 x1 x2 hln
  go_enter Try.func48, Try.ntmps48
  go_wp2_with fail
  refine HD.out.mono ?_
  rintro e w1 ⟨rfl, hb1⟩
  rw [HQ.out]
  have HS1 := Lib.hid (HH.out.below hb1)
  clear hb1 HD HH x3 x4
  -- the instruction into a box
  have hc1 := HC.out.below HS1.out.kB (by rw [HS1.out.wb]; exact Nat.le_refl _)
  obtain ⟨la', ln', lb, lo', hlv, hln1, hln2, hlb, hcell⟩ := hc1.form
  obtain ⟨rfl, d0, d1, d2, d3⟩ := hcell q d HDD.out
  simp only [Value.slice.injEq, true_and] at hlv
  obtain ⟨rfl, rfl⟩ := hlv
  have hlb1 : lb < w1.heap.size := hlb (by rintro rfl; simp at hql)
  obtain ⟨op, dA, dB, dC⟩ := d
  simp only at d0 d1 d2 d3 v1 v2
  obtain ⟨hi, va, vo, _, _, _, hml, m0, m1⟩ := HS1.out.mach
  obtain ⟨x0, x1, x2, x3, x4⟩ := HS1.out.kX
  simp only at x0 x1 x2 x3
  obtain ⟨W, hW⟩ : ∃ W, W = (w1.alloc (.cells #[.int .i64 op, .int .i64 dA, .int .i64 dB, .int .i64 dC] 24)).drew := ⟨_, rfl⟩
  obtain ⟨Y, hY⟩ : ∃ Y, w1.heap.size = Y := ⟨_, rfl⟩
  have hb2 : Below w1.heap.size w1 W := by rw [hW]; exact (below_alloc w1 _).drew
  have hBx : Box4 W Y (.int .i64 op) (.int .i64 dA) (.int .i64 dB) (.int .i64 dC) := by
    have hx := Box4.new w1 (.int .i64 op) (.int .i64 dA) (.int .i64 dB) (.int .i64 dC) 24
    rw [hY] at hx
    rw [hW]; exact ⟨hx.at0, hx.at1, hx.at2, hx.at3, hx.lt⟩
  have HS := Lib.hid (HS1.out.below hb2)
  have HBX := Lib.hid hBx
  have HW := Lib.hid hW
  have HY := Lib.hid hY
  clear hcell hc1 hlb hW hY hb2 hBx m1 v3 v4 v5 v6 v7 v8 v9 v10 hrc1 hrc2
  go_wp2_with fail
  go_region
  go_upto_region 2 with fail
  rw [← HW.out, HY.out]
  have HG : Hid (m < Y ∧ gr < Y) := Lib.hid (by
    have h1 := own_lt HS1.out.nr gr rfl
    have h2 := HS1.out.mach.lt
    rw [HY.out] at h1 h2
    exact ⟨h2.2, h1⟩)
  clear m0 d0 d1 d2 d3 x0 x1 x2 x3 x4 hml hlb1 hll hln1 hln2 HS1
  obtain ⟨y0, y1, y2, y3, y4⟩ := HBX.out
  as_aux_lemma =>
    rcases (show op ≤ 10 ∨ op = 11 ∨ op = 13 ∨ op = 12 ∨ op = 14 by omega) with ho | rfl | rfl | rfl | rfl
    · have hgm := HS.out.mm
      have hg1 := HS.out.xr gr rfl
      have hsl := simple_ok (c := ⟨op, dA, dB, dC⟩) HK.out.regs HM.out HCV.out hid
      obtain ⟨Wd, hWd⟩ : ∃ y, y = W.drew := ⟨_, rfl⟩
      have hS3 := HS.out.below (show Below W.heap.size W Wd by rw [hWd]; exact (Below.refl _ _).drew)
      have hBd := HBX.out.below (show Below W.heap.size W Wd by rw [hWd]; exact (Below.refl _ _).drew) (Nat.le_refl _)
      have hcl := simple_impl_any 0 gr rc gm cm rs ms ⟨op, dA, dB, dC⟩ id Wd ((OI.mk hS3.nr).rebase (Nat.zero_le _)) (hS3.mm.rebase (Nat.zero_le _)) hg1.2.1 HRL.out HK.out.regs HM.out HCV.out ho
      have hgY : ¬ (Y = gr ∨ Y = gm) := fun hh => by have h1 := own_lt HS.out.nr gr rfl; have h2 := HS.out.mach.lt; have h3 := HS.out.gl; have h4 := HG.out; rcases hh with hh | hh <;> omega
      have hL2 : L = (⟨(simple rs ms ⟨op, dA, dB, dC⟩ id).1, q + 1, ts, op == 10⟩, (simple rs ms ⟨op, dA, dB, dC⟩ id).2) := by
        rw [← HL.out]
        by_cases h10 : op = 10
        · subst h10
          rw [lstep_bar HDD.out rfl]; rfl
        · rw [lstep_simple HDD.out (by show op < 10; omega)]
          have : (op == 10) = false := by simpa using h10
          rw [this]
      have HL2 := Lib.hid hL2
      simp only at hcl
      have HCL := Lib.hid hcl
      have HSL := Lib.hid hsl.1
      have HS3 := Lib.hid hS3
      have HWD := Lib.hid hWd
      have e1 : (op == 11) = false := by simp; omega
      have e2 : (op == 12) = false := by simp; omega
      have e3 : (op == 13) = false := by simp; omega
      have e4 : (op == 14) = false := by simp; omega
      clear hcl hsl hS3 hWd HL hL2 hgm
      obtain ⟨x0, x1, x2, x3, x4⟩ := HS3.out.kX
      obtain ⟨z0, z1, z2, z3, z4⟩ := hBd
      simp only at x0 x1 x2 x3
      as_aux_lemma =>
        go_upto_region 3 with fail
        refine wp_region_still_tail 7 (by kernel_rfl) (by kernel_rfl) ?_
        rw [World.drew_eq, ← HWD.out]
        clear y0 y1 y2 y3 y4 e1 e2 e3 e4
        simp only [List.take_succ_cons, List.take_zero, List.drop_succ_cons, List.drop_zero]
        repeat still_step
        refine wpStill_nil ?_
        go_wp2_with fail
        refine HCL.out.mono ?_
        rintro e w3 ⟨rfl, s1, s2, s3⟩
        have hz0 := (s3.cell z4 hgY).trans z0
        have HF := Lib.hid (HS3.out.sim rfl s1 s2 HSL.out s3)
        clear s1 s2 s3 x0 x1 x2 x3 x4 z0 z1 z2 z3 z4
        obtain ⟨x0, x1, x2, x3, x4⟩ := HF.out.kX
        have f1 := HF.out.fX 1
        have f3 := HF.out.fX 3
        simp only at x0 x1 x2 x3
        go_wp2
        go_end0
        exact ⟨rfl, _, by rw [HL2.out]; exact HF.out.cells ((Wr_set0 _ X 3 _).trans (Wr_set0 _ X 1 _)) ((HF.out.kX.s3 _).s1 _) (fun o => by simp; exact HF.out.fX o)⟩
    · have he := enter_any w0 b lo m X gm cm (some ⟨lb, lo', none⟩) ln (.slice (some ⟨gr, 0, none⟩) rs.length rc) (.slice ta ts.length tc) rs ts ms q _ cs id W HC.out hp HK.out HDD.out (.inl rfl) HS.out
      rw [HL.out] at he
      have hl2 : L.2 = ms := by rw [← HL.out, lstep_if HDD.out rfl]
      have HE := Lib.hid he
      have HL2 := Lib.hid hl2
      clear he hl2 HL
      as_aux_lemma =>
        go_wp2_with fail
        refine HE.out.mono ?_
        rintro e w3 ⟨rfl, t', hR⟩
        have HR := Lib.hid hR
        clear hR
        go_wp2
        go_end0
        exact ⟨rfl, _, by rw [HL2.out]; exact HR.out⟩
    · have he := enter_any w0 b lo m X gm cm (some ⟨lb, lo', none⟩) ln (.slice (some ⟨gr, 0, none⟩) rs.length rc) (.slice ta ts.length tc) rs ts ms q _ cs id W HC.out hp HK.out HDD.out (.inr rfl) HS.out
      rw [HL.out] at he
      have hl2 : L.2 = ms := by rw [← HL.out, lstep_loop HDD.out rfl]
      have HE := Lib.hid he
      have HL2 := Lib.hid hl2
      clear he hl2 HL
      as_aux_lemma =>
        go_wp2_with fail
        refine HE.out.mono ?_
        rintro e w3 ⟨rfl, t', hR⟩
        have HR := Lib.hid hR
        clear hR
        go_wp2
        go_end0
        exact ⟨rfl, _, by rw [HL2.out]; exact HR.out⟩
    · obtain ⟨p0, c0, har, hp0, hcc, hco⟩ := around_in hp HDD.out (Or.inl rfl)
      obtain ⟨en, oth, hbe, he1, ho1, ho2⟩ := end_in hp hcc hco
      obtain ⟨Wd, hWd⟩ : ∃ y, y = W.drew := ⟨_, rfl⟩
      have hD := HS.out.below (show Below W.heap.size W Wd by rw [hWd]; exact (Below.refl _ _).drew)
      have HWD := Lib.hid hWd
      clear hWd
      obtain ⟨O, P, m0, m1, hO, b0, b1, b2, lO, lP, _⟩ := hD.mach.own HDD.out p0 ⟨c0, hcc, hco⟩ (.inr ⟨.inl rfl, har⟩)
      have hL2 : L = (⟨rs, (en : Int) + 1, ts, false⟩, ms) := by rw [← HL.out, lstep_else HDD.out rfl, har, Int.toNat_natCast, hbe]
      rw [hbe] at b2
      simp only at b2
      have HL2 := Lib.hid hL2
      have HD := Lib.hid hD
      obtain ⟨x0, x1, x2, x3, x4⟩ := HD.out.kX
      simp only at x0 x1 x2 x3
      have f1 := HD.out.fX 1
      clear hD hL2 HL har hbe hcc hco ho1 ho2 b0 b1
      as_aux_lemma =>
        go_upto_region 10 with fail
        refine wp_region_still_tail 17 (by kernel_rfl) (by kernel_rfl) ?_
        rw [World.drew_eq, ← HWD.out]
        clear y0 y1 y2 y3 y4
        simp only [List.take_succ_cons, List.take_zero, List.drop_succ_cons, List.drop_zero]
        repeat still_step
        refine wpStill_nil ?_
        go_wp2
        go_end0
        exact ⟨rfl, _, by rw [HL2.out]; exact HD.out.cells (Wr_set0 _ X 1 _) (HD.out.kX.s1 _) (fun o => by simp; exact HD.out.fX o)⟩
    · have he := leave_any w0 b lo m X gm cm (some ⟨lb, lo', none⟩) ln (.slice (some ⟨gr, 0, none⟩) rs.length rc) (.slice ta ts.length tc) rs ts ms q _ cs id W HC.out hp HK.out HDD.out rfl HS.out
      rw [HL.out] at he
      have hl2 : L.2 = ms := by rw [← HL.out, lstep_end HDD.out rfl]
      have HE := Lib.hid he
      have HL2 := Lib.hid hl2
      clear he hl2 HL
      as_aux_lemma =>
        go_wp2_with fail
        refine HE.out.mono ?_
        rintro e w3 ⟨rfl, t', hR⟩
        have HR := Lib.hid hR
        clear hR
        go_wp2
        go_end0
        exact ⟨rfl, _, by rw [HL2.out]; exact HR.out⟩
end Go.Proofs.Ytmjkjdibolcblaa
