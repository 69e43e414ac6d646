/- YtmjkjdibolcblaaStepU: the reference's RunLane: what it returns, in new memory. Conditions: the numbers of the arguments are integers of 64 bits. -/
import Derived.Test.YtmjkjdibolcblaaRunP
namespace Go.Proofs.Ytmjkjdibolcblaa
open Go.ChangeShapes Go.WideShapes Go.ChangeAt Go.RowKit
set_option linter.unusedVariables false
/-- The state of a run: the lane in block X, the memory in gm, the result's block b + 1. -/
structure R4 (w : World) (b X gm cm : Nat) (lv r t : Value) (l : Ln) (m : List Int) (cs : List Cd) (wr : World) : Prop where
  wb : w.heap.size = b
  bX : b + 2 ≤ X
  kY : Box4 wr (b + 1) (.slice none 0 0) (.int .i64 0) (.slice none 0 0) (.bool false)
  kG : ∀ o, wr.frozen? ⟨b + 1, o, none⟩ = false
  kB : Below b w wr
  kX : Box4 wr X r (.int .i64 l.pc) t (.bool l.waits)
  fX : ∀ o, wr.frozen? ⟨X, o, none⟩ = false
  nr : OwI (b + 2) wr r l.regs
  nt : OwI (b + 2) wr t l.turns
  nd : ∀ k, r.ownBlock = some k → t.ownBlock ≠ some k
  xr : ∀ k, r.ownBlock = some k → k ≠ X ∧ k ≠ gm
  xt : ∀ k, t.ownBlock = some k → k ≠ X ∧ k ≠ gm
  mm : OI (b + 2) wr gm cm m
  gX : gm ≠ X
  kc : RdC wr lv cs
theorem R4.next {w : World} {b X gm cm : Nat} {la : Option Addr} {ln : Nat} {r t : Value} {l : Ln} {m : List Int} {cs : List Cd} {wr w' : World} {r' t' : Value} {L : Ln} {M : List Int} (h : R4 w b X gm cm (.slice la cs.length ln) r t l m cs wr) (hc : RdC w (.slice la cs.length ln) cs)
    (n1 : OwI wr.heap.size w' r' L.regs) (n2 : OwI wr.heap.size w' t' L.turns) (nd : ∀ k, r'.ownBlock = some k → t'.ownBlock ≠ some k) (mm : OI (b + 2) w' gm cm M) (hw : Wr wr w' (fun k => k = gm)) :
    R4 w b X gm cm (.slice la cs.length ln) r' t' L M cs ((((w'.setCell ⟨X, 0, none⟩ r').setCell ⟨X, 1, none⟩ (.int .i64 L.pc)).setCell ⟨X, 2, none⟩ t').setCell ⟨X, 3, none⟩ (.bool L.waits)) := by
  have hbX := h.bX
  have hgb := h.mm.ge
  have hgl := h.mm.lt
  have hxl := h.kX.lt
  have hgX := h.gX
  have hws := Wr_set4 w' X r' (.int .i64 L.pc) t' (.bool L.waits)
  have hyl := h.kY.lt
  have hB : Below b w w' := Below.wr h.kB hw (by omega) (fun k hk => by omega)
  have hB2 := Below.wr hB hws (by have := hw.size; omega) (fun k hk => by omega)
  have hXw := h.kX.wr hw (fun hh => hgX hh.symm)
  exact ⟨h.wb, hbX, (h.kY.wr hw (by omega)).wr hws (by omega), fun o => (hws.frozen (Nat.lt_of_lt_of_le hyl hw.size) (by omega)).trans ((hw.frozen hyl (by omega)).trans (h.kG o)), hB2, hXw.set4 _ _ _ _, fun o => by simp; exact (hw.frozen hxl (fun hh => hgX hh.symm)).trans (h.fX o),
    own_mono (show OwI wr.heap.size _ _ _ from hws.owns n1 (fun k hk hh => by have := own_ge n1 k hk; omega)) (by omega), own_mono (show OwI wr.heap.size _ _ _ from hws.owns n2 (fun k hk hh => by have := own_ge n2 k hk; omega)) (by omega), nd, fun k hk => by have := own_ge n1 k hk; omega, fun k hk => by have := own_ge n2 k hk; omega, mm.wr hws (fun hh => hgX hh), hgX, hc.below hB2 (by rw [h.wb]; exact Nat.le_refl _)⟩
set_option maxRecDepth 100000 in
set_option maxHeartbeats 16000000 in
theorem specRunLane (B1 B2 Bm : Nat) (r t mv lv : Value) (l : Ln) (cs : List Cd) (ms : List Int) (id : Int) (w : World) (hr : OwI B1 w r l.regs) (ht : OwI B2 w t l.turns) (hmv : OwI Bm w mv ms) (hc : RdC w lv cs)
    (hwr : ∀ x ∈ l.regs, (Lit.int .i64 x).wf = true) (hwt : ∀ x ∈ l.turns, (Lit.int .i64 x).wf = true) (hwm : ∀ x ∈ ms, (Lit.int .i64 x).wf = true) :
    Calls Try.prog 34 #[.agg #[r, .int .i64 l.pc, t, .bool l.waits], lv, .int .i64 id, mv] w (fun e w' => ∃ L M, RunV l cs id ms L M ∧ StepO w L M e w') := by
  obtain ⟨b, hb⟩ : ∃ x, w.heap.size = x := ⟨_, rfl⟩
  obtain ⟨ra, rc, hrv⟩ := own_shape hr
  obtain ⟨ta, tc, htv⟩ := own_shape ht
  obtain ⟨ma, mc, hmvv⟩ := own_shape hmv
  obtain ⟨la, ln, hlv, hln1, hln2⟩ := hc.shape
  subst hrv htv hmvv hlv
  obtain ⟨L, M, hLM⟩ := runV_ex l cs id ms
  have hc0 := hc
  obtain ⟨W, hW⟩ : ∃ W, W = ((w.alloc (.cells #[.slice ra l.regs.length rc, .int .i64 l.pc, .slice ta l.turns.length tc, .bool l.waits] 31)).alloc (.cells #[.slice none 0 0, .int .i64 0, .slice none 0 0, .bool false] 31)) := ⟨_, rfl⟩
  have h1 := below_alloc w (.cells #[.slice ra l.regs.length rc, .int .i64 l.pc, .slice ta l.turns.length tc, .bool l.waits] 31)
  have h2 := below_alloc (w.alloc (.cells #[.slice ra l.regs.length rc, .int .i64 l.pc, .slice ta l.turns.length tc, .bool l.waits] 31)) (.cells #[.slice none 0 0, .int .i64 0, .slice none 0 0, .bool false] 31)
  have h3 := (h1.trans (h2.mono h1.size))
  have hX := ((Box4.new w (.slice ra l.regs.length rc) (.int .i64 l.pc) (.slice ta l.turns.length tc) (.bool l.waits) 31).below h2 (Nat.le_refl _))
  have hX3 := Box4.new (w.alloc (.cells #[.slice ra l.regs.length rc, .int .i64 l.pc, .slice ta l.turns.length tc, .bool l.waits] 31)) (.slice none 0 0) (.int .i64 0) (.slice none 0 0) (.bool false) 31
  have hF3 := fun o => frozen_of_row ((w.alloc (.cells #[.slice ra l.regs.length rc, .int .i64 l.pc, .slice ta l.turns.length tc, .bool l.waits] 31)).alloc (.cells #[.slice none 0 0, .int .i64 0, .slice none 0 0, .bool false] 31)) (w.alloc (.cells #[.slice ra l.regs.length rc, .int .i64 l.pc, .slice ta l.turns.length tc, .bool l.waits] 31)).heap.size o #[.slice none 0 0, .int .i64 0, .slice none 0 0, .bool false] 31 (heap_alloc_new _ _)
  rw [World.size_alloc] at hX3 hF3
  rw [hb] at hX hX3 hF3
  have kX : Box4 W b (.slice ra l.regs.length rc) (.int .i64 l.pc) (.slice ta l.turns.length tc) (.bool l.waits) := by rw [hW]; exact ⟨hX.at0, hX.at1, hX.at2, hX.at3, hX.lt⟩
  have kY : Box4 W (b + 1) (.slice none 0 0) (.int .i64 0) (.slice none 0 0) (.bool false) := by rw [hW]; exact ⟨hX3.at0, hX3.at1, hX3.at2, hX3.at3, hX3.lt⟩
  have kG : ∀ o, W.frozen? ⟨b + 1, o, none⟩ = false := by rw [hW]; exact hF3
  have kB : Below b w W := by rw [hW, ← hb]; exact h3
  have kr : OwI B1 W (.slice ra l.regs.length rc) l.regs := by rw [hW]; exact hr.below h3
  have kt : OwI B2 W (.slice ta l.turns.length tc) l.turns := by rw [hW]; exact ht.below h3
  have km : OwI Bm W (.slice ma ms.length mc) ms := by rw [hW]; exact hmv.below h3
  have kc : RdC W (.slice la cs.length ln) cs := by rw [hW]; exact hc.below h3 (Nat.le_refl _)
  have kz : b + 2 ≤ W.heap.size := by rw [hW, ← hb]; simp
  have HB := Lib.hid hb
  have HW := Lib.hid hW
  have HLM := Lib.hid hLM
  have HC0 := Lib.hid hc0
  clear hc0
  have HWR := Lib.hid hwr
  have HWT := Lib.hid hwt
  have HWM := Lib.hid hwm
  clear h1 h2 h3 hX hX3 hF3 hr ht hmv hc hb hW hLM hwr hwt hwm
  obtain ⟨V, hV⟩ : ∃ V, lValid l cs = V := ⟨_, rfl⟩
  obtain ⟨N, hN⟩ : ∃ V, memValid ms = V := ⟨_, rfl⟩
  obtain ⟨I, hI⟩ : ∃ V, inB id 0 7 = V := ⟨_, rfl⟩
  have hst : stepOk l cs id ms = (V && (N && I)) := by unfold stepOk; rw [hV, hN, hI]
  have HST := Lib.hid hst
  have HV := Lib.hid hV
  have HN := Lib.hid hN
  have HI := Lib.hid hI
  clear hst hV hN hI
  go_enter Try.func34, Try.ntmps34
  have hS : S3 B1 B2 Bm w b (.slice la cs.length ln) (.slice ra l.regs.length rc) (.slice ta l.turns.length tc) (.slice ma ms.length mc) l cs ms W := ⟨HB.out, kX, kY, kG, kB, kr, kt, km, kc⟩
  have HS := Lib.hid hS
  clear kX kY kG kB kr kt km kc hS
  have hkz : b + 2 ≤ W.heap.size := kz
  go_wp2_with fail
  rw [← HW.out, HB.out]
  refine (specLaneValid _ _ (.slice la cs.length ln) l cs W (rdI_of_owns HS.out.kr HWR.out) (rdI_of_owns HS.out.kt HWT.out) HS.out.kc).mono ?_
  rintro e w1 ⟨rfl, hb1⟩
  rw [HV.out]
  have hS1 := HS.out.below hb1
  have HS1 := Lib.hid hS1
  have hz1 := hb1.size
  clear HS HW hS1 hb1
  obtain ⟨x0, x1, x2, x3, x4⟩ := HS1.out.kX
  obtain ⟨y0, y1, y2, y3, y4⟩ := HS1.out.kY
  have f0 := HS1.out.kG 0
  have f1 := HS1.out.kG 1
  have f2 := HS1.out.kG 2
  have f3 := HS1.out.kG 3
  cases V
  · rw [Bool.false_and] at HST
    have HLZ := HLM.out
    rw [RunV, HST.out, if_neg (by simp)] at HLZ
    obtain ⟨rfl, rfl⟩ := HLZ
    have HZ := Lib.hid (stepO_zero HB.out HS1.out.kY HS1.out.kB)
    go_wp2
    obtain ⟨hR, z0, z1, z2, z3, _⟩ := HZ.out
    refine bodyPost_ret (v := .tuple #[.agg #[.slice none 0 0, .int .i64 0, .slice none 0 0, .bool false], .slice (some ⟨w1.heap.size, 0, none⟩) 0 0]) (by simp [results, Try.results34, go_sem, z0, z1, z2, z3]) rfl ⟨_, _, HLM.out, hR⟩
  rw [Bool.true_and] at HST
  go_wp2_with fail
  refine (specMemoryValid _ ms w1 (rdI_of_owns HS1.out.km HWM.out)).mono ?_
  rintro e w' ⟨rfl, rfl⟩
  rw [HN.out]
  cases N
  · rw [Bool.false_and] at HST
    have HLZ := HLM.out
    rw [RunV, HST.out, if_neg (by simp)] at HLZ
    obtain ⟨rfl, rfl⟩ := HLZ
    have HZ := Lib.hid (stepO_zero HB.out HS1.out.kY HS1.out.kB)
    go_wp2
    obtain ⟨hR, z0, z1, z2, z3, _⟩ := HZ.out
    refine bodyPost_ret (v := .tuple #[.agg #[.slice none 0 0, .int .i64 0, .slice none 0 0, .bool false], .slice (some ⟨w1.heap.size, 0, none⟩) 0 0]) (by simp [results, Try.results34, go_sem, z0, z1, z2, z3]) rfl ⟨_, _, HLM.out, hR⟩
  rw [Bool.true_and] at HST
  go_wp2_with fail
  refine (l1In_any id 0 7 w1).mono ?_
  rintro e w' ⟨rfl, rfl⟩
  rw [HI.out]
  cases I
  ·
    have HLZ := HLM.out
    rw [RunV, HST.out, if_neg (by simp)] at HLZ
    obtain ⟨rfl, rfl⟩ := HLZ
    have HZ := Lib.hid (stepO_zero HB.out HS1.out.kY HS1.out.kB)
    go_wp2
    obtain ⟨hR, z0, z1, z2, z3, _⟩ := HZ.out
    refine bodyPost_ret (v := .tuple #[.agg #[.slice none 0 0, .int .i64 0, .slice none 0 0, .bool false], .slice (some ⟨w1.heap.size, 0, none⟩) 0 0]) (by simp [results, Try.results34, go_sem, z0, z1, z2, z3]) rfl ⟨_, _, HLM.out, hR⟩
  obtain ⟨hpv, hlok, hpc0, hpc1⟩ := lValid_ok HV.out
  have hrl := (lok_small hpv hlok).1
  have htl := (lok_small hpv hlok).2.1
  have hmok := memValid_ok HN.out
  have hid := inB_i HI.out
  have hml := hmok.1
  have hLM2 := HLM.out
  rw [RunV, HST.out, if_pos rfl] at hLM2
  have HLM2 := Lib.hid hLM2
  clear hLM2 HST
  go_wp2_with fail
  refine (l6Copy_any B1 B2 _ _ l w1 HS1.out.kr HS1.out.kt hrl htl).mono ?_
  rintro e w5 ⟨r', t', rfl, n1, n2, nd, hb5⟩
  obtain ⟨a3, c3, hs3⟩ := own_shape n1
  obtain ⟨a4, c4, hs4⟩ := own_shape n2
  subst hs3 hs4
  have hS5 := HS1.out.below hb5
  have hz5 := hb5.size
  obtain ⟨X, hX⟩ : ∃ x, w5.heap.size = x := ⟨_, rfl⟩
  have hR5 : ∀ (gm c6 : Nat) (w6 : World), Below (w5.alloc (.cells #[.slice a3 l.regs.length c3, .int .i64 l.pc, .slice a4 l.turns.length c4, .bool false] 31)).heap.size (w5.alloc (.cells #[.slice a3 l.regs.length c3, .int .i64 l.pc, .slice a4 l.turns.length c4, .bool false] 31)) w6 → OI (X + 1) w6 gm c6 ms → R4 w b X gm c6 (.slice la cs.length ln) (.slice a3 l.regs.length c3) (.slice a4 l.turns.length c4) ⟨l.regs, l.pc, l.turns, false⟩ ms cs w6 := by
    intro gm c6 w6 hb6 hm6
    have hA5 := below_alloc w5 (.cells #[.slice a3 l.regs.length c3, .int .i64 l.pc, .slice a4 l.turns.length c4, .bool false] 31)
    have hXb := (Box4.new w5 (.slice a3 l.regs.length c3) (.int .i64 l.pc) (.slice a4 l.turns.length c4) (.bool false) 31).below hb6 (Nat.le_refl _)
    have hXf := fun o => (hb6.frozen (p := ⟨w5.heap.size, o, none⟩) (by simp)).trans (frozen_of_row (w5.alloc (.cells #[.slice a3 l.regs.length c3, .int .i64 l.pc, .slice a4 l.turns.length c4, .bool false] 31)) w5.heap.size o _ _ (heap_alloc_new w5 _))
    have hbb := hA5.trans (hb6.mono hA5.size)
    have hS6 := hS5.below hbb
    have hge := hm6.ge
    rw [hX] at hXb hXf
    exact ⟨HB.out, by omega, hS6.kY, hS6.kG, hS6.kB, hXb, hXf, own_mono (OwI.below n1 hbb) (by omega), own_mono (OwI.below n2 hbb) (by omega), nd, fun k hk => by have := own_lt n1 k hk; omega, fun k hk => by have := own_lt n2 k hk; omega, hm6.rebase (by omega), by omega, hS6.kc⟩
  obtain ⟨wX, hwX⟩ : ∃ y, y = (w5.alloc (.cells #[.slice a3 l.regs.length c3, .int .i64 l.pc, .slice a4 l.turns.length c4, .bool false] 31)) := ⟨_, rfl⟩
  have kmX : OwI Bm wX (.slice ma ms.length mc) ms := by rw [hwX]; exact (hS5.below (below_alloc w5 _)).km
  have hzX : wX.heap.size = X + 1 := by rw [hwX, World.size_alloc, hX]
  have HWX := Lib.hid hwX
  have HZX := Lib.hid hzX
  have hn6 := OwI.lit wX wX.heap.size (Nat.le_refl _)
  have hsrc := kmX.below (below_alloc wX (.cells #[] 3))
  rw [← hwX] at hR5
  have HR5 := Lib.hid hR5
  clear kmX hwX hzX
  obtain ⟨y0, y1, y2, y3, y4⟩ := hS5.kY
  clear hR5 hS5 n1 n2 nd hb5 HS1 x0 x1 x2 x3 x4 f0 f1 f2 f3
  go_upto_region 5 with fail
  rw [← HWX.out]
  go_wp2_with (at_builtin; refine wpList_app2g _ (by rfl) _ _ 29 3 rfl _ _ 1 8 (.int .i64 0) Try.underlying29 infoInt rfl (by decide) _ _ _ _ _ _ hn6 hsrc (oneI2 _) rfl rfl (by simp; omega) (by simp; omega) (by simp) ?_)
  intro v6 w6 ho6 hw6 hbb6
  have hB6 := hbb6 wX.heap.size wX (Nat.le_refl _) (below_alloc wX _)
  have hO6 : OwI (X + 1) w6 v6 ms := by have := ho6; rw [HZX.out] at this; simpa [OwI] using this
  obtain ⟨a6, c6, hs6⟩ := own_shape hO6
  subst hs6
  obtain ⟨gm, rfl, _, oi6, _, _⟩ := OwI.ne hO6 (by omega)
  have HR6 := Lib.hid (HR5.out gm c6 w6 hB6 oi6)
  have HX := Lib.hid hX
  clear ho6 hw6 hbb6 hB6 hO6 oi6 hn6 hsrc y0 y1 y2 y3 y4 HR5 hX
  have hrun0 := HLM2.out
  have hlk0 := hlok.unwait
  go_wp2_with fail
  go_loopg [] (lfar cs ⟨l.regs, l.pc, l.turns, false⟩) (fun g wr => ∃ (r t : Value) (l' : Ln) (m' : List Int), lfar cs l' ≤ g ∧ R4 w b X gm c6 (.slice la cs.length ln) r t l' m' cs wr ∧ LOK cs l' ∧ MOK m' ∧ m'.length = ms.length ∧ Runs cs id l' m' L M)
  case atStart => exact ⟨_, _, _, _, Nat.le_refl _, HR6.out, hlk0, hmok, rfl, hrun0⟩
  case round =>
    clear hrun0 hlk0
    obtain ⟨r, t, ⟨rs, pc, ts, wt⟩, m', hfar, hR, hlk, hmk, hml', hrun⟩ := hrel
    obtain ⟨ar, cr, hsr⟩ := own_shape hR.nr
    obtain ⟨at', ct, hst⟩ := own_shape hR.nt
    subst hsr hst
    simp only at hR
    cases wt
    · by_cases hpe : pc = cs.length
      · subst hpe
        obtain ⟨rfl, rfl⟩ := hrun.done (by simp)
        have o6 : OwI (b + 2) wr (.slice (some ⟨gm, 0, none⟩) ms.length c6) M := by have := hR.mm.own; unfold OwI; rw [hml'] at this ⊢; exact this
        have hd2 : ∀ k, (Value.slice (some ⟨gm, 0, none⟩) ms.length c6).ownBlock = some k → (Value.slice ar rs.length cr).ownBlock ≠ some k ∧ (Value.slice at' ts.length ct).ownBlock ≠ some k := fun k hk => by
          have hk2 : (some gm : Option Nat) = some k := hk
          injection hk2 with hk3
          exact ⟨fun hh => (hR.xr k hh).2 hk3.symm, fun hh => (hR.xt k hh).2 hk3.symm⟩
        have HF := Lib.hid (stepO_fin (L := ⟨rs, (cs.length : Int), ts, false⟩) (M := M) HB.out hR.kY hR.kB hR.nr hR.nt o6 hR.nd hd2 (Below.refl _ _))
        obtain ⟨x0, x1, x2, x3, x4⟩ := hR.kX
        obtain ⟨y0, y1, y2, y3, y4⟩ := hR.kY
        have f0 := hR.kG 0
        have f1 := hR.kG 1
        have f2 := hR.kG 2
        have f3 := hR.kG 3
        clear o6 hd2 hR
        go_wp2
        obtain ⟨hRR, z0, z1, z2, z3, _⟩ := HF.out
        try simp only at z0 z1 z2 z3
        refine bodyPost_ret (v := .tuple #[.agg #[.slice ar rs.length cr, .int .i64 (cs.length : Int), .slice at' ts.length ct, .bool false], .slice (some ⟨gm, 0, none⟩) ms.length c6]) (by simp [results, Try.results34, go_sem, z0, z1, z2, z3]) rfl ⟨_, _, HLM.out, hRR⟩
      · have hpc0 : 0 ≤ pc ∧ pc ≤ cs.length := hlk.pc
        have hlt : pc < (cs.length : Int) := by omega
        have hstp := l6Step_any (b + 2) (b + 2) (b + 2) gm c6 _ _ (.slice la cs.length ln) ⟨rs, pc, ts, false⟩ cs m' id wr hpv hlk hmk hid hlt rfl hR.nr hR.nt hR.mm hR.kc
        rw [hml'] at hstp
        have HSTP := Lib.hid hstp
        have hso := step_ok (id := id) hpv hlk hmk hid hlt
        have hru := hrun.one (by simp [hpe])
        have hml2 := lstep_mlen cs id ⟨rs, pc, ts, false⟩ m'
        rw [hml'] at hml2
        generalize (lstep cs id ⟨rs, pc, ts, false⟩ m').1 = L2 at *
        generalize (lstep cs id ⟨rs, pc, ts, false⟩ m').2 = M2 at *
        obtain ⟨hso1, hso2, hso3⟩ := hso
        have HR := Lib.hid hR
        obtain ⟨x0, x1, x2, x3, x4⟩ := hR.kX
        clear hstp hrun hR
        go_wp2_with fail
        refine HSTP.out.mono ?_
        rintro e w7 ⟨r7, t7, rfl, n1, n2, nd, m7, hw7⟩
        obtain ⟨a7, c7, hs7⟩ := own_shape n1
        obtain ⟨a8, c8, hs8⟩ := own_shape n2
        subst hs7 hs8
        have HN := Lib.hid (HR.out.next HC0.out n1 n2 nd m7 hw7)
        have hgX := HR.out.gX
        have kX7 := HR.out.kX.wr hw7 (fun hh => hgX hh.symm)
        have f0 := (hw7.frozen x4 (fun hh => hgX hh.symm)).trans (HR.out.fX 0)
        have f1 := (hw7.frozen x4 (fun hh => hgX hh.symm)).trans (HR.out.fX 1)
        have f2 := (hw7.frozen x4 (fun hh => hgX hh.symm)).trans (HR.out.fX 2)
        have f3 := (hw7.frozen x4 (fun hh => hgX hh.symm)).trans (HR.out.fX 3)
        clear x0 x1 x2 x3 x4 n1 n2 nd m7 hw7
        obtain ⟨x0, x1, x2, x3, x4⟩ := kX7
        go_wp2
        go_roundg (lfar cs L2)
        case measure => omega
        case rel => exact ⟨_, _, _, _, Nat.le_refl _, HN.out, hso1, hso2, hml2, hru⟩
    ·
      obtain ⟨rfl, rfl⟩ := hrun.done (by simp)
      have o6 : OwI (b + 2) wr (.slice (some ⟨gm, 0, none⟩) ms.length c6) M := by have := hR.mm.own; unfold OwI; rw [hml'] at this ⊢; exact this
      have hd2 : ∀ k, (Value.slice (some ⟨gm, 0, none⟩) ms.length c6).ownBlock = some k → (Value.slice ar rs.length cr).ownBlock ≠ some k ∧ (Value.slice at' ts.length ct).ownBlock ≠ some k := fun k hk => by
        have hk2 : (some gm : Option Nat) = some k := hk
        injection hk2 with hk3
        exact ⟨fun hh => (hR.xr k hh).2 hk3.symm, fun hh => (hR.xt k hh).2 hk3.symm⟩
      have HF := Lib.hid (stepO_fin (L := ⟨rs, pc, ts, true⟩) (M := M) HB.out hR.kY hR.kB hR.nr hR.nt o6 hR.nd hd2 (Below.refl _ _))
      obtain ⟨x0, x1, x2, x3, x4⟩ := hR.kX
      obtain ⟨y0, y1, y2, y3, y4⟩ := hR.kY
      have f0 := hR.kG 0
      have f1 := hR.kG 1
      have f2 := hR.kG 2
      have f3 := hR.kG 3
      clear o6 hd2 hR
      go_wp2
      obtain ⟨hRR, z0, z1, z2, z3, _⟩ := HF.out
      try simp only at z0 z1 z2 z3
      refine bodyPost_ret (v := .tuple #[.agg #[.slice ar rs.length cr, .int .i64 pc, .slice at' ts.length ct, .bool true], .slice (some ⟨gm, 0, none⟩) ms.length c6]) (by simp [results, Try.results34, go_sem, z0, z1, z2, z3]) rfl ⟨_, _, HLM.out, hRR⟩
end Go.Proofs.Ytmjkjdibolcblaa
