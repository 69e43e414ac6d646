/- YtmjkjdibolcblaaMachT: the program's StepLane: what it returns, in new memory. Conditions: the numbers of the arguments are integers of 64 bits. -/
import Derived.Test.YtmjkjdibolcblaaMachS
namespace Go.Proofs.Ytmjkjdibolcblaa
open Go.ChangeShapes Go.WideShapes Go.ChangeAt Go.RowKit
set_option linter.unusedVariables false
/-- The zero values, nil for the memory. -/
theorem stepO_none {w wk : World} {b : Nat} (wb : w.heap.size = b) (kY : Box4 wk (b + 1) (.slice none 0 0) (.int .i64 0) (.slice none 0 0) (.bool false)) (kB : Below b w wk) :
    StepO w lnZ [] (.returned (.tuple #[.agg #[.slice none 0 0, .int .i64 0, .slice none 0 0, .bool false], .slice none 0 0])) ((((wk.setCell ⟨b + 1, 0, none⟩ (.slice none 0 0)).setCell ⟨b + 1, 1, none⟩ (.int .i64 0)).setCell ⟨b + 1, 2, none⟩ (.slice none 0 0)).setCell ⟨b + 1, 3, none⟩ (.bool false)) ∧
      Box4 ((((wk.setCell ⟨b + 1, 0, none⟩ (.slice none 0 0)).setCell ⟨b + 1, 1, none⟩ (.int .i64 0)).setCell ⟨b + 1, 2, none⟩ (.slice none 0 0)).setCell ⟨b + 1, 3, none⟩ (.bool false)) (b + 1) (.slice none 0 0) (.int .i64 0) (.slice none 0 0) (.bool false) :=
  stepO_fin (L := lnZ) (M := []) wb kY kB (nil_own _ _) (nil_own _ _) (nil_own _ _) (fun k hk => (by cases hk)) (fun k hk => (by cases hk)) (Below.refl _ _)
/-- The copies lie behind what was there: the machine's state as it begins. -/
theorem RI.start {w1 w2 w3 w4 w5 : World} {r1 t1 : Value} {gm cm lo X m : Nat} {lv : Value} {l : Ln} {cs : List Cd} {ms : List Int} (n1 : OwI w1.heap.size w2 r1 l.regs) (n2 : OwI w1.heap.size w2 t1 l.turns) (nd : ∀ k, r1.ownBlock = some k → t1.ownBlock ≠ some k) (hb2 : Below w1.heap.size w1 w2)
    (n3 : OI w2.heap.size w3 gm cm ms) (hb3 : Below w2.heap.size w2 w3) (hX : w3.heap.size = X) (hlo : X + 1 = lo) (hw4 : Below w3.heap.size w3 w4) (hB4 : Box4 w4 X r1 (.int .i64 l.pc) t1 (.bool l.waits)) (hF4 : ∀ o, w4.frozen? ⟨X, o, none⟩ = false) (hz4 : w4.heap.size = lo) (hm : Mach cs w5 lo m lv) (hb5 : Below w4.heap.size w4 w5) :
    RI w1 w1.heap.size lo m X gm cm lv r1 t1 l ms cs w5 := by
  have s2 := hb2.size
  have s3 := hb3.size
  have s4 := hw4.size
  have s5 := hb5.size
  have h35 := hw4.trans (hb5.mono s4)
  have h25 := hb3.trans (h35.mono s3)
  have h15 := hb2.trans (h25.mono s2)
  have g1 := own_lt n1
  have g2 := own_lt n2
  have g3 := n3.ge
  have g4 := n3.lt
  exact ⟨rfl, h15, hm, by omega, ⟨by omega, by omega⟩, by omega, by omega, hB4.below hb5 (Nat.le_refl _), fun o => (hb5.frozen (p := ⟨X, o, none⟩) hB4.lt).trans (hF4 o), n1.below h25, n2.below h25, nd, fun k hk => by have := g1 k hk; exact ⟨by omega, by omega, .inl (by omega)⟩, fun k hk => by have := g2 k hk; exact ⟨by omega, by omega, .inl (by omega)⟩, (n3.rebase (by omega)).below h35⟩
set_option maxRecDepth 100000 in
set_option maxHeartbeats 16000000 in
theorem implStepLane (B1 B2 Bm : Nat) (r t mv lv : Value) (l : Ln) (cs : List Cd) (ms : List Int) (id : Int) (w : World) (hr : OwI B1 w r l.regs) (ht : OwI B2 w t l.turns) (hmv : OwI Bm w mv ms) (hc : RdC w lv cs)
    (hwr : ∀ x ∈ l.regs, (Lit.int .i64 x).wf = true) (hwt : ∀ x ∈ l.turns, (Lit.int .i64 x).wf = true) (hwm : ∀ x ∈ ms, (Lit.int .i64 x).wf = true) :
    Calls Try.prog 15 #[.agg #[r, .int .i64 l.pc, t, .bool l.waits], lv, .int .i64 id, mv] w (StepO w (stepV l cs id ms).1 (stepV l cs id ms).2) := by
  obtain ⟨b, hb⟩ : ∃ x, w.heap.size = x := ⟨_, rfl⟩
  obtain ⟨ra, rc, hrv⟩ := own_shape hr
  obtain ⟨ta, tc, htv⟩ := own_shape ht
  obtain ⟨ma, mc, hmvv⟩ := own_shape hmv
  obtain ⟨la, ln, hlv, hln1, hln2⟩ := hc.shape
  subst hrv htv hmvv hlv
  obtain ⟨L, M, hLM⟩ : ∃ L M, stepV l cs id ms = (L, M) := ⟨_, _, rfl⟩
  rw [hLM]
  have hc0 := hc
  obtain ⟨W, hW⟩ : ∃ W, W = ((w.alloc (.cells #[.slice ra l.regs.length rc, .int .i64 l.pc, .slice ta l.turns.length tc, .bool l.waits] 31)).alloc (.cells #[.slice none 0 0, .int .i64 0, .slice none 0 0, .bool false] 31)) := ⟨_, rfl⟩
  have h1 := below_alloc w (.cells #[.slice ra l.regs.length rc, .int .i64 l.pc, .slice ta l.turns.length tc, .bool l.waits] 31)
  have h2 := below_alloc (w.alloc (.cells #[.slice ra l.regs.length rc, .int .i64 l.pc, .slice ta l.turns.length tc, .bool l.waits] 31)) (.cells #[.slice none 0 0, .int .i64 0, .slice none 0 0, .bool false] 31)
  have h3 := (h1.trans (h2.mono h1.size))
  have hX := ((Box4.new w (.slice ra l.regs.length rc) (.int .i64 l.pc) (.slice ta l.turns.length tc) (.bool l.waits) 31).below h2 (Nat.le_refl _))
  have hX3 := Box4.new (w.alloc (.cells #[.slice ra l.regs.length rc, .int .i64 l.pc, .slice ta l.turns.length tc, .bool l.waits] 31)) (.slice none 0 0) (.int .i64 0) (.slice none 0 0) (.bool false) 31
  have hF3 := fun o => frozen_of_row ((w.alloc (.cells #[.slice ra l.regs.length rc, .int .i64 l.pc, .slice ta l.turns.length tc, .bool l.waits] 31)).alloc (.cells #[.slice none 0 0, .int .i64 0, .slice none 0 0, .bool false] 31)) (w.alloc (.cells #[.slice ra l.regs.length rc, .int .i64 l.pc, .slice ta l.turns.length tc, .bool l.waits] 31)).heap.size o #[.slice none 0 0, .int .i64 0, .slice none 0 0, .bool false] 31 (heap_alloc_new _ _)
  rw [World.size_alloc] at hX3 hF3
  rw [hb] at hX hX3 hF3
  have kX : Box4 W b (.slice ra l.regs.length rc) (.int .i64 l.pc) (.slice ta l.turns.length tc) (.bool l.waits) := by rw [hW]; exact ⟨hX.at0, hX.at1, hX.at2, hX.at3, hX.lt⟩
  have kY : Box4 W (b + 1) (.slice none 0 0) (.int .i64 0) (.slice none 0 0) (.bool false) := by rw [hW]; exact ⟨hX3.at0, hX3.at1, hX3.at2, hX3.at3, hX3.lt⟩
  have kG : ∀ o, W.frozen? ⟨b + 1, o, none⟩ = false := by rw [hW]; exact hF3
  have kB : Below b w W := by rw [hW, ← hb]; exact h3
  have kr : OwI B1 W (.slice ra l.regs.length rc) l.regs := by rw [hW]; exact hr.below h3
  have kt : OwI B2 W (.slice ta l.turns.length tc) l.turns := by rw [hW]; exact ht.below h3
  have km : OwI Bm W (.slice ma ms.length mc) ms := by rw [hW]; exact hmv.below h3
  have kc : RdC W (.slice la cs.length ln) cs := by rw [hW]; exact hc.below h3 (Nat.le_refl _)
  have kz : b + 2 ≤ W.heap.size := by rw [hW, ← hb]; simp
  have HB := Lib.hid hb
  have HW := Lib.hid hW
  have HLM := Lib.hid hLM
  have HC0 := Lib.hid hc0
  clear hc0
  have HWR := Lib.hid hwr
  have HWT := Lib.hid hwt
  have HWM := Lib.hid hwm
  clear h1 h2 h3 hX hX3 hF3 hr ht hmv hc hb hW hLM hwr hwt hwm
  obtain ⟨V, hV⟩ : ∃ V, stepOk l cs id ms = V := ⟨_, rfl⟩
  have HV := Lib.hid hV
  clear hV
  go_enter Try.func15, Try.ntmps15
  have hS : S3 B1 B2 Bm w b (.slice la cs.length ln) (.slice ra l.regs.length rc) (.slice ta l.turns.length tc) (.slice ma ms.length mc) l cs ms W := ⟨HB.out, kX, kY, kG, kB, kr, kt, km, kc⟩
  have HS := Lib.hid hS
  clear kX kY kG kB kr kt km kc hS
  have hkz : b + 2 ≤ W.heap.size := kz
  go_wp2_with fail
  rw [← HW.out, HB.out]
  refine (canStep_any B1 B2 Bm _ _ (.slice ma ms.length mc) (.slice la cs.length ln) l cs ms id W HS.out.kr HS.out.kt HS.out.km HS.out.kc HWR.out HWT.out HWM.out).mono ?_
  rintro e w1 ⟨rfl, hb1⟩
  rw [HV.out]
  have hS1 := HS.out.below hb1
  have HS1 := Lib.hid hS1
  have hz1 := hb1.size
  clear HS HW hS1 hb1
  obtain ⟨x0, x1, x2, x3, x4⟩ := HS1.out.kX
  obtain ⟨y0, y1, y2, y3, y4⟩ := HS1.out.kY
  have f0 := HS1.out.kG 0
  have f1 := HS1.out.kG 1
  have f2 := HS1.out.kG 2
  have f3 := HS1.out.kG 3
  cases V
  · have hLZ := HLM.out
    rw [stepV, HV.out, if_neg (by simp)] at hLZ
    obtain ⟨rfl, rfl⟩ := Prod.mk.inj hLZ
    have HZ := Lib.hid (stepO_none HB.out HS1.out.kY HS1.out.kB)
    clear hLZ
    go_wp2
    obtain ⟨hR, z0, z1, z2, z3, _⟩ := HZ.out
    refine bodyPost_ret (v := .tuple #[.agg #[.slice none 0 0, .int .i64 0, .slice none 0 0, .bool false], .slice none 0 0]) (by simp [results, Try.results15, go_sem, z0, z1, z2, z3]) rfl hR
  have hok := HV.out
  unfold stepOk at hok
  simp only [Bool.and_eq_true] at hok
  obtain ⟨hpv, hlok, hpc0, hpc1⟩ := lValid_ok hok.1
  have hmok := memValid_ok hok.2.1
  have hrl := (lok_small hpv hlok).1
  have htl := (lok_small hpv hlok).2.1
  have hml : ms.length ≤ 1000000 := by have := hmok.1; omega
  have hid := inB_i hok.2.2
  have hml1 := hmok.1
  clear hok
  have HOK := Lib.hid hlok
  have HMK := Lib.hid hmok
  clear hlok hmok
  go_wp2_with fail
  refine (clone_any B1 B2 _ _ l w1 HS1.out.kr HS1.out.kt hrl htl).mono ?_
  rintro e w2 ⟨r1, t1, rfl, n1, n2, nd, hb2⟩
  obtain ⟨a3, c3, hs3⟩ := own_shape n1
  obtain ⟨a4, c4, hs4⟩ := own_shape n2
  subst hs3 hs4
  have hS2 := HS1.out.below hb2
  have HN := Lib.hid (And.intro n1 (And.intro n2 (And.intro nd hb2)))
  have HS2 := Lib.hid hS2
  clear n1 n2 nd hb2 hS2
  as_aux_lemma =>
    go_wp2_with fail
    refine (cloneI_any Bm _ ms w2 HS2.out.km hml).mono ?_
    rintro e w3 ⟨v3, rfl, n3, hb3⟩
    obtain ⟨a5, c5, hs5⟩ := own_shape n3
    subst hs5
    obtain ⟨gm, rfl, _, oi3, hcc5, hcc6⟩ := OwI.ne n3 (by omega)
    have hX : ∃ X, w3.heap.size = X := ⟨_, rfl⟩
    obtain ⟨X, hX⟩ := hX
    obtain ⟨w4, hw4⟩ : ∃ y, y = (w3.alloc (.cells #[.slice a3 l.regs.length c3, .int .i64 l.pc, .slice a4 l.turns.length c4, .bool l.waits] 31)) := ⟨_, rfl⟩
    have hb4 : Below w3.heap.size w3 w4 := by rw [hw4]; exact below_alloc w3 _
    have hz4 : w4.heap.size = X + 1 := by rw [hw4, World.size_alloc, hX]
    have hB4 : Box4 w4 X (.slice a3 l.regs.length c3) (.int .i64 l.pc) (.slice a4 l.turns.length c4) (.bool l.waits) := by
      have hx := Box4.new w3 (.slice a3 l.regs.length c3) (.int .i64 l.pc) (.slice a4 l.turns.length c4) (.bool l.waits) 31
      rw [hX] at hx
      rw [hw4]; exact ⟨hx.at0, hx.at1, hx.at2, hx.at3, hx.lt⟩
    have hF4 : ∀ o, w4.frozen? ⟨X, o, none⟩ = false := fun o => by rw [hw4, ← hX]; exact frozen_of_row _ w3.heap.size o _ _ (heap_alloc_new w3 _)
    have hS4 := HS2.out.below (hb3.trans (hb4.mono hb3.size))
    have HMA := Lib.hid (newMachine_any (.slice la cs.length ln) cs w4 hS4.kc hpv)
    have HN3 := Lib.hid (And.intro oi3 (And.intro hb3 (And.intro hb4 (And.intro hB4 hF4))))
    have HW4 := Lib.hid hw4
    have HX := Lib.hid hX
    have HZ4 := Lib.hid hz4
    clear n3 hb3 oi3 hw4 hb4 hB4 hF4 hX hz4 hS4
    clear x0 x1 x2 x3 x4 y0 y1 y2 y3 y4 f0 f1 f2 f3
    go_upto_region 4 with fail
    rw [← HW4.out, HX.out]
    go_wp2_with fail
    refine HMA.out.mono ?_
    rintro e w5 ⟨m, rfl, hM, hb5⟩
    rw [HZ4.out] at hM
    have hR := RI.start (lo := X + 1) (l := l) HN.out.1 HN.out.2.1 HN.out.2.2.1 HN.out.2.2.2 HN3.out.1 HN3.out.2.1 HX.out rfl HN3.out.2.2.1 HN3.out.2.2.2.1 HN3.out.2.2.2.2 HZ4.out hM hb5
    have HR := Lib.hid hR
    clear hM hb5 hR HMA HN HN3
    have hst : Calls Try.prog 48 #[.pointer (some ⟨m, 0, none⟩), .pointer (some ⟨X, 0, none⟩), .int .i64 id, .slice (some ⟨gm, 0, none⟩) ms.length c5] w5 (StI w1 w1.heap.size (X + 1) m X gm c5 (.slice la cs.length ln) (.slice a3 l.regs.length c3) cs L M) := by
      have hLZ := HLM.out
      rw [stepV, HV.out, if_pos rfl] at hLZ
      obtain ⟨rs, pc, ts, wt⟩ := l
      cases hs : (wt || (pc == cs.length)) with
      | true =>
        simp only at hLZ
        rw [hs, if_pos rfl] at hLZ
        obtain ⟨rfl, rfl⟩ := Prod.mk.inj hLZ
        exact step_stop w1 _ _ m X gm c5 la ln _ _ rs ts ms pc wt cs id w5 ⟨hln1, hln2⟩ hs HR.out
      | false =>
        simp only at hLZ
        rw [hs, if_neg (by simp)] at hLZ
        simp only [Bool.or_eq_false_iff, beq_eq_false_iff_ne] at hs
        obtain ⟨rfl, hne⟩ := hs
        simp only at hpc0 hpc1
        obtain ⟨q, rfl⟩ : ∃ q : Nat, pc = q := ⟨pc.toNat, by omega⟩
        have h := step_go w1 _ _ m X gm c5 la ln _ _ rs ts ms q cs id w5 HS1.out.kc hpv HOK.out HMK.out hid (by omega) HR.out
        rw [hLZ] at h
        exact h
    have HST := Lib.hid hst
    clear hst HR
    as_aux_lemma =>
      go_wp2_with fail
      refine HST.out.mono ?_
      rintro e w6 ⟨rfl, t', hR⟩
      obtain ⟨a6, c6, hs6⟩ := own_shape hR.nr
      obtain ⟨a7, c7, hs7⟩ := own_shape hR.nt
      have hml6 : M.length = ms.length := by
        have h := congrArg (fun p => p.2.length) HLM.out
        simp only at h
        rw [← h, stepV, HV.out, if_pos rfl]
        split
        · rfl
        · exact lstep_mlen _ _ _ _
      have o6 : OwI (b + 2) w6 (.slice (some ⟨gm, 0, none⟩) ms.length c5) M := by have := (hR.mm.rebase (B' := b + 2) (by have := hR.mm.ge; omega)).own; unfold OwI; rw [hml6] at this ⊢; exact this
      have hd2 : ∀ k, (Value.slice (some ⟨gm, 0, none⟩) ms.length c5).ownBlock = some k → (Value.slice a3 l.regs.length c3).ownBlock ≠ some k ∧ t'.ownBlock ≠ some k := fun k hk => by
        have hk2 : (some gm : Option Nat) = some k := hk
        injection hk2 with hk3
        exact ⟨fun hh => (hR.xr k hh).2.1 hk3.symm, fun hh => (hR.xt k hh).2.1 hk3.symm⟩
      have hY6 := (HS1.out.below hR.kB)
      have HF := Lib.hid (stepO_fin (L := L) (M := M) HB.out hY6.kY hY6.kB (own_mono hR.nr (by omega)) (own_mono hR.nt (by omega)) o6 hR.nd hd2 (Below.refl _ _))
      obtain ⟨x0, x1, x2, x3, x4⟩ := hR.kX
      obtain ⟨y0, y1, y2, y3, y4⟩ := hY6.kY
      have f0 := hY6.kG 0
      have f1 := hY6.kG 1
      have f2 := hY6.kG 2
      have f3 := hY6.kG 3
      subst hs7
      clear o6 hd2 hR hY6 hs6
      go_wp2
      obtain ⟨hRR, z0, z1, z2, z3, _⟩ := HF.out
      refine bodyPost_ret (v := .tuple #[.agg #[.slice a3 l.regs.length c3, .int .i64 L.pc, .slice a7 L.turns.length c7, .bool L.waits], .slice (some ⟨gm, 0, none⟩) ms.length c5]) (by simp [results, Try.results15, go_sem, z0, z1, z2, z3]) rfl hRR
end Go.Proofs.Ytmjkjdibolcblaa
