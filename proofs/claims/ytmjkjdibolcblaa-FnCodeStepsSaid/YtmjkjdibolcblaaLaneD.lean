/- YtmjkjdibolcblaaLaneD: the program's copy of a lane, in new memory. Conditions: the lane's lists are the call's own or an elder call's. -/
import Derived.Test.YtmjkjdibolcblaaLaneI
namespace Go.Proofs.Ytmjkjdibolcblaa
open Go.ChangeShapes Go.WideShapes Go.ChangeAt Go.RowKit
set_option linter.unusedVariables false
theorem clone_fin {w W w1 w2 wr : World} {x : Nat} {v1 v2 : Value} {l : Ln} (hz : x + 2 ≤ W.heap.size) (kY : Box4 W (x + 1) (.slice none 0 0) (.int .i64 0) (.slice none 0 0) (.bool false)) (kG : ∀ o, W.frozen? ⟨x + 1, o, none⟩ = false) (kB : Below x w W)
    (hc1 : Below W.heap.size W w1) (ho1 : OwI W.heap.size w1 v1 l.regs) (hb2 : Below w1.heap.size w1 w2) (ho2 : OwI w1.heap.size w2 v2 l.turns) (hc2 : Below W.heap.size W w2) (hw : Wr w2 wr (fun k => k = x)) (hX : Box4 wr x v1 (.int .i64 l.pc) v2 (.bool l.waits)) :
    ∃ v1 v2, Box4 wr x v1 (.int .i64 l.pc) v2 (.bool l.waits) ∧ Box4 wr (x + 1) (.slice none 0 0) (.int .i64 0) (.slice none 0 0) (.bool false) ∧ (∀ o, wr.frozen? ⟨x + 1, o, none⟩ = false) ∧ OwI (x + 2) wr v1 l.regs ∧ OwI (x + 2) wr v2 l.turns ∧ (∀ k, v1.ownBlock = some k → v2.ownBlock ≠ some k) ∧ Below x w wr := by
  have hz1 := hc1.size
  have hz2 := hc2.size
  have ho1' := ho1.below hb2
  refine ⟨v1, v2, hX, (kY.below hc2 (Nat.le_refl _)).wr hw (by omega), fun o => (hw.frozen (by omega) (by omega)).trans ((hc2.frozen (p := ⟨x + 1, o, none⟩) (show x + 1 < W.heap.size by omega)).trans (kG o)), hw.owns (own_mono ho1' hz) (fun k hk hh => by have := own_ge ho1' k hk; omega), hw.owns (own_mono ho2 (by omega)) (fun k hk hh => by have := own_ge ho2 k hk; omega), fun k hk hh => ?_, Below.wr (kB.trans (hc2.mono (by omega))) hw (by omega) (fun k hk => by omega)⟩
  have := own_lt ho1 k hk
  have := own_ge ho2 k hh
  omega
theorem Box4.set02 {w : World} {b : Nat} {c0 c1 c2 c3 : Value} (h : Box4 w b c0 c1 c2 c3) (v0 v2 : Value) : Box4 ((w.setCell ⟨b, 0, none⟩ v0).setCell ⟨b, 2, none⟩ v2) b v0 c1 v2 c3 ∧ Box4 ((w.setCell ⟨b, 2, none⟩ v2).setCell ⟨b, 0, none⟩ v0) b v0 c1 v2 c3 := by
  obtain ⟨h0, h1, h2, h3, h4⟩ := h
  have e1 : (w.setCell ⟨b, 0, none⟩ v0).cell? ⟨b, 2, none⟩ = some c2 := by rw [World.cell?_setCell_other _ _ _ _ (by simp)]; exact h2
  have e2 : (w.setCell ⟨b, 2, none⟩ v2).cell? ⟨b, 0, none⟩ = some c0 := by rw [World.cell?_setCell_other _ _ _ _ (by simp)]; exact h0
  constructor
  · refine ⟨?_, ?_, World.cell?_setCell_same _ _ _ e1, ?_, by simp [World.setCell]; exact h4⟩
    · rw [World.cell?_setCell_other _ _ _ _ (by simp)]; exact World.cell?_setCell_same _ _ _ h0
    · rw [World.cell?_setCell_other _ _ _ _ (by simp), World.cell?_setCell_other _ _ _ _ (by simp)]; exact h1
    · rw [World.cell?_setCell_other _ _ _ _ (by simp), World.cell?_setCell_other _ _ _ _ (by simp)]; exact h3
  · refine ⟨World.cell?_setCell_same _ _ _ e2, ?_, ?_, ?_, by simp [World.setCell]; exact h4⟩
    · rw [World.cell?_setCell_other _ _ _ _ (by simp), World.cell?_setCell_other _ _ _ _ (by simp)]; exact h1
    · rw [World.cell?_setCell_other _ _ _ _ (by simp)]; exact World.cell?_setCell_same _ _ _ h2
    · rw [World.cell?_setCell_other _ _ _ _ (by simp), World.cell?_setCell_other _ _ _ _ (by simp)]; exact h3
set_option maxRecDepth 100000 in
set_option maxHeartbeats 4000000 in
theorem clone_any (B1 B2 : Nat) (r t : Value) (l : Ln) (w : World) (hr : OwI B1 w r l.regs) (ht : OwI B2 w t l.turns) (hrl : l.regs.length ≤ 1000000) (htl : l.turns.length ≤ 1000000) :
    Calls Try.prog 45 #[.agg #[r, .int .i64 l.pc, t, .bool l.waits]] w (CpLn w l) := by
  obtain ⟨x, hx⟩ : ∃ x, w.heap.size = x := ⟨_, rfl⟩
  obtain ⟨ra, rc, hrv⟩ := own_shape hr
  obtain ⟨ta, tc, htv⟩ := own_shape ht
  subst hrv htv
  obtain ⟨W, hW⟩ : ∃ W, W = ((w.alloc (.cells #[.slice ra l.regs.length rc, .int .i64 l.pc, .slice ta l.turns.length tc, .bool l.waits] 31)).alloc (.cells #[.slice none 0 0, .int .i64 0, .slice none 0 0, .bool false] 31)) := ⟨_, rfl⟩
  have h1 := below_alloc w (.cells #[.slice ra l.regs.length rc, .int .i64 l.pc, .slice ta l.turns.length tc, .bool l.waits] 31)
  have h2 := below_alloc (w.alloc (.cells #[.slice ra l.regs.length rc, .int .i64 l.pc, .slice ta l.turns.length tc, .bool l.waits] 31)) (.cells #[.slice none 0 0, .int .i64 0, .slice none 0 0, .bool false] 31)
  have h3 := (h1.trans (h2.mono h1.size))
  have hX := ((Box4.new w (.slice ra l.regs.length rc) (.int .i64 l.pc) (.slice ta l.turns.length tc) (.bool l.waits) 31).below h2 (Nat.le_refl _))
  have hX3 := Box4.new (w.alloc (.cells #[.slice ra l.regs.length rc, .int .i64 l.pc, .slice ta l.turns.length tc, .bool l.waits] 31)) (.slice none 0 0) (.int .i64 0) (.slice none 0 0) (.bool false) 31
  have hF1 := fun o => (h2.frozen (p := ⟨w.heap.size, o, none⟩) (by simp)).trans (frozen_of_row (w.alloc (.cells #[.slice ra l.regs.length rc, .int .i64 l.pc, .slice ta l.turns.length tc, .bool l.waits] 31)) w.heap.size o #[.slice ra l.regs.length rc, .int .i64 l.pc, .slice ta l.turns.length tc, .bool l.waits] 31 (heap_alloc_new _ _))
  have hF3 := fun o => frozen_of_row ((w.alloc (.cells #[.slice ra l.regs.length rc, .int .i64 l.pc, .slice ta l.turns.length tc, .bool l.waits] 31)).alloc (.cells #[.slice none 0 0, .int .i64 0, .slice none 0 0, .bool false] 31)) (w.alloc (.cells #[.slice ra l.regs.length rc, .int .i64 l.pc, .slice ta l.turns.length tc, .bool l.waits] 31)).heap.size o #[.slice none 0 0, .int .i64 0, .slice none 0 0, .bool false] 31 (heap_alloc_new _ _)
  rw [World.size_alloc] at hX3 hF3
  rw [hx] at hX hX3 hF1 hF3
  have kX : Box4 W x (.slice ra l.regs.length rc) (.int .i64 l.pc) (.slice ta l.turns.length tc) (.bool l.waits) := by rw [hW]; exact ⟨hX.at0, hX.at1, hX.at2, hX.at3, hX.lt⟩
  have kY : Box4 W (x + 1) (.slice none 0 0) (.int .i64 0) (.slice none 0 0) (.bool false) := by rw [hW]; exact ⟨hX3.at0, hX3.at1, hX3.at2, hX3.at3, hX3.lt⟩
  have kF : ∀ o, W.frozen? ⟨x, o, none⟩ = false := by rw [hW]; exact hF1
  have kG : ∀ o, W.frozen? ⟨x + 1, o, none⟩ = false := by rw [hW]; exact hF3
  have kB : Below x w W := by rw [hW, ← hx]; exact h3
  have kr : OwI B1 W (.slice ra l.regs.length rc) l.regs := by rw [hW]; exact hr.below h3
  have kt : OwI B2 W (.slice ta l.turns.length tc) l.turns := by rw [hW]; exact ht.below h3
  have kz : x + 2 ≤ W.heap.size := by rw [hW, ← hx]; simp
  have HX := Lib.hid hx
  have HW := Lib.hid hW
  clear h1 h2 h3 hX hX3 hF1 hF3 hr ht hx hW
  have HKX := Lib.hid kX
  have HKY := Lib.hid kY
  have HKF := Lib.hid kF
  have HKG := Lib.hid kG
  have HKB := Lib.hid kB
  have HKR := Lib.hid kr
  have HKT := Lib.hid kt
  clear kX kY kF kG kB kr kt
  go_enter Try.func45, Try.ntmps45
  go_upto_region 1 with fail
  rw [← HW.out, HX.out]
  go_cut [] from 3 to 11 (fun wr => ∃ v1 v2, Box4 wr x v1 (.int .i64 l.pc) v2 (.bool l.waits) ∧ Box4 wr (x + 1) (.slice none 0 0) (.int .i64 0) (.slice none 0 0) (.bool false) ∧ (∀ o, wr.frozen? ⟨x + 1, o, none⟩ = false) ∧ OwI (x + 2) wr v1 l.regs ∧ OwI (x + 2) wr v2 l.turns ∧ (∀ k, v1.ownBlock = some k → v2.ownBlock ≠ some k) ∧ Below x w wr)
  case first =>
    have hdr : Below W.heap.size W W.drew := (Below.refl _ _).drew
    have kr := HKR.out.below hdr
    obtain ⟨g0, g1, g2, g3, g4⟩ := HKX.out
    have KR := Lib.hid kr
    have HDR := Lib.hid hdr
    clear kr hdr
    go_region_with ((first | (go_at_call 46; refine (cloneI_any B1 (.slice ra l.regs.length rc) l.regs W.drew KR.out hrl).mono ?_; rintro e w1 ⟨v1, rfl, ho1, hb1⟩; have hc1 := HDR.out.trans hb1; obtain ⟨q0, q1, q2, q3, q4⟩ := HKX.out.below hc1 (Nat.le_refl _)) | (go_at_call 46; refine (cloneI_any B2 (.slice ta l.turns.length tc) l.turns w1 (HKT.out.below hc1) htl).mono ?_; rintro e w2 ⟨v2, rfl, ho2, hb2⟩; have hc2 := hc1.trans (hb2.mono hc1.size); obtain ⟨p0, p1, p2, p3, p4⟩ := HKX.out.below hc2 (Nat.le_refl _); have f0 := (hc2.frozen (p := ⟨x, 0, none⟩) g4).trans (HKF.out 0); have f2 := (hc2.frozen (p := ⟨x, 2, none⟩) g4).trans (HKF.out 2); obtain ⟨a1, c1, hs1⟩ := own_shape ho1; obtain ⟨a2, c2, hs2⟩ := own_shape ho2; subst hs1 hs2)))
    all_goals
      have hK := HKX.out.below hc2 (Nat.le_refl _)
      have HK := Lib.hid hK
      clear hK
      go_wp2
      go_meet
      first
        | exact clone_fin kz HKY.out HKG.out HKB.out hc1 ho1 hb2 ho2 hc2 ((Wr_set0 _ x 0 _).trans (Wr_set0 _ x 2 _)) (HK.out.set02 _ _).1
        | exact clone_fin kz HKY.out HKG.out HKB.out hc1 ho1 hb2 ho2 hc2 ((Wr_set0 _ x 2 _).trans (Wr_set0 _ x 0 _)) (HK.out.set02 _ _).2
  case rest =>
    obtain ⟨v1, v2, kX, kY, kG, ho1, ho2, hd, hB⟩ := hcut
    obtain ⟨a1, c1, hs1⟩ := own_shape ho1
    obtain ⟨a2, c2, hs2⟩ := own_shape ho2
    subst hs1 hs2
    have hp : ∀ k, k = x + 1 → x ≤ k := fun k hk => by omega
    have hw := Wr_set4 wc (x + 1) (.slice a1 l.regs.length c1) (.int .i64 l.pc) (.slice a2 l.turns.length c2) (.bool l.waits)
    have hz := hB.size
    rw [HX.out] at hz
    have hB2 := Below.wr hB hw (by have := kX.lt; omega) hp
    have ho3 : OwI (x + 2) _ _ _ := hw.owns ho1 (fun k hk hh => by have := own_ge ho1 k hk; omega)
    have ho4 : OwI (x + 2) _ _ _ := hw.owns ho2 (fun k hk hh => by have := own_ge ho2 k hk; omega)
    have kY2 := kY.set4 (.slice a1 l.regs.length c1) (.int .i64 l.pc) (.slice a2 l.turns.length c2) (.bool l.waits)
    have HF : Hid (CpLn w l (.returned (.agg #[.slice a1 l.regs.length c1, .int .i64 l.pc, .slice a2 l.turns.length c2, .bool l.waits])) _) := Lib.hid ⟨_, _, rfl, own_mono ho3 (by rw [HX.out]; omega), own_mono ho4 (by rw [HX.out]; omega), hd, by rw [HX.out]; exact hB2⟩
    have f0 := kG 0
    have f1 := kG 1
    have f2 := kG 2
    have f3 := kG 3
    obtain ⟨g0, g1, g2, g3, g4⟩ := kX
    obtain ⟨y0, y1, y2, y3, y4⟩ := kY
    obtain ⟨z0, z1, z2, z3, z4⟩ := kY2
    have Z0 := Lib.hid z0
    have Z1 := Lib.hid z1
    have Z2 := Lib.hid z2
    have Z3 := Lib.hid z3
    clear z0 z1 z2 z3 z4 hw hB hB2 ho1 ho2 ho3 ho4 hd kG hp
    go_wp2
    have z0 := Z0.out
    have z1 := Z1.out
    have z2 := Z2.out
    have z3 := Z3.out
    refine bodyPost_ret (v := .agg #[.slice a1 l.regs.length c1, .int .i64 l.pc, .slice a2 l.turns.length c2, .bool l.waits]) (by simp [results, Try.results45, go_sem, z0, z1, z2, z3]) rfl HF.out
end Go.Proofs.Ytmjkjdibolcblaa
