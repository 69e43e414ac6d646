/- YthhdffgfldphlaaDrawT: the draws of lanes from bytes: a lane, a program, a number and a memory, far within 64 bits, in new memory. No conditions. -/
import Derived.Test.YthhdffgfldphlaaDrawN
namespace Go.Proofs.Ythhdffgfldphlaa
open Go.ChangeShapes Go.WideShapes Go.ChangeAt Go.RowKit
set_option linter.unusedVariables false
/-- What a draw of a lane leaves. -/
structure LaneDB (w : World) (r t lv mv : Value) (l : Ln) (cs : List Cd) (ms : List Int) (id : Int) (w' : World) : Prop where
  nr : OwI w.heap.size w' r l.regs
  nt : OwI w.heap.size w' t l.turns
  li : lnIn l
  len : l.regs.length ≤ 4 ∧ l.turns.length ≤ 4
  nd : ∀ k, r.ownBlock = some k → t.ownBlock ≠ some k
  ol : w'.ownsRow w.heap.size 41 4 lv cs.length (cdCells cs)
  ci : ∀ c ∈ cs, cdIn c
  cl : cs.length ≤ 150000
  om : OwI w.heap.size w' mv ms
  ml : ms.length ≤ 33
  mb : ∀ x ∈ ms, -1 ≤ x ∧ x ≤ 256
  id : -1 ≤ id ∧ id ≤ 8
  bl : Below w.heap.size w w'
theorem laneDB_end {w w1 w2 : World} {b a : Nat} {bs : List Int} {r t lv mv : Value} {l : Ln} {cs : List Cd} {ms : List Int} {id : Int} (hb : w.heap.size = b) (hb1 : Below (b + 1) (w.alloc (.cells #[.slice none 0 0, .int .i64 0, .slice none 0 0, .bool false] 25)) w1) (ha : b + 1 ≤ a) (hz : b + 1 ≤ w1.heap.size)
    (o1 : OwI w1.heap.size w2 r l.regs) (o2 : OwI w1.heap.size w2 t l.turns) (hli : lnIn l) (hln : l.regs.length ≤ 4 ∧ l.turns.length ≤ 4) (hnd : ∀ k, r.ownBlock = some k → t.ownBlock ≠ some k) (o3 : w2.ownsRow w1.heap.size 41 4 lv cs.length (cdCells cs)) (hci : ∀ c ∈ cs, cdIn c) (hcl : cs.length ≤ 150000)
    (o4 : OwI w1.heap.size w2 mv ms) (hml : ms.length ≤ 33) (hmb : ∀ x ∈ ms, -1 ≤ x ∧ x ≤ 256) (hid : -1 ≤ id ∧ id ≤ 8) (hw2 : Wr w1 w2 (fun k => k = a)) (v0 v1 v2 v3 : Value) :
    LaneDB w r t lv mv l cs ms id ((((w2.setCell ⟨b, 0, none⟩ v0).setCell ⟨b, 1, none⟩ v1).setCell ⟨b, 2, none⟩ v2).setCell ⟨b, 3, none⟩ v3) := by
  have hw4 := Wr_set4 w2 b v0 v1 v2 v3
  have q : ∀ (k : Nat), w1.heap.size ≤ k → ¬ k = b := fun k hk hh => by omega
  have h1 : OwI w1.heap.size _ r l.regs := hw4.owns o1 (fun k hk => q k (own_ge o1 k hk))
  have h2 : OwI w1.heap.size _ t l.turns := hw4.owns o2 (fun k hk => q k (own_ge o2 k hk))
  have h3 := hw4.owns o3 (fun k hk => q k (own_ge o3 k hk))
  have h4 : OwI w1.heap.size _ mv ms := hw4.owns o4 (fun k hk => q k (own_ge o4 k hk))
  have hbl : Below w.heap.size w _ := ((below_alloc w (.cells #[.slice none 0 0, .int .i64 0, .slice none 0 0, .bool false] 25)).trans (hb1.mono (by omega)))
  have hbl2 := Below.wr hbl hw2 (by omega) (fun k hk => by omega)
  exact ⟨own_mono h1 (by omega), own_mono h2 (by omega), hli, hln, hnd, own_mono h3 (by omega), hci, hcl, own_mono h4 (by omega), hml, hmb, hid, Below.wr hbl2 hw4 (by have := hw2.size; omega) (fun k hk => by omega)⟩
theorem LaneDB.alloc {w w' : World} {r t lv mv : Value} {l : Ln} {cs : List Cd} {ms : List Int} {id : Int} (h : LaneDB w r t lv mv l cs ms id w') (o : Obj) : LaneDB w r t lv mv l cs ms id (w'.alloc o) := by
  have hb := below_alloc w' o
  exact ⟨OwI.below h.nr hb, OwI.below h.nt hb, h.li, h.len, h.nd, owns_below h.ol hb (Nat.le_refl _), h.ci, h.cl, OwI.below h.om hb, h.ml, h.mb, h.id, h.bl.trans (hb.mono h.bl.size)⟩
set_option maxHeartbeats 4000000 in
theorem DrawLaneValid_any (v : Value) (bs0 : List Int) (w : World) (h : RdI .u8 w v bs0) : Calls Try.prog 4 #[v] w
    fun e w' => ∃ r t lv mv l cs ms id, e = .returned (.tuple #[.agg #[r, .int .i64 l.pc, t, .bool l.waits], lv]) ∧ LaneDB w r t lv mv l cs ms id w' := by
  obtain ⟨bs, hbs⟩ : ∃ bs, bs = bs0.take 2000 := ⟨_, rfl⟩
  obtain ⟨b, hb⟩ : ∃ x, w.heap.size = x := ⟨_, rfl⟩
  have h0 := h.below (below_alloc w (.cells #[.slice none 0 0, .int .i64 0, .slice none 0 0, .bool false] 25)) (Nat.le_refl _)
  have hR0 := Box4.new w (.slice none 0 0) (.int .i64 0) (.slice none 0 0) (.bool false) 25
  have hF0 := fun o => frozen_of_row (w.alloc (.cells #[.slice none 0 0, .int .i64 0, .slice none 0 0, .bool false] 25)) w.heap.size o _ _ (heap_alloc_new w _)
  rw [hb] at hR0 hF0
  have HB := Lib.hid hb
  have HR0 := Lib.hid hR0
  have HF0 := Lib.hid hF0
  clear hb hR0 hF0 h
  go_enter Try.func4, Try.ntmps4
  go_wp2_with fail
  refine (open_any _ bs0 _ h0).mono ?_
  rintro e w1 ⟨a, rfl, hr1, ha, hb1⟩
  rw [← hbs] at hr1
  rw [HB.out]
  clear hbs h0
  have hz1 := hb1.size
  simp only [World.size_alloc] at ha hb1 hz1
  rw [HB.out] at ha hz1 hb1
  have HB1 := Lib.hid hb1
  go_wp2_with fail
  refine (l20Lane_any a bs 0 4 w1 hr1 (by omega) (by omega)).mono ?_
  rintro e w2 ⟨r, t, lv, mv, l, cs, ms, id, rfl, o1, o2, hli, hln, hnd, o3, hci, hcl, o4, hml, hmb, hid, hw2⟩
  obtain ⟨ra, rc, hrv⟩ := own_shape o1
  obtain ⟨ta, tc, htv⟩ := own_shape o2
  obtain ⟨la, lc, hlv⟩ := own_shape o3
  obtain ⟨ma, mc, hmv⟩ := own_shape o4
  subst hrv htv hlv hmv
  have hbx := (HR0.out.below HB1.out (by simp; rw [HB.out]; exact Nat.le_refl _)).wr hw2 (show ¬ b = a by omega)
  have hfb := fun o => (hw2.frozen (o := o) (show b < w1.heap.size by omega) (show ¬ b = a by omega)).trans ((HB1.out.frozen (p := ⟨b, o, none⟩) (Nat.lt_succ_self b)).trans (HF0.out o))
  obtain ⟨s0, s1, s2, s3, s4⟩ := _root_.id hbx
  have q0 := hfb 0
  have q1 := hfb 1
  have q2 := hfb 2
  have q3 := hfb 3
  have HEND := Lib.hid (laneDB_end (bs := bs) HB.out HB1.out ha hz1 o1 o2 hli hln hnd o3 hci hcl o4 hml hmb hid hw2 (.slice ra l.regs.length rc) (.int .i64 l.pc) (.slice ta l.turns.length tc) (.bool l.waits))
  have HX4 := Lib.hid ((Box4.set4 hbx (.slice ra l.regs.length rc) (.int .i64 l.pc) (.slice ta l.turns.length tc) (.bool l.waits)).below (below_alloc _ (.cells #[.slice ra l.regs.length rc, .int .i64 l.pc, .slice ta l.turns.length tc, .bool l.waits] 25)) (Nat.le_refl _))
  have HEN2 := Lib.hid (HEND.out.alloc (.cells #[.slice ra l.regs.length rc, .int .i64 l.pc, .slice ta l.turns.length tc, .bool l.waits] 25))
  clear hbx hfb o1 o2 o3 o4 hw2 hr1 hb1 hci hmb hnd HEND
  go_wp2
  have hX4 := HX4.out
  have hEN2 := HEN2.out
  clear HX4 HEN2
  revert hX4 hEN2
  generalize (World.alloc (World.setCell _ _ _) (.cells #[.slice ra l.regs.length rc, .int .i64 l.pc, .slice ta l.turns.length tc, .bool l.waits] 25)) = W5
  intro hX4 hEN2
  obtain ⟨k0, k1, k2, k3, k4⟩ := hX4
  refine bodyPost_ret (v := .tuple #[.agg #[.slice ra l.regs.length rc, .int .i64 l.pc, .slice ta l.turns.length tc, .bool l.waits], .slice la cs.length lc]) (by simp [results, Try.results4, go_sem, k0, k1, k2, k3]) rfl ⟨_, _, _, _, l, cs, ms, id, rfl, hEN2⟩
end Go.Proofs.Ythhdffgfldphlaa
