/- YtmjkjdibolcblaaLaneO: lanes among the arguments of a law: opened, counted, copied. Conditions: a lane that is copied has at most 1048576 registers and turns each. -/
import Derived.Test.YtmjkjdibolcblaaLane0
import Derived.Test.YtmjkjdibolcblaaCodeO
namespace Go.Proofs.Ytmjkjdibolcblaa
open Go.ChangeShapes Go.WideShapes Go.ChangeAt Go.RowKit Go.Joins Go.Deep
set_option linter.unusedVariables false
section
variable {H : Type} {enc : TypeId × Value → H} {P : Program} {W : World}
theorem field_ints {t e : TypeId} {v : Value} {n : Nat} {y : DataW H × List MemPlace} (ht : P.underlying t = some (.slice e)) (he : P.underlying e = some (.int .i64)) (hc : P.cellsOf e = 1)
    (h : DataW.trod enc P W 0 (fun _ => true) true n t [v] = some y) : ∃ xs, RdI .i64 W v xs := by
  rcases open_ints ht he hc h with ⟨hcs, _⟩ | ⟨x, l, c, zs, hcs, _, hl, hm, hz, hx, hcell, hwz⟩
  · simp at hcs
    subst hcs
    exact ⟨[], ⟨rfl, none, 0, rfl, Nat.le_refl _, by simp [maxLen], fun h => absurd h (by simp)⟩, by simp⟩
  · simp at hcs
    subst hcs
    have hz' : zs.length = c := by simpa using hz
    refine ⟨zs.take l, ⟨by simp, some x, c, by simp [hz', Nat.min_eq_left hl], by simp [hz', Nat.min_eq_left hl]; omega, hm, fun hn => ?_⟩, fun n hn => hwz n (List.mem_of_mem_take hn)⟩
    have hl0 : 0 < l := by simp [hz', Nat.min_eq_left hl] at hn; exact hn
    obtain ⟨b, off, spot⟩ := x
    have hc0 := hcell 0 (by omega)
    have hs : spot = none := by simpa [Addr.add] using World.cell?_spot hc0
    subst hs
    refine ⟨b, off, rfl, ?_, ?_⟩
    · exact World.block_lt_of_cell? W _ (by simpa [Addr.add] using hc0)
    · intro i u hu
      have hi : i < l := by
        have := (List.getElem?_eq_some_iff.1 hu).1
        simp at this; omega
      have h1 := hcell i (by omega)
      rw [Addr.add_lit] at h1
      rw [h1]
      rw [List.getElem?_map, List.getElem?_take, if_pos hi, List.getElem?_eq_getElem (show i < zs.length by omega)] at hu
      rw [← Option.some.inj hu, List.getD, List.getElem?_eq_getElem (show i < zs.length by omega)]
      rfl
theorem open_lane {t e i b : TypeId} {f0 f1 f2 f3 : Field} {v : Value} {d : DataW H} {p : List MemPlace} {b0 : Nat} (hs : P.underlying t = some (.struct #[f0, f1, f2, f3])) (hone : oneCellFields P #[f0, f1, f2, f3] = true) (hC : P.cellsOf t = 4)
    (he : P.underlying e = some (.slice i)) (hi : P.underlying i = some (.int .i64)) (hb : P.underlying b = some .bool) (hc : P.cellsOf i = 1) (t0 : f0.type = e) (t1 : f1.type = i) (t2 : f2.type = e) (t3 : f3.type = b)
    (hv : Value.okWide P W .any b0 t v) (h : DataW.Trod enc P W 0 (fun _ => true) true t v d p) : ∃ (r u : Value) (l : Ln), v = .agg #[r, .int .i64 l.pc, u, .bool l.waits] ∧ RdI .i64 W r l.regs ∧ RdI .i64 W u l.turns ∧ (Lit.int .i64 l.pc).wf = true := by
  obtain ⟨v0, v1, v2, v3, y0, y1, y2, y3, n, rfl, _, _, g0, g1, g2, g3⟩ := open_agg4 hs hone hC hv h
  rw [t0] at g0; rw [t1] at g1; rw [t2] at g2; rw [t3] at g3
  obtain ⟨xs, h0⟩ := field_ints he hi hc g0
  obtain ⟨a, e1, _, w1⟩ := DataW.trod_int hi g1
  obtain ⟨ys, h2⟩ := field_ints he hi hc g2
  obtain ⟨w, e3, _⟩ := DataW.trod_bool hb g3
  simp only [List.cons.injEq, and_true] at e1 e3
  exact ⟨v0, v2, ⟨xs, a, ys, w⟩, by rw [e1, e3], h0, h2, w1⟩
end
theorem szIntS_any (v : Value) (xs : List Int) (l : Int) (w : World) (h : RdI .i64 w v xs) (hl : 0 ≤ l ∧ l ≤ 1048576) : Calls Try.prog 50 #[v, .int .i64 l] w fun e w' => e = .returned (.int .i64 (if l < xs.length then -1 else l - xs.length)) ∧ w = w' := by
  obtain ⟨a, n, rfl, h1, h2⟩ := h.shape
  by_cases hn : l < xs.length
  · rw [if_pos hn]
    go_enter Try.func50, Try.ntmps50
    go_wp2
    go_ret
    exact ⟨rfl, rfl⟩
  · rw [if_neg hn]
    go_enter Try.func50, Try.ntmps50
    go_wp2
    go_ret
    exact ⟨rfl, rfl⟩
def szLn (l : Ln) (k : Int) : Int := if k < l.regs.length then -1 else if k - l.regs.length < l.turns.length then -1 else k - l.regs.length - l.turns.length
theorem szLane_any (r t : Value) (l : Ln) (k : Int) (w : World) (hr : RdI .i64 w r l.regs) (ht : RdI .i64 w t l.turns) (hk : 0 ≤ k ∧ k ≤ 1048576) : Calls Try.prog 20 #[.agg #[r, .int .i64 l.pc, t, .bool l.waits], .int .i64 k] w fun e w' => e = .returned (.int .i64 (szLn l k)) ∧ Below w.heap.size w w' := by
  have hb0 : Below w.heap.size w (w.alloc (.cells #[r, .int .i64 l.pc, t, .bool l.waits] 38)) := (Below.refl _ _).alloc (Nat.le_refl _) _
  have H1 := Lib.hid (szIntS_any r l.regs k _ (hr.below hb0 (Nat.le_refl _)) hk)
  by_cases h1 : k < l.regs.length
  · have HN : Hid (szLn l k = -1) := Lib.hid (by unfold szLn; rw [if_pos h1])
    rw [if_pos h1] at H1
    go_enter Try.func20, Try.ntmps20
    go_wp2_with fail
    refine H1.out.mono ?_
    rintro e w' ⟨rfl, rfl⟩
    go_wp2
    go_ret
    exact ⟨by rw [HN.out]; rfl, hb0⟩
  · rw [if_neg h1] at H1
    have H2 := Lib.hid (szIntS_any t l.turns (k - l.regs.length) _ (ht.below hb0 (Nat.le_refl _)) (by omega))
    by_cases h2 : k - l.regs.length < l.turns.length
    · have HN : Hid (szLn l k = -1) := Lib.hid (by unfold szLn; rw [if_neg h1, if_pos h2])
      rw [if_pos h2] at H2
      go_enter Try.func20, Try.ntmps20
      go_wp2_with fail
      refine H1.out.mono ?_
      rintro e w' ⟨rfl, rfl⟩
      go_wp2_with fail
      refine H2.out.mono ?_
      rintro e w' ⟨rfl, rfl⟩
      go_wp2
      go_ret
      exact ⟨by rw [HN.out]; rfl, hb0⟩
    · have HN : Hid (szLn l k = k - l.regs.length - l.turns.length) := Lib.hid (by unfold szLn; rw [if_neg h1, if_neg h2])
      rw [if_neg h2] at H2
      go_enter Try.func20, Try.ntmps20
      go_wp2_with fail
      refine H1.out.mono ?_
      rintro e w' ⟨rfl, rfl⟩
      go_wp2_with fail
      refine H2.out.mono ?_
      rintro e w' ⟨rfl, rfl⟩
      go_wp2
      go_ret
      exact ⟨by rw [HN.out]; rfl, hb0⟩
theorem blk_below {w w' : World} {B b : Nat} {o : Obj} (h : w.heap[b]? = some o) (hb : Below B w w') (hB : b < B) : w'.heap[b]? = some o := by rw [hb.block b hB]; exact h
set_option maxHeartbeats 2000000 in
theorem toLane_any (r t : Value) (l : Ln) (w : World) (hr : RdI .i64 w r l.regs) (ht : RdI .i64 w t l.turns) (hn1 : l.regs.length ≤ 1048576) (hn2 : l.turns.length ≤ 1048576) : Calls Try.prog 23 #[.agg #[r, .int .i64 l.pc, t, .bool l.waits]] w (NewLn w l) := by
  obtain ⟨W0, hW0⟩ : ∃ x, x = ((w.alloc (.cells #[r, .int .i64 l.pc, t, .bool l.waits] 38)).alloc (.cells #[.slice none 0 0, .int .i64 0, .slice none 0 0, .bool false] 31)).alloc (.cells #[.slice none 0 0, .int .i64 0, .slice none 0 0, .bool false] 31) := ⟨_, rfl⟩
  have hs0 : W0.heap.size = w.heap.size + 3 := by rw [hW0]; simp
  have hb0 : Below w.heap.size w W0 := by rw [hW0]; exact (((Below.refl _ _).alloc (Nat.le_refl _) _).alloc (by simp) _).alloc (by simp; omega) _
  have hX0 : W0.heap[w.heap.size]? = some (.cells #[r, .int .i64 l.pc, t, .bool l.waits] 38 (0, 0)) := by
    rw [hW0, heap_alloc_old _ _ (by simp; omega), heap_alloc_old _ _ (by simp)]; exact heap_alloc_new w _
  have hS0 : W0.heap[w.heap.size + 1]? = some (.cells #[.slice none 0 0, .int .i64 0, .slice none 0 0, .bool false] 31 (0, 0)) := by
    rw [hW0, heap_alloc_old _ _ (by simp)]
    have := heap_alloc_new (w.alloc (.cells #[r, .int .i64 l.pc, t, .bool l.waits] 38)) (.cells #[.slice none 0 0, .int .i64 0, .slice none 0 0, .bool false] 31)
    rw [World.size_alloc] at this; exact this
  have hO0 : W0.heap[w.heap.size + 2]? = some (.cells #[.slice none 0 0, .int .i64 0, .slice none 0 0, .bool false] 31 (0, 0)) := by
    rw [hW0]
    have := heap_alloc_new ((w.alloc (.cells #[r, .int .i64 l.pc, t, .bool l.waits] 38)).alloc (.cells #[.slice none 0 0, .int .i64 0, .slice none 0 0, .bool false] 31)) (.cells #[.slice none 0 0, .int .i64 0, .slice none 0 0, .bool false] 31)
    simp only [World.size_alloc] at this; exact this
  obtain ⟨ra, rn, hrv, _, _⟩ := hr.shape
  obtain ⟨ta, tn, htv, _, _⟩ := ht.shape
  have H1 := Lib.hid (toIntS_any r l.regs W0 (hr.below hb0 (Nat.le_refl _)) hn1)
  have HT := Lib.hid ht
  have HW0 := Lib.hid hW0
  subst hrv htv
  clear hr ht hn1
  go_enter Try.func23, Try.ntmps23
  go_wp2_with fail
  rw [← HW0.out]
  refine H1.out.mono ?_
  rintro e w1 ⟨v1, rfl, ho1, hb1⟩
  obtain ⟨a1, c1, hv1⟩ := own_shape ho1
  subst hv1
  have hX1 := blk_below hX0 hb1 (by omega)
  have hS1 := blk_below hS0 hb1 (by omega)
  have hO1 := blk_below hO0 hb1 (by omega)
  have hz1 := hb1.size
  have hB1 := hb0.trans (hb1.mono hb0.size)
  have x2 := cell_of_row _ _ 1 _ _ _ hX1
  have x3 := cell_of_row _ _ 2 _ _ _ hX1
  have o0 := cell_of_row _ _ 0 _ _ _ hO1
  have o1 := cell_of_row _ _ 1 _ _ _ hO1
  have f0 := frozen_of_row _ _ 0 _ _ hO1
  have f1 := frozen_of_row _ _ 1 _ _ hO1
  obtain ⟨W1, hW1⟩ : ∃ x, x = (w1.setCell ⟨w.heap.size + 2, 0, none⟩ (.slice a1 l.regs.length c1)).setCell ⟨w.heap.size + 2, 1, none⟩ (.int .i64 l.pc) := ⟨_, rfl⟩
  have hB2 : Below w.heap.size w W1 := by rw [hW1]; exact (hB1.setCell (by simp) _).setCell (by simp) _
  have hXW : W1.heap[w.heap.size]? = some (.cells #[.slice ra l.regs.length rn, .int .i64 l.pc, .slice ta l.turns.length tn, .bool l.waits] 38 (0, 0)) := by
    rw [hW1, heap_setCell_other _ _ _ _ (by simp), heap_setCell_other _ _ _ _ (by simp)]; exact hX1
  have hSW : W1.heap[w.heap.size + 1]? = some (.cells #[.slice none 0 0, .int .i64 0, .slice none 0 0, .bool false] 31 (0, 0)) := by
    rw [hW1, heap_setCell_other _ _ _ _ (by simp), heap_setCell_other _ _ _ _ (by simp)]; exact hS1
  have hOW : W1.heap[w.heap.size + 2]? = some (.cells #[.slice a1 l.regs.length c1, .int .i64 l.pc, .slice none 0 0, .bool false] 31 (0, 0)) := by
    rw [hW1]; exact heap_setCell_same _ _ 1 _ _ _ (heap_setCell_same _ _ 0 _ _ _ hO1)
  have hoW : W1.ownsRow W0.heap.size 3 1 (.slice a1 l.regs.length c1) l.regs.length (l.regs.map (Value.int .i64)) := by
    rw [hW1]; exact ownsRow_setCell_below (ownsRow_setCell_below ho1 (a := ⟨w.heap.size + 2, 0, none⟩) (by show w.heap.size + 2 < _; omega) _) (a := ⟨w.heap.size + 2, 1, none⟩) (by show w.heap.size + 2 < _; omega) _
  have hsW : W1.heap.size = w1.heap.size := by rw [hW1]; simp
  have H2 := Lib.hid (toIntS_any _ l.turns W1 (HT.out.below hB2 (Nat.le_refl _)) hn2)
  have HW1 := Lib.hid hW1
  clear hW1 hb1 hB1 ho1 hX0 hS0 hO0 hX1 hS1 hO1
  go_wp2_with fail
  rw [← HW1.out]
  refine H2.out.mono ?_
  rintro e w2 ⟨v2, rfl, ho2, hb2⟩
  obtain ⟨a2, c2, hv2⟩ := own_shape ho2
  subst hv2
  have hlt2 := own_ge ho2
  have hX2 := blk_below hXW hb2 (by omega)
  have hS2 := blk_below hSW hb2 (by omega)
  have hO2 := blk_below hOW hb2 (by omega)
  have ho1b := owns_below hoW hb2 (Nat.le_refl _)
  have hlt1 := own_lt hoW
  have hB3 := hB2.trans (hb2.mono hB2.size)
  clear x2 x3 o0 o1 f0 f1
  have x3 := cell_of_row _ _ 3 _ _ _ hX2
  have o0 := cell_of_row _ _ 0 _ _ _ hO2
  have o1 := cell_of_row _ _ 1 _ _ _ hO2
  have o2 := cell_of_row _ _ 2 _ _ _ hO2
  have o3 := cell_of_row _ _ 3 _ _ _ hO2
  have f2 := frozen_of_row _ _ 2 _ _ hO2
  have f3 := frozen_of_row _ _ 3 _ _ hO2
  have s0 := cell_of_row _ _ 0 _ _ _ hS2
  have s1 := cell_of_row _ _ 1 _ _ _ hS2
  have s2 := cell_of_row _ _ 2 _ _ _ hS2
  have s3 := cell_of_row _ _ 3 _ _ _ hS2
  have t0 := frozen_of_row _ _ 0 _ _ hS2
  have t1 := frozen_of_row _ _ 1 _ _ hS2
  have t2 := frozen_of_row _ _ 2 _ _ hS2
  have t3 := frozen_of_row _ _ 3 _ _ hS2
  simp only [List.getElem?_toArray, List.getElem?_cons_zero, List.getElem?_cons_succ] at x3 o0 o1 o2 o3 s0 s1 s2 s3
  have lows : ∀ (x : World) (base : Nat) (v : Value) (xs : List Int), w.heap.size + 3 ≤ base → x.ownsRow base 3 1 v xs.length (xs.map (Value.int .i64)) → ∀ (g j : Nat) (y : Value), g < w.heap.size + 3 → (x.setCell ⟨g, j, none⟩ y).ownsRow base 3 1 v xs.length (xs.map (Value.int .i64)) :=
    fun x base v xs hbs ho g j y hg => ownsRow_setCell_below ho (a := ⟨g, j, none⟩) (by show g < base; omega) y
  have hne : ∀ b, (Value.slice a1 l.regs.length c1).ownBlock = some b → (Value.slice a2 l.turns.length c2).ownBlock ≠ some b := fun b h1 h2 => by
    have e1 := hlt1 b h1
    have e2 := hlt2 b h2
    omega
  have LOWS := Lib.hid lows
  have HNE := Lib.hid hne
  have hw3 : w.heap.size + 3 ≤ W0.heap.size := by omega
  have hw4 : w.heap.size + 3 ≤ W1.heap.size := by omega
  have hw5 : w.heap.size ≤ W0.heap.size := by omega
  have hw6 : w.heap.size ≤ W1.heap.size := by omega
  clear hX2 hS2 hO2 hXW hSW hOW hb2 hlt1 hlt2 lows hne hs0 hsW hz1
  go_wp2
  refine bodyPost_ret (v := .agg #[.slice a1 l.regs.length c1, .int .i64 l.pc, .slice a2 l.turns.length c2, .bool l.waits]) (by simp [results, Try.results23, go_sem, s0, s1, s2, s3]) rfl ⟨_, _, rfl, ⟨?_, ?_, HNE.out⟩, ?_⟩
  · refine own_mono ?_ hw5
    refine LOWS.out _ _ _ _ hw3 ?_ _ _ _ (by omega)
    refine LOWS.out _ _ _ _ hw3 ?_ _ _ _ (by omega)
    refine LOWS.out _ _ _ _ hw3 ?_ _ _ _ (by omega)
    refine LOWS.out _ _ _ _ hw3 ?_ _ _ _ (by omega)
    refine LOWS.out _ _ _ _ hw3 ?_ _ _ _ (by omega)
    refine LOWS.out _ _ _ _ hw3 ho1b _ _ _ (by omega)
  · refine own_mono ?_ hw6
    refine LOWS.out _ _ _ _ hw4 ?_ _ _ _ (by omega)
    refine LOWS.out _ _ _ _ hw4 ?_ _ _ _ (by omega)
    refine LOWS.out _ _ _ _ hw4 ?_ _ _ _ (by omega)
    refine LOWS.out _ _ _ _ hw4 ?_ _ _ _ (by omega)
    refine LOWS.out _ _ _ _ hw4 ?_ _ _ _ (by omega)
    refine LOWS.out _ _ _ _ hw4 ho2 _ _ _ (by omega)
  · exact (((((hB3.setCell (by first | (simp; done) | (simp; omega)) _).setCell (by first | (simp; done) | (simp; omega)) _).setCell (by first | (simp; done) | (simp; omega)) _).setCell (by first | (simp; done) | (simp; omega)) _).setCell (by first | (simp; done) | (simp; omega)) _).setCell (by first | (simp; done) | (simp; omega)) _
end Go.Proofs.Ytmjkjdibolcblaa
