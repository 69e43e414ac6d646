/- YthhdffgfldphlaaLane0: a new lane; comparison and marks of lanes. Conditions: the numbers of a lane's registers and turns are at most 1048576 each. -/
import Derived.Test.YthhdffgfldphlaaMemI
namespace Go.Proofs.Ythhdffgfldphlaa
open Go.ChangeShapes Go.WideShapes Go.ChangeAt Go.RowKit

structure Ln where
  regs : List Int
  pc : Int
  turns : List Int
  waits : Bool

/-- The value v reads as the lane l. -/
def RdLn (w : World) (v : Value) (l : Ln) : Prop :=
  ∃ r t, v = .agg #[r, .int .i64 l.pc, t, .bool l.waits] ∧ RdI .i64 w r l.regs ∧ RdI .i64 w t l.turns
theorem RdLn.below {B : Nat} {w w' : World} {v : Value} {l : Ln} (h : RdLn w v l) (hb : Below B w w') (hB : w.heap.size ≤ B) : RdLn w' v l := by
  obtain ⟨r, t, rfl, h1, h2⟩ := h
  exact ⟨r, t, rfl, h1.below hb hB, h2.below hb hB⟩
/-- The value v is a lane in new memory, from block base on. -/
def OwnLn (w : World) (base : Nat) (r t : Value) (l : Ln) : Prop :=
  w.ownsRow base 3 1 r l.regs.length (l.regs.map (Value.int .i64)) ∧ w.ownsRow base 3 1 t l.turns.length (l.turns.map (Value.int .i64)) ∧ (∀ b, r.ownBlock = some b → t.ownBlock ≠ some b)
theorem OwnLn.below {B base : Nat} {w w' : World} {r t : Value} {l : Ln} (h : OwnLn w base r t l) (hb : Below B w w') (hB : w.heap.size ≤ B) : OwnLn w' base r t l :=
  ⟨owns_below h.1 hb hB, owns_below h.2.1 hb hB, h.2.2⟩
theorem OwnLn.rd {w : World} {base : Nat} {r t : Value} {l : Ln} (h : OwnLn w base r t l) (h1 : ∀ x ∈ l.regs, (Lit.int .i64 x).wf = true) (h2 : ∀ x ∈ l.turns, (Lit.int .i64 x).wf = true) : RdLn w (.agg #[r, .int .i64 l.pc, t, .bool l.waits]) l :=
  ⟨r, t, rfl, rdI_of_owns h.1 h1, rdI_of_owns h.2.1 h2⟩
def NewLn (w : World) (l : Ln) (e : Ending) (w' : World) : Prop :=
  ∃ r t, e = .returned (.agg #[r, .int .i64 l.pc, t, .bool l.waits]) ∧ OwnLn w' w.heap.size r t l ∧ Below w.heap.size w w'

/-- A block of four cells. -/
structure Box4 (w : World) (b : Nat) (c0 c1 c2 c3 : Value) : Prop where
  at0 : w.cell? ⟨b, 0, none⟩ = some c0
  at1 : w.cell? ⟨b, 1, none⟩ = some c1
  at2 : w.cell? ⟨b, 2, none⟩ = some c2
  at3 : w.cell? ⟨b, 3, none⟩ = some c3
  lt : b < w.heap.size
theorem Box4.new (w : World) (c0 c1 c2 c3 : Value) (E : TypeId) : Box4 (w.alloc (.cells #[c0, c1, c2, c3] E)) w.heap.size c0 c1 c2 c3 := by
  have h := fun o => cell_of_row (w.alloc (.cells #[c0, c1, c2, c3] E)) w.heap.size o #[c0, c1, c2, c3] E (0, 0) (heap_alloc_new w _)
  exact ⟨h 0, h 1, h 2, h 3, by simp⟩
theorem Box4.below {w w' : World} {b B : Nat} {c0 c1 c2 c3 : Value} (h : Box4 w b c0 c1 c2 c3) (hb : Below B w w') (hB : w.heap.size ≤ B) : Box4 w' b c0 c1 c2 c3 := by
  have hl := h.lt
  have hc := fun o => hb.cell (p := ⟨b, o, none⟩) (show b < B by omega)
  exact ⟨(hc 0).trans h.at0, (hc 1).trans h.at1, (hc 2).trans h.at2, (hc 3).trans h.at3, Nat.lt_of_lt_of_le hl hb.size⟩
theorem Box4.wr {w w' : World} {b : Nat} {p : Nat → Prop} {c0 c1 c2 c3 : Value} (h : Box4 w b c0 c1 c2 c3) (hw : Wr w w' p) (hp : ¬ p b) : Box4 w' b c0 c1 c2 c3 := by
  have hc := fun o => hw.cell (o := o) h.lt hp
  exact ⟨(hc 0).trans h.at0, (hc 1).trans h.at1, (hc 2).trans h.at2, (hc 3).trans h.at3, Nat.lt_of_lt_of_le h.lt hw.size⟩
theorem below_alloc (w : World) (o : Obj) : Below w.heap.size w (w.alloc o) := (Below.refl _ _).alloc (Nat.le_refl _) _

theorem own_ne {w : World} {base e sz n : Nat} {v : Value} {cs : List Value} (h : w.ownsRow base e sz v n cs) {k : Nat} (hk : w.heap.size ≤ k) : ¬ v.ownBlock = some k := fun hh => by have := own_lt h k hh; omega


def ln0 : Ln := ⟨[0, 0, 0, 0], 0, [], false⟩
set_option maxHeartbeats 1000000 in
theorem specNewLane (w : World) : Calls Try.prog 24 #[] w (NewLn w ln0) := by
  obtain ⟨i0, hi, hz0, hz1, hz2⟩ := info_parts infoInt
  have hz3 : i0.bytes * 4 ≤ 281474976710656 := by rw [hz2]; decide
  have HZ := Lib.hid hz2
  clear hz2
  go_enter Try.func24, Try.ntmps24
  go_wp2_with (at_make; refine wpList_make_full _ rfl _ _ 23 rfl (w.heap.size + 1) 3 i0 (.int .i64 0) 1 Try.underlying23 hi hz0 hz1 _ _ _ _ 4 rfl rfl rfl rfl hz3 (by decide) (by simp) ?_)
  clear hz3 HZ hz0 hz1 hi
  intro w1 ho1 hg1
  have hb1 : Below (w.heap.size + 1) (w.alloc (.cells #[.slice none 0 0, .int .i64 0, .slice none 0 0, .bool false] 25)) w1 := (Below.refl _ _).grown hg1 (by simp) (by intro k hk; cases hk)
  have g0 := fun o => hb1.cell (p := ⟨w.heap.size, o, none⟩) (by simp)
  have f0 := fun o => hb1.frozen (p := ⟨w.heap.size, o, none⟩) (by simp)
  have hz := hb1.size
  have hB1 : Below w.heap.size w w1 := ((Below.refl _ _).alloc (Nat.le_refl _) _).trans (hb1.mono (by omega))
  have ho2 : w1.ownsRow (w.heap.size + 1) 3 1 (.slice (some ⟨w.heap.size + 1, 0, none⟩) 4 4) 4 ([0, 0, 0, 0].map (Value.int .i64)) := by
    have e : ([0, 0, 0, 0] : List Int).map (Value.int .i64) = (madeCells (Value.int .i64 0).cells (4 * 1)).toList := by rw [show (Value.int .i64 0).cells = #[.int .i64 0] from rfl, toList_madeCells_one]; rfl
    rw [e]; exact ho1
  have ho3 := ownsRow_setCell_below (ownsRow_setCell_below (ownsRow_setCell_below (ownsRow_setCell_below ho2 (a := ⟨w.heap.size, 0, none⟩) (Nat.lt_succ_self _) (.slice (some ⟨w.heap.size + 1, 0, none⟩) 4 4)) (a := ⟨w.heap.size, 1, none⟩) (Nat.lt_succ_self _) (.int .i64 0)) (a := ⟨w.heap.size, 2, none⟩) (Nat.lt_succ_self _) (.slice none 0 0)) (a := ⟨w.heap.size, 3, none⟩) (Nat.lt_succ_self _) (.bool false)
  clear ho1 ho2 hg1 hb1
  go_wp2
  refine bodyPost_ret (v := .agg #[.slice (some ⟨w.heap.size + 1, 0, none⟩) 4 4, .int .i64 0, .slice none 0 0, .bool false]) (by simp [results, Try.results24, go_sem, g0]) rfl ⟨_, _, rfl, ⟨own_mono ho3 (Nat.le_succ _), World.ownsRow_nil _ _ _ _, by simp [Value.ownBlock]⟩, (((hB1.setCell (Nat.le_refl _) _).setCell (Nat.le_refl _) _).setCell (Nat.le_refl _) _).setCell (Nat.le_refl _) _⟩
end Go.Proofs.Ythhdffgfldphlaa
