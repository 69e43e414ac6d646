/- YteephdbjhpbnjaaLane0: a new lane; comparison and marks of lanes. Conditions: the numbers of a lane's registers and turns are at most 1048576 each. -/
import Derived.Test.YteephdbjhpbnjaaMemI
namespace Go.Proofs.Yteephdbjhpbnjaa
open Go.ChangeShapes Go.WideShapes Go.ChangeAt Go.RowKit

structure Ln where
  regs : List Int
  pc : Int
  turns : List Int
  waits : Bool

/-- The value v reads as the lane l. -/
def RdLn (w : World) (v : Value) (l : Ln) : Prop :=
  ∃ r t, v = .agg #[r, .int .i64 l.pc, t, .bool l.waits] ∧ RdI .i64 w r l.regs ∧ RdI .i64 w t l.turns
theorem RdLn.below {B : Nat} {w w' : World} {v : Value} {l : Ln} (h : RdLn w v l) (hb : Below B w w') (hB : w.heap.size ≤ B) : RdLn w' v l := by
  obtain ⟨r, t, rfl, h1, h2⟩ := h
  exact ⟨r, t, rfl, h1.below hb hB, h2.below hb hB⟩
/-- The value v is a lane in new memory, from block base on. -/
def OwnLn (w : World) (base : Nat) (r t : Value) (l : Ln) : Prop :=
  w.ownsRow base 3 1 r l.regs.length (l.regs.map (Value.int .i64)) ∧ w.ownsRow base 3 1 t l.turns.length (l.turns.map (Value.int .i64)) ∧ (∀ b, r.ownBlock = some b → t.ownBlock ≠ some b)
theorem OwnLn.below {B base : Nat} {w w' : World} {r t : Value} {l : Ln} (h : OwnLn w base r t l) (hb : Below B w w') (hB : w.heap.size ≤ B) : OwnLn w' base r t l :=
  ⟨owns_below h.1 hb hB, owns_below h.2.1 hb hB, h.2.2⟩
theorem OwnLn.rd {w : World} {base : Nat} {r t : Value} {l : Ln} (h : OwnLn w base r t l) (h1 : ∀ x ∈ l.regs, (Lit.int .i64 x).wf = true) (h2 : ∀ x ∈ l.turns, (Lit.int .i64 x).wf = true) : RdLn w (.agg #[r, .int .i64 l.pc, t, .bool l.waits]) l :=
  ⟨r, t, rfl, rdI_of_owns h.1 h1, rdI_of_owns h.2.1 h2⟩
def NewLn (w : World) (l : Ln) (e : Ending) (w' : World) : Prop :=
  ∃ r t, e = .returned (.agg #[r, .int .i64 l.pc, t, .bool l.waits]) ∧ OwnLn w' w.heap.size r t l ∧ Below w.heap.size w w'

/-- A block of four cells. -/
structure Box4 (w : World) (b : Nat) (c0 c1 c2 c3 : Value) : Prop where
  at0 : w.cell? ⟨b, 0, none⟩ = some c0
  at1 : w.cell? ⟨b, 1, none⟩ = some c1
  at2 : w.cell? ⟨b, 2, none⟩ = some c2
  at3 : w.cell? ⟨b, 3, none⟩ = some c3
  lt : b < w.heap.size
theorem Box4.new (w : World) (c0 c1 c2 c3 : Value) (E : TypeId) : Box4 (w.alloc (.cells #[c0, c1, c2, c3] E)) w.heap.size c0 c1 c2 c3 := by
  have h := fun o => cell_of_row (w.alloc (.cells #[c0, c1, c2, c3] E)) w.heap.size o #[c0, c1, c2, c3] E (0, 0) (heap_alloc_new w _)
  exact ⟨h 0, h 1, h 2, h 3, by simp⟩
theorem Box4.below {w w' : World} {b B : Nat} {c0 c1 c2 c3 : Value} (h : Box4 w b c0 c1 c2 c3) (hb : Below B w w') (hB : w.heap.size ≤ B) : Box4 w' b c0 c1 c2 c3 := by
  have hl := h.lt
  have hc := fun o => hb.cell (p := ⟨b, o, none⟩) (show b < B by omega)
  exact ⟨(hc 0).trans h.at0, (hc 1).trans h.at1, (hc 2).trans h.at2, (hc 3).trans h.at3, Nat.lt_of_lt_of_le hl hb.size⟩
theorem Box4.wr {w w' : World} {b : Nat} {p : Nat → Prop} {c0 c1 c2 c3 : Value} (h : Box4 w b c0 c1 c2 c3) (hw : Wr w w' p) (hp : ¬ p b) : Box4 w' b c0 c1 c2 c3 := by
  have hc := fun o => hw.cell (o := o) h.lt hp
  exact ⟨(hc 0).trans h.at0, (hc 1).trans h.at1, (hc 2).trans h.at2, (hc 3).trans h.at3, Nat.lt_of_lt_of_le h.lt hw.size⟩
theorem below_alloc (w : World) (o : Obj) : Below w.heap.size w (w.alloc o) := (Below.refl _ _).alloc (Nat.le_refl _) _
set_option maxHeartbeats 1000000 in
theorem eqLane_same (v u : Value) (l : Ln) (w : World) (hl : RdLn w v l) (hl' : RdLn w u l) :
    Calls Try.prog 43 #[v, u] w fun e w' => e = .returned (.bool true) ∧ Below w.heap.size w w' := by
  obtain ⟨r, t, rfl, h1, h2⟩ := hl
  obtain ⟨r', t', rfl, h3, h4⟩ := hl'
  have hb0 : Below w.heap.size w ((w.alloc (.cells #[r, .int .i64 l.pc, t, .bool l.waits] 49)).alloc (.cells #[r', .int .i64 l.pc, t', .bool l.waits] 49)) := ((Below.refl _ _).alloc (Nat.le_refl _) _).alloc (by simp) _
  go_enter Try.func43, Try.ntmps43
  go_wp2_with fail
  refine (eqIntS_same _ _ l.regs _ (h1.below hb0 (Nat.le_refl _)) (h3.below hb0 (Nat.le_refl _))).mono ?_
  rintro e w1 ⟨rfl, hb1⟩
  obtain ⟨hc1, hf1⟩ := bcell hb1
  have hz1 := hb1.size
  have hB1 := hb0.trans (hb1.mono hb0.size)
  simp only [World.size_alloc] at hc1 hf1 hz1
  go_wp2_with fail
  refine (eqIntS_same _ _ l.turns _ (h2.below hB1 (Nat.le_refl _)) (h4.below hB1 (Nat.le_refl _))).mono ?_
  rintro e w2 ⟨rfl, hb2⟩
  obtain ⟨hc2, hf2⟩ := bcell hb2
  have hB2 := hB1.trans (hb2.mono hB1.size)
  have g0 := hc2 w.heap.size 3 (by omega)
  have g1 := hc2 (w.heap.size + 1) 3 (by omega)
  rw [hc1 _ _ (by omega)] at g0 g1
  clear hc1 hf1 hc2 hf2
  go_wp2
  go_ret
  exact ⟨rfl, hB2⟩

theorem own_ne {w : World} {base e sz n : Nat} {v : Value} {cs : List Value} (h : w.ownsRow base e sz v n cs) {k : Nat} (hk : w.heap.size ≤ k) : ¬ v.ownBlock = some k := fun hh => by have := own_lt h k hh; omega


def ln0 : Ln := ⟨[0, 0, 0, 0], 0, [], false⟩
end Go.Proofs.Yteephdbjhpbnjaa
