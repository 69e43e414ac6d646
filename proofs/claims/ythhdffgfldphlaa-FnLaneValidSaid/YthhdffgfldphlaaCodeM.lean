/- YthhdffgfldphlaaCodeM: instructions and lists of instructions in memory; the copies and comparisons that the laws make of them. Conditions: a list that is copied has at most 1048576 instructions. -/
import Derived.Test.YthhdffgfldphlaaCodeP
import Derived.Deep.RegionWith
namespace Go.Proofs.Ythhdffgfldphlaa
open Go.ChangeShapes Go.WideShapes Go.ChangeAt Go.RowKit
set_option linter.unusedVariables false

def Cd.cells (c : Cd) : List Value := [.int .i64 c.op, .int .i64 c.a, .int .i64 c.b, .int .i64 c.c]
def Cd.wf (c : Cd) : Prop := (Lit.int .i64 c.op).wf = true ∧ (Lit.int .i64 c.a).wf = true ∧ (Lit.int .i64 c.b).wf = true ∧ (Lit.int .i64 c.c).wf = true
def cdCells (cs : List Cd) : List Value := cs.flatMap Cd.cells
theorem cdCells_length (cs : List Cd) : (cdCells cs).length = cs.length * 4 := by
  induction cs with
  | nil => rfl
  | cons c r ih => simp only [cdCells, List.flatMap_cons, List.length_append] at ih ⊢; rw [ih]; simp [Cd.cells]; omega
theorem cdCells_get (cs : List Cd) : ∀ (i : Nat) (c : Cd), cs[i]? = some c → (cdCells cs)[4 * i]? = some (.int .i64 c.op) ∧ (cdCells cs)[4 * i + 1]? = some (.int .i64 c.a) ∧ (cdCells cs)[4 * i + 2]? = some (.int .i64 c.b) ∧ (cdCells cs)[4 * i + 3]? = some (.int .i64 c.c) := by
  induction cs with
  | nil => intro i c h; simp at h
  | cons d r ih =>
    intro i c h
    cases i with
    | zero =>
      simp only [List.getElem?_cons_zero, Option.some.injEq] at h
      subst h
      exact ⟨rfl, rfl, rfl, rfl⟩
    | succ j =>
      have h2 := ih j c (by simpa using h)
      have e : cdCells (d :: r) = .int .i64 d.op :: .int .i64 d.a :: .int .i64 d.b :: .int .i64 d.c :: cdCells r := rfl
      rw [e, show 4 * (j + 1) = 4 * j + 1 + 1 + 1 + 1 by omega]
      simpa using h2
/-- The value v reads as a list of instructions. -/
def RdC (w : World) (v : Value) (cs : List Cd) : Prop := Rd w v 4 cs.length (cdCells cs) ∧ ∀ c ∈ cs, c.wf
theorem RdC.below {B : Nat} {w w' : World} {v : Value} {cs : List Cd} (h : RdC w v cs) (hb : Below B w w') (hB : w.heap.size ≤ B) : RdC w' v cs := ⟨h.1.below hb hB, h.2⟩
theorem RdC.shape {w : World} {v : Value} {cs : List Cd} (h : RdC w v cs) : ∃ a c, v = .slice a cs.length c ∧ cs.length ≤ c ∧ c ≤ 9223372036854775807 := by
  obtain ⟨⟨_, a, c, hv, h1, h2, _⟩, _⟩ := h
  exact ⟨a, c, hv, h1, by unfold maxLen at h2; omega⟩
/-- Opened: its shape, and the four cells of each instruction. -/
theorem RdC.form {w : World} {v : Value} {cs : List Cd} (h : RdC w v cs) :
    ∃ a n b off, v = .slice a cs.length n ∧ cs.length ≤ n ∧ n ≤ 9223372036854775807 ∧ (cs ≠ [] → b < w.heap.size) ∧ ∀ i c, cs[i]? = some c → a = some ⟨b, off, none⟩ ∧
      w.cell? ⟨b, off + i * 4, none⟩ = some (.int .i64 c.op) ∧ w.cell? ⟨b, off + i * 4 + 1, none⟩ = some (.int .i64 c.a) ∧ w.cell? ⟨b, off + i * 4 + 2, none⟩ = some (.int .i64 c.b) ∧ w.cell? ⟨b, off + i * 4 + 3, none⟩ = some (.int .i64 c.c) := by
  obtain ⟨⟨h1, a, n, hv, h3, h4, h5⟩, _⟩ := h
  have h4' : n ≤ 9223372036854775807 := by unfold maxLen at h4; omega
  by_cases hx : cs = []
  · exact ⟨a, n, 0, 0, hv, h3, h4', fun h => absurd hx h, by simp [hx]⟩
  · obtain ⟨b, off, ha, hb, hc⟩ := h5 (List.length_pos_iff.2 hx)
    refine ⟨a, n, b, off, hv, h3, h4', fun _ => hb, fun i c hi => ⟨ha, ?_⟩⟩
    obtain ⟨g0, g1, g2, g3⟩ := cdCells_get cs i c hi
    rw [show i * 4 = 4 * i by omega]
    exact ⟨hc _ _ g0, by rw [Nat.add_assoc]; exact hc _ _ g1, by rw [Nat.add_assoc]; exact hc _ _ g2, by rw [Nat.add_assoc]; exact hc _ _ g3⟩
theorem rdC_of_owns {w : World} {base e : Nat} {v : Value} {cs : List Cd} (h : w.ownsRow base e 4 v cs.length (cdCells cs)) (hw : ∀ c ∈ cs, c.wf) : RdC w v cs := ⟨rd_of_owns h, hw⟩

/-- An instruction as a value. -/
def Cd.val (c : Cd) : Value := .agg #[.int .i64 c.op, .int .i64 c.a, .int .i64 c.b, .int .i64 c.c]
/-- A new list of instructions is returned; nothing that was there has changed. -/
def NewC (w : World) (cs : List Cd) (e : Ending) (w' : World) : Prop :=
  ∃ v, e = .returned v ∧ w'.ownsRow w.heap.size 41 4 v cs.length (cdCells cs) ∧ Below w.heap.size w w'
theorem infoCode : (Try.prog.info? 41).map (fun i => (i.zero, i.size, i.bytes)) = some (some (.agg #[.int .i64 0, .int .i64 0, .int .i64 0, .int .i64 0]), 4, 32) := by kernel_rfl
theorem oneC (cs : List Cd) : ∀ u ∈ cdCells cs, u.oneCell' = true := by
  intro u hu
  obtain ⟨c, _, hc⟩ := List.mem_flatMap.1 hu
  simp only [Cd.cells, List.mem_cons, List.not_mem_nil, or_false] at hc
  rcases hc with rfl | rfl | rfl | rfl <;> rfl

theorem toList_made4 (z : Value) (n : Nat) : (madeCells #[z, z, z, z] n).toList = List.replicate n z := by
  apply List.ext_getElem?
  intro j
  by_cases hj : j < n
  · have h4 : j % 4 < 4 := Nat.mod_lt _ (by decide)
    have : j % 4 = 0 ∨ j % 4 = 1 ∨ j % 4 = 2 ∨ j % 4 = 3 := by omega
    simp [madeCells, hj]
    rcases this with h | h | h | h <;> (rw [h]; rfl)
  · simp [madeCells, hj]
/-- Four cells are stored into a row. -/
theorem stored4 {w : World} {base e n cap g : Nat} {cs : List Value} (h : w.ownsRow base e 4 (.slice (some ⟨g, 0, none⟩) n cap) n cs) (j : Nat) (a b c d : Value) :
    ((((w.setCell ⟨g, j, none⟩ a).setCell ⟨g, j + 1, none⟩ b).setCell ⟨g, j + 2, none⟩ c).setCell ⟨g, j + 3, none⟩ d).ownsRow base e 4 (.slice (some ⟨g, 0, none⟩) n cap) n ((((cs.set j a).set (j + 1) b).set (j + 2) c).set (j + 3) d) ∧
      w.grownBy ((((w.setCell ⟨g, j, none⟩ a).setCell ⟨g, j + 1, none⟩ b).setCell ⟨g, j + 2, none⟩ c).setCell ⟨g, j + 3, none⟩ d) (some g) := by
  have s1 := h.stored j a
  have s2 := s1.1.stored (j + 1) b
  have s3 := s2.1.stored (j + 2) c
  have s4 := s3.1.stored (j + 3) d
  exact ⟨s4.1, ((s1.2.trans s2.2).trans s3.2).trans s4.2⟩
theorem fill_get' (xs : List Value) (z : Value) {k j : Nat} (hj : k ≤ j) (h : j < xs.length) : (fillL xs z k)[j]? = some z := by
  unfold fillL
  rw [List.getElem?_append_right (by simp; omega), List.getElem?_replicate, if_pos (by simp; omega)]
theorem fill4 (cs : List Cd) {k : Nat} {c : Cd} (h : cs[k]? = some c) (z : Value) :
    ((((fillL (cdCells cs) z (k * 4)).set (k * 4) (.int .i64 c.op)).set (k * 4 + 1) (.int .i64 c.a)).set (k * 4 + 2) (.int .i64 c.b)).set (k * 4 + 3) (.int .i64 c.c) = fillL (cdCells cs) z ((k + 1) * 4) := by
  obtain ⟨g0, g1, g2, g3⟩ := cdCells_get cs k c h
  rw [show 4 * k = k * 4 by omega] at g0 g1 g2 g3
  rw [fill_set _ _ g0, fill_set _ _ g1, fill_set _ _ g2, fill_set _ _ g3, show k * 4 + 3 + 1 = (k + 1) * 4 by omega]
end Go.Proofs.Ythhdffgfldphlaa
