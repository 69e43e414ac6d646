/- YthhdffgfldphlaaCodeN: numbers of instructions, the registers that they read and write, in the program and in the reference. No conditions. -/
import Derived.Test.YthhdffgfldphlaaCodesS
namespace Go.Proofs.Ythhdffgfldphlaa
open Go.ChangeShapes Go.WideShapes Go.ChangeAt Go.RowKit
set_option linter.unusedVariables false

theorem box_cells {x y z u : Int} {w w1 : World} {k : TypeId} (hb : Below (w.alloc (.cells #[.int .i64 x, .int .i64 y, .int .i64 z, .int .i64 u] k)).heap.size (w.alloc (.cells #[.int .i64 x, .int .i64 y, .int .i64 z, .int .i64 u] k)) w1) :
    w1.cell? ⟨w.heap.size, 0, none⟩ = some (.int .i64 x) ∧ w1.cell? ⟨w.heap.size, 1, none⟩ = some (.int .i64 y) ∧ w1.cell? ⟨w.heap.size, 2, none⟩ = some (.int .i64 z) ∧ w1.cell? ⟨w.heap.size, 3, none⟩ = some (.int .i64 u) ∧ Below w.heap.size w w1 := by
  have q := fun j => (hb.cell (p := ⟨w.heap.size, j, none⟩) (by simp)).trans (cell_of_row _ w.heap.size j #[.int .i64 x, .int .i64 y, .int .i64 z, .int .i64 u] k (0, 0) (heap_alloc_new w _))
  exact ⟨q 0, q 1, q 2, q 3, ((Below.refl _ _).alloc (Nat.le_refl _) _).trans (hb.mono (by simp))⟩
theorem below_dn {B : Nat} {w w' : World} (h : Below B w w') (n : Nat) : Below B w (w'.drewN n) := ⟨h.os, h.tape, h.output, h.size, h.block⟩
theorem shl_bd {x : Int} (h : 0 ≤ x ∧ x ≤ 3) : 1 ≤ (2 : Int) ^ x.toNat ∧ (2 : Int) ^ x.toNat ≤ 8 := by
  obtain ⟨k, rfl⟩ : ∃ k : Nat, x = k := ⟨x.toNat, by omega⟩
  rcases (show k = 0 ∨ k = 1 ∨ k = 2 ∨ k = 3 by omega) with rfl | rfl | rfl | rfl <;> decide

theorem cReads_no {c : Cd} (h : cValid c = false) : cReads c = 0 := by simp [cReads, h]
theorem cWrites_no {c : Cd} (h : cValid c = false) : cWrites c = -1 := by simp [cWrites, h]
end Go.Proofs.Ythhdffgfldphlaa
