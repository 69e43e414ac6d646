/- YtidmjeehcmpjnaaDoorCodeN: numbers of instructions, the registers that they read and write, in the program and in the reference. No conditions. -/
import Derived.Test.YtidmjeehcmpjnaaDoorCodesS
namespace Go.Proofs.YtidmjeehcmpjnaaDoor
open Go.ChangeShapes Go.WideShapes Go.ChangeAt Go.RowKit
set_option linter.unusedVariables false

theorem box_cells {x y z u : Int} {w w1 : World} {k : TypeId} (hb : Below (w.alloc (.cells #[.int .i64 x, .int .i64 y, .int .i64 z, .int .i64 u] k)).heap.size (w.alloc (.cells #[.int .i64 x, .int .i64 y, .int .i64 z, .int .i64 u] k)) w1) :
    w1.cell? ⟨w.heap.size, 0, none⟩ = some (.int .i64 x) ∧ w1.cell? ⟨w.heap.size, 1, none⟩ = some (.int .i64 y) ∧ w1.cell? ⟨w.heap.size, 2, none⟩ = some (.int .i64 z) ∧ w1.cell? ⟨w.heap.size, 3, none⟩ = some (.int .i64 u) ∧ Below w.heap.size w w1 := by
  have q := fun j => (hb.cell (p := ⟨w.heap.size, j, none⟩) (by simp)).trans (cell_of_row _ w.heap.size j #[.int .i64 x, .int .i64 y, .int .i64 z, .int .i64 u] k (0, 0) (heap_alloc_new w _))
  exact ⟨q 0, q 1, q 2, q 3, ((Below.refl _ _).alloc (Nat.le_refl _) _).trans (hb.mono (by simp))⟩
theorem below_dn {B : Nat} {w w' : World} (h : Below B w w') (n : Nat) : Below B w (w'.drewN n) := ⟨h.os, h.tape, h.output, h.size, h.block⟩
theorem shl_bd {x : Int} (h : 0 ≤ x ∧ x ≤ 3) : 1 ≤ (2 : Int) ^ x.toNat ∧ (2 : Int) ^ x.toNat ≤ 8 := by
  obtain ⟨k, rfl⟩ : ∃ k : Nat, x = k := ⟨x.toNat, by omega⟩
  rcases (show k = 0 ∨ k = 1 ∨ k = 2 ∨ k = 3 by omega) with rfl | rfl | rfl | rfl <;> decide
set_option maxHeartbeats 1000000 in
theorem specCodeNumber (c : Cd) (w : World) : Calls Tryd.prog 35 #[.agg #[.int .i64 c.op, .int .i64 c.a, .int .i64 c.b, .int .i64 c.c]] w fun e w' => e = .returned (.int .i64 (cNum c)) ∧ Below w.heap.size w w' := by
  cases hv : cValid c
  · have HN := Lib.hid (cNum_f hv)
    have HC := Lib.hid (specCodeValid c)
    rw [hv] at HC
    go_enter Tryd.func35, Tryd.ntmps35
    go_wp2_with fail
    refine (HC.out _).mono ?_
    rintro e w1 ⟨rfl, hb1⟩
    obtain ⟨q0, q1, q2, q3, hB⟩ := box_cells hb1
    clear hb1
    go_wp2
    go_ret
    exact ⟨by rw [HN.out]; rfl, hB⟩
  · have HN := Lib.hid (cNum_t hv)
    obtain ⟨i1, i2, i3, i4, i5, i6, i7, i8, _⟩ := cValid_bd hv
    have HC := Lib.hid (specCodeValid c)
    rw [hv] at HC
    go_enter Tryd.func35, Tryd.ntmps35
    go_wp2_with fail
    refine (HC.out _).mono ?_
    rintro e w1 ⟨rfl, hb1⟩
    obtain ⟨q0, q1, q2, q3, hB⟩ := box_cells hb1
    clear hb1
    go_wp2
    go_ret
    exact ⟨by rw [HN.out]; rfl, hB⟩
set_option maxHeartbeats 1000000 in
theorem implCodeNumber (c : Cd) (w : World) : Calls Tryd.prog 34 #[.agg #[.int .i64 c.op, .int .i64 c.a, .int .i64 c.b, .int .i64 c.c]] w fun e w' => e = .returned (.int .i64 (cNum c)) ∧ Below w.heap.size w w' := by
  cases hv : cValid c
  · have HN := Lib.hid (cNum_f hv)
    have HC := Lib.hid (implCodeValid c)
    rw [hv] at HC
    go_enter Tryd.func34, Tryd.ntmps34
    go_wp2_with fail
    refine (HC.out _).mono ?_
    rintro e w1 ⟨rfl, hb1⟩
    obtain ⟨q0, q1, q2, q3, hB⟩ := box_cells hb1
    clear hb1
    go_wp2
    go_ret
    exact ⟨by rw [HN.out]; rfl, hB⟩
  · have HN := Lib.hid (cNum_t hv)
    obtain ⟨i1, i2, i3, i4, i5, i6, i7, i8, _⟩ := cValid_bd hv
    have HC := Lib.hid (implCodeValid c)
    rw [hv] at HC
    go_enter Tryd.func34, Tryd.ntmps34
    go_wp2_with fail
    refine (HC.out _).mono ?_
    rintro e w1 ⟨rfl, hb1⟩
    obtain ⟨q0, q1, q2, q3, hB⟩ := box_cells hb1
    clear hb1
    go_wp2
    go_ret
    exact ⟨by rw [HN.out]; rfl, hB⟩

theorem cReads_no {c : Cd} (h : cValid c = false) : cReads c = 0 := by simp [cReads, h]
theorem cWrites_no {c : Cd} (h : cValid c = false) : cWrites c = -1 := by simp [cWrites, h]
end Go.Proofs.YtidmjeehcmpjnaaDoor
