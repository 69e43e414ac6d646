/- YtmjkjdibolcblaaCodeN: numbers of instructions, the registers that they read and write, in the program and in the reference. No conditions. -/
import Derived.Test.YtmjkjdibolcblaaCodesS
namespace Go.Proofs.Ytmjkjdibolcblaa
open Go.ChangeShapes Go.WideShapes Go.ChangeAt Go.RowKit
set_option linter.unusedVariables false

theorem box_cells {x y z u : Int} {w w1 : World} {k : TypeId} (hb : Below (w.alloc (.cells #[.int .i64 x, .int .i64 y, .int .i64 z, .int .i64 u] k)).heap.size (w.alloc (.cells #[.int .i64 x, .int .i64 y, .int .i64 z, .int .i64 u] k)) w1) :
    w1.cell? ⟨w.heap.size, 0, none⟩ = some (.int .i64 x) ∧ w1.cell? ⟨w.heap.size, 1, none⟩ = some (.int .i64 y) ∧ w1.cell? ⟨w.heap.size, 2, none⟩ = some (.int .i64 z) ∧ w1.cell? ⟨w.heap.size, 3, none⟩ = some (.int .i64 u) ∧ Below w.heap.size w w1 := by
  have q := fun j => (hb.cell (p := ⟨w.heap.size, j, none⟩) (by simp)).trans (cell_of_row _ w.heap.size j #[.int .i64 x, .int .i64 y, .int .i64 z, .int .i64 u] k (0, 0) (heap_alloc_new w _))
  exact ⟨q 0, q 1, q 2, q 3, ((Below.refl _ _).alloc (Nat.le_refl _) _).trans (hb.mono (by simp))⟩
theorem below_dn {B : Nat} {w w' : World} (h : Below B w w') (n : Nat) : Below B w (w'.drewN n) := ⟨h.os, h.tape, h.output, h.size, h.block⟩
theorem shl_bd {x : Int} (h : 0 ≤ x ∧ x ≤ 3) : 1 ≤ (2 : Int) ^ x.toNat ∧ (2 : Int) ^ x.toNat ≤ 8 := by
  obtain ⟨k, rfl⟩ : ∃ k : Nat, x = k := ⟨x.toNat, by omega⟩
  rcases (show k = 0 ∨ k = 1 ∨ k = 2 ∨ k = 3 by omega) with rfl | rfl | rfl | rfl <;> decide

theorem cReads_no {c : Cd} (h : cValid c = false) : cReads c = 0 := by simp [cReads, h]
theorem cWrites_no {c : Cd} (h : cValid c = false) : cWrites c = -1 := by simp [cWrites, h]
set_option maxHeartbeats 4000000 in
theorem specCodeReads (c : Cd) (w : World) : Calls Try.prog 18 #[.agg #[.int .i64 c.op, .int .i64 c.a, .int .i64 c.b, .int .i64 c.c]] w fun e w' => e = .returned (.int .i64 (cReads c)) ∧ Below w.heap.size w w' := by
  cases hv : cValid c
  · have HN := Lib.hid (cReads_no hv)
    have HC := Lib.hid (specCodeValid c)
    rw [hv] at HC
    go_enter Try.func18, Try.ntmps18
    go_wp2_with fail
    refine (HC.out _).mono ?_
    rintro e w1 ⟨rfl, hb1⟩
    obtain ⟨q0, q1, q2, q3, hB⟩ := box_cells hb1
    clear hb1
    go_wp2
    go_ret
    exact ⟨by rw [HN.out]; rfl, hB⟩
  · obtain ⟨i1, i2, i3, i4, i5, i6, i7, i8, i9, i10⟩ := cValid_bd hv
    have HV := Lib.hid hv
    have HC := Lib.hid (specCodeValid c)
    rw [hv] at HC
    have s1 := shl_bd ⟨i3, i4⟩
    have s3 := shl_bd ⟨i7, i8⟩
    obtain ⟨op, a, b, d⟩ := c
    simp only at i1 i2 i3 i4 i5 i6 i7 i8 i9 i10 s1 s3
    clear hv
    rcases (show op = 1 ∨ op = 2 ∨ op = 3 ∨ op = 4 ∨ op = 5 ∨ op = 6 ∨ op = 7 ∨ op = 8 ∨ op = 9 ∨ op = 10 ∨ op = 11 ∨ op = 12 ∨ op = 13 ∨ op = 14 by omega) with rfl | rfl | rfl | rfl | rfl | rfl | rfl | rfl | rfl | rfl | rfl | rfl | rfl | rfl
    · have HN : Hid (cReads ⟨1, a, b, d⟩ = 0) := Lib.hid (by have hv := HV.out; simp [cReads, hv])
      clear i9
      go_enter Try.func18, Try.ntmps18
      go_wp2_with fail
      refine (HC.out _).mono ?_
      rintro e w1 ⟨rfl, hb1⟩
      obtain ⟨q0, q1, q2, q3, hB⟩ := box_cells hb1
      clear hb1
      go_wp2
      go_ret
      exact ⟨by rw [HN.out]; rfl, hB⟩
    · have HN : Hid (cReads ⟨2, a, b, d⟩ = 0) := Lib.hid (by have hv := HV.out; simp [cReads, hv])
      clear i9
      go_enter Try.func18, Try.ntmps18
      go_wp2_with fail
      refine (HC.out _).mono ?_
      rintro e w1 ⟨rfl, hb1⟩
      obtain ⟨q0, q1, q2, q3, hB⟩ := box_cells hb1
      clear hb1
      go_wp2
      go_ret
      exact ⟨by rw [HN.out]; rfl, hB⟩
    · have HN : Hid (cReads ⟨3, a, b, d⟩ = orI (2 ^ a.toNat) (2 ^ b.toNat)) := Lib.hid (by have hv := HV.out; simp [cReads, hv])
      have hb3 := i9 (by decide)
      have s2 := shl_bd ⟨i5, hb3⟩
      go_enter Try.func18, Try.ntmps18
      go_wp2_with fail
      refine (HC.out _).mono ?_
      rintro e w1 ⟨rfl, hb1⟩
      obtain ⟨q0, q1, q2, q3, hB⟩ := box_cells hb1
      clear hb1
      go_wp2
      go_quiet (fail)
      go_wp2
      go_ret
      exact ⟨by rw [HN.out]; rfl, below_dn hB _⟩
    · have HN : Hid (cReads ⟨4, a, b, d⟩ = orI (2 ^ a.toNat) (2 ^ b.toNat)) := Lib.hid (by have hv := HV.out; simp [cReads, hv])
      have hb3 := i9 (by decide)
      have s2 := shl_bd ⟨i5, hb3⟩
      go_enter Try.func18, Try.ntmps18
      go_wp2_with fail
      refine (HC.out _).mono ?_
      rintro e w1 ⟨rfl, hb1⟩
      obtain ⟨q0, q1, q2, q3, hB⟩ := box_cells hb1
      clear hb1
      go_wp2
      go_quiet (fail)
      go_wp2
      go_ret
      exact ⟨by rw [HN.out]; rfl, below_dn hB _⟩
    · have HN : Hid (cReads ⟨5, a, b, d⟩ = 2 ^ b.toNat) := Lib.hid (by have hv := HV.out; simp [cReads, hv])
      have hb3 := i9 (by decide)
      have s2 := shl_bd ⟨i5, hb3⟩
      go_enter Try.func18, Try.ntmps18
      go_wp2_with fail
      refine (HC.out _).mono ?_
      rintro e w1 ⟨rfl, hb1⟩
      obtain ⟨q0, q1, q2, q3, hB⟩ := box_cells hb1
      clear hb1
      go_wp2
      go_ret
      exact ⟨by rw [HN.out]; rfl, hB⟩
    · have HN : Hid (cReads ⟨6, a, b, d⟩ = orI (2 ^ b.toNat) (2 ^ d.toNat)) := Lib.hid (by have hv := HV.out; simp [cReads, hv])
      have hb3 := i9 (by decide)
      have s2 := shl_bd ⟨i5, hb3⟩
      go_enter Try.func18, Try.ntmps18
      go_wp2_with fail
      refine (HC.out _).mono ?_
      rintro e w1 ⟨rfl, hb1⟩
      obtain ⟨q0, q1, q2, q3, hB⟩ := box_cells hb1
      clear hb1
      go_wp2
      go_quiet (fail)
      go_wp2
      go_ret
      exact ⟨by rw [HN.out]; rfl, below_dn hB _⟩
    · have HN : Hid (cReads ⟨7, a, b, d⟩ = orI (orI (2 ^ a.toNat) (2 ^ b.toNat)) (2 ^ d.toNat)) := Lib.hid (by have hv := HV.out; simp [cReads, hv])
      have hb3 := i9 (by decide)
      have s2 := shl_bd ⟨i5, hb3⟩
      go_enter Try.func18, Try.ntmps18
      go_wp2_with fail
      refine (HC.out _).mono ?_
      rintro e w1 ⟨rfl, hb1⟩
      obtain ⟨q0, q1, q2, q3, hB⟩ := box_cells hb1
      clear hb1
      go_wp2
      go_quiet (fail)
      go_wp2
      go_ret
      exact ⟨by rw [HN.out]; rfl, below_dn hB _⟩
    · have HN : Hid (cReads ⟨8, a, b, d⟩ = 2 ^ b.toNat) := Lib.hid (by have hv := HV.out; simp [cReads, hv])
      have hb3 := i9 (by decide)
      have s2 := shl_bd ⟨i5, hb3⟩
      go_enter Try.func18, Try.ntmps18
      go_wp2_with fail
      refine (HC.out _).mono ?_
      rintro e w1 ⟨rfl, hb1⟩
      obtain ⟨q0, q1, q2, q3, hB⟩ := box_cells hb1
      clear hb1
      go_wp2
      go_ret
      exact ⟨by rw [HN.out]; rfl, hB⟩
    · have HN : Hid (cReads ⟨9, a, b, d⟩ = orI (2 ^ a.toNat) (2 ^ b.toNat)) := Lib.hid (by have hv := HV.out; simp [cReads, hv])
      have hb3 := i9 (by decide)
      have s2 := shl_bd ⟨i5, hb3⟩
      go_enter Try.func18, Try.ntmps18
      go_wp2_with fail
      refine (HC.out _).mono ?_
      rintro e w1 ⟨rfl, hb1⟩
      obtain ⟨q0, q1, q2, q3, hB⟩ := box_cells hb1
      clear hb1
      go_wp2
      go_quiet (fail)
      go_wp2
      go_ret
      exact ⟨by rw [HN.out]; rfl, below_dn hB _⟩
    · have HN : Hid (cReads ⟨10, a, b, d⟩ = 0) := Lib.hid (by have hv := HV.out; simp [cReads, hv])
      clear i9
      go_enter Try.func18, Try.ntmps18
      go_wp2_with fail
      refine (HC.out _).mono ?_
      rintro e w1 ⟨rfl, hb1⟩
      obtain ⟨q0, q1, q2, q3, hB⟩ := box_cells hb1
      clear hb1
      go_wp2
      go_ret
      exact ⟨by rw [HN.out]; rfl, hB⟩
    · have HN : Hid (cReads ⟨11, a, b, d⟩ = 2 ^ a.toNat) := Lib.hid (by have hv := HV.out; simp [cReads, hv])
      clear i9
      go_enter Try.func18, Try.ntmps18
      go_wp2_with fail
      refine (HC.out _).mono ?_
      rintro e w1 ⟨rfl, hb1⟩
      obtain ⟨q0, q1, q2, q3, hB⟩ := box_cells hb1
      clear hb1
      go_wp2
      go_ret
      exact ⟨by rw [HN.out]; rfl, hB⟩
    · have HN : Hid (cReads ⟨12, a, b, d⟩ = 0) := Lib.hid (by have hv := HV.out; simp [cReads, hv])
      clear i9
      go_enter Try.func18, Try.ntmps18
      go_wp2_with fail
      refine (HC.out _).mono ?_
      rintro e w1 ⟨rfl, hb1⟩
      obtain ⟨q0, q1, q2, q3, hB⟩ := box_cells hb1
      clear hb1
      go_wp2
      go_ret
      exact ⟨by rw [HN.out]; rfl, hB⟩
    · have HN : Hid (cReads ⟨13, a, b, d⟩ = 2 ^ a.toNat) := Lib.hid (by have hv := HV.out; simp [cReads, hv])
      clear i9
      go_enter Try.func18, Try.ntmps18
      go_wp2_with fail
      refine (HC.out _).mono ?_
      rintro e w1 ⟨rfl, hb1⟩
      obtain ⟨q0, q1, q2, q3, hB⟩ := box_cells hb1
      clear hb1
      go_wp2
      go_ret
      exact ⟨by rw [HN.out]; rfl, hB⟩
    · have HN : Hid (cReads ⟨14, a, b, d⟩ = 0) := Lib.hid (by have hv := HV.out; simp [cReads, hv])
      clear i9
      go_enter Try.func18, Try.ntmps18
      go_wp2_with fail
      refine (HC.out _).mono ?_
      rintro e w1 ⟨rfl, hb1⟩
      obtain ⟨q0, q1, q2, q3, hB⟩ := box_cells hb1
      clear hb1
      go_wp2
      go_ret
      exact ⟨by rw [HN.out]; rfl, hB⟩
set_option maxHeartbeats 4000000 in
theorem specCodeWrites (c : Cd) (w : World) : Calls Try.prog 10 #[.agg #[.int .i64 c.op, .int .i64 c.a, .int .i64 c.b, .int .i64 c.c]] w fun e w' => e = .returned (.int .i64 (cWrites c)) ∧ Below w.heap.size w w' := by
  cases hv : cValid c
  · have HN := Lib.hid (cWrites_no hv)
    have HC := Lib.hid (specCodeValid c)
    rw [hv] at HC
    go_enter Try.func10, Try.ntmps10
    go_wp2_with fail
    refine (HC.out _).mono ?_
    rintro e w1 ⟨rfl, hb1⟩
    obtain ⟨q0, q1, q2, q3, hB⟩ := box_cells hb1
    clear hb1
    go_wp2
    go_ret
    exact ⟨by rw [HN.out]; rfl, hB⟩
  · obtain ⟨i1, i2, i3, i4, i5, i6, i7, i8, i9, i10⟩ := cValid_bd hv
    have HV := Lib.hid hv
    have HC := Lib.hid (specCodeValid c)
    rw [hv] at HC
    obtain ⟨op, a, b, d⟩ := c
    simp only at i1 i2 i3 i4 i5 i6 i7 i8 i9 i10
    clear hv i9
    rcases (show op = 1 ∨ op = 2 ∨ op = 3 ∨ op = 4 ∨ op = 5 ∨ op = 6 ∨ op = 7 ∨ op = 8 ∨ op = 9 ∨ op = 10 ∨ op = 11 ∨ op = 12 ∨ op = 13 ∨ op = 14 by omega) with rfl | rfl | rfl | rfl | rfl | rfl | rfl | rfl | rfl | rfl | rfl | rfl | rfl | rfl
    · have HN : Hid (cWrites ⟨1, a, b, d⟩ = a) := Lib.hid (by have hv := HV.out; simp [cWrites, hv, inB])
      have hin : inB 1 1 8 = true := by decide
      go_enter Try.func10, Try.ntmps10
      go_wp2_with fail
      refine (HC.out _).mono ?_
      rintro e w1 ⟨rfl, hb1⟩
      obtain ⟨q0, q1, q2, q3, hB⟩ := box_cells hb1
      clear hb1
      go_wp2_with (go_at_call 41; refine (l1In_any _ _ _ _).mono ?_; rintro e w' ⟨rfl, rfl⟩)
      go_ret
      exact ⟨by rw [HN.out]; rfl, hB⟩
    · have HN : Hid (cWrites ⟨2, a, b, d⟩ = a) := Lib.hid (by have hv := HV.out; simp [cWrites, hv, inB])
      have hin : inB 2 1 8 = true := by decide
      go_enter Try.func10, Try.ntmps10
      go_wp2_with fail
      refine (HC.out _).mono ?_
      rintro e w1 ⟨rfl, hb1⟩
      obtain ⟨q0, q1, q2, q3, hB⟩ := box_cells hb1
      clear hb1
      go_wp2_with (go_at_call 41; refine (l1In_any _ _ _ _).mono ?_; rintro e w' ⟨rfl, rfl⟩)
      go_ret
      exact ⟨by rw [HN.out]; rfl, hB⟩
    · have HN : Hid (cWrites ⟨3, a, b, d⟩ = a) := Lib.hid (by have hv := HV.out; simp [cWrites, hv, inB])
      have hin : inB 3 1 8 = true := by decide
      go_enter Try.func10, Try.ntmps10
      go_wp2_with fail
      refine (HC.out _).mono ?_
      rintro e w1 ⟨rfl, hb1⟩
      obtain ⟨q0, q1, q2, q3, hB⟩ := box_cells hb1
      clear hb1
      go_wp2_with (go_at_call 41; refine (l1In_any _ _ _ _).mono ?_; rintro e w' ⟨rfl, rfl⟩)
      go_ret
      exact ⟨by rw [HN.out]; rfl, hB⟩
    · have HN : Hid (cWrites ⟨4, a, b, d⟩ = a) := Lib.hid (by have hv := HV.out; simp [cWrites, hv, inB])
      have hin : inB 4 1 8 = true := by decide
      go_enter Try.func10, Try.ntmps10
      go_wp2_with fail
      refine (HC.out _).mono ?_
      rintro e w1 ⟨rfl, hb1⟩
      obtain ⟨q0, q1, q2, q3, hB⟩ := box_cells hb1
      clear hb1
      go_wp2_with (go_at_call 41; refine (l1In_any _ _ _ _).mono ?_; rintro e w' ⟨rfl, rfl⟩)
      go_ret
      exact ⟨by rw [HN.out]; rfl, hB⟩
    · have HN : Hid (cWrites ⟨5, a, b, d⟩ = a) := Lib.hid (by have hv := HV.out; simp [cWrites, hv, inB])
      have hin : inB 5 1 8 = true := by decide
      go_enter Try.func10, Try.ntmps10
      go_wp2_with fail
      refine (HC.out _).mono ?_
      rintro e w1 ⟨rfl, hb1⟩
      obtain ⟨q0, q1, q2, q3, hB⟩ := box_cells hb1
      clear hb1
      go_wp2_with (go_at_call 41; refine (l1In_any _ _ _ _).mono ?_; rintro e w' ⟨rfl, rfl⟩)
      go_ret
      exact ⟨by rw [HN.out]; rfl, hB⟩
    · have HN : Hid (cWrites ⟨6, a, b, d⟩ = a) := Lib.hid (by have hv := HV.out; simp [cWrites, hv, inB])
      have hin : inB 6 1 8 = true := by decide
      go_enter Try.func10, Try.ntmps10
      go_wp2_with fail
      refine (HC.out _).mono ?_
      rintro e w1 ⟨rfl, hb1⟩
      obtain ⟨q0, q1, q2, q3, hB⟩ := box_cells hb1
      clear hb1
      go_wp2_with (go_at_call 41; refine (l1In_any _ _ _ _).mono ?_; rintro e w' ⟨rfl, rfl⟩)
      go_ret
      exact ⟨by rw [HN.out]; rfl, hB⟩
    · have HN : Hid (cWrites ⟨7, a, b, d⟩ = a) := Lib.hid (by have hv := HV.out; simp [cWrites, hv, inB])
      have hin : inB 7 1 8 = true := by decide
      go_enter Try.func10, Try.ntmps10
      go_wp2_with fail
      refine (HC.out _).mono ?_
      rintro e w1 ⟨rfl, hb1⟩
      obtain ⟨q0, q1, q2, q3, hB⟩ := box_cells hb1
      clear hb1
      go_wp2_with (go_at_call 41; refine (l1In_any _ _ _ _).mono ?_; rintro e w' ⟨rfl, rfl⟩)
      go_ret
      exact ⟨by rw [HN.out]; rfl, hB⟩
    · have HN : Hid (cWrites ⟨8, a, b, d⟩ = a) := Lib.hid (by have hv := HV.out; simp [cWrites, hv, inB])
      have hin : inB 8 1 8 = true := by decide
      go_enter Try.func10, Try.ntmps10
      go_wp2_with fail
      refine (HC.out _).mono ?_
      rintro e w1 ⟨rfl, hb1⟩
      obtain ⟨q0, q1, q2, q3, hB⟩ := box_cells hb1
      clear hb1
      go_wp2_with (go_at_call 41; refine (l1In_any _ _ _ _).mono ?_; rintro e w' ⟨rfl, rfl⟩)
      go_ret
      exact ⟨by rw [HN.out]; rfl, hB⟩
    · have HN : Hid (cWrites ⟨9, a, b, d⟩ = -1) := Lib.hid (by have hv := HV.out; simp [cWrites, hv, inB])
      have hin : inB 9 1 8 = false := by decide
      go_enter Try.func10, Try.ntmps10
      go_wp2_with fail
      refine (HC.out _).mono ?_
      rintro e w1 ⟨rfl, hb1⟩
      obtain ⟨q0, q1, q2, q3, hB⟩ := box_cells hb1
      clear hb1
      go_wp2_with (go_at_call 41; refine (l1In_any _ _ _ _).mono ?_; rintro e w' ⟨rfl, rfl⟩)
      go_ret
      exact ⟨by rw [HN.out]; rfl, hB⟩
    · have HN : Hid (cWrites ⟨10, a, b, d⟩ = -1) := Lib.hid (by have hv := HV.out; simp [cWrites, hv, inB])
      have hin : inB 10 1 8 = false := by decide
      go_enter Try.func10, Try.ntmps10
      go_wp2_with fail
      refine (HC.out _).mono ?_
      rintro e w1 ⟨rfl, hb1⟩
      obtain ⟨q0, q1, q2, q3, hB⟩ := box_cells hb1
      clear hb1
      go_wp2_with (go_at_call 41; refine (l1In_any _ _ _ _).mono ?_; rintro e w' ⟨rfl, rfl⟩)
      go_ret
      exact ⟨by rw [HN.out]; rfl, hB⟩
    · have HN : Hid (cWrites ⟨11, a, b, d⟩ = -1) := Lib.hid (by have hv := HV.out; simp [cWrites, hv, inB])
      have hin : inB 11 1 8 = false := by decide
      go_enter Try.func10, Try.ntmps10
      go_wp2_with fail
      refine (HC.out _).mono ?_
      rintro e w1 ⟨rfl, hb1⟩
      obtain ⟨q0, q1, q2, q3, hB⟩ := box_cells hb1
      clear hb1
      go_wp2_with (go_at_call 41; refine (l1In_any _ _ _ _).mono ?_; rintro e w' ⟨rfl, rfl⟩)
      go_ret
      exact ⟨by rw [HN.out]; rfl, hB⟩
    · have HN : Hid (cWrites ⟨12, a, b, d⟩ = -1) := Lib.hid (by have hv := HV.out; simp [cWrites, hv, inB])
      have hin : inB 12 1 8 = false := by decide
      go_enter Try.func10, Try.ntmps10
      go_wp2_with fail
      refine (HC.out _).mono ?_
      rintro e w1 ⟨rfl, hb1⟩
      obtain ⟨q0, q1, q2, q3, hB⟩ := box_cells hb1
      clear hb1
      go_wp2_with (go_at_call 41; refine (l1In_any _ _ _ _).mono ?_; rintro e w' ⟨rfl, rfl⟩)
      go_ret
      exact ⟨by rw [HN.out]; rfl, hB⟩
    · have HN : Hid (cWrites ⟨13, a, b, d⟩ = -1) := Lib.hid (by have hv := HV.out; simp [cWrites, hv, inB])
      have hin : inB 13 1 8 = false := by decide
      go_enter Try.func10, Try.ntmps10
      go_wp2_with fail
      refine (HC.out _).mono ?_
      rintro e w1 ⟨rfl, hb1⟩
      obtain ⟨q0, q1, q2, q3, hB⟩ := box_cells hb1
      clear hb1
      go_wp2_with (go_at_call 41; refine (l1In_any _ _ _ _).mono ?_; rintro e w' ⟨rfl, rfl⟩)
      go_ret
      exact ⟨by rw [HN.out]; rfl, hB⟩
    · have HN : Hid (cWrites ⟨14, a, b, d⟩ = -1) := Lib.hid (by have hv := HV.out; simp [cWrites, hv, inB])
      have hin : inB 14 1 8 = false := by decide
      go_enter Try.func10, Try.ntmps10
      go_wp2_with fail
      refine (HC.out _).mono ?_
      rintro e w1 ⟨rfl, hb1⟩
      obtain ⟨q0, q1, q2, q3, hB⟩ := box_cells hb1
      clear hb1
      go_wp2_with (go_at_call 41; refine (l1In_any _ _ _ _).mono ?_; rintro e w' ⟨rfl, rfl⟩)
      go_ret
      exact ⟨by rw [HN.out]; rfl, hB⟩
set_option maxHeartbeats 4000000 in
theorem implCodeReads (c : Cd) (w : World) : Calls Try.prog 17 #[.agg #[.int .i64 c.op, .int .i64 c.a, .int .i64 c.b, .int .i64 c.c]] w fun e w' => e = .returned (.int .i64 (cReads c)) ∧ Below w.heap.size w w' := by
  cases hv : cValid c
  · have HN := Lib.hid (cReads_no hv)
    have HC := Lib.hid (implCodeValid c)
    rw [hv] at HC
    go_enter Try.func17, Try.ntmps17
    go_wp2_with fail
    refine (HC.out _).mono ?_
    rintro e w1 ⟨rfl, hb1⟩
    obtain ⟨q0, q1, q2, q3, hB⟩ := box_cells hb1
    clear hb1
    go_wp2
    go_ret
    exact ⟨by rw [HN.out]; rfl, hB⟩
  · obtain ⟨i1, i2, i3, i4, i5, i6, i7, i8, i9, i10⟩ := cValid_bd hv
    have HV := Lib.hid hv
    have HC := Lib.hid (implCodeValid c)
    rw [hv] at HC
    have s1 := shl_bd ⟨i3, i4⟩
    have s3 := shl_bd ⟨i7, i8⟩
    obtain ⟨op, a, b, d⟩ := c
    simp only at i1 i2 i3 i4 i5 i6 i7 i8 i9 i10 s1 s3
    clear hv
    rcases (show op = 1 ∨ op = 2 ∨ op = 3 ∨ op = 4 ∨ op = 5 ∨ op = 6 ∨ op = 7 ∨ op = 8 ∨ op = 9 ∨ op = 10 ∨ op = 11 ∨ op = 12 ∨ op = 13 ∨ op = 14 by omega) with rfl | rfl | rfl | rfl | rfl | rfl | rfl | rfl | rfl | rfl | rfl | rfl | rfl | rfl
    · have HN : Hid (cReads ⟨1, a, b, d⟩ = 0) := Lib.hid (by have hv := HV.out; simp [cReads, hv])
      clear i9
      go_enter Try.func17, Try.ntmps17
      go_wp2_with fail
      refine (HC.out _).mono ?_
      rintro e w1 ⟨rfl, hb1⟩
      obtain ⟨q0, q1, q2, q3, hB⟩ := box_cells hb1
      clear hb1
      go_wp2_with (go_at_call 49; refine (registers_any _ _).mono ?_; rintro e w' ⟨rfl, rfl⟩)
      go_ret
      exact ⟨by rw [HN.out]; rfl, hB⟩
    · have HN : Hid (cReads ⟨2, a, b, d⟩ = 0) := Lib.hid (by have hv := HV.out; simp [cReads, hv])
      clear i9
      go_enter Try.func17, Try.ntmps17
      go_wp2_with fail
      refine (HC.out _).mono ?_
      rintro e w1 ⟨rfl, hb1⟩
      obtain ⟨q0, q1, q2, q3, hB⟩ := box_cells hb1
      clear hb1
      go_wp2_with (go_at_call 49; refine (registers_any _ _).mono ?_; rintro e w' ⟨rfl, rfl⟩)
      go_ret
      exact ⟨by rw [HN.out]; rfl, hB⟩
    · have HN : Hid (cReads ⟨3, a, b, d⟩ = orI (2 ^ a.toNat) (2 ^ b.toNat)) := Lib.hid (by have hv := HV.out; simp [cReads, hv])
      have hb3 := i9 (by decide)
      have s2 := shl_bd ⟨i5, hb3⟩
      go_enter Try.func17, Try.ntmps17
      go_wp2_with fail
      refine (HC.out _).mono ?_
      rintro e w1 ⟨rfl, hb1⟩
      obtain ⟨q0, q1, q2, q3, hB⟩ := box_cells hb1
      clear hb1
      go_wp2_with (go_at_call 49; refine (registers_any _ _).mono ?_; rintro e w' ⟨rfl, rfl⟩)
      go_ret
      exact ⟨by rw [HN.out]; rfl, hB⟩
    · have HN : Hid (cReads ⟨4, a, b, d⟩ = orI (2 ^ a.toNat) (2 ^ b.toNat)) := Lib.hid (by have hv := HV.out; simp [cReads, hv])
      have hb3 := i9 (by decide)
      have s2 := shl_bd ⟨i5, hb3⟩
      go_enter Try.func17, Try.ntmps17
      go_wp2_with fail
      refine (HC.out _).mono ?_
      rintro e w1 ⟨rfl, hb1⟩
      obtain ⟨q0, q1, q2, q3, hB⟩ := box_cells hb1
      clear hb1
      go_wp2_with (go_at_call 49; refine (registers_any _ _).mono ?_; rintro e w' ⟨rfl, rfl⟩)
      go_ret
      exact ⟨by rw [HN.out]; rfl, hB⟩
    · have HN : Hid (cReads ⟨5, a, b, d⟩ = 2 ^ b.toNat) := Lib.hid (by have hv := HV.out; simp [cReads, hv])
      have hb3 := i9 (by decide)
      have s2 := shl_bd ⟨i5, hb3⟩
      go_enter Try.func17, Try.ntmps17
      go_wp2_with fail
      refine (HC.out _).mono ?_
      rintro e w1 ⟨rfl, hb1⟩
      obtain ⟨q0, q1, q2, q3, hB⟩ := box_cells hb1
      clear hb1
      go_wp2_with (go_at_call 49; refine (registers_any _ _).mono ?_; rintro e w' ⟨rfl, rfl⟩)
      go_ret
      exact ⟨by rw [HN.out]; rfl, hB⟩
    · have HN : Hid (cReads ⟨6, a, b, d⟩ = orI (2 ^ b.toNat) (2 ^ d.toNat)) := Lib.hid (by have hv := HV.out; simp [cReads, hv])
      have hb3 := i9 (by decide)
      have s2 := shl_bd ⟨i5, hb3⟩
      go_enter Try.func17, Try.ntmps17
      go_wp2_with fail
      refine (HC.out _).mono ?_
      rintro e w1 ⟨rfl, hb1⟩
      obtain ⟨q0, q1, q2, q3, hB⟩ := box_cells hb1
      clear hb1
      go_wp2_with (go_at_call 49; refine (registers_any _ _).mono ?_; rintro e w' ⟨rfl, rfl⟩)
      go_ret
      exact ⟨by rw [HN.out]; rfl, hB⟩
    · have HN : Hid (cReads ⟨7, a, b, d⟩ = orI (orI (2 ^ a.toNat) (2 ^ b.toNat)) (2 ^ d.toNat)) := Lib.hid (by have hv := HV.out; simp [cReads, hv])
      have hb3 := i9 (by decide)
      have s2 := shl_bd ⟨i5, hb3⟩
      go_enter Try.func17, Try.ntmps17
      go_wp2_with fail
      refine (HC.out _).mono ?_
      rintro e w1 ⟨rfl, hb1⟩
      obtain ⟨q0, q1, q2, q3, hB⟩ := box_cells hb1
      clear hb1
      go_wp2_with (go_at_call 49; refine (registers_any _ _).mono ?_; rintro e w' ⟨rfl, rfl⟩)
      go_ret
      exact ⟨by rw [HN.out]; rfl, hB⟩
    · have HN : Hid (cReads ⟨8, a, b, d⟩ = 2 ^ b.toNat) := Lib.hid (by have hv := HV.out; simp [cReads, hv])
      have hb3 := i9 (by decide)
      have s2 := shl_bd ⟨i5, hb3⟩
      go_enter Try.func17, Try.ntmps17
      go_wp2_with fail
      refine (HC.out _).mono ?_
      rintro e w1 ⟨rfl, hb1⟩
      obtain ⟨q0, q1, q2, q3, hB⟩ := box_cells hb1
      clear hb1
      go_wp2_with (go_at_call 49; refine (registers_any _ _).mono ?_; rintro e w' ⟨rfl, rfl⟩)
      go_ret
      exact ⟨by rw [HN.out]; rfl, hB⟩
    · have HN : Hid (cReads ⟨9, a, b, d⟩ = orI (2 ^ a.toNat) (2 ^ b.toNat)) := Lib.hid (by have hv := HV.out; simp [cReads, hv])
      have hb3 := i9 (by decide)
      have s2 := shl_bd ⟨i5, hb3⟩
      go_enter Try.func17, Try.ntmps17
      go_wp2_with fail
      refine (HC.out _).mono ?_
      rintro e w1 ⟨rfl, hb1⟩
      obtain ⟨q0, q1, q2, q3, hB⟩ := box_cells hb1
      clear hb1
      go_wp2_with (go_at_call 49; refine (registers_any _ _).mono ?_; rintro e w' ⟨rfl, rfl⟩)
      go_ret
      exact ⟨by rw [HN.out]; rfl, hB⟩
    · have HN : Hid (cReads ⟨10, a, b, d⟩ = 0) := Lib.hid (by have hv := HV.out; simp [cReads, hv])
      clear i9
      go_enter Try.func17, Try.ntmps17
      go_wp2_with fail
      refine (HC.out _).mono ?_
      rintro e w1 ⟨rfl, hb1⟩
      obtain ⟨q0, q1, q2, q3, hB⟩ := box_cells hb1
      clear hb1
      go_wp2_with (go_at_call 49; refine (registers_any _ _).mono ?_; rintro e w' ⟨rfl, rfl⟩)
      go_ret
      exact ⟨by rw [HN.out]; rfl, hB⟩
    · have HN : Hid (cReads ⟨11, a, b, d⟩ = 2 ^ a.toNat) := Lib.hid (by have hv := HV.out; simp [cReads, hv])
      clear i9
      go_enter Try.func17, Try.ntmps17
      go_wp2_with fail
      refine (HC.out _).mono ?_
      rintro e w1 ⟨rfl, hb1⟩
      obtain ⟨q0, q1, q2, q3, hB⟩ := box_cells hb1
      clear hb1
      go_wp2_with (go_at_call 49; refine (registers_any _ _).mono ?_; rintro e w' ⟨rfl, rfl⟩)
      go_ret
      exact ⟨by rw [HN.out]; rfl, hB⟩
    · have HN : Hid (cReads ⟨12, a, b, d⟩ = 0) := Lib.hid (by have hv := HV.out; simp [cReads, hv])
      clear i9
      go_enter Try.func17, Try.ntmps17
      go_wp2_with fail
      refine (HC.out _).mono ?_
      rintro e w1 ⟨rfl, hb1⟩
      obtain ⟨q0, q1, q2, q3, hB⟩ := box_cells hb1
      clear hb1
      go_wp2_with (go_at_call 49; refine (registers_any _ _).mono ?_; rintro e w' ⟨rfl, rfl⟩)
      go_ret
      exact ⟨by rw [HN.out]; rfl, hB⟩
    · have HN : Hid (cReads ⟨13, a, b, d⟩ = 2 ^ a.toNat) := Lib.hid (by have hv := HV.out; simp [cReads, hv])
      clear i9
      go_enter Try.func17, Try.ntmps17
      go_wp2_with fail
      refine (HC.out _).mono ?_
      rintro e w1 ⟨rfl, hb1⟩
      obtain ⟨q0, q1, q2, q3, hB⟩ := box_cells hb1
      clear hb1
      go_wp2_with (go_at_call 49; refine (registers_any _ _).mono ?_; rintro e w' ⟨rfl, rfl⟩)
      go_ret
      exact ⟨by rw [HN.out]; rfl, hB⟩
    · have HN : Hid (cReads ⟨14, a, b, d⟩ = 0) := Lib.hid (by have hv := HV.out; simp [cReads, hv])
      clear i9
      go_enter Try.func17, Try.ntmps17
      go_wp2_with fail
      refine (HC.out _).mono ?_
      rintro e w1 ⟨rfl, hb1⟩
      obtain ⟨q0, q1, q2, q3, hB⟩ := box_cells hb1
      clear hb1
      go_wp2_with (go_at_call 49; refine (registers_any _ _).mono ?_; rintro e w' ⟨rfl, rfl⟩)
      go_ret
      exact ⟨by rw [HN.out]; rfl, hB⟩
set_option maxHeartbeats 4000000 in
theorem implCodeWrites (c : Cd) (w : World) : Calls Try.prog 9 #[.agg #[.int .i64 c.op, .int .i64 c.a, .int .i64 c.b, .int .i64 c.c]] w fun e w' => e = .returned (.int .i64 (cWrites c)) ∧ Below w.heap.size w w' := by
  cases hv : cValid c
  · have HN := Lib.hid (cWrites_no hv)
    have HC := Lib.hid (implCodeValid c)
    rw [hv] at HC
    go_enter Try.func9, Try.ntmps9
    go_wp2_with fail
    refine (HC.out _).mono ?_
    rintro e w1 ⟨rfl, hb1⟩
    obtain ⟨q0, q1, q2, q3, hB⟩ := box_cells hb1
    clear hb1
    go_wp2
    go_ret
    exact ⟨by rw [HN.out]; rfl, hB⟩
  · obtain ⟨i1, i2, i3, i4, i5, i6, i7, i8, i9, i10⟩ := cValid_bd hv
    have HV := Lib.hid hv
    have HC := Lib.hid (implCodeValid c)
    rw [hv] at HC
    obtain ⟨op, a, b, d⟩ := c
    simp only at i1 i2 i3 i4 i5 i6 i7 i8 i9 i10
    clear hv i9
    rcases (show op = 1 ∨ op = 2 ∨ op = 3 ∨ op = 4 ∨ op = 5 ∨ op = 6 ∨ op = 7 ∨ op = 8 ∨ op = 9 ∨ op = 10 ∨ op = 11 ∨ op = 12 ∨ op = 13 ∨ op = 14 by omega) with rfl | rfl | rfl | rfl | rfl | rfl | rfl | rfl | rfl | rfl | rfl | rfl | rfl | rfl
    · have HN : Hid (cWrites ⟨1, a, b, d⟩ = a) := Lib.hid (by have hv := HV.out; simp [cWrites, hv, inB])
      go_enter Try.func9, Try.ntmps9
      go_wp2_with fail
      refine (HC.out _).mono ?_
      rintro e w1 ⟨rfl, hb1⟩
      obtain ⟨q0, q1, q2, q3, hB⟩ := box_cells hb1
      clear hb1
      go_wp2_with fail
      go_ret
      exact ⟨by rw [HN.out]; rfl, hB⟩
    · have HN : Hid (cWrites ⟨2, a, b, d⟩ = a) := Lib.hid (by have hv := HV.out; simp [cWrites, hv, inB])
      go_enter Try.func9, Try.ntmps9
      go_wp2_with fail
      refine (HC.out _).mono ?_
      rintro e w1 ⟨rfl, hb1⟩
      obtain ⟨q0, q1, q2, q3, hB⟩ := box_cells hb1
      clear hb1
      go_wp2_with fail
      go_ret
      exact ⟨by rw [HN.out]; rfl, hB⟩
    · have HN : Hid (cWrites ⟨3, a, b, d⟩ = a) := Lib.hid (by have hv := HV.out; simp [cWrites, hv, inB])
      go_enter Try.func9, Try.ntmps9
      go_wp2_with fail
      refine (HC.out _).mono ?_
      rintro e w1 ⟨rfl, hb1⟩
      obtain ⟨q0, q1, q2, q3, hB⟩ := box_cells hb1
      clear hb1
      go_wp2_with fail
      go_ret
      exact ⟨by rw [HN.out]; rfl, hB⟩
    · have HN : Hid (cWrites ⟨4, a, b, d⟩ = a) := Lib.hid (by have hv := HV.out; simp [cWrites, hv, inB])
      go_enter Try.func9, Try.ntmps9
      go_wp2_with fail
      refine (HC.out _).mono ?_
      rintro e w1 ⟨rfl, hb1⟩
      obtain ⟨q0, q1, q2, q3, hB⟩ := box_cells hb1
      clear hb1
      go_wp2_with fail
      go_ret
      exact ⟨by rw [HN.out]; rfl, hB⟩
    · have HN : Hid (cWrites ⟨5, a, b, d⟩ = a) := Lib.hid (by have hv := HV.out; simp [cWrites, hv, inB])
      go_enter Try.func9, Try.ntmps9
      go_wp2_with fail
      refine (HC.out _).mono ?_
      rintro e w1 ⟨rfl, hb1⟩
      obtain ⟨q0, q1, q2, q3, hB⟩ := box_cells hb1
      clear hb1
      go_wp2_with fail
      go_ret
      exact ⟨by rw [HN.out]; rfl, hB⟩
    · have HN : Hid (cWrites ⟨6, a, b, d⟩ = a) := Lib.hid (by have hv := HV.out; simp [cWrites, hv, inB])
      go_enter Try.func9, Try.ntmps9
      go_wp2_with fail
      refine (HC.out _).mono ?_
      rintro e w1 ⟨rfl, hb1⟩
      obtain ⟨q0, q1, q2, q3, hB⟩ := box_cells hb1
      clear hb1
      go_wp2_with fail
      go_ret
      exact ⟨by rw [HN.out]; rfl, hB⟩
    · have HN : Hid (cWrites ⟨7, a, b, d⟩ = a) := Lib.hid (by have hv := HV.out; simp [cWrites, hv, inB])
      go_enter Try.func9, Try.ntmps9
      go_wp2_with fail
      refine (HC.out _).mono ?_
      rintro e w1 ⟨rfl, hb1⟩
      obtain ⟨q0, q1, q2, q3, hB⟩ := box_cells hb1
      clear hb1
      go_wp2_with fail
      go_ret
      exact ⟨by rw [HN.out]; rfl, hB⟩
    · have HN : Hid (cWrites ⟨8, a, b, d⟩ = a) := Lib.hid (by have hv := HV.out; simp [cWrites, hv, inB])
      go_enter Try.func9, Try.ntmps9
      go_wp2_with fail
      refine (HC.out _).mono ?_
      rintro e w1 ⟨rfl, hb1⟩
      obtain ⟨q0, q1, q2, q3, hB⟩ := box_cells hb1
      clear hb1
      go_wp2_with fail
      go_ret
      exact ⟨by rw [HN.out]; rfl, hB⟩
    · have HN : Hid (cWrites ⟨9, a, b, d⟩ = -1) := Lib.hid (by have hv := HV.out; simp [cWrites, hv, inB])
      go_enter Try.func9, Try.ntmps9
      go_wp2_with fail
      refine (HC.out _).mono ?_
      rintro e w1 ⟨rfl, hb1⟩
      obtain ⟨q0, q1, q2, q3, hB⟩ := box_cells hb1
      clear hb1
      go_wp2_with fail
      go_ret
      exact ⟨by rw [HN.out]; rfl, hB⟩
    · have HN : Hid (cWrites ⟨10, a, b, d⟩ = -1) := Lib.hid (by have hv := HV.out; simp [cWrites, hv, inB])
      go_enter Try.func9, Try.ntmps9
      go_wp2_with fail
      refine (HC.out _).mono ?_
      rintro e w1 ⟨rfl, hb1⟩
      obtain ⟨q0, q1, q2, q3, hB⟩ := box_cells hb1
      clear hb1
      go_wp2_with fail
      go_ret
      exact ⟨by rw [HN.out]; rfl, hB⟩
    · have HN : Hid (cWrites ⟨11, a, b, d⟩ = -1) := Lib.hid (by have hv := HV.out; simp [cWrites, hv, inB])
      go_enter Try.func9, Try.ntmps9
      go_wp2_with fail
      refine (HC.out _).mono ?_
      rintro e w1 ⟨rfl, hb1⟩
      obtain ⟨q0, q1, q2, q3, hB⟩ := box_cells hb1
      clear hb1
      go_wp2_with fail
      go_ret
      exact ⟨by rw [HN.out]; rfl, hB⟩
    · have HN : Hid (cWrites ⟨12, a, b, d⟩ = -1) := Lib.hid (by have hv := HV.out; simp [cWrites, hv, inB])
      go_enter Try.func9, Try.ntmps9
      go_wp2_with fail
      refine (HC.out _).mono ?_
      rintro e w1 ⟨rfl, hb1⟩
      obtain ⟨q0, q1, q2, q3, hB⟩ := box_cells hb1
      clear hb1
      go_wp2_with fail
      go_ret
      exact ⟨by rw [HN.out]; rfl, hB⟩
    · have HN : Hid (cWrites ⟨13, a, b, d⟩ = -1) := Lib.hid (by have hv := HV.out; simp [cWrites, hv, inB])
      go_enter Try.func9, Try.ntmps9
      go_wp2_with fail
      refine (HC.out _).mono ?_
      rintro e w1 ⟨rfl, hb1⟩
      obtain ⟨q0, q1, q2, q3, hB⟩ := box_cells hb1
      clear hb1
      go_wp2_with fail
      go_ret
      exact ⟨by rw [HN.out]; rfl, hB⟩
    · have HN : Hid (cWrites ⟨14, a, b, d⟩ = -1) := Lib.hid (by have hv := HV.out; simp [cWrites, hv, inB])
      go_enter Try.func9, Try.ntmps9
      go_wp2_with fail
      refine (HC.out _).mono ?_
      rintro e w1 ⟨rfl, hb1⟩
      obtain ⟨q0, q1, q2, q3, hB⟩ := box_cells hb1
      clear hb1
      go_wp2_with fail
      go_ret
      exact ⟨by rw [HN.out]; rfl, hB⟩
end Go.Proofs.Ytmjkjdibolcblaa
