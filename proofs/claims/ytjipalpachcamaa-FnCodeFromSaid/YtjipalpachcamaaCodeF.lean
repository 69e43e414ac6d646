/- YtjipalpachcamaaCodeF: instructions from numbers, in the program and in the reference. No conditions. -/
import Derived.Test.YtjipalpachcamaaCodeN
namespace Go.Proofs.Ytjipalpachcamaa
open Go.ChangeShapes Go.WideShapes Go.ChangeAt Go.RowKit
set_option linter.unusedVariables false

theorem cFrom_neg {n : Int} (h : n < 0) : cFrom n = cd0 ∧ cFromOk n = false := by simp [cFrom, cFromOk, h]
theorem cFrom_no {n : Int} (h0 : ¬ n < 0) (h : cValid (cdOf n) = false) : cFrom n = cd0 ∧ cFromOk n = false := by simp [cFrom, cFromOk, h0, h]
theorem cFrom_yes {n : Int} (h0 : ¬ n < 0) (h : cValid (cdOf n) = true) : cFrom n = cdOf n ∧ cFromOk n = true := by simp [cFrom, cFromOk, h0, h]
def cFromV (n : Int) : Value := .tuple #[.agg #[.int .i64 (cFrom n).op, .int .i64 (cFrom n).a, .int .i64 (cFrom n).b, .int .i64 (cFrom n).c], .bool (cFromOk n)]
theorem cFromV_neg {n : Int} (h : n < 0) : cFromV n = .tuple #[.agg #[.int .i64 0, .int .i64 0, .int .i64 0, .int .i64 0], .bool false] := by
  unfold cFromV; rw [(cFrom_neg h).1, (cFrom_neg h).2]; rfl
theorem cFromV_no {n : Int} (h0 : ¬ n < 0) (h : cValid (cdOf n) = false) : cFromV n = .tuple #[.agg #[.int .i64 0, .int .i64 0, .int .i64 0, .int .i64 0], .bool false] := by
  unfold cFromV; rw [(cFrom_no h0 h).1, (cFrom_no h0 h).2]; rfl
theorem cFromV_yes {n : Int} (h0 : ¬ n < 0) (h : cValid (cdOf n) = true) : cFromV n = .tuple #[.agg #[.int .i64 (n % 16), .int .i64 (n / 16 % 4), .int .i64 (n / 64 % 256), .int .i64 (n / 16384)], .bool true] := by
  unfold cFromV; rw [(cFrom_yes h0 h).1, (cFrom_yes h0 h).2]; rfl
theorem box2_cells {cs1 cs2 : Array Value} {w w1 : World} {k1 k2 : TypeId} (hb : Below ((w.alloc (.cells cs1 k1)).alloc (.cells cs2 k2)).heap.size ((w.alloc (.cells cs1 k1)).alloc (.cells cs2 k2)) w1) :
    (∀ j, w1.cell? ⟨w.heap.size, j, none⟩ = cs1[j]?) ∧ (∀ j, w1.cell? ⟨w.heap.size + 1, j, none⟩ = cs2[j]?) ∧ (∀ j, w1.frozen? ⟨w.heap.size, j, none⟩ = false) ∧ w.heap.size + 1 < w1.heap.size ∧ Below w.heap.size w w1 := by
  have hA : Below (w.alloc (.cells cs1 k1)).heap.size (w.alloc (.cells cs1 k1)) ((w.alloc (.cells cs1 k1)).alloc (.cells cs2 k2)) := (Below.refl _ _).alloc (Nat.le_refl _) _
  have hs := hb.size
  simp only [World.size_alloc] at hs
  refine ⟨fun j => ?_, fun j => ?_, fun j => ?_, by omega, ?_⟩
  · exact ((hb.cell (p := ⟨w.heap.size, j, none⟩) (by simp; omega)).trans (hA.cell (p := ⟨w.heap.size, j, none⟩) (by simp))).trans (cell_of_row _ w.heap.size j cs1 k1 (0, 0) (heap_alloc_new w _))
  · have h := cell_of_row _ _ j cs2 k2 (0, 0) (heap_alloc_new (w.alloc (.cells cs1 k1)) _)
    rw [World.size_alloc] at h
    exact (hb.cell (p := ⟨w.heap.size + 1, j, none⟩) (by simp)).trans h
  · exact ((hb.frozen (p := ⟨w.heap.size, j, none⟩) (by simp; omega)).trans (hA.frozen (p := ⟨w.heap.size, j, none⟩) (by simp))).trans (frozen_of_row _ w.heap.size j cs1 k1 (heap_alloc_new w _))
  · exact (((Below.refl _ _).alloc (Nat.le_refl _) _).alloc (by simp) _).trans (hb.mono (by simp; omega))
theorem below_set4 {B g : Nat} {w w1 : World} (h : Below B w w1) (hg : B ≤ g) (i j k l : Nat) (a b c d : Value) : Below B w ((((w1.setCell ⟨g, i, none⟩ a).setCell ⟨g, j, none⟩ b).setCell ⟨g, k, none⟩ c).setCell ⟨g, l, none⟩ d) :=
  (((h.setCell (by exact hg) a).setCell (by exact hg) b).setCell (by exact hg) c).setCell (by exact hg) d
set_option maxHeartbeats 2000000 in
theorem specCodeFrom (n : Int) (w : World) (hn : n ≤ 9223372036854775807) : Calls Try.prog 24 #[.int .i64 n] w fun e w' => e = .returned (cFromV n) ∧ Below w.heap.size w w' := by
  by_cases h0 : n < 0
  · have HN := Lib.hid (cFromV_neg h0)
    have hB := (Below.refl w.heap.size w).alloc (Nat.le_refl _) (.cells #[.int .i64 0, .int .i64 0, .int .i64 0, .int .i64 0] 24)
    go_enter Try.func24, Try.ntmps24
    go_wp2
    refine bodyPost_ret (v := .tuple #[.agg #[.int .i64 0, .int .i64 0, .int .i64 0, .int .i64 0], .bool false]) (by simp [results, Try.results24, go_sem]) rfl ⟨by rw [HN.out], hB⟩
  · cases hv : cValid (cdOf n)
    · have HN := Lib.hid (cFromV_no h0 hv)
      have HC := Lib.hid (specCodeValid ⟨n % 16, n / 16 % 4, n / 64 % 256, n / 16384⟩)
      rw [show cValid ⟨n % 16, n / 16 % 4, n / 64 % 256, n / 16384⟩ = false from hv] at HC
      clear hv
      go_enter Try.func24, Try.ntmps24
      go_wp2_with fail
      refine (HC.out _).mono ?_
      rintro e w1 ⟨rfl, hb1⟩
      obtain ⟨q, r, f, hz, hB⟩ := box2_cells hb1
      have q0 := q 0
      have q1 := q 1
      have q2 := q 2
      have q3 := q 3
      have r0 := r 0
      have r1 := r 1
      have r2 := r 2
      have r3 := r 3
      have f0 := f 0
      have f1 := f 1
      have f2 := f 2
      have f3 := f 3
      simp only [List.getElem?_toArray, List.getElem?_cons_zero, List.getElem?_cons_succ] at q0 q1 q2 q3 r0 r1 r2 r3
      have hB4 := below_set4 hB (Nat.le_refl _) 0 1 2 3 (.int .i64 0) (.int .i64 0) (.int .i64 0) (.int .i64 0)
      clear q r f hb1 hB
      go_wp2
      refine bodyPost_ret (v := .tuple #[.agg #[.int .i64 0, .int .i64 0, .int .i64 0, .int .i64 0], .bool false]) (by simp [results, Try.results24, go_sem, q0, q1, q2, q3]) rfl ⟨by rw [HN.out], hB4⟩
    · have HN := Lib.hid (cFromV_yes h0 hv)
      have HC := Lib.hid (specCodeValid ⟨n % 16, n / 16 % 4, n / 64 % 256, n / 16384⟩)
      rw [show cValid ⟨n % 16, n / 16 % 4, n / 64 % 256, n / 16384⟩ = true from hv] at HC
      clear hv
      go_enter Try.func24, Try.ntmps24
      go_wp2_with fail
      refine (HC.out _).mono ?_
      rintro e w1 ⟨rfl, hb1⟩
      obtain ⟨q, r, f, hz, hB⟩ := box2_cells hb1
      have q0 := q 0
      have q1 := q 1
      have q2 := q 2
      have q3 := q 3
      have r0 := r 0
      have r1 := r 1
      have r2 := r 2
      have r3 := r 3
      have f0 := f 0
      have f1 := f 1
      have f2 := f 2
      have f3 := f 3
      simp only [List.getElem?_toArray, List.getElem?_cons_zero, List.getElem?_cons_succ] at q0 q1 q2 q3 r0 r1 r2 r3
      have hB4 := below_set4 hB (Nat.le_refl _) 0 1 2 3 (.int .i64 (n % 16)) (.int .i64 (n / 16 % 4)) (.int .i64 (n / 64 % 256)) (.int .i64 (n / 16384))
      clear q r f hb1 hB
      go_wp2
      refine bodyPost_ret (v := .tuple #[.agg #[.int .i64 (n % 16), .int .i64 (n / 16 % 4), .int .i64 (n / 64 % 256), .int .i64 (n / 16384)], .bool true]) (by simp [results, Try.results24, go_sem, q0, q1, q2, q3]) rfl ⟨by rw [HN.out], hB4⟩
set_option maxHeartbeats 2000000 in
theorem implCodeFrom (n : Int) (w : World) (hn : n ≤ 9223372036854775807) : Calls Try.prog 22 #[.int .i64 n] w fun e w' => e = .returned (cFromV n) ∧ Below w.heap.size w w' := by
  by_cases h0 : n < 0
  · have HN := Lib.hid (cFromV_neg h0)
    have hB := (Below.refl w.heap.size w).alloc (Nat.le_refl _) (.cells #[.int .i64 0, .int .i64 0, .int .i64 0, .int .i64 0] 24)
    go_enter Try.func22, Try.ntmps22
    go_wp2
    refine bodyPost_ret (v := .tuple #[.agg #[.int .i64 0, .int .i64 0, .int .i64 0, .int .i64 0], .bool false]) (by simp [results, Try.results22, go_sem]) rfl ⟨by rw [HN.out], hB⟩
  · have hdiv : n / 64 / 256 = n / 16384 := by rw [Int.ediv_ediv_of_nonneg (by decide)]; rfl
    have hcd : (⟨n % 16, n / 16 % 4, n / 64 % 256, n / 64 / 256⟩ : Cd) = cdOf n := by rw [hdiv]; rfl
    cases hv : cValid (cdOf n)
    · have HN := Lib.hid (cFromV_no h0 hv)
      have HC := Lib.hid (implCodeNumber ⟨n % 16, n / 16 % 4, n / 64 % 256, n / 64 / 256⟩)
      rw [show cNum ⟨n % 16, n / 16 % 4, n / 64 % 256, n / 64 / 256⟩ = -1 from by rw [hcd]; exact cNum_f hv] at HC
      have hne : ((-1 : Int) != n) = true := by rw [bne_iff_ne]; omega
      clear hv hdiv hcd
      go_enter Try.func22, Try.ntmps22
      go_wp2_with fail
      refine (HC.out _).mono ?_
      rintro e w1 ⟨rfl, hb1⟩
      obtain ⟨q, r, f, hz, hB⟩ := box2_cells hb1
      have q0 := q 0
      have q1 := q 1
      have q2 := q 2
      have q3 := q 3
      have r0 := r 0
      have r1 := r 1
      have r2 := r 2
      have r3 := r 3
      have f0 := f 0
      have f1 := f 1
      have f2 := f 2
      have f3 := f 3
      simp only [List.getElem?_toArray, List.getElem?_cons_zero, List.getElem?_cons_succ] at q0 q1 q2 q3 r0 r1 r2 r3
      have hB4 := below_set4 hB (Nat.le_refl _) 0 1 2 3 (.int .i64 0) (.int .i64 0) (.int .i64 0) (.int .i64 0)
      clear q r f hb1 hB
      go_wp2
      refine bodyPost_ret (v := .tuple #[.agg #[.int .i64 0, .int .i64 0, .int .i64 0, .int .i64 0], .bool false]) (by simp [results, Try.results22, go_sem, q0, q1, q2, q3]) rfl ⟨by rw [HN.out], hB4⟩
    · have HN := Lib.hid (cFromV_yes h0 hv)
      rw [← hdiv] at HN
      have HC := Lib.hid (implCodeNumber ⟨n % 16, n / 16 % 4, n / 64 % 256, n / 64 / 256⟩)
      rw [show cNum ⟨n % 16, n / 16 % 4, n / 64 % 256, n / 64 / 256⟩ = n from by rw [hcd, cNum_t hv]; exact num_cdOf (by omega)] at HC
      clear hv hdiv hcd
      go_enter Try.func22, Try.ntmps22
      go_wp2_with fail
      refine (HC.out _).mono ?_
      rintro e w1 ⟨rfl, hb1⟩
      obtain ⟨q, r, f, hz, hB⟩ := box2_cells hb1
      have q0 := q 0
      have q1 := q 1
      have q2 := q 2
      have q3 := q 3
      have r0 := r 0
      have r1 := r 1
      have r2 := r 2
      have r3 := r 3
      have f0 := f 0
      have f1 := f 1
      have f2 := f 2
      have f3 := f 3
      simp only [List.getElem?_toArray, List.getElem?_cons_zero, List.getElem?_cons_succ] at q0 q1 q2 q3 r0 r1 r2 r3
      have hB4 := below_set4 hB (Nat.le_refl _) 0 1 2 3 (.int .i64 (n % 16)) (.int .i64 (n / 16 % 4)) (.int .i64 (n / 64 % 256)) (.int .i64 (n / 64 / 256))
      clear q r f hb1 hB
      go_wp2
      refine bodyPost_ret (v := .tuple #[.agg #[.int .i64 (n % 16), .int .i64 (n / 16 % 4), .int .i64 (n / 64 % 256), .int .i64 (n / 64 / 256)], .bool true]) (by simp [results, Try.results22, go_sem, q0, q1, q2, q3]) rfl ⟨by rw [HN.out], hB4⟩
end Go.Proofs.Ytjipalpachcamaa
