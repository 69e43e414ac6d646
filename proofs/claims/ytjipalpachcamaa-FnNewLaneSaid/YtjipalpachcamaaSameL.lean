/- YtjipalpachcamaaSameL: two equal lanes are found equal. No conditions. -/
import Derived.Test.YtjipalpachcamaaSameI
import Derived.Test.YtjipalpachcamaaLane0
namespace Go.Proofs.Ytjipalpachcamaa
open Go.ChangeShapes Go.WideShapes Go.ChangeAt Go.RowKit
set_option linter.unusedVariables false
set_option maxHeartbeats 1000000 in
theorem sameLane_same (v u : Value) (l : Ln) (w : World) (hl : RdLn w v l) (hl' : RdLn w u l) :
    Calls Try.prog 37 #[v, u] w fun e w' => e = .returned (.bool true) ∧ Below w.heap.size w w' := by
  obtain ⟨r, t, rfl, h1, h2⟩ := hl
  obtain ⟨r', t', rfl, h3, h4⟩ := hl'
  have hb0 : Below w.heap.size w ((w.alloc (.cells #[r, .int .i64 l.pc, t, .bool l.waits] 45)).alloc (.cells #[r', .int .i64 l.pc, t', .bool l.waits] 45)) := ((Below.refl _ _).alloc (Nat.le_refl _) _).alloc (by simp) _
  go_enter Try.func37, Try.ntmps37
  go_wp2_with fail
  refine (sameInts_same _ _ l.regs _ (h1.below hb0 (Nat.le_refl _)) (h3.below hb0 (Nat.le_refl _))).mono ?_
  rintro e w1 ⟨rfl, hb1⟩
  obtain ⟨hc1, hf1⟩ := bcell hb1
  have hz1 := hb1.size
  have hB1 := hb0.trans (hb1.mono hb0.size)
  simp only [World.size_alloc] at hc1 hf1 hz1
  go_wp2_with fail
  refine (sameInts_same _ _ l.turns _ (h2.below hB1 (Nat.le_refl _)) (h4.below hB1 (Nat.le_refl _))).mono ?_
  rintro e w2 ⟨rfl, hb2⟩
  obtain ⟨hc2, hf2⟩ := bcell hb2
  have hB2 := hB1.trans (hb2.mono hB1.size)
  have g0 := hc2 w.heap.size 3 (by omega)
  have g1 := hc2 (w.heap.size + 1) 3 (by omega)
  rw [hc1 _ _ (by omega)] at g0 g1
  clear hc1 hf1 hc2 hf2
  go_wp2
  go_ret
  exact ⟨rfl, hB2⟩
end Go.Proofs.Ytjipalpachcamaa
