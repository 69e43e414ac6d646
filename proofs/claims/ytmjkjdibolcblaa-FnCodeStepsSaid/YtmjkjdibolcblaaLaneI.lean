/- YtmjkjdibolcblaaLaneI: slices.Clone of a list of numbers. Conditions: the list is somebody's own, at most 1000000 numbers. -/
import Derived.Test.YtmjkjdibolcblaaLaneC
namespace Go.Proofs.Ytmjkjdibolcblaa
open Go.ChangeShapes Go.WideShapes Go.ChangeAt Go.RowKit
set_option linter.unusedVariables false
def CpI (w : World) (xs : List Int) (e : Ending) (w' : World) : Prop := ∃ v, e = .returned v ∧ OwI w.heap.size w' v xs ∧ Below w.heap.size w w'
set_option maxRecDepth 100000 in
set_option maxHeartbeats 1000000 in
theorem cloneI_any (B : Nat) (v : Value) (xs : List Int) (w : World) (h : OwI B w v xs) (hl : xs.length ≤ 1000000) : Calls Try.prog 46 #[v] w (CpI w xs) := by
  have h0 := h
  rcases h0.2 with ⟨rfl, hn⟩ | ⟨g, cap, cur, rfl, _, _, h1, h2, _⟩
  · have hx : xs = [] := List.eq_nil_of_length_eq_zero hn
    subst hx
    have he : ∀ w : World, (binOp .eql 29 (.slice none 0 0) (.slice none 0 0)).run Try.prog w = .ok (.bool true) w := fun _ => rfl
    go_enter Try.func46, Try.ntmps46
    go_wp2
    go_ret
    exact ⟨_, rfl, ⟨rfl, .inl ⟨rfl, rfl⟩⟩, Below.refl _ _⟩
  · have hb0 := below_alloc w (.cells #[] 3)
    have hN := OwI.lit w w.heap.size (Nat.le_refl _)
    have h3 := h.below hb0
    unfold maxLen at h2
    clear h h0
    have he : ∀ w : World, (binOp .eql 29 (.slice (some ⟨g, 0, none⟩) xs.length cap) (.slice none 0 0)).run Try.prog w = .ok (.bool false) w := fun _ => rfl
    go_enter Try.func46, Try.ntmps46
    go_wp2_with (at_builtin; refine wpList_app2g _ (by rfl) _ _ 29 3 rfl _ _ 1 8 (.int .i64 0) Try.underlying29 infoInt rfl (by decide) _ _ _ _ _ _ hN h3 (oneI2 _) rfl rfl (by simp; omega) (by simp; omega) (by simp) ?_)
    intro v' w' ho hw hb
    have hB := hb w.heap.size w (Nat.le_refl _) hb0
    have hO : OwI w.heap.size w' v' xs := by simpa [OwI] using ho
    clear ho hw hb h3 hN hb0
    go_wp2
    go_ret
    exact ⟨_, rfl, hO, hB⟩
end Go.Proofs.Ytmjkjdibolcblaa
