/- YthhdffgfldphlaaAlive: the fixed answer that the laws check. No conditions. -/
import Derived.Test.YthhdffgfldphlaaWords
namespace Go.Proofs.Ythhdffgfldphlaa
open Go.ChangeShapes Go.WideShapes Go.ChangeAt Go.RowKit
theorem alive_any (w : World) : Calls Try.prog 7 #[] w fun e w' => e = .returned (.bool true) ∧ w = w' := by
  have hal : maskAll 3 = 7 := rfl
  go_enter Try.func7, Try.ntmps7
  go_wp2_with (go_at_call 20; refine (implMaskAll _ _).mono ?_; rintro e w' ⟨rfl, rfl⟩)
  go_ret
  exact ⟨rfl, rfl⟩
end Go.Proofs.Ythhdffgfldphlaa
