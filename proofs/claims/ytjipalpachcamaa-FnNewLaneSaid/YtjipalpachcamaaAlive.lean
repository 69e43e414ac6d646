/- YtjipalpachcamaaAlive: the fixed answer that the laws check. No conditions. -/
import Derived.Test.YtjipalpachcamaaWords
namespace Go.Proofs.Ytjipalpachcamaa
open Go.ChangeShapes Go.WideShapes Go.ChangeAt Go.RowKit
theorem alive_any (w : World) : Calls Try.prog 18 #[] w fun e w' => e = .returned (.bool true) ∧ w = w' := by
  have hal : maskAll 3 = 7 := rfl
  go_enter Try.func18, Try.ntmps18
  go_wp2_with (go_at_call 58; refine (implMaskAll _ _).mono ?_; rintro e w' ⟨rfl, rfl⟩)
  go_ret
  exact ⟨rfl, rfl⟩
end Go.Proofs.Ytjipalpachcamaa
