/- YtmjkjdibolcblaaAlive: the fixed answer that the laws check. No conditions. -/
import Derived.Test.YtmjkjdibolcblaaWords
namespace Go.Proofs.Ytmjkjdibolcblaa
open Go.ChangeShapes Go.WideShapes Go.ChangeAt Go.RowKit
theorem alive_any (w : World) : Calls Try.prog 13 #[] w fun e w' => e = .returned (.bool true) ∧ w = w' := by
  have hal : maskAll 3 = 7 := rfl
  go_enter Try.func13, Try.ntmps13
  go_wp2_with (go_at_call 43; refine (implMaskAll _ _).mono ?_; rintro e w' ⟨rfl, rfl⟩)
  go_ret
  exact ⟨rfl, rfl⟩
end Go.Proofs.Ytmjkjdibolcblaa
