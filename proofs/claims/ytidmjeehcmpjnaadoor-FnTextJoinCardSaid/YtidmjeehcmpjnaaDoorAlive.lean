/- YtidmjeehcmpjnaaDoorAlive: the fixed answer that the laws check. No conditions. -/
import Derived.Test.YtidmjeehcmpjnaaDoorWords
namespace Go.Proofs.YtidmjeehcmpjnaaDoor
open Go.ChangeShapes Go.WideShapes Go.ChangeAt Go.RowKit
theorem alive_any (w : World) : Calls Tryd.prog 27 #[] w fun e w' => e = .returned (.bool true) ∧ w = w' := by
  have hal : maskAll 3 = 7 := rfl
  go_enter Tryd.func27, Tryd.ntmps27
  go_wp2_with (go_at_call 50; refine (implMaskAll _ _).mono ?_; rintro e w' ⟨rfl, rfl⟩)
  go_ret
  exact ⟨rfl, rfl⟩
end Go.Proofs.YtidmjeehcmpjnaaDoor
