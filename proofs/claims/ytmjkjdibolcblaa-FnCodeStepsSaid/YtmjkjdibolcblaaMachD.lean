/- YtmjkjdibolcblaaMachD: the program's test whether a lane is at the end. No conditions. -/
import Derived.Test.YtmjkjdibolcblaaMach
namespace Go.Proofs.Ytmjkjdibolcblaa
open Go.ChangeShapes Go.WideShapes Go.ChangeAt Go.RowKit
set_option linter.unusedVariables false
set_option maxRecDepth 100000 in
set_option maxHeartbeats 2000000 in
theorem isDone_any (cs : List Cd) (w : World) (lo m X : Nat) (la : Option Addr) (ln : Nat) (r t : Value) (pc : Int) (wt : Bool) (h : Mach cs w lo m (.slice la cs.length ln)) (hX : Box4 w X r (.int .i64 pc) t (.bool wt)) (hln : cs.length ≤ ln ∧ ln ≤ 9223372036854775807) :
    Calls Try.prog 57 #[.pointer (some ⟨m, 0, none⟩), .pointer (some ⟨X, 0, none⟩)] w fun e w' => e = .returned (.bool (pc == cs.length)) ∧ Below w.heap.size w w' := by
  obtain ⟨hi, va, vo, _, _, _, hm, g0, g1⟩ := h
  obtain ⟨x0, x1, x2, x3, x4⟩ := hX
  clear g1 x0 x2 x3
  go_enter Try.func57, Try.ntmps57
  go_wp2
  go_quiet (fail)
  go_wp2
  go_ret
  exact ⟨rfl, below_drewN (Below.refl _ _) _⟩
end Go.Proofs.Ytmjkjdibolcblaa
