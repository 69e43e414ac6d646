/- YthhdffgfldphlaaPgmC: the block around a place, its depth, the end of a block: what the program returns. No conditions. -/
import Derived.Test.YthhdffgfldphlaaPgmB
import Derived.Test.YthhdffgfldphlaaCodeN
namespace Go.Proofs.Ythhdffgfldphlaa
open Go.ChangeShapes Go.WideShapes Go.ChangeAt Go.RowKit
set_option linter.unusedVariables false

theorem opAt_isO {cs : List Cd} {p : Nat} (hp : p < cs.length) (h : opAt cs (p : Int) = true) : ∃ c, cs[p]? = some c ∧ (c.op = 11 ∨ c.op = 13) := by
  obtain ⟨c, hc⟩ := get_lt hp
  have e : opAt cs (p : Int) = isOp c := by simp [opAt, hc]
  rw [e] at h
  refine ⟨c, hc, ?_⟩
  simpa [isOp] using h
end Go.Proofs.Ythhdffgfldphlaa
