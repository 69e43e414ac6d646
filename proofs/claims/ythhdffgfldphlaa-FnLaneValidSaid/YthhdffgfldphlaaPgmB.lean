/- YthhdffgfldphlaaPgmB: the block around a place, its depth, the end of a block: what the program and the reference return. No conditions. -/
import Derived.Test.YthhdffgfldphlaaPgmI
import Derived.Test.YthhdffgfldphlaaPgmA
namespace Go.Proofs.Ythhdffgfldphlaa
open Go.ChangeShapes Go.WideShapes Go.ChangeAt Go.RowKit
set_option linter.unusedVariables false

def inP (cs : List Cd) (at' : Int) : Bool := inB at' 0 ((cs.length : Int) - 1)
def bAround (cs : List Cd) (i : Int) : Int := if pValid cs && inP cs i then arnd cs i.toNat else -1
def bDepth (cs : List Cd) (i : Int) : Int := if pValid cs && inP cs i then (depth cs i.toNat : Int) else -1
def opAt (cs : List Cd) (i : Int) : Bool := isOp ((cs[i.toNat]?).getD cd0)
def bEnds (cs : List Cd) (i : Int) : Int × Int := if pValid cs && (inP cs i && opAt cs i) then bEnd cs i.toNat else (-1, -1)
theorem inP_nat {cs : List Cd} {i : Int} (h : inP cs i = true) : ∃ p : Nat, i = p ∧ p < cs.length := by
  have := inB_i h
  exact ⟨i.toNat, by omega, by omega⟩
theorem around_no1 {cs : List Cd} (i : Int) (h : pValid cs = false) : bAround cs i = -1 ∧ bDepth cs i = -1 ∧ bEnds cs i = (-1, -1) := by simp [bAround, bDepth, bEnds, h]
theorem around_no2 {cs : List Cd} {i : Int} (h : inP cs i = false) : bAround cs i = -1 ∧ bDepth cs i = -1 ∧ bEnds cs i = (-1, -1) := by simp [bAround, bDepth, bEnds, h]
theorem around_yes {cs : List Cd} {i : Int} (h : pValid cs = true) (h2 : inP cs i = true) : bAround cs i = arnd cs i.toNat ∧ bDepth cs i = (depth cs i.toNat : Int) := by simp [bAround, bDepth, h, h2]
theorem ends_yes {cs : List Cd} {p : Nat} {c : Cd} (h : pValid cs = true) (h2 : inP cs p = true) (hc : cs[p]? = some c) (ho : isOp c = true) : bEnds cs (p : Int) = bEnd cs p := by simp [bEnds, opAt, h, h2, hc, ho]
theorem ends_no {cs : List Cd} {p : Nat} {c : Cd} (hc : cs[p]? = some c) (ho : isOp c = false) : bEnds cs (p : Int) = (-1, -1) := by simp [bEnds, opAt, hc, ho]
end Go.Proofs.Ythhdffgfldphlaa
