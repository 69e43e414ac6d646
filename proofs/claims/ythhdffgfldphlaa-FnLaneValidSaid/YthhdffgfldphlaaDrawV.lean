/- YthhdffgfldphlaaDrawV: the draws of values, of lists of values and lanes, and of memories: each returns numbers within bounds and leaves old memory as it was. Conditions: a reader's place is at most 1000000000. -/
import Derived.Test.YthhdffgfldphlaaDrawM
namespace Go.Proofs.Ythhdffgfldphlaa
open Go.ChangeShapes Go.WideShapes Go.ChangeAt Go.RowKit

theorem left_below {w w1 w2 : World} {a : Nat} {bs : List Int} {q : Int} (hb : Below w.heap.size w w1) (ha : w.heap.size ≤ a) (h : Left w1 a bs q w2) : Below w.heap.size w w2 := by
  obtain ⟨_, _, _, hw⟩ := h
  exact Below.wr hb hw hb.size (fun k hk => by omega)
/-- Two drawn numbers. -/
def Pair (lo1 hi1 lo2 hi2 : Int) (w : World) (e : Ending) (w' : World) : Prop :=
  ∃ x y, e = .returned (.tuple #[.int .i64 x, .int .i64 y]) ∧ lo1 ≤ x ∧ x ≤ hi1 ∧ lo2 ≤ y ∧ y ≤ hi2 ∧ Below w.heap.size w w'
/-- A drawn list of numbers in new memory. -/
def ListD (lo hi : Int) (n : Nat) (w : World) (base : Nat) (v : Value) : Prop := ∃ xs : List Int, w.ownsRow base 3 1 v xs.length (xs.map (Value.int .i64)) ∧ xs.length ≤ n ∧ ∀ x ∈ xs, lo ≤ x ∧ x ≤ hi
theorem all_snoc {P : Int → Prop} {xs : List Int} {y : Int} (h : ∀ x ∈ xs, P x) (hy : P y) : ∀ x ∈ xs ++ [y], P x := by
  intro x hx
  rcases List.mem_append.1 hx with hx | hx
  · exact h x hx
  · rw [List.mem_singleton.1 hx]; exact hy
theorem own_snoc {w : World} {base : Nat} {v : Value} {xs : List Int} {y : Int} (h : w.ownsRow base 3 1 v (xs.length + 1) (xs.map (Value.int .i64) ++ [.int .i64 y])) : w.ownsRow base 3 1 v (xs ++ [y]).length ((xs ++ [y]).map (Value.int .i64)) := by simpa using h
end Go.Proofs.Ythhdffgfldphlaa
