/- YtidmjeehcmpjnaaDoorMemI: what the copies, comparisons and marks of lists of numbers do, and the sums. Conditions: a list that is copied has at most 1048576 numbers. -/
import Derived.Test.YtidmjeehcmpjnaaDoorWords
namespace Go.Proofs.YtidmjeehcmpjnaaDoor
open Go.ChangeShapes Go.WideShapes Go.ChangeAt Go.RowKit

theorem infoInt : (Tryd.prog.info? 3).map (fun i => (i.zero, i.size, i.bytes)) = some (some (.int .i64 0), 1, 8) := by kernel_rfl

/-- A new slice of numbers is returned; nothing that was there has changed. -/
def NewI (w : World) (xs : List Int) (e : Ending) (w' : World) : Prop :=
  ∃ v, e = .returned v ∧ w'.ownsRow w.heap.size 3 1 v xs.length (xs.map (Value.int .i64)) ∧ Below w.heap.size w w'

theorem rdI_of_owns {w : World} {base e : Nat} {v : Value} {xs : List Int} (h : w.ownsRow base e 1 v xs.length (xs.map (Value.int .i64))) (hw : ∀ x ∈ xs, (Lit.int .i64 x).wf = true) : RdI .i64 w v xs :=
  ⟨rd_of_owns h, hw⟩



/-- The numbers k, k + 1, .. -/
def marks (k : Int) (n : Nat) : List Int := (List.range n).map fun (i : Nat) => k + (i : Int)
theorem marks_get (k : Int) {n i : Nat} (h : i < n) : (marks k n)[i]? = some (k + i) := by simp [marks, h]
theorem marks_length (k : Int) (n : Nat) : (marks k n).length = n := by simp [marks]
theorem marks_wf {k : Int} {n : Nat} (h0 : -9223372036854775808 ≤ k) (h1 : k + n ≤ 9223372036854775807) : ∀ x ∈ marks k n, (Lit.int .i64 x).wf = true := by
  intro x hx
  obtain ⟨i, hi, rfl⟩ := List.mem_map.1 hx
  have := List.mem_range.1 hi
  exact WalkArith.wf_i64 (by omega)
/-- The first j numbers are marks, the rest is as it was. -/
def part (xs : List Int) (k : Int) (j : Nat) : List Int := marks k j ++ xs.drop j
theorem part_zero (xs : List Int) (k : Int) : part xs k 0 = xs := by simp [part, marks]
theorem part_all (xs : List Int) (k : Int) {j : Nat} (h : xs.length ≤ j) : part xs k j = marks k j := by simp [part, List.drop_eq_nil_of_le h]
theorem part_set (xs : List Int) (k : Int) {j : Nat} (h : j < xs.length) : (part xs k j).set j (k + j) = part xs k (j + 1) := by
  obtain ⟨x, hx⟩ := get_lt h
  unfold part
  rw [List.set_append_right _ _ (by simp [marks_length]), drop_cons hx]
  simp [marks, List.range_succ]
theorem part_length (xs : List Int) (k : Int) {j : Nat} (h : j ≤ xs.length) : (part xs k j).length = xs.length := by simp [part, marks_length]; omega



/-- The sum from s on; -1 at the first that is no value. -/
def wSumFrom (s : Int) : List Int → Int
  | [] => s
  | x :: r => if inB x 0 255 then wSumFrom ((s + x) % 256) r else -1
def wSum (xs : List Int) : Int := wSumFrom 0 xs

end Go.Proofs.YtidmjeehcmpjnaaDoor
