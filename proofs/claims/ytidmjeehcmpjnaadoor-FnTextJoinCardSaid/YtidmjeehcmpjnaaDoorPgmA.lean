/- YtidmjeehcmpjnaaDoorPgmA: the reference's scans of programs: the block around a place, the end of a block. No conditions but that the place lies in the program or at its end. -/
import Derived.Test.YtidmjeehcmpjnaaDoorPgmS
namespace Go.Proofs.YtidmjeehcmpjnaaDoor
open Go.ChangeShapes Go.WideShapes Go.ChangeAt Go.RowKit
set_option linter.unusedVariables false

def isOp (c : Cd) : Bool := (c.op == 11) || (c.op == 13)
theorem isOp_t {c : Cd} (h : c.op = 11 ∨ c.op = 13) : isOp c = true := by rcases h with h | h <;> simp [isOp, h]
theorem isOp_f {c : Cd} (h : ¬ (c.op = 11 ∨ c.op = 13)) : isOp c = false := by
  unfold isOp
  rw [beq_eq_false_iff_ne.2 (fun e => h (Or.inl e)), beq_eq_false_iff_ne.2 (fun e => h (Or.inr e))]; rfl
theorem scanA_end {cs : List Cd} {k : Nat} {c : Cd} {d : Int} (hx : cs[k]? = some c) (h : c.op = 14) : scanA cs (k + 1) d = scanA cs k (d + 1) := by rw [scanA, hx]; simp only; rw [if_pos h]
theorem scanA_hit {cs : List Cd} {k : Nat} {c : Cd} (hx : cs[k]? = some c) (h : c.op = 11 ∨ c.op = 13) : scanA cs (k + 1) 0 = k := by rw [scanA, hx]; simp only; rw [if_neg (by omega), if_pos h, if_pos trivial]
theorem scanA_up {cs : List Cd} {k : Nat} {c : Cd} {d : Int} (hx : cs[k]? = some c) (h : c.op = 11 ∨ c.op = 13) (hd : d ≠ 0) : scanA cs (k + 1) d = scanA cs k (d - 1) := by rw [scanA, hx]; simp only; rw [if_neg (by omega), if_pos h, if_neg hd]
theorem scanA_on {cs : List Cd} {k : Nat} {c : Cd} {d : Int} (hx : cs[k]? = some c) (h : c.op ≠ 14) (h2 : ¬ (c.op = 11 ∨ c.op = 13)) : scanA cs (k + 1) d = scanA cs k d := by rw [scanA, hx]; simp only; rw [if_neg h, if_neg h2]
theorem scanE_open {c : Cd} {r : List Cd} {k : Nat} {d o : Int} (h : c.op = 11 ∨ c.op = 13) : scanE (c :: r) k d o = scanE r (k + 1) (d + 1) o := by rw [scanE, if_pos h]
theorem scanE_else {c : Cd} {r : List Cd} {k : Nat} {o : Int} (h : c.op = 12) : scanE (c :: r) k 0 o = scanE r (k + 1) 0 k := by rw [scanE, if_neg (by omega), if_pos ⟨h, rfl⟩]
theorem scanE_end {c : Cd} {r : List Cd} {k : Nat} {o : Int} (h : c.op = 14) : scanE (c :: r) k 0 o = ((k : Int), o) := by rw [scanE, if_neg (by omega), if_neg (by omega), if_pos ⟨h, rfl⟩]
theorem scanE_up {c : Cd} {r : List Cd} {k : Nat} {d o : Int} (h : c.op = 14) (hd : d ≠ 0) : scanE (c :: r) k d o = scanE r (k + 1) (d - 1) o := by rw [scanE, if_neg (by omega), if_neg (by omega), if_neg (by omega), if_pos h]
theorem scanE_on {c : Cd} {r : List Cd} {k : Nat} {d o : Int} (h1 : ¬ (c.op = 11 ∨ c.op = 13)) (h2 : ¬ (c.op = 12 ∧ d = 0)) (h3 : c.op ≠ 14) : scanE (c :: r) k d o = scanE r (k + 1) d o := by rw [scanE, if_neg h1, if_neg h2, if_neg (by omega), if_neg h3]
end Go.Proofs.YtidmjeehcmpjnaaDoor
