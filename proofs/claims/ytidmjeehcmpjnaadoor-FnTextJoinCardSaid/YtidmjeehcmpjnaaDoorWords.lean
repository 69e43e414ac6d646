/- YtidmjeehcmpjnaaDoorWords: what l1In, within, MaskAll, MaskValid, WordAdd, WordMul, WordLess of the program and of the reference return, for all arguments. No conditions. -/
import Derived.Test.YtidmjeehcmpjnaaDoorBase
namespace Go.Proofs.YtidmjeehcmpjnaaDoor
open Go.ChangeShapes Go.WideShapes Go.ChangeAt Go.RowKit

theorem l1In_any (n lo hi : Int) (w : World) :
    Calls Tryd.prog 65 #[.int .i64 n, .int .i64 lo, .int .i64 hi] w fun e w' => e = .returned (.bool (inB n lo hi)) ∧ w = w' := by
  by_cases h : lo ≤ n
  · go_enter Tryd.func65, Tryd.ntmps65
    go_wp2
    go_ret
    exact ⟨by simp [inB, h], rfl⟩
  · go_enter Tryd.func65, Tryd.ntmps65
    go_wp2
    go_ret
    exact ⟨by rw [inB_f (by omega)]; rfl, rfl⟩
theorem within_any (n lo hi : Int) (w : World) :
    Calls Tryd.prog 74 #[.int .i64 n, .int .i64 lo, .int .i64 hi] w fun e w' => e = .returned (.bool (inB n lo hi)) ∧ w = w' := by
  by_cases h : lo ≤ n
  · go_enter Tryd.func74, Tryd.ntmps74
    go_wp2
    go_ret
    exact ⟨by simp [inB, h], rfl⟩
  · go_enter Tryd.func74, Tryd.ntmps74
    go_wp2
    go_ret
    exact ⟨by rw [inB_f (by omega)]; rfl, rfl⟩
theorem isLanes_any (n : Int) (w : World) :
    Calls Tryd.prog 70 #[.int .i64 n] w fun e w' => e = .returned (.bool (inB n 1 8)) ∧ w = w' := by
  go_enter Tryd.func70, Tryd.ntmps70
  go_wp2_with (go_at_call 74; refine (within_any _ _ _ _).mono ?_; rintro e w' ⟨rfl, rfl⟩)
  go_ret
  exact ⟨rfl, rfl⟩
theorem isWord_any (n : Int) (w : World) :
    Calls Tryd.prog 73 #[.int .i64 n] w fun e w' => e = .returned (.bool (inB n 0 255)) ∧ w = w' := by
  go_enter Tryd.func73, Tryd.ntmps73
  go_wp2_with (go_at_call 74; refine (within_any _ _ _ _).mono ?_; rintro e w' ⟨rfl, rfl⟩)
  go_ret
  exact ⟨rfl, rfl⟩
theorem l2Word_any (n : Int) (w : World) :
    Calls Tryd.prog 66 #[.int .i64 n] w fun e w' => e = .returned (.bool (inB n 0 255)) ∧ w = w' := by
  go_enter Tryd.func66, Tryd.ntmps66
  go_wp2_with (go_at_call 65; refine (l1In_any _ _ _ _).mono ?_; rintro e w' ⟨rfl, rfl⟩)
  go_ret
  exact ⟨rfl, rfl⟩

def maskAll (l : Int) : Int := if inB l 1 8 then 2 ^ l.toNat - 1 else -1
def maskValid (m l : Int) : Bool := inB l 1 8 && inB m 0 (maskAll l)
theorem pow_le {l : Int} (h : 1 ≤ l ∧ l ≤ 8) : 2 ≤ (2:Int) ^ l.toNat ∧ (2:Int) ^ l.toNat ≤ 256 := by
  obtain ⟨k, rfl⟩ : ∃ k : Nat, l = k := ⟨l.toNat, by omega⟩
  have : k = 1 ∨ k = 2 ∨ k = 3 ∨ k = 4 ∨ k = 5 ∨ k = 6 ∨ k = 7 ∨ k = 8 := by omega
  rcases this with rfl|rfl|rfl|rfl|rfl|rfl|rfl|rfl <;> decide
theorem maskAll_in {l : Int} (h : inB l 1 8 = true) : maskAll l = 2 ^ l.toNat - 1 := by simp [maskAll, h]
theorem maskAll_out {l : Int} (h : inB l 1 8 = false) : maskAll l = -1 := by simp [maskAll, h]
theorem maskAll_bd {l : Int} (h : inB l 1 8 = true) : 1 ≤ maskAll l ∧ maskAll l ≤ 255 := by
  have := pow_le (inB_i h); rw [maskAll_in h]; omega

theorem implMaskAll (l : Int) (w : World) :
    Calls Tryd.prog 50 #[.int .i64 l] w fun e w' => e = .returned (.int .i64 (maskAll l)) ∧ w = w' := by
  cases h : inB l 1 8
  · have h1 := maskAll_out h
    go_enter Tryd.func50, Tryd.ntmps50
    go_wp2_with (go_at_call 70; refine (isLanes_any _ _).mono ?_; rintro e w' ⟨rfl, rfl⟩)
    go_ret
    exact ⟨by rw [h1]; rfl, rfl⟩
  · have h1 := maskAll_in h
    have h2 := inB_i h
    have h3 := pow_le h2
    go_enter Tryd.func50, Tryd.ntmps50
    go_wp2_with (go_at_call 70; refine (isLanes_any _ _).mono ?_; rintro e w' ⟨rfl, rfl⟩)
    go_ret
    exact ⟨by rw [h1]; rfl, rfl⟩

def isW (n : Int) : Bool := inB n 0 255
def wAdd (a b : Int) : Int := if inB a 0 255 && inB b 0 255 then (a + b) % 256 else -1
def wMul (a b : Int) : Int := if inB a 0 255 && inB b 0 255 then a * b % 256 else -1
def wLess (a b : Int) : Int := if inB a 0 255 && inB b 0 255 then (if a < b then 1 else 0) else -1
theorem mul_bd {a b : Int} (h1 : 0 ≤ a ∧ a ≤ 255) (h2 : 0 ≤ b ∧ b ≤ 255) : 0 ≤ a * b ∧ a * b ≤ 65025 := by
  constructor
  · exact Int.mul_nonneg h1.1 h2.1
  · calc a * b ≤ 255 * b := Int.mul_le_mul_of_nonneg_right h1.2 h2.1
      _ ≤ 255 * 255 := Int.mul_le_mul_of_nonneg_left h2.2 (by decide)
end Go.Proofs.YtidmjeehcmpjnaaDoor
