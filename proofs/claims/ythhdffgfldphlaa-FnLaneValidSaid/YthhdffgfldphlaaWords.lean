/- YthhdffgfldphlaaWords: what l1In, within, MaskAll, MaskValid, WordAdd, WordMul, WordLess of the program and of the reference return, for all arguments. No conditions. -/
import Derived.Test.YthhdffgfldphlaaBase
namespace Go.Proofs.Ythhdffgfldphlaa
open Go.ChangeShapes Go.WideShapes Go.ChangeAt Go.RowKit

theorem l1In_any (n lo hi : Int) (w : World) :
    Calls Try.prog 17 #[.int .i64 n, .int .i64 lo, .int .i64 hi] w fun e w' => e = .returned (.bool (inB n lo hi)) ∧ w = w' := by
  by_cases h : lo ≤ n
  · go_enter Try.func17, Try.ntmps17
    go_wp2
    go_ret
    exact ⟨by simp [inB, h], rfl⟩
  · go_enter Try.func17, Try.ntmps17
    go_wp2
    go_ret
    exact ⟨by rw [inB_f (by omega)]; rfl, rfl⟩
theorem within_any (n lo hi : Int) (w : World) :
    Calls Try.prog 11 #[.int .i64 n, .int .i64 lo, .int .i64 hi] w fun e w' => e = .returned (.bool (inB n lo hi)) ∧ w = w' := by
  by_cases h : lo ≤ n
  · go_enter Try.func11, Try.ntmps11
    go_wp2
    go_ret
    exact ⟨by simp [inB, h], rfl⟩
  · go_enter Try.func11, Try.ntmps11
    go_wp2
    go_ret
    exact ⟨by rw [inB_f (by omega)]; rfl, rfl⟩
theorem isLanes_any (n : Int) (w : World) :
    Calls Try.prog 31 #[.int .i64 n] w fun e w' => e = .returned (.bool (inB n 1 8)) ∧ w = w' := by
  go_enter Try.func31, Try.ntmps31
  go_wp2_with (go_at_call 11; refine (within_any _ _ _ _).mono ?_; rintro e w' ⟨rfl, rfl⟩)
  go_ret
  exact ⟨rfl, rfl⟩
theorem isWord_any (n : Int) (w : World) :
    Calls Try.prog 14 #[.int .i64 n] w fun e w' => e = .returned (.bool (inB n 0 255)) ∧ w = w' := by
  go_enter Try.func14, Try.ntmps14
  go_wp2_with (go_at_call 11; refine (within_any _ _ _ _).mono ?_; rintro e w' ⟨rfl, rfl⟩)
  go_ret
  exact ⟨rfl, rfl⟩
theorem l2Word_any (n : Int) (w : World) :
    Calls Try.prog 18 #[.int .i64 n] w fun e w' => e = .returned (.bool (inB n 0 255)) ∧ w = w' := by
  go_enter Try.func18, Try.ntmps18
  go_wp2_with (go_at_call 17; refine (l1In_any _ _ _ _).mono ?_; rintro e w' ⟨rfl, rfl⟩)
  go_ret
  exact ⟨rfl, rfl⟩

def maskAll (l : Int) : Int := if inB l 1 8 then 2 ^ l.toNat - 1 else -1
def maskValid (m l : Int) : Bool := inB l 1 8 && inB m 0 (maskAll l)
theorem pow_le {l : Int} (h : 1 ≤ l ∧ l ≤ 8) : 2 ≤ (2:Int) ^ l.toNat ∧ (2:Int) ^ l.toNat ≤ 256 := by
  obtain ⟨k, rfl⟩ : ∃ k : Nat, l = k := ⟨l.toNat, by omega⟩
  have : k = 1 ∨ k = 2 ∨ k = 3 ∨ k = 4 ∨ k = 5 ∨ k = 6 ∨ k = 7 ∨ k = 8 := by omega
  rcases this with rfl|rfl|rfl|rfl|rfl|rfl|rfl|rfl <;> decide
theorem maskAll_in {l : Int} (h : inB l 1 8 = true) : maskAll l = 2 ^ l.toNat - 1 := by simp [maskAll, h]
theorem maskAll_out {l : Int} (h : inB l 1 8 = false) : maskAll l = -1 := by simp [maskAll, h]
theorem maskAll_bd {l : Int} (h : inB l 1 8 = true) : 1 ≤ maskAll l ∧ maskAll l ≤ 255 := by
  have := pow_le (inB_i h); rw [maskAll_in h]; omega

theorem implMaskAll (l : Int) (w : World) :
    Calls Try.prog 20 #[.int .i64 l] w fun e w' => e = .returned (.int .i64 (maskAll l)) ∧ w = w' := by
  cases h : inB l 1 8
  · have h1 := maskAll_out h
    go_enter Try.func20, Try.ntmps20
    go_wp2_with (go_at_call 31; refine (isLanes_any _ _).mono ?_; rintro e w' ⟨rfl, rfl⟩)
    go_ret
    exact ⟨by rw [h1]; rfl, rfl⟩
  · have h1 := maskAll_in h
    have h2 := inB_i h
    have h3 := pow_le h2
    go_enter Try.func20, Try.ntmps20
    go_wp2_with (go_at_call 31; refine (isLanes_any _ _).mono ?_; rintro e w' ⟨rfl, rfl⟩)
    go_ret
    exact ⟨by rw [h1]; rfl, rfl⟩

def isW (n : Int) : Bool := inB n 0 255
def wAdd (a b : Int) : Int := if inB a 0 255 && inB b 0 255 then (a + b) % 256 else -1
def wMul (a b : Int) : Int := if inB a 0 255 && inB b 0 255 then a * b % 256 else -1
def wLess (a b : Int) : Int := if inB a 0 255 && inB b 0 255 then (if a < b then 1 else 0) else -1
theorem mul_bd {a b : Int} (h1 : 0 ≤ a ∧ a ≤ 255) (h2 : 0 ≤ b ∧ b ≤ 255) : 0 ≤ a * b ∧ a * b ≤ 65025 := by
  constructor
  · exact Int.mul_nonneg h1.1 h2.1
  · calc a * b ≤ 255 * b := Int.mul_le_mul_of_nonneg_right h1.2 h2.1
      _ ≤ 255 * 255 := Int.mul_le_mul_of_nonneg_left h2.2 (by decide)
theorem specWordAdd (a b : Int) (w : World) :
    Calls Try.prog 43 #[.int .i64 a, .int .i64 b] w fun e w' => e = .returned (.int .i64 (wAdd a b)) ∧ w = w' := by
  rcases inB_cases a 0 255 with ⟨h1, g1⟩ | ⟨h1, g1⟩
  · rcases inB_cases b 0 255 with ⟨h2, g2⟩ | ⟨h2, g2⟩
    · have hf : wAdd a b = (a + b) % 256 := by simp [wAdd, h1, h2]
      have H := Lib.hid hf
      clear hf
      have g3 := mul_bd g1 g2
      go_enter Try.func43, Try.ntmps43
      go_wp2_with (go_at_call 18; refine (l2Word_any _ _).mono ?_; rintro e w' ⟨rfl, rfl⟩)
      go_ret
      exact ⟨by rw [H.out]; rfl, rfl⟩
    · have hf : wAdd a b = -1 := by simp [wAdd, h1, h2]
      have H := Lib.hid hf
      clear hf
      go_enter Try.func43, Try.ntmps43
      go_wp2_with (go_at_call 18; refine (l2Word_any _ _).mono ?_; rintro e w' ⟨rfl, rfl⟩)
      go_ret
      exact ⟨by rw [H.out]; rfl, rfl⟩
  · have hf : wAdd a b = -1 := by simp [wAdd, h1]
    have H := Lib.hid hf
    clear hf
    go_enter Try.func43, Try.ntmps43
    go_wp2_with (go_at_call 18; refine (l2Word_any _ _).mono ?_; rintro e w' ⟨rfl, rfl⟩)
    go_ret
    exact ⟨by rw [H.out]; rfl, rfl⟩
theorem specWordMul (a b : Int) (w : World) :
    Calls Try.prog 44 #[.int .i64 a, .int .i64 b] w fun e w' => e = .returned (.int .i64 (wMul a b)) ∧ w = w' := by
  rcases inB_cases a 0 255 with ⟨h1, g1⟩ | ⟨h1, g1⟩
  · rcases inB_cases b 0 255 with ⟨h2, g2⟩ | ⟨h2, g2⟩
    · have hf : wMul a b = a * b % 256 := by simp [wMul, h1, h2]
      have H := Lib.hid hf
      clear hf
      have g3 := mul_bd g1 g2
      go_enter Try.func44, Try.ntmps44
      go_wp2_with (go_at_call 18; refine (l2Word_any _ _).mono ?_; rintro e w' ⟨rfl, rfl⟩)
      go_ret
      exact ⟨by rw [H.out]; rfl, rfl⟩
    · have hf : wMul a b = -1 := by simp [wMul, h1, h2]
      have H := Lib.hid hf
      clear hf
      go_enter Try.func44, Try.ntmps44
      go_wp2_with (go_at_call 18; refine (l2Word_any _ _).mono ?_; rintro e w' ⟨rfl, rfl⟩)
      go_ret
      exact ⟨by rw [H.out]; rfl, rfl⟩
  · have hf : wMul a b = -1 := by simp [wMul, h1]
    have H := Lib.hid hf
    clear hf
    go_enter Try.func44, Try.ntmps44
    go_wp2_with (go_at_call 18; refine (l2Word_any _ _).mono ?_; rintro e w' ⟨rfl, rfl⟩)
    go_ret
    exact ⟨by rw [H.out]; rfl, rfl⟩
theorem specWordLess (a b : Int) (w : World) :
    Calls Try.prog 45 #[.int .i64 a, .int .i64 b] w fun e w' => e = .returned (.int .i64 (wLess a b)) ∧ w = w' := by
  rcases inB_cases a 0 255 with ⟨h1, g1⟩ | ⟨h1, g1⟩
  · rcases inB_cases b 0 255 with ⟨h2, g2⟩ | ⟨h2, g2⟩
    · by_cases h3 : a < b
      · have hf : wLess a b = 1 := by simp [wLess, h1, h2, h3]
        have H := Lib.hid hf
        clear hf
        go_enter Try.func45, Try.ntmps45
        go_wp2_with (go_at_call 18; refine (l2Word_any _ _).mono ?_; rintro e w' ⟨rfl, rfl⟩)
        go_ret
        exact ⟨by rw [H.out]; rfl, rfl⟩
      · have hf : wLess a b = 0 := by simp [wLess, h1, h2, h3]
        have H := Lib.hid hf
        clear hf
        go_enter Try.func45, Try.ntmps45
        go_wp2_with (go_at_call 18; refine (l2Word_any _ _).mono ?_; rintro e w' ⟨rfl, rfl⟩)
        go_ret
        exact ⟨by rw [H.out]; rfl, rfl⟩
    · have hf : wLess a b = -1 := by simp [wLess, h1, h2]
      have H := Lib.hid hf
      clear hf
      go_enter Try.func45, Try.ntmps45
      go_wp2_with (go_at_call 18; refine (l2Word_any _ _).mono ?_; rintro e w' ⟨rfl, rfl⟩)
      go_ret
      exact ⟨by rw [H.out]; rfl, rfl⟩
  · have hf : wLess a b = -1 := by simp [wLess, h1]
    have H := Lib.hid hf
    clear hf
    go_enter Try.func45, Try.ntmps45
    go_wp2_with (go_at_call 18; refine (l2Word_any _ _).mono ?_; rintro e w' ⟨rfl, rfl⟩)
    go_ret
    exact ⟨by rw [H.out]; rfl, rfl⟩
end Go.Proofs.Ythhdffgfldphlaa
