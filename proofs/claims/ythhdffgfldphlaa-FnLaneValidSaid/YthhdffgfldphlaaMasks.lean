/- YthhdffgfldphlaaMasks: what the functions on masks return, in the program and in the reference: MaskLanes, MaskOf, MaskMany; and MemoryValid. No conditions but that a number that is counted is from 0 to 255. -/
import Derived.Test.YthhdffgfldphlaaMemI
namespace Go.Proofs.Ythhdffgfldphlaa
open Go.ChangeShapes Go.WideShapes Go.ChangeAt Go.RowKit

theorem ret_i {k : IntKind} {a b : Int} (h : a = b) : Ending.returned (.int k a) = .returned (.int k b) := by rw [h]

def bitB (m : Int) (k : Nat) : Bool := m / 2 ^ k % 2 == 1
theorem and_one {x : Int} (h0 : 0 ≤ x) (h1 : x ≤ 255) : bits .and .i64 x 1 = x % 2 := by
  obtain ⟨k, rfl⟩ : ∃ k : Nat, x = k := ⟨x.toNat, by omega⟩
  have hk : k < 256 := by omega
  clear h0 h1
  revert k
  decide +kernel
theorem shr_bd {m : Int} (k : Nat) (h : 0 ≤ m ∧ m ≤ 255) : 0 ≤ m / 2 ^ k ∧ m / 2 ^ k ≤ 255 := by
  have hp : (0 : Int) < 2 ^ k := Int.pow_pos (by decide)
  exact ⟨Int.ediv_nonneg h.1 (Int.le_of_lt hp), Int.le_trans (Int.ediv_le_self _ h.1) h.2⟩
/-- The lanes below n that are in the mask m. -/
def lanesL (m : Int) (n : Nat) : List Int := ((List.range n).filter (bitB m)).map fun (k : Nat) => (k : Int)
theorem lanesL_yes {m : Int} {k : Nat} (h : bitB m k = true) : lanesL m (k + 1) = lanesL m k ++ [(k : Int)] := by simp [lanesL, List.range_succ, List.filter_append, h]
theorem lanesL_no {m : Int} {k : Nat} (h : bitB m k = false) : lanesL m (k + 1) = lanesL m k := by simp [lanesL, List.range_succ, List.filter_append, h]
theorem lanesL_le (m : Int) (n : Nat) : (lanesL m n).length ≤ n := by
  unfold lanesL
  rw [List.length_map]
  have := List.length_filter_le (bitB m) (List.range n)
  simpa using this
theorem lanesL_wf (m : Int) {n : Nat} (h : n ≤ 100) : ∀ x ∈ lanesL m n, (Lit.int .i64 x).wf = true := by
  intro x hx
  obtain ⟨k, hk, rfl⟩ := List.mem_map.1 hx
  have := List.mem_range.1 ((List.mem_filter.1 hk).1)
  exact WalkArith.wf_i64 (by omega)
def pop (m : Int) : Int := m % 2 + m / 2 % 2 + m / 4 % 2 + m / 8 % 2 + m / 16 % 2 + m / 32 % 2 + m / 64 % 2 + m / 128 % 2
theorem lanes_all : ∀ l : Nat, l < 9 → ∀ m : Nat, m < 2 ^ l → lanesL (m : Int) 8 = lanesL (m : Int) l ∧ ((lanesL (m : Int) l).length : Int) = pop (m : Int) := by decide +kernel
theorem maskValid_i {m l : Int} (h : maskValid m l = true) : 1 ≤ l ∧ l ≤ 8 ∧ 0 ≤ m ∧ m < 2 ^ l.toNat := by
  simp only [maskValid, Bool.and_eq_true] at h
  have h1 := inB_i h.1
  have h2 := inB_i h.2
  rw [maskAll_in h.1] at h2
  omega
theorem lanes_valid {m l : Int} (h : maskValid m l = true) : lanesL m 8 = lanesL m l.toNat ∧ ((lanesL m l.toNat).length : Int) = pop m := by
  obtain ⟨h1, h2, h3, h4⟩ := maskValid_i h
  have h5 := lanes_all l.toNat (by omega) m.toNat (by
    have e : (m.toNat : Int) < ((2 ^ l.toNat : Nat) : Int) := by
      rw [Int.toNat_of_nonneg h3]; simpa using h4
    omega)
  rwa [Int.toNat_of_nonneg h3] at h5
theorem maskValid_bd {m l : Int} (h : maskValid m l = true) : 0 ≤ m ∧ m ≤ 255 := by
  obtain ⟨h1, h2, h3, h4⟩ := maskValid_i h
  have := pow_le ⟨h1, h2⟩
  omega

def mMany (m l : Int) : Int := if maskValid m l then pop m else -1
end Go.Proofs.Ythhdffgfldphlaa
