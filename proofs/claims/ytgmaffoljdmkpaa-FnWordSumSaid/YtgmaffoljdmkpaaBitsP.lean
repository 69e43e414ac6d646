/- YtgmaffoljdmkpaaBitsP: plain facts on masks, sums and products of values; no Go function is walked here. No conditions but those that each fact names. -/
import Derived.Test.YtgmaffoljdmkpaaMaskOf
namespace Go.Proofs.Ytgmaffoljdmkpaa

theorem bits_or {a b : Nat} (ha : a < 256) (hb : b < 256) : bits .or .i64 (a : Int) (b : Int) = ((a ||| b : Nat) : Int) :=
  (bits_nat .i64 8 (by decide) (fun n h0 h1 => by rw [IntKind.wrap_i64]; omega) a b ha hb).2
/-- The mask of a list of places, as a number. -/
def mN (m : Nat) (xs : List Nat) : Nat := xs.foldl (fun m x => m ||| 2 ^ x) m
theorem mN_bit (xs : List Nat) : ∀ m i, (mN m xs).testBit i = (m.testBit i || decide (i ∈ xs)) := by
  induction xs with
  | nil => intro m i; simp [mN]
  | cons x r ih =>
    intro m i
    have h := ih (m ||| 2 ^ x) i
    simp only [mN, List.foldl_cons] at h ⊢
    rw [h, Nat.testBit_or, Nat.testBit_two_pow]
    by_cases hx : x = i
    · subst hx; simp
    · have hx' : ¬ i = x := fun h => hx h.symm
      simp [hx, hx']
theorem mN_lt {l : Nat} (xs : List Nat) (h : ∀ x ∈ xs, x < l) : ∀ m : Nat, m < 2 ^ l → mN m xs < 2 ^ l := by
  induction xs with
  | nil => intro m hm; exact hm
  | cons x r ih =>
    intro m hm
    exact ih (fun y hy => h y (List.mem_cons_of_mem _ hy)) _ (Nat.or_lt_two_pow hm (Nat.pow_lt_pow_right (by decide) (h x (List.mem_cons_self ..))))
theorem pow_cast (x : Nat) : ((2 ^ x : Nat) : Int) = 2 ^ x := by simp
/-- The program's mask of a list whose places are lanes. -/
theorem mOfFrom_nat {l : Nat} (hl : l ≤ 8) (xs : List Nat) (h : ∀ x ∈ xs, x < l) : ∀ m : Nat, m < 2 ^ l → mOfFrom (l : Int) (m : Int) (xs.map fun (x : Nat) => (x : Int)) = ((mN m xs : Nat) : Int) := by
  have hp : 2 ^ l ≤ 2 ^ 8 := Nat.pow_le_pow_right (by decide) hl
  induction xs with
  | nil => intro m _; rfl
  | cons x r ih =>
    intro m hm
    have hx := h x (List.mem_cons_self ..)
    have hxp : 2 ^ x < 2 ^ l := Nat.pow_lt_pow_right (by decide) hx
    have hin : inB (x : Int) 0 ((l : Int) - 1) = true := inB_t (by omega)
    simp only [List.map_cons, mOfFrom, hin, if_true, Int.toNat_natCast]
    rw [← pow_cast x, bits_or (by omega) (by omega)]
    exact ih (fun y hy => h y (List.mem_cons_of_mem _ hy)) _ (Nat.or_lt_two_pow hm hxp)
theorem mOfFrom_bad {l : Int} {xs : List Int} : ∀ m, 0 ≤ mOfFrom l m xs → ∀ x ∈ xs, 0 ≤ x ∧ x ≤ l - 1 := by
  induction xs with
  | nil => intro m _ x hx; simp at hx
  | cons y r ih =>
    intro m hm x hx
    rw [mOfFrom] at hm
    split at hm
    · rename_i hy
      rcases List.mem_cons.1 hx with rfl | hx
      · exact inB_i hy
      · exact ih _ hm x hx
    · omega
/-- A mask that is not refused: its lanes as places. -/
theorem mOf_nat {l : Int} {xs : List Int} (h : 0 ≤ mOf xs l) : ∃ (k : Nat) (ys : List Nat), l = k ∧ 1 ≤ k ∧ k ≤ 8 ∧ xs = ys.map (fun (x : Nat) => (x : Int)) ∧ (∀ y ∈ ys, y < k) ∧ mOf xs l = ((mN 0 ys : Nat) : Int) := by
  unfold mOf at h ⊢
  split at h
  · rename_i hl
    have hb := inB_i hl
    have hx := mOfFrom_bad 0 h
    have e : xs = (xs.map Int.toNat).map (fun (x : Nat) => (x : Int)) := by
      rw [List.map_map]
      conv => lhs; rw [← List.map_id xs]
      apply List.map_congr_left
      intro x hm
      have := hx x hm
      show x = ((x.toNat : Nat) : Int)
      omega
    have hy : ∀ y ∈ xs.map Int.toNat, y < l.toNat := by
      intro y hy
      obtain ⟨x, hm, rfl⟩ := List.mem_map.1 hy
      have := hx x hm
      omega
    refine ⟨l.toNat, xs.map Int.toNat, by omega, by omega, by omega, e, hy, ?_⟩
    rw [if_pos hl]
    have h2 := mOfFrom_nat (l := l.toNat) (by omega) (xs.map Int.toNat) hy 0 (Nat.two_pow_pos _)
    rw [← e, Int.toNat_of_nonneg (by omega)] at h2
    exact h2
  · omega
theorem mOf_of_nat {k : Nat} (h1 : 1 ≤ k) (h2 : k ≤ 8) {ys : List Nat} (hy : ∀ y ∈ ys, y < k) : mOf (ys.map (fun (x : Nat) => (x : Int))) (k : Int) = ((mN 0 ys : Nat) : Int) := by
  rw [mOf, if_pos (inB_t (by omega))]
  exact mOfFrom_nat h2 ys hy 0 (Nat.two_pow_pos _)
theorem mN_same {xs ys : List Nat} (h : ∀ i, i ∈ xs ↔ i ∈ ys) : mN 0 xs = mN 0 ys := by
  apply Nat.eq_of_testBit_eq
  intro i
  rw [mN_bit, mN_bit]
  simp [h i]
theorem mN_union (xs ys : List Nat) : mN 0 (xs ++ ys) = mN 0 xs ||| mN 0 ys := by
  apply Nat.eq_of_testBit_eq
  intro i
  rw [mN_bit, Nat.testBit_or, mN_bit, mN_bit]
  by_cases h1 : i ∈ xs <;> by_cases h2 : i ∈ ys <;> simp [h1, h2]

/-- All numbers are values, or one is not. -/
def allW (xs : List Int) : Bool := xs.all fun x => inB x 0 255
def sumI (xs : List Int) : Int := xs.foldr (· + ·) 0
theorem wSumFrom_eq (xs : List Int) : ∀ s, 0 ≤ s → s ≤ 255 → wSumFrom s xs = if allW xs then (s + sumI xs) % 256 else -1 := by
  induction xs with
  | nil => intro s h0 h1; simp [wSumFrom, allW, sumI]; omega
  | cons x r ih =>
    intro s h0 h1
    cases hx : inB x 0 255
    · simp [wSumFrom, allW, hx]
    · have := ih ((s + x) % 256) (by omega) (by omega)
      simp only [wSumFrom, hx, if_true, this]
      have ea : allW (x :: r) = allW r := by simp [allW, hx]
      have es : sumI (x :: r) = x + sumI r := rfl
      rw [ea, es]
      split
      · omega
      · rfl
theorem wSum_eq (xs : List Int) : wSum xs = if allW xs then sumI xs % 256 else -1 := by
  have := wSumFrom_eq xs 0 (by omega) (by omega)
  rw [Int.zero_add] at this
  exact this
theorem sumI_append (xs ys : List Int) : sumI (xs ++ ys) = sumI xs + sumI ys := by
  induction xs with
  | nil => simp [sumI]
  | cons x r ih =>
    show x + sumI (r ++ ys) = x + sumI r + sumI ys
    rw [ih]; omega
theorem sumI_reverse (xs : List Int) : sumI xs.reverse = sumI xs := by
  induction xs with
  | nil => rfl
  | cons x r ih =>
    rw [List.reverse_cons, sumI_append, ih]
    show sumI r + (x + 0) = x + sumI r
    omega
theorem allW_reverse (xs : List Int) : allW xs.reverse = allW xs := by simp [allW]
theorem allW_append (xs ys : List Int) : allW (xs ++ ys) = (allW xs && allW ys) := by simp [allW]
theorem wSum_reverse (xs : List Int) : wSum xs.reverse = wSum xs := by rw [wSum_eq, wSum_eq, allW_reverse, sumI_reverse]
theorem wSum_bd {xs : List Int} (h : 0 ≤ wSum xs) : allW xs = true ∧ wSum xs = sumI xs % 256 ∧ wSum xs ≤ 255 := by
  rw [wSum_eq] at h ⊢
  split at h
  · rename_i ha
    exact ⟨ha, by rw [if_pos ha], by rw [if_pos ha]; omega⟩
  · omega
theorem wSum_neg {xs : List Int} (h : ¬ 0 ≤ wSum xs) : wSum xs = -1 := by
  rw [wSum_eq] at h ⊢
  split
  · rename_i ha; rw [if_pos ha] at h; omega
  · rfl
theorem wSum_parts {xs ys : List Int} (h : 0 ≤ wSum (xs ++ ys)) : wAdd (wSum xs) (wSum ys) = wSum (xs ++ ys) := by
  obtain ⟨ha, hs, _⟩ := wSum_bd h
  rw [allW_append, Bool.and_eq_true] at ha
  have e1 : wSum xs = sumI xs % 256 := by rw [wSum_eq, if_pos ha.1]
  have e2 : wSum ys = sumI ys % 256 := by rw [wSum_eq, if_pos ha.2]
  rw [hs, sumI_append, wAdd, inB_t (show 0 ≤ wSum xs ∧ wSum xs ≤ 255 by omega), inB_t (show 0 ≤ wSum ys ∧ wSum ys ≤ 255 by omega), e1, e2]
  simp only [Bool.and_self, if_true]
  omega

theorem wAdd_in {a b : Int} (h : 0 ≤ wAdd a b) : 0 ≤ a ∧ a ≤ 255 ∧ 0 ≤ b ∧ b ≤ 255 ∧ wAdd a b = (a + b) % 256 := by
  unfold wAdd at h ⊢
  split at h
  · rename_i hh
    rw [Bool.and_eq_true] at hh
    have h1 := inB_i hh.1
    have h2 := inB_i hh.2
    exact ⟨h1.1, h1.2, h2.1, h2.2, by rw [if_pos (by rw [Bool.and_eq_true]; exact hh)]⟩
  · omega
theorem wAdd_val {a b : Int} (h1 : 0 ≤ a ∧ a ≤ 255) (h2 : 0 ≤ b ∧ b ≤ 255) : wAdd a b = (a + b) % 256 := by simp [wAdd, inB_t h1, inB_t h2]
theorem wMul_val {a b : Int} (h1 : 0 ≤ a ∧ a ≤ 255) (h2 : 0 ≤ b ∧ b ≤ 255) : wMul a b = a * b % 256 := by simp [wMul, inB_t h1, inB_t h2]
theorem wLess_val {a b : Int} (h1 : 0 ≤ a ∧ a ≤ 255) (h2 : 0 ≤ b ∧ b ≤ 255) : wLess a b = if a < b then 1 else 0 := by simp [wLess, inB_t h1, inB_t h2]
theorem wOp_neg (a b : Int) (h : ¬ ((0 ≤ a ∧ a ≤ 255) ∧ (0 ≤ b ∧ b ≤ 255))) : wAdd a b = -1 ∧ wMul a b = -1 ∧ wLess a b = -1 := by
  have e : (inB a 0 255 && inB b 0 255) = false := by
    cases h1 : inB a 0 255
    · rfl
    · cases h2 : inB b 0 255
      · rfl
      · exact absurd ⟨inB_i h1, inB_i h2⟩ h
  simp [wAdd, wMul, wLess, e]
theorem mul_add_mod (a b c : Int) : a * ((b + c) % 256) % 256 = (a * b % 256 + a * c % 256) % 256 := by
  rw [Int.mul_emod, Int.emod_emod_of_dvd _ (by decide), ← Int.mul_emod, Int.mul_add, Int.add_emod]
end Go.Proofs.Ytgmaffoljdmkpaa
