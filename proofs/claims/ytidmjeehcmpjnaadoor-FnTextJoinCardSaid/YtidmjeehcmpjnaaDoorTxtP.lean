/- YtidmjeehcmpjnaaDoorTxtP: plain laws on the texts of instructions: which text an instruction has, how a text is cut into words, which instruction a text reads as. No Go function is walked here. No conditions. -/
import Derived.Test.YtidmjeehcmpjnaaDoorCodeP
import Derived.Lib.ItoaNum
import Derived.Lib.AtoiAll
import Derived.Lib.SplitLaws
import Derived.Lib.IndexBytes
namespace Go.Proofs.YtidmjeehcmpjnaaDoor
open Go.ChangeShapes Go.WideShapes Go.ChangeAt Go.RowKit
set_option linter.unusedVariables false

/-- The names of the operations. -/
def nmL : List (List UInt8) := [[], [115, 101, 116], [108, 97, 110, 101], [97, 100, 100], [109, 117, 108], [109, 111, 118, 101], [108, 101, 115, 115], [112, 105, 99, 107], [108, 111, 97, 100], [115, 116, 111, 114, 101], [98, 97, 114, 114, 105, 101, 114], [105, 102], [101, 108, 115, 101], [108, 111, 111, 112], [101, 110, 100]]
def nm (op : Int) : List UInt8 := (nmL[op.toNat]?).getD []
def shownN (op : Int) : Nat := if op = 1 ∨ op = 13 then 2 else (regsN op).toNat
def dig (n : Int) : List UInt8 := Lib.itoa n
def numsT (l : List Int) : List UInt8 := l.flatMap (fun n => 32 :: dig n)
def Cd.nums (c : Cd) : List Int := [c.a, c.b, c.c].take (shownN c.op)
/-- The text of an instruction. -/
def ctext (c : Cd) : List UInt8 := if cValid c = true then nm c.op ++ numsT c.nums else []

theorem dec_1 {n : Nat} (h : n < 10) : Lib.decDigits n = [UInt8.ofNat (48 + n)] := by rw [Lib.decDigits, dif_pos h]
theorem dec_2 {n : Nat} (h1 : 10 ≤ n) (h2 : n < 100) : Lib.decDigits n = [UInt8.ofNat (48 + n / 10), UInt8.ofNat (48 + n % 10)] := by rw [Lib.decDigits, dif_neg (by omega), dec_1 (by omega)]; rfl
theorem dec_3 {n : Nat} (h1 : 100 ≤ n) (h2 : n < 1000) : Lib.decDigits n = [UInt8.ofNat (48 + n / 10 / 10), UInt8.ofNat (48 + n / 10 % 10), UInt8.ofNat (48 + n % 10)] := by rw [Lib.decDigits, dif_neg (by omega), dec_2 (by omega) (by omega)]; rfl
theorem byte_dig {d : Nat} (h : d < 10) : (UInt8.ofNat (48 + d)).toNat = 48 + d := by rw [UInt8.toNat_ofNat']; omega
theorem byte_no {d : Nat} (h : d < 10) : UInt8.ofNat (48 + d) ≠ 32 := fun e => by have := congrArg UInt8.toNat e; rw [byte_dig h] at this; simp at this; omega
theorem dig_nat (n : Nat) : dig n = Lib.decDigits n := by unfold dig Lib.itoa; rw [if_neg (by omega)]; simp
theorem dig_no {n : Int} (h : 0 ≤ n ∧ n ≤ 999) : (32 : UInt8) ∉ dig n := by
  obtain ⟨k, rfl⟩ : ∃ k : Nat, n = k := ⟨n.toNat, by omega⟩
  rw [dig_nat]
  intro hm
  rcases (show k < 10 ∨ (10 ≤ k ∧ k < 100) ∨ (100 ≤ k ∧ k < 1000) by omega) with h1 | ⟨h1, h2⟩ | ⟨h1, h2⟩
  · rw [dec_1 h1, List.mem_singleton] at hm
    exact byte_no h1 hm.symm
  · rw [dec_2 h1 h2] at hm
    simp only [List.mem_cons, List.not_mem_nil, or_false] at hm
    rcases hm with hm | hm
    · exact byte_no (by omega) hm.symm
    · exact byte_no (by omega) hm.symm
  · rw [dec_3 h1 h2] at hm
    simp only [List.mem_cons, List.not_mem_nil, or_false] at hm
    rcases hm with hm | hm | hm
    · exact byte_no (by omega) hm.symm
    · exact byte_no (by omega) hm.symm
    · exact byte_no (by omega) hm.symm

/-- A text's words: what stands between its spaces. -/
def splitW : List UInt8 → List (List UInt8)
  | [] => [[]]
  | c :: r => if c = 32 then [] :: splitW r else match splitW r with
    | [] => [[c]]
    | x :: xs => (c :: x) :: xs
theorem splitW_ne : ∀ l : List UInt8, splitW l ≠ []
  | [] => by simp [splitW]
  | c :: r => by
    unfold splitW
    split
    · simp
    · split <;> simp
theorem splitW_cons {c : UInt8} (h : c ≠ 32) {r x : List UInt8} {xs : List (List UInt8)} (hr : splitW r = x :: xs) : splitW (c :: r) = (c :: x) :: xs := by
  rw [splitW, if_neg h, hr]
theorem splitW_sp (r : List UInt8) : splitW (32 :: r) = [] :: splitW r := by rw [splitW, if_pos rfl]
theorem splitW_app : ∀ {a : List UInt8} (h : (32 : UInt8) ∉ a) (r : List UInt8), splitW (a ++ 32 :: r) = a :: splitW r
  | [], _, r => splitW_sp r
  | c :: a, h, r => by
    have h1 : c ≠ 32 := fun e => h (by rw [e]; exact List.mem_cons_self)
    exact splitW_cons h1 (splitW_app (fun hm => h (List.mem_cons_of_mem _ hm)) r)
theorem splitW_one : ∀ {a : List UInt8} (h : (32 : UInt8) ∉ a), splitW a = [a]
  | [], _ => rfl
  | c :: a, h => by
    have h1 : c ≠ 32 := fun e => h (by rw [e]; exact List.mem_cons_self)
    exact splitW_cons h1 (splitW_one (fun hm => h (List.mem_cons_of_mem _ hm)))
theorem splitW_nums : ∀ (l : List Int) (a : List UInt8), (32 : UInt8) ∉ a → (∀ n ∈ l, 0 ≤ n ∧ n ≤ 999) → splitW (a ++ numsT l) = a :: l.map dig
  | [], a, ha, _ => by rw [show numsT [] = [] from rfl, List.append_nil]; exact splitW_one ha
  | n :: l, a, ha, hl => by
    rw [show numsT (n :: l) = 32 :: (dig n ++ numsT l) from rfl, splitW_app ha, splitW_nums l (dig n) (dig_no (hl n List.mem_cons_self)) (fun m hm => hl m (List.mem_cons_of_mem _ hm))]
    rfl
theorem splitW_snoc_sp : ∀ l : List UInt8, splitW (l ++ [32]) = splitW l ++ [[]]
  | [] => rfl
  | c :: r => by
    by_cases h : c = 32
    · subst h; rw [List.cons_append, splitW_sp, splitW_sp, splitW_snoc_sp r]; rfl
    · obtain ⟨x, xs, hr⟩ := List.exists_cons_of_ne_nil (splitW_ne r)
      rw [List.cons_append, splitW_cons h hr, splitW_cons h (x := x) (xs := xs ++ [[]]) (by rw [splitW_snoc_sp r, hr]; rfl)]; rfl
theorem splitW_snoc {c : UInt8} (hc : c ≠ 32) : ∀ (l : List UInt8) (ys : List (List UInt8)) (z : List UInt8), splitW l = ys ++ [z] → splitW (l ++ [c]) = ys ++ [z ++ [c]]
  | [], ys, z, h => by
    cases ys with
    | nil => simp [splitW] at h; subst h; exact splitW_cons hc rfl
    | cons y ys => simp [splitW] at h
  | d :: r, ys, z, h => by
    by_cases hd : d = 32
    · subst hd
      rw [splitW_sp] at h
      cases ys with
      | nil => simp at h; exact absurd h.2 (splitW_ne r)
      | cons y ys =>
        simp only [List.cons_append, List.cons.injEq] at h
        rw [List.cons_append, splitW_sp, splitW_snoc hc r ys z h.2, ← h.1]; rfl
    · obtain ⟨x, xs, hr⟩ := List.exists_cons_of_ne_nil (splitW_ne r)
      rw [splitW_cons hd hr] at h
      cases ys with
      | nil =>
        simp only [List.nil_append, List.cons.injEq] at h
        obtain ⟨rfl, rfl⟩ := h
        exact splitW_cons hd (splitW_snoc hc r [] x hr)
      | cons y ys =>
        simp only [List.cons_append, List.cons.injEq] at h
        obtain ⟨rfl, rfl⟩ := h
        exact splitW_cons hd (splitW_snoc hc r (x :: ys) z hr)
theorem splitW_len : ∀ l : List UInt8, (splitW l).length ≤ l.length + 1
  | [] => by simp [splitW]
  | c :: r => by
    have ih := splitW_len r
    by_cases h : c = 32
    · subst h; rw [splitW_sp]; simp; omega
    · obtain ⟨x, xs, hr⟩ := List.exists_cons_of_ne_nil (splitW_ne r)
      rw [splitW_cons h hr]; rw [hr] at ih; simp at ih ⊢; omega
theorem splitW_mem : ∀ (l : List UInt8) (x : List UInt8), x ∈ splitW l → x.length ≤ l.length
  | [], x, h => by simp [splitW] at h; simp [h]
  | c :: r, x, h => by
    by_cases hc : c = 32
    · subst hc
      rw [splitW_sp] at h
      rcases List.mem_cons.1 h with rfl | h
      · simp
      · have := splitW_mem r x h; simp; omega
    · obtain ⟨y, ys, hr⟩ := List.exists_cons_of_ne_nil (splitW_ne r)
      rw [splitW_cons hc hr] at h
      rcases List.mem_cons.1 h with rfl | h
      · have := splitW_mem r y (by rw [hr]; exact List.mem_cons_self); simp; omega
      · have := splitW_mem r x (by rw [hr]; exact List.mem_cons_of_mem _ h); simp; omega
/-- What strings.Split cuts is just the words. -/
theorem splitK_words : ∀ s : List UInt8, Lib.splitK [32] 0 (Lib.count s [32]) s = splitW s
  | [] => by rw [Lib.count_one]; rfl
  | c :: r => by
    have ih := splitK_words r
    by_cases h : c = 32
    · subst h
      rw [Lib.count_cons_eq, Nat.add_comm, splitW_sp, ← ih]
      have hix : Lib.index (32 :: r) [32] = 0 := by rw [Lib.index]; simp [List.isPrefixOf]
      rw [Lib.splitK, hix]
      rfl
    · rw [Lib.count_cons_ne c 32 r h]
      obtain ⟨x, xs, hr⟩ := List.exists_cons_of_ne_nil (splitW_ne r)
      rw [splitW_cons h hr]
      rw [hr] at ih
      have hp : ([32] : List UInt8).isPrefixOf (c :: r) = false := by simp [List.isPrefixOf, Ne.symm h]
      have hix : Lib.index (c :: r) [32] = if Lib.index r [32] == -1 then -1 else Lib.index r [32] + 1 := by rw [Lib.index, hp]; simp
      cases hk : Lib.count r [32] with
      | zero =>
        rw [hk] at ih
        simp only [Lib.splitK, List.cons.injEq] at ih ⊢
        obtain ⟨rfl, rfl⟩ := ih
        exact ⟨⟨trivial, rfl⟩, rfl⟩
      | succ k =>
        rw [hk] at ih
        by_cases hm : Lib.index r [32] = -1
        · rw [Lib.count_miss hm] at hk; cases hk
        · have hge := Lib.index_ge r [32]
          have e1 : (Lib.index r [32] == -1) = false := by rw [beq_eq_false_iff_ne]; exact hm
          have e2 : (Lib.index r [32] + 1 == -1) = false := by rw [beq_eq_false_iff_ne]; omega
          rw [Lib.splitK, e1, if_neg (by simp)] at ih
          have hix2 : Lib.index (c :: r) [32] = Lib.index r [32] + 1 := by rw [hix, e1, if_neg (by simp)]
          rw [Lib.splitK, hix2, e2, if_neg (by simp)]
          simp only [List.cons.injEq] at ih
          obtain ⟨i1, i2⟩ := ih
          have e3 : (Lib.index r [32] + 1).toNat = (Lib.index r [32]).toNat + 1 := by omega
          rw [Nat.add_zero] at i1
          rw [e3, Nat.add_zero, List.take_succ_cons, i1]
          rw [show (Lib.index r [32]).toNat + 1 + ([32] : List UInt8).length = ((Lib.index r [32]).toNat + ([32] : List UInt8).length) + 1 by omega, List.drop_succ_cons, i2]

/-- A number of at most three digits; -1 for other texts. -/
def valF (n : Int) : List UInt8 → Int
  | [] => n
  | c :: r => if c.toNat < 48 ∨ 57 < c.toNat then -1 else valF (10 * n + ((c.toNat : Int) - 48)) r
def valS (l : List UInt8) : Int := if l.length = 0 ∨ 3 < l.length then -1 else valF 0 l
theorem valF_dig {d : Nat} (h : d < 10) (n : Int) (r : List UInt8) : valF n (UInt8.ofNat (48 + d) :: r) = valF (10 * n + d) r := by
  rw [valF, byte_dig h, if_neg (by omega)]
  congr 1
  omega
theorem valS_dig {n : Int} (h : 0 ≤ n ∧ n ≤ 255) : valS (dig n) = n := by
  obtain ⟨k, rfl⟩ : ∃ k : Nat, n = k := ⟨n.toNat, by omega⟩
  rw [dig_nat]
  rcases (show k < 10 ∨ (10 ≤ k ∧ k < 100) ∨ (100 ≤ k ∧ k < 1000) by omega) with h1 | ⟨h1, h2⟩ | ⟨h1, h2⟩
  · rw [dec_1 h1, valS, if_neg (by simp), valF_dig h1, valF]; omega
  · rw [dec_2 h1 h2, valS, if_neg (by simp), valF_dig (by omega), valF_dig (by omega), valF]; omega
  · rw [dec_3 h1 h2, valS, if_neg (by simp), valF_dig (by omega), valF_dig (by omega), valF_dig (by omega), valF]; omega
theorem parse_dig {d acc : Nat} (h : d < 10) (ha : acc ≤ 1000000) (r : List UInt8) : Lib.parseUint10 acc (UInt8.ofNat (48 + d) :: r) = Lib.parseUint10 (acc * 10 + d) r := by
  rw [Lib.parseUint10, byte_dig h, if_pos (by omega), if_neg (by omega), if_neg (by omega)]
  congr 1
  omega
theorem atoi_dig {n : Int} (h : 0 ≤ n ∧ n ≤ 255) : Lib.atoiAll (dig n) = .ok n := by
  obtain ⟨k, rfl⟩ : ∃ k : Nat, n = k := ⟨n.toNat, by omega⟩
  rw [dig_nat]
  rcases (show k < 10 ∨ (10 ≤ k ∧ k < 100) ∨ (100 ≤ k ∧ k < 1000) by omega) with h1 | ⟨h1, h2⟩ | ⟨h1, h2⟩
  · rw [dec_1 h1, Lib.atoiAll]
    simp only [byte_dig h1]
    rw [if_neg (by omega), Lib.parseMag, if_neg (by simp), parse_dig h1 (by omega), Lib.parseUint10]
    simp only
    rw [if_neg (by omega), if_neg (by omega), if_neg (by omega)]
    congr 1
    omega
  · rw [dec_2 h1 h2, Lib.atoiAll]
    simp only [byte_dig (show k / 10 < 10 by omega)]
    rw [if_neg (by omega), Lib.parseMag, if_neg (by simp), parse_dig (by omega) (by omega), parse_dig (by omega) (by omega), Lib.parseUint10]
    simp only
    rw [if_neg (by omega), if_neg (by omega), if_neg (by omega)]
    congr 1
    omega
  · rw [dec_3 h1 h2, Lib.atoiAll]
    simp only [byte_dig (show k / 10 / 10 < 10 by omega)]
    rw [if_neg (by omega), Lib.parseMag, if_neg (by simp), parse_dig (by omega) (by omega), parse_dig (by omega) (by omega), parse_dig (by omega) (by omega), Lib.parseUint10]
    simp only
    rw [if_neg (by omega), if_neg (by omega), if_neg (by omega)]
    congr 1
    omega

/-- The operation that a word names: the last one of that name; 0 for none. -/
def opTo (w : List UInt8) : Nat → Int
  | 0 => 0
  | k + 1 => if w = nm ((k + 1 : Nat) : Int) then ((k + 1 : Nat) : Int) else opTo w k
def opS (w : List UInt8) : Int := opTo w 14
theorem opS_nm {op : Int} (h : 1 ≤ op ∧ op ≤ 14) : opS (nm op) = op := by
  rcases (show op = 1 ∨ op = 2 ∨ op = 3 ∨ op = 4 ∨ op = 5 ∨ op = 6 ∨ op = 7 ∨ op = 8 ∨ op = 9 ∨ op = 10 ∨ op = 11 ∨ op = 12 ∨ op = 13 ∨ op = 14 by omega) with rfl | rfl | rfl | rfl | rfl | rfl | rfl | rfl | rfl | rfl | rfl | rfl | rfl | rfl
  all_goals decide +kernel
theorem nm_no {op : Int} (h : 1 ≤ op ∧ op ≤ 14) : (32 : UInt8) ∉ nm op ∧ nm op ≠ [] := by
  rcases (show op = 1 ∨ op = 2 ∨ op = 3 ∨ op = 4 ∨ op = 5 ∨ op = 6 ∨ op = 7 ∨ op = 8 ∨ op = 9 ∨ op = 10 ∨ op = 11 ∨ op = 12 ∨ op = 13 ∨ op = 14 by omega) with rfl | rfl | rfl | rfl | rfl | rfl | rfl | rfl | rfl | rfl | rfl | rfl | rfl | rfl
  all_goals decide +kernel
/-- The number at place i of a text's words. -/
def numAt (ws : List (List UInt8)) (i : Nat) : Int := match ws[i]? with
  | some x => valS x
  | none => 0
/-- The instruction that the words of a text name, if any. -/
def wordsC (ws : List (List UInt8)) : Cd := ⟨opS (ws.headD []), numAt ws 1, numAt ws 2, numAt ws 3⟩
/-- The instruction whose text l is. -/
def readT (l : List UInt8) : Option Cd :=
  if 4 < (splitW l).length then none else if cValid (wordsC (splitW l)) = true ∧ ctext (wordsC (splitW l)) = l then some (wordsC (splitW l)) else none
/-- Valid instructions: their operation, their numbers, which of them are shown. -/
theorem valid_nums {c : Cd} (h : cValid c = true) : (1 ≤ c.op ∧ c.op ≤ 14) ∧ (∀ n ∈ c.nums, 0 ≤ n ∧ n ≤ 255) ∧
    ((shownN c.op = 0 ∧ c.a = 0 ∧ c.b = 0 ∧ c.c = 0) ∨ (shownN c.op = 1 ∧ c.b = 0 ∧ c.c = 0) ∨ (shownN c.op = 2 ∧ c.c = 0) ∨ shownN c.op = 3) := by
  obtain ⟨op, a, b, d⟩ := c
  rcases cValid_cases ⟨op, a, b, d⟩ with ⟨ho, hv⟩ | ⟨ho, hv⟩ | ⟨ho, hv⟩ | ⟨ho, hv⟩ | ⟨ho, hv⟩ | ⟨ho, hv⟩ | ⟨ho, hv⟩
  all_goals
    simp only at ho hv
    rw [h] at hv
    have hv := hv.symm
    try simp only [Bool.and_eq_true, beq_iff_eq] at hv
  · obtain ⟨h1, h2, h3⟩ := hv
    have h1 := inB_i h1
    have h2 := inB_i h2
    subst ho
    refine ⟨by simp, fun n hn => ?_, .inr (.inr (.inl ⟨rfl, h3⟩))⟩
    simp only [Cd.nums, shownN, true_or, if_true, List.take, List.mem_cons, List.not_mem_nil, or_false] at hn
    omega
  · obtain ⟨h1, h2, h3⟩ := hv
    have h1 := inB_i h1
    rcases ho with rfl | rfl
    all_goals
      refine ⟨by simp, fun n hn => ?_, .inr (.inl ⟨rfl, h2, h3⟩)⟩
      have hn : n ∈ [a] := hn
      simp only [List.mem_cons, List.not_mem_nil, or_false] at hn
      omega
  · obtain ⟨h1, h2, h3⟩ := hv
    have h1 := inB_i h1
    have h2 := inB_i h2
    subst ho
    refine ⟨by simp, fun n hn => ?_, .inr (.inr (.inl ⟨rfl, h3⟩))⟩
    have hn : n ∈ [a, b] := hn
    simp only [List.mem_cons, List.not_mem_nil, or_false] at hn
    omega
  · obtain ⟨h1, h2, h3⟩ := hv
    have h1 := inB_i h1
    have h2 := inB_i h2
    rcases ho with rfl | rfl | rfl | rfl | rfl
    all_goals
      refine ⟨by simp, fun n hn => ?_, .inr (.inr (.inl ⟨rfl, h3⟩))⟩
      have hn : n ∈ [a, b] := hn
      simp only [List.mem_cons, List.not_mem_nil, or_false] at hn
      omega
  · obtain ⟨h1, h2, h3⟩ := hv
    have h1 := inB_i h1
    have h2 := inB_i h2
    have h3 := inB_i h3
    rcases ho with rfl | rfl
    all_goals
      refine ⟨by simp, fun n hn => ?_, .inr (.inr (.inr rfl))⟩
      have hn : n ∈ [a, b, d] := hn
      simp only [List.mem_cons, List.not_mem_nil, or_false] at hn
      omega
  · obtain ⟨h1, h2, h3⟩ := hv
    rcases ho with rfl | rfl | rfl
    all_goals
      refine ⟨by simp, fun n hn => ?_, .inl ⟨rfl, h1, h2, h3⟩⟩
      have hn : n ∈ ([] : List Int) := hn
      cases hn
  · cases hv
theorem ctext_valid {c : Cd} (h : cValid c = true) : ctext c = nm c.op ++ numsT c.nums := by unfold ctext; rw [if_pos h]
/-- The words of a valid instruction's text. -/
theorem words_text {c : Cd} (h : cValid c = true) : splitW (ctext c) = nm c.op :: c.nums.map dig := by
  obtain ⟨ho, hn, _⟩ := valid_nums h
  rw [ctext_valid h]
  exact splitW_nums _ _ (nm_no ho).1 (fun n hm => by have := hn n hm; omega)
theorem words_c {c : Cd} (h : cValid c = true) : wordsC (nm c.op :: c.nums.map dig) = c ∧ (nm c.op :: c.nums.map dig).length = 1 + shownN c.op ∧ shownN c.op ≤ 3 := by
  obtain ⟨ho, hn, hs⟩ := valid_nums h
  obtain ⟨op, a, b, d⟩ := c
  simp only at ho hs
  unfold Cd.nums at hn ⊢
  simp only at hn ⊢
  unfold wordsC
  rw [List.headD_cons, opS_nm ho]
  rcases hs with ⟨h0, rfl, rfl, rfl⟩ | ⟨h0, rfl, rfl⟩ | ⟨h0, rfl⟩ | h0
  · rw [h0] at hn ⊢
    exact ⟨rfl, rfl, by omega⟩
  · rw [h0] at hn ⊢
    have h1 := hn a (by simp)
    exact ⟨by show (⟨op, valS (dig a), 0, 0⟩ : Cd) = _; rw [valS_dig h1], rfl, by omega⟩
  · rw [h0] at hn ⊢
    have h1 := hn a (by simp)
    have h2 := hn b (by simp)
    exact ⟨by show (⟨op, valS (dig a), valS (dig b), 0⟩ : Cd) = _; rw [valS_dig h1, valS_dig h2], rfl, by omega⟩
  · rw [h0] at hn ⊢
    have h1 := hn a (by simp)
    have h2 := hn b (by simp)
    have h3 := hn d (by simp)
    exact ⟨by show (⟨op, valS (dig a), valS (dig b), valS (dig d)⟩ : Cd) = _; rw [valS_dig h1, valS_dig h2, valS_dig h3], rfl, by omega⟩
/-- A text reads as an instruction just where it is the text of that valid instruction. -/
theorem readT_iff {l : List UInt8} {c : Cd} : readT l = some c ↔ cValid c = true ∧ ctext c = l := by
  constructor
  · intro h
    unfold readT at h
    split at h
    · cases h
    · split at h
      · rename_i h2
        cases h
        exact h2
      · cases h
  · rintro ⟨hv, rfl⟩
    obtain ⟨h1, h2, h3⟩ := words_c hv
    unfold readT
    rw [words_text hv, if_neg (by omega), h1, if_pos ⟨hv, rfl⟩]
theorem readT_none {l : List UInt8} (h : ∀ c, cValid c = true → ctext c ≠ l) : readT l = none := by
  cases hr : readT l with
  | none => rfl
  | some c => exact absurd (readT_iff.1 hr).2 (h c (readT_iff.1 hr).1)
theorem readT_text {c : Cd} (h : cValid c = true) : readT (ctext c) = some c := readT_iff.2 ⟨h, rfl⟩
/-- Two valid instructions of one text are one. -/
theorem ctext_inj {c d : Cd} (hc : cValid c = true) (hd : cValid d = true) (h : ctext c = ctext d) : c = d := by
  have h1 := readT_text hc
  rw [h, readT_text hd] at h1
  exact (Option.some.inj h1).symm
theorem ctext_ne {c : Cd} (h : cValid c = true) : ctext c ≠ [] := by
  rw [ctext_valid h]
  intro hh
  exact (nm_no (valid_nums h).1).2 (List.append_eq_nil_iff.1 hh).1
theorem ctext_bad {c : Cd} (h : cValid c = false) : ctext c = [] := by unfold ctext; rw [h, if_neg (by simp)]
theorem dig_len {n : Int} (h : 0 ≤ n ∧ n ≤ 255) : (dig n).length ≤ 3 := by
  obtain ⟨k, rfl⟩ : ∃ k : Nat, n = k := ⟨n.toNat, by omega⟩
  rw [dig_nat]
  rcases (show k < 10 ∨ (10 ≤ k ∧ k < 100) ∨ (100 ≤ k ∧ k < 1000) by omega) with h1 | ⟨h1, h2⟩ | ⟨h1, h2⟩
  · rw [dec_1 h1]; simp
  · rw [dec_2 h1 h2]; simp
  · rw [dec_3 h1 h2]; simp
theorem nm_len (op : Int) : (nm op).length ≤ 7 := by
  unfold nm
  cases h : nmL[op.toNat]? with
  | none => simp
  | some x =>
    have hm := List.mem_of_getElem? h
    have : ∀ y ∈ nmL, y.length ≤ 7 := by decide
    exact this x hm
theorem ctext_len (c : Cd) : (ctext c).length ≤ 19 := by
  cases hv : cValid c with
  | false => rw [ctext_bad hv]; simp
  | true =>
    obtain ⟨ho, hn, _⟩ := valid_nums hv
    have h1 := nm_len c.op
    have h2 : (numsT c.nums).length ≤ 4 * c.nums.length := by
      generalize c.nums = l at hn
      clear h1 ho hv
      induction l with
      | nil => simp [numsT]
      | cons n l ih =>
        have h3 := dig_len (hn n List.mem_cons_self)
        have h4 := ih (fun m hm => hn m (List.mem_cons_of_mem _ hm))
        simp only [numsT, List.flatMap_cons, List.length_append, List.length_cons] at h4 ⊢
        omega
    have h3 : c.nums.length ≤ 3 := by unfold Cd.nums; rw [List.length_take]; simp; omega
    rw [ctext_valid hv, List.length_append]
    omega
/-- The program whose lines these are, invalid or not. -/
def readsT : List (List UInt8) → Option (List Cd)
  | [] => some []
  | l :: r => match readT l, readsT r with
    | some c, some cs => some (c :: cs)
    | _, _ => none
theorem readsT_texts : ∀ {cs : List Cd}, (∀ c ∈ cs, cValid c = true) → readsT (cs.map ctext) = some cs
  | [], _ => rfl
  | c :: cs, h => by
    rw [List.map_cons, readsT, readT_text (h c List.mem_cons_self), readsT_texts (fun d hd => h d (List.mem_cons_of_mem _ hd))]
theorem readsT_some : ∀ {ls : List (List UInt8)} {cs : List Cd}, readsT ls = some cs → ls = cs.map ctext ∧ ∀ c ∈ cs, cValid c = true
  | [], cs, h => by cases h; exact ⟨rfl, by simp⟩
  | l :: r, cs, h => by
    rw [readsT] at h
    cases h1 : readT l with
    | none => rw [h1] at h; cases h
    | some c =>
      cases h2 : readsT r with
      | none => rw [h1, h2] at h; cases h
      | some ds =>
        rw [h1, h2] at h
        cases h
        obtain ⟨rfl, h4⟩ := readsT_some h2
        obtain ⟨h5, h6⟩ := readT_iff.1 h1
        refine ⟨by rw [List.map_cons, h6], fun d hd => ?_⟩
        rcases List.mem_cons.1 hd with rfl | hd
        · exact h5
        · exact h4 d hd
theorem readsT_snoc : ∀ (ls : List (List UInt8)) (cs : List Cd) (l : List UInt8) (c : Cd), readsT ls = some cs → readT l = some c → readsT (ls ++ [l]) = some (cs ++ [c])
  | [], cs, l, c, h, hc => by cases h; rw [List.nil_append, readsT, hc]; rfl
  | x :: r, cs, l, c, h, hc => by
    rw [readsT] at h
    cases h1 : readT x with
    | none => rw [h1] at h; cases h
    | some d =>
      cases h2 : readsT r with
      | none => rw [h1, h2] at h; cases h
      | some ds =>
        rw [h1, h2] at h
        cases h
        rw [List.cons_append, readsT, h1, readsT_snoc r ds l c h2 hc]
        rfl
theorem readsT_bad : ∀ (ls rs : List (List UInt8)) (l : List UInt8), readT l = none → readsT (ls ++ l :: rs) = none
  | [], rs, l, h => by rw [List.nil_append, readsT, h]
  | x :: r, rs, l, h => by
    rw [List.cons_append, readsT, readsT_bad r rs l h]
    cases readT x <;> rfl
end Go.Proofs.YtidmjeehcmpjnaaDoor
