/- YtidmjeehcmpjnaaDoorCodeP: plain laws on instructions: which are valid, their numbers, the registers that they read and write. No Go function is walked here. No conditions. -/
import Derived.Test.YtidmjeehcmpjnaaDoorMemI
namespace Go.Proofs.YtidmjeehcmpjnaaDoor
open Go.ChangeShapes Go.WideShapes Go.ChangeAt Go.RowKit
set_option linter.unusedVariables false

structure Cd where
  op : Int
  a : Int
  b : Int
  c : Int

def regsN (op : Int) : Int :=
  if op = 1 ∨ op = 2 ∨ op = 11 ∨ op = 13 then 1 else if op = 3 ∨ op = 4 ∨ op = 5 ∨ op = 8 ∨ op = 9 then 2 else if op = 6 ∨ op = 7 then 3 else 0
/-- Is n fit for the number at place i of an instruction with an operation? -/
def okAt (op : Int) (i : Nat) (n : Int) : Bool :=
  if (i : Int) < regsN op then inB n 0 3 else if i = 1 ∧ op = 1 then inB n 0 255 else if i = 1 ∧ op = 13 then inB n 1 4 else n == 0
/-- Is the instruction valid? -/
def cValid (c : Cd) : Bool := okAt c.op 0 c.a && (okAt c.op 1 c.b && (okAt c.op 2 c.c && inB c.op 1 14))
def Cd.arg (c : Cd) (i : Nat) : Int := if i = 0 then c.a else if i = 1 then c.b else c.c
/-- Valid from place i on. -/
def cFrom3 (c : Cd) (i : Nat) : Bool := if i = 0 then cValid c else if i = 1 then okAt c.op 1 c.b && (okAt c.op 2 c.c && inB c.op 1 14) else if i = 2 then okAt c.op 2 c.c && inB c.op 1 14 else inB c.op 1 14
theorem cFrom3_step (c : Cd) {i : Nat} (h : i < 3) : cFrom3 c i = (okAt c.op i (c.arg i) && cFrom3 c (i + 1)) := by
  rcases (show i = 0 ∨ i = 1 ∨ i = 2 by omega) with rfl | rfl | rfl <;> rfl
theorem regsN_cases (op : Int) : (regsN op = 1 ∧ (op = 1 ∨ op = 2 ∨ op = 11 ∨ op = 13)) ∨ (regsN op = 2 ∧ (op = 3 ∨ op = 4 ∨ op = 5 ∨ op = 8 ∨ op = 9)) ∨ (regsN op = 3 ∧ (op = 6 ∨ op = 7)) ∨ (regsN op = 0 ∧ (op = 10 ∨ op = 12 ∨ op = 14 ∨ op < 1 ∨ 14 < op)) := by
  unfold regsN
  by_cases h1 : op = 1 ∨ op = 2 ∨ op = 11 ∨ op = 13
  · rw [if_pos h1]; exact .inl ⟨rfl, h1⟩
  · rw [if_neg h1]
    by_cases h2 : op = 3 ∨ op = 4 ∨ op = 5 ∨ op = 8 ∨ op = 9
    · rw [if_pos h2]; exact .inr (.inl ⟨rfl, h2⟩)
    · rw [if_neg h2]
      by_cases h3 : op = 6 ∨ op = 7
      · rw [if_pos h3]; exact .inr (.inr (.inl ⟨rfl, h3⟩))
      · rw [if_neg h3]; exact .inr (.inr (.inr ⟨rfl, by omega⟩))
theorem okAt_reg {op : Int} {i : Nat} (n : Int) (h : (i : Int) < regsN op) : okAt op i n = inB n 0 3 := by unfold okAt; rw [if_pos h]
theorem okAt_set {op : Int} {i : Nat} (n : Int) (h : ¬ (i : Int) < regsN op) (h1 : i = 1 ∧ op = 1) : okAt op i n = inB n 0 255 := by unfold okAt; rw [if_neg h, if_pos h1]
theorem okAt_loop {op : Int} {i : Nat} (n : Int) (h : ¬ (i : Int) < regsN op) (h1 : i = 1 ∧ op = 13) : okAt op i n = inB n 1 4 := by unfold okAt; rw [if_neg h, if_neg (by omega), if_pos h1]
theorem okAt_zero {op : Int} {i : Nat} (n : Int) (h : ¬ (i : Int) < regsN op) (h1 : ¬ (i = 1 ∧ op = 1)) (h2 : ¬ (i = 1 ∧ op = 13)) : okAt op i n = (n == 0) := by unfold okAt; rw [if_neg h, if_neg h1, if_neg h2]
/-- Valid or not, by the kinds of operations. -/
theorem cValid_cases (c : Cd) :
    (c.op = 1 ∧ cValid c = (inB c.a 0 3 && (inB c.b 0 255 && (c.c == 0)))) ∨
    ((c.op = 2 ∨ c.op = 11) ∧ cValid c = (inB c.a 0 3 && ((c.b == 0) && (c.c == 0)))) ∨
    (c.op = 13 ∧ cValid c = (inB c.a 0 3 && (inB c.b 1 4 && (c.c == 0)))) ∨
    ((c.op = 3 ∨ c.op = 4 ∨ c.op = 5 ∨ c.op = 8 ∨ c.op = 9) ∧ cValid c = (inB c.a 0 3 && (inB c.b 0 3 && (c.c == 0)))) ∨
    ((c.op = 6 ∨ c.op = 7) ∧ cValid c = (inB c.a 0 3 && (inB c.b 0 3 && inB c.c 0 3))) ∨
    ((c.op = 10 ∨ c.op = 12 ∨ c.op = 14) ∧ cValid c = ((c.a == 0) && ((c.b == 0) && (c.c == 0)))) ∨
    ((c.op < 1 ∨ 14 < c.op) ∧ cValid c = false) := by
  have hin : (1 ≤ c.op ∧ c.op ≤ 14) → inB c.op 1 14 = true := fun h => inB_t h
  rcases regsN_cases c.op with ⟨hr, h | h | h | h⟩ | ⟨hr, h⟩ | ⟨hr, h⟩ | ⟨hr, h⟩
  · exact .inl ⟨h, by unfold cValid; rw [hin (by omega), okAt_reg _ (by rw [hr]; decide), okAt_set _ (by rw [hr]; decide) ⟨rfl, h⟩, okAt_zero _ (by rw [hr]; decide) (by omega) (by omega)]; simp⟩
  · exact .inr (.inl ⟨.inl h, by unfold cValid; rw [hin (by omega), okAt_reg _ (by rw [hr]; decide), okAt_zero _ (by rw [hr]; decide) (by omega) (by omega), okAt_zero _ (by rw [hr]; decide) (by omega) (by omega)]; simp⟩)
  · exact .inr (.inl ⟨.inr h, by unfold cValid; rw [hin (by omega), okAt_reg _ (by rw [hr]; decide), okAt_zero _ (by rw [hr]; decide) (by omega) (by omega), okAt_zero _ (by rw [hr]; decide) (by omega) (by omega)]; simp⟩)
  · exact .inr (.inr (.inl ⟨h, by unfold cValid; rw [hin (by omega), okAt_reg _ (by rw [hr]; decide), okAt_loop _ (by rw [hr]; decide) ⟨rfl, h⟩, okAt_zero _ (by rw [hr]; decide) (by omega) (by omega)]; simp⟩))
  · exact .inr (.inr (.inr (.inl ⟨h, by unfold cValid; rw [hin (by omega), okAt_reg _ (by rw [hr]; decide), okAt_reg _ (by rw [hr]; decide), okAt_zero _ (by rw [hr]; decide) (by omega) (by omega)]; simp⟩)))
  · exact .inr (.inr (.inr (.inr (.inl ⟨h, by unfold cValid; rw [hin (by omega), okAt_reg _ (by rw [hr]; decide), okAt_reg _ (by rw [hr]; decide), okAt_reg _ (by rw [hr]; decide)]; simp⟩))))
  · by_cases hb : c.op < 1 ∨ 14 < c.op
    · exact .inr (.inr (.inr (.inr (.inr (.inr ⟨hb, by unfold cValid; rw [inB_f (n := c.op) (by omega)]; simp⟩)))))
    · exact .inr (.inr (.inr (.inr (.inr (.inl ⟨by omega, by unfold cValid; rw [hin (by omega), okAt_zero _ (by rw [hr]; decide) (by omega) (by omega), okAt_zero _ (by rw [hr]; decide) (by omega) (by omega), okAt_zero _ (by rw [hr]; decide) (by omega) (by omega)]; simp⟩)))))
/-- A valid instruction's numbers. -/
theorem cValid_bd {c : Cd} (h : cValid c = true) : 1 ≤ c.op ∧ c.op ≤ 14 ∧ 0 ≤ c.a ∧ c.a ≤ 3 ∧ 0 ≤ c.b ∧ c.b ≤ 255 ∧ 0 ≤ c.c ∧ c.c ≤ 3 ∧ (2 ≤ regsN c.op → c.b ≤ 3) ∧ (c.op = 13 → 1 ≤ c.b ∧ c.b ≤ 4) := by
  rcases cValid_cases c with ⟨ho, hv⟩ | ⟨ho, hv⟩ | ⟨ho, hv⟩ | ⟨ho, hv⟩ | ⟨ho, hv⟩ | ⟨ho, hv⟩ | ⟨ho, hv⟩
  all_goals rw [hv] at h
  all_goals try simp only [Bool.and_eq_true, beq_iff_eq] at h
  · have h1 := inB_i h.1; have h2 := inB_i h.2.1; have hr : regsN c.op = 1 := by unfold regsN; rw [if_pos (by omega)]
    refine ⟨by omega, by omega, h1.1, h1.2, h2.1, h2.2, by omega, by omega, by omega, by omega⟩
  · have h1 := inB_i h.1; have hr : regsN c.op = 1 := by unfold regsN; rw [if_pos (by omega)]
    refine ⟨by omega, by omega, h1.1, h1.2, by omega, by omega, by omega, by omega, by omega, by omega⟩
  · have h1 := inB_i h.1; have h2 := inB_i h.2.1; have hr : regsN c.op = 1 := by unfold regsN; rw [if_pos (by omega)]
    refine ⟨by omega, by omega, h1.1, h1.2, by omega, by omega, by omega, by omega, by omega, fun _ => h2⟩
  · have h1 := inB_i h.1; have h2 := inB_i h.2.1
    refine ⟨by omega, by omega, h1.1, h1.2, by omega, by omega, by omega, by omega, fun _ => h2.2, by omega⟩
  · have h1 := inB_i h.1; have h2 := inB_i h.2.1; have h3 := inB_i h.2.2
    refine ⟨by omega, by omega, h1.1, h1.2, by omega, by omega, by omega, by omega, fun _ => h2.2, by omega⟩
  · refine ⟨by omega, by omega, by omega, by omega, by omega, by omega, by omega, by omega, by omega, by omega⟩
  · cases h

/-- The number of an instruction. -/
def cNum (c : Cd) : Int := if cValid c then c.op + 16 * (c.a + 4 * (c.b + 256 * c.c)) else -1
def cdOf (n : Int) : Cd := ⟨n % 16, n / 16 % 4, n / 64 % 256, n / 16384⟩
def cd0 : Cd := ⟨0, 0, 0, 0⟩
/-- The instruction with a number, and whether there is one. -/
def cFrom (n : Int) : Cd := if n < 0 then cd0 else if cValid (cdOf n) then cdOf n else cd0
def cFromOk (n : Int) : Bool := if n < 0 then false else cValid (cdOf n)
theorem cdOf_num {c : Cd} (h : cValid c = true) : cdOf (c.op + 16 * (c.a + 4 * (c.b + 256 * c.c))) = c := by
  obtain ⟨h1, h2, h3, h4, h5, h6, h7, h8, _⟩ := cValid_bd h
  obtain ⟨op, a, b, d⟩ := c
  simp only at *
  simp only [cdOf, Cd.mk.injEq]
  refine ⟨by omega, by omega, by omega, by omega⟩
theorem num_cdOf {n : Int} (h0 : 0 ≤ n) : (cdOf n).op + 16 * ((cdOf n).a + 4 * ((cdOf n).b + 256 * (cdOf n).c)) = n := by
  simp only [cdOf]; omega
theorem cNum_t {c : Cd} (h : cValid c = true) : cNum c = c.op + 16 * (c.a + 4 * (c.b + 256 * c.c)) := by simp [cNum, h]
theorem cNum_f {c : Cd} (h : cValid c = false) : cNum c = -1 := by simp [cNum, h]
theorem cNum_bd (c : Cd) : -1 ≤ cNum c ∧ cNum c ≤ 65535 ∧ (cValid c = true → 0 ≤ cNum c) := by
  cases h : cValid c
  · rw [cNum_f h]; exact ⟨by omega, by omega, fun h => by cases h⟩
  · obtain ⟨h1, h2, h3, h4, h5, h6, h7, h8, _⟩ := cValid_bd h
    rw [cNum_t h]; exact ⟨by omega, by omega, fun _ => by omega⟩

def orI (x y : Int) : Int := bits .or .i64 x y
/-- The set of the registers that an instruction reads. -/
def cReads (c : Cd) : Int :=
  if cValid c then
    if c.op = 5 ∨ c.op = 8 then 2 ^ c.b.toNat
    else if c.op = 3 ∨ c.op = 4 ∨ c.op = 9 then orI (2 ^ c.a.toNat) (2 ^ c.b.toNat)
    else if c.op = 6 then orI (2 ^ c.b.toNat) (2 ^ c.c.toNat)
    else if c.op = 7 then orI (orI (2 ^ c.a.toNat) (2 ^ c.b.toNat)) (2 ^ c.c.toNat)
    else if c.op = 11 ∨ c.op = 13 then 2 ^ c.a.toNat
    else 0
  else 0
/-- The register that an instruction writes. -/
def cWrites (c : Cd) : Int := if cValid c && inB c.op 1 8 then c.a else -1
end Go.Proofs.YtidmjeehcmpjnaaDoor
