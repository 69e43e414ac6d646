/- YtidmjeehcmpjnaaDoorPgmP: plain laws on programs: the stack of open blocks, the scans for the end of a block and for the block around a place. No Go function is walked here. No conditions. -/
import Derived.Test.YtidmjeehcmpjnaaDoorCodeP
namespace Go.Proofs.YtidmjeehcmpjnaaDoor
open Go.ChangeShapes Go.WideShapes Go.ChangeAt Go.RowKit
set_option linter.unusedVariables false

/-- An open block: where it was opened, by which operation, and where it was divided (or -1). -/
structure Fr where
  p : Nat
  op : Int
  o : Int

/-- What an instruction at place k does to the stack of open blocks (the innermost one first). -/
def stp (k : Nat) (c : Cd) (s : List Fr) : Option (List Fr) :=
  if c.op = 11 ∨ c.op = 13 then (if 3 ≤ s.length then none else some (⟨k, c.op, -1⟩ :: s))
  else if c.op = 12 then
    match s with
    | [] => none
    | f :: r => if f.op = 11 ∧ f.o < 0 then some (⟨f.p, f.op, k⟩ :: r) else none
  else if c.op = 14 then
    match s with
    | [] => none
    | _ :: r => some r
  else some s

/-- The open blocks ahead of place k. -/
def stk (cs : List Cd) : Nat → Option (List Fr)
  | 0 => some []
  | k + 1 =>
    match stk cs k with
    | none => none
    | some s =>
      match cs[k]? with
      | none => some s
      | some c => stp k c s

def closed : Option (List Fr) → Bool
  | some [] => true
  | _ => false
def sOk (cs : List Cd) : Bool := closed (stk cs cs.length)
/-- Is the program valid? -/
def pValid (cs : List Cd) : Bool := decide (cs.length ≤ 40) && (cs.all cValid && sOk cs)

theorem stk_succ {cs : List Cd} {k : Nat} {c : Cd} {s : List Fr} (hc : cs[k]? = some c) (hs : stk cs k = some s) : stk cs (k + 1) = stp k c s := by
  simp [stk, hs, hc]
theorem stk_none {cs : List Cd} {k : Nat} (h : stk cs k = none) : ∀ j, k ≤ j → stk cs j = none := by
  intro j hj
  obtain ⟨d, rfl⟩ : ∃ d, j = k + d := ⟨j - k, by omega⟩
  induction d with
  | zero => exact h
  | succ d ih => rw [← Nat.add_assoc, stk, ih (by omega)]
theorem stk_le {cs : List Cd} {k j : Nat} {s : List Fr} (h : stk cs k = some s) (hj : j ≤ k) : ∃ s', stk cs j = some s' := by
  cases hs : stk cs j with
  | none => rw [stk_none hs k hj] at h; cases h
  | some s' => exact ⟨s', rfl⟩

/-- The four ways of an instruction. -/
theorem stp_cases {k : Nat} {c : Cd} {s s' : List Fr} (h : stp k c s = some s') :
    ((c.op = 11 ∨ c.op = 13) ∧ s.length < 3 ∧ s' = ⟨k, c.op, -1⟩ :: s) ∨
    (c.op = 12 ∧ ∃ f r, s = f :: r ∧ f.op = 11 ∧ f.o < 0 ∧ s' = ⟨f.p, f.op, k⟩ :: r) ∨
    (c.op = 14 ∧ ∃ f, s = f :: s') ∨
    (¬ (c.op = 11 ∨ c.op = 13) ∧ c.op ≠ 12 ∧ c.op ≠ 14 ∧ s' = s) := by
  unfold stp at h
  by_cases h1 : c.op = 11 ∨ c.op = 13
  · rw [if_pos h1] at h
    by_cases h2 : 3 ≤ s.length
    · rw [if_pos h2] at h; cases h
    · rw [if_neg h2] at h
      exact .inl ⟨h1, by omega, (Option.some.inj h).symm⟩
  · rw [if_neg h1] at h
    by_cases h2 : c.op = 12
    · rw [if_pos h2] at h
      cases s with
      | nil => cases h
      | cons f r =>
        simp only at h
        by_cases h3 : f.op = 11 ∧ f.o < 0
        · rw [if_pos h3] at h
          exact .inr (.inl ⟨h2, f, r, rfl, h3.1, h3.2, (Option.some.inj h).symm⟩)
        · rw [if_neg h3] at h; cases h
    · rw [if_neg h2] at h
      by_cases h3 : c.op = 14
      · rw [if_pos h3] at h
        cases s with
        | nil => cases h
        | cons f r => exact .inr (.inr (.inl ⟨h3, f, by rw [Option.some.inj h]⟩))
      · rw [if_neg h3] at h
        exact .inr (.inr (.inr ⟨h1, h2, h3, (Option.some.inj h).symm⟩))
theorem stp_open {k : Nat} {c : Cd} {s : List Fr} (h : c.op = 11 ∨ c.op = 13) (hl : s.length < 3) : stp k c s = some (⟨k, c.op, -1⟩ :: s) := by
  unfold stp; rw [if_pos h, if_neg (by omega)]
theorem stp_deep {k : Nat} {c : Cd} {s : List Fr} (h : c.op = 11 ∨ c.op = 13) (hl : 3 ≤ s.length) : stp k c s = none := by
  unfold stp; rw [if_pos h, if_pos hl]
theorem stp_else {k : Nat} {c : Cd} {f : Fr} {r : List Fr} (h : c.op = 12) (hf : f.op = 11 ∧ f.o < 0) : stp k c (f :: r) = some (⟨f.p, f.op, k⟩ :: r) := by
  unfold stp; rw [if_neg (by omega), if_pos h]; simp only; rw [if_pos hf]
theorem stp_else_no {k : Nat} {c : Cd} {f : Fr} {r : List Fr} (h : c.op = 12) (hf : ¬ (f.op = 11 ∧ f.o < 0)) : stp k c (f :: r) = none := by
  unfold stp; rw [if_neg (by omega), if_pos h]; simp only; rw [if_neg hf]
theorem stp_else_nil {k : Nat} {c : Cd} (h : c.op = 12) : stp k c [] = none := by
  unfold stp; rw [if_neg (by omega), if_pos h]
theorem stp_end {k : Nat} {c : Cd} {f : Fr} {r : List Fr} (h : c.op = 14) : stp k c (f :: r) = some r := by
  unfold stp; rw [if_neg (by omega), if_neg (by omega), if_pos h]
theorem stp_end_nil {k : Nat} {c : Cd} (h : c.op = 14) : stp k c [] = none := by
  unfold stp; rw [if_neg (by omega), if_neg (by omega), if_pos h]
theorem stp_plain {k : Nat} {c : Cd} {s : List Fr} (h1 : ¬ (c.op = 11 ∨ c.op = 13)) (h2 : c.op ≠ 12) (h3 : c.op ≠ 14) : stp k c s = some s := by
  unfold stp; rw [if_neg h1, if_neg h2, if_neg h3]

/-- The scan for the end of a block, from place k on: the end (or -1), and where it was divided. -/
def scanE : List Cd → Nat → Int → Int → Int × Int
  | [], _, _, o => (-1, o)
  | c :: r, k, d, o =>
    if c.op = 11 ∨ c.op = 13 then scanE r (k + 1) (d + 1) o
    else if c.op = 12 ∧ d = 0 then scanE r (k + 1) d k
    else if c.op = 14 ∧ d = 0 then (k, o)
    else if c.op = 14 then scanE r (k + 1) (d - 1) o
    else scanE r (k + 1) d o
/-- Where the block that is opened at a place ends, and where it is divided. -/
def bEnd (cs : List Cd) (p : Nat) : Int × Int := scanE (cs.drop (p + 1)) (p + 1) 0 (-1)
/-- The scan back for the block around a place. -/
def scanA (cs : List Cd) : Nat → Int → Int
  | 0, _ => -1
  | k + 1, d =>
    match cs[k]? with
    | none => scanA cs k d
    | some c =>
      if c.op = 14 then scanA cs k (d + 1)
      else if c.op = 11 ∨ c.op = 13 then (if d = 0 then k else scanA cs k (d - 1))
      else scanA cs k d
/-- Where the innermost block around a place is opened, or -1. -/
def arnd (cs : List Cd) (k : Nat) : Int := scanA cs k 0

/-- What holds of the open blocks ahead of place k. -/
structure Inv (cs : List Cd) (k : Nat) (s : List Fr) : Prop where
  deep : s.length ≤ 3
  lt : ∀ (i : Nat) (f : Fr), s[i]? = some f → f.p < k
  code : ∀ (i : Nat) (f : Fr), s[i]? = some f → (f.op = 11 ∨ f.op = 13) ∧ ∃ c, cs[f.p]? = some c ∧ c.op = f.op
  below : ∀ (i : Nat) (f : Fr), s[i]? = some f → stk cs f.p = some (s.drop (i + 1))
  other : ∀ (i : Nat) (f : Fr), s[i]? = some f → f.o = -1 ∨ (f.op = 11 ∧ ∃ j : Nat, f.o = j ∧ f.p < j ∧ j < k ∧ (∃ c, cs[j]? = some c ∧ c.op = 12) ∧ ∃ g : Fr, stk cs j = some (g :: s.drop (i + 1)) ∧ g.p = f.p)
  scan : ∀ (i : Nat) (f : Fr), s[i]? = some f → bEnd cs f.p = scanE (cs.drop k) k i f.o

theorem inv_step {cs : List Cd} {k : Nat} {c : Cd} {s s' : List Fr} (hk : stk cs k = some s) (h : Inv cs k s) (hc : cs[k]? = some c) (hs : stp k c s = some s') : Inv cs (k + 1) s' := by
  have hd := drop_cons hc
  obtain ⟨i1, i2, i3, i4, i5, i6⟩ := h
  have old : ∀ (i : Nat) (f : Fr) (d : Nat), s[i]? = some f → f.o = -1 ∨ (f.op = 11 ∧ ∃ j : Nat, f.o = j ∧ f.p < j ∧ j < k + 1 ∧ (∃ c, cs[j]? = some c ∧ c.op = 12) ∧ ∃ g : Fr, stk cs j = some (g :: s.drop (i + 1)) ∧ g.p = f.p) := by
    intro i f d hf
    rcases i5 i f hf with h | ⟨h1, j, h2, h3, h4, h5⟩
    · exact .inl h
    · exact .inr ⟨h1, j, h2, h3, by omega, h5⟩
  rcases stp_cases hs with ⟨ho, hl, rfl⟩ | ⟨ho, f, r, rfl, hf1, hf2, rfl⟩ | ⟨ho, f, rfl⟩ | ⟨h1, h2, h3, rfl⟩
  · refine ⟨by simp; omega, ?_, ?_, ?_, ?_, ?_⟩
    · intro i f hf
      cases i with
      | zero => obtain rfl := (by simpa using hf : _ = f); exact Nat.lt_succ_self k
      | succ i => have := i2 i f (by simpa using hf); omega
    · intro i f hf
      cases i with
      | zero => obtain rfl := (by simpa using hf : _ = f); exact ⟨ho, c, hc, rfl⟩
      | succ i => exact i3 i f (by simpa using hf)
    · intro i f hf
      cases i with
      | zero => obtain rfl := (by simpa using hf : _ = f); simpa using hk
      | succ i => simpa using i4 i f (by simpa using hf)
    · intro i f hf
      cases i with
      | zero => obtain rfl := (by simpa using hf : _ = f); exact .inl rfl
      | succ i => simpa using old i f 0 (by simpa using hf)
    · intro i f hf
      cases i with
      | zero => obtain rfl := (by simpa using hf : _ = f); rfl
      | succ i =>
        rw [i6 i f (by simpa using hf), hd, scanE, if_pos ho]
        simp
  · have hfr : (f :: r)[0]? = some f := rfl
    refine ⟨by simpa using i1, ?_, ?_, ?_, ?_, ?_⟩
    · intro i g hg
      cases i with
      | zero => obtain rfl := (by simpa using hg : _ = g); have := i2 0 f hfr; show f.p < k + 1; omega
      | succ i => have := i2 (i + 1) g (by simpa using hg); omega
    · intro i g hg
      cases i with
      | zero => obtain rfl := (by simpa using hg : _ = g); exact i3 0 f hfr
      | succ i => exact i3 (i + 1) g (by simpa using hg)
    · intro i g hg
      cases i with
      | zero => obtain rfl := (by simpa using hg : _ = g); simpa using i4 0 f hfr
      | succ i => simpa using i4 (i + 1) g (by simpa using hg)
    · intro i g hg
      cases i with
      | zero =>
        obtain rfl := (by simpa using hg : _ = g)
        exact .inr ⟨hf1, k, rfl, i2 0 f hfr, Nat.lt_succ_self k, ⟨c, hc, ho⟩, f, by simpa using hk, rfl⟩
      | succ i => simpa using old (i + 1) g 0 (by simpa using hg)
    · intro i g hg
      cases i with
      | zero =>
        obtain rfl := (by simpa using hg : _ = g)
        have := i6 0 f hfr
        show bEnd cs f.p = _
        rw [this, hd, scanE, if_neg (by omega), if_pos ⟨ho, rfl⟩]
      | succ i =>
        rw [i6 (i + 1) g (by simpa using hg), hd, scanE, if_neg (by omega), if_neg (by omega), if_neg (by omega), if_neg (by omega)]
  · refine ⟨by simp at i1; omega, ?_, ?_, ?_, ?_, ?_⟩
    · intro i g hg
      have := i2 (i + 1) g (by simpa using hg); omega
    · intro i g hg
      exact i3 (i + 1) g (by simpa using hg)
    · intro i g hg
      simpa using i4 (i + 1) g (by simpa using hg)
    · intro i g hg
      simpa using old (i + 1) g 0 (by simpa using hg)
    · intro i g hg
      rw [i6 (i + 1) g (by simpa using hg), hd, scanE, if_neg (by omega), if_neg (by omega), if_neg (by omega), if_pos ho]
      congr 1; omega
  · refine ⟨i1, fun i f hf => by have := i2 i f hf; omega, i3, i4, fun i f hf => old i f 0 hf, fun i f hf => ?_⟩
    rw [i6 i f hf, hd, scanE, if_neg h1, if_neg (by omega), if_neg (by omega), if_neg h3]
theorem inv_all {cs : List Cd} : ∀ (k : Nat) (s : List Fr), k ≤ cs.length → stk cs k = some s → Inv cs k s := by
  intro k
  induction k with
  | zero =>
    intro s _ h
    obtain rfl := (Option.some.inj h).symm
    exact ⟨by simp, by simp, by simp, by simp, by simp, by simp⟩
  | succ k ih =>
    intro s hk h
    obtain ⟨c, hc⟩ := get_lt (show k < cs.length by omega)
    obtain ⟨s0, h0⟩ := stk_le h (Nat.le_succ k)
    rw [stk_succ hc h0] at h
    exact inv_step h0 (ih s0 (by omega) h0) hc h

def topP : Option Fr → Int
  | some f => f.p
  | none => -1
theorem scanA_eq {cs : List Cd} : ∀ (k : Nat) (s : List Fr), k ≤ cs.length → stk cs k = some s → ∀ d : Nat, scanA cs k d = topP s[d]? := by
  intro k
  induction k with
  | zero =>
    intro s _ h d
    obtain rfl := (Option.some.inj h).symm
    rfl
  | succ k ih =>
    intro s hk h d
    obtain ⟨c, hc⟩ := get_lt (show k < cs.length by omega)
    obtain ⟨s0, h0⟩ := stk_le h (Nat.le_succ k)
    rw [stk_succ hc h0] at h
    have ih := ih s0 (by omega) h0
    rw [scanA, hc]
    simp only
    rcases stp_cases h with ⟨ho, hl, rfl⟩ | ⟨ho, f, r, rfl, hf1, hf2, rfl⟩ | ⟨ho, f, rfl⟩ | ⟨h1, h2, h3, rfl⟩
    · rw [if_neg (by omega), if_pos ho]
      cases d with
      | zero => rw [if_pos (show ((0 : Nat) : Int) = 0 from rfl)]; rfl
      | succ d =>
        rw [if_neg (by omega), show ((d + 1 : Nat) : Int) - 1 = (d : Int) by omega, ih d]
        rfl
    · rw [if_neg (by omega), if_neg (by omega), ih d]
      cases d with
      | zero => rfl
      | succ d => rfl
    · rw [if_pos ho, show (d : Int) + 1 = ((d + 1 : Nat) : Int) by omega, ih (d + 1)]
      rfl
    · rw [if_neg h3, if_neg h1, ih d]
theorem arnd_eq {cs : List Cd} {k : Nat} {s : List Fr} (hk : k ≤ cs.length) (h : stk cs k = some s) : arnd cs k = topP s[0]? := scanA_eq k s hk h 0

theorem pValid_len {cs : List Cd} (h : pValid cs = true) : cs.length ≤ 40 := by
  simp only [pValid, Bool.and_eq_true, decide_eq_true_eq] at h; exact h.1
theorem pValid_code {cs : List Cd} (h : pValid cs = true) {k : Nat} {c : Cd} (hc : cs[k]? = some c) : cValid c = true := by
  simp only [pValid, Bool.and_eq_true, List.all_eq_true] at h
  exact h.2.1 c (List.mem_of_getElem? hc)
theorem pValid_end {cs : List Cd} (h : pValid cs = true) : stk cs cs.length = some [] := by
  simp only [pValid, Bool.and_eq_true] at h
  have h2 := h.2.2
  unfold sOk at h2
  cases hs : stk cs cs.length with
  | none => rw [hs] at h2; cases h2
  | some s =>
    cases s with
    | nil => rfl
    | cons f r => rw [hs] at h2; cases h2
theorem pValid_stk {cs : List Cd} (h : pValid cs = true) {k : Nat} (hk : k ≤ cs.length) : ∃ s, stk cs k = some s ∧ Inv cs k s := by
  obtain ⟨s, hs⟩ := stk_le (pValid_end h) hk
  exact ⟨s, hs, inv_all k s hk hs⟩
theorem pValid_bad {cs : List Cd} {k : Nat} {c : Cd} (hc : cs[k]? = some c) (hv : cValid c = false) : pValid cs = false := by
  cases h : pValid cs
  · rfl
  · rw [pValid_code h hc] at hv; cases hv
theorem pValid_none {cs : List Cd} {k : Nat} (hk : k ≤ cs.length) (h : stk cs k = none) : pValid cs = false := by
  cases hp : pValid cs
  · rfl
  · have := pValid_end hp
    rw [stk_none h _ hk] at this; cases this
end Go.Proofs.YtidmjeehcmpjnaaDoor
