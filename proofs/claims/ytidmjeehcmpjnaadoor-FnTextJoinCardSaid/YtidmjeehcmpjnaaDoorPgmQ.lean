/- YtidmjeehcmpjnaaDoorPgmQ: plain laws on programs: their kinds of blocks alone, programs put together, programs put into a block, counts, the ends of blocks. No Go function is walked here. No conditions. -/
import Derived.Test.YtidmjeehcmpjnaaDoorPgmP
namespace Go.Proofs.YtidmjeehcmpjnaaDoor
open Go.ChangeShapes Go.WideShapes Go.ChangeAt Go.RowKit
set_option linter.unusedVariables false

/-- The kind of an open block: 13 a loop, 11 an OpIf that is not divided, 12 one that is. -/
def Fr.kind (f : Fr) : Int := if f.o < 0 then f.op else 12
def kstp (c : Cd) (s : List Int) : Option (List Int) :=
  if c.op = 11 ∨ c.op = 13 then (if 3 ≤ s.length then none else some (c.op :: s))
  else if c.op = 12 then
    match s with
    | [] => none
    | f :: r => if f = 11 then some (12 :: r) else none
  else if c.op = 14 then
    match s with
    | [] => none
    | _ :: r => some r
  else some s
def kst : List Cd → List Int → Option (List Int)
  | [], s => some s
  | c :: r, s =>
    match kstp c s with
    | none => none
    | some s' => kst r s'
theorem kst_append (a b : List Cd) : ∀ s, kst (a ++ b) s = match kst a s with | none => none | some t => kst b t := by
  induction a with
  | nil => intro s; rfl
  | cons c r ih =>
    intro s
    simp only [List.cons_append, kst]
    cases kstp c s with
    | none => rfl
    | some s' => exact ih s'
theorem kstp_kind {k : Nat} {c : Cd} {s : List Fr} (hs : ∀ f ∈ s, f.op = 11 ∨ f.op = 13) : (stp k c s).map (List.map Fr.kind) = kstp c (s.map Fr.kind) := by
  by_cases h1 : c.op = 11 ∨ c.op = 13
  · unfold stp kstp
    rw [if_pos h1, if_pos h1]
    by_cases h2 : 3 ≤ s.length
    · rw [if_pos h2, if_pos (by simpa using h2)]; rfl
    · rw [if_neg h2, if_neg (by simpa using h2)]; rfl
  · by_cases h2 : c.op = 12
    · cases s with
      | nil => rw [stp_else_nil h2]; unfold kstp; rw [if_neg h1, if_pos h2]; rfl
      | cons f r =>
        have hf := hs f (List.mem_cons_self)
        unfold kstp
        rw [if_neg h1, if_pos h2]
        simp only [List.map_cons]
        by_cases h3 : f.op = 11 ∧ f.o < 0
        · rw [stp_else h2 h3, if_pos (by unfold Fr.kind; rw [if_pos h3.2]; exact h3.1)]
          simp only [Option.map_some, List.map_cons, Fr.kind]
          rw [if_neg (by omega)]
        · rw [stp_else_no h2 h3, if_neg (by unfold Fr.kind; split <;> omega)]; rfl
    · by_cases h3 : c.op = 14
      · cases s with
        | nil => rw [stp_end_nil h3]; unfold kstp; rw [if_neg h1, if_neg h2, if_pos h3]; rfl
        | cons f r => rw [stp_end h3]; unfold kstp; rw [if_neg h1, if_neg h2, if_pos h3]; rfl
      · rw [stp_plain h1 h2 h3]; unfold kstp; rw [if_neg h1, if_neg h2, if_neg h3]; rfl
theorem inv_op {cs : List Cd} {k : Nat} {s : List Fr} (h : Inv cs k s) : ∀ f ∈ s, f.op = 11 ∨ f.op = 13 := by
  intro f hf
  obtain ⟨i, hi⟩ := List.mem_iff_getElem?.1 hf
  exact (h.code i f hi).1
theorem kst_stk {cs : List Cd} : ∀ k, k ≤ cs.length → (stk cs k).map (List.map Fr.kind) = kst (cs.take k) [] := by
  intro k
  induction k with
  | zero => intro _; rfl
  | succ k ih =>
    intro hk
    obtain ⟨c, hc⟩ := get_lt (show k < cs.length by omega)
    have ih := ih (by omega)
    rw [take_snoc hc, kst_append, ← ih]
    cases hs : stk cs k with
    | none => rw [stk_none hs _ (Nat.le_succ k)]; rfl
    | some s =>
      rw [stk_succ hc hs, kstp_kind (inv_op (inv_all k s (by omega) hs))]
      simp only [Option.map_some, kst]
      cases kstp c (List.map Fr.kind s) <;> rfl
theorem sOk_kst (cs : List Cd) : sOk cs = true ↔ kst cs [] = some [] := by
  have h := kst_stk (cs := cs) cs.length (Nat.le_refl _)
  rw [List.take_length] at h
  rw [← h]
  unfold sOk
  cases hs : stk cs cs.length with
  | none => simp [closed]
  | some s => cases s <;> simp [closed]
theorem pValid_iff (cs : List Cd) : pValid cs = true ↔ cs.length ≤ 40 ∧ (∀ c ∈ cs, cValid c = true) ∧ kst cs [] = some [] := by
  unfold pValid
  rw [Bool.and_eq_true, Bool.and_eq_true, sOk_kst, decide_eq_true_eq, List.all_eq_true]
theorem kst_under {cs : List Cd} : ∀ {s t : List Int} (u : List Int), kst cs s = some t → kst cs (s ++ u) = none ∨ kst cs (s ++ u) = some (t ++ u) := by
  induction cs with
  | nil => intro s t u h; right; rw [kst] at h ⊢; rw [← Option.some.inj h]
  | cons c r ih =>
    intro s t u h
    rw [kst] at h ⊢
    cases hk : kstp c s with
    | none => rw [hk] at h; cases h
    | some s' =>
      rw [hk] at h
      simp only at h
      have : kstp c (s ++ u) = none ∨ kstp c (s ++ u) = some (s' ++ u) := by
        unfold kstp at hk ⊢
        by_cases h1 : c.op = 11 ∨ c.op = 13
        · rw [if_pos h1] at hk ⊢
          by_cases h2 : 3 ≤ s.length
          · rw [if_pos h2] at hk; cases hk
          · rw [if_neg h2] at hk
            by_cases h3 : 3 ≤ (s ++ u).length
            · rw [if_pos h3]; exact .inl rfl
            · rw [if_neg h3, ← Option.some.inj hk]; exact .inr rfl
        · rw [if_neg h1] at hk ⊢
          by_cases h2 : c.op = 12
          · rw [if_pos h2] at hk ⊢
            cases s with
            | nil => cases hk
            | cons f q =>
              simp only [List.cons_append] at hk ⊢
              by_cases h3 : f = 11
              · rw [if_pos h3] at hk ⊢; rw [← Option.some.inj hk]; exact .inr rfl
              · rw [if_neg h3] at hk; cases hk
          · rw [if_neg h2] at hk ⊢
            by_cases h3 : c.op = 14
            · rw [if_pos h3] at hk ⊢
              cases s with
              | nil => cases hk
              | cons f q =>
                simp only [List.cons_append] at hk ⊢
                rw [← Option.some.inj hk]; exact .inr rfl
            · rw [if_neg h3] at hk ⊢; rw [← Option.some.inj hk]; exact .inr rfl
      rcases this with h0 | h0
      · rw [h0]; exact .inl rfl
      · rw [h0]; exact ih u h

/-- How many instructions have an operation. -/
def cnt (op : Int) (cs : List Cd) : Nat := cs.countP (fun c => c.op == op)
/-- What CountOps returns. -/
def cCount (cs : List Cd) (op : Int) : Int := if pValid cs then cnt op cs else -1
theorem cnt_append (op : Int) (a b : List Cd) : cnt op (a ++ b) = cnt op a + cnt op b := by simp [cnt]
theorem cnt_le (op : Int) (cs : List Cd) : cnt op cs ≤ cs.length := List.countP_le_length
theorem kst_count {cs : List Cd} : ∀ {s t : List Int}, kst cs s = some t → t.length + cnt 14 cs = s.length + cnt 11 cs + cnt 13 cs := by
  induction cs with
  | nil => intro s t h; rw [kst] at h; rw [← Option.some.inj h]; simp [cnt]
  | cons c r ih =>
    intro s t h
    rw [kst] at h
    have e : ∀ op, cnt op (c :: r) = cnt op r + (if c.op = op then 1 else 0) := by intro op; simp [cnt, List.countP_cons]
    rw [e, e, e]
    cases hk : kstp c s with
    | none => rw [hk] at h; cases h
    | some s' =>
      rw [hk] at h
      have ih := ih h
      unfold kstp at hk
      by_cases h1 : c.op = 11 ∨ c.op = 13
      · rw [if_pos h1] at hk
        by_cases h2 : 3 ≤ s.length
        · rw [if_pos h2] at hk; cases hk
        · rw [if_neg h2] at hk
          have hl : s'.length = s.length + 1 := by rw [← Option.some.inj hk]; rfl
          rw [if_neg (show ¬ c.op = 14 by omega)]
          rcases h1 with h1 | h1
          · rw [if_pos h1, if_neg (show ¬ c.op = 13 by omega)]; omega
          · rw [if_pos h1, if_neg (show ¬ c.op = 11 by omega)]; omega
      · rw [if_neg h1] at hk
        rw [if_neg (show ¬ c.op = 11 by omega), if_neg (show ¬ c.op = 13 by omega)]
        by_cases h2 : c.op = 12
        · rw [if_pos h2] at hk
          rw [if_neg (show ¬ c.op = 14 by omega)]
          cases s with
          | nil => cases hk
          | cons f q =>
            simp only at hk
            by_cases h3 : f = 11
            · rw [if_pos h3] at hk
              have hl : s'.length = q.length + 1 := by rw [← Option.some.inj hk]; rfl
              simp only [List.length_cons]; omega
            · rw [if_neg h3] at hk; cases hk
        · rw [if_neg h2] at hk
          by_cases h3 : c.op = 14
          · rw [if_pos h3] at hk ⊢
            cases s with
            | nil => cases hk
            | cons f q =>
              simp only at hk
              have hl : s' = q := (Option.some.inj hk).symm
              subst hl
              simp only [List.length_cons]; omega
          · rw [if_neg h3] at hk ⊢
            rw [← Option.some.inj hk] at ih; omega
/-- The numbers for all operations make the length. -/
theorem cnt_all {cs : List Cd} (h : ∀ c ∈ cs, 1 ≤ c.op ∧ c.op ≤ 14) : cnt 1 cs + cnt 2 cs + cnt 3 cs + cnt 4 cs + cnt 5 cs + cnt 6 cs + cnt 7 cs + cnt 8 cs + cnt 9 cs + cnt 10 cs + cnt 11 cs + cnt 12 cs + cnt 13 cs + cnt 14 cs = cs.length := by
  induction cs with
  | nil => rfl
  | cons c r ih =>
    have e : ∀ op, cnt op (c :: r) = cnt op r + (if c.op = op then 1 else 0) := by intro op; simp [cnt, List.countP_cons]
    have ih := ih (fun d hd => h d (List.mem_cons_of_mem _ hd))
    have hb := h c List.mem_cons_self
    simp only [e, List.length_cons]
    rcases (show c.op = 1 ∨ c.op = 2 ∨ c.op = 3 ∨ c.op = 4 ∨ c.op = 5 ∨ c.op = 6 ∨ c.op = 7 ∨ c.op = 8 ∨ c.op = 9 ∨ c.op = 10 ∨ c.op = 11 ∨ c.op = 12 ∨ c.op = 13 ∨ c.op = 14 by omega) with h | h | h | h | h | h | h | h | h | h | h | h | h | h
    all_goals (rw [h]; simp; omega)

/-- Two valid programs together, if they are not too long, are one. -/
theorem pValid_join {a b : List Cd} (ha : pValid a = true) (hb : pValid b = true) (hl : a.length + b.length ≤ 40) : pValid (a ++ b) = true := by
  rw [pValid_iff] at ha hb ⊢
  refine ⟨by simpa using hl, fun c hc => ?_, ?_⟩
  · rcases List.mem_append.1 hc with h | h
    · exact ha.2.1 c h
    · exact hb.2.1 c h
  · rw [kst_append, ha.2.2]; exact hb.2.2
theorem pValid_nil : pValid [] = true := by rw [pValid_iff]; exact ⟨by simp, by simp, rfl⟩
theorem pValid_more {a : List Cd} (ha : pValid a = true) (x y z : Int) : pValid (a ++ [⟨14, x, y, z⟩]) = false := by
  cases h : pValid (a ++ [⟨14, x, y, z⟩])
  · rfl
  · rw [pValid_iff] at ha h
    have := h.2.2
    rw [kst_append, ha.2.2] at this
    cases this
theorem pValid_left {a : List Cd} (ha : pValid a = true) (x y z : Int) : pValid (⟨11, x, y, z⟩ :: a) = false := by
  cases h : pValid (⟨11, x, y, z⟩ :: a)
  · rfl
  · rw [pValid_iff] at ha h
    have h2 := h.2.2
    have e : kst (⟨11, x, y, z⟩ :: a) [] = kst a [11] := rfl
    rw [e] at h2
    rcases kst_under [11] ha.2.2 with h3 | h3
    · rw [show ([] : List Int) ++ [11] = [11] from rfl] at h3; rw [h3] at h2; cases h2
    · rw [show ([] : List Int) ++ [11] = [11] from rfl] at h3; rw [h3] at h2; cases h2
/-- In how many blocks a place is. -/
def depth (cs : List Cd) (k : Nat) : Nat := match stk cs k with | some s => s.length | none => 0
theorem depth_kst {cs : List Cd} {k : Nat} {t : List Int} (hk : k ≤ cs.length) (h : kst (cs.take k) [] = some t) : depth cs k = t.length := by
  rw [← kst_stk k hk] at h
  unfold depth
  cases hs : stk cs k with
  | none => rw [hs] at h; cases h
  | some s => rw [hs] at h; rw [← Option.some.inj h]; simp
theorem depth_wrap {cs : List Cd} {x y z x' y' z' : Int} (h : pValid (((⟨11, x, y, z⟩ : Cd) :: cs) ++ [(⟨14, x', y', z'⟩ : Cd)]) = true) (hc : pValid cs = true) {k : Nat} (hk : k ≤ cs.length) :
    depth (((⟨11, x, y, z⟩ : Cd) :: cs) ++ [(⟨14, x', y', z'⟩ : Cd)]) (k + 1) = depth cs k + 1 := by
  obtain ⟨s, hs, hi⟩ := pValid_stk hc hk
  obtain ⟨s2, hs2, hi2⟩ := pValid_stk h (k := k + 1) (by simp; omega)
  have e1 := kst_stk (cs := cs) k hk
  rw [hs] at e1
  have e2 := kst_stk (cs := ((⟨11, x, y, z⟩ : Cd) :: cs) ++ [(⟨14, x', y', z'⟩ : Cd)]) (k + 1) (by simp; omega)
  have et : (((⟨11, x, y, z⟩ : Cd) :: cs) ++ [(⟨14, x', y', z'⟩ : Cd)]).take (k + 1) = ⟨11, x, y, z⟩ :: cs.take k := by
    rw [List.cons_append, List.take_succ_cons, List.take_append_of_le_length hk]
  rw [et, hs2] at e2
  have e3 : kst (⟨11, x, y, z⟩ :: cs.take k) [] = kst (cs.take k) [11] := rfl
  rw [e3] at e2
  have hd1 : depth cs k = s.length := by unfold depth; rw [hs]
  have hd2 : depth (((⟨11, x, y, z⟩ : Cd) :: cs) ++ [(⟨14, x', y', z'⟩ : Cd)]) (k + 1) = s2.length := by unfold depth; rw [hs2]
  rw [hd1, hd2]
  rcases kst_under [11] e1.symm with h3 | h3
  · rw [show ([] : List Int) ++ [11] = [11] from rfl] at h3; rw [h3] at e2; cases e2
  · rw [show ([] : List Int) ++ [11] = [11] from rfl] at h3
    rw [h3] at e2
    have := congrArg (Option.map List.length) e2
    simpa using this
theorem depth_le {cs : List Cd} (h : pValid cs = true) {k : Nat} (hk : k ≤ cs.length) : depth cs k ≤ 3 := by
  obtain ⟨s, hs, hi⟩ := pValid_stk h hk
  unfold depth; rw [hs]; exact hi.deep
/-- The block around a place is one less deep. -/
theorem depth_arnd {cs : List Cd} (h : pValid cs = true) {k : Nat} (hk : k ≤ cs.length) : (arnd cs k = -1 ∧ depth cs k = 0) ∨ (∃ n : Nat, arnd cs k = n ∧ n < k ∧ depth cs k = 1 + depth cs n) := by
  obtain ⟨s, hs, hi⟩ := pValid_stk h hk
  rw [arnd_eq hk hs]
  unfold depth; rw [hs]
  cases s with
  | nil => exact .inl ⟨rfl, rfl⟩
  | cons f r =>
    refine .inr ⟨f.p, rfl, hi.lt 0 f rfl, ?_⟩
    have hb := hi.below 0 f rfl
    rw [hb]
    simp; omega

/-- The places of the open blocks fall. -/
theorem inv_fall {cs : List Cd} {k : Nat} {s : List Fr} (hk : k ≤ cs.length) (h : Inv cs k s) : ∀ (i : Nat) (f : Fr), s[i]? = some f → ∀ (j : Nat) (g : Fr), i < j → s[j]? = some g → g.p < f.p := by
  intro i f hf j g hij hg
  have hb := h.below i f hf
  have h2 := inv_all _ _ (by have := h.lt i f hf; omega) hb
  refine h2.lt (j - (i + 1)) g ?_
  rw [List.getElem?_drop, show i + 1 + (j - (i + 1)) = j by omega]
  exact hg
/-- A block that was opened is still open, or it has ended. -/
theorem ended {cs : List Cd} {p : Nat} {S : List Fr} {c : Cd} (hc : cs[p]? = some c) (ho : c.op = 11 ∨ c.op = 13) (hS : stk cs p = some S) :
    ∀ (k : Nat) (s : List Fr), p < k → k ≤ cs.length → stk cs k = some s →
      (∃ (i : Nat) (f : Fr), s[i]? = some f ∧ f.p = p ∧ f.op = c.op) ∨
      (∃ (e : Nat) (f : Fr) (c' : Cd), p < e ∧ e < k ∧ cs[e]? = some c' ∧ c'.op = 14 ∧ stk cs e = some (f :: S) ∧ f.p = p ∧ f.op = c.op ∧ bEnd cs p = ((e : Int), f.o) ∧ ∀ (i : Nat) (g : Fr), s[i]? = some g → g.p ≠ p) := by
  intro k
  induction k with
  | zero => intro s h; omega
  | succ k ih =>
    intro s hpk hk hs
    obtain ⟨d, hd⟩ := get_lt (show k < cs.length by omega)
    obtain ⟨s0, h0⟩ := stk_le hs (Nat.le_succ k)
    have hI := inv_all k s0 (by omega) h0
    rw [stk_succ hd h0] at hs
    by_cases hpe : p = k
    · subst hpe
      rw [hc] at hd
      obtain rfl := Option.some.inj hd
      rw [hS] at h0
      obtain rfl := Option.some.inj h0
      rcases stp_cases hs with ⟨_, _, rfl⟩ | ⟨h1, _⟩ | ⟨h1, _⟩ | ⟨h1, _⟩
      · exact .inl ⟨0, _, rfl, rfl, rfl⟩
      · omega
      · omega
      · exact absurd ho h1
    · rcases ih s0 (by omega) (by omega) h0 with ⟨i, f, hf, hfp, hfo⟩ | ⟨e, f, c', h1, h2, h3, h4, h5, h6, h7, h8, h9⟩
      · rcases stp_cases hs with ⟨_, _, rfl⟩ | ⟨_, g, r, rfl, _, _, rfl⟩ | ⟨he, g, rfl⟩ | ⟨_, _, _, rfl⟩
        · exact .inl ⟨i + 1, f, by simpa using hf, hfp, hfo⟩
        · cases i with
          | zero =>
            obtain rfl := (by simpa using hf : g = f)
            exact .inl ⟨0, _, rfl, hfp, hfo⟩
          | succ i => exact .inl ⟨i + 1, f, by simpa using hf, hfp, hfo⟩
        · cases i with
          | zero =>
            obtain rfl := (by simpa using hf : g = f)
            have hb := hI.below 0 g rfl
            rw [hfp, hS] at hb
            have hb : S = s := by simpa using hb
            subst hb
            refine .inr ⟨k, g, d, by omega, Nat.lt_succ_self k, hd, he, h0, hfp, hfo, ?_, fun j x hx hxp => ?_⟩
            · have hsc := hI.scan 0 g rfl
              rw [hfp] at hsc
              rw [hsc, drop_cons hd, scanE, if_neg (by omega), if_neg (by omega), if_pos ⟨he, rfl⟩]
            · have := inv_fall (by omega) hI 0 g rfl (j + 1) x (by omega) (by simpa using hx)
              omega
          | succ i => exact .inl ⟨i, f, by simpa using hf, hfp, hfo⟩
        · exact .inl ⟨i, f, hf, hfp, hfo⟩
      · refine .inr ⟨e, f, c', h1, by omega, h3, h4, h5, h6, h7, h8, ?_⟩
        intro j x hx hxp
        rcases stp_cases hs with ⟨_, _, rfl⟩ | ⟨_, g, r, rfl, _, _, rfl⟩ | ⟨_, g, rfl⟩ | ⟨_, _, _, rfl⟩
        · cases j with
          | zero => obtain rfl := (by simpa using hx : _ = x); simp only at hxp; omega
          | succ j => exact h9 j x (by simpa using hx) hxp
        · cases j with
          | zero => obtain rfl := (by simpa using hx : _ = x); exact h9 0 g rfl hxp
          | succ j => exact h9 (j + 1) x (by simpa using hx) hxp
        · exact h9 (j + 1) x (by simpa using hx) hxp
        · exact h9 j x hx hxp
/-- The end of a block of a valid program. -/
theorem block_end {cs : List Cd} (h : pValid cs = true) {p : Nat} {c : Cd} (hc : cs[p]? = some c) (ho : c.op = 11 ∨ c.op = 13) :
    ∃ (e : Nat) (f : Fr) (c' : Cd) (S : List Fr), stk cs p = some S ∧ p < e ∧ e < cs.length ∧ cs[e]? = some c' ∧ c'.op = 14 ∧ stk cs e = some (f :: S) ∧ f.p = p ∧ f.op = c.op ∧ bEnd cs p = ((e : Int), f.o) := by
  have hp := (List.getElem?_eq_some_iff.1 hc).1
  obtain ⟨S, hS, _⟩ := pValid_stk h (Nat.le_of_lt hp)
  rcases ended hc ho hS cs.length [] hp (Nat.le_refl _) (pValid_end h) with ⟨i, f, hf, _⟩ | ⟨e, f, c', h1, h2, h3, h4, h5, h6, h7, h8, _⟩
  · simp at hf
  · exact ⟨e, f, c', S, hS, h1, h2, h3, h4, h5, h6, h7, h8⟩
/-- A block that has ended is not opened again. -/
theorem gone {cs : List Cd} {p e : Nat} {S : List Fr} (he : p < e) (hS : stk cs e = some S) (hn : ∀ (i : Nat) (g : Fr), S[i]? = some g → g.p ≠ p) :
    ∀ (k : Nat) (s : List Fr), e ≤ k → k ≤ cs.length → stk cs k = some s → ∀ (i : Nat) (g : Fr), s[i]? = some g → g.p ≠ p := by
  intro k
  induction k with
  | zero => intro s h; omega
  | succ k ih =>
    intro s hek hk hs
    by_cases h0 : e = k + 1
    · subst h0; rw [hS] at hs; obtain rfl := Option.some.inj hs; exact hn
    · obtain ⟨d, hd⟩ := get_lt (show k < cs.length by omega)
      obtain ⟨s0, h1⟩ := stk_le hs (Nat.le_succ k)
      have h9 := ih s0 (by omega) (by omega) h1
      rw [stk_succ hd h1] at hs
      intro j x hx hxp
      rcases stp_cases hs with ⟨_, _, rfl⟩ | ⟨_, g, r, rfl, _, _, rfl⟩ | ⟨_, g, rfl⟩ | ⟨_, _, _, rfl⟩
      · cases j with
        | zero => obtain rfl := (by simpa using hx : _ = x); simp only at hxp; omega
        | succ j => exact h9 j x (by simpa using hx) hxp
      · cases j with
        | zero => obtain rfl := (by simpa using hx : _ = x); exact h9 0 g rfl hxp
        | succ j => exact h9 (j + 1) x (by simpa using hx) hxp
      · exact h9 (j + 1) x (by simpa using hx) hxp
      · exact h9 j x hx hxp
/-- The end of a block that is open at a place lies at that place or behind it. -/
theorem end_behind {cs : List Cd} (h : pValid cs = true) {p : Nat} {c : Cd} (hc : cs[p]? = some c) (ho : c.op = 11 ∨ c.op = 13) {q : Nat} {s : List Fr} (hq : q ≤ cs.length) (hs : stk cs q = some s) {i : Nat} {g : Fr} (hg : s[i]? = some g) (hgp : g.p = p) :
    ∃ (e : Nat) (f : Fr) (c' : Cd) (S : List Fr), stk cs p = some S ∧ q ≤ e ∧ p < e ∧ e < cs.length ∧ cs[e]? = some c' ∧ c'.op = 14 ∧ stk cs e = some (f :: S) ∧ stk cs (e + 1) = some S ∧ f.p = p ∧ f.op = c.op ∧ bEnd cs p = ((e : Int), f.o) := by
  obtain ⟨e, f, c', S, h1, h2, h3, h4, h5, h6, h7, h8, h9⟩ := block_end h hc ho
  have h10 : stk cs (e + 1) = some S := by rw [stk_succ h4 h6]; exact stp_end h5
  refine ⟨e, f, c', S, h1, ?_, h2, h3, h4, h5, h6, h10, h7, h8, h9⟩
  by_cases hlt : q ≤ e
  · exact hlt
  · have hI := inv_all p S (by omega) h1
    exact absurd hgp (gone (p := p) (by omega) h10 (fun i g hg he => by have := hI.lt i g hg; omega) q s (by omega) hq hs i g hg)
end Go.Proofs.YtidmjeehcmpjnaaDoor
