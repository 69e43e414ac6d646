/- YtjipalpachcamaaLawQ: plain laws on places and counts, in the form in which the laws use them. No Go function is walked here. No conditions. -/
import Derived.Test.YtjipalpachcamaaPgmB
namespace Go.Proofs.Ytjipalpachcamaa
open Go.ChangeShapes Go.WideShapes Go.ChangeAt Go.RowKit
set_option linter.unusedVariables false
theorem spot_cases (cs : List Cd) (i : Int) : (bDepth cs i = -1 ∧ bAround cs i = -1) ∨ (∃ p : Nat, i = p ∧ p < cs.length ∧ pValid cs = true ∧ bDepth cs i = depth cs p ∧ bAround cs i = arnd cs p) := by
  cases hv : pValid cs with
  | false => exact .inl ⟨(around_no1 i hv).2.1, (around_no1 i hv).1⟩
  | true =>
    cases hp : inP cs i with
    | false => exact .inl ⟨(around_no2 hp).2.1, (around_no2 hp).1⟩
    | true =>
      obtain ⟨p, rfl, h⟩ := inP_nat hp
      have := around_yes hv hp
      exact .inr ⟨p, rfl, h, rfl, this.2, this.1⟩
theorem depth_at {cs : List Cd} {p : Nat} (hv : pValid cs = true) (hp : p < cs.length) : bDepth cs (p : Int) = depth cs p ∧ bAround cs (p : Int) = arnd cs p := by
  have h : inP cs p = true := inB_t (by omega)
  have := around_yes hv h
  exact ⟨this.2, this.1⟩
theorem ends_cases (cs : List Cd) (i : Int) : bEnds cs i = (-1, -1) ∨ (∃ (p : Nat) (c : Cd), i = p ∧ p < cs.length ∧ pValid cs = true ∧ cs[p]? = some c ∧ (c.op = 11 ∨ c.op = 13) ∧ bEnds cs i = bEnd cs p) := by
  cases hv : pValid cs with
  | false => exact .inl (around_no1 i hv).2.2
  | true =>
    cases hp : inP cs i with
    | false => exact .inl (around_no2 hp).2.2
    | true =>
      obtain ⟨p, rfl, h⟩ := inP_nat hp
      obtain ⟨c, hc⟩ := get_lt h
      by_cases ho : c.op = 11 ∨ c.op = 13
      · exact .inr ⟨p, c, rfl, h, rfl, hc, ho, ends_yes hv hp hc (isOp_t ho)⟩
      · exact .inl (ends_no hc (isOp_f ho))
theorem ends_at {cs : List Cd} {p : Nat} {c : Cd} (hv : pValid cs = true) (hc : cs[p]? = some c) (ho : c.op = 11 ∨ c.op = 13) : bEnds cs (p : Int) = bEnd cs p := by
  have hp := (List.getElem?_eq_some_iff.1 hc).1
  exact ends_yes hv (inB_t (by omega)) hc (isOp_t ho)
/-- The end of a block, its other place, and what is around them. -/
theorem block_law {cs : List Cd} {p : Nat} {c : Cd} (hv : pValid cs = true) (hc : cs[p]? = some c) (ho : c.op = 11 ∨ c.op = 13) :
    ∃ (e : Nat) (o : Int) (c' : Cd), bEnd cs p = ((e : Int), o) ∧ p < e ∧ e < cs.length ∧ cs[e]? = some c' ∧ c'.op = 14 ∧ arnd cs e = p ∧
      (o = -1 ∨ ∃ (j : Nat) (d : Cd), o = j ∧ p < j ∧ j < e ∧ cs[j]? = some d ∧ d.op = 12 ∧ c.op = 11 ∧ arnd cs j = p) := by
  obtain ⟨e, f, c', S, k1, k2, k3, k4, k5, k6, k7, k8, k9⟩ := block_end hv hc ho
  refine ⟨e, f.o, c', k9, k2, k3, k4, k5, ?_, ?_⟩
  · rw [arnd_eq (Nat.le_of_lt k3) k6]; show (f.p : Int) = p; rw [k7]
  · rcases (inv_all e _ (Nat.le_of_lt k3) k6).other 0 f rfl with h | ⟨h1, j, h2, h3, h4, ⟨d, h5, h6⟩, g, h7, h8⟩
    · exact .inl h
    · refine .inr ⟨j, d, h2, by omega, h4, h5, h6, by omega, ?_⟩
      rw [arnd_eq (by omega) h7]; show (g.p : Int) = p; omega
/-- Blocks inside that open behind the innermost block around a place have ended ahead of it; that block ends behind it. -/
theorem around_ends {cs : List Cd} {q n : Nat} (hv : pValid cs = true) (hq : q < cs.length) (ha : arnd cs q = n) :
    n < q ∧ (∃ c, cs[n]? = some c ∧ (c.op = 11 ∨ c.op = 13) ∧ (q : Int) ≤ (bEnd cs n).1) ∧ ∀ (k : Nat) (c : Cd), n < k → k < q → cs[k]? = some c → (c.op = 11 ∨ c.op = 13) → (bEnd cs k).1 < q := by
  obtain ⟨s, hs, hI⟩ := pValid_stk hv (Nat.le_of_lt hq)
  rw [arnd_eq (Nat.le_of_lt hq) hs] at ha
  cases s with
  | nil => have ha : (-1 : Int) = n := ha; omega
  | cons f r =>
    have ha : (f.p : Int) = n := ha
    have hfn : f.p = n := by omega
    obtain ⟨hfo, cf, hcf, hcfo⟩ := hI.code 0 f rfl
    have hlt := hI.lt 0 f rfl
    rw [hfn] at hcf hlt
    have hcfo2 : cf.op = 11 ∨ cf.op = 13 := by rw [hcfo]; exact hfo
    refine ⟨hlt, ⟨cf, hcf, hcfo2, ?_⟩, fun k c hk1 hk2 hc ho => ?_⟩
    · obtain ⟨e, f', c', S, _, h1, _, _, _, _, _, _, _, _, h2⟩ := end_behind hv hcf hcfo2 (Nat.le_of_lt hq) hs (i := 0) rfl hfn
      rw [h2]; show (q : Int) ≤ e; omega
    · obtain ⟨S, hS, _⟩ := pValid_stk hv (show k ≤ cs.length by omega)
      rcases ended hc ho hS q _ hk2 (Nat.le_of_lt hq) hs with ⟨i, g, hg, hgp, _⟩ | ⟨e, g, c', _, h1, _, _, _, _, _, h2, _⟩
      · exfalso
        cases i with
        | zero => simp at hg; subst hg; omega
        | succ i =>
          have := inv_fall (Nat.le_of_lt hq) hI 0 f rfl (i + 1) g (by omega) hg
          omega
      · rw [h2]; show (e : Int) < q; omega
theorem count_join {a b : List Cd} (ha : pValid a = true) (hb : pValid b = true) (hl : a.length + b.length ≤ 40) (op : Int) : cCount (a ++ b) op = cCount a op + cCount b op := by
  have := pValid_join ha hb hl
  simp only [cCount, ha, hb, this, if_true, cnt_append]
  omega
theorem count_yes {a : List Cd} (ha : pValid a = true) (op : Int) : cCount a op = cnt op a ∧ cnt op a ≤ 40 := ⟨by simp [cCount, ha], Nat.le_trans (cnt_le op a) (pValid_len ha)⟩
theorem count_no {a : List Cd} (ha : pValid a = false) (op : Int) : cCount a op = -1 := by simp [cCount, ha]
def sumC (cs : List Cd) : Nat → Nat
  | 0 => 0
  | j + 1 => sumC cs j + cnt ((j + 1 : Nat) : Int) cs
theorem sumC_le {cs : List Cd} (h : pValid cs = true) : ∀ j, sumC cs j ≤ 40 * j
  | 0 => Nat.le_refl _
  | j + 1 => by have := sumC_le h j; have := (count_yes h ((j + 1 : Nat) : Int)).2; unfold sumC; omega
theorem sumC_all {cs : List Cd} (h : pValid cs = true) : sumC cs 14 = cs.length := by
  have hc : ∀ c ∈ cs, 1 ≤ c.op ∧ c.op ≤ 14 := by
    intro c hc
    have := cValid_bd (((pValid_iff cs).1 h).2.1 c hc)
    exact ⟨this.1, this.2.1⟩
  have := cnt_all hc
  simp only [sumC]
  simp
  omega
theorem count_ends {cs : List Cd} (h : pValid cs = true) : cnt 14 cs = cnt 11 cs + cnt 13 cs := by
  have := kst_count ((pValid_iff cs).1 h).2.2
  simpa using this
end Go.Proofs.Ytjipalpachcamaa
