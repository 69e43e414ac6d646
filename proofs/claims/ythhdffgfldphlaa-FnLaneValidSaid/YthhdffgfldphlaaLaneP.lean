/- YthhdffgfldphlaaLaneP: plain laws on lanes: what a step does, that it keeps a lane fit for its program, and that a lane comes to an end. No Go function is walked here. No conditions. -/
import Derived.Test.YthhdffgfldphlaaLane0
import Derived.Test.YthhdffgfldphlaaPgmQ
namespace Go.Proofs.Ythhdffgfldphlaa
open Go.ChangeShapes Go.WideShapes Go.ChangeAt Go.RowKit
set_option linter.unusedVariables false

def codeAt (cs : List Cd) (i : Int) : Cd := (cs[i.toNat]?).getD cd0
theorem codeAt_nat {cs : List Cd} {k : Nat} {c : Cd} (h : cs[k]? = some c) : codeAt cs (k : Int) = c := by simp [codeAt, h]
/-- The places of the loops among open blocks, the outermost first. -/
def loopsOf (s : List Fr) : List Nat := ((s.filter fun f => f.op == 13).map Fr.p).reverse
def stkL (cs : List Cd) (k : Nat) : List Fr := (stk cs k).getD []
theorem stkL_some {cs : List Cd} {k : Nat} {s : List Fr} (h : stk cs k = some s) : stkL cs k = s := by simp [stkL, h]
def loopsAt (cs : List Cd) (k : Nat) : List Nat := loopsOf (stkL cs k)
theorem loopsOf_no {f : Fr} {s : List Fr} (h : f.op ≠ 13) : loopsOf (f :: s) = loopsOf s := by
  unfold loopsOf; rw [List.filter_cons_of_neg (by simpa using h)]
theorem loopsOf_yes {f : Fr} {s : List Fr} (h : f.op = 13) : loopsOf (f :: s) = loopsOf s ++ [f.p] := by
  unfold loopsOf; rw [List.filter_cons_of_pos (by simpa using h)]; simp
def bAt (cs : List Cd) (p : Nat) : Int := (codeAt cs p).b
/-- Do the turns belong to the loops? -/
def turnsB (cs : List Cd) : List Int → List Nat → Bool
  | [], [] => true
  | t :: ts, p :: ps => inB t 0 (bAt cs p - 1) && turnsB cs ts ps
  | _, _ => false
def fourW (r : List Int) : Bool := r.all fun x => inB x 0 255
/-- Is the lane valid for the program? -/
def lValid (l : Ln) (cs : List Cd) : Bool :=
  pValid cs && (inB l.pc 0 cs.length && (decide (l.regs.length = 4) && (fourW l.regs && (turnsB cs l.turns (loopsAt cs l.pc.toNat) && (!l.waits || (decide (0 < l.pc) && ((codeAt cs (l.pc - 1)).op == 10)))))))
def TOK (cs : List Cd) (ts : List Int) (ps : List Nat) : Prop := ts.length = ps.length ∧ ∀ (i : Nat) (t : Int) (p : Nat), ts[i]? = some t → ps[i]? = some p → 0 ≤ t ∧ t ≤ bAt cs p - 1
theorem turnsB_iff (cs : List Cd) : ∀ ts ps, turnsB cs ts ps = true ↔ TOK cs ts ps := by
  intro ts
  induction ts with
  | nil => intro ps; cases ps <;> simp [turnsB, TOK]
  | cons t ts ih =>
    intro ps
    cases ps with
    | nil => simp [turnsB, TOK]
    | cons p ps =>
      rw [turnsB, Bool.and_eq_true, ih ps]
      constructor
      · rintro ⟨h1, h2, h3⟩
        refine ⟨by simp [h2], fun i t' p' ht hp => ?_⟩
        cases i with
        | zero =>
          simp only [List.getElem?_cons_zero, Option.some.injEq] at ht hp
          subst ht hp; exact inB_i h1
        | succ i => exact h3 i t' p' (by simpa using ht) (by simpa using hp)
      · rintro ⟨h2, h3⟩
        exact ⟨inB_t (h3 0 t p rfl rfl), by simpa using h2, fun i t' p' ht hp => h3 (i + 1) t' p' (by simpa using ht) (by simpa using hp)⟩
theorem TOK.snoc {cs : List Cd} {ts : List Int} {ps : List Nat} (h : TOK cs ts ps) {t : Int} {p : Nat} (ht : 0 ≤ t ∧ t ≤ bAt cs p - 1) : TOK cs (ts ++ [t]) (ps ++ [p]) := by
  refine ⟨by simp [h.1], fun i t' p' h1 h2 => ?_⟩
  by_cases hi : i < ts.length
  · rw [List.getElem?_append_left hi] at h1
    rw [List.getElem?_append_left (by rw [← h.1]; exact hi)] at h2
    exact h.2 i t' p' h1 h2
  · have hi2 : i = ts.length := by
      have := (List.getElem?_eq_some_iff.1 h1).1
      simp at this; omega
    subst hi2
    rw [List.getElem?_append_right (Nat.le_refl _)] at h1
    rw [h.1, List.getElem?_append_right (Nat.le_refl _)] at h2
    simp at h1 h2
    subst h1 h2; exact ht
theorem TOK.back {cs : List Cd} {ts : List Int} {ps : List Nat} {p : Nat} (h : TOK cs ts (ps ++ [p])) : ∃ t0 t, ts = t0 ++ [t] ∧ TOK cs t0 ps ∧ 0 ≤ t ∧ t ≤ bAt cs p - 1 := by
  have hne : ts ≠ [] := by rintro rfl; have := h.1; simp at this
  obtain ⟨t0, t, rfl⟩ : ∃ t0 t, ts = t0 ++ [t] := ⟨_, _, (List.dropLast_concat_getLast hne).symm⟩
  have hl : t0.length = ps.length := by have := h.1; simp at this; exact this
  refine ⟨t0, t, rfl, ⟨hl, fun i t' p' h1 h2 => ?_⟩, ?_⟩
  · have hi := (List.getElem?_eq_some_iff.1 h1).1
    exact h.2 i t' p' (by rw [List.getElem?_append_left hi]; exact h1) (by rw [List.getElem?_append_left (by omega)]; exact h2)
  · refine h.2 ps.length _ p ?_ (by rw [List.getElem?_append_right (Nat.le_refl _)]; simp)
    rw [← hl, List.getElem?_append_right (Nat.le_refl _)]; simp

/-- A register's value. -/
def rg (r : List Int) (i : Int) : Int := (r[i.toNat]?).getD 0
/-- A plain instruction, executed. -/
def simple (r m : List Int) (c : Cd) (id : Int) : List Int × List Int :=
  if c.op = 1 then (r.set c.a.toNat c.b, m)
  else if c.op = 2 then (r.set c.a.toNat id, m)
  else if c.op = 3 then (r.set c.a.toNat (wAdd (rg r c.a) (rg r c.b)), m)
  else if c.op = 4 then (r.set c.a.toNat (wMul (rg r c.a) (rg r c.b)), m)
  else if c.op = 5 then (r.set c.a.toNat (rg r c.b), m)
  else if c.op = 6 then (r.set c.a.toNat (wLess (rg r c.b) (rg r c.c)), m)
  else if c.op = 7 then (if rg r c.c = 0 then r else r.set c.a.toNat (rg r c.b), m)
  else if c.op = 8 then (r.set c.a.toNat (rg m (rg r c.b % m.length)), m)
  else if c.op = 9 then (r, m.set (rg r c.b % m.length).toNat (rg r c.a))
  else (r, m)
/-- A step. -/
def lstep (cs : List Cd) (id : Int) (l : Ln) (m : List Int) : Ln × List Int :=
  if (codeAt cs l.pc).op = 10 then (⟨l.regs, l.pc + 1, l.turns, true⟩, m)
  else if (codeAt cs l.pc).op = 11 then
    (⟨l.regs, if rg l.regs (codeAt cs l.pc).a = 0 then (if 0 ≤ (bEnd cs l.pc.toNat).2 then (bEnd cs l.pc.toNat).2 + 1 else (bEnd cs l.pc.toNat).1 + 1) else l.pc + 1, l.turns, false⟩, m)
  else if (codeAt cs l.pc).op = 12 then (⟨l.regs, (bEnd cs (arnd cs l.pc.toNat).toNat).1 + 1, l.turns, false⟩, m)
  else if (codeAt cs l.pc).op = 13 then
    (if rg l.regs (codeAt cs l.pc).a = 0 then ⟨l.regs, (bEnd cs l.pc.toNat).1 + 1, l.turns, false⟩ else ⟨l.regs, l.pc + 1, l.turns ++ [(codeAt cs l.pc).b - 1], false⟩, m)
  else if (codeAt cs l.pc).op = 14 then
    (if (codeAt cs (arnd cs l.pc.toNat)).op = 13 then
      (if 0 < rg l.turns (l.turns.length - 1 : Int) ∧ rg l.regs (codeAt cs (arnd cs l.pc.toNat)).a ≠ 0 then
        ⟨l.regs, arnd cs l.pc.toNat + 1, l.turns.set (l.turns.length - 1) (rg l.turns (l.turns.length - 1 : Int) - 1), false⟩
       else ⟨l.regs, l.pc + 1, l.turns.take (l.turns.length - 1), false⟩)
     else ⟨l.regs, l.pc + 1, l.turns, false⟩, m)
  else (⟨(simple l.regs m (codeAt cs l.pc) id).1, l.pc + 1, l.turns, false⟩, (simple l.regs m (codeAt cs l.pc) id).2)

structure LOK (cs : List Cd) (l : Ln) : Prop where
  pc : 0 ≤ l.pc ∧ l.pc ≤ cs.length
  len : l.regs.length = 4
  regs : ∀ x ∈ l.regs, 0 ≤ x ∧ x ≤ 255
  turns : TOK cs l.turns (loopsAt cs l.pc.toNat)
def MOK (m : List Int) : Prop := (1 ≤ m.length ∧ m.length ≤ 32) ∧ ∀ x ∈ m, 0 ≤ x ∧ x ≤ 255

theorem rg_bd {r : List Int} (h : ∀ x ∈ r, 0 ≤ x ∧ x ≤ 255) (i : Int) : 0 ≤ rg r i ∧ rg r i ≤ 255 := by
  unfold rg
  cases hx : r[i.toNat]? with
  | none => simp
  | some x => exact h x (List.mem_of_getElem? hx)
theorem all_set {r : List Int} (h : ∀ x ∈ r, 0 ≤ x ∧ x ≤ 255) {y : Int} (hy : 0 ≤ y ∧ y ≤ 255) (i : Nat) : ∀ x ∈ r.set i y, 0 ≤ x ∧ x ≤ 255 := by
  intro x hx
  rcases List.mem_or_eq_of_mem_set hx with hx | rfl
  · exact h x hx
  · exact hy
theorem wAddL_in {x y : Int} (hx : 0 ≤ x ∧ x ≤ 255) (hy : 0 ≤ y ∧ y ≤ 255) : 0 ≤ wAdd x y ∧ wAdd x y ≤ 255 := by
  unfold wAdd; rw [inB_t hx, inB_t hy]; simp only [Bool.and_self, if_true]; omega
theorem wMul_in {x y : Int} (hx : 0 ≤ x ∧ x ≤ 255) (hy : 0 ≤ y ∧ y ≤ 255) : 0 ≤ wMul x y ∧ wMul x y ≤ 255 := by
  unfold wMul; rw [inB_t hx, inB_t hy]; simp only [Bool.and_self, if_true]; omega
theorem wLess_in {x y : Int} (hx : 0 ≤ x ∧ x ≤ 255) (hy : 0 ≤ y ∧ y ≤ 255) : 0 ≤ wLess x y ∧ wLess x y ≤ 255 := by
  unfold wLess; rw [inB_t hx, inB_t hy]; simp only [Bool.and_self, if_true]; split <;> omega
theorem simple_ok {r m : List Int} {c : Cd} {id : Int} (hr : ∀ x ∈ r, 0 ≤ x ∧ x ≤ 255) (hm : MOK m) (hc : cValid c = true) (hid : 0 ≤ id ∧ id ≤ 7) :
    (simple r m c id).1.length = r.length ∧ (∀ x ∈ (simple r m c id).1, 0 ≤ x ∧ x ≤ 255) ∧ MOK (simple r m c id).2 := by
  obtain ⟨_, _, _, _, hb0, hb1, _⟩ := cValid_bd hc
  have R := rg_bd hr
  have M := rg_bd hm.2
  unfold simple
  split
  · exact ⟨by simp, all_set hr ⟨hb0, hb1⟩ _, hm⟩
  split
  · exact ⟨by simp, all_set hr (by omega) _, hm⟩
  split
  · exact ⟨by simp, all_set hr (wAddL_in (R _) (R _)) _, hm⟩
  split
  · exact ⟨by simp, all_set hr (wMul_in (R _) (R _)) _, hm⟩
  split
  · exact ⟨by simp, all_set hr (R _) _, hm⟩
  split
  · exact ⟨by simp, all_set hr (wLess_in (R _) (R _)) _, hm⟩
  split
  · refine ⟨?_, ?_, hm⟩
    · split <;> simp
    · split
      · exact hr
      · exact all_set hr (R _) _
  split
  · exact ⟨by simp, all_set hr (M _) _, hm⟩
  split
  · exact ⟨rfl, hr, ⟨by rw [List.length_set]; exact hm.1, all_set hm.2 (R _) _⟩⟩
  · exact ⟨rfl, hr, hm⟩

/-- How far a lane is from its end: its loops and turns, the outermost first. -/
def radix : Nat → Nat
  | 0 => 1
  | d + 1 => 250 * radix d
def far (n : Nat) : Nat → List (Nat × Int) → Nat → Nat
  | d, [], pc => (n - pc + 1) * radix d
  | 0, _ :: _, _ => 0
  | d + 1, (p, t) :: r, pc => (n - p) * radix (d + 1) + t.toNat * (50 * radix d) + far n d r pc
theorem radix_pos (d : Nat) : 0 < radix d := by induction d with | zero => decide | succ d ih => unfold radix; omega
theorem far_le {n : Nat} (hn : n ≤ 40) : ∀ (d : Nat) (L : List (Nat × Int)) (pc : Nat), L.length ≤ d → (∀ q ∈ L, q.2 ≤ 3) → far n d L pc ≤ 41 * radix d := by
  intro d
  induction d with
  | zero =>
    intro L pc hl _
    obtain rfl := List.eq_nil_of_length_eq_zero (Nat.le_zero.1 hl)
    rw [far]
    exact Nat.mul_le_mul_right _ (by omega)
  | succ d ih =>
    intro L pc hl ht
    cases L with
    | nil => rw [far]; exact Nat.mul_le_mul_right _ (by omega)
    | cons q r =>
      obtain ⟨p, t⟩ := q
      rw [far]
      have h1 := ih r pc (by simpa using hl) (fun q hq => ht q (List.mem_cons_of_mem _ hq))
      have h2 : t ≤ 3 := ht (p, t) List.mem_cons_self
      have h3 : (n - p) * radix (d + 1) ≤ 40 * radix (d + 1) := Nat.mul_le_mul_right _ (by omega)
      have h4 : t.toNat * (50 * radix d) ≤ 3 * (50 * radix d) := Nat.mul_le_mul_right _ (by omega)
      have h5 : radix (d + 1) = 250 * radix d := rfl
      omega
theorem far_on {n : Nat} : ∀ (d : Nat) (L : List (Nat × Int)) (pc pc' : Nat), L.length ≤ d → pc < pc' → pc' ≤ n → far n d L pc' < far n d L pc := by
  intro d
  induction d with
  | zero =>
    intro L pc pc' hl h1 h2
    obtain rfl := List.eq_nil_of_length_eq_zero (Nat.le_zero.1 hl)
    rw [far, far]
    exact Nat.mul_lt_mul_of_pos_right (by omega) (radix_pos _)
  | succ d ih =>
    intro L pc pc' hl h1 h2
    cases L with
    | nil => rw [far, far]; exact Nat.mul_lt_mul_of_pos_right (by omega) (radix_pos _)
    | cons q r =>
      obtain ⟨p, t⟩ := q
      rw [far, far]
      have := ih r pc pc' (by simpa using hl) h1 h2
      omega
/-- Under common outer loops what is less inside is less. -/
theorem far_under {n : Nat} (A B : List (Nat × Int)) (pc pc' : Nat) : ∀ (d : Nat) (L : List (Nat × Int)), (L ++ A).length ≤ d → (L ++ B).length ≤ d → (∀ e, A.length ≤ e → B.length ≤ e → far n e A pc' < far n e B pc) → far n d (L ++ A) pc' < far n d (L ++ B) pc := by
  intro d L
  induction L generalizing d with
  | nil => intro h1 h2 h; exact h d h1 h2
  | cons q r ih =>
    intro h1 h2 h
    obtain ⟨p, t⟩ := q
    cases d with
    | zero => simp at h1
    | succ d =>
      rw [List.cons_append, List.cons_append, far, far]
      have := ih d (by simp at h1 ⊢; omega) (by simp at h2 ⊢; omega) h
      omega
theorem far_enter {n pc : Nat} (hn : n ≤ 40) (hp : pc < n) {t : Int} (ht : t ≤ 3) : ∀ e, [(pc, t)].length ≤ e → ([] : List (Nat × Int)).length ≤ e → far n e [(pc, t)] (pc + 1) < far n e [] pc := by
  intro e h _
  cases e with
  | zero => simp at h
  | succ e =>
    rw [far, far, far]
    have h1 : t.toNat * (50 * radix e) ≤ 3 * (50 * radix e) := Nat.mul_le_mul_right _ (by omega)
    have h2 : (n - (pc + 1) + 1) * radix e ≤ 40 * radix e := Nat.mul_le_mul_right _ (by omega)
    have h3 : (n - pc + 1) * radix (e + 1) = (n - pc) * radix (e + 1) + radix (e + 1) := Nat.succ_mul _ _
    have h4 : radix (e + 1) = 250 * radix e := rfl
    have := radix_pos e
    omega
theorem far_again {n p pc : Nat} (hn : n ≤ 40) {t : Int} (ht : 0 < t) : ∀ e, [(p, t - 1)].length ≤ e → [(p, t)].length ≤ e → far n e [(p, t - 1)] (p + 1) < far n e [(p, t)] pc := by
  intro e h _
  cases e with
  | zero => simp at h
  | succ e =>
    rw [far, far, far, far]
    have h0 : t.toNat = (t - 1).toNat + 1 := by omega
    have h1 : t.toNat * (50 * radix e) = (t - 1).toNat * (50 * radix e) + 50 * radix e := by rw [h0]; exact Nat.succ_mul _ _
    have h2 : (n - (p + 1) + 1) * radix e ≤ 41 * radix e := Nat.mul_le_mul_right _ (by omega)
    have := radix_pos e
    omega
theorem far_leave {n p pc : Nat} (hp : p < pc) (hpc : pc < n) {t : Int} : ∀ e, ([] : List (Nat × Int)).length ≤ e → [(p, t)].length ≤ e → far n e [] (pc + 1) < far n e [(p, t)] pc := by
  intro e _ h
  cases e with
  | zero => simp at h
  | succ e =>
    rw [far, far, far]
    have h2 : (n - (pc + 1) + 1) * radix (e + 1) ≤ (n - p) * radix (e + 1) := Nat.mul_le_mul_right _ (by omega)
    have h3 : 0 < (n - pc + 1) * radix e := Nat.mul_pos (by omega) (radix_pos e)
    omega

def lfar (cs : List Cd) (l : Ln) : Nat := far cs.length 3 ((loopsAt cs l.pc.toNat).zip l.turns) l.pc.toNat
theorem zip_snoc {ps : List Nat} {ts : List Int} (h : ts.length = ps.length) (p : Nat) (t : Int) : (ps ++ [p]).zip (ts ++ [t]) = ps.zip ts ++ [(p, t)] := by
  rw [List.zip_append h.symm]; rfl
theorem loops_len {s : List Fr} (h : s.length ≤ 3) : (loopsOf s).length ≤ 3 := by
  unfold loopsOf
  rw [List.length_reverse, List.length_map]
  exact Nat.le_trans (List.length_filter_le _ _) h
theorem loopsAt_eq {cs : List Cd} {k : Nat} {s : List Fr} (h : stk cs k = some s) : loopsAt cs k = loopsOf s := by unfold loopsAt; rw [stkL_some h]

/-- A lane goes on at a later place within the same loops. -/
theorem go_on {cs : List Cd} {l : Ln} (hl : LOK cs l) {s : List Fr} (hs : stk cs l.pc.toNat = some s) (hd : s.length ≤ 3) {k : Nat} {s' : List Fr} (hs' : stk cs k = some s') (he : loopsOf s' = loopsOf s) (hlt : l.pc.toNat < k) (hk : k ≤ cs.length) (r : List Int) (hr : r.length = 4 ∧ ∀ x ∈ r, 0 ≤ x ∧ x ≤ 255) (b : Bool) :
    LOK cs ⟨r, k, l.turns, b⟩ ∧ lfar cs ⟨r, k, l.turns, b⟩ < lfar cs l := by
  have h1 := hl.turns
  rw [loopsAt_eq hs] at h1
  have hkk : ((k : Int)).toNat = k := Int.toNat_natCast k
  refine ⟨⟨⟨by simp, by simp; omega⟩, hr.1, hr.2, ?_⟩, ?_⟩
  · show TOK cs l.turns (loopsAt cs ((k : Int)).toNat)
    rw [hkk, loopsAt_eq hs', he]; exact h1
  · unfold lfar
    show far cs.length 3 ((loopsAt cs ((k : Int)).toNat).zip l.turns) ((k : Int)).toNat < _
    rw [hkk, loopsAt_eq hs', he, loopsAt_eq hs]
    refine far_on 3 _ _ _ ?_ hlt hk
    rw [List.length_zip]
    have := loops_len hd
    omega
set_option maxHeartbeats 1000000 in
theorem step_ok {cs : List Cd} {l : Ln} {m : List Int} {id : Int} (hp : pValid cs = true) (hl : LOK cs l) (hm : MOK m) (hid : 0 ≤ id ∧ id ≤ 7) (hlt : l.pc < cs.length) :
    LOK cs (lstep cs id l m).1 ∧ MOK (lstep cs id l m).2 ∧ lfar cs (lstep cs id l m).1 < lfar cs l := by
  obtain ⟨q, hq⟩ : ∃ q : Nat, l.pc = q := ⟨l.pc.toNat, by have := hl.pc; omega⟩
  have hqt : l.pc.toNat = q := by omega
  have hql : q < cs.length := by omega
  have h40 := pValid_len hp
  obtain ⟨c, hc⟩ := get_lt hql
  have hcv := pValid_code hp hc
  obtain ⟨s, hs, hI⟩ := pValid_stk hp (Nat.le_of_lt hql)
  obtain ⟨s1, hs1, hI1⟩ := pValid_stk hp (show q + 1 ≤ cs.length by omega)
  have hst := hs1
  rw [stk_succ hc hs] at hst
  have hsq : stk cs l.pc.toNat = some s := by rw [hqt]; exact hs
  have hcode : codeAt cs l.pc = c := by rw [hq]; exact codeAt_nat hc
  have hpc1 : l.pc + 1 = ((q + 1 : Nat) : Int) := by omega
  have hT := hl.turns
  rw [hqt, loopsAt_eq hs] at hT
  have hregs : l.regs.length = 4 ∧ ∀ x ∈ l.regs, 0 ≤ x ∧ x ≤ 255 := ⟨hl.len, hl.regs⟩
  unfold lstep
  rw [hcode, hqt]
  by_cases h10 : c.op = 10
  · rw [if_pos h10, hpc1]
    rw [stp_plain (by omega) (by omega) (by omega)] at hst
    obtain rfl := Option.some.inj hst
    have h := go_on hl hsq hI.deep hs1 rfl (by omega) (by omega) l.regs hregs true
    exact ⟨h.1, hm, h.2⟩
  rw [if_neg h10]
  by_cases h11 : c.op = 11
  · rw [if_pos h11]
    obtain ⟨e, f, c', S, k1, k2, k3, k4, k5, k6, k7, k8, k9⟩ := block_end hp hc (Or.inl h11)
    rw [hs] at k1
    obtain rfl := Option.some.inj k1
    have k10 : stk cs (e + 1) = some s := by rw [stk_succ k4 k6]; exact stp_end k5
    rw [k9]
    by_cases hr : rg l.regs c.a = 0
    · rw [if_pos hr]
      rcases (inv_all e _ (by omega) k6).other 0 f rfl with ho | ⟨_, j, ho, j1, j2, ⟨cj, j3, j4⟩, g, j5, j6⟩
      · rw [if_neg (by simp only; omega)]
        have h := go_on hl hsq hI.deep k10 rfl (by omega) (by omega) l.regs hregs false
        rw [show ((e : Int), f.o).1 + 1 = ((e + 1 : Nat) : Int) from by simp]
        exact ⟨h.1, hm, h.2⟩
      · rw [if_pos (by simp only; omega)]
        obtain ⟨sj, hsj, _⟩ := pValid_stk hp (show j + 1 ≤ cs.length by omega)
        have hst2 := hsj
        rw [stk_succ j3 j5] at hst2
        rcases stp_cases hst2 with ⟨x, _⟩ | ⟨_, f', r', x1, x2, _, x3⟩ | ⟨x, _⟩ | ⟨_, x, _⟩
        · omega
        · simp only [List.cons.injEq] at x1
          obtain ⟨rfl, rfl⟩ := x1
          have h := go_on hl hsq hI.deep hsj (by rw [x3, loopsOf_no (by simp only; omega)]; simp) (by omega) (by omega) l.regs hregs false
          rw [show ((e : Int), f.o).2 + 1 = ((j + 1 : Nat) : Int) from by simp; omega]
          exact ⟨h.1, hm, h.2⟩
        · omega
        · omega
    · rw [if_neg hr, hpc1]
      rcases stp_cases hst with ⟨_, _, rfl⟩ | ⟨x, _⟩ | ⟨x, _⟩ | ⟨x, _⟩
      · have h := go_on hl hsq hI.deep hs1 (loopsOf_no (by simp only; omega)) (by omega) (by omega) l.regs hregs false
        exact ⟨h.1, hm, h.2⟩
      · omega
      · omega
      · omega
  rw [if_neg h11]
  by_cases h12 : c.op = 12
  · rw [if_pos h12]
    rcases stp_cases hst with ⟨x, _⟩ | ⟨_, f, r, rfl, x2, x3, x4⟩ | ⟨x, _⟩ | ⟨_, x, _⟩
    · omega
    · obtain ⟨_, cf, y1, y2⟩ := hI.code 0 f rfl
      obtain ⟨e, f', c', S, k1, k1b, k2, k3, k4, k5, k6, k10, k7, k8, k9⟩ := end_behind hp y1 (by rw [y2]; exact Or.inl x2) (Nat.le_of_lt hql) hs (i := 0) rfl rfl
      have hb := hI.below 0 f rfl
      rw [k1] at hb
      have hb : S = r := by simpa using hb
      subst hb
      rw [arnd_eq (Nat.le_of_lt hql) hs]
      have h := go_on hl hsq hI.deep k10 (loopsOf_no (f := f) (s := S) (by omega)).symm (by omega) (by omega) l.regs hregs false
      rw [show (bEnd cs (topP (f :: S)[0]?).toNat).1 + 1 = ((e + 1 : Nat) : Int) from by show (bEnd cs ((f.p : Int)).toNat).1 + 1 = _; rw [Int.toNat_natCast, k9]; simp]
      exact ⟨h.1, hm, h.2⟩
    · omega
    · omega
  rw [if_neg h12]
  by_cases h13 : c.op = 13
  · rw [if_pos h13]
    obtain ⟨_, _, _, _, _, _, _, _, _, hb4⟩ := cValid_bd hcv
    have hb4 := hb4 h13
    by_cases hr : rg l.regs c.a = 0
    · rw [if_pos hr]
      obtain ⟨e, f, c', S, k1, k2, k3, k4, k5, k6, k7, k8, k9⟩ := block_end hp hc (Or.inr h13)
      rw [hs] at k1
      obtain rfl := Option.some.inj k1
      have k10 : stk cs (e + 1) = some s := by rw [stk_succ k4 k6]; exact stp_end k5
      have h := go_on hl hsq hI.deep k10 rfl (by omega) (by omega) l.regs hregs false
      rw [k9, show ((e : Int), f.o).1 + 1 = ((e + 1 : Nat) : Int) from by simp]
      exact ⟨h.1, hm, h.2⟩
    · rw [if_neg hr, hpc1]
      rcases stp_cases hst with ⟨_, hsl, rfl⟩ | ⟨x, _⟩ | ⟨x, _⟩ | ⟨x, _⟩
      · have hlo : loopsAt cs (q + 1) = loopsOf s ++ [q] := by rw [loopsAt_eq hs1, loopsOf_yes h13]
        have hkk : (((q + 1 : Nat) : Int)).toNat = q + 1 := Int.toNat_natCast _
        refine ⟨⟨⟨by simp only; omega, by simp only; omega⟩, hl.len, hl.regs, ?_⟩, hm, ?_⟩
        · show TOK cs (l.turns ++ [c.b - 1]) (loopsAt cs (((q + 1 : Nat) : Int)).toNat)
          rw [hkk, hlo]
          exact hT.snoc (by unfold bAt; rw [codeAt_nat hc]; omega)
        · unfold lfar
          show far cs.length 3 ((loopsAt cs (((q + 1 : Nat) : Int)).toNat).zip (l.turns ++ [c.b - 1])) (((q + 1 : Nat) : Int)).toNat < _
          rw [hkk, hlo, hqt, loopsAt_eq hs, zip_snoc hT.1]
          have hll : ((loopsOf s).zip l.turns).length ≤ 2 := by
            rw [List.length_zip]
            have : (loopsOf s).length ≤ s.length := by unfold loopsOf; rw [List.length_reverse, List.length_map]; exact List.length_filter_le _ _
            omega
          have := far_under (n := cs.length) [(q, c.b - 1)] [] q (q + 1) 3 ((loopsOf s).zip l.turns) (by rw [List.length_append]; simp only [List.length_cons, List.length_nil]; omega) (by rw [List.length_append]; simp only [List.length_nil]; omega) (far_enter h40 hql (by omega))
          simpa using this
      · omega
      · omega
      · omega
  rw [if_neg h13]
  by_cases h14 : c.op = 14
  · rw [if_pos h14]
    rcases stp_cases hst with ⟨x, _⟩ | ⟨x, _⟩ | ⟨_, f, rfl⟩ | ⟨_, _, x, _⟩
    · omega
    · omega
    · obtain ⟨yo, cf, y1, y2⟩ := hI.code 0 f rfl
      have hfp := hI.lt 0 f rfl
      have har : arnd cs q = f.p := by rw [arnd_eq (Nat.le_of_lt hql) hs]; rfl
      have hcf : codeAt cs (arnd cs q) = cf := by rw [har]; exact codeAt_nat y1
      rw [hcf, har]
      by_cases hf : cf.op = 13
      · rw [if_pos hf]
        have hT2 := hT
        rw [loopsOf_yes (by omega)] at hT2
        obtain ⟨t0, t, he, ht0, htb⟩ := hT2.back
        have hlen : l.turns.length = t0.length + 1 := by rw [he]; simp
        have hlast : rg l.turns (l.turns.length - 1 : Int) = t := by
          unfold rg
          rw [show (l.turns.length - 1 : Int).toNat = t0.length by omega, he, List.getElem?_append_right (Nat.le_refl _)]; simp
        have hll : ((loopsOf s1).zip t0).length ≤ 2 := by
          rw [List.length_zip]
          have h1 : (loopsOf s1).length ≤ s1.length := by unfold loopsOf; rw [List.length_reverse, List.length_map]; exact List.length_filter_le _ _
          have h2 := hI.deep
          simp only [List.length_cons] at h2
          omega
        rw [hlast]
        by_cases hag : 0 < t ∧ rg l.regs cf.a ≠ 0
        · rw [if_pos hag]
          have hb := hI.below 0 f rfl
          have hb : stk cs f.p = some s1 := by simpa using hb
          have hs2 : stk cs (f.p + 1) = some (⟨f.p, cf.op, -1⟩ :: s1) := by
            rw [stk_succ y1 hb]
            exact stp_open (Or.inr hf) (by have h2 := hI.deep; simp only [List.length_cons] at h2; omega)
          have hlo : loopsAt cs (f.p + 1) = loopsOf s1 ++ [f.p] := by rw [loopsAt_eq hs2, loopsOf_yes hf]
          have hkk : ((f.p : Int) + 1).toNat = f.p + 1 := by omega
          have hset : l.turns.set (l.turns.length - 1) (t - 1) = t0 ++ [t - 1] := by
            rw [show l.turns.length - 1 = t0.length by omega, he, List.set_append_right _ _ (Nat.le_refl _)]; simp
          rw [hset]
          refine ⟨⟨⟨by simp only; omega, by simp only; omega⟩, hl.len, hl.regs, ?_⟩, hm, ?_⟩
          · show TOK cs (t0 ++ [t - 1]) (loopsAt cs ((f.p : Int) + 1).toNat)
            rw [hkk, hlo]
            exact ht0.snoc (by omega)
          · unfold lfar
            show far cs.length 3 ((loopsAt cs ((f.p : Int) + 1).toNat).zip (t0 ++ [t - 1])) ((f.p : Int) + 1).toNat < _
            rw [hkk, hlo, hqt, loopsAt_eq hs, loopsOf_yes (by omega), zip_snoc ht0.1]
            conv => rhs; rw [he, zip_snoc ht0.1]
            exact far_under (n := cs.length) [(f.p, t - 1)] [(f.p, t)] q (f.p + 1) 3 ((loopsOf s1).zip t0) (by simp at hll ⊢; omega) (by simp at hll ⊢; omega) (far_again h40 hag.1)
        · rw [if_neg hag, hpc1]
          have htk : l.turns.take (l.turns.length - 1) = t0 := by
            rw [show l.turns.length - 1 = t0.length by omega, he, List.take_append_of_le_length (Nat.le_refl _), List.take_length]
          have hkk : (((q + 1 : Nat) : Int)).toNat = q + 1 := Int.toNat_natCast _
          rw [htk]
          refine ⟨⟨⟨by simp only; omega, by simp only; omega⟩, hl.len, hl.regs, ?_⟩, hm, ?_⟩
          · show TOK cs t0 (loopsAt cs (((q + 1 : Nat) : Int)).toNat)
            rw [hkk, loopsAt_eq hs1]
            exact ht0
          · unfold lfar
            show far cs.length 3 ((loopsAt cs (((q + 1 : Nat) : Int)).toNat).zip t0) (((q + 1 : Nat) : Int)).toNat < _
            rw [hkk, loopsAt_eq hs1, hqt, loopsAt_eq hs, loopsOf_yes (by omega)]
            conv => rhs; rw [he, zip_snoc ht0.1]
            have := far_under (n := cs.length) [] [(f.p, t)] q (q + 1) 3 ((loopsOf s1).zip t0) (by simp at hll ⊢; omega) (by simp at hll ⊢; omega) (far_leave hfp hql)
            simpa using this
      · rw [if_neg hf, hpc1]
        have h := go_on hl hsq hI.deep hs1 (loopsOf_no (f := f) (s := s1) (by omega)).symm (by omega) (by omega) l.regs hregs false
        exact ⟨h.1, hm, h.2⟩
    · omega
  rw [if_neg h14, hpc1]
  rw [stp_plain (by omega) (by omega) (by omega)] at hst
  obtain rfl := Option.some.inj hst
  have hsi := simple_ok (c := c) hl.regs hm hcv hid
  have h := go_on hl hsq hI.deep hs1 rfl (by omega) (by omega) (simple l.regs m c id).1 ⟨by rw [hsi.1]; exact hl.len, hsi.2.1⟩ false
  exact ⟨h.1, hsi.2.2, h.2⟩
end Go.Proofs.Ythhdffgfldphlaa
