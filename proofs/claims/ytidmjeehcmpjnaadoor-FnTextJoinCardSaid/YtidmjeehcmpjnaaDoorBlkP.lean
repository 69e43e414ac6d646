/- YtidmjeehcmpjnaaDoorBlkP: how the program's table of blocks lies in memory while it is being made; what each step of its making leaves of that. No Go function is walked here. No conditions. -/
import Derived.Test.YtidmjeehcmpjnaaDoorPgmM
import Derived.Test.YtidmjeehcmpjnaaDoorAppS
namespace Go.Proofs.YtidmjeehcmpjnaaDoor
open Go.ChangeShapes Go.WideShapes Go.ChangeAt Go.RowKit
set_option linter.unusedVariables false

def isO (cs : List Cd) (p : Nat) : Prop := ∃ c, cs[p]? = some c ∧ (c.op = 11 ∨ c.op = 13)
def ptr (ad : Nat → Nat) (f : Fr) : Value := .pointer (some ⟨ad f.p, 0, none⟩)
/-- The pointers to the open blocks, the outermost first. -/
def ptrs (ad : Nat → Nat) (s : List Fr) : List Value := (s.map (ptr ad)).reverse
theorem ptrs_length (ad : Nat → Nat) (s : List Fr) : (ptrs ad s).length = s.length := by simp [ptrs]
theorem ptrs_cons (ad : Nat → Nat) (f : Fr) (s : List Fr) : ptrs ad (f :: s) = ptrs ad s ++ [ptr ad f] := by simp [ptrs]
theorem ptrs_top (ad : Nat → Nat) (f : Fr) (s : List Fr) : (ptrs ad (f :: s))[s.length]? = some (ptr ad f) := by rw [ptrs_cons, List.getElem?_append_right (by rw [ptrs_length]; exact Nat.le_refl _)]; simp [ptrs_length]
theorem ptrs_take (ad : Nat → Nat) (f : Fr) (s : List Fr) : (ptrs ad (f :: s)).take s.length = ptrs ad s := by rw [ptrs_cons, List.take_append_of_le_length (by rw [ptrs_length]; exact Nat.le_refl _), List.take_of_length_le (by rw [ptrs_length]; exact Nat.le_refl _)]
theorem ptrs_congr {ad ad' : Nat → Nat} {s : List Fr} (h : ∀ (i : Nat) (f : Fr), s[i]? = some f → ad' f.p = ad f.p) : ptrs ad' s = ptrs ad s := by
  unfold ptrs
  rw [List.map_congr_left (g := ptr ad)]
  intro f hf
  obtain ⟨i, hi⟩ := List.mem_iff_getElem?.1 hf
  unfold ptr; rw [h i f hi]
theorem ptrs_same {ad : Nat → Nat} {s s' : List Fr} (h : s.map Fr.p = s'.map Fr.p) : ptrs ad s = ptrs ad s' := by
  have e : ∀ t : List Fr, t.map (ptr ad) = (t.map Fr.p).map (fun p => Value.pointer (some ⟨ad p, 0, none⟩)) := by intro t; rw [List.map_map]; rfl
  unfold ptrs; rw [e, e, h]
theorem ptrs_one (ad : Nat → Nat) (s : List Fr) : ∀ u ∈ ptrs ad s, u.oneCell' = true := by
  intro u hu
  obtain ⟨f, _, rfl⟩ := List.mem_map.1 (List.mem_reverse.1 hu)
  rfl
def blkO (p : Nat) (o e : Int) : Obj := .cells #[.int .i64 p, .int .i64 o, .int .i64 e] 90 (0, 0)
/-- What own holds for a place: a pointer to the block that is opened, divided or closed there. -/
def ownP (ad : Nat → Nat) (cs : List Cd) (i : Nat) (c : Cd) : Value :=
  if c.op = 11 ∨ c.op = 13 then .pointer (some ⟨ad i, 0, none⟩) else if c.op = 12 ∨ c.op = 14 then .pointer (some ⟨ad (arnd cs i).toNat, 0, none⟩) else .pointer none

structure BkSt (cs : List Cd) (w : World) (A O ka ko k : Nat) (ad role : Nat → Nat) (arV owV : List Value) (wr : World) (u : Value) (s : List Fr) : Prop where
  st : stk cs k = some s
  lo : w.heap.size ≤ A
  aro : wr.ownsRow w.heap.size 79 1 (.slice (some ⟨A, 0, none⟩) cs.length cs.length) cs.length arV
  own : wr.ownsRow w.heap.size 88 1 (.slice (some ⟨O, 0, none⟩) cs.length cs.length) cs.length owV
  stack : wr.ownsRow w.heap.size 88 1 u s.length (ptrs ad s)
  frs : ∀ (i : Nat) (f : Fr), s[i]? = some f → wr.heap[ad f.p]? = some (blkO f.p f.o (-1))
  fin : ∀ p, p < k → isO cs p → (∃ (i : Nat) (f : Fr), s[i]? = some f ∧ f.p = p) ∨ wr.heap[ad p]? = some (blkO p (bEnd cs p).2 (bEnd cs p).1)
  inj : ∀ p q, p < k → q < k → isO cs p → isO cs q → ad p = ad q → p = q
  alo : ∀ p, p < k → isO cs p → w.heap.size ≤ ad p ∧ ad p < wr.heap.size
  arE : ∀ i, i < ka → i < cs.length → ∃ v si, arV[i]? = some v ∧ stk cs i = some si ∧ wr.ownsRow w.heap.size 88 1 v si.length (ptrs ad si) ∧ ∀ b, v.ownBlock = some b → role b = 5
  owE : ∀ i c, i < ko → cs[i]? = some c → owV[i]? = some (ownP ad cs i c)
  owZ : ∀ i, ko ≤ i → i < cs.length → owV[i]? = some (.pointer none)
  rA : role A = 1
  rO : role O = 2
  rS : ∀ b, u.ownBlock = some b → role b = 3
  rB : ∀ p, p < k → isO cs p → role (ad p) = 4
  bel : Below w.heap.size w wr

section
variable {cs : List Cd} {w : World} {A O ka ko k : Nat} {ad role : Nat → Nat} {arV owV : List Value} {wr : World} {u : Value} {s : List Fr}
theorem Wr_set (w1 : World) (g j : Nat) (x : Value) : Wr w1 (w1.setCell ⟨g, j, none⟩ x) (fun b => b = g) :=
  ⟨rfl, rfl, rfl, by simp, fun b _ hb => heap_setCell_other w1 ⟨g, j, none⟩ b x hb⟩
theorem keepRow {w1 w2 : World} {p : Nat → Prop} {base e sz n r : Nat} {v : Value} {xs : List Value} (hw : Wr w1 w2 p) (ho : w1.ownsRow base e sz v n xs) (hr : ∀ b, v.ownBlock = some b → role b = r) (hp : ∀ b, p b → role b ≠ r) : w2.ownsRow base e sz v n xs :=
  hw.owns ho fun b hb hh => hp b hh (hr b hb)
theorem keepBlk {w1 w2 : World} {p : Nat → Prop} {b : Nat} {o : Obj} (hw : Wr w1 w2 p) (hb : w1.heap[b]? = some o) (hp : ¬ p b) : w2.heap[b]? = some o := by
  rw [hw.block b (Array.getElem?_eq_some_iff.1 hb).1 hp]; exact hb
theorem BkSt.inv (h : BkSt cs w A O ka ko k ad role arV owV wr u s) (hk : k ≤ cs.length) : Inv cs k s := inv_all k s hk h.st
theorem BkSt.frO (h : BkSt cs w A O ka ko k ad role arV owV wr u s) (hk : k ≤ cs.length) {i : Nat} {f : Fr} (hf : s[i]? = some f) : f.p < k ∧ isO cs f.p := by
  have hI := h.inv hk
  obtain ⟨h1, c, hc, ho⟩ := hI.code i f hf
  exact ⟨hI.lt i f hf, c, hc, by rw [ho]; exact h1⟩
theorem BkSt.rerole (h : BkSt cs w A O ka ko k ad role arV owV wr u s) (r : Nat → Nat) (hr : ∀ b, b < wr.heap.size → r b = role b) : BkSt cs w A O ka ko k ad r arV owV wr u s := by
  obtain ⟨h1, h2, h3, h4, h5, h6, h7, h8, h9, h10, h11, h12, h13, h14, h15, h16, h17⟩ := h
  refine ⟨h1, h2, h3, h4, h5, h6, h7, h8, h9, ?_, h11, h12, ?_, ?_, ?_, ?_, h17⟩
  · intro i hi hl
    obtain ⟨v, si, a, b, c, d⟩ := h10 i hi hl
    exact ⟨v, si, a, b, c, fun g hg => (hr g (own_lt c g hg)).trans (d g hg)⟩
  · exact (hr A (own_lt h3 A rfl)).trans h13
  · exact (hr O (own_lt h4 O rfl)).trans h14
  · exact fun b hb => (hr b (own_lt h5 b hb)).trans (h15 b hb)
  · exact fun p hp ho => (hr (ad p) (h9 p hp ho).2).trans (h16 p hp ho)
/-- Blocks of role r alone are written, and that role is none of the table's but perhaps the stack's: what stays. -/
theorem BkSt.below (h : BkSt cs w A O ka ko k ad role arV owV wr u s) {w2 : World} (hb : Below wr.heap.size wr w2) : BkSt cs w A O ka ko k ad role arV owV w2 u s := by
  obtain ⟨h1, h2, h3, h4, h5, h6, h7, h8, h9, h10, h11, h12, h13, h14, h15, h16, h17⟩ := h
  have hblk : ∀ {b : Nat} {o : Obj}, wr.heap[b]? = some o → w2.heap[b]? = some o := fun {b o} hh => by
    rw [hb.block b (Array.getElem?_eq_some_iff.1 hh).1]; exact hh
  refine ⟨h1, h2, owns_below h3 hb (Nat.le_refl _), owns_below h4 hb (Nat.le_refl _), owns_below h5 hb (Nat.le_refl _), fun i f hf => hblk (h6 i f hf), ?_, h8, ?_, ?_, h11, h12, h13, h14, h15, h16, ?_⟩
  · intro p hp ho
    rcases h7 p hp ho with h | h
    · exact .inl h
    · exact .inr (hblk h)
  · exact fun p hp ho => ⟨(h9 p hp ho).1, Nat.lt_of_lt_of_le (h9 p hp ho).2 hb.size⟩
  · intro i hi hl
    obtain ⟨v, si, a, b, c, d⟩ := h10 i hi hl
    exact ⟨v, si, a, b, owns_below c hb (Nat.le_refl _), d⟩
  · exact h17.trans (hb.mono h17.size)
theorem BkSt.reAd (h : BkSt cs w A O ka ko k ad role arV owV wr u s) (hk : k ≤ cs.length) (hka : ka ≤ k + 1) (hko : ko ≤ k) (ad' : Nat → Nat) (e : ∀ p, p < k → ad' p = ad p) : BkSt cs w A O ka ko k ad' role arV owV wr u s := by
  have hI := h.inv hk
  have hS := h.st
  obtain ⟨h1, h2, h3, h4, h5, h6, h7, h8, h9, h10, h11, h12, h13, h14, h15, h16, h17⟩ := h
  have eS : ∀ (i : Nat) (si : List Fr), i ≤ k → stk cs i = some si → ptrs ad' si = ptrs ad si := fun i si hi hsi =>
    ptrs_congr fun j f hf => e f.p (by have := (inv_all i si (by omega) hsi).lt j f hf; omega)
  refine ⟨h1, h2, h3, h4, ?_, ?_, ?_, ?_, ?_, ?_, ?_, h12, h13, h14, h15, ?_, h17⟩
  · rw [eS k s (Nat.le_refl _) hS]; exact h5
  · intro i f hf; rw [e f.p (hI.lt i f hf)]; exact h6 i f hf
  · intro p hp ho; rw [e p hp]; exact h7 p hp ho
  · intro p q hp hq ho1 ho2 hh; rw [e p hp, e q hq] at hh; exact h8 p q hp hq ho1 ho2 hh
  · intro p hp ho; rw [e p hp]; exact h9 p hp ho
  · intro i hi hl
    obtain ⟨v, si, a, b, c, d⟩ := h10 i hi hl
    exact ⟨v, si, a, b, by rw [eS i si (by omega) b]; exact c, d⟩
  · intro i c hi hc
    rw [h11 i c hi hc]
    unfold ownP
    by_cases o1 : c.op = 11 ∨ c.op = 13
    · rw [if_pos o1, if_pos o1, e i (by omega)]
    · rw [if_neg o1, if_neg o1]
      by_cases o2 : c.op = 12 ∨ c.op = 14
      · rw [if_pos o2, if_pos o2]
        obtain ⟨si, hsi⟩ := stk_le hS (show i ≤ k by omega)
        rw [arnd_eq (by omega) hsi]
        have hlt : (topP si[0]?).toNat < k := by
          cases hq : si[0]? with
          | none => simp only [topP]; omega
          | some f => have := (inv_all i si (by omega) hsi).lt 0 f hq; simp only [topP]; omega
        rw [e _ hlt]
      · rw [if_neg o2, if_neg o2]
  · intro p hp ho; rw [e p hp]; exact h16 p hp ho
/-- A row of around is put in. -/
theorem BkSt.putAr (h : BkSt cs w A O k ko k ad role arV owV wr u s) {v : Value} (hv : wr.ownsRow w.heap.size 88 1 v s.length (ptrs ad s)) (hr : ∀ b, v.ownBlock = some b → role b = 5) (hk : k < cs.length) :
    BkSt cs w A O (k + 1) ko k ad role (arV.set k v) owV (wr.setCell ⟨A, k, none⟩ v) u s := by
  have hI := h.inv (Nat.le_of_lt hk)
  have hfO := fun {i : Nat} {f : Fr} (hf : s[i]? = some f) => h.frO (Nat.le_of_lt hk) hf
  obtain ⟨h1, h2, h3, h4, h5, h6, h7, h8, h9, h10, h11, h12, h13, h14, h15, h16, h17⟩ := h
  have hw := Wr_set wr A k v
  have hp : ∀ b, b = A → role b = 1 := fun b hb => hb ▸ h13
  have hlen : arV.length = cs.length := by have := h3.1; omega
  have hblk : ∀ {p : Nat} {o : Obj}, p < k → isO cs p → wr.heap[ad p]? = some o → (wr.setCell ⟨A, k, none⟩ v).heap[ad p]? = some o := fun {p o} hp1 ho hh => keepBlk hw hh (fun hA => by have := h16 p hp1 ho; rw [hA, h13] at this; cases this)
  refine ⟨h1, h2, (h3.stored k v).1, keepRow hw h4 (fun b hb => by cases hb; exact h14) (fun b hb => by rw [hp b hb]; decide), keepRow hw h5 h15 (fun b hb => by rw [hp b hb]; decide), ?_, ?_, h8, ?_, ?_, h11, h12, h13, h14, h15, h16, h17.setCell h2 v⟩
  · intro i f hf; exact hblk (hfO hf).1 (hfO hf).2 (h6 i f hf)
  · intro p hp1 ho
    rcases h7 p hp1 ho with hh | hh
    · exact .inl hh
    · exact .inr (hblk hp1 ho hh)
  · intro p hp1 ho; exact ⟨(h9 p hp1 ho).1, by simpa using (h9 p hp1 ho).2⟩
  · intro i hi hl
    by_cases hik : i = k
    · subst hik
      exact ⟨v, s, by rw [List.getElem?_set_self (by omega)], h1, keepRow hw hv hr (fun b hb => by rw [hp b hb]; decide), hr⟩
    · obtain ⟨v', si, a, b, c, d⟩ := h10 i (by omega) hl
      exact ⟨v', si, by rw [List.getElem?_set_ne (by omega)]; exact a, b, keepRow hw c d (fun b hb => by rw [hp b hb]; decide), d⟩
/-- An entry of own is put in. -/
theorem BkSt.putOw (h : BkSt cs w A O ka k k ad role arV owV wr u s) {c : Cd} (hc : cs[k]? = some c) (hk : k < cs.length) :
    BkSt cs w A O ka (k + 1) k ad role arV (owV.set k (ownP ad cs k c)) (wr.setCell ⟨O, k, none⟩ (ownP ad cs k c)) u s := by
  have hI := h.inv (Nat.le_of_lt hk)
  have hfO := fun {i : Nat} {f : Fr} (hf : s[i]? = some f) => h.frO (Nat.le_of_lt hk) hf
  obtain ⟨h1, h2, h3, h4, h5, h6, h7, h8, h9, h10, h11, h12, h13, h14, h15, h16, h17⟩ := h
  have hw := Wr_set wr O k (ownP ad cs k c)
  have hp : ∀ b, b = O → role b = 2 := fun b hb => hb ▸ h14
  have hlen : owV.length = cs.length := by have := h4.1; omega
  have hblk : ∀ {p : Nat} {o : Obj}, p < k → isO cs p → wr.heap[ad p]? = some o → (wr.setCell ⟨O, k, none⟩ (ownP ad cs k c)).heap[ad p]? = some o := fun {p o} hp1 ho hh => keepBlk hw hh (fun hA => by have := h16 p hp1 ho; rw [hA, h14] at this; cases this)
  refine ⟨h1, h2, keepRow hw h3 (fun b hb => by cases hb; exact h13) (fun b hb => by rw [hp b hb]; decide), (h4.stored k _).1, keepRow hw h5 h15 (fun b hb => by rw [hp b hb]; decide), ?_, ?_, h8, ?_, ?_, ?_, ?_, h13, h14, h15, h16, h17.setCell (own_ge h4 O rfl) _⟩
  · intro i f hf; exact hblk (hfO hf).1 (hfO hf).2 (h6 i f hf)
  · intro p hp1 ho
    rcases h7 p hp1 ho with hh | hh
    · exact .inl hh
    · exact .inr (hblk hp1 ho hh)
  · intro p hp1 ho; exact ⟨(h9 p hp1 ho).1, by simpa using (h9 p hp1 ho).2⟩
  · intro i hi hl
    obtain ⟨v', si, a, b, c, d⟩ := h10 i hi hl
    exact ⟨v', si, a, b, keepRow hw c d (fun b hb => by rw [hp b hb]; decide), d⟩
  · intro i d hi hd
    by_cases hik : i = k
    · subst hik
      rw [hc] at hd
      rw [List.getElem?_set_self (by omega), Option.some.inj hd]
    · rw [List.getElem?_set_ne (by omega)]; exact h11 i d (by omega) hd
  · intro i hi hl
    rw [List.getElem?_set_ne (by omega)]; exact h12 i (by omega) hl
/-- A block is opened: its pointer is pushed. -/
theorem BkSt.push (h : BkSt cs w A O ka ko k ad role arV owV wr u s) {c : Cd} (hc : cs[k]? = some c) (ho : c.op = 11 ∨ c.op = 13) (hl : s.length < 3) (hk : k < cs.length)
    (hblk : wr.heap[ad k]? = some (blkO k (-1) (-1))) (hr4 : role (ad k) = 4) (hlo : w.heap.size ≤ ad k) (hfr : ∀ q, q < k → isO cs q → ad q ≠ ad k)
    {w2 : World} {v : Value} (hw : Wr wr w2 (fun b => u.ownBlock = some b)) (hv : w2.ownsRow w.heap.size 88 1 v (s.length + 1) (ptrs ad s ++ [.pointer (some ⟨ad k, 0, none⟩)])) (hrv : ∀ b, v.ownBlock = some b → role b = 3) :
    BkSt cs w A O ka ko (k + 1) ad role arV owV w2 v (⟨k, c.op, -1⟩ :: s) := by
  have hI := h.inv (Nat.le_of_lt hk)
  have hfO := fun {i : Nat} {f : Fr} (hf : s[i]? = some f) => h.frO (Nat.le_of_lt hk) hf
  obtain ⟨h1, h2, h3, h4, h5, h6, h7, h8, h9, h10, h11, h12, h13, h14, h15, h16, h17⟩ := h
  have keep : ∀ {p : Nat} {o : Obj}, p < k → isO cs p → wr.heap[ad p]? = some o → w2.heap[ad p]? = some o := fun {p o} hp1 ho hh => keepBlk hw hh (fun hA => by have := h16 p hp1 ho; rw [h15 _ hA] at this; cases this)
  have hk2 : w2.heap[ad k]? = some (blkO k (-1) (-1)) := keepBlk hw hblk (fun hA => by rw [h15 _ hA] at hr4; cases hr4)
  have hpk : isO cs k := ⟨c, hc, ho⟩
  refine ⟨by rw [stk_succ hc h1]; exact stp_open ho hl, h2, keepRow hw h3 (fun b hb => by cases hb; exact h13) (fun b hb => by rw [h15 b hb]; decide), keepRow hw h4 (fun b hb => by cases hb; exact h14) (fun b hb => by rw [h15 b hb]; decide), ?_, ?_, ?_, ?_, ?_, ?_, h11, h12, h13, h14, hrv, ?_, ?_⟩
  · rw [ptrs_cons]; exact hv
  · intro i f hf
    cases i with
    | zero => obtain rfl := (by simpa using hf : _ = f); exact hk2
    | succ i => have hf' : s[i]? = some f := by simpa using hf
                exact keep (hfO hf').1 (hfO hf').2 (h6 i f hf')
  · intro p hp1 hop
    by_cases hpk' : p = k
    · exact .inl ⟨0, _, rfl, hpk'.symm⟩
    · rcases h7 p (by omega) hop with ⟨i, f, hf, hfp⟩ | hh
      · exact .inl ⟨i + 1, f, by simpa using hf, hfp⟩
      · exact .inr (keep (by omega) hop hh)
  · intro p q hp1 hq1 hop hoq hh
    by_cases e1 : p = k
    · by_cases e2 : q = k
      · omega
      · subst e1; exact absurd hh.symm (hfr q (by omega) hoq)
    · by_cases e2 : q = k
      · subst e2; exact absurd hh (hfr p (by omega) hop)
      · exact h8 p q (by omega) (by omega) hop hoq hh
  · intro p hp1 hop
    by_cases e1 : p = k
    · subst e1; exact ⟨hlo, Nat.lt_of_lt_of_le (Array.getElem?_eq_some_iff.1 hblk).1 hw.size⟩
    · exact ⟨(h9 p (by omega) hop).1, Nat.lt_of_lt_of_le (h9 p (by omega) hop).2 hw.size⟩
  · intro i hi hl
    obtain ⟨v', si, a, b, c, d⟩ := h10 i hi hl
    exact ⟨v', si, a, b, keepRow hw c d (fun b hb => by rw [h15 b hb]; decide), d⟩
  · intro p hp1 hop
    by_cases e1 : p = k
    · subst e1; exact hr4
    · exact h16 p (by omega) hop
  · exact Below.wr h17 hw h17.size (fun b hb => own_ge h5 b hb)
/-- A field of the top block is written. -/
theorem BkSt.field (h : BkSt cs w A O ka ko k ad role arV owV wr u s) (hk : k < cs.length) {f : Fr} {r : List Fr} (hs : s = f :: r) (j : Nat) (x : Value) :
    let w2 := wr.setCell ⟨ad f.p, j, none⟩ x
    w2.ownsRow w.heap.size 79 1 (.slice (some ⟨A, 0, none⟩) cs.length cs.length) cs.length arV ∧ w2.ownsRow w.heap.size 88 1 (.slice (some ⟨O, 0, none⟩) cs.length cs.length) cs.length owV ∧
    w2.ownsRow w.heap.size 88 1 u s.length (ptrs ad s) ∧ (∀ (i : Nat) (g : Fr), r[i]? = some g → w2.heap[ad g.p]? = some (blkO g.p g.o (-1))) ∧
    (∀ p, p < k → isO cs p → p ≠ f.p → wr.heap[ad p]? = some (blkO p (bEnd cs p).2 (bEnd cs p).1) → w2.heap[ad p]? = some (blkO p (bEnd cs p).2 (bEnd cs p).1)) ∧
    (∀ p, p < k → isO cs p → w.heap.size ≤ ad p ∧ ad p < w2.heap.size) ∧
    (∀ i, i < ka → i < cs.length → ∃ v si, arV[i]? = some v ∧ stk cs i = some si ∧ w2.ownsRow w.heap.size 88 1 v si.length (ptrs ad si) ∧ ∀ b, v.ownBlock = some b → role b = 5) ∧ Below w.heap.size w w2 := by
  subst hs
  have hI := h.inv (Nat.le_of_lt hk)
  have hfO := fun {i : Nat} {g : Fr} (hf : (f :: r)[i]? = some g) => h.frO (Nat.le_of_lt hk) hf
  obtain ⟨h1, h2, h3, h4, h5, h6, h7, h8, h9, h10, h11, h12, h13, h14, h15, h16, h17⟩ := h
  have hw := Wr_set wr (ad f.p) j x
  have hf0 := hfO (i := 0) (g := f) rfl
  have r4 : ∀ b, b = ad f.p → role b = 4 := fun b hb => hb ▸ h16 f.p hf0.1 hf0.2
  refine ⟨keepRow hw h3 (fun b hb => by cases hb; exact h13) (fun b hb => by rw [r4 b hb]; decide), keepRow hw h4 (fun b hb => by cases hb; exact h14) (fun b hb => by rw [r4 b hb]; decide), keepRow hw h5 h15 (fun b hb => by rw [r4 b hb]; decide), ?_, ?_, ?_, ?_, ?_⟩
  · intro i g hg
    have hg' : (f :: r)[i + 1]? = some g := by simpa using hg
    refine keepBlk hw (h6 (i + 1) g hg') (fun hh => ?_)
    have := h8 g.p f.p (hfO hg').1 hf0.1 (hfO hg').2 hf0.2 hh
    have := inv_fall (Nat.le_of_lt hk) hI 0 f rfl (i + 1) g (by omega) hg'
    omega
  · intro p hp1 ho hne hh
    exact keepBlk hw hh (fun he => hne (h8 p f.p hp1 hf0.1 ho hf0.2 he))
  · intro p hp1 ho; exact ⟨(h9 p hp1 ho).1, by simpa using (h9 p hp1 ho).2⟩
  · intro i hi hl
    obtain ⟨v', si, a, b, c, d⟩ := h10 i hi hl
    exact ⟨v', si, a, b, keepRow hw c d (fun b hb => by rw [r4 b hb]; decide), d⟩
  · exact h17.setCell (h9 f.p hf0.1 hf0.2).1 x
theorem blk_set1 {wr : World} {g p : Nat} {o e x : Int} (h : wr.heap[g]? = some (blkO p o e)) : (wr.setCell ⟨g, 1, none⟩ (.int .i64 x)).heap[g]? = some (blkO p x e) :=
  heap_setCell_same wr g 1 _ _ _ h
theorem blk_set2 {wr : World} {g p : Nat} {o e x : Int} (h : wr.heap[g]? = some (blkO p o e)) : (wr.setCell ⟨g, 2, none⟩ (.int .i64 x)).heap[g]? = some (blkO p o x) :=
  heap_setCell_same wr g 2 _ _ _ h
theorem BkSt.divide (h : BkSt cs w A O ka ko k ad role arV owV wr u s) (hk : k < cs.length) {c : Cd} (hc : cs[k]? = some c) (ho : c.op = 12) {f : Fr} {r : List Fr} (hs : s = f :: r) (hf : f.op = 11 ∧ f.o < 0) :
    BkSt cs w A O ka ko (k + 1) ad role arV owV (wr.setCell ⟨ad f.p, 1, none⟩ (.int .i64 k)) u (⟨f.p, f.op, k⟩ :: r) := by
  obtain ⟨a1, a2, a3, a4, a5, a6, a7, a8⟩ := h.field hk hs 1 (.int .i64 k)
  have hnk : ∀ p, p < k + 1 → isO cs p → p < k := by
    intro p hp ⟨d, hd, hod⟩
    by_cases e : p = k
    · subst e; rw [hc] at hd; have := Option.some.inj hd; subst this; omega
    · omega
  subst hs
  obtain ⟨h1, h2, h3, h4, h5, h6, h7, h8, h9, h10, h11, h12, h13, h14, h15, h16, h17⟩ := h
  refine ⟨by rw [stk_succ hc h1]; exact stp_else ho hf, h2, a1, a2, a3, ?_, ?_, fun p q hp hq o1 o2 => h8 p q (hnk p hp o1) (hnk q hq o2) o1 o2, fun p hp o1 => a6 p (hnk p hp o1) o1, a7, h11, h12, h13, h14, h15, fun p hp o1 => h16 p (hnk p hp o1) o1, a8⟩
  · intro i g hg
    cases i with
    | zero => obtain rfl := (by simpa using hg : _ = g); exact blk_set1 (h6 0 f rfl)
    | succ i => exact a4 i g (by simpa using hg)
  · intro p hp o1
    by_cases e : p = f.p
    · exact .inl ⟨0, _, rfl, e.symm⟩
    · rcases h7 p (hnk p hp o1) o1 with ⟨i, g, hg, hgp⟩ | hh
      · cases i with
        | zero => obtain rfl := (by simpa using hg : f = g); exact absurd hgp.symm e
        | succ i => exact .inl ⟨i + 1, g, by simpa using hg, hgp⟩
      · exact .inr (a5 p (hnk p hp o1) o1 e hh)
theorem BkSt.close (h : BkSt cs w A O ka ko k ad role arV owV wr u s) (hk : k < cs.length) {c : Cd} (hc : cs[k]? = some c) (ho : c.op = 14) {f : Fr} {r : List Fr} (hs : s = f :: r) {g cap : Nat} (hu : u = .slice (some ⟨g, 0, none⟩) s.length cap) :
    BkSt cs w A O ka ko (k + 1) ad role arV owV (wr.setCell ⟨ad f.p, 2, none⟩ (.int .i64 k)) (.slice (some ⟨g, 0, none⟩) r.length cap) r := by
  obtain ⟨a1, a2, a3, a4, a5, a6, a7, a8⟩ := h.field hk hs 2 (.int .i64 k)
  have hnk : ∀ p, p < k + 1 → isO cs p → p < k := by
    intro p hp ⟨d, hd, hod⟩
    by_cases e : p = k
    · subst e; rw [hc] at hd; have := Option.some.inj hd; subst this; omega
    · omega
  have hsc := (h.inv (Nat.le_of_lt hk)).scan 0 f (by rw [hs]; rfl)
  have hbe : bEnd cs f.p = ((k : Int), f.o) := by
    rw [hsc, drop_cons hc, scanE, if_neg (by omega), if_neg (by omega), if_pos ⟨ho, rfl⟩]
  subst hs hu
  obtain ⟨h1, h2, h3, h4, h5, h6, h7, h8, h9, h10, h11, h12, h13, h14, h15, h16, h17⟩ := h
  have hst := own_take a3 (m := r.length) (by simp)
  rw [Nat.mul_one, ptrs_take] at hst
  refine ⟨by rw [stk_succ hc h1]; exact stp_end ho, h2, a1, a2, hst, a4, ?_, fun p q hp hq o1 o2 => h8 p q (hnk p hp o1) (hnk q hq o2) o1 o2, fun p hp o1 => a6 p (hnk p hp o1) o1, a7, h11, h12, h13, h14, fun b hb => h15 b (by cases hb; rfl), fun p hp o1 => h16 p (hnk p hp o1) o1, a8⟩
  intro p hp o1
  by_cases e : p = f.p
  · refine .inr ?_
    subst e
    rw [hbe]
    exact blk_set2 (h6 0 f rfl)
  · rcases h7 p (hnk p hp o1) o1 with ⟨i, g, hg, hgp⟩ | hh
    · cases i with
      | zero => obtain rfl := (by simpa using hg : f = g); exact absurd hgp.symm e
      | succ i => exact .inl ⟨i, g, by simpa using hg, hgp⟩
    · exact .inr (a5 p (hnk p hp o1) o1 e hh)
theorem BkSt.plain (h : BkSt cs w A O ka k k ad role arV owV wr u s) (hk : k < cs.length) {c : Cd} (hc : cs[k]? = some c) (o1 : ¬ (c.op = 11 ∨ c.op = 13)) (o2 : c.op ≠ 12) (o3 : c.op ≠ 14) :
    BkSt cs w A O ka (k + 1) (k + 1) ad role arV owV wr u s := by
  have hnk : ∀ p, p < k + 1 → isO cs p → p < k := by
    intro p hp ⟨d, hd, hod⟩
    by_cases e : p = k
    · subst e; rw [hc] at hd; have := Option.some.inj hd; subst this; exact absurd hod o1
    · omega
  obtain ⟨h1, h2, h3, h4, h5, h6, h7, h8, h9, h10, h11, h12, h13, h14, h15, h16, h17⟩ := h
  refine ⟨by rw [stk_succ hc h1]; exact stp_plain o1 o2 o3, h2, h3, h4, h5, h6, fun p hp o => h7 p (hnk p hp o) o, fun p q hp hq o o' => h8 p q (hnk p hp o) (hnk q hq o') o o', fun p hp o => h9 p (hnk p hp o) o, h10, ?_, fun i hi hl => h12 i (by omega) hl, h13, h14, h15, fun p hp o => h16 p (hnk p hp o) o, h17⟩
  intro i d hi hd
  by_cases hik : i = k
  · subst hik
    rw [hc] at hd
    have := Option.some.inj hd
    subst this
    rw [h12 i (Nat.le_refl _) hk]
    unfold ownP
    rw [if_neg o1, if_neg (by omega)]
  · exact h11 i d (by omega) hd

/-- The finished table: where what is read of it lies. -/
def Blks (cs : List Cd) (wr : World) (lo hi : Nat) (va vo : Value) : Prop :=
  ∃ (A O : Nat) (ad : Nat → Nat), va = .slice (some ⟨A, 0, none⟩) cs.length cs.length ∧ vo = .slice (some ⟨O, 0, none⟩) cs.length cs.length ∧ lo ≤ A ∧ A < hi ∧ lo ≤ O ∧ O < hi ∧ hi ≤ wr.heap.size ∧
    (∀ i c, cs[i]? = some c → wr.cell? ⟨O, i, none⟩ = some (ownP ad cs i c)) ∧
    (∀ p, isO cs p → lo ≤ ad p ∧ ad p < hi ∧ wr.cell? ⟨ad p, 0, none⟩ = some (.int .i64 p) ∧ wr.cell? ⟨ad p, 1, none⟩ = some (.int .i64 (bEnd cs p).2) ∧ wr.cell? ⟨ad p, 2, none⟩ = some (.int .i64 (bEnd cs p).1)) ∧
    (∀ i si, i < cs.length → stk cs i = some si → ∃ a c, wr.cell? ⟨A, i, none⟩ = some (.slice a si.length c) ∧ si.length ≤ c ∧ c ≤ 9223372036854775807 ∧
      (0 < si.length → ∃ g, a = some ⟨g, 0, none⟩ ∧ lo ≤ g ∧ g < hi ∧ ∀ (j : Nat) (f : Fr), si[j]? = some f → wr.cell? ⟨g, si.length - 1 - j, none⟩ = some (ptr ad f)))
theorem Blks.keep {w2 : World} {lo hi : Nat} {va vo : Value} (h : Blks cs wr lo hi va vo) (hb : ∀ b, lo ≤ b → b < hi → w2.heap[b]? = wr.heap[b]?) (hs : hi ≤ w2.heap.size) : Blks cs w2 lo hi va vo := by
  obtain ⟨A, O, ad, h1, h2, h3, h4, h5, h6, h7, h8, h9, h10⟩ := h
  have hc : ∀ b o, lo ≤ b → b < hi → w2.cell? ⟨b, o, none⟩ = wr.cell? ⟨b, o, none⟩ := fun b o x y => World.cell?_of_block (hb b x y)
  refine ⟨A, O, ad, h1, h2, h3, h4, h5, h6, hs, fun i c hi => (hc O i h5 h6).trans (h8 i c hi), fun p ho => ?_, fun i si hi hsi => ?_⟩
  · obtain ⟨a, b, c, d, e⟩ := h9 p ho
    exact ⟨a, b, (hc _ 0 a b).trans c, (hc _ 1 a b).trans d, (hc _ 2 a b).trans e⟩
  · obtain ⟨a, c, k1, k2, k3, k4⟩ := h10 i si hi hsi
    refine ⟨a, c, (hc A i h3 h4).trans k1, k2, k3, fun hp => ?_⟩
    obtain ⟨g, m1, m2, m3, m4⟩ := k4 hp
    exact ⟨g, m1, m2, m3, fun j f hf => (hc g _ m2 m3).trans (m4 j f hf)⟩
theorem Blks.below {w2 : World} {lo hi : Nat} {va vo : Value} (h : Blks cs wr lo hi va vo) (hb : Below wr.heap.size wr w2) : Blks cs w2 lo hi va vo := by
  have hs : hi ≤ wr.heap.size := by obtain ⟨_, _, _, _, _, _, _, _, _, h7, _⟩ := h; exact h7
  exact h.keep (fun b _ hb2 => hb.block b (by omega)) (Nat.le_trans hs hb.size)
theorem BkSt.done (h : BkSt cs w A O cs.length cs.length cs.length ad role arV owV wr u []) : Blks cs wr w.heap.size wr.heap.size (.slice (some ⟨A, 0, none⟩) cs.length cs.length) (.slice (some ⟨O, 0, none⟩) cs.length cs.length) := by
  obtain ⟨h1, h2, h3, h4, h5, h6, h7, h8, h9, h10, h11, h12, h13, h14, h15, h16, h17⟩ := h
  refine ⟨A, O, ad, rfl, rfl, h2, own_lt h3 A rfl, own_ge h4 O rfl, own_lt h4 O rfl, Nat.le_refl _, ?_, ?_, ?_⟩
  · intro i c hc
    have hi := (List.getElem?_eq_some_iff.1 hc).1
    rw [h4.cellAt i (by omega)]; exact h11 i c hi hc
  · intro p ho
    have hp : p < cs.length := by obtain ⟨c, hc, _⟩ := ho; exact (List.getElem?_eq_some_iff.1 hc).1
    rcases h7 p hp ho with ⟨i, f, hf, _⟩ | hh
    · simp at hf
    · exact ⟨(h9 p hp ho).1, (h9 p hp ho).2, cell_of_row wr _ 0 _ _ _ hh, cell_of_row wr _ 1 _ _ _ hh, cell_of_row wr _ 2 _ _ _ hh⟩
  · intro i si hi hsi
    obtain ⟨v, si', a, b, c, d⟩ := h10 i hi hi
    rw [hsi] at b
    obtain rfl := Option.some.inj b
    rcases c.2 with ⟨hv, hz⟩ | ⟨g, cap, cur, hv, hbg, hgg, hnc, hcm, _⟩
    · subst hv
      refine ⟨none, 0, ?_, by omega, by omega, fun hp => by omega⟩
      rw [h3.cellAt i (by omega), a, hz]
    · subst hv
      refine ⟨some ⟨g, 0, none⟩, cap, ?_, hnc, by unfold maxLen at hcm; omega, fun hp => ⟨g, rfl, hbg, own_lt c g rfl, fun j f hf => ?_⟩⟩
      · rw [h3.cellAt i (by omega), a]
      · have hj := (List.getElem?_eq_some_iff.1 hf).1
        rw [c.cellAt _ (by omega)]
        unfold ptrs
        rw [List.getElem?_reverse (by simp; omega), List.length_map, List.getElem?_map, show si.length - 1 - (si.length - 1 - j) = j by omega, hf]
        rfl
end
end Go.Proofs.YtidmjeehcmpjnaaDoor
