/- YtidmjeehcmpjnaaDoorBase: lemmas of this seat's own on slices that are read, ranges of numbers, and the kit's frames; no Go function is walked here. No conditions. -/
import Derived.Test.YtidmjeehcmpjnaaDoorRows
import Derived.WalkKit
import Derived.ProofKit
import Derived.OpenShut
import Derived.ShutString
import Derived.ChangeOld
import Derived.Below
import Derived.Carry
import Derived.Lib.Hide
import Derived.Deep.Slices
import Derived.Deep.LoopGhost
import Derived.BigQuiet
import Derived.Deep.QuietTactic
import Derived.WalkLawsBesides
import Derived.WalkSpells
import Derived.Lib.SmallJoins
namespace Go.Proofs.YtidmjeehcmpjnaaDoor
open Go.ChangeShapes Go.WideShapes Go.ChangeAt Go.RowKit

theorem own : ownKnob Tryd.prog.godebug = none := by kernel_rfl
theorem laidOut : laidOutB Tryd.prog = true := by kernel_rfl

def inB (n lo hi : Int) : Bool := decide (lo ≤ n) && decide (n ≤ hi)
theorem inB_t {n lo hi : Int} (h : lo ≤ n ∧ n ≤ hi) : inB n lo hi = true := by simp [inB, h]
theorem inB_f {n lo hi : Int} (h : ¬ (lo ≤ n ∧ n ≤ hi)) : inB n lo hi = false := by
  simp only [inB, Bool.and_eq_false_iff, decide_eq_false_iff_not]; omega
theorem inB_i {n lo hi : Int} (h : inB n lo hi = true) : lo ≤ n ∧ n ≤ hi := by simpa [inB] using h
theorem inB_n {n lo hi : Int} (h : inB n lo hi = false) : ¬ (lo ≤ n ∧ n ≤ hi) := by
  simp only [inB, Bool.and_eq_false_iff, decide_eq_false_iff_not] at h; omega

theorem inB_cases (n lo hi : Int) : (inB n lo hi = true ∧ lo ≤ n ∧ n ≤ hi) ∨ (inB n lo hi = false ∧ ¬ (lo ≤ n ∧ n ≤ hi)) := by
  cases h : inB n lo hi
  · exact .inr ⟨rfl, inB_n h⟩
  · exact .inl ⟨rfl, inB_i h⟩

/-- The value v reads, in w, as a slice of n elements of sz cells each, the cells cs. -/
def Rd (w : World) (v : Value) (sz n : Nat) (cs : List Value) : Prop :=
  cs.length = n * sz ∧ ∃ a c, v = .slice a n c ∧ n ≤ c ∧ c ≤ maxLen ∧ (0 < n → ∃ b off, a = some ⟨b, off, none⟩ ∧ b < w.heap.size ∧ ∀ i u, cs[i]? = some u → w.cell? ⟨b, off + i, none⟩ = some u)

theorem Rd.below {B : Nat} {w w' : World} {v : Value} {sz n : Nat} {cs : List Value} (h : Rd w v sz n cs) (hb : Below B w w') (hB : w.heap.size ≤ B) : Rd w' v sz n cs := by
  obtain ⟨h1, a, c, rfl, h3, h4, h5⟩ := h
  refine ⟨h1, a, c, rfl, h3, h4, fun hn => ?_⟩
  obtain ⟨b, off, rfl, hlt, hc⟩ := h5 hn
  exact ⟨b, off, rfl, Nat.lt_of_lt_of_le hlt hb.size, fun i u hu => (hb.cell (p := ⟨b, off + i, none⟩) (by show b < B; omega)).trans (hc i u hu)⟩

/-- A slice of integers that is read. -/
def RdI (k : IntKind) (w : World) (v : Value) (xs : List Int) : Prop := Rd w v 1 xs.length (xs.map (Value.int k)) ∧ ∀ x ∈ xs, (Lit.int k x).wf = true

theorem RdI.below {k : IntKind} {B : Nat} {w w' : World} {v : Value} {xs : List Int} (h : RdI k w v xs) (hb : Below B w w') (hB : w.heap.size ≤ B) : RdI k w' v xs := ⟨h.1.below hb hB, h.2⟩

/-- Opened: its shape, and its cells, each under its own index. -/
theorem RdI.form {k : IntKind} {w : World} {v : Value} {xs : List Int} (h : RdI k w v xs) :
    ∃ a c b off, v = .slice a xs.length c ∧ xs.length ≤ c ∧ c ≤ 9223372036854775807 ∧ (xs ≠ [] → b < w.heap.size) ∧ ∀ i x, xs[i]? = some x → a = some ⟨b, off, none⟩ ∧ w.cell? ⟨b, off + i, none⟩ = some (.int k x) := by
  obtain ⟨⟨h1, a, c, hv, h3, h4, h5⟩, _⟩ := h
  have h4' : c ≤ 9223372036854775807 := by unfold maxLen at h4; omega
  by_cases hx : xs = []
  · exact ⟨a, c, 0, 0, hv, h3, h4', fun h => absurd hx h, by simp [hx]⟩
  · obtain ⟨b, off, ha, hb, hc⟩ := h5 (List.length_pos_iff.2 hx)
    exact ⟨a, c, b, off, hv, h3, h4', fun _ => hb, fun i x hi => ⟨ha, hc i _ (by simp [hi])⟩⟩

theorem drop_cons {α : Type} {xs : List α} {k : Nat} {x : α} (h : xs[k]? = some x) : xs.drop k = x :: xs.drop (k + 1) := by
  obtain ⟨hk, rfl⟩ := List.getElem?_eq_some_iff.1 h
  exact List.drop_eq_getElem_cons hk
theorem take_snoc {α : Type} {xs : List α} {k : Nat} {x : α} (h : xs[k]? = some x) : xs.take (k + 1) = xs.take k ++ [x] := by
  obtain ⟨hk, rfl⟩ := List.getElem?_eq_some_iff.1 h
  rw [List.take_succ_eq_append_getElem hk]
theorem get_lt {α : Type} {xs : List α} {k : Nat} (h : k < xs.length) : ∃ x, xs[k]? = some x := ⟨xs[k], List.getElem?_eq_getElem h⟩

/-- The first k places filled with xs, the rest with z. -/
def fillL (xs : List Value) (z : Value) (k : Nat) : List Value := xs.take k ++ List.replicate (xs.length - k) z
theorem fill_zero (xs : List Value) (z : Value) : fillL xs z 0 = List.replicate xs.length z := by simp [fillL]
theorem fill_all (xs : List Value) (z : Value) {k : Nat} (h : xs.length ≤ k) : fillL xs z k = xs := by simp [fillL, List.take_of_length_le h, show xs.length - k = 0 by omega]
theorem fill_get (xs : List Value) (z : Value) {k : Nat} (h : k < xs.length) : (fillL xs z k)[k]? = some z := by
  unfold fillL
  rw [List.getElem?_append_right (by simp; omega)]
  simp [Nat.min_eq_left (Nat.le_of_lt h), show 0 < xs.length - k by omega]
theorem fill_set (xs : List Value) (z : Value) {k : Nat} {x : Value} (h : xs[k]? = some x) : (fillL xs z k).set k x = fillL xs z (k + 1) := by
  have hk : k < xs.length := (List.getElem?_eq_some_iff.1 h).1
  unfold fillL
  rw [List.set_append_right _ _ (by simp; omega), take_snoc h]
  have e : xs.length - k = (xs.length - (k + 1)) + 1 := by omega
  rw [e, List.replicate_succ]
  simp [Nat.min_eq_left (Nat.le_of_lt hk)]
theorem fill_length (xs : List Value) (z : Value) (k : Nat) : (fillL xs z k).length = xs.length := by simp [fillL]; omega

/-- What is owned is read. -/
theorem rd_of_owns {w : World} {base e sz n : Nat} {v : Value} {cs : List Value} (h : w.ownsRow base e sz v n cs) : Rd w v sz n cs := by
  refine ⟨h.1, ?_⟩
  rcases h.2 with ⟨rfl, rfl⟩ | ⟨g, cap, cur, rfl, hb, hg, hn, hc, hs, ht⟩
  · exact ⟨none, 0, rfl, Nat.le_refl _, by simp [maxLen], fun h => absurd h (by simp)⟩
  · refine ⟨_, cap, rfl, hn, hc, fun hp => ⟨g, 0, rfl, (Array.getElem?_eq_some_iff.1 hg).1, fun i u hu => ?_⟩⟩
    have hi := (List.getElem?_eq_some_iff.1 hu).1
    rw [Nat.zero_add, h.cellAt i (by rw [← h.1]; exact hi)]
    exact hu

/-- What has been written: the blocks of which p speaks alone, and new ones. -/
structure Wr (w w' : World) (p : Nat → Prop) : Prop where
  os : w'.os = w.os
  tape : w'.tape = w.tape
  output : w'.output = w.output
  size : w.heap.size ≤ w'.heap.size
  block : ∀ k, k < w.heap.size → ¬ p k → w'.heap[k]? = w.heap[k]?
theorem Wr.trans {a b c : World} {p : Nat → Prop} (h : Wr a b p) (k : Wr b c p) : Wr a c p :=
  ⟨k.os.trans h.os, k.tape.trans h.tape, k.output.trans h.output, Nat.le_trans h.size k.size, fun i hi hp => (k.block i (Nat.lt_of_lt_of_le hi h.size) hp).trans (h.block i hi hp)⟩
theorem Wr.weak {a b : World} {p q : Nat → Prop} (h : Wr a b p) (hpq : ∀ k, p k → q k) : Wr a b q :=
  ⟨h.os, h.tape, h.output, h.size, fun i hi hq => h.block i hi fun hp => hq (hpq i hp)⟩
theorem Wr.refl (w : World) (p : Nat → Prop) : Wr w w p := ⟨rfl, rfl, rfl, Nat.le_refl _, fun _ _ _ => rfl⟩
theorem Wr.of_below {w w' : World} {p : Nat → Prop} (h : Below w.heap.size w w') : Wr w w' p := ⟨h.os, h.tape, h.output, h.size, fun k hk _ => h.block k hk⟩
theorem Wr.of_grown {w w' : World} {r : Option Nat} (h : w.grownBy w' r) : Wr w w' (fun k => r = some k) :=
  ⟨h.os, h.tape, h.output, h.size, fun k hk hp => h.block k hk fun e => hp e.symm⟩
theorem Wr.below {w w' : World} {p : Nat → Prop} {B : Nat} (h : Wr w w' p) (hB : B ≤ w.heap.size) (hp : ∀ k, p k → B ≤ k) : Below B w w' :=
  ⟨h.os, h.tape, h.output, h.size, fun k hk => h.block k (by omega) fun hh => by have := hp k hh; omega⟩
theorem Below.wr {B : Nat} {a w w' : World} {p : Nat → Prop} (h : Below B a w) (hw : Wr w w' p) (hB : B ≤ w.heap.size) (hp : ∀ k, p k → B ≤ k) : Below B a w' := h.trans (hw.below hB hp)
theorem Wr.owns {w w' : World} {p : Nat → Prop} {base e sz n : Nat} {v : Value} {cs : List Value} (h : Wr w w' p) (ho : w.ownsRow base e sz v n cs) (hp : ∀ k, v.ownBlock = some k → ¬ p k) : w'.ownsRow base e sz v n cs := by
  refine ⟨ho.1, ?_⟩
  rcases ho.2 with hn | ⟨g, cap, cur, rfl, hb, hgg, rest⟩
  · exact .inl hn
  · exact .inr ⟨g, cap, cur, rfl, hb, by rw [h.block g (Array.getElem?_eq_some_iff.1 hgg).1 (hp g rfl)]; exact hgg, rest⟩
theorem owns_below {B : Nat} {w w' : World} {base e sz n : Nat} {v : Value} {cs : List Value} (ho : w.ownsRow base e sz v n cs) (h : Below B w w') (hB : w.heap.size ≤ B) : w'.ownsRow base e sz v n cs := by
  refine ⟨ho.1, ?_⟩
  rcases ho.2 with hn | ⟨g, cap, cur, rfl, hb, hgg, rest⟩
  · exact .inl hn
  · exact .inr ⟨g, cap, cur, rfl, hb, by rw [h.block g (by have := (Array.getElem?_eq_some_iff.1 hgg).1; omega)]; exact hgg, rest⟩

/-- 'append(v, x)' for one new element of sz cells, v the call's own: the new row; what was below stays. -/
theorem wpList_app1 {ops : Array Oper} {rest : List Oper} {o : Oper} {a : Act} {Q : Exit → Act → World → Prop} (w : World) (hgd : o.guard = none) (s x : Operand) (T E : TypeId) (ho : o.op = .call { callee := .builtin .append, args := #[s, x], argTypes := #[T, T] })
    (base sz bytes : Nat) (us : List Value) (z : Value) (ht : Tryd.prog.underlying T = some (.slice E)) (hinfo : (Tryd.prog.info? E).map (fun i => (i.zero, i.size, i.bytes)) = some (some z, sz, bytes)) (hz : z.cells.size = sz) (hsz : 0 < sz) (hus : us.length = sz) (h1 : ∀ u ∈ us, u.oneCell' = true)
    (v : Value) (n : Nat) (xs : List Value) (hown : w.ownsRow base E sz v n xs) (hs : a.eval s = v) (hx : a.eval x = .slice (some ⟨w.heap.size, 0, none⟩) 1 1) (h63 : n + 1 ≤ 9223372036854775807) (hb : (n + 1) * bytes ≤ 140737488355328) (hbase : base ≤ w.heap.size)
    (h : ∀ v' w', w'.ownsRow base E sz v' (n + 1) (xs ++ us) → Wr w w' (fun b => v.ownBlock = some b) → (∀ B w0, B ≤ base → Below B w0 w → Below B w0 w') → wpList Tryd.prog ops Q rest (a.put o.dst v') w') :
    wpList Tryd.prog ops Q (o :: rest) a (w.alloc (.cells us.toArray E)) := by
  obtain ⟨i, hi, hz0, hz1, hz2⟩ := info_parts hinfo
  refine wpList_append_own _ hgd s x T ho base E i z sz bytes ht hi hz0 hz1 hz2 hz hsz v n xs hs (hown.alloc _) ⟨w.heap.size, 0, none⟩ 1 1 us hx (by omega) ?_ h1 (by unfold maxLen; omega) hb (by simp; omega) ?_
  · intro j u hj
    rw [Addr.add_lit, Nat.zero_add, cell_of_row _ w.heap.size j us.toArray E (0, 0) (heap_alloc_new w _)]
    simpa using hj
  · intro v' w' ho2 hg _
    have hw : Wr w w' (fun b => v.ownBlock = some b) := (Wr.of_below ((Below.refl _ _).alloc (Nat.le_refl _) _)).trans (Wr.of_grown hg)
    refine h v' w' ho2 hw fun B w0 hB hb0 => ?_
    refine Below.wr hb0 hw (by omega) fun k hk => ?_
    have := (hown.lt k hk).1
    omega

theorem RdI.shape {k : IntKind} {w : World} {v : Value} {xs : List Int} (h : RdI k w v xs) : ∃ a c, v = .slice a xs.length c ∧ xs.length ≤ c ∧ c ≤ 9223372036854775807 := by
  obtain ⟨a, c, _, _, hv, h1, h2, _⟩ := h.form
  exact ⟨a, c, hv, h1, h2⟩
theorem bcell {W w1 : World} (hb : Below W.heap.size W w1) : (∀ b o, b < W.heap.size → w1.cell? ⟨b, o, none⟩ = W.cell? ⟨b, o, none⟩) ∧ (∀ b o, b < W.heap.size → w1.frozen? ⟨b, o, none⟩ = W.frozen? ⟨b, o, none⟩) :=
  ⟨fun b o h => hb.cell (p := ⟨b, o, none⟩) h, fun b o h => hb.frozen (p := ⟨b, o, none⟩) h⟩
theorem Wr.cell {w w' : World} {p : Nat → Prop} (h : Wr w w' p) {b o : Nat} (hk : b < w.heap.size) (hp : ¬ p b) : w'.cell? ⟨b, o, none⟩ = w.cell? ⟨b, o, none⟩ := World.cell?_of_block (h.block b hk hp)
theorem Wr.frozen {w w' : World} {p : Nat → Prop} (h : Wr w w' p) {b o : Nat} (hk : b < w.heap.size) (hp : ¬ p b) : w'.frozen? ⟨b, o, none⟩ = w.frozen? ⟨b, o, none⟩ := World.frozen?_of_block (h.block b hk hp)
theorem own_mono {w : World} {base base' e sz n : Nat} {v : Value} {cs : List Value} (h : w.ownsRow base e sz v n cs) (hb : base' ≤ base) : w.ownsRow base' e sz v n cs := by
  refine ⟨h.1, ?_⟩
  rcases h.2 with h2 | ⟨g, cap, cur, hv, hg, rest⟩
  · exact .inl h2
  · exact .inr ⟨g, cap, cur, hv, Nat.le_trans hb hg, rest⟩
theorem own_ge {w : World} {base e sz n : Nat} {v : Value} {cs : List Value} (h : w.ownsRow base e sz v n cs) : ∀ b, v.ownBlock = some b → base ≤ b := fun b hb => (h.lt b hb).1
theorem own_lt {w : World} {base e sz n : Nat} {v : Value} {cs : List Value} (h : w.ownsRow base e sz v n cs) : ∀ b, v.ownBlock = some b → b < w.heap.size := fun b hb => (h.lt b hb).2

theorem own_shape {w : World} {base e sz n : Nat} {v : Value} {cs : List Value} (h : w.ownsRow base e sz v n cs) : ∃ a c, v = .slice a n c := by
  obtain ⟨_, a, c, h, _⟩ := rd_of_owns h
  exact ⟨a, c, h⟩
theorem wf_bd {x : Int} (h : (Lit.int .i64 x).wf = true) : -9223372036854775808 ≤ x ∧ x ≤ 9223372036854775807 := bounds_i64 h
theorem wf_u8 {x : Int} (h : (Lit.int .u8 x).wf = true) : 0 ≤ x ∧ x ≤ 255 := bounds_u8 h

section
variable {H : Type} {enc : TypeId × Value → H} {P : Program} {W : World}
theorem open_rdI {kk : IntKind} {t e : TypeId} {v : Value} {d : DataW H} {p : List MemPlace} {b0 : Nat} (ht : P.underlying t = some (.slice e)) (he : P.underlying e = some (.int kk)) (hc : P.cellsOf e = 1)
    (hv : Value.okWide P W .any b0 t v) (h : DataW.Trod enc P W 0 (fun _ => true) true t v d p) : ∃ xs, RdI kk W v xs := by
  obtain ⟨a, len, cap, rfl⟩ := okWide_slice ht hv
  have lt0 : ∀ x ∈ p, x.block < W.heap.size := by obtain ⟨m, hm⟩ := h; exact DataW.trod_lt m _ _ _ hm
  obtain ⟨fuel, hf⟩ := h
  rcases open_ints ht he hc hf with ⟨hcs, _⟩ | ⟨x, l, c, zs, hcs, _, hl, hm, hz, hx, hcell, hwz⟩
  · simp [Value.cells] at hcs
    obtain ⟨rfl, rfl, rfl⟩ := hcs
    exact ⟨[], ⟨rfl, none, 0, rfl, Nat.le_refl _, by simp [maxLen], fun h => absurd h (by simp)⟩, by simp⟩
  · simp [Value.cells] at hcs
    obtain ⟨rfl, rfl, rfl⟩ := hcs
    have hz' : zs.length = cap := by simpa using hz
    refine ⟨zs.take len, ⟨by simp, some x, cap, by simp [hz', Nat.min_eq_left hl], by simp [hz', Nat.min_eq_left hl]; omega, hm, fun hn => ?_⟩, fun n hn => hwz n (List.mem_of_mem_take hn)⟩
    have hl0 : 0 < len := by simp [hz', Nat.min_eq_left hl] at hn; exact hn
    obtain ⟨b, off, spot⟩ := x
    have hc0 := hcell 0 (by omega)
    have hs : spot = none := by simpa [Addr.add] using World.cell?_spot hc0
    subst hs
    refine ⟨b, off, rfl, ?_, ?_⟩
    · exact World.block_lt_of_cell? W _ (by simpa [Addr.add] using hc0)
    · intro i u hu
      have hi : i < len := by
        have := (List.getElem?_eq_some_iff.1 hu).1
        simp at this; omega
      have h1 := hcell i (by omega)
      rw [Addr.add_lit] at h1
      rw [h1]
      rw [List.getElem?_map, List.getElem?_take, if_pos hi, List.getElem?_eq_getElem (show i < zs.length by omega)] at hu
      rw [← Option.some.inj hu, List.getD, List.getElem?_eq_getElem (show i < zs.length by omega)]
      rfl
end
end Go.Proofs.YtidmjeehcmpjnaaDoor
