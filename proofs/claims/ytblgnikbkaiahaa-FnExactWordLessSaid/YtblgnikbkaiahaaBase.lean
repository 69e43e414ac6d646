/- YtblgnikbkaiahaaBase: lemmas of this seat's own on slices that are read, ranges of numbers, and the kit's frames; no Go function is walked here. No conditions. -/
import Derived.Test.YtblgnikbkaiahaaRows
import Derived.WalkKit
import Derived.ProofKit
import Derived.OpenShut
import Derived.ShutString
import Derived.ChangeOld
import Derived.Below
import Derived.Carry
import Derived.Lib.Hide
import Derived.Deep.Slices
import Derived.Lib.SmallJoins
namespace Go.Proofs.Ytblgnikbkaiahaa
open Go.ChangeShapes Go.WideShapes Go.ChangeAt Go.RowKit

theorem own : ownKnob Try.prog.godebug = none := by kernel_rfl
theorem laidOut : laidOutB Try.prog = true := by kernel_rfl

def inB (n lo hi : Int) : Bool := decide (lo ≤ n) && decide (n ≤ hi)
theorem inB_t {n lo hi : Int} (h : lo ≤ n ∧ n ≤ hi) : inB n lo hi = true := by simp [inB, h]
theorem inB_f {n lo hi : Int} (h : ¬ (lo ≤ n ∧ n ≤ hi)) : inB n lo hi = false := by
  simp only [inB, Bool.and_eq_false_iff, decide_eq_false_iff_not]; omega
theorem inB_i {n lo hi : Int} (h : inB n lo hi = true) : lo ≤ n ∧ n ≤ hi := by simpa [inB] using h
theorem inB_n {n lo hi : Int} (h : inB n lo hi = false) : ¬ (lo ≤ n ∧ n ≤ hi) := by
  simp only [inB, Bool.and_eq_false_iff, decide_eq_false_iff_not] at h; omega

theorem inB_cases (n lo hi : Int) : (inB n lo hi = true ∧ lo ≤ n ∧ n ≤ hi) ∨ (inB n lo hi = false ∧ ¬ (lo ≤ n ∧ n ≤ hi)) := by
  cases h : inB n lo hi
  · exact .inr ⟨rfl, inB_n h⟩
  · exact .inl ⟨rfl, inB_i h⟩

/-- The value v reads, in w, as a slice of n elements of sz cells each, the cells cs. -/
def Rd (w : World) (v : Value) (sz n : Nat) (cs : List Value) : Prop :=
  cs.length = n * sz ∧ ∃ a c, v = .slice a n c ∧ n ≤ c ∧ c ≤ maxLen ∧ (0 < n → ∃ b off, a = some ⟨b, off, none⟩ ∧ b < w.heap.size ∧ ∀ i u, cs[i]? = some u → w.cell? ⟨b, off + i, none⟩ = some u)

theorem Rd.below {B : Nat} {w w' : World} {v : Value} {sz n : Nat} {cs : List Value} (h : Rd w v sz n cs) (hb : Below B w w') (hB : w.heap.size ≤ B) : Rd w' v sz n cs := by
  obtain ⟨h1, a, c, rfl, h3, h4, h5⟩ := h
  refine ⟨h1, a, c, rfl, h3, h4, fun hn => ?_⟩
  obtain ⟨b, off, rfl, hlt, hc⟩ := h5 hn
  exact ⟨b, off, rfl, Nat.lt_of_lt_of_le hlt hb.size, fun i u hu => (hb.cell (p := ⟨b, off + i, none⟩) (by show b < B; omega)).trans (hc i u hu)⟩

/-- A slice of integers that is read. -/
def RdI (k : IntKind) (w : World) (v : Value) (xs : List Int) : Prop := Rd w v 1 xs.length (xs.map (Value.int k)) ∧ ∀ x ∈ xs, (Lit.int k x).wf = true

theorem RdI.below {k : IntKind} {B : Nat} {w w' : World} {v : Value} {xs : List Int} (h : RdI k w v xs) (hb : Below B w w') (hB : w.heap.size ≤ B) : RdI k w' v xs := ⟨h.1.below hb hB, h.2⟩

/-- Opened: either the slice is empty, or its cells are there. -/
theorem RdI.form {k : IntKind} {w : World} {v : Value} {xs : List Int} (h : RdI k w v xs) :
    ∃ a c, v = .slice a xs.length c ∧ xs.length ≤ 9223372036854775807 ∧ (xs = [] ∨ ∃ b off, a = some ⟨b, off, none⟩ ∧ b < w.heap.size ∧ ∀ i, i < xs.length → w.cell? ⟨b, off + i, none⟩ = some (.int k (xs.getD i 0))) := by
  obtain ⟨⟨h1, a, c, hv, h3, h4, h5⟩, _⟩ := h
  refine ⟨a, c, hv, by unfold maxLen at h4; omega, ?_⟩
  by_cases hx : xs = []
  · exact .inl hx
  · right
    obtain ⟨b, off, ha, hb, hc⟩ := h5 (List.length_pos_iff.2 hx)
    exact ⟨b, off, ha, hb, fun i hi => hc i _ (by simp [List.getD, hi])⟩

theorem wf_bd {x : Int} (h : (Lit.int .i64 x).wf = true) : -9223372036854775808 ≤ x ∧ x ≤ 9223372036854775807 := bounds_i64 h
theorem wf_u8 {x : Int} (h : (Lit.int .u8 x).wf = true) : 0 ≤ x ∧ x ≤ 255 := bounds_u8 h

section
variable {H : Type} {enc : TypeId × Value → H} {P : Program} {W : World}
theorem open_rdI {kk : IntKind} {t e : TypeId} {v : Value} {d : DataW H} {p : List MemPlace} {b0 : Nat} (ht : P.underlying t = some (.slice e)) (he : P.underlying e = some (.int kk)) (hc : P.cellsOf e = 1)
    (hv : Value.okWide P W .any b0 t v) (h : DataW.Trod enc P W 0 (fun _ => true) true t v d p) : ∃ xs, RdI kk W v xs := by
  obtain ⟨a, len, cap, rfl⟩ := okWide_slice ht hv
  have lt0 : ∀ x ∈ p, x.block < W.heap.size := by obtain ⟨m, hm⟩ := h; exact DataW.trod_lt m _ _ _ hm
  obtain ⟨fuel, hf⟩ := h
  rcases open_ints ht he hc hf with ⟨hcs, _⟩ | ⟨x, l, c, zs, hcs, _, hl, hm, hz, hx, hcell, hwz⟩
  · simp [Value.cells] at hcs
    obtain ⟨rfl, rfl, rfl⟩ := hcs
    exact ⟨[], ⟨rfl, none, 0, rfl, Nat.le_refl _, by simp [maxLen], fun h => absurd h (by simp)⟩, by simp⟩
  · simp [Value.cells] at hcs
    obtain ⟨rfl, rfl, rfl⟩ := hcs
    have hz' : zs.length = cap := by simpa using hz
    refine ⟨zs.take len, ⟨by simp, some x, cap, by simp [hz', Nat.min_eq_left hl], by simp [hz', Nat.min_eq_left hl]; omega, hm, fun hn => ?_⟩, fun n hn => hwz n (List.mem_of_mem_take hn)⟩
    have hl0 : 0 < len := by simp [hz', Nat.min_eq_left hl] at hn; exact hn
    obtain ⟨b, off, spot⟩ := x
    have hc0 := hcell 0 (by omega)
    have hs : spot = none := by simpa [Addr.add] using World.cell?_spot hc0
    subst hs
    refine ⟨b, off, rfl, ?_, ?_⟩
    · exact World.block_lt_of_cell? W _ (by simpa [Addr.add] using hc0)
    · intro i u hu
      have hi : i < len := by
        have := (List.getElem?_eq_some_iff.1 hu).1
        simp at this; omega
      have h1 := hcell i (by omega)
      rw [Addr.add_lit] at h1
      rw [h1]
      rw [List.getElem?_map, List.getElem?_take, if_pos hi, List.getElem?_eq_getElem (show i < zs.length by omega)] at hu
      rw [← Option.some.inj hu, List.getD, List.getElem?_eq_getElem (show i < zs.length by omega)]
      rfl
end
end Go.Proofs.Ytblgnikbkaiahaa
