/- YtmjkjdibolcblaaOpensL: the laws' test whether an instruction opens a block; plain instructions. No conditions. -/
import Derived.Test.YtmjkjdibolcblaaPgmA
import Derived.Test.YtmjkjdibolcblaaCodeN
import Derived.Test.YtmjkjdibolcblaaLawL
namespace Go.Proofs.Ytmjkjdibolcblaa
open Go.ChangeShapes Go.WideShapes Go.ChangeAt Go.RowKit
set_option linter.unusedVariables false
theorem opens_any (c : Cd) (w : World) : Calls Try.prog 11 #[.agg #[.int .i64 c.op, .int .i64 c.a, .int .i64 c.b, .int .i64 c.c]] w fun e w' => e = .returned (.bool (isOp c)) ∧ Below w.heap.size w w' := by
  have hb := below_alloc w (.cells #[.int .i64 c.op, .int .i64 c.a, .int .i64 c.b, .int .i64 c.c] 24)
  by_cases h1 : c.op = 11
  · have he : isOp c = true := isOp_t (Or.inl h1)
    have HE := Lib.hid he
    clear he
    go_enter Try.func11, Try.ntmps11
    go_wp2
    go_ret
    exact ⟨by rw [HE.out]; rfl, below_alloc _ _⟩
  · by_cases h2 : c.op = 13
    · have he : isOp c = true := isOp_t (Or.inr h2)
      have HE := Lib.hid he
      clear he
      go_enter Try.func11, Try.ntmps11
      go_wp2
      go_ret
      exact ⟨by rw [HE.out]; rfl, below_alloc _ _⟩
    · have he : isOp c = false := isOp_f (by omega)
      have HE := Lib.hid he
      have e1 : (c.op == 11) = false := by simpa using h1
      have e2 : (c.op == 13) = false := by simpa using h2
      clear he
      go_enter Try.func11, Try.ntmps11
      go_wp2
      go_ret
      exact ⟨by rw [HE.out]; rfl, below_alloc _ _⟩
/-- A plain instruction: valid, and no part of the structure. -/
def plainC (c : Cd) : Prop := cValid c = true ∧ c.op ≤ 10
theorem plain_pv {c : Cd} (h : plainC c) : pValid [c] = true := by
  obtain ⟨hv, ho⟩ := h
  have hs : stk [c] 1 = some [] := by
    rw [stk_succ (c := c) (s := []) rfl rfl]
    exact stp_plain (by omega) (by omega) (by omega)
  unfold pValid
  simp only [Bool.and_eq_true]
  refine ⟨by simp, by simp [hv], ?_⟩
  unfold sOk
  show closed (stk [c] 1) = true
  rw [hs]; rfl
/-- A step of a new lane over one plain instruction. -/
theorem plain_step {c : Cd} (h : plainC c) {rs ms : List Int} {id : Int} (h4 : rs.length = 4) (hr : ∀ x ∈ rs, 0 ≤ x ∧ x ≤ 255) (hm : MOK ms) (hmv : memValid ms = true) (hid : 0 ≤ id ∧ id ≤ 7) :
    (stepV ⟨rs, 0, [], false⟩ [c] id ms).1.regs = (simple rs ms c id).1 ∧ (stepV ⟨rs, 0, [], false⟩ [c] id ms).2 = (simple rs ms c id).2 := by
  have hp := plain_pv h
  have hv : lValid ⟨rs, 0, [], false⟩ [c] = true := by
    rw [lv_all hp h4 (inB_t ⟨by show (0 : Int) ≤ 0; decide, by show (0 : Int) ≤ _; simp⟩) (by unfold fourW; rw [List.all_eq_true]; exact fun x hx => inB_t (hr x hx)) ⟨?_, ?_⟩]
    · rfl
    · show 0 = (loopsAt [c] 0).length
      rw [loopsAt_eq (s := []) rfl]; rfl
    · intro i t p ht; simp at ht
  have hok : stepOk ⟨rs, 0, [], false⟩ [c] id ms = true := by
    unfold stepOk; rw [hv, hmv, inB_t hid]; rfl
  unfold stepV
  rw [hok, if_pos rfl, if_neg (by simp)]
  have hd : [c][0]? = some c := rfl
  by_cases h10 : c.op = 10
  · have e := lstep_bar (id := id) (rs := rs) (ts := []) (ms := ms) hd h10
    rw [show ((0 : Nat) : Int) = 0 from rfl] at e
    rw [e]
    unfold simple
    rw [if_neg (by omega), if_neg (by omega), if_neg (by omega), if_neg (by omega), if_neg (by omega), if_neg (by omega), if_neg (by omega), if_neg (by omega), if_neg (by omega)]
    exact ⟨rfl, rfl⟩
  · have e := lstep_simple (id := id) (rs := rs) (ts := []) (ms := ms) hd (by have := h.2; omega)
    rw [show ((0 : Nat) : Int) = 0 from rfl] at e
    rw [e]
    exact ⟨rfl, rfl⟩
theorem set_other {xs : List Int} {i k : Nat} (h : k ≠ i) (y : Int) : (xs.set i y)[k]? = xs[k]? := by rw [List.getElem?_set_ne (fun e => h e.symm)]
theorem plain_writes {c : Cd} (h : plainC c) (rs ms : List Int) (id : Int) (k : Nat) (hk : (k : Int) ≠ cWrites c) : (simple rs ms c id).1[k]? = rs[k]? := by
  obtain ⟨hv, ho⟩ := h
  have hb := cValid_bd hv
  have hw : 1 ≤ c.op ∧ c.op ≤ 8 → k ≠ c.a.toNat := fun hh e => hk (by unfold cWrites; rw [hv, inB_t hh]; simp; omega)
  unfold simple
  split
  · exact set_other (hw (by omega)) _
  split
  · exact set_other (hw (by omega)) _
  split
  · exact set_other (hw (by omega)) _
  split
  · exact set_other (hw (by omega)) _
  split
  · exact set_other (hw (by omega)) _
  split
  · exact set_other (hw (by omega)) _
  split
  · show (if rg rs c.c = 0 then rs else rs.set c.a.toNat (rg rs c.b))[k]? = rs[k]?
    split
    · rfl
    · exact set_other (hw (by omega)) _
  split
  · exact set_other (hw (by omega)) _
  split
  · rfl
  · rfl
theorem no_writes {c : Cd} (h : isOp c = true ∨ c.op = 12 ∨ c.op = 14 ∨ cValid c = false) : cWrites c = -1 := by
  unfold cWrites
  cases hv : cValid c with
  | false => rfl
  | true =>
    have : inB c.op 1 8 = false := inB_f (by
      rcases h with h | h | h | h
      · unfold isOp at h; simp only [Bool.or_eq_true, beq_iff_eq] at h; omega
      · omega
      · omega
      · rw [hv] at h; cases h)
    rw [this]; rfl
theorem plain_of {c : Cd} (h1 : isOp c = false) (h2 : c.op ≠ 12) (h3 : c.op ≠ 14) (h4 : cValid c = true) : plainC c := by
  have hb := cValid_bd h4
  unfold isOp at h1
  simp only [Bool.or_eq_false_iff, beq_eq_false_iff_ne] at h1
  exact ⟨h4, by omega⟩
def rows4 : List Int := [3, 8, 13, 18]
/-- The first k registers filled. -/
def rowN (k : Nat) : List Int := (List.range 4).map fun i => if i < k then 3 + 5 * (i : Int) else 0
theorem rowN_0 : rowN 0 = [0, 0, 0, 0] := rfl
theorem rowN_4 : rowN 4 = rows4 := rfl
theorem rowN_set {k : Nat} (h : k < 4) : (rowN k).set k (3 + 5 * (k : Int)) = rowN (k + 1) := by
  rcases (show k = 0 ∨ k = 1 ∨ k = 2 ∨ k = 3 by omega) with rfl | rfl | rfl | rfl <;> rfl
theorem rowN_len (k : Nat) : (rowN k).length = 4 := by simp [rowN]
theorem rows4_ok : ∀ x ∈ rows4, 0 ≤ x ∧ x ≤ 255 := by intro x hx; simp [rows4] at hx; omega
/-- A new lane, written out. -/
def NewL4 (w : World) (e : Ending) (w' : World) : Prop :=
  ∃ g c b d, e = .returned (.agg #[.slice (some ⟨g, 0, none⟩) 4 c, .int .i64 0, .slice b 0 d, .bool false]) ∧ OI w.heap.size w' g c [0, 0, 0, 0] ∧ OwI w.heap.size w' (.slice b 0 d) [] ∧ (Value.slice b 0 d).ownBlock ≠ some g ∧ (4 ≤ c ∧ c ≤ 9223372036854775807) ∧ Below w.heap.size w w'
theorem implNewLane4 (w : World) : Calls Try.prog 14 #[] w (NewL4 w) := by
  refine (implNewLane w).mono ?_
  rintro e w' ⟨r, t, rfl, ho, hb⟩
  obtain ⟨g, c, hr, oi, h1, h2⟩ := OI.shape ho.1 (by decide)
  obtain ⟨b, d, ht⟩ := own_shape ho.2.1
  subst hr ht
  exact ⟨g, c, b, d, rfl, oi, ho.2.1, ho.2.2 g rfl, ⟨h1, h2⟩, hb⟩
end Go.Proofs.Ytmjkjdibolcblaa
