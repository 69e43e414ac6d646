/- YtidmjeehcmpjnaaDoorBlkE: the reader's draws while a list of instructions is being drawn: each keeps the list's state. Conditions: places at most 900000. -/
import Derived.Test.YtidmjeehcmpjnaaDoorBlkD
namespace Go.Proofs.YtidmjeehcmpjnaaDoor
open Go.ChangeShapes Go.WideShapes Go.ChangeAt Go.RowKit
set_option linter.unusedVariables false
section
variable {w0 w : World} {z a n : Nat} {bs : List Int} {q : Int} {v : Value}
theorem DC.shape (h : DC w0 z a bs q n w v) : ∃ ad len cap, v = .slice ad len cap ∧ len ≤ n ∧ len ≤ cap ∧ cap ≤ 9223372036854775807 := by
  obtain ⟨cs, ho, h1, _⟩ := h.own
  obtain ⟨_, ad, cap, rfl, h3, h4, _⟩ := rd_of_owns ho
  exact ⟨ad, cs.length, cap, rfl, h1, h3, by unfold maxLen at h4; omega⟩
/-- An empty list, to be drawn. -/
theorem DC.start (h : DC w0 z a bs q n w v) : DC w w.heap.size a bs q 0 (w.alloc (.cells #[] 42)) (.slice (some ⟨w.heap.size, 0, none⟩) 0 0) := by
  obtain ⟨p, hr, hp⟩ := h.rd
  have hoE : (w.alloc (.cells #[] 42)).ownsRow w.heap.size 42 4 (.slice (some ⟨w.heap.size, 0, none⟩) 0 0) 0 (cdCells []) := World.ownsRow_lit w #[] 0 (Nat.le_refl _) (by decide) rfl
  exact ⟨⟨p, hr.alloc _, hp⟩, ⟨[], hoE, Nat.le_refl _, by simp⟩, wr_alloc (Wr.refl _ _) _, by simp, Nat.le_refl _, hr.lt⟩
theorem DC.start0 {p : Int} (hr : Rdr w a bs p) : DC w w.heap.size a bs p 0 (w.alloc (.cells #[] 42)) (.slice (some ⟨w.heap.size, 0, none⟩) 0 0) := by
  have hoE : (w.alloc (.cells #[] 42)).ownsRow w.heap.size 42 4 (.slice (some ⟨w.heap.size, 0, none⟩) 0 0) 0 (cdCells []) := World.ownsRow_lit w #[] 0 (Nat.le_refl _) (by decide) rfl
  exact ⟨⟨p, hr.alloc _, Int.le_refl _⟩, ⟨[], hoE, Nat.le_refl _, by simp⟩, wr_alloc (Wr.refl _ _) _, by simp, Nat.le_refl _, hr.lt⟩
/-- What an inner draw has left is a step of the outer one. -/
theorem DC.over {w' : World} {z' n' : Nat} {q' q2 : Int} {v' : Value} (h : DC w0 z a bs q n w v) (h' : DC w z' a bs q' n' w' v') (hq : q' ≤ q2) : DC w0 z a bs q2 n w' v := by
  obtain ⟨p, hr, hp⟩ := h'.rd
  exact h.step h'.wr hr (Int.le_trans hp hq)
theorem pick_dc (k : Int) (h : DC w0 z a bs q n w v) (hq : q ≤ 1000000000) (hk : 1 ≤ k ∧ k ≤ 1000000000) : Calls Tryd.prog 52 #[.pointer (some ⟨a, 0, none⟩), .int .i64 k] w fun e w' => ∃ V, e = .returned (.int .i64 V) ∧ 0 ≤ V ∧ V < k ∧ DC w0 z a bs (q + 1) n w' v := by
  obtain ⟨p, hr, hp⟩ := h.rd
  have h0 := hr.nn
  obtain ⟨b1, b2⟩ := pickV_bd bs p k
  refine (pick_any a bs p k w hr (by omega) (by omega)).mono ?_
  rintro e w' ⟨rfl, hr', hw⟩
  exact ⟨_, rfl, b1, b2 (by omega), h.step hw hr' (by omega)⟩
theorem odd_dc (k : Int) (h : DC w0 z a bs q n w v) (hq : q ≤ 1000000000) (hk : 0 ≤ k ∧ k ≤ 1000000000) : Calls Tryd.prog 51 #[.pointer (some ⟨a, 0, none⟩), .int .i64 k] w fun e w' => ∃ V, e = .returned (.bool V) ∧ DC w0 z a bs (q + 1) n w' v := by
  obtain ⟨p, hr, hp⟩ := h.rd
  have h0 := hr.nn
  refine (odd_any a bs p k w hr (by omega) (by omega) (by omega)).mono ?_
  rintro e w' ⟨rfl, ⟨p', hr', h1, h2, _⟩, hw⟩
  exact ⟨_, rfl, h.step hw hr' (by omega)⟩
theorem plain_dc (h : DC w0 z a bs q n w v) (hq : q ≤ 1000000) : Calls Tryd.prog 69 #[.pointer (some ⟨a, 0, none⟩)] w fun e w' => ∃ c : Cd, e = .returned (.agg #[.int .i64 c.op, .int .i64 c.a, .int .i64 c.b, .int .i64 c.c]) ∧ cdIn c ∧ DC w0 z a bs (q + 5) n w' v := by
  obtain ⟨p, hr, hp⟩ := h.rd
  refine (l20Plain_any a bs p w hr (by omega)).mono ?_
  rintro e w' ⟨c, rfl, hc, p', hr', hp', hw⟩
  exact ⟨c, rfl, hc, h.step hw hr' (by omega)⟩
theorem code_dc (k : Int) (h : DC w0 z a bs q n w v) (hq : q ≤ 900000) (hk : 0 ≤ k ∧ k ≤ 1000000) : Calls Tryd.prog 59 #[.pointer (some ⟨a, 0, none⟩), .int .i64 k] w fun e w' => ∃ c : Cd, e = .returned (.agg #[.int .i64 c.op, .int .i64 c.a, .int .i64 c.b, .int .i64 c.c]) ∧ cdIn c ∧ DC w0 z a bs (q + 14) n w' v := by
  obtain ⟨p, hr, hp⟩ := h.rd
  refine (l20Code_any a bs p k w hr (by omega) (by omega) (by omega)).mono ?_
  rintro e w' ⟨c, rfl, hc, p', hr', hp', hw⟩
  exact ⟨c, rfl, hc, h.step hw hr' (by omega)⟩
/-- What a block's draw at a depth leaves: places moved by at most P, at most L instructions. -/
def BlkAt (a : Nat) (bs : List Int) (depth P U : Int) (L : Nat) : Prop := ∀ (q room : Int) (w w0 : World) (z n : Nat) (v : Value), DC w0 z a bs q n w v → q ≤ U → -1000000 ≤ room → room ≤ 1000 →
  Calls Tryd.prog 68 #[.pointer (some ⟨a, 0, none⟩), .int .i64 room, .int .i64 depth] w fun e w' => ∃ u, e = .returned u ∧ DC w0 z a bs (q + P) n w' v ∧ ∃ w1 z1 q1, DC w1 z1 a bs q1 L w' u
end
/-- A written list of instructions more. -/
theorem wpList_dcL {ops : Array Oper} {rest : List Oper} {o : Oper} {act : Act} {Q : Exit → Act → World → Prop} (w : World) (hgd : Region.wanted o (yielded ops act.tmps) = true) (s x : Operand) (ho : o.op = .call { callee := .builtin .append, args := #[s, x], argTypes := #[24, 24] })
    (ys : List Cd) (hy : ∀ c ∈ ys, cdIn c) (cells : Array Value) (hcl : cells = (cdCells ys).toArray) {w0 : World} {z a n : Nat} {bs : List Int} {q : Int} {v : Value} (h : DC w0 z a bs q n w v) (hn : n ≤ 1000000) (hm : ys.length ≤ 1000) (hs : act.eval s = v) (hx : act.eval x = .slice (some ⟨w.heap.size, 0, none⟩) ys.length ys.length)
    (hK : ∀ v' w', DC w0 z a bs q (n + ys.length) w' v' → wpList Tryd.prog ops Q rest (act.put o.dst v') w') :
    wpList Tryd.prog ops Q (o :: rest) act (w.alloc (.cells cells 42)) := by
  subst hcl
  have hu : (w.alloc (.cells (cdCells ys).toArray 42)).ownsRow w.heap.size 42 4 (.slice (some ⟨w.heap.size, 0, none⟩) ys.length ys.length) ys.length (cdCells ys).toArray.toList := World.ownsRow_lit w _ ys.length (Nat.le_refl _) (by unfold maxLen; omega) (by simp [cdCells_length])
  rw [List.toList_toArray] at hu
  obtain ⟨cs, ho1, h1, h2⟩ := (h.alloc (.cells (cdCells ys).toArray 42)).own
  refine wpList_app2g _ hgd s x 24 42 ho _ _ 4 32 (.agg #[.int .i64 0, .int .i64 0, .int .i64 0, .int .i64 0]) Tryd.underlying24 infoCode rfl (by decide) _ _ _ _ _ _ ho1 hu (oneC ys) hs hx (by omega) (by omega) (h.alloc _).size ?_
  intro v' w' ho3 hw _
  exact hK v' w' ((h.alloc _).grow (ys := ys) ho1 h1 h2 hy (Nat.le_refl _) ho3 hw)
end Go.Proofs.YtidmjeehcmpjnaaDoor
