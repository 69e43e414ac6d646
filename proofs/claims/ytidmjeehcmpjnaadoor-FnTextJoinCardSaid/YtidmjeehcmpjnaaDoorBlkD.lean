/- YtidmjeehcmpjnaaDoorBlkD: the state while a list of instructions is drawn: the list in new memory, the reader, old memory unchanged but for the reader. No Go function is walked here. No conditions. -/
import Derived.Test.YtidmjeehcmpjnaaDoorDrawK
import Derived.Test.YtidmjeehcmpjnaaDoorAppS
namespace Go.Proofs.YtidmjeehcmpjnaaDoor
open Go.ChangeShapes Go.WideShapes Go.ChangeAt Go.RowKit
set_option linter.unusedVariables false
/-- A list of at most n instructions with numbers in bounds, in memory from block z on; the reader a at a place of at most q. -/
structure DC (w0 : World) (z a : Nat) (bs : List Int) (q : Int) (n : Nat) (w : World) (v : Value) : Prop where
  rd : ∃ p, Rdr w a bs p ∧ p ≤ q
  own : ∃ cs : List Cd, w.ownsRow z 42 4 v cs.length (cdCells cs) ∧ cs.length ≤ n ∧ ∀ c ∈ cs, cdIn c
  wr : Wr w0 w (fun b => b = a)
  size : z ≤ w.heap.size
  base : w0.heap.size ≤ z
  ra : a < w0.heap.size
theorem DC.step {w0 w w' : World} {z a n : Nat} {bs : List Int} {q p : Int} {v : Value} (h : DC w0 z a bs q n w v) (hw : Wr w w' (fun b => b = a)) (hr : Rdr w' a bs p) {q' : Int} (hp : p ≤ q') : DC w0 z a bs q' n w' v := by
  obtain ⟨cs, ho, h1, h2⟩ := h.own
  have h3 := h.ra
  have h5 := h.base
  exact ⟨⟨p, hr, hp⟩, ⟨cs, hw.owns ho (fun k hk (hh : k = a) => by have := own_ge ho k hk; omega), h1, h2⟩, h.wr.trans hw, Nat.le_trans h.size hw.size, h5, h3⟩
theorem DC.alloc {w0 w : World} {z a n : Nat} {bs : List Int} {q : Int} {v : Value} (h : DC w0 z a bs q n w v) (o : Obj) : DC w0 z a bs q n (w.alloc o) v := by
  obtain ⟨p, hr, hp⟩ := h.rd
  exact h.step (wr_alloc (Wr.refl _ _) o) (hr.alloc o) hp
theorem DC.mono {w0 w : World} {z a n n' : Nat} {bs : List Int} {q q' : Int} {v : Value} (h : DC w0 z a bs q n w v) (hq : q ≤ q') (hn : n ≤ n') : DC w0 z a bs q' n' w v := by
  obtain ⟨p, hr, hp⟩ := h.rd
  obtain ⟨cs, ho, h1, h2⟩ := h.own
  exact ⟨⟨p, hr, Int.le_trans hp hq⟩, ⟨cs, ho, Nat.le_trans h1 hn, h2⟩, h.wr, h.size, h.base, h.ra⟩
theorem cdCells_app (xs ys : List Cd) : cdCells (xs ++ ys) = cdCells xs ++ cdCells ys := by
  unfold cdCells; simp
theorem DC.grow {w0 w w' : World} {z a n m : Nat} {bs : List Int} {q : Int} {v v' : Value} {cs ys : List Cd} (h : DC w0 z a bs q n w v) (ho : w.ownsRow z 42 4 v cs.length (cdCells cs)) (hn : cs.length ≤ n) (hc : ∀ c ∈ cs, cdIn c) (hy : ∀ c ∈ ys, cdIn c) (hm : ys.length ≤ m) (ho' : w'.ownsRow z 42 4 v' (cs.length + ys.length) (cdCells cs ++ cdCells ys)) (hw : Wr w w' (fun b => v.ownBlock = some b)) : DC w0 z a bs q (n + m) w' v' := by
  obtain ⟨p, hr, hp⟩ := h.rd
  have h3 := h.ra
  have h5 := h.base
  have hge := own_ge ho
  refine ⟨⟨p, hr.wr hw (fun k hk => by have := hge k hk; omega), hp⟩, ⟨cs ++ ys, by rw [List.length_append, cdCells_app]; exact ho', by rw [List.length_append]; omega, ?_⟩, ?_, Nat.le_trans h.size hw.size, h5, h3⟩
  · intro c hm
    rcases List.mem_append.1 hm with hm | hm
    · exact hc c hm
    · exact hy c hm
  · exact ⟨hw.os.trans h.wr.os, hw.tape.trans h.wr.tape, hw.output.trans h.wr.output, Nat.le_trans h.wr.size hw.size, fun k hk hp => (hw.block k (Nat.lt_of_lt_of_le hk h.wr.size) (fun hh => by have := hge k hh; omega)).trans (h.wr.block k hk hp)⟩
/-- One instruction more. -/
theorem wpList_dc1 {ops : Array Oper} {rest : List Oper} {o : Oper} {act : Act} {Q : Exit → Act → World → Prop} (w : World) (hgd : o.guard = none) (s x : Operand) (ho : o.op = .call { callee := .builtin .append, args := #[s, x], argTypes := #[24, 24] })
    (c : Cd) (hc : cdIn c) {w0 : World} {z a n : Nat} {bs : List Int} {q : Int} {v : Value} (h : DC w0 z a bs q n w v) (hn : n ≤ 1000000) (hs : act.eval s = v) (hx : act.eval x = .slice (some ⟨w.heap.size, 0, none⟩) 1 1)
    (hK : ∀ v' w', DC w0 z a bs q (n + 1) w' v' → wpList Tryd.prog ops Q rest (act.put o.dst v') w') :
    wpList Tryd.prog ops Q (o :: rest) act (w.alloc (.cells #[.int .i64 c.op, .int .i64 c.a, .int .i64 c.b, .int .i64 c.c] 42)) := by
  obtain ⟨cs, ho1, h1, h2⟩ := h.own
  refine wpList_app1 w hgd s x 24 42 ho _ 4 32 [.int .i64 c.op, .int .i64 c.a, .int .i64 c.b, .int .i64 c.c] (.agg #[.int .i64 0, .int .i64 0, .int .i64 0, .int .i64 0]) Tryd.underlying24 infoCode rfl (by decide) rfl (by intro u hu; simp at hu; rcases hu with rfl | rfl | rfl | rfl <;> rfl) _ _ _ ho1 hs hx (by omega) (by omega) h.size ?_
  intro v' w' ho2 hw _
  exact hK v' w' (h.grow (m := 1) (ys := [c]) ho1 h1 h2 (by intro d hd; rw [List.mem_singleton.1 hd]; exact hc) (Nat.le_refl _) ho2 hw)
/-- A list of instructions more. -/
theorem wpList_dc2 {ops : Array Oper} {rest : List Oper} {o : Oper} {act : Act} {Q : Exit → Act → World → Prop} (w : World) (hgd : Region.wanted o (yielded ops act.tmps) = true) (s x : Operand) (ho : o.op = .call { callee := .builtin .append, args := #[s, x], argTypes := #[24, 24] })
    {w0 w1 : World} {z z1 a n m : Nat} {bs : List Int} {q q1 : Int} {v u : Value} (h : DC w0 z a bs q n w v) (hu : DC w1 z1 a bs q1 m w u) (hn : n ≤ 1000000) (hm : m ≤ 1000000) (hs : act.eval s = v) (hx : act.eval x = u)
    (hK : ∀ v' w', DC w0 z a bs q (n + m) w' v' → wpList Tryd.prog ops Q rest (act.put o.dst v') w') :
    wpList Tryd.prog ops Q (o :: rest) act w := by
  obtain ⟨cs, ho1, h1, h2⟩ := h.own
  obtain ⟨ys, ho2, h3, h4⟩ := hu.own
  refine wpList_app2g w hgd s x 24 42 ho _ _ 4 32 (.agg #[.int .i64 0, .int .i64 0, .int .i64 0, .int .i64 0]) Tryd.underlying24 infoCode rfl (by decide) _ _ _ _ _ _ ho1 ho2 (oneC ys) hs hx (by omega) (by omega) h.size ?_
  intro v' w' ho3 hw _
  exact hK v' w' (h.grow (ys := ys) ho1 h1 h2 h4 h3 ho3 hw)
/-- What a draw of a list leaves. -/
def BlkD (w : World) (a : Nat) (bs : List Int) (q : Int) (n : Nat) (e : Ending) (w' : World) : Prop :=
  ∃ v, e = .returned v ∧ DC w w.heap.size a bs q n w' v
end Go.Proofs.YtidmjeehcmpjnaaDoor
