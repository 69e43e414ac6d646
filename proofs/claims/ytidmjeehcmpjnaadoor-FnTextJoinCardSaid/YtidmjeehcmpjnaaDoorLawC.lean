/- YtidmjeehcmpjnaaDoorLawC: lists of instructions of a law's own: read by the contracts, put together. No Go function is walked here. No conditions. -/
import Derived.Test.YtidmjeehcmpjnaaDoorBlkE
namespace Go.Proofs.YtidmjeehcmpjnaaDoor
open Go.ChangeShapes Go.WideShapes Go.ChangeAt Go.RowKit
set_option linter.unusedVariables false
/-- A list of instructions with numbers in bounds, in memory from block B on. -/
structure OC (B : Nat) (w : World) (v : Value) (cs : List Cd) : Prop where
  own : w.ownsRow B 42 4 v cs.length (cdCells cs)
  inn : ∀ c ∈ cs, cdIn c
theorem OC.rd {B : Nat} {w : World} {v : Value} {cs : List Cd} (h : OC B w v cs) : RdC w v cs := rdC_of_owns h.own (fun c hc => (h.inn c hc).wf)
theorem OC.below {B : Nat} {w w' : World} {v : Value} {cs : List Cd} (h : OC B w v cs) (hb : Below w.heap.size w w') : OC B w' v cs := ⟨owns_below h.own hb (Nat.le_refl _), h.inn⟩
theorem OC.lit (w : World) (ys : List Cd) (hy : ∀ c ∈ ys, cdIn c) (hm : ys.length ≤ 1000) : OC w.heap.size (w.alloc (.cells (cdCells ys).toArray 42)) (.slice (some ⟨w.heap.size, 0, none⟩) ys.length ys.length) ys := by
  have hu : (w.alloc (.cells (cdCells ys).toArray 42)).ownsRow w.heap.size 42 4 (.slice (some ⟨w.heap.size, 0, none⟩) ys.length ys.length) ys.length (cdCells ys).toArray.toList := World.ownsRow_lit w _ ys.length (Nat.le_refl _) (by unfold maxLen; omega) (by simp [cdCells_length])
  rw [List.toList_toArray] at hu
  exact ⟨hu, hy⟩
theorem OC.shape {B : Nat} {w : World} {v : Value} {cs : List Cd} (h : OC B w v cs) : ∃ ad cap, v = .slice ad cs.length cap ∧ cs.length ≤ cap ∧ cap ≤ 9223372036854775807 := h.rd.shape
theorem belowA (w : World) (o : Obj) : Below w.heap.size w (w.alloc o) := (Below.refl _ _).alloc (Nat.le_refl _) _
theorem wpList_ocA {ops : Array Oper} {rest : List Oper} {o : Oper} {act : Act} {Q : Exit → Act → World → Prop} (w : World) (hgd : Region.wanted o (yielded ops act.tmps) = true) (s x : Operand) (ho : o.op = .call { callee := .builtin .append, args := #[s, x], argTypes := #[24, 24] })
    {B B2 : Nat} {u v : Value} {xs ys : List Cd} (hu : OC B w u xs) (hv : OC B2 w v ys) (hB : B ≤ w.heap.size) (hl1 : xs.length ≤ 1000000) (hl2 : ys.length ≤ 1000000) (hs : act.eval s = u) (hx : act.eval x = v)
    (hK : ∀ v' w', OC B w' v' (xs ++ ys) → Below B w w' → wpList Tryd.prog ops Q rest (act.put o.dst v') w') :
    wpList Tryd.prog ops Q (o :: rest) act w := by
  refine wpList_app2g w hgd s x 24 42 ho _ _ 4 32 (.agg #[.int .i64 0, .int .i64 0, .int .i64 0, .int .i64 0]) Tryd.underlying24 infoCode rfl (by decide) _ _ _ _ _ _ hu.own hv.own (oneC ys) hs hx (by omega) (by omega) hB ?_
  intro v' w' ho3 hw hb
  refine hK v' w' ⟨by rw [List.length_append, cdCells_app]; exact ho3, fun c hc => ?_⟩ (hw.below hB (own_ge hu.own))
  rcases List.mem_append.1 hc with hc | hc
  · exact hu.inn c hc
  · exact hv.inn c hc
/-- A written list, and a list behind it. -/
theorem wpList_ocL {ops : Array Oper} {rest : List Oper} {o : Oper} {act : Act} {Q : Exit → Act → World → Prop} (w : World) (hgd : Region.wanted o (yielded ops act.tmps) = true) (s x : Operand) (ho : o.op = .call { callee := .builtin .append, args := #[s, x], argTypes := #[24, 24] })
    (xs : List Cd) (hy : ∀ c ∈ xs, cdIn c) (cells : Array Value) (hcl : cells = (cdCells xs).toArray) {B2 : Nat} {v : Value} {ys : List Cd} (hv : OC B2 w v ys) (hl1 : xs.length ≤ 1000) (hl2 : ys.length ≤ 1000000) (hs : act.eval s = .slice (some ⟨w.heap.size, 0, none⟩) xs.length xs.length) (hx : act.eval x = v)
    (hK : ∀ v' w', OC w.heap.size w' v' (xs ++ ys) → Below w.heap.size w w' → wpList Tryd.prog ops Q rest (act.put o.dst v') w') :
    wpList Tryd.prog ops Q (o :: rest) act (w.alloc (.cells cells 42)) := by
  subst hcl
  exact wpList_ocA _ hgd s x ho (OC.lit w xs hy hl1) (hv.below (belowA w _)) (by simp) (by omega) hl2 hs hx fun v' w' h1 h2 => hK v' w' h1 ((belowA w _).trans h2)
/-- A list, and a written one behind it. -/
theorem wpList_ocR {ops : Array Oper} {rest : List Oper} {o : Oper} {act : Act} {Q : Exit → Act → World → Prop} (w : World) (hgd : Region.wanted o (yielded ops act.tmps) = true) (s x : Operand) (ho : o.op = .call { callee := .builtin .append, args := #[s, x], argTypes := #[24, 24] })
    (ys : List Cd) (hy : ∀ c ∈ ys, cdIn c) (cells : Array Value) (hcl : cells = (cdCells ys).toArray) {B : Nat} {u : Value} {xs : List Cd} (hu : OC B w u xs) (hB : B ≤ w.heap.size) (hl1 : xs.length ≤ 1000000) (hl2 : ys.length ≤ 1000) (hs : act.eval s = u) (hx : act.eval x = .slice (some ⟨w.heap.size, 0, none⟩) ys.length ys.length)
    (hK : ∀ v' w', OC B w' v' (xs ++ ys) → Below B w w' → wpList Tryd.prog ops Q rest (act.put o.dst v') w') :
    wpList Tryd.prog ops Q (o :: rest) act (w.alloc (.cells cells 42)) := by
  subst hcl
  exact wpList_ocA _ hgd s x ho (hu.below (belowA w _)) (OC.lit w ys hy hl2) (by simp; omega) hl1 (by omega) hs hx fun v' w' h1 h2 => hK v' w' h1 (((belowA w _).mono hB).trans h2)
end Go.Proofs.YtidmjeehcmpjnaaDoor
