/- YtidmjeehcmpjnaaDoorBlkF: a list of instructions that is being drawn: one more with its length, a written list ahead, an element replaced. No Go function is walked here. No conditions. -/
import Derived.Test.YtidmjeehcmpjnaaDoorBlkE
namespace Go.Proofs.YtidmjeehcmpjnaaDoor
open Go.ChangeShapes Go.WideShapes Go.ChangeAt Go.RowKit
set_option linter.unusedVariables false
/-- One instruction more, and the length. -/
theorem wpList_dc1n {ops : Array Oper} {rest : List Oper} {o : Oper} {act : Act} {Q : Exit → Act → World → Prop} (w : World) (hgd : o.guard = none) (s x : Operand) (ho : o.op = .call { callee := .builtin .append, args := #[s, x], argTypes := #[24, 24] })
    (c : Cd) (hc : cdIn c) {w0 : World} {z a n : Nat} {bs : List Int} {q : Int} {ad : Option Addr} {len cap : Nat} (h : DC w0 z a bs q n w (.slice ad len cap)) (hn : n ≤ 1000000) (hs : act.eval s = .slice ad len cap) (hx : act.eval x = .slice (some ⟨w.heap.size, 0, none⟩) 1 1)
    (hK : ∀ ad' cap' w', DC w0 z a bs q (n + 1) w' (.slice ad' (len + 1) cap') → wpList Tryd.prog ops Q rest (act.put o.dst (.slice ad' (len + 1) cap')) w') :
    wpList Tryd.prog ops Q (o :: rest) act (w.alloc (.cells #[.int .i64 c.op, .int .i64 c.a, .int .i64 c.b, .int .i64 c.c] 42)) := by
  obtain ⟨cs, ho1, h1, h2⟩ := h.own
  refine wpList_app1 w hgd s x 24 42 ho _ 4 32 [.int .i64 c.op, .int .i64 c.a, .int .i64 c.b, .int .i64 c.c] (.agg #[.int .i64 0, .int .i64 0, .int .i64 0, .int .i64 0]) Tryd.underlying24 infoCode rfl (by decide) rfl (by intro u hu; simp at hu; rcases hu with rfl | rfl | rfl | rfl <;> rfl) _ _ _ ho1 hs hx (by omega) (by omega) h.size ?_
  intro v' w' ho2 hw _
  obtain ⟨ad1, cap1, he⟩ := own_shape ho1
  obtain ⟨ad', cap', rfl⟩ := own_shape ho2
  have hl : cs.length = len := by injection he with _ h _; exact h.symm
  have hD := h.grow (m := 1) (ys := [c]) ho1 h1 h2 (by intro d hd; rw [List.mem_singleton.1 hd]; exact hc) (Nat.le_refl _) ho2 hw
  rw [hl] at hD ⊢
  exact hK _ _ w' hD
/-- A written list as a list being drawn. -/
theorem DC.lit {w0 w : World} {z a n : Nat} {bs : List Int} {q : Int} {v : Value} (h : DC w0 z a bs q n w v) (ys : List Cd) (hy : ∀ c ∈ ys, cdIn c) (hm : ys.length ≤ 1000) (cells : Array Value) (hcl : cells = (cdCells ys).toArray) :
    DC w0 z a bs q ys.length (w.alloc (.cells cells 42)) (.slice (some ⟨w.heap.size, 0, none⟩) ys.length ys.length) := by
  subst hcl
  have hu : (w.alloc (.cells (cdCells ys).toArray 42)).ownsRow w.heap.size 42 4 (.slice (some ⟨w.heap.size, 0, none⟩) ys.length ys.length) ys.length (cdCells ys).toArray.toList := World.ownsRow_lit w _ ys.length (Nat.le_refl _) (by unfold maxLen; omega) (by simp [cdCells_length])
  rw [List.toList_toArray] at hu
  have h2 := h.alloc (.cells (cdCells ys).toArray 42)
  exact ⟨h2.rd, ⟨ys, own_mono hu h.size, Nat.le_refl _, hy⟩, h2.wr, h2.size, h2.base, h2.ra⟩
theorem cdCells_set (cs : List Cd) : ∀ (k : Nat) (c : Cd), k < cs.length → ((((cdCells cs).set (k * 4) (.int .i64 c.op)).set (k * 4 + 1) (.int .i64 c.a)).set (k * 4 + 2) (.int .i64 c.b)).set (k * 4 + 3) (.int .i64 c.c) = cdCells (cs.set k c) := by
  induction cs with
  | nil => intro k c h; simp at h
  | cons d r ih =>
    intro k c h
    have e : ∀ (d : Cd) (r : List Cd), cdCells (d :: r) = .int .i64 d.op :: .int .i64 d.a :: .int .i64 d.b :: .int .i64 d.c :: cdCells r := fun _ _ => rfl
    cases k with
    | zero => rw [List.set_cons_zero, e, e]; rfl
    | succ j =>
      have h2 := ih j c (by simpa using h)
      rw [List.set_cons_succ, e, e, ← h2, show (j + 1) * 4 = j * 4 + 1 + 1 + 1 + 1 by omega]
      rfl
/-- The cells of an element of a list being drawn. -/
theorem DC.at {w0 w : World} {z a n : Nat} {bs : List Int} {q : Int} {ad : Option Addr} {len cap : Nat} (h : DC w0 z a bs q n w (.slice ad len cap)) (k : Nat) (hk : k < len) :
    ∃ g, ad = some ⟨g, 0, none⟩ ∧ g < w.heap.size ∧ ¬ g = a ∧ (∃ x0 x1 x2 x3, w.cell? ⟨g, k * 4, none⟩ = some (.int .i64 x0) ∧ w.cell? ⟨g, k * 4 + 1, none⟩ = some (.int .i64 x1) ∧ w.cell? ⟨g, k * 4 + 2, none⟩ = some (.int .i64 x2) ∧ w.cell? ⟨g, k * 4 + 3, none⟩ = some (.int .i64 x3)) ∧
      w.frozen? ⟨g, k * 4, none⟩ = false ∧ w.frozen? ⟨g, k * 4 + 1, none⟩ = false ∧ w.frozen? ⟨g, k * 4 + 2, none⟩ = false ∧ w.frozen? ⟨g, k * 4 + 3, none⟩ = false ∧
      ∀ c : Cd, cdIn c → DC w0 z a bs q n ((((w.setCell ⟨g, k * 4, none⟩ (.int .i64 c.op)).setCell ⟨g, k * 4 + 1, none⟩ (.int .i64 c.a)).setCell ⟨g, k * 4 + 2, none⟩ (.int .i64 c.b)).setCell ⟨g, k * 4 + 3, none⟩ (.int .i64 c.c)) (.slice ad len cap) := by
  obtain ⟨cs, ho, h1, h2⟩ := h.own
  rcases ho.2 with ⟨hv, hn⟩ | ⟨g, cap', cur, hv, hb, hg, hlc, hcm, hcz, htk⟩
  · injection hv with _ hl _; omega
  · have he : ad = some ⟨g, 0, none⟩ ∧ len = cs.length ∧ cap = cap' := by injection hv with e1 e2 e3; exact ⟨e1, e2, e3⟩
    obtain ⟨rfl, rfl, rfl⟩ := he
    have hgl := (Array.getElem?_eq_some_iff.1 hg).1
    have hba := h.base
    have hra := h.ra
    obtain ⟨d, hd⟩ := get_lt hk
    obtain ⟨g0, g1, g2, g3⟩ := cdCells_get cs k d hd
    rw [show 4 * k = k * 4 by omega] at g0 g1 g2 g3
    refine ⟨g, rfl, hgl, by omega, ⟨d.op, d.a, d.b, d.c, (ho.cellAt _ (by omega)).trans g0, (ho.cellAt _ (by omega)).trans g1, (ho.cellAt _ (by omega)).trans g2, (ho.cellAt _ (by omega)).trans g3⟩, ho.frozenAt _, ho.frozenAt _, ho.frozenAt _, ho.frozenAt _, fun c hc => ?_⟩
    obtain ⟨hst, hgr⟩ := stored4 ho (k * 4) (.int .i64 c.op) (.int .i64 c.a) (.int .i64 c.b) (.int .i64 c.c)
    rw [cdCells_set cs k c hk] at hst
    have hw := Wr.of_grown hgr
    obtain ⟨p, hr, hp⟩ := h.rd
    refine ⟨⟨p, hr.wr hw (fun x hx => by injection hx with hx; omega), hp⟩, ⟨cs.set k c, by rw [List.length_set]; exact hst, by rw [List.length_set]; exact h1, fun e he => ?_⟩, ?_, Nat.le_trans h.size hw.size, hba, hra⟩
    · rcases List.mem_or_eq_of_mem_set he with he | rfl
      · exact h2 e he
      · exact hc
    · exact ⟨hw.os.trans h.wr.os, hw.tape.trans h.wr.tape, hw.output.trans h.wr.output, Nat.le_trans h.wr.size hw.size, fun x hx hp => (hw.block x (Nat.lt_of_lt_of_le hx h.wr.size) (fun hh => by injection hh with hh; omega)).trans (h.wr.block x hx hp)⟩
end Go.Proofs.YtidmjeehcmpjnaaDoor
