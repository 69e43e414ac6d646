/- YtmjkjdibolcblaaLawL: what the laws on steps and runs of lanes carry along. No Go function is walked here. No conditions. -/
import Derived.Test.YtmjkjdibolcblaaMachU
import Derived.Test.YtmjkjdibolcblaaLaneO
import Derived.Test.YtmjkjdibolcblaaCodeK
namespace Go.Proofs.Ytmjkjdibolcblaa
open Go.ChangeShapes Go.WideShapes Go.ChangeAt Go.RowKit
set_option linter.unusedVariables false
/-- A lane in new memory, from block base on, and its box. -/
structure KL (w : World) (b base : Nat) (r t : Value) (l : Ln) : Prop where
  box : Box4 w b r (.int .i64 l.pc) t (.bool l.waits)
  own : OwnLn w base r t l
theorem KL.below {w w' : World} {b base : Nat} {r t : Value} {l : Ln} (h : KL w b base r t l) (hb : Below w.heap.size w w') : KL w' b base r t l := ⟨h.box.below hb (Nat.le_refl _), h.own.below hb (Nat.le_refl _)⟩
theorem OwnLn.wr {w w' : World} {base : Nat} {r t : Value} {l : Ln} {p : Nat → Prop} (h : OwnLn w base r t l) (hw : Wr w w' p) (h1 : ∀ k, r.ownBlock = some k → ¬ p k) (h2 : ∀ k, t.ownBlock = some k → ¬ p k) : OwnLn w' base r t l := ⟨hw.owns h.1 h1, hw.owns h.2.1 h2, h.2.2⟩
theorem KL.wr {w w' : World} {b base : Nat} {r t : Value} {l : Ln} {p : Nat → Prop} (h : KL w b base r t l) (hw : Wr w w' p) (hb : ¬ p b) (h1 : ∀ k, r.ownBlock = some k → ¬ p k) (h2 : ∀ k, t.ownBlock = some k → ¬ p k) : KL w' b base r t l := ⟨h.box.wr hw hb, h.own.wr hw h1 h2⟩
theorem KL.new {w : World} {base : Nat} {r t : Value} {l : Ln} (h : OwnLn w base r t l) : KL (w.alloc (.cells #[r, .int .i64 l.pc, t, .bool l.waits] 31)) w.heap.size base r t l := ⟨Box4.new w _ _ _ _ _, h.below (below_alloc w _) (Nat.le_refl _)⟩
/-- The result of a step or a run is fit to be compared and marked. -/
structure GoodR (L : Ln) (M : List Int) : Prop where
  r : ∀ x ∈ L.regs, (Lit.int .i64 x).wf = true
  t : ∀ x ∈ L.turns, (Lit.int .i64 x).wf = true
  m : ∀ x ∈ M, (Lit.int .i64 x).wf = true
  nr : L.regs.length ≤ 4
  nt : L.turns.length ≤ 3
  nm : M.length ≤ 32
theorem goodR_of {cs : List Cd} {L : Ln} {M : List Int} (hp : pValid cs = true) (h : LOK cs L) (hm : MOK M) : GoodR L M := by
  obtain ⟨_, _, h3, h4, h5⟩ := lok_small hp h
  exact ⟨fun x hx => WalkArith.wf_i64 (by have := h.regs x hx; omega), fun x hx => WalkArith.wf_i64 (by have := h5 x hx; omega), fun x hx => WalkArith.wf_i64 (by have := hm.2 x hx; omega), by omega, h4, hm.1.2⟩
theorem goodR_zero : GoodR lnZ [] := ⟨fun x hx => (by cases hx), fun x hx => (by cases hx), fun x hx => (by cases hx), by decide, by decide, by decide⟩
theorem stepOk_parts {l : Ln} {cs : List Cd} {id : Int} {ms : List Int} (h : stepOk l cs id ms = true) : pValid cs = true ∧ LOK cs l ∧ MOK ms ∧ 0 ≤ id ∧ id ≤ 7 := by
  unfold stepOk at h
  simp only [Bool.and_eq_true] at h
  obtain ⟨h1, h2, _⟩ := lValid_ok h.1
  exact ⟨h1, h2, memValid_ok h.2.1, inB_i h.2.2⟩
theorem stepV_good (l : Ln) (cs : List Cd) (id : Int) (ms : List Int) : GoodR (stepV l cs id ms).1 (stepV l cs id ms).2 := by
  unfold stepV
  cases hs : stepOk l cs id ms with
  | false => exact goodR_zero
  | true =>
    obtain ⟨hp, hk, hm, hid⟩ := stepOk_parts hs
    rw [if_pos rfl]
    cases hw : (l.waits || (l.pc == cs.length)) with
    | true => rw [if_pos rfl]; exact goodR_of hp hk hm
    | false =>
      rw [if_neg (by simp)]
      simp only [Bool.or_eq_false_iff, beq_eq_false_iff_ne] at hw
      have hpc := hk.pc
      obtain ⟨h1, h2, _⟩ := step_ok (id := id) hp hk hm hid (by have := hw.2; omega)
      exact goodR_of hp h1 h2
theorem runV_good {l : Ln} {cs : List Cd} {id : Int} {ms : List Int} {L : Ln} {M : List Int} (h : RunV l cs id ms L M) : GoodR L M := by
  unfold RunV at h
  cases hs : stepOk l cs id ms with
  | false =>
    rw [hs, if_neg (by simp)] at h
    rw [h.1, h.2]; exact goodR_zero
  | true =>
    rw [hs, if_pos rfl] at h
    obtain ⟨hp, hk, hm, hid⟩ := stepOk_parts hs
    obtain ⟨L', M', h1, h2, h3, _⟩ := runs_ex hp hid _ _ _ hk.unwait hm (Nat.lt_succ_self _)
    obtain ⟨rfl, rfl⟩ := h1.fun h
    exact goodR_of hp h2 h3
def StepVP (l : Ln) (cs : List Cd) (id : Int) (ms : List Int) (L : Ln) (M : List Int) : Prop := stepV l cs id ms = (L, M)
/-- What the law has in memory ahead of the comparisons: b10 the reference's result, b12 the copy that was handed over, b15 the program's result. -/
structure LS (w0 : World) (b10 b12 b13 b14 b15 : Nat) (r t : Value) (l : Ln) (cs : List Cd) (ms : List Int) (rw tw mw r6 t6 v7 v8 r9 t9 m9 : Value) (L : Ln) (M : List Int) (wr : World) : Prop where
  bel : Below w0.heap.size w0 wr
  xa : Box4 wr w0.heap.size r (.int .i64 l.pc) t (.bool l.waits)
  k10 : KL wr b10 w0.heap.size rw tw L
  m10 : OwI w0.heap.size wr mw M
  k12 : KL wr b12 b10 r6 t6 l
  c12 : wr.ownsRow b12 24 4 v7 cs.length (cdCells cs)
  m12 : OwI b13 wr v8 ms
  k15 : KL wr b15 b14 r9 t9 L
  m15 : OwI b14 wr m9 M
  nd2 : ∀ k, m9.ownBlock = some k → r9.ownBlock ≠ some k ∧ t9.ownBlock ≠ some k
  ord : w0.heap.size < b10 ∧ b10 < b12 ∧ b12 < b13 ∧ b13 ≤ b14 ∧ b14 ≤ b15
  up10 : ∀ k, rw.ownBlock = some k ∨ tw.ownBlock = some k ∨ mw.ownBlock = some k → k < b10
  lo12 : ∀ k, r6.ownBlock = some k ∨ t6.ownBlock = some k → b10 < k
  up12 : ∀ k, r6.ownBlock = some k ∨ t6.ownBlock = some k → k < b12
  lo13 : ∀ k, v7.ownBlock = some k → b12 < k ∧ k < b13
  up13 : ∀ k, v8.ownBlock = some k → k < b14
  up15 : ∀ k, r9.ownBlock = some k ∨ t9.ownBlock = some k ∨ m9.ownBlock = some k → k < b15
theorem LS.below {w0 : World} {b10 b12 b13 b14 b15 : Nat} {r t : Value} {l : Ln} {cs : List Cd} {ms : List Int} {rw tw mw r6 t6 v7 v8 r9 t9 m9 : Value} {L : Ln} {M : List Int} {wr : World} (h : LS w0 b10 b12 b13 b14 b15 r t l cs ms rw tw mw r6 t6 v7 v8 r9 t9 m9 L M wr) {w3 : World} (hb : Below wr.heap.size wr w3) :
    LS w0 b10 b12 b13 b14 b15 r t l cs ms rw tw mw r6 t6 v7 v8 r9 t9 m9 L M w3 :=
  ⟨h.bel.trans (hb.mono h.bel.size), h.xa.below hb (Nat.le_refl _), h.k10.below hb, h.m10.below hb, h.k12.below hb, owns_below h.c12 hb (Nat.le_refl _), h.m12.below hb, h.k15.below hb, h.m15.below hb, h.nd2, h.ord, h.up10, h.lo12, h.up12, h.lo13, h.up13, h.up15⟩
/-- The same without the copy that was handed over. -/
structure LT (w0 : World) (b10 b14 b15 : Nat) (r t : Value) (l : Ln) (rw tw mw r9 t9 m9 : Value) (L : Ln) (M : List Int) (G : Ln) (N : List Int) (wr : World) : Prop where
  bel : Below w0.heap.size w0 wr
  xa : Box4 wr w0.heap.size r (.int .i64 l.pc) t (.bool l.waits)
  k10 : KL wr b10 w0.heap.size rw tw L
  m10 : OwI w0.heap.size wr mw M
  k15 : KL wr b15 b14 r9 t9 G
  m15 : OwI b14 wr m9 N
  nd2 : ∀ k, m9.ownBlock = some k → r9.ownBlock ≠ some k ∧ t9.ownBlock ≠ some k
  ord : w0.heap.size < b10 ∧ b10 < b14 ∧ b14 ≤ b15
  up10 : ∀ k, rw.ownBlock = some k ∨ tw.ownBlock = some k ∨ mw.ownBlock = some k → k < b10
  up15 : ∀ k, r9.ownBlock = some k ∨ t9.ownBlock = some k ∨ m9.ownBlock = some k → k < b15
section
variable {w0 : World} {b10 b12 b13 b14 b15 : Nat} {r t : Value} {l : Ln} {cs : List Cd} {ms : List Int} {rw tw mw r6 t6 v7 v8 r9 t9 m9 : Value} {L G : Ln} {M N : List Int} {wr w3 : World} {p : Nat → Prop}
theorem LT.below (h : LT w0 b10 b14 b15 r t l rw tw mw r9 t9 m9 L M G N wr) (hb : Below wr.heap.size wr w3) : LT w0 b10 b14 b15 r t l rw tw mw r9 t9 m9 L M G N w3 :=
  ⟨h.bel.trans (hb.mono h.bel.size), h.xa.below hb (Nat.le_refl _), h.k10.below hb, h.m10.below hb, h.k15.below hb, h.m15.below hb, h.nd2, h.ord, h.up10, h.up15⟩
theorem LS.lt (h : LS w0 b10 b12 b13 b14 b15 r t l cs ms rw tw mw r6 t6 v7 v8 r9 t9 m9 L M wr) : LT w0 b10 b14 b15 r t l rw tw mw r9 t9 m9 L M L M wr :=
  ⟨h.bel, h.xa, h.k10, h.m10, h.k15, h.m15, h.nd2, by have := h.ord; omega, h.up10, h.up15⟩
/-- Blocks between the reference's result and the program's are written. -/
theorem LT.wrt (h : LT w0 b10 b14 b15 r t l rw tw mw r9 t9 m9 L M G N wr) (hw : Wr wr w3 p) (hp : ∀ k, p k → b10 < k ∧ k < b14) : LT w0 b10 b14 b15 r t l rw tw mw r9 t9 m9 L M G N w3 := by
  have ho := h.ord
  have hx := h.xa.lt
  have hge := own_ge h.k15.own.1
  have hge2 := own_ge h.k15.own.2.1
  have hge3 := own_ge h.m15
  have hu := h.up10
  exact ⟨Below.wr h.bel hw (by omega) (fun k hk => by have := hp k hk; omega), h.xa.wr hw (fun hh => by have := hp _ hh; omega), h.k10.wr hw (fun hh => by have := hp _ hh; omega) (fun k hk hh => by have := hp k hh; have := hu k (.inl hk); omega) (fun k hk hh => by have := hp k hh; have := hu k (.inr (.inl hk)); omega), hw.owns h.m10 (fun k hk hh => by have := hp k hh; have := hu k (.inr (.inr hk)); omega),
    h.k15.wr hw (fun hh => by have := hp _ hh; omega) (fun k hk hh => by have := hp k hh; have := hge k hk; omega) (fun k hk hh => by have := hp k hh; have := hge2 k hk; omega), hw.owns h.m15 (fun k hk hh => by have := hp k hh; have := hge3 k hk; omega), h.nd2, h.ord, h.up10, h.up15⟩
/-- The program's lane is marked. -/
theorem LT.markL (h : LT w0 b10 b14 b15 r t l rw tw mw r9 t9 m9 L M G N wr) {G' : Ln} (hw : Wr wr w3 (fun k => r9.ownBlock = some k ∨ t9.ownBlock = some k)) (ho : OwnLn w3 b14 r9 t9 G') (hpc : G'.pc = G.pc) (hwt : G'.waits = G.waits) : LT w0 b10 b14 b15 r t l rw tw mw r9 t9 m9 L M G' N w3 := by
  have hor := h.ord
  have hx := h.xa.lt
  have hge := own_ge h.k15.own.1
  have hge2 := own_ge h.k15.own.2.1
  have hu := h.up10
  have hu5 := h.up15
  have hn := h.nd2
  have hp : ∀ k, (r9.ownBlock = some k ∨ t9.ownBlock = some k) → b14 ≤ k ∧ k < b15 := fun k hk => by
    rcases hk with hk | hk
    · exact ⟨hge k hk, hu5 k (.inl hk)⟩
    · exact ⟨hge2 k hk, hu5 k (.inr (.inl hk))⟩
  have hbx := h.k15.box.wr hw (fun hh => by have := hp _ hh; omega)
  rw [← hpc, ← hwt] at hbx
  exact ⟨Below.wr h.bel hw (by omega) (fun k hk => by have := hp k hk; omega), h.xa.wr hw (fun hh => by have := hp _ hh; omega), h.k10.wr hw (fun hh => by have := hp _ hh; omega) (fun k hk hh => by have := hp k hh; have := hu k (.inl hk); omega) (fun k hk hh => by have := hp k hh; have := hu k (.inr (.inl hk)); omega), hw.owns h.m10 (fun k hk hh => by have := hp k hh; have := hu k (.inr (.inr hk)); omega),
    ⟨hbx, ho⟩, hw.owns h.m15 (fun k hk hh => by rcases hh with hh | hh; exact (hn k hk).1 hh; exact (hn k hk).2 hh), h.nd2, h.ord, h.up10, h.up15⟩
/-- The program's memory is marked. -/
theorem LT.markM (h : LT w0 b10 b14 b15 r t l rw tw mw r9 t9 m9 L M G N wr) {N' : List Int} (hw : Wr wr w3 (fun k => m9.ownBlock = some k)) (ho : OwI b14 w3 m9 N') : LT w0 b10 b14 b15 r t l rw tw mw r9 t9 m9 L M G N' w3 := by
  have hor := h.ord
  have hx := h.xa.lt
  have hge := own_ge h.m15
  have hu := h.up10
  have hu5 := h.up15
  have hn := h.nd2
  have hp : ∀ k, m9.ownBlock = some k → b14 ≤ k ∧ k < b15 := fun k hk => ⟨hge k hk, hu5 k (.inr (.inr hk))⟩
  exact ⟨Below.wr h.bel hw (by omega) (fun k hk => by have := hp k hk; omega), h.xa.wr hw (fun hh => by have := hp _ hh; omega), h.k10.wr hw (fun hh => by have := hp _ hh; omega) (fun k hk hh => by have := hp k hh; have := hu k (.inl hk); omega) (fun k hk hh => by have := hp k hh; have := hu k (.inr (.inl hk)); omega), hw.owns h.m10 (fun k hk hh => by have := hp k hh; have := hu k (.inr (.inr hk)); omega),
    h.k15.wr hw (fun hh => by have := hp _ hh; omega) (fun k hk hh => (hn k hh).1 hk) (fun k hk hh => (hn k hh).2 hk), ho, h.nd2, h.ord, h.up10, h.up15⟩
end
end Go.Proofs.Ytmjkjdibolcblaa
