/- YtmjkjdibolcblaaMachE: the state of the program's machine at work on a lane; what its steps leave of that. No Go function is walked here. Conditions: none. -/
import Derived.Test.YtmjkjdibolcblaaMachD
namespace Go.Proofs.Ytmjkjdibolcblaa
open Go.ChangeShapes Go.WideShapes Go.ChangeAt Go.RowKit
set_option linter.unusedVariables false
/-- The machine in blocks lo to m, the lane in block X, the memory in block gm; w0 is the world in which the call began, b its size. -/
structure RI (w0 : World) (b lo m X gm cm : Nat) (lv r t : Value) (l : Ln) (ms : List Int) (cs : List Cd) (wr : World) : Prop where
  wb : w0.heap.size = b
  kB : Below b w0 wr
  mach : Mach cs wr lo m lv
  bl : b ≤ lo
  Xl : b ≤ X ∧ X < lo
  gl : gm < lo
  gX : gm ≠ X
  kX : Box4 wr X r (.int .i64 l.pc) t (.bool l.waits)
  fX : ∀ o, wr.frozen? ⟨X, o, none⟩ = false
  nr : OwI b wr r l.regs
  nt : OwI b wr t l.turns
  nd : ∀ k, r.ownBlock = some k → t.ownBlock ≠ some k
  xr : ∀ k, r.ownBlock = some k → k ≠ X ∧ k ≠ gm ∧ (k < lo ∨ m < k)
  xt : ∀ k, t.ownBlock = some k → k ≠ X ∧ k ≠ gm ∧ (k < lo ∨ m < k)
  mm : OI b wr gm cm ms
section
variable {w0 : World} {b lo m X gm cm : Nat} {lv r t : Value} {l : Ln} {ms : List Int} {cs : List Cd} {wr : World}
theorem Mach.lt {w : World} (h : Mach cs w lo m lv) : lo ≤ m ∧ m < w.heap.size := by
  obtain ⟨hi, va, vo, _, h2, h3, h4, _⟩ := h
  exact ⟨by omega, h4⟩
theorem RI.below (h : RI w0 b lo m X gm cm lv r t l ms cs wr) {w3 : World} (hb : Below wr.heap.size wr w3) : RI w0 b lo m X gm cm lv r t l ms cs w3 := by
  have hs := h.kB.size
  have hwb := h.wb
  exact ⟨h.wb, h.kB.trans (hb.mono (by omega)), h.mach.keep (fun k _ hk => hb.block k (by have := h.mach.lt; omega)) (by have := h.mach.lt; have := hb.size; omega), h.bl, h.Xl, h.gl, h.gX, h.kX.below hb (Nat.le_refl _), fun o => (hb.frozen (p := ⟨X, o, none⟩) h.kX.lt).trans (h.fX o), h.nr.below hb, h.nt.below hb, h.nd, h.xr, h.xt, h.mm.below hb⟩
/-- Blocks outside the machine are written: a new state. -/
theorem RI.to (h : RI w0 b lo m X gm cm lv r t l ms cs wr) {w3 : World} {p : Nat → Prop} {r' t' : Value} {L : Ln} {M : List Int} (hw : Wr wr w3 p) (hp : ∀ k, p k → b ≤ k ∧ (k < lo ∨ m < k)) (kX : Box4 w3 X r' (.int .i64 L.pc) t' (.bool L.waits)) (fX : ∀ o, w3.frozen? ⟨X, o, none⟩ = false)
    (nr : OwI b w3 r' L.regs) (nt : OwI b w3 t' L.turns) (nd : ∀ k, r'.ownBlock = some k → t'.ownBlock ≠ some k) (xr : ∀ k, r'.ownBlock = some k → k ≠ X ∧ k ≠ gm ∧ (k < lo ∨ m < k)) (xt : ∀ k, t'.ownBlock = some k → k ≠ X ∧ k ≠ gm ∧ (k < lo ∨ m < k)) (mm : OI b w3 gm cm M) : RI w0 b lo m X gm cm lv r' t' L M cs w3 := by
  have hs := h.kB.size
  have hwb := h.wb
  have hlt := h.mach.lt
  have hsz := hw.size
  exact ⟨h.wb, Below.wr h.kB hw (by omega) (fun k hk => (hp k hk).1), h.mach.keep (fun k h1 hk => hw.block k (by omega) (fun hh => by have := hp k hh; omega)) (by omega), h.bl, h.Xl, h.gl, h.gX, kX, fX, nr, nt, nd, xr, xt, mm⟩
/-- The lane's own cells alone are written. -/
theorem RI.cells (h : RI w0 b lo m X gm cm lv r t l ms cs wr) {w3 : World} {pc : Int} {wt : Bool} (hw : Wr wr w3 (fun k => k = X)) (kX : Box4 w3 X r (.int .i64 pc) t (.bool wt)) (fX : ∀ o, w3.frozen? ⟨X, o, none⟩ = false) : RI w0 b lo m X gm cm lv r t ⟨l.regs, pc, l.turns, wt⟩ ms cs w3 := by
  have hX := h.Xl
  exact h.to hw (fun k hk => by subst hk; exact ⟨hX.1, .inl hX.2⟩) kX fX (hw.owns h.nr (fun k hk hh => (h.xr k hk).1 hh)) (hw.owns h.nt (fun k hk hh => (h.xt k hk).1 hh)) h.nd h.xr h.xt (h.mm.wr hw h.gX)
/-- A turn is put behind; then the lane's own cells are written. -/
theorem RI.app (h : RI w0 b lo m X gm cm lv r t l ms cs wr) {w' : World} {v' : Value} {y : Int} (ho : w'.ownsRow b 3 1 v' (l.turns.length + 1) (l.turns.map (Value.int .i64) ++ [.int .i64 y])) (hw : Wr wr w' (fun k => t.ownBlock = some k)) (hwh : ∀ k, v'.ownBlock = some k → t.ownBlock = some k ∨ wr.heap.size ≤ k)
    (pc : Int) : RI w0 b lo m X gm cm lv r v' ⟨l.regs, pc, l.turns ++ [y], l.waits⟩ ms cs ((w'.setCell ⟨X, 2, none⟩ v').setCell ⟨X, 1, none⟩ (.int .i64 pc)) := by
  have hX := h.Xl
  have hxl := h.kX.lt
  have hml := h.mach.lt
  have hgl := h.mm.lt
  have hge := own_ge h.nt
  have ho2 : OwI b w' v' (l.turns ++ [y]) := by unfold OwI; rw [List.length_append, List.map_append]; exact ho
  have hws : Wr w' ((w'.setCell ⟨X, 2, none⟩ v').setCell ⟨X, 1, none⟩ (.int .i64 pc)) (fun k => k = X) := (Wr_set0 w' X 2 v').trans (Wr_set0 _ X 1 _)
  have hxt := h.xt
  have hkX := h.kX.wr hw (fun hh => (hxt X hh).1 rfl)
  have hv : ∀ k, v'.ownBlock = some k → k ≠ X ∧ k ≠ gm ∧ (k < lo ∨ m < k) := fun k hk => by
    rcases hwh k hk with h3 | h3
    · exact hxt k h3
    · exact ⟨by omega, by omega, by omega⟩
  refine h.to (p := fun k => t.ownBlock = some k ∨ k = X) ((hw.weak fun k hk => .inl hk).trans (hws.weak fun k hk => .inr hk)) (fun k hk => ?_) ((hkX.s2 v').s1 _) (fun o => by simp; exact (hw.frozen hxl (fun hh => (hxt X hh).1 rfl)).trans (h.fX o))
    (hws.owns (hw.owns h.nr (fun k hk hh => h.nd k hk hh)) (fun k hk hh => (h.xr k hk).1 hh)) (hws.owns ho2 (fun k hk hh => (hv k hk).1 hh)) (fun k hk hh => ?_) h.xr hv ((h.mm.wr hw (fun hh => (hxt gm hh).2.1 rfl)).wr hws h.gX)
  · rcases hk with hk | hk
    · exact ⟨hge k hk, (hxt k hk).2.2⟩
    · subst hk; exact ⟨hX.1, .inl hX.2⟩
  · rcases hwh k hh with h3 | h3
    · exact h.nd k hk h3
    · have := own_lt h.nr k hk; omega
/-- The last turn is changed in place; then the lane's own cells are written. -/
theorem RI.turn (h : RI w0 b lo m X gm cm lv r t l ms cs wr) {g2 c2 : Nat} (hv : t = .slice (some ⟨g2, 0, none⟩) l.turns.length c2) (i : Nat) (y pc : Int) :
    RI w0 b lo m X gm cm lv r t ⟨l.regs, pc, l.turns.set i y, l.waits⟩ ms cs ((wr.setCell ⟨g2, i, none⟩ (.int .i64 y)).setCell ⟨X, 1, none⟩ (.int .i64 pc)) := by
  have hX := h.Xl
  have hxl := h.kX.lt
  have hxt := h.xt
  have hnd := h.nd
  have hnt := h.nt
  subst hv
  have hge := own_ge hnt g2 rfl
  have hg2 := hxt g2 rfl
  obtain ⟨ho, hw⟩ := (OI.mk hnt).set i y
  have hws := Wr_set0 (wr.setCell ⟨g2, i, none⟩ (.int .i64 y)) X 1 (.int .i64 pc)
  have ho2 : OwI b (wr.setCell ⟨g2, i, none⟩ (.int .i64 y)) (.slice (some ⟨g2, 0, none⟩) l.turns.length c2) (l.turns.set i y) := by
    have := ho.own; rw [List.length_set] at this; unfold OwI; rw [List.length_set]; exact this
  refine h.to (p := fun k => k = g2 ∨ k = X) ((hw.weak fun k hk => .inl hk).trans (hws.weak fun k hk => .inr hk)) (fun k hk => ?_) ((h.kX.wr hw (fun hh => hg2.1 hh.symm)).s1 _) (fun o => by simp; exact h.fX o)
    (hws.owns (hw.owns h.nr (fun k hk hh => hnd k hk (by rw [hh]; rfl))) (fun k hk hh => (h.xr k hk).1 hh)) (hws.owns ho2 (fun k hk hh => (hxt k hk).1 hh)) hnd h.xr hxt ((h.mm.wr hw (fun hh => hg2.2.1 hh.symm)).wr hws h.gX)
  rcases hk with hk | hk
  · subst hk; exact ⟨hge, hg2.2.2⟩
  · subst hk; exact ⟨hX.1, .inl hX.2⟩
/-- The last turn is dropped. -/
theorem RI.drop (h : RI w0 b lo m X gm cm lv r t l ms cs wr) {g2 c2 n : Nat} (hv : t = .slice (some ⟨g2, 0, none⟩) l.turns.length c2) (hn : n ≤ l.turns.length) :
    RI w0 b lo m X gm cm lv r (.slice (some ⟨g2, 0, none⟩) n c2) ⟨l.regs, l.pc, l.turns.take n, l.waits⟩ ms cs (wr.setCell ⟨X, 2, none⟩ (.slice (some ⟨g2, 0, none⟩) n c2)) := by
  have hX := h.Xl
  have hxt := h.xt
  have hnd := h.nd
  have hnt := h.nt
  subst hv
  have hws := Wr_set0 wr X 2 (.slice (some ⟨g2, 0, none⟩) n c2)
  refine h.to hws (fun k hk => by subst hk; exact ⟨hX.1, .inl hX.2⟩) (h.kX.s2 _) (fun o => by simp; exact h.fX o) (hws.owns h.nr (fun k hk hh => (h.xr k hk).1 hh)) (hws.owns ((OI.mk hnt).shrink hn) (fun k hk hh => (hxt k hk).1 hh)) (fun k hk => hnd k hk) h.xr (fun k hk => hxt k hk) (h.mm.wr hws h.gX)
/-- A plain instruction carried out in place. -/
theorem RI.sim (h : RI w0 b lo m X gm cm lv r t l ms cs wr) {g1 c1 : Nat} (hv : r = .slice (some ⟨g1, 0, none⟩) l.regs.length c1) {rs' ms' : List Int} {w' : World} (h1 : OI 0 w' g1 c1 rs') (h2 : OI 0 w' gm cm ms') (hl : rs'.length = l.regs.length) (hw : Wr wr w' (fun k => k = g1 ∨ k = gm)) :
    RI w0 b lo m X gm cm lv r t ⟨rs', l.pc, l.turns, l.waits⟩ ms' cs w' := by
  have hxr := h.xr
  have hnd := h.nd
  have hnr := h.nr
  subst hv
  have hge := own_ge hnr g1 rfl
  have hg1 := hxr g1 rfl
  have hgg := h.mm.ge
  have hgl := h.gl
  have hgX := h.gX
  have h3 := (h1.rebase hge).own
  refine h.to hw (fun k hk => ?_) (h.kX.wr hw (fun hh => ?_)) (fun o => (hw.frozen h.kX.lt (fun hh => ?_)).trans (h.fX o)) (by unfold OwI; rw [← hl]; exact h3) (hw.owns h.nt (fun k hk hh => ?_)) hnd hxr h.xt (h2.rebase hgg)
  · rcases hk with hk | hk
    · subst hk; exact ⟨hge, hg1.2.2⟩
    · subst hk; exact ⟨hgg, .inl hgl⟩
  · rcases hh with hh | hh
    · exact hg1.1 hh.symm
    · exact hgX hh.symm
  · rcases hh with hh | hh
    · exact hg1.1 hh.symm
    · exact hgX hh.symm
  · rcases hh with hh | hh
    · exact hnd g1 rfl (by rw [← hh]; exact hk)
    · exact (h.xt k hk).2.1 hh
/-- What the machine holds for a place: a pointer to the block, and the block's cells. -/
theorem Mach.own {w : World} (h : Mach cs w lo m lv) {q : Nat} {c : Cd} (hc : cs[q]? = some c) (p : Nat) (hp : isO cs p) (ho : (c.op = 11 ∨ c.op = 13) ∧ p = q ∨ (c.op = 12 ∨ c.op = 14) ∧ arnd cs q = p) :
    ∃ O P, w.cell? ⟨m, 0, none⟩ = some lv ∧ w.cell? ⟨m, 1, none⟩ = some (.slice (some ⟨O, 0, none⟩) cs.length cs.length) ∧ w.cell? ⟨O, q, none⟩ = some (.pointer (some ⟨P, 0, none⟩)) ∧ w.cell? ⟨P, 0, none⟩ = some (.int .i64 p) ∧ w.cell? ⟨P, 1, none⟩ = some (.int .i64 (bEnd cs p).2) ∧ w.cell? ⟨P, 2, none⟩ = some (.int .i64 (bEnd cs p).1) ∧ O < w.heap.size ∧ P < w.heap.size ∧ O ≠ m ∧ lo ≤ O ∧ lo ≤ P ∧ P < m ∧ O < m := by
  obtain ⟨hi, va, vo, hk, h2, h3, h4, h5, h6⟩ := h
  obtain ⟨A, O, ad, _, rfl, k3, k4, k5, k6, k7, k8, k9, _⟩ := hk
  obtain ⟨a, b, c1, d, e⟩ := k9 p hp
  refine ⟨O, ad p, h5, h6, ?_, c1, d, e, by omega, by omega, by omega, k5, a, by omega, by omega⟩
  rw [k8 q c hc]
  unfold ownP
  rcases ho with ⟨h, rfl⟩ | ⟨h, hq⟩
  · rw [if_pos h]
  · rw [if_neg (by omega), if_pos h, hq]; simp
end
end Go.Proofs.Ytmjkjdibolcblaa
