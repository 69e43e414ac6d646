/- YthhdffgfldphlaaStepS: a step of a lane, by the reference. Conditions: the program is valid, the lane and the memory are valid for it, the lane does not wait and is not at the end. -/
import Derived.Test.YthhdffgfldphlaaLaneC
import Derived.Deep.CutBlock
import Derived.BigQuiet
namespace Go.Proofs.Ythhdffgfldphlaa
open Go.ChangeShapes Go.WideShapes Go.ChangeAt Go.RowKit
set_option linter.unusedVariables false
/-- What a step leaves: a new lane, the memory changed in place, nothing else of what was there. -/
def StepD (Bm : Nat) (w : World) (gm cm : Nat) (L : Ln) (M : List Int) (e : Ending) (w' : World) : Prop :=
  ∃ r t, e = .returned (.agg #[r, .int .i64 L.pc, t, .bool L.waits]) ∧ OwI w.heap.size w' r L.regs ∧ OwI w.heap.size w' t L.turns ∧ (∀ k, r.ownBlock = some k → t.ownBlock ≠ some k) ∧ OI Bm w' gm cm M ∧ Wr w w' (fun k => k = gm)
/-- The same, ahead of the return: X the copy's block, b + 1 the result's. -/
def StepR (Bm : Nat) (w : World) (b X gm cm : Nat) (L : Ln) (M : List Int) (w' : World) : Prop :=
  ∃ r t, Box4 w' X r (.int .i64 L.pc) t (.bool L.waits) ∧ Box4 w' (b + 1) (.slice none 0 0) (.int .i64 0) (.slice none 0 0) (.bool false) ∧ (∀ o, w'.frozen? ⟨b + 1, o, none⟩ = false) ∧ OwI (b + 2) w' r L.regs ∧ OwI (b + 2) w' t L.turns ∧ (∀ k, r.ownBlock = some k → t.ownBlock ≠ some k) ∧ OI Bm w' gm cm M ∧ Wr w w' (fun k => k = gm)
theorem Box4.s1 {w : World} {b : Nat} {c0 c1 c2 c3 : Value} (h : Box4 w b c0 c1 c2 c3) (v : Value) : Box4 (w.setCell ⟨b, 1, none⟩ v) b c0 v c2 c3 := by
  obtain ⟨h0, h1, h2, h3, h4⟩ := h
  exact ⟨by rw [World.cell?_setCell_other _ _ _ _ (by simp)]; exact h0, World.cell?_setCell_same _ _ _ h1, by rw [World.cell?_setCell_other _ _ _ _ (by simp)]; exact h2, by rw [World.cell?_setCell_other _ _ _ _ (by simp)]; exact h3, by simpa [World.setCell] using h4⟩
theorem Box4.s2 {w : World} {b : Nat} {c0 c1 c2 c3 : Value} (h : Box4 w b c0 c1 c2 c3) (v : Value) : Box4 (w.setCell ⟨b, 2, none⟩ v) b c0 c1 v c3 := by
  obtain ⟨h0, h1, h2, h3, h4⟩ := h
  exact ⟨by rw [World.cell?_setCell_other _ _ _ _ (by simp)]; exact h0, by rw [World.cell?_setCell_other _ _ _ _ (by simp)]; exact h1, World.cell?_setCell_same _ _ _ h2, by rw [World.cell?_setCell_other _ _ _ _ (by simp)]; exact h3, by simpa [World.setCell] using h4⟩
theorem Box4.s3 {w : World} {b : Nat} {c0 c1 c2 c3 : Value} (h : Box4 w b c0 c1 c2 c3) (v : Value) : Box4 (w.setCell ⟨b, 3, none⟩ v) b c0 c1 c2 v := by
  obtain ⟨h0, h1, h2, h3, h4⟩ := h
  exact ⟨by rw [World.cell?_setCell_other _ _ _ _ (by simp)]; exact h0, by rw [World.cell?_setCell_other _ _ _ _ (by simp)]; exact h1, by rw [World.cell?_setCell_other _ _ _ _ (by simp)]; exact h2, World.cell?_setCell_same _ _ _ h3, by simpa [World.setCell] using h4⟩
/-- The state of a step by the reference: the lane in block b, the copy in X, the instruction in X + 1. -/
structure S2 (B1 B2 Bm : Nat) (w : World) (b X gm cm : Nat) (lv r0 t0 v1 v2 : Value) (rs ts ms : List Int) (q : Nat) (cs : List Cd) (d : Cd) (w2 : World) : Prop where
  wb : w.heap.size = b
  kL : Box4 w2 b r0 (.int .i64 q) t0 (.bool false)
  kZ : Box4 w2 (b + 1) (.slice none 0 0) (.int .i64 0) (.slice none 0 0) (.bool false)
  kG : ∀ o, w2.frozen? ⟨b + 1, o, none⟩ = false
  kX : Box4 w2 X v1 (.int .i64 (q + 1)) v2 (.bool false)
  fX : ∀ o, w2.frozen? ⟨X, o, none⟩ = false
  kC : Box4 w2 (X + 1) (.int .i64 d.op) (.int .i64 d.a) (.int .i64 d.b) (.int .i64 d.c)
  n1 : OwI (b + 2) w2 v1 rs
  n2 : OwI (b + 2) w2 v2 ts
  nd : ∀ k, v1.ownBlock = some k → v2.ownBlock ≠ some k
  x1 : ∀ k, v1.ownBlock = some k → k < X
  x2 : ∀ k, v2.ownBlock = some k → k < X
  kr : OwI B1 w2 r0 rs
  kt : OwI B2 w2 t0 ts
  km : OI Bm w2 gm cm ms
  kc : RdC w2 lv cs
  bel : Below b w w2
  bX : b + 2 ≤ X
  gb : gm < b
section
variable {B1 B2 Bm : Nat} {w : World} {b X gm cm : Nat} {lv r0 t0 v1 v2 : Value} {rs ts ms : List Int} {q : Nat} {cs : List Cd} {d : Cd} {w2 : World}
theorem S2.below (h : S2 B1 B2 Bm w b X gm cm lv r0 t0 v1 v2 rs ts ms q cs d w2) {w3 : World} (hb : Below w2.heap.size w2 w3) : S2 B1 B2 Bm w b X gm cm lv r0 t0 v1 v2 rs ts ms q cs d w3 :=
  ⟨h.wb, h.kL.below hb (Nat.le_refl _), h.kZ.below hb (Nat.le_refl _), fun o => (hb.frozen (p := ⟨b + 1, o, none⟩) h.kZ.lt).trans (h.kG o), h.kX.below hb (Nat.le_refl _), fun o => (hb.frozen (p := ⟨X, o, none⟩) h.kX.lt).trans (h.fX o), h.kC.below hb (Nat.le_refl _), h.n1.below hb, h.n2.below hb, h.nd, h.x1, h.x2, h.kr.below hb, h.kt.below hb, h.km.below hb, h.kc.below hb (Nat.le_refl _), h.bel.trans (hb.mono (by have := h.bel.size; have := h.wb; omega)), h.bX, h.gb⟩
/-- The copy's cells alone have been changed. -/
theorem S2.fin (h : S2 B1 B2 Bm w b X gm cm lv r0 t0 v1 v2 rs ts ms q cs d w2) {wr : World} {pc : Int} {wt : Bool} (hw : Wr w2 wr (fun k => k = X)) (hX : Box4 wr X v1 (.int .i64 pc) v2 (.bool wt)) : StepR Bm w b X gm cm ⟨rs, pc, ts, wt⟩ ms wr := by
  have hz := h.kZ.lt
  have hbX := h.bX
  have hgb := h.gb
  refine ⟨v1, v2, hX, h.kZ.wr hw (by omega), fun o => (hw.frozen hz (by omega)).trans (h.kG o), hw.owns h.n1 (fun k hk hh => by have := h.x1 k hk; omega), hw.owns h.n2 (fun k hk hh => by have := h.x2 k hk; omega), h.nd, h.km.wr hw (by omega), ?_⟩
  have hwb := h.wb
  have h1 : Wr w w2 (fun k => k = gm) := Wr.of_below (by rw [hwb]; exact h.bel)
  exact ⟨hw.os.trans h1.os, hw.tape.trans h1.tape, hw.output.trans h1.output, Nat.le_trans h1.size hw.size, fun k hk hp => (hw.block k (Nat.lt_of_lt_of_le hk h1.size) (by omega)).trans (h1.block k hk hp)⟩
theorem OI.rebase {B B' : Nat} {w : World} {g cap : Nat} {xs : List Int} (h : OI B w g cap xs) (hB : B' ≤ g) : OI B' w g cap xs := by
  refine ⟨h.own.1, ?_⟩
  rcases h.own.2 with h2 | ⟨g', cap', cur, hv, hb, rest⟩
  · exact .inl h2
  · refine .inr ⟨g', cap', cur, hv, ?_, rest⟩
    simp only [Value.slice.injEq, Option.some.injEq, Addr.mk.injEq] at hv
    omega
theorem OwI.ne {B : Nat} {w : World} {a : Option Addr} {n c : Nat} {xs : List Int} (h : OwI B w (.slice a n c) xs) (hx : 0 < xs.length) : ∃ g, a = some ⟨g, 0, none⟩ ∧ n = xs.length ∧ OI B w g c xs ∧ xs.length ≤ c ∧ c ≤ 9223372036854775807 := by
  obtain ⟨g, cap, he, ho, h1, h2⟩ := OI.shape h hx
  simp only [Value.slice.injEq] at he
  obtain ⟨rfl, rfl, rfl⟩ := he
  exact ⟨g, rfl, rfl, ho, h1, h2⟩
/-- One turn more. -/
theorem S2.app (h : S2 B1 B2 Bm w b X gm cm lv r0 t0 v1 v2 rs ts ms q cs d w2) {w' : World} {v' : Value} {y : Int} (ho : w'.ownsRow (b + 2) 3 1 v' (ts.length + 1) (ts.map (Value.int .i64) ++ [.int .i64 y])) (hw : Wr w2 w' (fun k => v2.ownBlock = some k)) (hwh : ∀ k, v'.ownBlock = some k → v2.ownBlock = some k ∨ w2.heap.size ≤ k) :
    StepR Bm w b X gm cm ⟨rs, q + 1, ts ++ [y], false⟩ ms (w'.setCell ⟨X, 2, none⟩ v') := by
  have hz := h.kZ.lt
  have hxl := h.kX.lt
  have hbX := h.bX
  have hgb := h.gb
  have hwb := h.wb
  have hge := own_ge h.n2
  have hkX := h.kX.wr hw (fun hh => by have := h.x2 _ hh; omega)
  have hws := Wr_set0 w' X 2 v'
  have ho2 : OwI (b + 2) w' v' (ts ++ [y]) := by unfold OwI; rw [List.length_append, List.map_append]; exact ho
  have h1 : Wr w w2 (fun k => k = gm) := Wr.of_below (by rw [hwb]; exact h.bel)
  have hvX : ∀ k, v'.ownBlock = some k → ¬ k = X := fun k hk hh => by
    rcases hwh k hk with h3 | h3
    · have := h.x2 k h3; omega
    · omega
  refine ⟨v1, v', hkX.s2 v', (h.kZ.wr hw (fun hh => by have := hge _ hh; omega)).wr hws (by omega), fun o => (hws.frozen (Nat.lt_of_lt_of_le hz hw.size) (by omega)).trans ((hw.frozen hz (fun hh => by have := hge _ hh; omega)).trans (h.kG o)), hws.owns (hw.owns h.n1 (fun k hk hh => h.nd k hk hh)) (fun k hk hh => by have := h.x1 k hk; omega), hws.owns ho2 (fun k hk hh => hvX k hk hh), fun k hk hh => ?_, (h.km.wr hw (fun hh => by have := hge _ hh; omega)).wr hws (by omega), ?_⟩
  · rcases hwh k hh with h3 | h3
    · exact h.nd k hk h3
    · have := h.x1 k hk; omega
  · exact ⟨hws.os.trans (hw.os.trans h1.os), hws.tape.trans (hw.tape.trans h1.tape), hws.output.trans (hw.output.trans h1.output), Nat.le_trans h1.size (Nat.le_trans hw.size hws.size), fun k hk hp => (hws.block k (by have := h1.size; have := hw.size; omega) (by omega)).trans ((hw.block k (by have := h1.size; omega) (fun hh => by have := hge _ hh; omega)).trans (h1.block k hk hp))⟩
/-- The turns changed in place. -/
theorem S2.turn (h : S2 B1 B2 Bm w b X gm cm lv r0 t0 v1 v2 rs ts ms q cs d w2) {g2 c2 : Nat} (hv : v2 = .slice (some ⟨g2, 0, none⟩) ts.length c2) (i : Nat) (y pc : Int) :
    StepR Bm w b X gm cm ⟨rs, pc, ts.set i y, false⟩ ms ((w2.setCell ⟨g2, i, none⟩ (.int .i64 y)).setCell ⟨X, 1, none⟩ (.int .i64 pc)) := by
  have hz := h.kZ.lt
  have hbX := h.bX
  have hgb := h.gb
  have hwb := h.wb
  have hxl := h.kX.lt
  subst hv
  have hge := own_ge h.n2 g2 rfl
  have hgX := h.x2 g2 rfl
  obtain ⟨ho, hw⟩ := (OI.mk h.n2).set i y
  have hws := Wr_set0 (w2.setCell ⟨g2, i, none⟩ (.int .i64 y)) X 1 (.int .i64 pc)
  have h1 : Wr w w2 (fun k => k = gm) := Wr.of_below (by rw [hwb]; exact h.bel)
  have ho2 : OwI (b + 2) (w2.setCell ⟨g2, i, none⟩ (.int .i64 y)) (.slice (some ⟨g2, 0, none⟩) ts.length c2) (ts.set i y) := by
    have := ho.own; rw [List.length_set] at this; unfold OwI; rw [List.length_set]; exact this
  refine ⟨v1, .slice (some ⟨g2, 0, none⟩) ts.length c2, (h.kX.wr hw (by omega)).s1 _, (h.kZ.wr hw (by omega)).wr hws (by omega), fun o => (hws.frozen (Nat.lt_of_lt_of_le hz hw.size) (by omega)).trans ((hw.frozen hz (by omega)).trans (h.kG o)), hws.owns (hw.owns h.n1 (fun k hk hh => h.nd k hk (by rw [hh]; rfl))) (fun k hk hh => by have := h.x1 k hk; omega), hws.owns ho2 (fun k hk hh => by have hk2 : (some g2 : Option Nat) = some k := hk; injection hk2 with hk3; omega), h.nd, (h.km.wr hw (by omega)).wr hws (by omega), ?_⟩
  exact ⟨hws.os.trans (hw.os.trans h1.os), hws.tape.trans (hw.tape.trans h1.tape), hws.output.trans (hw.output.trans h1.output), Nat.le_trans h1.size (Nat.le_trans hw.size hws.size), fun k hk hp => (hws.block k (by have := h1.size; have := hw.size; omega) (by omega)).trans ((hw.block k (by have := h1.size; omega) (by omega)).trans (h1.block k hk hp))⟩
theorem OI.shrink {B : Nat} {w : World} {g cap : Nat} {xs : List Int} (h : OI B w g cap xs) {n : Nat} (hn : n ≤ xs.length) : OwI B w (.slice (some ⟨g, 0, none⟩) n cap) (xs.take n) := by
  have hl : (xs.take n).length = n := by rw [List.length_take]; omega
  unfold OwI
  rw [hl]
  refine ⟨by rw [List.length_map, hl]; omega, ?_⟩
  rcases h.own.2 with ⟨h2, _⟩ | ⟨g', cap', cur, hv, hb, hg, hnc, hcm, hcs, htk⟩
  · cases h2
  · simp only [Value.slice.injEq, Option.some.injEq, Addr.mk.injEq] at hv
    obtain ⟨⟨rfl, _⟩, _, rfl⟩ := hv
    refine .inr ⟨g, cap, cur, rfl, hb, hg, by omega, hcm, hcs, ?_⟩
    rw [List.map_take, ← htk, List.take_take]
    congr 1
    omega
/-- The last turn dropped. -/
theorem S2.drop (h : S2 B1 B2 Bm w b X gm cm lv r0 t0 v1 v2 rs ts ms q cs d w2) {g2 c2 n : Nat} (hv : v2 = .slice (some ⟨g2, 0, none⟩) ts.length c2) (hn : n ≤ ts.length) :
    StepR Bm w b X gm cm ⟨rs, q + 1, ts.take n, false⟩ ms (w2.setCell ⟨X, 2, none⟩ (.slice (some ⟨g2, 0, none⟩) n c2)) := by
  have hz := h.kZ.lt
  have hbX := h.bX
  have hgb := h.gb
  have hwb := h.wb
  subst hv
  have hgX := h.x2 g2 rfl
  have hw := Wr_set0 w2 X 2 (.slice (some ⟨g2, 0, none⟩) n c2)
  have h1 : Wr w w2 (fun k => k = gm) := Wr.of_below (by rw [hwb]; exact h.bel)
  refine ⟨v1, .slice (some ⟨g2, 0, none⟩) n c2, h.kX.s2 _, h.kZ.wr hw (by omega), fun o => (hw.frozen hz (by omega)).trans (h.kG o), hw.owns h.n1 (fun k hk hh => by have := h.x1 k hk; omega), hw.owns ((OI.mk h.n2).shrink hn) (fun k hk hh => by have hk2 : (some g2 : Option Nat) = some k := hk; injection hk2 with hk3; omega), h.nd, h.km.wr hw (by omega), ?_⟩
  exact ⟨hw.os.trans h1.os, hw.tape.trans h1.tape, hw.output.trans h1.output, Nat.le_trans h1.size hw.size, fun k hk hp => (hw.block k (by have := h1.size; omega) (by omega)).trans (h1.block k hk hp)⟩
/-- A plain instruction carried out on the copy. -/
theorem S2.sim (h : S2 B1 B2 Bm w b X gm cm lv r0 t0 v1 v2 rs ts ms q cs d w2) {g1 c1 : Nat} (hv : v1 = .slice (some ⟨g1, 0, none⟩) rs.length c1) {rs' ms' : List Int} {w' : World} (h1 : OI 0 w' g1 c1 rs') (h2 : OI 0 w' gm cm ms') (hl : rs'.length = rs.length) (hw : Wr w2 w' (fun k => k = g1 ∨ k = gm)) :
    StepR Bm w b X gm cm ⟨rs', q + 1, ts, false⟩ ms' w' := by
  have hz := h.kZ.lt
  have hbX := h.bX
  have hgb := h.gb
  have hwb := h.wb
  subst hv
  have hgX := h.x1 g1 rfl
  have hge := own_ge h.n1 g1 rfl
  have k1 : Wr w w2 (fun k => k = gm) := Wr.of_below (by rw [hwb]; exact h.bel)
  have h3 := (h1.rebase hge).own
  refine ⟨.slice (some ⟨g1, 0, none⟩) rs.length c1, v2, h.kX.wr hw (by omega), h.kZ.wr hw (by omega), fun o => (hw.frozen hz (by omega)).trans (h.kG o), by unfold OwI; rw [← hl]; exact h3, hw.owns h.n2 (fun k hk hh => ?_), h.nd, h2.rebase h.km.ge, ?_⟩
  · rcases hh with hh | hh
    · exact h.nd g1 rfl (by rw [← hh]; exact hk)
    · have := own_ge h.n2 k hk; omega
  · exact ⟨hw.os.trans k1.os, hw.tape.trans k1.tape, hw.output.trans k1.output, Nat.le_trans k1.size hw.size, fun k hk hp => (hw.block k (by have := k1.size; omega) (by omega)).trans (k1.block k hk hp)⟩
theorem RdC.at {w : World} {lb lo ln i : Nat} {cs : List Cd} {c : Cd} (h : RdC w (.slice (some ⟨lb, lo, none⟩) cs.length ln) cs) (hi : cs[i]? = some c) :
    w.cell? ⟨lb, lo + i * 4, none⟩ = some (.int .i64 c.op) ∧ w.cell? ⟨lb, lo + i * 4 + 1, none⟩ = some (.int .i64 c.a) ∧ w.cell? ⟨lb, lo + i * 4 + 2, none⟩ = some (.int .i64 c.b) ∧ w.cell? ⟨lb, lo + i * 4 + 3, none⟩ = some (.int .i64 c.c) ∧ lb < w.heap.size := by
  obtain ⟨a, n, b, off, he, _, _, hb, hcell⟩ := h.form
  obtain ⟨ha, h0, h1, h2, h3⟩ := hcell i c hi
  subst ha
  simp only [Value.slice.injEq, Option.some.injEq, Addr.mk.injEq] at he
  obtain ⟨⟨rfl, rfl, _⟩, _, _⟩ := he
  exact ⟨h0, h1, h2, h3, hb (by rintro rfl; simp at hi)⟩
theorem turn_last {cs : List Cd} {q : Nat} {rs ts : List Int} {wt : Bool} {c0 : Cd} {p0 : Nat} {d : Cd} (hv : pValid cs = true) (hl : LOK cs ⟨rs, q, ts, wt⟩) (hq : q < cs.length) (har : arnd cs q = p0) (hc : cs[p0]? = some c0) (ho : c0.op = 13) : 1 ≤ ts.length ∧ 0 ≤ rg ts (ts.length - 1 : Int) ∧ rg ts (ts.length - 1 : Int) ≤ 3 := by
  obtain ⟨s, hs, hI⟩ := pValid_stk hv (Nat.le_of_lt hq)
  rw [arnd_eq (Nat.le_of_lt hq) hs] at har
  cases s with
  | nil => have har : (-1 : Int) = p0 := har; omega
  | cons f r =>
    have har : (f.p : Int) = p0 := har
    obtain ⟨h1, cf, h2, h3⟩ := hI.code 0 f rfl
    have hfp : f.p = p0 := by omega
    rw [hfp, hc] at h2
    obtain rfl := Option.some.inj h2
    have hT : TOK cs ts (loopsAt cs q) := hl.turns
    rw [loopsAt_eq hs, loopsOf_yes (by omega)] at hT
    obtain ⟨t0, t, rfl, _, h5, h6⟩ := hT.back
    have hb := (cValid_bd (pValid_code hv hc)).2.2.2.2.2.2.2.2.2 ho
    have h7 : bAt cs f.p = c0.b := by unfold bAt; rw [hfp, codeAt_nat hc]
    have h8 : rg (t0 ++ [t]) ((t0 ++ [t]).length - 1 : Int) = t := by
      unfold rg
      rw [show ((t0 ++ [t]).length - 1 : Int).toNat = t0.length by simp, List.getElem?_append_right (Nat.le_refl _)]; simp
    rw [h8]
    refine ⟨by simp, h5, by omega⟩
end
theorem around_in {cs : List Cd} {q : Nat} {d : Cd} (hv : pValid cs = true) (hd : cs[q]? = some d) (ho : d.op = 12 ∨ d.op = 14) : ∃ (p0 : Nat) (c0 : Cd), arnd cs q = p0 ∧ p0 < q ∧ cs[p0]? = some c0 ∧ (c0.op = 11 ∨ c0.op = 13) := by
  have hq := (List.getElem?_eq_some_iff.1 hd).1
  obtain ⟨s, hs, hI⟩ := pValid_stk hv (Nat.le_of_lt hq)
  obtain ⟨s1, hs1, _⟩ := pValid_stk hv (show q + 1 ≤ cs.length by omega)
  have hst := hs1
  rw [stk_succ hd hs] at hst
  cases s with
  | nil =>
    rcases ho with h | h
    · rw [stp_else_nil h] at hst; cases hst
    · rw [stp_end_nil h] at hst; cases hst
  | cons f r =>
    obtain ⟨h1, c0, h2, h3⟩ := hI.code 0 f rfl
    exact ⟨f.p, c0, by rw [arnd_eq (Nat.le_of_lt hq) hs]; rfl, hI.lt 0 f rfl, h2, by rw [h3]; exact h1⟩
theorem end_in {cs : List Cd} {p : Nat} {c : Cd} (hv : pValid cs = true) (hc : cs[p]? = some c) (ho : c.op = 11 ∨ c.op = 13) : ∃ (e : Nat) (o : Int), bEnd cs p = ((e : Int), o) ∧ e < cs.length ∧ -1 ≤ o ∧ o < cs.length := by
  obtain ⟨e, f, c', S, _, k2, k3, k4, k5, k6, k7, k8, k9⟩ := block_end hv hc ho
  refine ⟨e, f.o, k9, k3, ?_, ?_⟩
  · rcases (inv_all e _ (Nat.le_of_lt k3) k6).other 0 f rfl with h | ⟨_, j, h, _⟩ <;> omega
  · rcases (inv_all e _ (Nat.le_of_lt k3) k6).other 0 f rfl with h | ⟨_, j, h, _, h2, _⟩ <;> omega
theorem lstep_bar {cs : List Cd} {id : Int} {rs ts ms : List Int} {q : Nat} {d : Cd} (hd : cs[q]? = some d) (h : d.op = 10) : lstep cs id ⟨rs, q, ts, false⟩ ms = (⟨rs, q + 1, ts, true⟩, ms) := by
  unfold lstep; simp only [codeAt_nat hd]; rw [if_pos h]
theorem lstep_if {cs : List Cd} {id : Int} {rs ts ms : List Int} {q : Nat} {d : Cd} (hd : cs[q]? = some d) (h : d.op = 11) : lstep cs id ⟨rs, q, ts, false⟩ ms = (⟨rs, if rg rs d.a = 0 then (if 0 ≤ (bEnd cs q).2 then (bEnd cs q).2 + 1 else (bEnd cs q).1 + 1) else q + 1, ts, false⟩, ms) := by
  unfold lstep; simp only [codeAt_nat hd, Int.toNat_natCast]; rw [if_neg (by omega), if_pos h]
theorem lstep_else {cs : List Cd} {id : Int} {rs ts ms : List Int} {q : Nat} {d : Cd} (hd : cs[q]? = some d) (h : d.op = 12) : lstep cs id ⟨rs, q, ts, false⟩ ms = (⟨rs, (bEnd cs (arnd cs q).toNat).1 + 1, ts, false⟩, ms) := by
  unfold lstep; simp only [codeAt_nat hd, Int.toNat_natCast]; rw [if_neg (by omega), if_neg (by omega), if_pos h]
theorem lstep_loop {cs : List Cd} {id : Int} {rs ts ms : List Int} {q : Nat} {d : Cd} (hd : cs[q]? = some d) (h : d.op = 13) : lstep cs id ⟨rs, q, ts, false⟩ ms = (if rg rs d.a = 0 then ⟨rs, (bEnd cs q).1 + 1, ts, false⟩ else ⟨rs, q + 1, ts ++ [d.b - 1], false⟩, ms) := by
  unfold lstep; simp only [codeAt_nat hd, Int.toNat_natCast]; rw [if_neg (by omega), if_neg (by omega), if_neg (by omega), if_pos h]
theorem lstep_end {cs : List Cd} {id : Int} {rs ts ms : List Int} {q : Nat} {d : Cd} (hd : cs[q]? = some d) (h : d.op = 14) : lstep cs id ⟨rs, q, ts, false⟩ ms =
    (if (codeAt cs (arnd cs q)).op = 13 then
      (if 0 < rg ts (ts.length - 1 : Int) ∧ rg rs (codeAt cs (arnd cs q)).a ≠ 0 then
        ⟨rs, arnd cs q + 1, ts.set (ts.length - 1) (rg ts (ts.length - 1 : Int) - 1), false⟩
       else ⟨rs, q + 1, ts.take (ts.length - 1), false⟩)
     else ⟨rs, q + 1, ts, false⟩, ms) := by
  unfold lstep; simp only [codeAt_nat hd, Int.toNat_natCast]; rw [if_neg (by omega), if_neg (by omega), if_neg (by omega), if_neg (by omega), if_pos h]
theorem lstep_simple {cs : List Cd} {id : Int} {rs ts ms : List Int} {q : Nat} {d : Cd} (hd : cs[q]? = some d) (h : d.op < 10) : lstep cs id ⟨rs, q, ts, false⟩ ms = (⟨(simple rs ms d id).1, q + 1, ts, false⟩, (simple rs ms d id).2) := by
  unfold lstep; simp only [codeAt_nat hd]; rw [if_neg (by omega), if_neg (by omega), if_neg (by omega), if_neg (by omega), if_neg (by omega)]
set_option maxRecDepth 100000 in
set_option maxHeartbeats 16000000 in
theorem l6Step_any (B1 B2 Bm gm cm : Nat) (r t lv : Value) (l : Ln) (cs : List Cd) (ms : List Int) (id : Int) (w : World) (hp : pValid cs = true) (hl : LOK cs l) (hm : MOK ms) (hid : 0 ≤ id ∧ id ≤ 7) (hlt : l.pc < cs.length) (hwt : l.waits = false)
    (hr : OwI B1 w r l.regs) (ht : OwI B2 w t l.turns) (hmv : OI Bm w gm cm ms) (hc : RdC w lv cs) :
    Calls Try.prog 37 #[.agg #[r, .int .i64 l.pc, t, .bool l.waits], lv, .int .i64 id, .slice (some ⟨gm, 0, none⟩) ms.length cm] w (StepD Bm w gm cm (lstep cs id l ms).1 (lstep cs id l ms).2) := by
  obtain ⟨b, hb⟩ : ∃ x, w.heap.size = x := ⟨_, rfl⟩
  obtain ⟨rs, pc, ts, wt⟩ := l
  obtain ⟨q, hq⟩ : ∃ q : Nat, pc = q := ⟨pc.toNat, by have := hl.pc; simp only at this; omega⟩
  subst hq
  have hwt : wt = false := hwt
  subst hwt
  simp only at hr ht hlt ⊢
  obtain ⟨L, M, hLM⟩ : ∃ L M, lstep cs id ⟨rs, q, ts, false⟩ ms = (L, M) := ⟨_, _, rfl⟩
  rw [hLM]
  have HLM := Lib.hid hLM
  clear hLM
  have hrl : rs.length = 4 := hl.len
  obtain ⟨gr, rc, hrv, _, hrc1, hrc2⟩ := OI.shape hr (by omega)
  obtain ⟨ta, tc, htv⟩ := own_shape ht
  subst hrv htv
  have hql : q < cs.length := by omega
  have htl : ts.length ≤ 3 := by
    have h1 : ts.length = (loopsAt cs ((q : Int)).toNat).length := hl.turns.1
    have h2 : (loopsAt cs ((q : Int)).toNat).length ≤ 3 := by
      obtain ⟨s, hs, hI⟩ := pValid_stk hp (show ((q : Int)).toNat ≤ cs.length by omega)
      rw [loopsAt_eq hs]; exact loops_len hI.deep
    omega
  have h40 := pValid_len hp
  obtain ⟨W, hW⟩ : ∃ W, W = ((w.alloc (.cells #[.slice (some ⟨gr, 0, none⟩) rs.length rc, .int .i64 q, .slice ta ts.length tc, .bool false] 25)).alloc (.cells #[.slice none 0 0, .int .i64 0, .slice none 0 0, .bool false] 25)) := ⟨_, rfl⟩
  have h1 := below_alloc w (.cells #[.slice (some ⟨gr, 0, none⟩) rs.length rc, .int .i64 q, .slice ta ts.length tc, .bool false] 25)
  have h2 := below_alloc (w.alloc (.cells #[.slice (some ⟨gr, 0, none⟩) rs.length rc, .int .i64 q, .slice ta ts.length tc, .bool false] 25)) (.cells #[.slice none 0 0, .int .i64 0, .slice none 0 0, .bool false] 25)
  have h3 := (h1.trans (h2.mono h1.size))
  have hX := ((Box4.new w (.slice (some ⟨gr, 0, none⟩) rs.length rc) (.int .i64 q) (.slice ta ts.length tc) (.bool false) 25).below h2 (Nat.le_refl _))
  have hX3 := Box4.new (w.alloc (.cells #[.slice (some ⟨gr, 0, none⟩) rs.length rc, .int .i64 q, .slice ta ts.length tc, .bool false] 25)) (.slice none 0 0) (.int .i64 0) (.slice none 0 0) (.bool false) 25
  have hF3 := fun o => frozen_of_row ((w.alloc (.cells #[.slice (some ⟨gr, 0, none⟩) rs.length rc, .int .i64 q, .slice ta ts.length tc, .bool false] 25)).alloc (.cells #[.slice none 0 0, .int .i64 0, .slice none 0 0, .bool false] 25)) (w.alloc (.cells #[.slice (some ⟨gr, 0, none⟩) rs.length rc, .int .i64 q, .slice ta ts.length tc, .bool false] 25)).heap.size o #[.slice none 0 0, .int .i64 0, .slice none 0 0, .bool false] 25 (heap_alloc_new _ _)
  rw [World.size_alloc] at hX3 hF3
  rw [hb] at hX hX3 hF3
  have kX : Box4 W b (.slice (some ⟨gr, 0, none⟩) rs.length rc) (.int .i64 q) (.slice ta ts.length tc) (.bool false) := by rw [hW]; exact ⟨hX.at0, hX.at1, hX.at2, hX.at3, hX.lt⟩
  have kY : Box4 W (b + 1) (.slice none 0 0) (.int .i64 0) (.slice none 0 0) (.bool false) := by rw [hW]; exact ⟨hX3.at0, hX3.at1, hX3.at2, hX3.at3, hX3.lt⟩
  have kG : ∀ o, W.frozen? ⟨b + 1, o, none⟩ = false := by rw [hW]; exact hF3
  have kB : Below b w W := by rw [hW, ← hb]; exact h3
  have kr : OwI B1 W (.slice (some ⟨gr, 0, none⟩) rs.length rc) rs := by rw [hW]; exact hr.below h3
  have kt : OwI B2 W (.slice ta ts.length tc) ts := by rw [hW]; exact ht.below h3
  have km : OI Bm W gm cm ms := by rw [hW]; exact hmv.below h3
  have kc : RdC W lv cs := by rw [hW]; exact hc.below h3 (Nat.le_refl _)
  have kz : b + 2 ≤ W.heap.size := by rw [hW, ← hb]; simp
  have hgb : gm < b := by rw [← hb]; exact hmv.lt
  have HB := Lib.hid hb
  have HW := Lib.hid hW
  have hcp := l6Copy_any B1 B2 _ _ ⟨rs, q, ts, false⟩ W kr kt (by show rs.length ≤ 1000000; omega) (by show ts.length ≤ 1000000; omega)
  have HCP := Lib.hid hcp
  have HRL := Lib.hid hrl
  clear h1 h2 h3 hX hX3 hF3 hr ht hmv hc hb hW hcp hrl
  go_enter Try.func37, Try.ntmps37
  go_wp2_with fail
  rw [← HW.out]
  refine HCP.out.mono ?_
  rintro e w1 ⟨r1, t1, rfl, n1, n2, nd, hb1⟩
  rw [HB.out]
  simp only at n1 n2
  obtain ⟨a1, c1, hs1⟩ := own_shape n1
  obtain ⟨a2, c2, hs2⟩ := own_shape n2
  subst hs1 hs2
  have HB1 := Lib.hid hb1
  have kX1 := kX.below hb1 (Nat.le_refl _)
  obtain ⟨x0, x1, x2, x3, x4⟩ := kX1
  have kc1 := kc.below hb1 (Nat.le_refl _)
  obtain ⟨la, ln, lb, lo, hlv, hln1, hln2, hlb, hcell⟩ := kc1.form
  obtain ⟨⟨op, dA, dB, dC⟩, hd⟩ := get_lt hql
  obtain ⟨rfl, d0, d1, d2, d3⟩ := hcell q _ hd
  simp only at d0 d1 d2 d3
  subst hlv
  have hlb1 : lb < w1.heap.size := hlb (by rintro rfl; simp at hql)
  clear hcell
  obtain ⟨X, hXX⟩ : ∃ X, w1.heap.size = X := ⟨_, rfl⟩
  obtain ⟨w2, hw2⟩ : ∃ y, y = ((w1.alloc (.cells #[.slice a1 rs.length c1, .int .i64 (q + 1), .slice a2 ts.length c2, .bool false] 25)).alloc (.cells #[.int .i64 op, .int .i64 dA, .int .i64 dB, .int .i64 dC] 41)) := ⟨_, rfl⟩
  have j1 := below_alloc w1 (.cells #[.slice a1 rs.length c1, .int .i64 (q + 1), .slice a2 ts.length c2, .bool false] 25)
  have j2 := below_alloc (w1.alloc (.cells #[.slice a1 rs.length c1, .int .i64 (q + 1), .slice a2 ts.length c2, .bool false] 25)) (.cells #[.int .i64 op, .int .i64 dA, .int .i64 dB, .int .i64 dC] 41)
  have j3 := j1.trans (j2.mono j1.size)
  have jX := ((Box4.new w1 (.slice a1 rs.length c1) (.int .i64 (q + 1)) (.slice a2 ts.length c2) (.bool false) 25).below j2 (Nat.le_refl _))
  have jF := fun o => (j2.frozen (p := ⟨w1.heap.size, o, none⟩) (by simp)).trans (frozen_of_row (w1.alloc (.cells #[.slice a1 rs.length c1, .int .i64 (q + 1), .slice a2 ts.length c2, .bool false] 25)) w1.heap.size o _ _ (heap_alloc_new _ _))
  have jC := Box4.new (w1.alloc (.cells #[.slice a1 rs.length c1, .int .i64 (q + 1), .slice a2 ts.length c2, .bool false] 25)) (.int .i64 op) (.int .i64 dA) (.int .i64 dB) (.int .i64 dC) 41
  rw [World.size_alloc] at jC
  have hz1 := HB1.out.size
  have hS : S2 B1 B2 Bm w b X gm cm (.slice (some ⟨lb, lo, none⟩) cs.length ln) (.slice (some ⟨gr, 0, none⟩) rs.length rc) (.slice ta ts.length tc) (.slice a1 rs.length c1) (.slice a2 ts.length c2) rs ts ms q cs ⟨op, dA, dB, dC⟩ w2 := by
    have hbb := HB1.out.trans (j3.mono HB1.out.size)
    rw [← hw2] at hbb jX jC jF j3
    rw [hXX] at jX jC jF
    exact ⟨HB.out, kX.below hbb (Nat.le_refl _), kY.below hbb (Nat.le_refl _), fun o => (hbb.frozen (p := ⟨b + 1, o, none⟩) kY.lt).trans (kG o), jX, jF, jC, OwI.below (own_mono n1 kz) j3, OwI.below (own_mono n2 kz) j3, nd, fun k hk => by rw [← hXX]; exact own_lt n1 k hk, fun k hk => by rw [← hXX]; exact own_lt n2 k hk, kr.below hbb, kt.below hbb, km.below hbb, kc.below hbb (Nat.le_refl _), kB.trans (hbb.mono (by omega)), by omega, hgb⟩
  have HS := Lib.hid hS
  have HW2 := Lib.hid hw2
  have HXX := Lib.hid hXX
  have HD := Lib.hid hd
  clear j1 j2 j3 jX jF jC hS hw2 hXX hd kX kY kG kB kr kt km kc HB1 n1 n2 nd
  go_upto_block 0 with fail
  rw [← HW2.out, HXX.out]
  generalize hN : ((ts.length : Int) - 1) = N
  have HN := Lib.hid hN
  clear hN
  clear x0 x1 x2 x3 x4 d0 d1 d2 d3 hlb1 HCP hb1
  have hcv := pValid_code hp HD.out
  obtain ⟨v1, v2, v3, v4, v5, v6, v7, v8, v9, v10⟩ := cValid_bd hcv
  simp only at v1 v2 v3 v4 v5 v6 v7 v8 v9 v10
  have HV := Lib.hid hcv
  clear hcv
  go_cut [12, 13, 14, 15, 16, 17, 18] from 36 to 158 (fun _ _ _ _ _ _ _ wr => StepR Bm w b X gm cm L M wr)
  case first =>
    rcases (show op < 10 ∨ op = 10 ∨ op = 11 ∨ op = 12 ∨ op = 13 ∨ op = 14 by omega) with ho | rfl | rfl | rfl | rfl | rfl
    · have e := HLM.out
      rw [lstep_simple HD.out ho] at e
      obtain ⟨rfl, rfl⟩ := Prod.mk.inj e
      clear e HLM
      have hrlen := HRL.out
      obtain ⟨g1, rfl, _, oi1, _, _⟩ := OwI.ne HS.out.n1 (by omega)
      have hne : ¬ g1 = gm := by have := oi1.ge; omega
      have hsl := simple_ok (c := ⟨op, dA, dB, dC⟩) hl.regs hm HV.out hid
      have hrr := hl.regs
      have hcl := simple_spec_any 0 g1 c1 gm cm rs ms ⟨op, dA, dB, dC⟩ id w2 (oi1.rebase (Nat.zero_le _)) (HS.out.km.rebase (Nat.zero_le _)) hne hrlen hrr hm HV.out (by show op ≤ 9; omega)
      have HCL := Lib.hid hcl
      have HSL := Lib.hid hsl.1
      clear hcl hrlen hsl hrr oi1
      obtain ⟨l0, l1, l2, l3, l4⟩ := HS.out.kL
      obtain ⟨x0, x1, x2, x3, x4⟩ := HS.out.kX
      obtain ⟨m0, m1, m2, m3, m4⟩ := HS.out.kC
      go_wp2_with fail
      refine HCL.out.mono ?_
      rintro e w3 ⟨rfl, s1, s2, s3⟩
      have HF := Lib.hid (HS.out.sim rfl s1 s2 HSL.out s3)
      clear s1 s2 s3 l0 l1 l2 l3 l4 x0 x1 x2 x3 x4 m0 m1 m2 m3 m4
      go_wp2
      go_meet
      exact HF.out
    · have e := HLM.out
      rw [lstep_bar HD.out rfl] at e
      obtain ⟨rfl, rfl⟩ := Prod.mk.inj e
      have HE := Lib.hid e
      obtain ⟨g0, g1, g2, g3, g4⟩ := HS.out.kX
      have f3 := HS.out.fX 3
      clear e HLM
      go_wp2
      go_meet
      exact HS.out.fin (Wr_set0 _ X 3 _) (HS.out.kX.s3 _)
    · have e := HLM.out
      rw [lstep_if HD.out rfl] at e
      simp only at e
      obtain ⟨A, rfl⟩ : ∃ n : Nat, dA = n := ⟨dA.toNat, by omega⟩
      have hAi : (A : Int) < 4 := by omega
      have hrlen := HRL.out
      have hA4 : A < rs.length := by omega
      obtain ⟨en, oth, hbe, he1, ho1, ho2⟩ := end_in hp HD.out (Or.inl rfl)
      rw [hbe] at e
      simp only at e
      have HBE := Lib.hid hbe
      have HE := Lib.hid e
      clear e HLM hbe hrlen
      obtain ⟨l0, l1, l2, l3, l4⟩ := HS.out.kL
      obtain ⟨g0, g1, g2, g3, g4⟩ := HS.out.kX
      obtain ⟨m0, m1, m2, m3, m4⟩ := HS.out.kC
      have f1 := HS.out.fX 1
      have f2 := HS.out.fX 2
      go_wp2_with fail
      refine (l4End_any _ cs q _ HS.out.kc hql).mono ?_
      rintro e w3 ⟨rfl, hb3⟩
      rw [HBE.out]
      have hS3 := HS.out.below hb3
      have HS3 := Lib.hid hS3
      have r0 := (OI.mk hS3.kr).get hA4
      clear hS3 hb3
      clear l0 l1 l2 l3 l4 g0 g1 g2 g3 g4 m0 m1 m2 m3 m4 f1 f2
      obtain ⟨l0, l1, l2, l3, l4⟩ := HS3.out.kL
      obtain ⟨g0, g1, g2, g3, g4⟩ := HS3.out.kX
      obtain ⟨m0, m1, m2, m3, m4⟩ := HS3.out.kC
      have f1 := HS3.out.fX 1
      have f2 := HS3.out.fX 2
      have hAl : (A : Int) < rs.length := by omega
      by_cases hx : rg rs A = 0
      · have HE2 := HE.out
        rw [if_pos hx] at HE2
        rw [hx] at r0
        by_cases hoo : 0 ≤ oth
        · rw [if_pos hoo] at HE2
          obtain ⟨rfl, rfl⟩ := Prod.mk.inj HE2
          clear HE HE2 hx
          go_wp2
          go_meet
          exact HS3.out.fin ((Wr_set0 _ X 1 _).trans (Wr_set0 _ X 1 _)) ((HS3.out.kX.s1 _).s1 _)
        · rw [if_neg hoo] at HE2
          obtain ⟨rfl, rfl⟩ := Prod.mk.inj HE2
          clear HE HE2 hx
          go_wp2
          go_meet
          exact HS3.out.fin (Wr_set0 _ X 1 _) (HS3.out.kX.s1 _)
      · have HE2 := HE.out
        rw [if_neg hx] at HE2
        obtain ⟨rfl, rfl⟩ := Prod.mk.inj HE2
        have hxb : (rg rs A == 0) = false := by simpa using hx
        clear HE HE2
        go_wp2
        go_meet
        exact HS3.out.fin (Wr.refl _ _) HS3.out.kX
    · have e := HLM.out
      rw [lstep_else HD.out rfl] at e
      obtain ⟨p0, cc0, har, hp0, hcc, hco⟩ := around_in hp HD.out (Or.inl rfl)
      obtain ⟨en, oth, hbe, he1, ho1, ho2⟩ := end_in hp hcc hco
      rw [har, Int.toNat_natCast, hbe] at e
      obtain ⟨rfl, rfl⟩ := Prod.mk.inj e
      have HAR := Lib.hid har
      have HBE := Lib.hid hbe
      clear e HLM har hbe hcc hco
      obtain ⟨l0, l1, l2, l3, l4⟩ := HS.out.kL
      obtain ⟨g0, g1, g2, g3, g4⟩ := HS.out.kX
      obtain ⟨m0, m1, m2, m3, m4⟩ := HS.out.kC
      have f1 := HS.out.fX 1
      have f2 := HS.out.fX 2
      go_wp2_with fail
      refine (l4Around_any _ cs q _ HS.out.kc (Nat.le_of_lt hql)).mono ?_
      rintro e w3 ⟨rfl, hb3⟩
      rw [HAR.out]
      have hS3 := HS.out.below hb3
      have HS3 := Lib.hid hS3
      clear hS3 hb3
      clear l0 l1 l2 l3 l4 g0 g1 g2 g3 g4 m0 m1 m2 m3 m4 f1 f2
      go_wp2_with fail
      refine (l4End_any _ cs p0 _ HS3.out.kc (by omega)).mono ?_
      rintro e w4 ⟨rfl, hb4⟩
      rw [HBE.out]
      have hS4 := HS3.out.below hb4
      have HS4 := Lib.hid hS4
      clear hS4 hb4
      obtain ⟨l0, l1, l2, l3, l4⟩ := HS4.out.kL
      obtain ⟨g0, g1, g2, g3, g4⟩ := HS4.out.kX
      obtain ⟨m0, m1, m2, m3, m4⟩ := HS4.out.kC
      have f1 := HS4.out.fX 1
      have f2 := HS4.out.fX 2
      go_wp2
      go_meet
      exact HS4.out.fin (Wr_set0 _ X 1 _) (HS4.out.kX.s1 _)
    · have e := HLM.out
      rw [lstep_loop HD.out rfl] at e
      simp only at e
      obtain ⟨A, rfl⟩ : ∃ n : Nat, dA = n := ⟨dA.toNat, by omega⟩
      have hrlen := HRL.out
      have hA4 : A < rs.length := by omega
      have hAl : (A : Int) < rs.length := by omega
      obtain ⟨en, oth, hbe, he1, ho1, ho2⟩ := end_in hp HD.out (Or.inr rfl)
      rw [hbe] at e
      simp only at e
      have HBE := Lib.hid hbe
      have HE := Lib.hid e
      have vb := v10 rfl
      have r0 := (OI.mk HS.out.kr).get hA4
      clear e HLM hbe hrlen v10
      by_cases hx : rg rs A = 0
      · have HE2 := HE.out
        rw [if_pos hx] at HE2
        obtain ⟨rfl, rfl⟩ := Prod.mk.inj HE2
        rw [hx] at r0
        clear HE HE2 hx
        obtain ⟨l0, l1, l2, l3, l4⟩ := HS.out.kL
        obtain ⟨g0, g1, g2, g3, g4⟩ := HS.out.kX
        obtain ⟨m0, m1, m2, m3, m4⟩ := HS.out.kC
        have f1 := HS.out.fX 1
        have f2 := HS.out.fX 2
        go_wp2_with fail
        refine (l4End_any _ cs q _ HS.out.kc hql).mono ?_
        rintro e w3 ⟨rfl, hb3⟩
        rw [HBE.out]
        have hS3 := HS.out.below hb3
        have HS3 := Lib.hid hS3
        clear hS3 hb3
        clear l0 l1 l2 l3 l4 g0 g1 g2 g3 g4 m0 m1 m2 m3 m4 f1 f2
        obtain ⟨l0, l1, l2, l3, l4⟩ := HS3.out.kL
        obtain ⟨g0, g1, g2, g3, g4⟩ := HS3.out.kX
        obtain ⟨m0, m1, m2, m3, m4⟩ := HS3.out.kC
        have f1 := HS3.out.fX 1
        have f2 := HS3.out.fX 2
        go_wp2
        go_meet
        exact HS3.out.fin (Wr_set0 _ X 1 _) (HS3.out.kX.s1 _)
      · have HE2 := HE.out
        rw [if_neg hx] at HE2
        obtain ⟨rfl, rfl⟩ := Prod.mk.inj HE2
        have hxb : (rg rs A == 0) = false := by simpa using hx
        clear HE HE2
        obtain ⟨l0, l1, l2, l3, l4⟩ := HS.out.kL
        obtain ⟨g0, g1, g2, g3, g4⟩ := HS.out.kX
        obtain ⟨m0, m1, m2, m3, m4⟩ := HS.out.kC
        have f1 := HS.out.fX 1
        have f2 := HS.out.fX 2
        have hn2 := HS.out.n2
        have hbs := HS.out.bX
        go_wp2_with (at_builtin; refine wpList_app1w _ rfl _ _ 23 3 rfl (b + 2) 8 (.int .i64 (dB - 1)) (.int .i64 0) Try.underlying23 infoInt rfl rfl _ _ _ hn2 rfl rfl (by omega) (by omega) (by omega) ?_)
        intro v' w' ho hw hwh
        have hXw := (HS.out.kX).wr hw (fun hh => by have := HS.out.x2 _ hh; omega)
        have fXw := (hw.frozen g4 (fun hh => by have := HS.out.x2 _ hh; omega)).trans (HS.out.fX 2)
        have HF := Lib.hid (HS.out.app ho hw hwh)
        obtain ⟨ad', cp', hv'⟩ := own_shape ho
        subst hv'
        clear l0 l1 l2 l3 l4 g0 g1 g2 g3 g4 m0 m1 m2 m3 m4 f1 f2
        obtain ⟨g0, g1, g2, g3, g4⟩ := hXw
        clear ho hw hwh hn2
        go_wp2
        go_meet
        exact HF.out
    · have e := HLM.out
      rw [lstep_end HD.out rfl] at e
      obtain ⟨p0, c0, har, hp0, hcc, hco⟩ := around_in hp HD.out (Or.inr rfl)
      rw [har, codeAt_nat hcc] at e
      have HAR := Lib.hid har
      have HE := Lib.hid e
      have HCC := Lib.hid hcc
      have v0 := cValid_bd (pValid_code hp hcc)
      obtain ⟨A, hA⟩ : ∃ n : Nat, c0.a = n := ⟨c0.a.toNat, by omega⟩
      have hA4 : A < rs.length := by have := HRL.out; omega
      have hAl : (A : Int) < rs.length := by omega
      have htl13 : c0.op = 13 → 1 ≤ ts.length ∧ 0 ≤ rg ts (ts.length - 1 : Int) ∧ rg ts (ts.length - 1 : Int) ≤ 3 := fun h => turn_last (d := c0) hp hl hql har hcc h
      clear e HLM har hcc
      obtain ⟨l0, l1, l2, l3, l4⟩ := HS.out.kL
      obtain ⟨g0, g1, g2, g3, g4⟩ := HS.out.kX
      obtain ⟨m0, m1, m2, m3, m4⟩ := HS.out.kC
      have f1 := HS.out.fX 1
      have f2 := HS.out.fX 2
      go_wp2_with fail
      refine (l4Around_any _ cs q _ HS.out.kc (Nat.le_of_lt hql)).mono ?_
      rintro e w3 ⟨rfl, hb3⟩
      rw [HAR.out]
      have hS3 := HS.out.below hb3
      have HS3 := Lib.hid hS3
      clear hS3 hb3
      clear l0 l1 l2 l3 l4 g0 g1 g2 g3 g4 m0 m1 m2 m3 m4 f1 f2
      obtain ⟨q0, q1, q2, q3, q4⟩ := HS3.out.kc.at HCC.out
      by_cases h13 : c0.op = 13
      · obtain ⟨ht1, ht2, ht3⟩ := htl13 h13
        rw [h13] at q0
        rw [hA] at q1
        have HE2 := HE.out
        rw [if_pos h13, hA] at HE2
        obtain ⟨n, hn⟩ : ∃ n, ts.length = n + 1 := ⟨ts.length - 1, by omega⟩
        have hni : (ts.length : Int) - 1 = (n : Int) := by omega
        have hnn : ts.length - 1 = n := by omega
        have hnl : n < ts.length := by omega
        obtain ⟨gt, rfl, _, oit, _, _⟩ := OwI.ne HS3.out.kt (by omega)
        obtain ⟨g2, rfl, _, oi2, hcc2, hcc3⟩ := OwI.ne HS3.out.n2 (by omega)
        rw [hni, hnn] at HE2
        rw [hni] at ht2 ht3
        have t0 := oit.get hnl
        have t2 := oi2.get hnl
        have ft := oi2.frz n
        have r0 := (OI.mk HS3.out.kr).get hA4
        have HHE := Lib.hid HE2
        have HNI := Lib.hid hni
        clear HE HE2 htl13 oit oi2 hn hnn
        obtain rfl : N = (n : Int) := by rw [← HN.out]; exact HNI.out
        clear HN
        obtain ⟨l0, l1, l2, l3, l4⟩ := HS3.out.kL
        obtain ⟨g0, g1, g2x, g3, g4⟩ := HS3.out.kX
        obtain ⟨m0, m1, m2, m3, m4⟩ := HS3.out.kC
        have f1 := HS3.out.fX 1
        have f2 := HS3.out.fX 2
        have hnli : (n : Int) < ts.length := by omega
        generalize rg ts (n : Int) = T at *
        generalize rg rs (A : Int) = x at *
        by_cases hT : 0 < T
        · by_cases hx : x = 0
          · have HE3 := HHE.out
            rw [if_neg (by rw [hx]; simp)] at HE3
            obtain ⟨rfl, rfl⟩ := Prod.mk.inj HE3
            subst hx
            clear HE3 HHE
            go_wp2
            go_quiet (fail)
            go_wp2
            go_meet
            exact (HS3.out.below (below_drewN (Below.refl _ _) _)).drop (n := n) rfl (Nat.le_of_lt hnl)
          · have HE3 := HHE.out
            rw [if_pos ⟨hT, hx⟩] at HE3
            obtain ⟨rfl, rfl⟩ := Prod.mk.inj HE3
            have hxb : (x == 0) = false := by simpa using hx
            clear HE3 HHE
            have hgX : g2 < X := HS3.out.x2 g2 rfl
            have hgX2 : ¬ g2 = X := by omega
            go_wp2
            go_quiet (fail)
            go_wp2
            go_region
            all_goals
              go_wp2
              go_meet
              exact (HS3.out.below (below_drewN (Below.refl _ _) _)).turn rfl n (T - 1) (p0 + 1)
        · have HE3 := HHE.out
          rw [if_neg (fun h => hT h.1)] at HE3
          obtain ⟨rfl, rfl⟩ := Prod.mk.inj HE3
          have hTb : decide (0 < T) = false := by simpa using hT
          clear HE3 HHE
          go_wp2
          go_quiet (fail)
          go_wp2
          go_meet
          exact (HS3.out.below (below_drewN (Below.refl _ _) _)).drop (n := n) rfl (Nat.le_of_lt hnl)
      · have HE2 := HE.out
        rw [if_neg h13] at HE2
        obtain ⟨rfl, rfl⟩ := Prod.mk.inj HE2
        have hob : (c0.op == 13) = false := by simpa using h13
        clear HE HE2 htl13 hA
        go_wp2
        go_meet
        exact HS3.out.fin (Wr.refl _ _) HS3.out.kX
  case rest =>
    obtain ⟨r', t', kX, kZ, kG, n1, n2, nd, km, hw⟩ := hcut
    obtain ⟨a3, c3, hs3⟩ := own_shape n1
    obtain ⟨a4, c4, hs4⟩ := own_shape n2
    subst hs3 hs4
    have hws := Wr_set4 wc (b + 1) (.slice a3 L.regs.length c3) (.int .i64 L.pc) (.slice a4 L.turns.length c4) (.bool L.waits)
    have hwz := HB.out
    have hzz := kZ.lt
    have kZ2 := kZ.set4 (.slice a3 L.regs.length c3) (.int .i64 L.pc) (.slice a4 L.turns.length c4) (.bool L.waits)
    have o3 : OwI (b + 2) _ _ _ := hws.owns n1 (fun k hk hh => by have := own_ge n1 k hk; omega)
    have o4 : OwI (b + 2) _ _ _ := hws.owns n2 (fun k hk hh => by have := own_ge n2 k hk; omega)
    have m3 := km.wr hws (by omega)
    have w3 : Wr w _ (fun k => k = gm) := ⟨hws.os.trans hw.os, hws.tape.trans hw.tape, hws.output.trans hw.output, Nat.le_trans hw.size hws.size, fun k hk hp => (hws.block k (Nat.lt_of_lt_of_le hk hw.size) (by omega)).trans (hw.block k hk hp)⟩
    have HF : Hid (StepD Bm w gm cm L M (.returned (.agg #[.slice a3 L.regs.length c3, .int .i64 L.pc, .slice a4 L.turns.length c4, .bool L.waits])) _) := Lib.hid ⟨_, _, rfl, own_mono o3 (by omega), own_mono o4 (by omega), nd, m3, w3⟩
    have f0 := kG 0
    have f1 := kG 1
    have f2 := kG 2
    have f3 := kG 3
    obtain ⟨g0, g1, g2, g3, g4⟩ := kX
    obtain ⟨y0, y1, y2, y3, y4⟩ := kZ
    have HZ2 := Lib.hid kZ2
    clear kZ2 hws hw n1 n2 nd km kG o3 o4 m3 w3
    go_wp2
    obtain ⟨z0, z1, z2, z3, z4⟩ := HZ2.out
    refine bodyPost_ret (v := .agg #[.slice a3 L.regs.length c3, .int .i64 L.pc, .slice a4 L.turns.length c4, .bool L.waits]) (by simp [results, Try.results37, go_sem, z0, z1, z2, z3]) rfl HF.out
end Go.Proofs.Ythhdffgfldphlaa
