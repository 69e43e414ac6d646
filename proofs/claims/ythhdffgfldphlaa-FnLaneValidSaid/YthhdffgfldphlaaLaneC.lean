/- YthhdffgfldphlaaLaneC: copies of lanes and of memories, in new memory, by the reference and the program. Conditions: the lane's lists are the call's own or an elder call's. -/
import Derived.Test.YthhdffgfldphlaaLaneS
import Derived.Test.YthhdffgfldphlaaDrawC
import Derived.Test.YthhdffgfldphlaaAppM
namespace Go.Proofs.Ythhdffgfldphlaa
open Go.ChangeShapes Go.WideShapes Go.ChangeAt Go.RowKit
set_option linter.unusedVariables false
/-- A list of numbers in memory of somebody's own. -/
def OwI (B : Nat) (w : World) (v : Value) (xs : List Int) : Prop := w.ownsRow B 3 1 v xs.length (xs.map (Value.int .i64))
theorem OwI.below {B : Nat} {w w' : World} {v : Value} {xs : List Int} (h : OwI B w v xs) (hb : Below w.heap.size w w') : OwI B w' v xs := owns_below h hb (Nat.le_refl _)
def upC {α : Type} (f : Nat → α) (i : Nat) (v : α) : Nat → α := fun k => if k = i then v else f k
/-- What has been carried out of the copy of a lane: x the lane's block, x + 1 the copy's. -/
structure CF (w0 : World) (x B1 B2 : Nat) (r t : Value) (l : Ln) (b : Nat → Bool) (u : Nat → Value) (w : World) : Prop where
  bel : Below x w0 w
  sz : x + 2 ≤ w.heap.size
  box : Box4 w x r (.int .i64 l.pc) t (.bool l.waits)
  rr : OwI B1 w r l.regs
  tt : OwI B2 w t l.turns
  rx : ∀ k, r.ownBlock = some k → k < x
  tx : ∀ k, t.ownBlock = some k → k < x
  o1 : b 1 = true → u 4 = .pointer (some ⟨x, 0, none⟩)
  o2 : b 2 = true → u 5 = r
  o4 : b 4 = true → u 7 = .pointer (some ⟨x, 1, none⟩)
  o5 : b 5 = true → u 8 = .int .i64 l.pc
  o7 : b 7 = true → u 10 = .pointer (some ⟨x, 2, none⟩)
  o8 : b 8 = true → u 11 = t
  o10 : b 10 = true → u 13 = .pointer (some ⟨x, 3, none⟩)
  o11 : b 11 = true → u 14 = .bool l.waits
  oA : b 0 = true → OwI (x + 2) w (if b 3 then u 6 else u 3) (if b 3 then l.regs else [])
  oB : b 6 = true → OwI (x + 2) w (if b 9 then u 12 else u 9) (if b 9 then l.turns else [])
  dis : b 0 = true → b 6 = true → ∀ k, (if b 3 then u 6 else u 3).ownBlock = some k → (if b 9 then u 12 else u 9).ownBlock ≠ some k
  o12 : b 12 = true → u 15 = .agg #[u 6, .int .i64 l.pc, u 12, .bool l.waits] ∧ b 3 = true ∧ b 9 = true
  q3 : b 3 = true → b 0 = true
  q9 : b 9 = true → b 6 = true
  res : ∃ c0 c1 c2 c3, Box4 w (x + 1) c0 c1 c2 c3 ∧ (b 13 = true → b 12 = true ∧ c0 = u 6 ∧ c1 = .int .i64 l.pc ∧ c2 = u 12 ∧ c3 = .bool l.waits)
  frz : ∀ o, o < 4 → w.frozen? ⟨x + 1, o, none⟩ = false
  nA : b 0 = true → b 3 = false → u 3 ≠ .slice none 0 0
  nB : b 6 = true → b 9 = false → u 9 ≠ .slice none 0 0
section
variable {w0 w : World} {x B1 B2 : Nat} {r t : Value} {l : Ln} {b : Nat → Bool} {u : Nat → Value}
theorem CF.moved (h : CF w0 x B1 B2 r t l b u w) {w' : World} {p : Nat → Prop} (hw : Wr w w' p) (hp : ∀ k, p k → x + 2 ≤ k) : Below x w0 w' ∧ x + 2 ≤ w'.heap.size ∧ Box4 w' x r (.int .i64 l.pc) t (.bool l.waits) ∧ OwI B1 w' r l.regs ∧ OwI B2 w' t l.turns ∧ (∃ c0 c1 c2 c3, Box4 w' (x + 1) c0 c1 c2 c3 ∧ (b 13 = true → b 12 = true ∧ c0 = u 6 ∧ c1 = .int .i64 l.pc ∧ c2 = u 12 ∧ c3 = .bool l.waits)) ∧ ∀ o, o < 4 → w'.frozen? ⟨x + 1, o, none⟩ = false := by
  have hz := h.sz
  obtain ⟨c0, c1, c2, c3, k1, k2⟩ := h.res
  exact ⟨Below.wr h.bel hw (by omega) (fun k hk => by have := hp k hk; omega), Nat.le_trans hz hw.size, h.box.wr hw (fun hh => by have := hp _ hh; omega), hw.owns h.rr (fun k hk hh => by have := h.rx k hk; have := hp k hh; omega), hw.owns h.tt (fun k hk hh => by have := h.tx k hk; have := hp k hh; omega),
    ⟨c0, c1, c2, c3, k1.wr hw (fun hh => by have := hp _ hh; omega), k2⟩, fun o ho => (hw.frozen (by omega) (fun hh => by have := hp _ hh; omega)).trans (h.frz o ho)⟩
theorem CF.world (h : CF w0 x B1 B2 r t l b u w) {w' : World} {p : Nat → Prop} (hw : Wr w w' p) (hp : ∀ k, p k → x + 2 ≤ k) (hA : b 0 = true → OwI (x + 2) w' (if b 3 then u 6 else u 3) (if b 3 then l.regs else [])) (hB : b 6 = true → OwI (x + 2) w' (if b 9 then u 12 else u 9) (if b 9 then l.turns else [])) : CF w0 x B1 B2 r t l b u w' := by
  obtain ⟨h1, h2, h3, h4, h5, h6, h7⟩ := h.moved hw hp
  exact ⟨h1, h2, h3, h4, h5, h.rx, h.tx, h.o1, h.o2, h.o4, h.o5, h.o7, h.o8, h.o10, h.o11, hA, hB, h.dis, h.o12, h.q3, h.q9, h6, h7, h.nA, h.nB⟩
theorem Box4.set4 {b : Nat} {c0 c1 c2 c3 : Value} (h : Box4 w b c0 c1 c2 c3) (v0 v1 v2 v3 : Value) : Box4 ((((w.setCell ⟨b, 0, none⟩ v0).setCell ⟨b, 1, none⟩ v1).setCell ⟨b, 2, none⟩ v2).setCell ⟨b, 3, none⟩ v3) b v0 v1 v2 v3 := by
  obtain ⟨h0, h1, h2, h3, h4⟩ := h
  have e1 : (w.setCell ⟨b, 0, none⟩ v0).cell? ⟨b, 1, none⟩ = some c1 := by rw [World.cell?_setCell_other _ _ _ _ (by simp)]; exact h1
  have e2 : ((w.setCell ⟨b, 0, none⟩ v0).setCell ⟨b, 1, none⟩ v1).cell? ⟨b, 2, none⟩ = some c2 := by rw [World.cell?_setCell_other _ _ _ _ (by simp), World.cell?_setCell_other _ _ _ _ (by simp)]; exact h2
  have e3 : (((w.setCell ⟨b, 0, none⟩ v0).setCell ⟨b, 1, none⟩ v1).setCell ⟨b, 2, none⟩ v2).cell? ⟨b, 3, none⟩ = some c3 := by rw [World.cell?_setCell_other _ _ _ _ (by simp), World.cell?_setCell_other _ _ _ _ (by simp), World.cell?_setCell_other _ _ _ _ (by simp)]; exact h3
  refine ⟨?_, ?_, ?_, World.cell?_setCell_same _ _ _ e3, by simp [World.setCell]; exact h4⟩
  · rw [World.cell?_setCell_other _ _ _ _ (by simp), World.cell?_setCell_other _ _ _ _ (by simp), World.cell?_setCell_other _ _ _ _ (by simp)]; exact World.cell?_setCell_same _ _ _ h0
  · rw [World.cell?_setCell_other _ _ _ _ (by simp), World.cell?_setCell_other _ _ _ _ (by simp)]; exact World.cell?_setCell_same _ _ _ e1
  · rw [World.cell?_setCell_other _ _ _ _ (by simp)]; exact World.cell?_setCell_same _ _ _ e2
theorem Wr_set4 (w : World) (b : Nat) (v0 v1 v2 v3 : Value) : Wr w ((((w.setCell ⟨b, 0, none⟩ v0).setCell ⟨b, 1, none⟩ v1).setCell ⟨b, 2, none⟩ v2).setCell ⟨b, 3, none⟩ v3) (fun k => k = b) :=
  (((Wr_set0 w b 0 v0).trans (Wr_set0 _ b 1 v1)).trans (Wr_set0 _ b 2 v2)).trans (Wr_set0 _ b 3 v3)
theorem OwI.lit (w : World) (B : Nat) (hB : B ≤ w.heap.size) : OwI B (w.alloc (.cells #[] 3)) (.slice (some ⟨w.heap.size, 0, none⟩) 0 0) [] := World.ownsRow_lit w #[] 0 hB (by decide) rfl
end
/-- A lane copied: in new memory. -/
def CpLn (w : World) (l : Ln) (e : Ending) (w' : World) : Prop :=
  ∃ r t, e = .returned (.agg #[r, .int .i64 l.pc, t, .bool l.waits]) ∧ OwI w.heap.size w' r l.regs ∧ OwI w.heap.size w' t l.turns ∧ (∀ k, r.ownBlock = some k → t.ownBlock ≠ some k) ∧ Below w.heap.size w w'
set_option maxRecDepth 100000 in
set_option maxHeartbeats 8000000 in
theorem l6Copy_any (B1 B2 : Nat) (r t : Value) (l : Ln) (w : World) (hr : OwI B1 w r l.regs) (ht : OwI B2 w t l.turns) (hrl : l.regs.length ≤ 1000000) (htl : l.turns.length ≤ 1000000) :
    Calls Try.prog 36 #[.agg #[r, .int .i64 l.pc, t, .bool l.waits]] w (CpLn w l) := by
  obtain ⟨x, hx⟩ : ∃ x, w.heap.size = x := ⟨_, rfl⟩
  have hrx : ∀ k, r.ownBlock = some k → k < x := fun k hk => by rw [← hx]; exact own_lt hr k hk
  have htx : ∀ k, t.ownBlock = some k → k < x := fun k hk => by rw [← hx]; exact own_lt ht k hk
  have hstart : CF w x B1 B2 r t l (fun _ => false) (fun _ => undef) ((w.alloc (.cells #[r, .int .i64 l.pc, t, .bool l.waits] 25)).alloc (.cells #[.slice none 0 0, .int .i64 0, .slice none 0 0, .bool false] 25)).drew := by
    have h1 := below_alloc w (.cells #[r, .int .i64 l.pc, t, .bool l.waits] 25)
    have h2 := below_alloc (w.alloc (.cells #[r, .int .i64 l.pc, t, .bool l.waits] 25)) (.cells #[.slice none 0 0, .int .i64 0, .slice none 0 0, .bool false] 25)
    have h3 := (h1.trans (h2.mono h1.size)).drew
    have hX := ((Box4.new w r (.int .i64 l.pc) t (.bool l.waits) 25).below h2 (Nat.le_refl _))
    have hX2 : Box4 ((w.alloc (.cells #[r, .int .i64 l.pc, t, .bool l.waits] 25)).alloc (.cells #[.slice none 0 0, .int .i64 0, .slice none 0 0, .bool false] 25)).drew x r (.int .i64 l.pc) t (.bool l.waits) := by
      rw [← hx]; exact ⟨hX.at0, hX.at1, hX.at2, hX.at3, hX.lt⟩
    have hX3 := Box4.new (w.alloc (.cells #[r, .int .i64 l.pc, t, .bool l.waits] 25)) (.slice none 0 0) (.int .i64 0) (.slice none 0 0) (.bool false) 25
    have hF3 := fun o => frozen_of_row ((w.alloc (.cells #[r, .int .i64 l.pc, t, .bool l.waits] 25)).alloc (.cells #[.slice none 0 0, .int .i64 0, .slice none 0 0, .bool false] 25)) (w.alloc (.cells #[r, .int .i64 l.pc, t, .bool l.waits] 25)).heap.size o #[.slice none 0 0, .int .i64 0, .slice none 0 0, .bool false] 25 (heap_alloc_new _ _)
    rw [World.size_alloc, hx] at hX3 hF3
    exact ⟨by rw [← hx]; exact h3, by rw [← hx]; simp, hX2, OwI.below hr h3, OwI.below ht h3, hrx, htx, by simp, by simp, by simp, by simp, by simp, by simp, by simp, by simp, by simp, by simp, by simp, by simp, by simp, by simp, ⟨.slice none 0 0, .int .i64 0, .slice none 0 0, .bool false, ⟨hX3.at0, hX3.at1, hX3.at2, hX3.at3, hX3.lt⟩, fun h => absurd h (by simp)⟩, fun o _ => hF3 o, by simp, by simp⟩
  have HST := Lib.hid hstart
  have HX := Lib.hid hx
  clear hstart hr ht hx
  go_enter Try.func36, Try.ntmps36
  go_upto_region 1 with fail
  rw [HX.out]
  refine region_dag (by kernel_rfl) (fun L act ww => ∃ (b : Nat → Bool), L = #[b 0, b 1, b 2, b 3, b 4, b 5, b 6, b 7, b 8, b 9, b 10, b 11, b 12, b 13] ∧ ∃ (u : Nat → Value), act = ⟨#[.agg #[r, .int .i64 l.pc, t, .bool l.waits], .pointer (some ⟨x, 0, none⟩), .pointer (some ⟨x + 1, 0, none⟩), u 3, u 4, u 5, u 6, u 7, u 8, u 9, u 10, u 11, u 12, u 13, u 14, u 15], []⟩ ∧ CF w x B1 B2 r t l b u ww) ?_ ?_ ?_
  · exact ⟨fun _ => false, rfl, fun _ => undef, rfl, HST.out⟩
  · intro L act ww hI i hi
    obtain ⟨b, rfl, u, rfl, hF⟩ := hI
    obtain ⟨hlt, hb, he⟩ := ready_mem hi
    clear hi
    have hlt : i < 14 := hlt
    rcases (show i = 0 ∨ i = 1 ∨ i = 2 ∨ i = 3 ∨ i = 4 ∨ i = 5 ∨ i = 6 ∨ i = 7 ∨ i = 8 ∨ i = 9 ∨ i = 10 ∨ i = 11 ∨ i = 12 ∨ i = 13 by omega) with rfl | rfl | rfl | rfl | rfl | rfl | rfl | rfl | rfl | rfl | rfl | rfl | rfl | rfl
    · refine wpOp_list rfl ?_
      intro K' hK'
      simp [Region.binds] at hb he
      have hb3 : b 3 = false := by
        cases h9 : b 3 with
        | false => rfl
        | true => exact absurd (hF.q3 h9) (by simp [hb])
      have hz := hF.sz
      have hb12 : b 12 = false := by
        cases h9 : b 12 with
        | false => rfl
        | true => exact absurd (hF.o12 h9).2.1 (by simp [hb3])
      have hN := OwI.lit ww (x + 2) hz
      have hbl := below_alloc ww (.cells #[] 3)
      have hG : CF w x B1 B2 r t l (upC b 0 true) (upC u 3 (.slice (some ⟨ww.heap.size, 0, none⟩) 0 0)) (ww.alloc (.cells #[] 3)) := by
        have h1 := hF.world (Wr.of_below (p := fun _ => False) hbl) (fun k hk => hk.elim) (fun h => (hF.oA h).below hbl) (fun h => (hF.oB h).below hbl)
        have hdis : ∀ k, (Value.slice (some ⟨ww.heap.size, 0, none⟩) 0 0).ownBlock = some k → ∀ v xs, OwI (x + 2) ww v xs → v.ownBlock ≠ some k := by
          intro k hk v xs hv hh
          have := own_lt hv k hh
          have hk2 : (some ww.heap.size : Option Nat) = some k := hk
          injection hk2 with hk3
          omega
        obtain ⟨c0, c1, c2, c3, k1, k2⟩ := h1.res
        exact ⟨h1.bel, h1.sz, h1.box, h1.rr, h1.tt, h1.rx, h1.tx, h1.o1, h1.o2, h1.o4, h1.o5, h1.o7, h1.o8, h1.o10, h1.o11, fun _ => by simp only [upC, hb3]; exact hN, fun h => h1.oB (by simpa [upC] using h), fun _ h6 k hk => by simp only [upC, hb3] at hk; exact hdis k hk _ _ (hF.oB (by simpa [upC] using h6)), fun h => absurd (show b 12 = true by simpa [upC] using h) (by simp [hb12]), fun _ => rfl, fun h => by simpa [upC] using h1.q9 (by simpa [upC] using h), ⟨c0, c1, c2, c3, k1, fun h => absurd (k2 (by simpa [upC] using h)).1 (by simp [hb12])⟩, h1.frz, fun _ _ => by simp [upC], fun h h9 => h1.nB (by simpa [upC] using h) (by simpa [upC] using h9)⟩
      clear hN
      go_wp2
      exact ⟨_, by simp [upC], _, by first | simp [upC] | rfl, hG⟩
    · refine wpOp_list rfl ?_
      intro K' hK'
      simp [Region.binds] at hb he
      go_wp2
      exact ⟨upC b 1 true, by simp [upC], upC u 4 (.pointer (some ⟨x, 0, none⟩)), by simp [upC], ⟨hF.bel, hF.sz, hF.box, hF.rr, hF.tt, hF.rx, hF.tx, fun _ => rfl, hF.o2, hF.o4, hF.o5, hF.o7, hF.o8, hF.o10, hF.o11, hF.oA, hF.oB, hF.dis, hF.o12, hF.q3, hF.q9, hF.res, hF.frz, hF.nA, hF.nB⟩⟩
    · refine wpOp_list rfl ?_
      intro K' hK'
      simp [Region.binds] at hb he
      have hu := hF.o1 he
      obtain ⟨g0, g1, g2, g3, g4⟩ := hF.box
      go_wp2
      exact ⟨upC b 2 true, by simp [upC, he], upC u 5 (r), by simp [upC, hu], ⟨hF.bel, hF.sz, hF.box, hF.rr, hF.tt, hF.rx, hF.tx, hF.o1, fun _ => rfl, hF.o4, hF.o5, hF.o7, hF.o8, hF.o10, hF.o11, hF.oA, hF.oB, hF.dis, hF.o12, hF.q3, hF.q9, hF.res, hF.frz, hF.nA, hF.nB⟩⟩
    · refine wpOp_list rfl ?_
      intro K' hK'
      simp [Region.binds] at hb he
      have hu := hF.o2 he.2
      have hA := hF.oA he.1
      have hnA := hF.nA he.1 hb
      simp only [hb, Bool.false_eq_true, if_false] at hA
      have hb12 : b 12 = false := by
        cases h9 : b 12 with
        | false => rfl
        | true => exact absurd (hF.o12 h9).2.1 (by simp [hb])
      have hz := hF.sz
      refine wpList_app2w ww (by rfl) _ _ 23 3 rfl _ _ 1 8 (.int .i64 0) Try.underlying23 infoInt rfl (by decide) _ _ _ _ _ _ hA hnA hF.rr (oneI2 _) rfl hu (by simp; omega) (by simp; omega) hz ?_
      intro v' w' ho hw hwh
      obtain ⟨h1, h2, h3, h4, h5, ⟨c0, c1, c2, c3, k1, k2⟩, h7⟩ := hF.moved hw (own_ge hA)
      have hG : CF w x B1 B2 r t l (upC b 3 true) (upC u 6 v') w' := by
        have hown : OwI (x + 2) w' (if upC b 3 true 3 then upC u 6 v' 6 else upC u 6 v' 3) (if upC b 3 true 3 then l.regs else []) := by
          have e1 : (if upC b 3 true 3 then upC u 6 v' 6 else upC u 6 v' 3) = v' := by simp [upC]
          have e2 : (if upC b 3 true 3 then l.regs else []) = l.regs := by simp [upC]
          rw [e1, e2]
          simpa [OwI] using ho
        have hoth : b 6 = true → OwI (x + 2) w' (if upC b 3 true 9 then upC u 6 v' 12 else upC u 6 v' 9) (if upC b 3 true 9 then l.turns else []) := by
          intro h
          have e1 : (if upC b 3 true 9 then upC u 6 v' 12 else upC u 6 v' 9) = (if b 9 then u 12 else u 9) := by simp [upC]
          have e2 : (if upC b 3 true 9 then l.turns else []) = (if b 9 then l.turns else []) := by simp [upC]
          rw [e1, e2]
          exact hw.owns (hF.oB h) (fun k hk hh => hF.dis he.1 h k (by simpa [hb] using hh) hk)
        have h6r : ∃ c0 c1 c2 c3, Box4 w' (x + 1) c0 c1 c2 c3 ∧ (upC b 3 true 13 = true → upC b 3 true 12 = true ∧ c0 = upC u 6 v' 6 ∧ c1 = .int .i64 l.pc ∧ c2 = upC u 6 v' 12 ∧ c3 = .bool l.waits) := ⟨c0, c1, c2, c3, k1, fun h => absurd (k2 (by simpa [upC] using h)).1 (by simp [hb12])⟩
        exact ⟨h1, h2, h3, h4, h5, hF.rx, hF.tx, hF.o1, hF.o2, hF.o4, hF.o5, hF.o7, hF.o8, hF.o10, hF.o11, fun _ => hown, fun h => hoth (by simpa [upC] using h), fun h0 h6 k hk => by
            have hk : v'.ownBlock = some k := by simpa [upC] using hk
            have h6 : b 6 = true := by simpa [upC] using h6
            have hO := hF.oB h6
            show (if upC b 3 true 9 then upC u 6 v' 12 else upC u 6 v' 9).ownBlock ≠ some k
            have e : (if upC b 3 true 9 then upC u 6 v' 12 else upC u 6 v' 9) = (if b 9 then u 12 else u 9) := by simp [upC]
            rw [e]
            rcases hwh k hk with hh | hh
            · exact hF.dis he.1 h6 k (by simpa [hb] using hh)
            · intro hx; have := own_lt hO k hx; omega, fun h => absurd (show b 12 = true by simpa [upC] using h) (by simp [hb12]), fun _ => he.1, fun h => by simpa [upC] using hF.q9 (by simpa [upC] using h), h6r, h7, fun _ h3 => absurd h3 (by simp [upC]), fun h h9 => hF.nB (by simpa [upC] using h) (by simpa [upC] using h9)⟩
      go_wp2
      exact ⟨_, by simp [upC], upC u 6 v', rfl, hG⟩
    · refine wpOp_list rfl ?_
      intro K' hK'
      simp [Region.binds] at hb he
      go_wp2
      exact ⟨upC b 4 true, by simp [upC], upC u 7 (.pointer (some ⟨x, 1, none⟩)), by simp [upC], ⟨hF.bel, hF.sz, hF.box, hF.rr, hF.tt, hF.rx, hF.tx, hF.o1, hF.o2, fun _ => rfl, hF.o5, hF.o7, hF.o8, hF.o10, hF.o11, hF.oA, hF.oB, hF.dis, hF.o12, hF.q3, hF.q9, hF.res, hF.frz, hF.nA, hF.nB⟩⟩
    · refine wpOp_list rfl ?_
      intro K' hK'
      simp [Region.binds] at hb he
      have hu := hF.o4 he
      obtain ⟨g0, g1, g2, g3, g4⟩ := hF.box
      go_wp2
      exact ⟨upC b 5 true, by simp [upC, he], upC u 8 (.int .i64 l.pc), by simp [upC, hu], ⟨hF.bel, hF.sz, hF.box, hF.rr, hF.tt, hF.rx, hF.tx, hF.o1, hF.o2, hF.o4, fun _ => rfl, hF.o7, hF.o8, hF.o10, hF.o11, hF.oA, hF.oB, hF.dis, hF.o12, hF.q3, hF.q9, hF.res, hF.frz, hF.nA, hF.nB⟩⟩
    · refine wpOp_list rfl ?_
      intro K' hK'
      simp [Region.binds] at hb he
      have hb9 : b 9 = false := by
        cases h9 : b 9 with
        | false => rfl
        | true => exact absurd (hF.q9 h9) (by simp [hb])
      have hz := hF.sz
      have hb12 : b 12 = false := by
        cases h9 : b 12 with
        | false => rfl
        | true => exact absurd (hF.o12 h9).2.2 (by simp [hb9])
      have hN := OwI.lit ww (x + 2) hz
      have hbl := below_alloc ww (.cells #[] 3)
      have hG : CF w x B1 B2 r t l (upC b 6 true) (upC u 9 (.slice (some ⟨ww.heap.size, 0, none⟩) 0 0)) (ww.alloc (.cells #[] 3)) := by
        have h1 := hF.world (Wr.of_below (p := fun _ => False) hbl) (fun k hk => hk.elim) (fun h => (hF.oA h).below hbl) (fun h => (hF.oB h).below hbl)
        have hdis : ∀ k, (Value.slice (some ⟨ww.heap.size, 0, none⟩) 0 0).ownBlock = some k → ∀ v xs, OwI (x + 2) ww v xs → v.ownBlock ≠ some k := by
          intro k hk v xs hv hh
          have := own_lt hv k hh
          have hk2 : (some ww.heap.size : Option Nat) = some k := hk
          injection hk2 with hk3
          omega
        obtain ⟨c0, c1, c2, c3, k1, k2⟩ := h1.res
        exact ⟨h1.bel, h1.sz, h1.box, h1.rr, h1.tt, h1.rx, h1.tx, h1.o1, h1.o2, h1.o4, h1.o5, h1.o7, h1.o8, h1.o10, h1.o11, fun h => h1.oA (by simpa [upC] using h), fun _ => by simp only [upC, hb9]; exact hN, fun h0 _ k hk => by simp only [upC, hb9]; exact fun hh => hdis k hh _ _ (hF.oA (by simpa [upC] using h0)) (by simpa [upC] using hk), fun h => absurd (show b 12 = true by simpa [upC] using h) (by simp [hb12]), fun h => by simpa [upC] using h1.q3 (by simpa [upC] using h), fun _ => rfl, ⟨c0, c1, c2, c3, k1, fun h => absurd (k2 (by simpa [upC] using h)).1 (by simp [hb12])⟩, h1.frz, fun h h3 => h1.nA (by simpa [upC] using h) (by simpa [upC] using h3), fun _ _ => by simp [upC]⟩
      clear hN
      go_wp2
      exact ⟨_, by simp [upC], _, by first | simp [upC] | rfl, hG⟩
    · refine wpOp_list rfl ?_
      intro K' hK'
      simp [Region.binds] at hb he
      go_wp2
      exact ⟨upC b 7 true, by simp [upC], upC u 10 (.pointer (some ⟨x, 2, none⟩)), by simp [upC], ⟨hF.bel, hF.sz, hF.box, hF.rr, hF.tt, hF.rx, hF.tx, hF.o1, hF.o2, hF.o4, hF.o5, fun _ => rfl, hF.o8, hF.o10, hF.o11, hF.oA, hF.oB, hF.dis, hF.o12, hF.q3, hF.q9, hF.res, hF.frz, hF.nA, hF.nB⟩⟩
    · refine wpOp_list rfl ?_
      intro K' hK'
      simp [Region.binds] at hb he
      have hu := hF.o7 he
      obtain ⟨g0, g1, g2, g3, g4⟩ := hF.box
      go_wp2
      exact ⟨upC b 8 true, by simp [upC, he], upC u 11 (t), by simp [upC, hu], ⟨hF.bel, hF.sz, hF.box, hF.rr, hF.tt, hF.rx, hF.tx, hF.o1, hF.o2, hF.o4, hF.o5, hF.o7, fun _ => rfl, hF.o10, hF.o11, hF.oA, hF.oB, hF.dis, hF.o12, hF.q3, hF.q9, hF.res, hF.frz, hF.nA, hF.nB⟩⟩
    · refine wpOp_list rfl ?_
      intro K' hK'
      simp [Region.binds] at hb he
      have hu := hF.o8 he.2.1
      have hA := hF.oB he.1
      have hnA := hF.nB he.1 hb
      simp only [hb, Bool.false_eq_true, if_false] at hA
      have hb12 : b 12 = false := by
        cases h9 : b 12 with
        | false => rfl
        | true => exact absurd (hF.o12 h9).2.2 (by simp [hb])
      have hz := hF.sz
      refine wpList_app2w ww (by rfl) _ _ 23 3 rfl _ _ 1 8 (.int .i64 0) Try.underlying23 infoInt rfl (by decide) _ _ _ _ _ _ hA hnA hF.tt (oneI2 _) rfl hu (by simp; omega) (by simp; omega) hz ?_
      intro v' w' ho hw hwh
      obtain ⟨h1, h2, h3, h4, h5, ⟨c0, c1, c2, c3, k1, k2⟩, h7⟩ := hF.moved hw (own_ge hA)
      have hG : CF w x B1 B2 r t l (upC b 9 true) (upC u 12 v') w' := by
        have hown : OwI (x + 2) w' (if upC b 9 true 9 then upC u 12 v' 12 else upC u 12 v' 9) (if upC b 9 true 9 then l.turns else []) := by
          have e1 : (if upC b 9 true 9 then upC u 12 v' 12 else upC u 12 v' 9) = v' := by simp [upC]
          have e2 : (if upC b 9 true 9 then l.turns else []) = l.turns := by simp [upC]
          rw [e1, e2]
          simpa [OwI] using ho
        have hoth : b 0 = true → OwI (x + 2) w' (if upC b 9 true 3 then upC u 12 v' 6 else upC u 12 v' 3) (if upC b 9 true 3 then l.regs else []) := by
          intro h
          have e1 : (if upC b 9 true 3 then upC u 12 v' 6 else upC u 12 v' 3) = (if b 3 then u 6 else u 3) := by simp [upC]
          have e2 : (if upC b 9 true 3 then l.regs else []) = (if b 3 then l.regs else []) := by simp [upC]
          rw [e1, e2]
          exact hw.owns (hF.oA h) (fun k hk hh => hF.dis h he.1 k hk (by simpa [hb] using hh))
        have h6r : ∃ c0 c1 c2 c3, Box4 w' (x + 1) c0 c1 c2 c3 ∧ (upC b 9 true 13 = true → upC b 9 true 12 = true ∧ c0 = upC u 12 v' 6 ∧ c1 = .int .i64 l.pc ∧ c2 = upC u 12 v' 12 ∧ c3 = .bool l.waits) := ⟨c0, c1, c2, c3, k1, fun h => absurd (k2 (by simpa [upC] using h)).1 (by simp [hb12])⟩
        exact ⟨h1, h2, h3, h4, h5, hF.rx, hF.tx, hF.o1, hF.o2, hF.o4, hF.o5, hF.o7, hF.o8, hF.o10, hF.o11, fun h => hoth (by simpa [upC] using h), fun _ => hown, fun h0 h6 k hk => by
            have h0 : b 0 = true := by simpa [upC] using h0
            have hO := hF.oA h0
            have e : (if upC b 9 true 3 then upC u 12 v' 6 else upC u 12 v' 3) = (if b 3 then u 6 else u 3) := by simp [upC]
            rw [e] at hk
            show (if upC b 9 true 9 then upC u 12 v' 12 else upC u 12 v' 9).ownBlock ≠ some k
            have e2 : (if upC b 9 true 9 then upC u 12 v' 12 else upC u 12 v' 9) = v' := by simp [upC]
            rw [e2]
            intro hx
            rcases hwh k hx with hh | hh
            · exact hF.dis h0 he.1 k hk (by simpa [hb] using hh)
            · have := own_lt hO k hk; omega, fun h => absurd (show b 12 = true by simpa [upC] using h) (by simp [hb12]), fun h => by simpa [upC] using hF.q3 (by simpa [upC] using h), fun _ => he.1, h6r, h7, fun h h3 => hF.nA (by simpa [upC] using h) (by simpa [upC] using h3), fun _ h9 => absurd h9 (by simp [upC])⟩
      go_wp2
      exact ⟨_, by simp [upC], upC u 12 v', rfl, hG⟩
    · refine wpOp_list rfl ?_
      intro K' hK'
      simp [Region.binds] at hb he
      go_wp2
      exact ⟨upC b 10 true, by simp [upC], upC u 13 (.pointer (some ⟨x, 3, none⟩)), by simp [upC], ⟨hF.bel, hF.sz, hF.box, hF.rr, hF.tt, hF.rx, hF.tx, hF.o1, hF.o2, hF.o4, hF.o5, hF.o7, hF.o8, fun _ => rfl, hF.o11, hF.oA, hF.oB, hF.dis, hF.o12, hF.q3, hF.q9, hF.res, hF.frz, hF.nA, hF.nB⟩⟩
    · refine wpOp_list rfl ?_
      intro K' hK'
      simp [Region.binds] at hb he
      have hu := hF.o10 he
      obtain ⟨g0, g1, g2, g3, g4⟩ := hF.box
      go_wp2
      exact ⟨upC b 11 true, by simp [upC, he], upC u 14 (.bool l.waits), by simp [upC, hu], ⟨hF.bel, hF.sz, hF.box, hF.rr, hF.tt, hF.rx, hF.tx, hF.o1, hF.o2, hF.o4, hF.o5, hF.o7, hF.o8, hF.o10, fun _ => rfl, hF.oA, hF.oB, hF.dis, hF.o12, hF.q3, hF.q9, hF.res, hF.frz, hF.nA, hF.nB⟩⟩
    · refine wpOp_list rfl ?_
      intro K' hK'
      simp [Region.binds] at hb he
      have e5 : b 5 = true := by simp_all
      have e3 : b 3 = true := by simp_all
      have e9 : b 9 = true := by simp_all
      have e11 : b 11 = true := by simp_all
      have hu8 := hF.o5 e5
      have hu14 := hF.o11 e11
      obtain ⟨c0, c1, c2, c3, k1, k2⟩ := hF.res
      have hG : CF w x B1 B2 r t l (upC b 12 true) (upC u 15 (.agg #[u 6, .int .i64 l.pc, u 12, .bool l.waits])) ww :=
        ⟨hF.bel, hF.sz, hF.box, hF.rr, hF.tt, hF.rx, hF.tx, hF.o1, hF.o2, hF.o4, hF.o5, hF.o7, hF.o8, hF.o10, hF.o11, hF.oA, hF.oB, hF.dis, fun _ => ⟨rfl, e3, e9⟩, hF.q3, hF.q9, ⟨c0, c1, c2, c3, k1, fun h => absurd (k2 (by simpa [upC] using h)).1 (by simp [hb])⟩, hF.frz, hF.nA, hF.nB⟩
      have hA6 := hF.oA (hF.q3 e3)
      have hB12 := hF.oB (hF.q9 e9)
      simp only [e3, e9, if_true] at hA6 hB12
      obtain ⟨a6, c6, s6⟩ := own_shape hA6
      obtain ⟨a12, c12, s12⟩ := own_shape hB12
      clear hA6 hB12
      have HG := Lib.hid hG
      clear hG k1 k2
      go_wp2
      exact ⟨_, by simp [upC, *], upC u 15 (.agg #[u 6, .int .i64 l.pc, u 12, .bool l.waits]), by simp [upC, hu8, hu14, s6, s12], HG.out⟩
    · refine wpOp_list rfl ?_
      intro K' hK'
      simp [Region.binds] at hb he
      have e12 : b 12 = true := by simp_all
      obtain ⟨hu, e3, e9⟩ := hF.o12 e12
      obtain ⟨c0, c1, c2, c3, k1, k2⟩ := hF.res
      have hz := hF.sz
      have hw := Wr_set4 ww (x + 1) (u 6) (.int .i64 l.pc) (u 12) (.bool l.waits)
      have hp : ∀ k, k = x + 1 → x ≤ k := fun k hk => by omega
      have hG : CF w x B1 B2 r t l (upC b 13 true) u ((((ww.setCell ⟨x + 1, 0, none⟩ (u 6)).setCell ⟨x + 1, 1, none⟩ (.int .i64 l.pc)).setCell ⟨x + 1, 2, none⟩ (u 12)).setCell ⟨x + 1, 3, none⟩ (.bool l.waits)) :=
        ⟨Below.wr hF.bel hw (by omega) hp, Nat.le_trans hz hw.size, hF.box.wr hw (by omega), hw.owns hF.rr (fun k hk hh => by have := hF.rx k hk; omega), hw.owns hF.tt (fun k hk hh => by have := hF.tx k hk; omega), hF.rx, hF.tx, hF.o1, hF.o2, hF.o4, hF.o5, hF.o7, hF.o8, hF.o10, hF.o11, fun h => hw.owns (hF.oA h) (fun k hk hh => by have := own_ge (hF.oA h) k hk; omega), fun h => hw.owns (hF.oB h) (fun k hk hh => by have := own_ge (hF.oB h) k hk; omega), hF.dis, hF.o12, hF.q3, hF.q9, ⟨_, _, _, _, k1.set4 _ _ _ _, fun _ => ⟨e12, rfl, rfl, rfl, rfl⟩⟩, fun o ho => by simp; exact hF.frz o ho, hF.nA, hF.nB⟩
      have f0 := hF.frz 0 (by decide)
      have f1 := hF.frz 1 (by decide)
      have f2 := hF.frz 2 (by decide)
      have f3 := hF.frz 3 (by decide)
      obtain ⟨g0, g1, g2, g3, g4⟩ := k1
      have hA6 := hF.oA (hF.q3 e3)
      have hB12 := hF.oB (hF.q9 e9)
      simp only [e3, e9, if_true] at hA6 hB12
      obtain ⟨a6, c6, s6⟩ := own_shape hA6
      obtain ⟨a12, c12, s12⟩ := own_shape hB12
      clear hA6 hB12
      rw [s6, s12] at hG
      have HG := Lib.hid hG
      clear hG hw hp
      go_wp2
      exact ⟨_, by simp [upC, *], u, by simp [hu, s6, s12], HG.out⟩
  · intro L act ww hI hi
    obtain ⟨b, rfl, u, rfl, hF⟩ := hI
    have e0 : b 0 = true := ready_all 0 hi (by decide) (by simp [Region.binds])
    have e1 : b 1 = true := ready_all 1 hi (by decide) (by simp [Region.binds])
    have e2 : b 2 = true := ready_all 2 hi (by decide) (by simp [Region.binds, e1])
    have e3 : b 3 = true := ready_all 3 hi (by decide) (by simp [Region.binds, e0, e2])
    have e4 : b 4 = true := ready_all 4 hi (by decide) (by simp [Region.binds])
    have e5 : b 5 = true := ready_all 5 hi (by decide) (by simp [Region.binds, e4])
    have e6 : b 6 = true := ready_all 6 hi (by decide) (by simp [Region.binds, *])
    have e7 : b 7 = true := ready_all 7 hi (by decide) (by simp [Region.binds])
    have e8 : b 8 = true := ready_all 8 hi (by decide) (by simp [Region.binds, e7])
    have e9 : b 9 = true := ready_all 9 hi (by decide) (by simp [Region.binds, e6, e8, e3])
    have e10 : b 10 = true := ready_all 10 hi (by decide) (by simp [Region.binds])
    have e11 : b 11 = true := ready_all 11 hi (by decide) (by simp [Region.binds, e10])
    have e12 : b 12 = true := ready_all 12 hi (by decide) (by simp [Region.binds, e3, e5, e9, e11])
    have e13 : b 13 = true := ready_all 13 hi (by decide) (by simp [Region.binds, *])
    obtain ⟨c0, c1, c2, c3, k1, k2⟩ := hF.res
    obtain ⟨_, rfl, rfl, rfl, rfl⟩ := k2 e13
    have hA := hF.oA e0
    have hB := hF.oB e6
    have hd := hF.dis e0 e6
    simp only [e3, e9, if_true] at hA hB hd
    have hbl := hF.bel
    have HF : Hid (CpLn w l (.returned (.agg #[u 6, .int .i64 l.pc, u 12, .bool l.waits])) ww) := Lib.hid ⟨u 6, u 12, rfl, own_mono hA (by rw [HX.out]; omega), own_mono hB (by rw [HX.out]; omega), hd, by rw [HX.out]; exact hbl⟩
    obtain ⟨g0, g1, g2, g3, g4⟩ := k1
    clear hi hA hB hd hbl hF
    go_wp2
    refine bodyPost_ret (v := .agg #[u 6, .int .i64 l.pc, u 12, .bool l.waits]) (by simp [results, Try.results36, go_sem, g0, g1, g2, g3]) rfl HF.out
end Go.Proofs.Ythhdffgfldphlaa
