/- YthhdffgfldphlaaLaneS: a plain instruction of a valid program is executed on registers and a memory in memory. Conditions: the instruction is valid, the registers and the memory as well. -/
import Derived.Test.YthhdffgfldphlaaLaneX
import Derived.StillTailTactics
import Derived.Deep.CutBlock
namespace Go.Proofs.Ythhdffgfldphlaa
open Go.ChangeShapes Go.WideShapes Go.ChangeAt Go.RowKit
set_option linter.unusedVariables false
/-- A row of numbers of one's own, in a block of its own. -/
structure OI (B : Nat) (w : World) (g cap : Nat) (xs : List Int) : Prop where
  own : w.ownsRow B 3 1 (.slice (some ⟨g, 0, none⟩) xs.length cap) xs.length (xs.map (Value.int .i64))
theorem OI.get {B : Nat} {w : World} {g cap : Nat} {xs : List Int} (h : OI B w g cap xs) {i : Nat} (hi : i < xs.length) : w.cell? ⟨g, i, none⟩ = some (.int .i64 (rg xs i)) := by
  rw [h.own.cellAt i (by omega), List.getElem?_map, List.getElem?_eq_getElem hi]
  simp [rg, List.getElem?_eq_getElem hi]
theorem OI.frz {B : Nat} {w : World} {g cap : Nat} {xs : List Int} (h : OI B w g cap xs) (i : Nat) : w.frozen? ⟨g, i, none⟩ = false := h.own.frozenAt i
theorem OI.lt {B : Nat} {w : World} {g cap : Nat} {xs : List Int} (h : OI B w g cap xs) : g < w.heap.size := own_lt h.own g rfl
theorem OI.ge {B : Nat} {w : World} {g cap : Nat} {xs : List Int} (h : OI B w g cap xs) : B ≤ g := own_ge h.own g rfl
theorem OI.set {B : Nat} {w : World} {g cap : Nat} {xs : List Int} (h : OI B w g cap xs) (i : Nat) (x : Int) : OI B (w.setCell ⟨g, i, none⟩ (.int .i64 x)) g cap (xs.set i x) ∧ Wr w (w.setCell ⟨g, i, none⟩ (.int .i64 x)) (fun k => k = g) := by
  obtain ⟨h1, h2⟩ := h.own.stored i (.int .i64 x)
  refine ⟨⟨?_⟩, (Wr.of_grown h2).weak (fun k hk => by injection hk with hk; exact hk.symm)⟩
  rw [List.length_set, List.map_set]; exact h1
theorem OI.wr {B : Nat} {w w' : World} {g cap : Nat} {xs : List Int} {p : Nat → Prop} (h : OI B w g cap xs) (hw : Wr w w' p) (hp : ¬ p g) : OI B w' g cap xs :=
  ⟨hw.owns h.own (fun k hk => by injection hk with hk; subst hk; exact hp)⟩
theorem OI.below {B : Nat} {w w' : World} {g cap : Nat} {xs : List Int} (h : OI B w g cap xs) (hb : Below w.heap.size w w') : OI B w' g cap xs := ⟨owns_below h.own hb (Nat.le_refl _)⟩
theorem OI.shape {B : Nat} {w : World} {v : Value} {xs : List Int} (h : w.ownsRow B 3 1 v xs.length (xs.map (Value.int .i64))) (hx : 0 < xs.length) : ∃ g cap, v = .slice (some ⟨g, 0, none⟩) xs.length cap ∧ OI B w g cap xs ∧ xs.length ≤ cap ∧ cap ≤ 9223372036854775807 := by
  rcases h.2 with ⟨_, hn⟩ | ⟨g, cap, cur, rfl, _, _, h1, h2, _⟩
  · omega
  · exact ⟨g, cap, rfl, ⟨h⟩, h1, by unfold maxLen at h2; omega⟩
theorem OI.cap {B : Nat} {w : World} {g cap : Nat} {xs : List Int} (h : OI B w g cap xs) (hx : 0 < xs.length) : xs.length ≤ cap ∧ cap ≤ 9223372036854775807 := by
  obtain ⟨_, _, he, _, h3, h4⟩ := OI.shape h.own hx
  simp only [Value.slice.injEq] at he
  obtain ⟨_, _, rfl⟩ := he
  exact ⟨h3, h4⟩
/-- What a plain instruction leaves. -/
def SimD (B : Nat) (w : World) (gr cr gm cm : Nat) (rs ms : List Int) (c : Cd) (id : Int) (e : Ending) (w' : World) : Prop :=
  e = .returned (.tuple #[]) ∧ OI B w' gr cr (simple rs ms c id).1 ∧ OI B w' gm cm (simple rs ms c id).2 ∧ Wr w w' (fun k => k = gr ∨ k = gm)
theorem rg_nat (xs : List Int) (i : Nat) (x : Int) (h : x = i) : rg xs x = rg xs i := by rw [h]

section
variable {B gr cr gm cm : Nat} {rs ms : List Int} {id : Int} {w : World}
theorem simple_spec_fin {c : Cd} {w2 : World} (hr : OI B w gr cr rs) (hm : OI B w gm cm ms) (hne : ¬ gr = gm) {i : Nat} {x : Int} (hb : Below w.heap.size (w.setCell ⟨gr, i, none⟩ (.int .i64 x)) w2) (hs : simple rs ms c id = (rs.set i x, ms)) : SimD B w gr cr gm cm rs ms c id (.returned (.tuple #[])) w2 := by
  have hz : (w.setCell ⟨gr, i, none⟩ (.int .i64 x)).heap.size = w.heap.size := by simp [World.setCell]
  rw [← hz] at hb
  have h1 := hr.set i x
  refine ⟨rfl, by rw [hs]; exact h1.1.below hb, by rw [hs]; exact (hm.wr h1.2 (fun h => hne h.symm)).below hb, (h1.2.weak fun k hk => .inl hk).trans (Wr.of_below hb)⟩
theorem simple_spec_finM {c : Cd} {w2 : World} (hr : OI B w gr cr rs) (hm : OI B w gm cm ms) (hne : ¬ gr = gm) {i : Nat} {x : Int} (hb : Below w.heap.size (w.setCell ⟨gm, i, none⟩ (.int .i64 x)) w2) (hs : simple rs ms c id = (rs, ms.set i x)) : SimD B w gr cr gm cm rs ms c id (.returned (.tuple #[])) w2 := by
  have hz : (w.setCell ⟨gm, i, none⟩ (.int .i64 x)).heap.size = w.heap.size := by simp [World.setCell]
  rw [← hz] at hb
  have h1 := hm.set i x
  refine ⟨rfl, by rw [hs]; exact (hr.wr h1.2 hne).below hb, by rw [hs]; exact h1.1.below hb, (h1.2.weak fun k hk => .inr hk).trans (Wr.of_below hb)⟩
theorem simple_spec_finD {c : Cd} {wd : World} (hr : OI B w gr cr rs) (hm : OI B w gm cm ms) (hne : ¬ gr = gm) {i : Nat} {x : Int} (hb : Below w.heap.size w wd) (hs : simple rs ms c id = (rs.set i x, ms)) : SimD B w gr cr gm cm rs ms c id (.returned (.tuple #[])) (wd.setCell ⟨gr, i, none⟩ (.int .i64 x)) := by
  have h1 := (hr.below hb).set i x
  exact ⟨rfl, by rw [hs]; exact h1.1, by rw [hs]; exact (hm.below hb).wr h1.2 (fun h => hne h.symm), (Wr.of_below hb).trans (h1.2.weak fun k hk => .inl hk)⟩
theorem simple_spec_finDM {c : Cd} {wd : World} (hr : OI B w gr cr rs) (hm : OI B w gm cm ms) (hne : ¬ gr = gm) {i : Nat} {x : Int} (hb : Below w.heap.size w wd) (hs : simple rs ms c id = (rs, ms.set i x)) : SimD B w gr cr gm cm rs ms c id (.returned (.tuple #[])) (wd.setCell ⟨gm, i, none⟩ (.int .i64 x)) := by
  have h1 := (hm.below hb).set i x
  exact ⟨rfl, by rw [hs]; exact (hr.below hb).wr h1.2 hne, by rw [hs]; exact h1.1, (Wr.of_below hb).trans (h1.2.weak fun k hk => .inr hk)⟩
theorem simple_spec_fin0 {c : Cd} {w1 : World} (hr : OI B w gr cr rs) (hm : OI B w gm cm ms) (hb : Below w.heap.size w w1) (hs : simple rs ms c id = (rs, ms)) : SimD B w gr cr gm cm rs ms c id (.returned (.tuple #[])) w1 :=
  ⟨rfl, by rw [hs]; exact hr.below hb, by rw [hs]; exact hm.below hb, Wr.of_below hb⟩
end

set_option maxRecDepth 100000 in
set_option maxHeartbeats 4000000 in
theorem simple_spec_1 (B gr cr gm cm : Nat) (rs ms : List Int) (A Bb Cc : Nat) (id : Int) (w : World) (hr : OI B w gr cr rs) (hm : OI B w gm cm ms) (hne : ¬ gr = gm) (hrl : rs.length = 4) (hrs : ∀ x ∈ rs, 0 ≤ x ∧ x ≤ 255) (hms : MOK ms) (hA : A < 4) :
    Calls Try.prog 42 #[.slice (some ⟨gr, 0, none⟩) rs.length cr, .slice (some ⟨gm, 0, none⟩) ms.length cm, .agg #[.int .i64 1, .int .i64 A, .int .i64 Bb, .int .i64 Cc], .int .i64 id] w (SimD B w gr cr gm cm rs ms ⟨1, A, Bb, Cc⟩ id) := by
  have hgr := hr.lt
  have hgm := hm.lt
  have hcr := hr.cap (by omega)
  have hml := hms.1
  have hcm := hm.cap (by omega)
  have hR := rg_bd hrs
  have hAi : (A : Int) < 4 := by omega
  have HR := Lib.hid hr
  have HM := Lib.hid hm
  have f0 := hr.frz A
  have g0 := hr.get (i := A) (by omega)
  have HS : Hid (simple rs ms ⟨1, A, Bb, Cc⟩ id = (rs.set A Bb, ms)) := Lib.hid rfl
  clear hr hm hrs hms hR
  go_enter Try.func42, Try.ntmps42
  go_wp2
  go_end0
  exact simple_spec_fin HR.out HM.out hne (by first | exact (Below.refl _ _).alloc (by simp [World.setCell]) _ | exact ((Below.refl _ _).alloc (by simp [World.setCell]) _).drew) HS.out

set_option maxRecDepth 100000 in
set_option maxHeartbeats 4000000 in
theorem simple_spec_2 (B gr cr gm cm : Nat) (rs ms : List Int) (A Bb Cc : Nat) (id : Int) (w : World) (hr : OI B w gr cr rs) (hm : OI B w gm cm ms) (hne : ¬ gr = gm) (hrl : rs.length = 4) (hrs : ∀ x ∈ rs, 0 ≤ x ∧ x ≤ 255) (hms : MOK ms) (hA : A < 4) :
    Calls Try.prog 42 #[.slice (some ⟨gr, 0, none⟩) rs.length cr, .slice (some ⟨gm, 0, none⟩) ms.length cm, .agg #[.int .i64 2, .int .i64 A, .int .i64 Bb, .int .i64 Cc], .int .i64 id] w (SimD B w gr cr gm cm rs ms ⟨2, A, Bb, Cc⟩ id) := by
  have hgr := hr.lt
  have hgm := hm.lt
  have hcr := hr.cap (by omega)
  have hml := hms.1
  have hcm := hm.cap (by omega)
  have hR := rg_bd hrs
  have hAi : (A : Int) < 4 := by omega
  have HR := Lib.hid hr
  have HM := Lib.hid hm
  have f0 := hr.frz A
  have g0 := hr.get (i := A) (by omega)
  have HS : Hid (simple rs ms ⟨2, A, Bb, Cc⟩ id = (rs.set A id, ms)) := Lib.hid rfl
  clear hr hm hrs hms hR
  go_enter Try.func42, Try.ntmps42
  go_wp2
  go_end0
  exact simple_spec_fin HR.out HM.out hne (by first | exact (Below.refl _ _).alloc (by simp [World.setCell]) _ | exact ((Below.refl _ _).alloc (by simp [World.setCell]) _).drew) HS.out

set_option maxRecDepth 100000 in
set_option maxHeartbeats 4000000 in
theorem simple_spec_3 (B gr cr gm cm : Nat) (rs ms : List Int) (A Bb Cc : Nat) (id : Int) (w : World) (hr : OI B w gr cr rs) (hm : OI B w gm cm ms) (hne : ¬ gr = gm) (hrl : rs.length = 4) (hrs : ∀ x ∈ rs, 0 ≤ x ∧ x ≤ 255) (hms : MOK ms) (hA : A < 4) (hBb : Bb < 4) (hBi : (Bb : Int) < 4) :
    Calls Try.prog 42 #[.slice (some ⟨gr, 0, none⟩) rs.length cr, .slice (some ⟨gm, 0, none⟩) ms.length cm, .agg #[.int .i64 3, .int .i64 A, .int .i64 Bb, .int .i64 Cc], .int .i64 id] w (SimD B w gr cr gm cm rs ms ⟨3, A, Bb, Cc⟩ id) := by
  have hgr := hr.lt
  have hgm := hm.lt
  have hcr := hr.cap (by omega)
  have hml := hms.1
  have hcm := hm.cap (by omega)
  have hR := rg_bd hrs
  have hAi : (A : Int) < 4 := by omega
  have HR := Lib.hid hr
  have HM := Lib.hid hm
  have f0 := hr.frz A
  have g0 := hr.get (i := A) (by omega)
  have g1 := hr.get (i := A) (by omega)
  have g2 := hr.get (i := Bb) (by omega)
  have HS : Hid (simple rs ms ⟨3, A, Bb, Cc⟩ id = (rs.set A (wAdd (rg rs A) (rg rs Bb)), ms)) := Lib.hid rfl
  generalize rg rs A = x1 at *
  generalize rg rs Bb = x2 at *
  clear hr hm hrs hms hR
  go_enter Try.func42, Try.ntmps42
  obtain ⟨wd, hwd⟩ : ∃ x, x = (w.alloc (.cells #[.int .i64 3, .int .i64 A, .int .i64 Bb, .int .i64 Cc] 41)).drew := ⟨_, rfl⟩
  have hbd : Below w.heap.size w wd := by rw [hwd]; exact (below_alloc w _).drew
  have hX := Box4.new w (.int .i64 3) (.int .i64 A) (.int .i64 Bb) (.int .i64 Cc) 41
  have hX1 : wd.cell? ⟨w.heap.size, 1, none⟩ = some (.int .i64 A) := by rw [hwd]; exact hX.at1
  have hX2 : wd.cell? ⟨w.heap.size, 2, none⟩ = some (.int .i64 Bb) := by rw [hwd]; exact hX.at2
  have hX3 : wd.cell? ⟨w.heap.size, 3, none⟩ = some (.int .i64 Cc) := by rw [hwd]; exact hX.at3
  have dg0 := (hbd.cell (p := ⟨gr, A, none⟩) hgr).trans g0
  have dg1 := (hbd.cell (p := ⟨gr, A, none⟩) hgr).trans g1
  have dg2 := (hbd.cell (p := ⟨gr, Bb, none⟩) hgr).trans g2
  have e0 := (hbd.frozen (p := ⟨gr, A, none⟩) hgr).trans f0
  clear g1 g2
  clear hX
  go_upto_region 7 with fail
  refine wp_region_still_tail 15 (by kernel_rfl) (by kernel_rfl) ?_
  rw [World.drew_eq, ← hwd]
  have HBD := Lib.hid hbd
  clear hwd hbd f0 g0
  simp only [List.take_succ_cons, List.take_zero, List.drop_succ_cons, List.drop_zero]
  repeat still_step
  still_call ((specWordAdd _ _ _).mono (by rintro e w1 ⟨rfl, rfl⟩; exact ⟨rfl, rfl⟩))
  repeat still_step
  refine wpStill_nil ?_
  go_wp2
  go_end0
  exact simple_spec_finD HR.out HM.out hne HBD.out HS.out

set_option maxRecDepth 100000 in
set_option maxHeartbeats 4000000 in
theorem simple_spec_4 (B gr cr gm cm : Nat) (rs ms : List Int) (A Bb Cc : Nat) (id : Int) (w : World) (hr : OI B w gr cr rs) (hm : OI B w gm cm ms) (hne : ¬ gr = gm) (hrl : rs.length = 4) (hrs : ∀ x ∈ rs, 0 ≤ x ∧ x ≤ 255) (hms : MOK ms) (hA : A < 4) (hBb : Bb < 4) (hBi : (Bb : Int) < 4) :
    Calls Try.prog 42 #[.slice (some ⟨gr, 0, none⟩) rs.length cr, .slice (some ⟨gm, 0, none⟩) ms.length cm, .agg #[.int .i64 4, .int .i64 A, .int .i64 Bb, .int .i64 Cc], .int .i64 id] w (SimD B w gr cr gm cm rs ms ⟨4, A, Bb, Cc⟩ id) := by
  have hgr := hr.lt
  have hgm := hm.lt
  have hcr := hr.cap (by omega)
  have hml := hms.1
  have hcm := hm.cap (by omega)
  have hR := rg_bd hrs
  have hAi : (A : Int) < 4 := by omega
  have HR := Lib.hid hr
  have HM := Lib.hid hm
  have f0 := hr.frz A
  have g0 := hr.get (i := A) (by omega)
  have g1 := hr.get (i := A) (by omega)
  have g2 := hr.get (i := Bb) (by omega)
  have HS : Hid (simple rs ms ⟨4, A, Bb, Cc⟩ id = (rs.set A (wMul (rg rs A) (rg rs Bb)), ms)) := Lib.hid rfl
  generalize rg rs A = x1 at *
  generalize rg rs Bb = x2 at *
  clear hr hm hrs hms hR
  go_enter Try.func42, Try.ntmps42
  obtain ⟨wd, hwd⟩ : ∃ x, x = (w.alloc (.cells #[.int .i64 4, .int .i64 A, .int .i64 Bb, .int .i64 Cc] 41)).drew := ⟨_, rfl⟩
  have hbd : Below w.heap.size w wd := by rw [hwd]; exact (below_alloc w _).drew
  have hX := Box4.new w (.int .i64 4) (.int .i64 A) (.int .i64 Bb) (.int .i64 Cc) 41
  have hX1 : wd.cell? ⟨w.heap.size, 1, none⟩ = some (.int .i64 A) := by rw [hwd]; exact hX.at1
  have hX2 : wd.cell? ⟨w.heap.size, 2, none⟩ = some (.int .i64 Bb) := by rw [hwd]; exact hX.at2
  have hX3 : wd.cell? ⟨w.heap.size, 3, none⟩ = some (.int .i64 Cc) := by rw [hwd]; exact hX.at3
  have dg0 := (hbd.cell (p := ⟨gr, A, none⟩) hgr).trans g0
  have dg1 := (hbd.cell (p := ⟨gr, A, none⟩) hgr).trans g1
  have dg2 := (hbd.cell (p := ⟨gr, Bb, none⟩) hgr).trans g2
  have e0 := (hbd.frozen (p := ⟨gr, A, none⟩) hgr).trans f0
  clear g1 g2
  clear hX
  go_upto_region 9 with fail
  refine wp_region_still_tail 15 (by kernel_rfl) (by kernel_rfl) ?_
  rw [World.drew_eq, ← hwd]
  have HBD := Lib.hid hbd
  clear hwd hbd f0 g0
  simp only [List.take_succ_cons, List.take_zero, List.drop_succ_cons, List.drop_zero]
  repeat still_step
  still_call ((specWordMul _ _ _).mono (by rintro e w1 ⟨rfl, rfl⟩; exact ⟨rfl, rfl⟩))
  repeat still_step
  refine wpStill_nil ?_
  go_wp2
  go_end0
  exact simple_spec_finD HR.out HM.out hne HBD.out HS.out

set_option maxRecDepth 100000 in
set_option maxHeartbeats 4000000 in
theorem simple_spec_6 (B gr cr gm cm : Nat) (rs ms : List Int) (A Bb Cc : Nat) (id : Int) (w : World) (hr : OI B w gr cr rs) (hm : OI B w gm cm ms) (hne : ¬ gr = gm) (hrl : rs.length = 4) (hrs : ∀ x ∈ rs, 0 ≤ x ∧ x ≤ 255) (hms : MOK ms) (hA : A < 4) (hBb : Bb < 4) (hBi : (Bb : Int) < 4) (hCc : Cc < 4) (hCi : (Cc : Int) < 4) :
    Calls Try.prog 42 #[.slice (some ⟨gr, 0, none⟩) rs.length cr, .slice (some ⟨gm, 0, none⟩) ms.length cm, .agg #[.int .i64 6, .int .i64 A, .int .i64 Bb, .int .i64 Cc], .int .i64 id] w (SimD B w gr cr gm cm rs ms ⟨6, A, Bb, Cc⟩ id) := by
  have hgr := hr.lt
  have hgm := hm.lt
  have hcr := hr.cap (by omega)
  have hml := hms.1
  have hcm := hm.cap (by omega)
  have hR := rg_bd hrs
  have hAi : (A : Int) < 4 := by omega
  have HR := Lib.hid hr
  have HM := Lib.hid hm
  have f0 := hr.frz A
  have g0 := hr.get (i := A) (by omega)
  have g1 := hr.get (i := Bb) (by omega)
  have g2 := hr.get (i := Cc) (by omega)
  have HS : Hid (simple rs ms ⟨6, A, Bb, Cc⟩ id = (rs.set A (wLess (rg rs Bb) (rg rs Cc)), ms)) := Lib.hid rfl
  generalize rg rs Bb = x1 at *
  generalize rg rs Cc = x2 at *
  clear hr hm hrs hms hR
  go_enter Try.func42, Try.ntmps42
  obtain ⟨wd, hwd⟩ : ∃ x, x = (w.alloc (.cells #[.int .i64 6, .int .i64 A, .int .i64 Bb, .int .i64 Cc] 41)).drew := ⟨_, rfl⟩
  have hbd : Below w.heap.size w wd := by rw [hwd]; exact (below_alloc w _).drew
  have hX := Box4.new w (.int .i64 6) (.int .i64 A) (.int .i64 Bb) (.int .i64 Cc) 41
  have hX1 : wd.cell? ⟨w.heap.size, 1, none⟩ = some (.int .i64 A) := by rw [hwd]; exact hX.at1
  have hX2 : wd.cell? ⟨w.heap.size, 2, none⟩ = some (.int .i64 Bb) := by rw [hwd]; exact hX.at2
  have hX3 : wd.cell? ⟨w.heap.size, 3, none⟩ = some (.int .i64 Cc) := by rw [hwd]; exact hX.at3
  have dg0 := (hbd.cell (p := ⟨gr, A, none⟩) hgr).trans g0
  have dg1 := (hbd.cell (p := ⟨gr, Bb, none⟩) hgr).trans g1
  have dg2 := (hbd.cell (p := ⟨gr, Cc, none⟩) hgr).trans g2
  have e0 := (hbd.frozen (p := ⟨gr, A, none⟩) hgr).trans f0
  clear g1 g2
  clear hX
  go_upto_region 13 with fail
  refine wp_region_still_tail 15 (by kernel_rfl) (by kernel_rfl) ?_
  rw [World.drew_eq, ← hwd]
  have HBD := Lib.hid hbd
  clear hwd hbd f0 g0
  simp only [List.take_succ_cons, List.take_zero, List.drop_succ_cons, List.drop_zero]
  repeat still_step
  still_call ((specWordLess _ _ _).mono (by rintro e w1 ⟨rfl, rfl⟩; exact ⟨rfl, rfl⟩))
  repeat still_step
  refine wpStill_nil ?_
  go_wp2
  go_end0
  exact simple_spec_finD HR.out HM.out hne HBD.out HS.out

set_option maxRecDepth 100000 in
set_option maxHeartbeats 4000000 in
theorem simple_spec_5 (B gr cr gm cm : Nat) (rs ms : List Int) (A Bb Cc : Nat) (id : Int) (w : World) (hr : OI B w gr cr rs) (hm : OI B w gm cm ms) (hne : ¬ gr = gm) (hrl : rs.length = 4) (hrs : ∀ x ∈ rs, 0 ≤ x ∧ x ≤ 255) (hms : MOK ms) (hA : A < 4) (hBb : Bb < 4) (hBi : (Bb : Int) < 4) :
    Calls Try.prog 42 #[.slice (some ⟨gr, 0, none⟩) rs.length cr, .slice (some ⟨gm, 0, none⟩) ms.length cm, .agg #[.int .i64 5, .int .i64 A, .int .i64 Bb, .int .i64 Cc], .int .i64 id] w (SimD B w gr cr gm cm rs ms ⟨5, A, Bb, Cc⟩ id) := by
  have hgr := hr.lt
  have hgm := hm.lt
  have hcr := hr.cap (by omega)
  have hml := hms.1
  have hcm := hm.cap (by omega)
  have hR := rg_bd hrs
  have hAi : (A : Int) < 4 := by omega
  have HR := Lib.hid hr
  have HM := Lib.hid hm
  have f0 := hr.frz A
  have g0 := hr.get (i := A) (by omega)
  have g1 := hr.get (i := Bb) (by omega)
  have HS : Hid (simple rs ms ⟨5, A, Bb, Cc⟩ id = (rs.set A (rg rs Bb), ms)) := Lib.hid rfl
  generalize rg rs Bb = x1 at *
  clear hr hm hrs hms hR
  go_enter Try.func42, Try.ntmps42
  obtain ⟨wd, hwd⟩ : ∃ x, x = (w.alloc (.cells #[.int .i64 5, .int .i64 A, .int .i64 Bb, .int .i64 Cc] 41)).drew := ⟨_, rfl⟩
  have hbd : Below w.heap.size w wd := by rw [hwd]; exact (below_alloc w _).drew
  have hX := Box4.new w (.int .i64 5) (.int .i64 A) (.int .i64 Bb) (.int .i64 Cc) 41
  have hX1 : wd.cell? ⟨w.heap.size, 1, none⟩ = some (.int .i64 A) := by rw [hwd]; exact hX.at1
  have hX2 : wd.cell? ⟨w.heap.size, 2, none⟩ = some (.int .i64 Bb) := by rw [hwd]; exact hX.at2
  have hX3 : wd.cell? ⟨w.heap.size, 3, none⟩ = some (.int .i64 Cc) := by rw [hwd]; exact hX.at3
  have dg0 := (hbd.cell (p := ⟨gr, A, none⟩) hgr).trans g0
  have dg1 := (hbd.cell (p := ⟨gr, Bb, none⟩) hgr).trans g1
  have e0 := (hbd.frozen (p := ⟨gr, A, none⟩) hgr).trans f0
  clear g1
  clear hX
  go_upto_region 11 with fail
  refine wp_region_still_tail 9 (by kernel_rfl) (by kernel_rfl) ?_
  rw [World.drew_eq, ← hwd]
  have HBD := Lib.hid hbd
  clear hwd hbd f0 g0
  simp only [List.take_succ_cons, List.take_zero, List.drop_succ_cons, List.drop_zero]
  repeat still_step
  refine wpStill_nil ?_
  go_wp2
  go_end0
  exact simple_spec_finD HR.out HM.out hne HBD.out HS.out

set_option maxRecDepth 100000 in
set_option maxHeartbeats 4000000 in
theorem simple_spec_7 (B gr cr gm cm : Nat) (rs ms : List Int) (A Bb Cc : Nat) (id : Int) (w : World) (hr : OI B w gr cr rs) (hm : OI B w gm cm ms) (hne : ¬ gr = gm) (hrl : rs.length = 4) (hrs : ∀ x ∈ rs, 0 ≤ x ∧ x ≤ 255) (hms : MOK ms) (hA : A < 4) (hBb : Bb < 4) (hBi : (Bb : Int) < 4) (hCc : Cc < 4) (hCi : (Cc : Int) < 4) :
    Calls Try.prog 42 #[.slice (some ⟨gr, 0, none⟩) rs.length cr, .slice (some ⟨gm, 0, none⟩) ms.length cm, .agg #[.int .i64 7, .int .i64 A, .int .i64 Bb, .int .i64 Cc], .int .i64 id] w (SimD B w gr cr gm cm rs ms ⟨7, A, Bb, Cc⟩ id) := by
  have hgr := hr.lt
  have hgm := hm.lt
  have hcr := hr.cap (by omega)
  have hml := hms.1
  have hcm := hm.cap (by omega)
  have hR := rg_bd hrs
  have hAi : (A : Int) < 4 := by omega
  have HR := Lib.hid hr
  have HM := Lib.hid hm
  have f0 := hr.frz A
  have g0 := hr.get (i := A) (by omega)
  have g1 := hr.get (i := Bb) (by omega)
  have g2 := hr.get (i := Cc) (by omega)
  have HS : Hid (simple rs ms ⟨7, A, Bb, Cc⟩ id = (if rg rs Cc = 0 then rs else rs.set A (rg rs Bb), ms)) := Lib.hid rfl
  generalize rg rs Bb = x1 at *
  generalize rg rs Cc = x2 at *
  clear hr hm hrs hms hR
  by_cases hx2 : x2 = 0
  · subst hx2
    rw [if_pos rfl] at HS
    go_enter Try.func42, Try.ntmps42
    go_wp2
    go_end0
    exact simple_spec_fin0 HR.out HM.out (below_alloc w _) HS.out
  have hb2 : (x2 == 0) = false := by simpa using hx2
  rw [if_neg hx2] at HS
  go_enter Try.func42, Try.ntmps42
  obtain ⟨wd, hwd⟩ : ∃ x, x = (w.alloc (.cells #[.int .i64 7, .int .i64 A, .int .i64 Bb, .int .i64 Cc] 41)).drew := ⟨_, rfl⟩
  have hbd : Below w.heap.size w wd := by rw [hwd]; exact (below_alloc w _).drew
  have hX := Box4.new w (.int .i64 7) (.int .i64 A) (.int .i64 Bb) (.int .i64 Cc) 41
  have hX1 : wd.cell? ⟨w.heap.size, 1, none⟩ = some (.int .i64 A) := by rw [hwd]; exact hX.at1
  have hX2 : wd.cell? ⟨w.heap.size, 2, none⟩ = some (.int .i64 Bb) := by rw [hwd]; exact hX.at2
  have hX3 : wd.cell? ⟨w.heap.size, 3, none⟩ = some (.int .i64 Cc) := by rw [hwd]; exact hX.at3
  have dg0 := (hbd.cell (p := ⟨gr, A, none⟩) hgr).trans g0
  have dg1 := (hbd.cell (p := ⟨gr, Bb, none⟩) hgr).trans g1
  have e0 := (hbd.frozen (p := ⟨gr, A, none⟩) hgr).trans f0
  clear g1
  clear hX
  go_upto_region 16 with fail
  refine wp_region_still_tail 9 (by kernel_rfl) (by kernel_rfl) ?_
  rw [World.drew_eq, ← hwd]
  have HBD := Lib.hid hbd
  clear hwd hbd f0 g0
  simp only [List.take_succ_cons, List.take_zero, List.drop_succ_cons, List.drop_zero]
  repeat still_step
  refine wpStill_nil ?_
  go_wp2
  go_end0
  exact simple_spec_finD HR.out HM.out hne HBD.out HS.out

set_option maxRecDepth 100000 in
set_option maxHeartbeats 4000000 in
theorem simple_spec_8 (B gr cr gm cm : Nat) (rs ms : List Int) (A Bb Cc : Nat) (id : Int) (w : World) (hr : OI B w gr cr rs) (hm : OI B w gm cm ms) (hne : ¬ gr = gm) (hrl : rs.length = 4) (hrs : ∀ x ∈ rs, 0 ≤ x ∧ x ≤ 255) (hms : MOK ms) (hA : A < 4) (hBb : Bb < 4) (hBi : (Bb : Int) < 4) :
    Calls Try.prog 42 #[.slice (some ⟨gr, 0, none⟩) rs.length cr, .slice (some ⟨gm, 0, none⟩) ms.length cm, .agg #[.int .i64 8, .int .i64 A, .int .i64 Bb, .int .i64 Cc], .int .i64 id] w (SimD B w gr cr gm cm rs ms ⟨8, A, Bb, Cc⟩ id) := by
  have hgr := hr.lt
  have hgm := hm.lt
  have hcr := hr.cap (by omega)
  have hml := hms.1
  have hcm := hm.cap (by omega)
  have hR := rg_bd hrs
  have hAi : (A : Int) < 4 := by omega
  have HR := Lib.hid hr
  have HM := Lib.hid hm
  have hx1 := hR Bb
  have f0 := hr.frz A
  have g0 := hr.get (i := A) (by omega)
  have g1 := hr.get (i := Bb) (by omega)
  obtain ⟨j, hj⟩ : ∃ j : Nat, rg rs Bb % (ms.length : Int) = (j : Int) := ⟨(rg rs Bb % (ms.length : Int)).toNat, by have := Int.emod_nonneg (rg rs Bb) (b := (ms.length : Int)) (by omega); omega⟩
  have hjt : (rg rs Bb).tmod (ms.length : Int) = (j : Int) := by rw [Int.tmod_eq_emod_of_nonneg hx1.1]; exact hj
  have hmz : ¬ ms = [] := by rintro rfl; simp at hml
  have hjl : (j : Int) < ms.length := by rw [← hj]; exact Int.emod_lt_of_pos _ (by omega)
  have hjn : j < ms.length := by omega
  have g2 := hm.get (i := j) hjn
  have HS : Hid (simple rs ms ⟨8, A, Bb, Cc⟩ id = (rs.set A (rg ms j), ms)) := Lib.hid (by show (rs.set A (rg ms (rg rs Bb % (ms.length : Int))), ms) = _; rw [hj])
  generalize rg rs Bb = x1 at *
  generalize rg rs A = x0 at *
  generalize rg ms j = x2 at *
  clear hr hm hrs hms hR
  go_enter Try.func42, Try.ntmps42
  obtain ⟨wd, hwd⟩ : ∃ x, x = (w.alloc (.cells #[.int .i64 8, .int .i64 A, .int .i64 Bb, .int .i64 Cc] 41)).drew := ⟨_, rfl⟩
  have hbd : Below w.heap.size w wd := by rw [hwd]; exact (below_alloc w _).drew
  have hX := Box4.new w (.int .i64 8) (.int .i64 A) (.int .i64 Bb) (.int .i64 Cc) 41
  have hX1 : wd.cell? ⟨w.heap.size, 1, none⟩ = some (.int .i64 A) := by rw [hwd]; exact hX.at1
  have hX2 : wd.cell? ⟨w.heap.size, 2, none⟩ = some (.int .i64 Bb) := by rw [hwd]; exact hX.at2
  have hX3 : wd.cell? ⟨w.heap.size, 3, none⟩ = some (.int .i64 Cc) := by rw [hwd]; exact hX.at3
  have dg0 := (hbd.cell (p := ⟨gr, A, none⟩) hgr).trans g0
  have dg1 := (hbd.cell (p := ⟨gr, Bb, none⟩) hgr).trans g1
  have dg2 := (hbd.cell (p := ⟨gm, j, none⟩) hgm).trans g2
  have e0 := (hbd.frozen (p := ⟨gr, A, none⟩) hgr).trans f0
  clear g1 g2
  clear hX
  go_upto_region 18 with fail
  refine wp_region_still_tail 15 (by kernel_rfl) (by kernel_rfl) ?_
  rw [World.drew_eq, ← hwd]
  have HBD := Lib.hid hbd
  clear hwd hbd f0 g0
  simp only [List.take_succ_cons, List.take_zero, List.drop_succ_cons, List.drop_zero]
  repeat still_step
  refine wpStill_nil ?_
  go_wp2
  go_end0
  exact simple_spec_finD HR.out HM.out hne HBD.out HS.out

set_option maxRecDepth 100000 in
set_option maxHeartbeats 4000000 in
theorem simple_spec_9 (B gr cr gm cm : Nat) (rs ms : List Int) (A Bb Cc : Nat) (id : Int) (w : World) (hr : OI B w gr cr rs) (hm : OI B w gm cm ms) (hne : ¬ gr = gm) (hrl : rs.length = 4) (hrs : ∀ x ∈ rs, 0 ≤ x ∧ x ≤ 255) (hms : MOK ms) (hA : A < 4) (hBb : Bb < 4) (hBi : (Bb : Int) < 4) :
    Calls Try.prog 42 #[.slice (some ⟨gr, 0, none⟩) rs.length cr, .slice (some ⟨gm, 0, none⟩) ms.length cm, .agg #[.int .i64 9, .int .i64 A, .int .i64 Bb, .int .i64 Cc], .int .i64 id] w (SimD B w gr cr gm cm rs ms ⟨9, A, Bb, Cc⟩ id) := by
  have hgr := hr.lt
  have hgm := hm.lt
  have hcr := hr.cap (by omega)
  have hml := hms.1
  have hcm := hm.cap (by omega)
  have hR := rg_bd hrs
  have hAi : (A : Int) < 4 := by omega
  have HR := Lib.hid hr
  have HM := Lib.hid hm
  have hx1 := hR Bb
  have f0 := fun j => hm.frz j
  have g0 := hr.get (i := A) (by omega)
  have g1 := hr.get (i := Bb) (by omega)
  obtain ⟨j, hj⟩ : ∃ j : Nat, rg rs Bb % (ms.length : Int) = (j : Int) := ⟨(rg rs Bb % (ms.length : Int)).toNat, by have := Int.emod_nonneg (rg rs Bb) (b := (ms.length : Int)) (by omega); omega⟩
  have hjt : (rg rs Bb).tmod (ms.length : Int) = (j : Int) := by rw [Int.tmod_eq_emod_of_nonneg hx1.1]; exact hj
  have hmz : ¬ ms = [] := by rintro rfl; simp at hml
  have hjl : (j : Int) < ms.length := by rw [← hj]; exact Int.emod_lt_of_pos _ (by omega)
  have hjn : j < ms.length := by omega
  have g2 := hm.get (i := j) hjn
  have HS : Hid (simple rs ms ⟨9, A, Bb, Cc⟩ id = (rs, ms.set j (rg rs A))) := Lib.hid (by show (rs, ms.set (rg rs Bb % (ms.length : Int)).toNat (rg rs A)) = _; rw [hj]; rfl)
  replace f0 := f0 j
  generalize rg rs Bb = x1 at *
  generalize rg rs A = x0 at *
  generalize rg ms j = x2 at *
  clear hr hm hrs hms hR
  go_enter Try.func42, Try.ntmps42
  obtain ⟨wd, hwd⟩ : ∃ x, x = (w.alloc (.cells #[.int .i64 9, .int .i64 A, .int .i64 Bb, .int .i64 Cc] 41)).drew := ⟨_, rfl⟩
  have hbd : Below w.heap.size w wd := by rw [hwd]; exact (below_alloc w _).drew
  have hX := Box4.new w (.int .i64 9) (.int .i64 A) (.int .i64 Bb) (.int .i64 Cc) 41
  have hX1 : wd.cell? ⟨w.heap.size, 1, none⟩ = some (.int .i64 A) := by rw [hwd]; exact hX.at1
  have hX2 : wd.cell? ⟨w.heap.size, 2, none⟩ = some (.int .i64 Bb) := by rw [hwd]; exact hX.at2
  have hX3 : wd.cell? ⟨w.heap.size, 3, none⟩ = some (.int .i64 Cc) := by rw [hwd]; exact hX.at3
  have dg0 := (hbd.cell (p := ⟨gr, A, none⟩) hgr).trans g0
  have dg1 := (hbd.cell (p := ⟨gr, Bb, none⟩) hgr).trans g1
  have dg2 := (hbd.cell (p := ⟨gm, j, none⟩) hgm).trans g2
  have e0 := (hbd.frozen (p := ⟨gm, j, none⟩) hgm).trans f0
  clear g1 g2
  clear hX
  go_upto_region 20 with fail
  refine wp_region_still_tail 15 (by kernel_rfl) (by kernel_rfl) ?_
  rw [World.drew_eq, ← hwd]
  have HBD := Lib.hid hbd
  clear hwd hbd f0 g0
  simp only [List.take_succ_cons, List.take_zero, List.drop_succ_cons, List.drop_zero]
  repeat still_step
  refine wpStill_nil ?_
  go_wp2
  go_end0
  exact simple_spec_finDM HR.out HM.out hne HBD.out HS.out

theorem simple_spec_any (B gr cr gm cm : Nat) (rs ms : List Int) (c : Cd) (id : Int) (w : World) (hr : OI B w gr cr rs) (hm : OI B w gm cm ms) (hne : ¬ gr = gm) (hrl : rs.length = 4) (hrs : ∀ x ∈ rs, 0 ≤ x ∧ x ≤ 255) (hms : MOK ms) (hc : cValid c = true) (ho : c.op ≤ 9) :
    Calls Try.prog 42 #[.slice (some ⟨gr, 0, none⟩) rs.length cr, .slice (some ⟨gm, 0, none⟩) ms.length cm, .agg #[.int .i64 c.op, .int .i64 c.a, .int .i64 c.b, .int .i64 c.c], .int .i64 id] w (SimD B w gr cr gm cm rs ms c id) := by
  obtain ⟨h1, h2, h3, h4, h5, h6, h7, h8, h9, h10⟩ := cValid_bd hc
  obtain ⟨op, a, b, cc⟩ := c
  simp only at h1 h2 h3 h4 h5 h6 h7 h8 h9 h10 ho ⊢
  obtain ⟨A, rfl⟩ : ∃ n : Nat, a = n := ⟨a.toNat, by omega⟩
  obtain ⟨Bb, rfl⟩ : ∃ n : Nat, b = n := ⟨b.toNat, by omega⟩
  obtain ⟨Cc, rfl⟩ : ∃ n : Nat, cc = n := ⟨cc.toNat, by omega⟩
  have hb : op = 3 ∨ op = 4 ∨ op = 5 ∨ op = 6 ∨ op = 7 ∨ op = 8 ∨ op = 9 → (Bb : Int) ≤ 3 := fun h => h9 (by rcases h with rfl | rfl | rfl | rfl | rfl | rfl | rfl <;> decide)
  rcases (show op = 1 ∨ op = 2 ∨ op = 3 ∨ op = 4 ∨ op = 5 ∨ op = 6 ∨ op = 7 ∨ op = 8 ∨ op = 9 by omega) with rfl | rfl | rfl | rfl | rfl | rfl | rfl | rfl | rfl
  · exact simple_spec_1 B gr cr gm cm rs ms A Bb Cc id w hr hm hne hrl hrs hms (by omega)
  · exact simple_spec_2 B gr cr gm cm rs ms A Bb Cc id w hr hm hne hrl hrs hms (by omega)
  · exact simple_spec_3 B gr cr gm cm rs ms A Bb Cc id w hr hm hne hrl hrs hms (by omega) (by have := hb; omega) (by have := hb; omega)
  · exact simple_spec_4 B gr cr gm cm rs ms A Bb Cc id w hr hm hne hrl hrs hms (by omega) (by have := hb; omega) (by have := hb; omega)
  · exact simple_spec_5 B gr cr gm cm rs ms A Bb Cc id w hr hm hne hrl hrs hms (by omega) (by have := hb; omega) (by have := hb; omega)
  · exact simple_spec_6 B gr cr gm cm rs ms A Bb Cc id w hr hm hne hrl hrs hms (by omega) (by have := hb; omega) (by have := hb; omega) (by omega) (by omega)
  · exact simple_spec_7 B gr cr gm cm rs ms A Bb Cc id w hr hm hne hrl hrs hms (by omega) (by have := hb; omega) (by have := hb; omega) (by omega) (by omega)
  · exact simple_spec_8 B gr cr gm cm rs ms A Bb Cc id w hr hm hne hrl hrs hms (by omega) (by have := hb; omega) (by have := hb; omega)
  · exact simple_spec_9 B gr cr gm cm rs ms A Bb Cc id w hr hm hne hrl hrs hms (by omega) (by have := hb; omega) (by have := hb; omega)

end Go.Proofs.Ythhdffgfldphlaa
