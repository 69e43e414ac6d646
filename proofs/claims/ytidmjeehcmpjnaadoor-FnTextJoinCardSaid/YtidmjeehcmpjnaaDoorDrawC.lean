/- YtidmjeehcmpjnaaDoorDrawC: the draws of instructions: each returns an instruction with numbers within bounds and leaves old memory as it was. Conditions: a reader's place is at most 1000000. -/
import Derived.Test.YtidmjeehcmpjnaaDoorDag
import Derived.Test.YtidmjeehcmpjnaaDoorCodeM
import Derived.Deep.CutBlock
namespace Go.Proofs.YtidmjeehcmpjnaaDoor
open Go.ChangeShapes Go.WideShapes Go.ChangeAt Go.RowKit
set_option linter.unusedVariables false

/-- The numbers of a drawn instruction. -/
def cdIn (c : Cd) : Prop := (-1 ≤ c.op ∧ c.op ≤ 256) ∧ (-1 ≤ c.a ∧ c.a ≤ 256) ∧ (-1 ≤ c.b ∧ c.b ≤ 256) ∧ (-1 ≤ c.c ∧ c.c ≤ 256)
theorem cdIn.wf {c : Cd} (h : cdIn c) : c.wf := ⟨WalkArith.wf_i64 (by have := h.1; omega), WalkArith.wf_i64 (by have := h.2.1; omega), WalkArith.wf_i64 (by have := h.2.2.1; omega), WalkArith.wf_i64 (by have := h.2.2.2; omega)⟩
def CodeD (w : World) (a : Nat) (bs : List Int) (q : Int) (e : Ending) (w' : World) : Prop :=
  ∃ c : Cd, e = .returned (.agg #[.int .i64 c.op, .int .i64 c.a, .int .i64 c.b, .int .i64 c.c]) ∧ cdIn c ∧ Left w a bs q w'
theorem wr_blk {w w' : World} {a b : Nat} {o : Obj} (h : Wr w w' (fun b => b = a)) (hb : w.heap[b]? = some o) (hn : ¬ b = a) : w'.heap[b]? = some o := by
  rw [h.block b (Array.getElem?_eq_some_iff.1 hb).1 hn]; exact hb
theorem lit_cell2 {w w' : World} {a g : Nat} {cs : Array Value} {E : TypeId} (hw : Wr w w' (fun b => b = a)) (hg : w.heap[g]? = some (.cells cs E (0, 0))) (ha : ¬ g = a) (j : Nat) : w'.cell? ⟨g, j, none⟩ = cs[j]? := cell_of_row _ g j cs E (0, 0) (wr_blk hw hg ha)
theorem wr_frz {w w' : World} {a : Nat} (h : Wr w w' (fun b => b = a)) : ∀ b o, b < w.heap.size → ¬ b = a → w'.frozen? ⟨b, o, none⟩ = w.frozen? ⟨b, o, none⟩ := fun _ _ hb hn => h.frozen hb hn
/-- A block that holds an instruction and may be written. -/
structure C4 (w : World) (b : Nat) (x y z u : Int) : Prop where
  c0 : w.cell? ⟨b, 0, none⟩ = some (.int .i64 x)
  c1 : w.cell? ⟨b, 1, none⟩ = some (.int .i64 y)
  c2 : w.cell? ⟨b, 2, none⟩ = some (.int .i64 z)
  c3 : w.cell? ⟨b, 3, none⟩ = some (.int .i64 u)
  f0 : w.frozen? ⟨b, 0, none⟩ = false
  f1 : w.frozen? ⟨b, 1, none⟩ = false
  f2 : w.frozen? ⟨b, 2, none⟩ = false
  f3 : w.frozen? ⟨b, 3, none⟩ = false
  lt : b < w.heap.size
theorem C4.wr {w w' : World} {a b : Nat} {x y z u : Int} (h : C4 w b x y z u) (hw : Wr w w' (fun b => b = a)) (hn : ¬ b = a) : C4 w' b x y z u := by
  obtain ⟨h0, h1, h2, h3, h4, h5, h6, h7, h8⟩ := h
  exact ⟨(hw.cell h8 hn).trans h0, (hw.cell h8 hn).trans h1, (hw.cell h8 hn).trans h2, (hw.cell h8 hn).trans h3, (hw.frozen h8 hn).trans h4, (hw.frozen h8 hn).trans h5, (hw.frozen h8 hn).trans h6, (hw.frozen h8 hn).trans h7, Nat.lt_of_lt_of_le h8 hw.size⟩
theorem C4.alloc {w : World} {b : Nat} {x y z u : Int} (h : C4 w b x y z u) (o : Obj) : C4 (w.alloc o) b x y z u := by
  have hb : Below w.heap.size w (w.alloc o) := (Below.refl _ _).alloc (Nat.le_refl _) _
  obtain ⟨h0, h1, h2, h3, h4, h5, h6, h7, h8⟩ := h
  exact ⟨(hb.cell (p := ⟨b, 0, none⟩) h8).trans h0, (hb.cell (p := ⟨b, 1, none⟩) h8).trans h1, (hb.cell (p := ⟨b, 2, none⟩) h8).trans h2, (hb.cell (p := ⟨b, 3, none⟩) h8).trans h3, (hb.frozen (p := ⟨b, 0, none⟩) h8).trans h4, (hb.frozen (p := ⟨b, 1, none⟩) h8).trans h5, (hb.frozen (p := ⟨b, 2, none⟩) h8).trans h6, (hb.frozen (p := ⟨b, 3, none⟩) h8).trans h7, by simp; omega⟩
theorem Wr_set0 (w1 : World) (g j : Nat) (x : Value) : Wr w1 (w1.setCell ⟨g, j, none⟩ x) (fun b => b = g) :=
  ⟨rfl, rfl, rfl, by simp, fun b _ hb => heap_setCell_other w1 ⟨g, j, none⟩ b x hb⟩
theorem c4_other {w : World} {b g : Nat} {x y z u : Int} (h : C4 w b x y z u) (hn : ¬ b = g) (j : Nat) (v : Value) : C4 (w.setCell ⟨g, j, none⟩ v) b x y z u := h.wr (Wr_set0 w g j v) hn
theorem c4_set2 {w : World} {b : Nat} {x y z u : Int} (h : C4 w b x y z u) (v : Int) : C4 (w.setCell ⟨b, 2, none⟩ (.int .i64 v)) b x y v u := by
  obtain ⟨h0, h1, h2, h3, h4, h5, h6, h7, h8⟩ := h
  have o := fun (j : Nat) (hj : j ≠ 2) => World.cell?_setCell_other w ⟨b, 2, none⟩ ⟨b, j, none⟩ (.int .i64 v) (by intro e; exact hj (congrArg Addr.off e).symm)
  exact ⟨(o 0 (by decide)).trans h0, (o 1 (by decide)).trans h1, World.cell?_setCell_same _ _ _ h2, (o 3 (by decide)).trans h3, by simpa using h4, by simpa using h5, by simpa using h6, by simpa using h7, by simpa using h8⟩
theorem c4_set0 {w : World} {b : Nat} {x y z u : Int} (h : C4 w b x y z u) (v : Int) : C4 (w.setCell ⟨b, 0, none⟩ (.int .i64 v)) b v y z u := by
  obtain ⟨h0, h1, h2, h3, h4, h5, h6, h7, h8⟩ := h
  have o := fun (j : Nat) (hj : j ≠ 0) => World.cell?_setCell_other w ⟨b, 0, none⟩ ⟨b, j, none⟩ (.int .i64 v) (by intro e; exact hj (congrArg Addr.off e).symm)
  exact ⟨World.cell?_setCell_same _ _ _ h0, (o 1 (by decide)).trans h1, (o 2 (by decide)).trans h2, (o 3 (by decide)).trans h3, by simpa using h4, by simpa using h5, by simpa using h6, by simpa using h7, by simpa using h8⟩
theorem c4_set1 {w : World} {b : Nat} {x y z u : Int} (h : C4 w b x y z u) (v : Int) : C4 (w.setCell ⟨b, 1, none⟩ (.int .i64 v)) b x v z u := by
  obtain ⟨h0, h1, h2, h3, h4, h5, h6, h7, h8⟩ := h
  have o := fun (j : Nat) (hj : j ≠ 1) => World.cell?_setCell_other w ⟨b, 1, none⟩ ⟨b, j, none⟩ (.int .i64 v) (by intro e; exact hj (congrArg Addr.off e).symm)
  exact ⟨(o 0 (by decide)).trans h0, World.cell?_setCell_same _ _ _ h1, (o 2 (by decide)).trans h2, (o 3 (by decide)).trans h3, by simpa using h4, by simpa using h5, by simpa using h6, by simpa using h7, by simpa using h8⟩
theorem c4_set3 {w : World} {b : Nat} {x y z u : Int} (h : C4 w b x y z u) (v : Int) : C4 (w.setCell ⟨b, 3, none⟩ (.int .i64 v)) b x y z v := by
  obtain ⟨h0, h1, h2, h3, h4, h5, h6, h7, h8⟩ := h
  have o := fun (j : Nat) (hj : j ≠ 3) => World.cell?_setCell_other w ⟨b, 3, none⟩ ⟨b, j, none⟩ (.int .i64 v) (by intro e; exact hj (congrArg Addr.off e).symm)
  exact ⟨(o 0 (by decide)).trans h0, (o 1 (by decide)).trans h1, (o 2 (by decide)).trans h2, World.cell?_setCell_same _ _ _ h3, by simpa using h4, by simpa using h5, by simpa using h6, by simpa using h7, by simpa using h8⟩
theorem wr_set_hi {w wz : World} {g : Nat} {P : Nat → Prop} (h : Wr w wz P) (hg : w.heap.size ≤ g) (j : Nat) (x : Value) : Wr w (wz.setCell ⟨g, j, none⟩ x) P := by
  have hs : Wr wz (wz.setCell ⟨g, j, none⟩ x) (fun b => b = g) := ⟨rfl, rfl, rfl, by simp, fun b _ hb => heap_setCell_other wz ⟨g, j, none⟩ b x hb⟩
  exact ⟨hs.os.trans h.os, hs.tape.trans h.tape, hs.output.trans h.output, Nat.le_trans h.size hs.size, fun k hk hp => (hs.block k (Nat.lt_of_lt_of_le hk h.size) (by omega)).trans (h.block k hk hp)⟩
theorem left_set {w wz : World} {a g : Nat} {bs : List Int} {q : Int} (h : Left w a bs q wz) (hg : w.heap.size ≤ g) (ha : a < w.heap.size) (j : Nat) (x : Value) : Left w a bs q (wz.setCell ⟨g, j, none⟩ x) := by
  obtain ⟨p, hr, hp, hw⟩ := h
  have hs : Wr wz (wz.setCell ⟨g, j, none⟩ x) (fun b => b = g) := ⟨rfl, rfl, rfl, by simp, fun b _ hb => heap_setCell_other wz ⟨g, j, none⟩ b x hb⟩
  refine ⟨p, hr.wr hs (fun k hk => by omega), hp, ?_⟩
  exact ⟨hs.os.trans hw.os, hs.tape.trans hw.tape, hs.output.trans hw.output, Nat.le_trans hw.size hs.size, fun k hk hp => (hs.block k (Nat.lt_of_lt_of_le hk hw.size) (by omega)).trans (hw.block k hk hp)⟩
def cObj (x y z u : Int) : Obj := .cells #[.int .i64 x, .int .i64 y, .int .i64 z, .int .i64 u] 42 (0, 0)
def litO : Obj := .cells #[.int .i64 1, .int .i64 1, .int .i64 2, .int .i64 3, .int .i64 4, .int .i64 5, .int .i64 6, .int .i64 7, .int .i64 8, .int .i64 9, .int .i64 9, .int .i64 3] 3 (0, 0)
theorem c4_of {w : World} {b : Nat} {x y z u : Int} (h : w.heap[b]? = some (cObj x y z u)) : C4 w b x y z u :=
  ⟨cell_of_row _ _ 0 _ _ _ h, cell_of_row _ _ 1 _ _ _ h, cell_of_row _ _ 2 _ _ _ h, cell_of_row _ _ 3 _ _ _ h, frozen_of_row _ _ 0 _ _ h, frozen_of_row _ _ 1 _ _ h, frozen_of_row _ _ 2 _ _ h, frozen_of_row _ _ 3 _ _ h, (Array.getElem?_eq_some_iff.1 h).1⟩
/-- What has been carried out of the first statement of l20Plain. -/
structure PF (w0 : World) (a : Nat) (bs : List Int) (p : Int) (j : Nat) (K A : Int) (b : Nat → Bool) (u : Nat → Value) (w : World) : Prop where
  o0 : b 0 = true → b 9 = false → ∃ g, u 4 = .slice (some ⟨g, 0, none⟩) 12 12 ∧ w.heap[g]? = some litO ∧ ¬ g = a
  o1 : b 1 = true → u 5 = .pointer (some ⟨a, 0, none⟩)
  o2 : b 2 = true → u 6 = .int .i64 j
  o3 : b 3 = true → b 9 = false → ∃ g, u 7 = .pointer (some ⟨g, j, none⟩) ∧ w.heap[g]? = some litO ∧ ¬ g = a
  o4 : b 4 = true → u 8 = .int .i64 K
  o5 : b 5 = true → u 9 = .pointer (some ⟨a, 0, none⟩)
  o6 : b 6 = true → u 10 = .int .i64 A
  o7 : b 7 = true → u 11 = .agg #[.int .i64 K, .int .i64 A, .int .i64 0, .int .i64 0]
  o8 : b 8 = true → ∃ g, u 3 = .pointer (some ⟨g, 0, none⟩) ∧ w0.heap.size < g ∧ ¬ g = a ∧ C4 w g (if b 9 then K else 0) (if b 9 then A else 0) 0 0
  rd : Rdr w a bs (p + (if b 2 then 1 else 0) + (if b 6 then 1 else 0))
  ord : b 6 = true → b 2 = true
  all : b 9 = true → b 3 = true ∧ b 4 = true ∧ b 8 = true ∧ b 0 = true
  wr : Wr w0 w (fun b => b = a)
  res : w.heap[w0.heap.size]? = some (cObj 0 0 0 0)
def up {α : Type} (f : Nat → α) (i : Nat) (v : α) : Nat → α := fun k => if k = i then v else f k
theorem up_other {α : Type} (f : Nat → α) {i k : Nat} (v : α) (h : k ≠ i) : up f i v k = f k := if_neg h
section
variable {w0 w : World} {a : Nat} {bs : List Int} {p : Int} {j : Nat} {K A : Int} {b : Nat → Bool} {u : Nat → Value}
theorem PF.world (h : PF w0 a bs p j K A b u w) {w' : World} {p' : Int} (hk : ∀ (g : Nat) (o : Obj), ¬ g = a → w.heap[g]? = some o → w'.heap[g]? = some o) (hc : ∀ (g : Nat) (x y : Int), ¬ g = a → C4 w g x y 0 0 → C4 w' g x y 0 0) (hn0 : ¬ w0.heap.size = a) (hrd : Rdr w' a bs (p' + (if b 2 then 1 else 0) + (if b 6 then 1 else 0))) (hw : Wr w0 w' (fun b => b = a)) : PF w0 a bs p' j K A b u w' := by
  obtain ⟨h0, h1, h2, h3, h4, h5, h6, h7, h8, h9, h10, h10a, h11, h12⟩ := h
  refine ⟨fun hb h9 => ?_, h1, h2, fun hb h9 => ?_, h4, h5, h6, h7, fun hb => ?_, hrd, h10, h10a, hw, hk _ _ hn0 h12⟩
  · obtain ⟨g, x, y, z⟩ := h0 hb h9; exact ⟨g, x, hk _ _ z y, z⟩
  · obtain ⟨g, x, y, z⟩ := h3 hb h9; exact ⟨g, x, hk _ _ z y, z⟩
  · obtain ⟨g, x, y, z, q⟩ := h8 hb; exact ⟨g, x, y, z, hc _ _ _ z q⟩
theorem PF.alloc (h : PF w0 a bs p j K A b u w) (hn0 : ¬ w0.heap.size = a) (o : Obj) : PF w0 a bs p j K A b u (w.alloc o) :=
  h.world (fun g x _ hx => by rw [heap_alloc_old _ _ (Array.getElem?_eq_some_iff.1 hx).1]; exact hx) (fun g x y _ hx => hx.alloc o) hn0 (h.rd.alloc o) (wr_alloc h.wr o)
end
set_option maxRecDepth 100000 in
set_option maxHeartbeats 16000000 in
theorem l20Plain_any (a : Nat) (bs : List Int) (p : Int) (w : World) (h : Rdr w a bs p) (hp : p ≤ 1000000) : Calls Tryd.prog 69 #[.pointer (some ⟨a, 0, none⟩)] w (CodeD w a bs (p + 5)) := by
  have hp0 := h.nn
  have halt := h.lt
  obtain ⟨b1, b2⟩ := pickV_bd bs p 12
  obtain ⟨b3, b4⟩ := pickV_bd bs (p + 1) 4
  obtain ⟨j, hj⟩ : ∃ j : Nat, pickV bs p 12 = j := ⟨(pickV bs p 12).toNat, by omega⟩
  have hj12 : j < 12 := by omega
  obtain ⟨A, hA⟩ : ∃ A, pickV bs (p + 1) 4 = A := ⟨_, rfl⟩
  have hA0 : 0 ≤ A := by omega
  have hA1 : A ≤ 3 := by omega
  have hW0 : Wr w (w.alloc (.cells #[.int .i64 0, .int .i64 0, .int .i64 0, .int .i64 0] 42)) (fun b => b = a) := wr_alloc (Wr.refl _ _) _
  have hr0 := h.alloc (.cells #[.int .i64 0, .int .i64 0, .int .i64 0, .int .i64 0] 42)
  have HR0 := Lib.hid hr0
  obtain ⟨K, hK, hK1, hK2⟩ : ∃ K : Int, (#[.int .i64 1, .int .i64 1, .int .i64 2, .int .i64 3, .int .i64 4, .int .i64 5, .int .i64 6, .int .i64 7, .int .i64 8, .int .i64 9, .int .i64 9, .int .i64 3] : Array Value)[j]? = some (.int .i64 K) ∧ 1 ≤ K ∧ K ≤ 9 := by
    rcases (show j = 0 ∨ j = 1 ∨ j = 2 ∨ j = 3 ∨ j = 4 ∨ j = 5 ∨ j = 6 ∨ j = 7 ∨ j = 8 ∨ j = 9 ∨ j = 10 ∨ j = 11 by omega) with rfl | rfl | rfl | rfl | rfl | rfl | rfl | rfl | rfl | rfl | rfl | rfl
    all_goals exact ⟨_, rfl, by omega, by omega⟩
  have n0 : ¬ w.heap.size = a := by omega
  have n1 : ¬ w.heap.size + 1 = a := by omega
  have n2 : ¬ w.heap.size + 1 + 1 = a := by omega
  have HK := Lib.hid hK
  have hS0 := heap_alloc_new w (.cells #[.int .i64 0, .int .i64 0, .int .i64 0, .int .i64 0] 42)
  have HJ := Lib.hid hj
  have HA := Lib.hid hA
  clear hj hA hr0 h b1 b2 b3 b4 hK
  go_enter Tryd.func69, Tryd.ntmps69
  go_upto_region 1 with fail
  go_cut [3] from 4 (fun s3 wr => ∃ (cb : Nat) (K A : Int), s3 = .pointer (some ⟨cb, 0, none⟩) ∧ (1 ≤ K ∧ K ≤ 9) ∧ (0 ≤ A ∧ A ≤ 3) ∧ C4 wr cb K A 0 0 ∧ C4 wr w.heap.size 0 0 0 0 ∧ Rdr wr a bs (p + 1 + 1) ∧ Wr w wr (fun b => b = a) ∧ ¬ cb = a ∧ ¬ cb = w.heap.size ∧ w.heap.size ≤ cb)
  case first =>
    have HK' := HK
    refine region_dag (by kernel_rfl) (fun L act ww => ∃ (b : Nat → Bool) (u : Nat → Value), L = #[b 0, b 1, b 2, b 3, b 4, b 5, b 6, b 7, b 8, b 9] ∧ act = ⟨#[.pointer (some ⟨a, 0, none⟩), undef, .pointer (some ⟨w.heap.size, 0, none⟩), u 3, u 4, u 5, u 6, u 7, u 8, u 9, u 10, u 11, undef, undef, undef, undef, undef, undef, undef, undef, undef, undef, undef, undef, undef, undef, undef, undef, undef, undef, undef, undef, undef, undef, undef, undef, undef, undef, undef, undef, undef, undef, undef, undef, undef], []⟩ ∧ PF w a bs p j K A b u ww) ?_ ?_ ?_
    · refine ⟨fun _ => false, fun _ => undef, rfl, rfl, ?_⟩
      exact ⟨by simp, by simp, by simp, by simp, by simp, by simp, by simp, by simp, by simp, by simp only [Bool.false_eq_true, if_false]; rw [Int.add_zero, Int.add_zero]; exact HR0.out.drew, by simp, by simp, wr_drew hW0, hS0⟩
    · intro L act ww hI i hi
      obtain ⟨b, u, rfl, rfl, hF⟩ := hI
      obtain ⟨hlt, hb, he⟩ := ready_mem hi
      clear hi
      have hlt : i < 10 := hlt
      rcases (show i = 0 ∨ i = 1 ∨ i = 2 ∨ i = 3 ∨ i = 4 ∨ i = 5 ∨ i = 6 ∨ i = 7 ∨ i = 8 ∨ i = 9 by omega) with rfl | rfl | rfl | rfl | rfl | rfl | rfl | rfl | rfl | rfl
      · refine wpOp_list rfl ?_
        intro K' hK'
        simp [Region.binds] at hb he
        have hsz : ¬ ww.heap.size = a := by have := hF.rd.lt; omega
        have hG := hF.alloc n0 litO
        go_wp2
        exact ⟨up b 0 true, by simp [up], up u 4 (.slice (some ⟨ww.heap.size, 0, none⟩) 12 12), by simp [up], ⟨fun _ _ => ⟨_, rfl, heap_alloc_new _ _, hsz⟩, hG.o1, hG.o2, hG.o3, hG.o4, hG.o5, hG.o6, hG.o7, hG.o8, hG.rd, hG.ord, fun h => let ⟨x, y, z, _⟩ := hG.all h; ⟨x, y, z, rfl⟩, hG.wr, hG.res⟩⟩
      · refine wpOp_list rfl ?_
        intro K' hK'
        simp [Region.binds] at hb he
        go_wp2
        exact ⟨up b 1 true, by simp [up], up u 5 (.pointer (some ⟨a, 0, none⟩)), by simp [up], ⟨hF.o0, fun _ => rfl, hF.o2, hF.o3, hF.o4, hF.o5, hF.o6, hF.o7, hF.o8, hF.rd, hF.ord, hF.all, hF.wr, hF.res⟩⟩
      · refine wpOp_list rfl ?_
        intro K' hK'
        simp [Region.binds] at hb he
        have hu := hF.o1 he
        have hb6 : b 6 = false := by
          cases h6 : b 6 with
          | false => rfl
          | true => exact absurd (hF.ord h6) (by simp [hb])
        have hr := hF.rd
        simp only [hb, hb6, Bool.false_eq_true, if_false] at hr
        rw [Int.add_zero, Int.add_zero] at hr
        go_wp2_with fail
        refine (pick_any _ bs p _ _ hr (by omega) (by omega)).mono ?_
        rintro e w4 ⟨rfl, hr4, hw4⟩
        rw [HJ.out]
        have hG := hF.world (p' := p + 1) (fun g o hg ho => wr_blk hw4 ho hg) (fun g x y hg ho => ho.wr hw4 hg) n0 (by simp only [hb, hb6, Bool.false_eq_true, if_false]; rw [Int.add_zero, Int.add_zero]; exact hr4) (hF.wr.trans hw4)
        have hr5 : Rdr w4 a bs (p + 1 + (if b 6 then 1 else 0)) := by simp only [hb6, Bool.false_eq_true, if_false]; rw [Int.add_zero]; exact hr4
        go_wp2
        refine ⟨up b 2 true, up u 6 (.int .i64 j), rfl, by rw [← hu]; rfl, ?_⟩
        exact ⟨hG.o0, hG.o1, fun _ => rfl, hG.o3, hG.o4, hG.o5, hG.o6, hG.o7, hG.o8, hr5, fun _ => rfl, hG.all, hG.wr, hG.res⟩
      · refine wpOp_list rfl ?_
        intro K' hK'
        simp [Region.binds] at hb he
        have hb9 : b 9 = false := by
          cases h9 : b 9 with
          | false => rfl
          | true => exact absurd (hF.all h9) (by simp [hb])
        obtain ⟨g, hu, hg, hga⟩ := hF.o0 he.1 hb9
        have hu6 := hF.o2 he.2
        go_wp2
        exact ⟨up b 3 true, by simp [up, he, hb9], up u 7 (.pointer (some ⟨g, j, none⟩)), by simp [up, hu, hu6], ⟨hF.o0, hF.o1, hF.o2, fun _ _ => ⟨g, rfl, hg, hga⟩, hF.o4, hF.o5, hF.o6, hF.o7, hF.o8, hF.rd, hF.ord, fun h => let ⟨_, y, z, q⟩ := hF.all h; ⟨rfl, y, z, q⟩, hF.wr, hF.res⟩⟩
      · refine wpOp_list rfl ?_
        intro K' hK'
        simp [Region.binds] at hb he
        have hb9 : b 9 = false := by
          cases h9 : b 9 with
          | false => rfl
          | true => exact absurd (hF.all h9) (by simp [hb])
        obtain ⟨g, hu, hg, hga⟩ := hF.o3 he hb9
        have hc := (cell_of_row _ g j _ _ _ hg).trans HK.out
        go_wp2
        exact ⟨up b 4 true, by simp [up, he, hb9], up u 8 (.int .i64 K), by simp [up, hu], ⟨hF.o0, hF.o1, hF.o2, hF.o3, fun _ => rfl, hF.o5, hF.o6, hF.o7, hF.o8, hF.rd, hF.ord, fun h => let ⟨x, _, z, q⟩ := hF.all h; ⟨x, rfl, z, q⟩, hF.wr, hF.res⟩⟩
      · refine wpOp_list rfl ?_
        intro K' hK'
        simp [Region.binds] at hb he
        go_wp2
        exact ⟨up b 5 true, by simp [up], up u 9 (.pointer (some ⟨a, 0, none⟩)), by simp [up], ⟨hF.o0, hF.o1, hF.o2, hF.o3, hF.o4, fun _ => rfl, hF.o6, hF.o7, hF.o8, hF.rd, hF.ord, hF.all, hF.wr, hF.res⟩⟩
      · refine wpOp_list rfl ?_
        intro K' hK'
        simp [Region.binds] at hb he
        have hu := hF.o5 he.1
        have hb2 := he.2
        have hr := hF.rd
        simp only [hb, hb2, Bool.false_eq_true, if_false, if_true] at hr
        rw [Int.add_zero] at hr
        go_wp2_with fail
        refine (pick_any _ bs (p + 1) _ _ hr (by omega) (by omega)).mono ?_
        rintro e w4 ⟨rfl, hr4, hw4⟩
        rw [HA.out]
        have hG := hF.world (p' := p + 1) (fun g o hg ho => wr_blk hw4 ho hg) (fun g x y hg ho => ho.wr hw4 hg) n0 (by simp only [hb, hb2, Bool.false_eq_true, if_false, if_true]; rw [Int.add_zero]; exact hr4) (hF.wr.trans hw4)
        have hr5 : Rdr w4 a bs (p + (if b 2 then 1 else 0) + 1) := by simp only [hb2, if_true]; exact hr4
        go_wp2
        refine ⟨up b 6 true, up u 10 (.int .i64 A), rfl, by rw [← hu]; rfl, ?_⟩
        exact ⟨hG.o0, hG.o1, hG.o2, hG.o3, hG.o4, hG.o5, fun _ => rfl, hG.o7, hG.o8, hr5, fun _ => hb2, hG.all, hG.wr, hG.res⟩
      · refine wpOp_list rfl ?_
        intro K' hK'
        simp [Region.binds] at hb he
        have hu := hF.o4 he.1
        have hv := hF.o6 he.2
        go_wp2
        exact ⟨up b 7 true, by simp [up, he], up u 11 (.agg #[.int .i64 K, .int .i64 A, .int .i64 0, .int .i64 0]), by simp [up, hu, hv], ⟨hF.o0, hF.o1, hF.o2, hF.o3, hF.o4, hF.o5, hF.o6, fun _ => rfl, hF.o8, hF.rd, hF.ord, hF.all, hF.wr, hF.res⟩⟩
      · refine wpOp_list rfl ?_
        intro K' hK'
        simp [Region.binds] at hb he
        have hb9 : b 9 = false := by
          cases h9 : b 9 with
          | false => rfl
          | true => exact absurd (hF.all h9) (by simp [hb])
        have hC := c4_of (heap_alloc_new ww (cObj 0 0 0 0))
        have hsz : ¬ ww.heap.size = a := by have := hF.rd.lt; omega
        have hsw : w.heap.size < ww.heap.size := (Array.getElem?_eq_some_iff.1 hF.res).1
        have hG := hF.alloc n0 (cObj 0 0 0 0)
        go_wp2
        exact ⟨up b 8 true, by simp [up, hb9], up u 3 (.pointer (some ⟨ww.heap.size, 0, none⟩)), by simp [up], ⟨hG.o0, hG.o1, hG.o2, hG.o3, hG.o4, hG.o5, hG.o6, hG.o7, fun _ => ⟨_, rfl, hsw, hsz, by show C4 _ _ (if b 9 = true then K else 0) (if b 9 = true then A else 0) 0 0; simp only [hb9, Bool.false_eq_true, if_false]; exact hC⟩, hG.rd, hG.ord, fun h => let ⟨x, y, _, q⟩ := hG.all h; ⟨x, y, rfl, q⟩, hG.wr, hG.res⟩⟩
      · refine wpOp_list rfl ?_
        intro K' hK'
        simp [Region.binds] at hb he
        obtain ⟨e8, e7, e6, e0, e1, e2, e3, e4, e5, _⟩ := he
        obtain ⟨g, hu, hgw, hga, hC⟩ := hF.o8 e8
        have hv := hF.o7 e7
        have hgg : ¬ w.heap.size = g := by omega
        simp only [hb, Bool.false_eq_true, if_false] at hC
        obtain ⟨c0, c1, c2, c3, f0, f1, f2, f3, f4⟩ := id hC
        have hC' := c4_set3 (c4_set2 (c4_set1 (c4_set0 hC K) A) 0) 0
        have hw' := wr_set_hi (wr_set_hi (wr_set_hi (wr_set_hi hF.wr (Nat.le_of_lt hgw) 0 (.int .i64 K)) (Nat.le_of_lt hgw) 1 (.int .i64 A)) (Nat.le_of_lt hgw) 2 (.int .i64 0)) (Nat.le_of_lt hgw) 3 (.int .i64 0)
        have hr' := (((hF.rd.wr (Wr_set0 ww g 0 (.int .i64 K)) (fun k hk => by omega)).wr (Wr_set0 _ g 1 (.int .i64 A)) (fun k hk => by omega)).wr (Wr_set0 _ g 2 (.int .i64 0)) (fun k hk => by omega)).wr (Wr_set0 _ g 3 (.int .i64 0)) (fun k hk => by omega)
        have hs' : ((((ww.setCell ⟨g, 0, none⟩ (.int .i64 K)).setCell ⟨g, 1, none⟩ (.int .i64 A)).setCell ⟨g, 2, none⟩ (.int .i64 0)).setCell ⟨g, 3, none⟩ (.int .i64 0)).heap[w.heap.size]? = some (cObj 0 0 0 0) := by
          rw [heap_setCell_other _ _ _ _ hgg, heap_setCell_other _ _ _ _ hgg, heap_setCell_other _ _ _ _ hgg, heap_setCell_other _ _ _ _ hgg]; exact hF.res
        clear f4 hC
        go_wp2
        exact ⟨up b 9 true, by simp [up, e0, e1, e2, e3, e4, e5, e6, e7, e8], u, by simp [hu, hv], ⟨fun _ h => Bool.noConfusion h, hF.o1, hF.o2, fun _ h => Bool.noConfusion h, hF.o4, hF.o5, hF.o6, hF.o7, fun _ => ⟨g, hu, hgw, hga, hC'⟩, hr', hF.ord, fun _ => ⟨e3, e4, e8, e0⟩, hw', hs'⟩⟩
    · intro L act ww hI hi
      obtain ⟨b, u, rfl, rfl, hF⟩ := hI
      have e0 : b 0 = true := ready_all 0 hi (by decide) (by simp [Region.binds])
      have e1 : b 1 = true := ready_all 1 hi (by decide) (by simp [Region.binds])
      have e2 : b 2 = true := ready_all 2 hi (by decide) (by simp [Region.binds, e1])
      have e3 : b 3 = true := ready_all 3 hi (by decide) (by simp [Region.binds, e0, e2])
      have e4 : b 4 = true := ready_all 4 hi (by decide) (by simp [Region.binds, e3])
      have e5 : b 5 = true := ready_all 5 hi (by decide) (by simp [Region.binds])
      have e6 : b 6 = true := ready_all 6 hi (by decide) (by simp [Region.binds, e5, e2])
      have e7 : b 7 = true := ready_all 7 hi (by decide) (by simp [Region.binds, e4, e6])
      have e8 : b 8 = true := ready_all 8 hi (by decide) (by simp [Region.binds])
      have e9 : b 9 = true := ready_all 9 hi (by decide) (by simp [Region.binds, e0, e1, e2, e3, e4, e5, e6, e7, e8])
      clear hi
      obtain ⟨g, hu, hgw, hga, hC⟩ := hF.o8 e8
      have hr := hF.rd
      simp only [e9, if_true] at hC
      simp only [e2, e6, if_true] at hr
      have hR := hF.res
      have hW := hF.wr
      have hsz : ¬ g = w.heap.size := by omega
      clear hF
      go_wp2
      go_meet
      exact ⟨g, K, A, hu, ⟨hK1, hK2⟩, ⟨hA0, hA1⟩, hC, c4_of hR, hr, hW, hga, hsz, Nat.le_of_lt hgw⟩
  case rest =>
    obtain ⟨cb, K, A, rfl, ⟨hK1, hK2⟩, ⟨hA0, hA1⟩, hc, hs, hr, hW, hca, hcs, hcb⟩ := hcut
    have n0 : ¬ w.heap.size = a := by omega
    have hsc : ¬ w.heap.size = cb := fun e => hcs e.symm
    rcases (show K = 1 ∨ (K = 3 ∨ K = 4 ∨ K = 5 ∨ K = 8 ∨ K = 9) ∨ (K = 6 ∨ K = 7) ∨ K = 2 by omega) with rfl | hk | hk | rfl
    · obtain ⟨b1, b2⟩ := pickV_bd bs (p + 1 + 1) 5
      obtain ⟨b3, b4⟩ := pickV_bd bs (p + 1 + 1 + 1) 256
      obtain ⟨b5, b6⟩ := pickV_bd bs (p + 1 + 1 + 1 + 1) 2
      obtain ⟨X1, hX1⟩ : ∃ X, pickV bs (p + 1 + 1) 5 = X := ⟨_, rfl⟩
      obtain ⟨X2, hX2⟩ : ∃ X, pickV bs (p + 1 + 1 + 1) 256 = X := ⟨_, rfl⟩
      obtain ⟨j, hj⟩ : ∃ j : Nat, pickV bs (p + 1 + 1 + 1 + 1) 2 = j := ⟨(pickV bs (p + 1 + 1 + 1 + 1) 2).toNat, by omega⟩
      have hj2 : j < 2 := by omega
      have x1a : 0 ≤ X1 := by omega
      have x1b : X1 ≤ 4 := by omega
      have x2a : 0 ≤ X2 := by omega
      have x2b : X2 ≤ 255 := by omega
      have HX1 := Lib.hid hX1
      have HX2 := Lib.hid hX2
      have HJ := Lib.hid hj
      clear b1 b2 b3 b4 b5 b6 hX1 hX2 hj
      obtain ⟨c0, c1, c2, c3, f0, f1, f2, f3, f4⟩ := id hc
      go_wp2_with fail
      refine (pick_any _ bs (p + 1 + 1) _ _ hr (by omega) (by omega)).mono ?_
      rintro e w4 ⟨rfl, hr4, hw4⟩
      rw [HX1.out]
      clear c0 c1 c2 c3 f0 f1 f2 f3 f4
      go_wp2_with fail
      refine (pick_any _ bs (p + 1 + 1 + 1) _ _ hr4 (by omega) (by omega)).mono ?_
      rintro e w5 ⟨rfl, hr5, hw5⟩
      rw [HX2.out]
      have hlt5 := hr5.lt
      go_wp2_with fail
      refine (pick_any _ bs (p + 1 + 1 + 1 + 1) _ _ (hr5.alloc _) (by omega) (by omega)).mono ?_
      rintro e w6 ⟨rfl, hr6, hw6⟩
      rw [HJ.out]
      obtain ⟨X, hX, hXa, hXb⟩ : ∃ X : Int, (#[.int .i64 X1, .int .i64 X2] : Array Value)[j]? = some (.int .i64 X) ∧ 0 ≤ X ∧ X ≤ 255 := by
        rcases (show j = 0 ∨ j = 1 by omega) with rfl | rfl
        · exact ⟨X1, rfl, by omega, by omega⟩
        · exact ⟨X2, rfl, by omega, by omega⟩
      have hcX := (lit_cell2 hw6 (heap_alloc_new w5 _) (by omega) j).trans hX
      have hc6 := ((((hc.wr hw4 hca).wr hw5 hca).alloc _).wr hw6 hca)
      have hs6 := ((((hs.wr hw4 n0).wr hw5 n0).alloc _).wr hw6 n0)
      have hW6 := (wr_alloc ((hW.trans hw4).trans hw5) _).trans hw6
      have hL : Left w a bs (p + 5) w6 := ⟨_, hr6, by omega, hW6⟩
      clear hX hc hs hr hW hw4 hw5 hw6 hr4 hr5 hr6 hW6
      obtain ⟨c0, c1, c2, c3, f0, f1, f2, f3, f4⟩ := hc6
      obtain ⟨s0, s1, s2, s3, t0, t1, t2, t3, t4⟩ := hs6
      go_wp2
      refine bodyPost_ret (v := .agg #[.int .i64 1, .int .i64 A, .int .i64 X, .int .i64 0]) (by simp [results, Tryd.results69, go_sem, s0, s1, s2, s3]) rfl ⟨⟨1, A, X, 0⟩, rfl, ⟨by simp only; omega, by simp only; omega, by simp only; omega, by simp only; omega⟩, left_set (left_set (left_set (left_set (left_set (hL) hcb halt _ _) (Nat.le_refl _) halt _ _) (Nat.le_refl _) halt _ _) (Nat.le_refl _) halt _ _) (Nat.le_refl _) halt _ _⟩
    · obtain ⟨b1, b2⟩ := pickV_bd bs (p + 1 + 1) 4
      obtain ⟨X, hX⟩ : ∃ X, pickV bs (p + 1 + 1) 4 = X := ⟨_, rfl⟩
      have hXa : 0 ≤ X := by omega
      have hXb : X ≤ 3 := by omega
      have HX := Lib.hid hX
      clear b1 b2 hX
      rcases hk with rfl | rfl | rfl | rfl | rfl
      · obtain ⟨c0, c1, c2, c3, f0, f1, f2, f3, f4⟩ := id hc
        go_wp2_with fail
        refine (pick_any _ bs (p + 1 + 1) _ _ hr (by omega) (by omega)).mono ?_
        rintro e w4 ⟨rfl, hr4, hw4⟩
        rw [HX.out]
        have hc4 := hc.wr hw4 hca
        have hs4 := hs.wr hw4 n0
        have hL : Left w a bs (p + 5) w4 := ⟨_, hr4, by omega, hW.trans hw4⟩
        clear c0 c1 c2 c3 f0 f1 f2 f3 f4 hc hs hr hW hw4 hr4
        obtain ⟨c0, c1, c2, c3, f0, f1, f2, f3, f4⟩ := hc4
        obtain ⟨s0, s1, s2, s3, t0, t1, t2, t3, t4⟩ := hs4
        go_wp2
        refine bodyPost_ret (v := .agg #[.int .i64 3, .int .i64 A, .int .i64 X, .int .i64 0]) (by simp [results, Tryd.results69, go_sem, s0, s1, s2, s3]) rfl ⟨⟨3, A, X, 0⟩, rfl, ⟨by simp only; omega, by simp only; omega, by simp only; omega, by simp only; omega⟩, left_set (left_set (left_set (left_set (left_set (hL) hcb halt _ _) (Nat.le_refl _) halt _ _) (Nat.le_refl _) halt _ _) (Nat.le_refl _) halt _ _) (Nat.le_refl _) halt _ _⟩
      · obtain ⟨c0, c1, c2, c3, f0, f1, f2, f3, f4⟩ := id hc
        go_wp2_with fail
        refine (pick_any _ bs (p + 1 + 1) _ _ hr (by omega) (by omega)).mono ?_
        rintro e w4 ⟨rfl, hr4, hw4⟩
        rw [HX.out]
        have hc4 := hc.wr hw4 hca
        have hs4 := hs.wr hw4 n0
        have hL : Left w a bs (p + 5) w4 := ⟨_, hr4, by omega, hW.trans hw4⟩
        clear c0 c1 c2 c3 f0 f1 f2 f3 f4 hc hs hr hW hw4 hr4
        obtain ⟨c0, c1, c2, c3, f0, f1, f2, f3, f4⟩ := hc4
        obtain ⟨s0, s1, s2, s3, t0, t1, t2, t3, t4⟩ := hs4
        go_wp2
        refine bodyPost_ret (v := .agg #[.int .i64 4, .int .i64 A, .int .i64 X, .int .i64 0]) (by simp [results, Tryd.results69, go_sem, s0, s1, s2, s3]) rfl ⟨⟨4, A, X, 0⟩, rfl, ⟨by simp only; omega, by simp only; omega, by simp only; omega, by simp only; omega⟩, left_set (left_set (left_set (left_set (left_set (hL) hcb halt _ _) (Nat.le_refl _) halt _ _) (Nat.le_refl _) halt _ _) (Nat.le_refl _) halt _ _) (Nat.le_refl _) halt _ _⟩
      · obtain ⟨c0, c1, c2, c3, f0, f1, f2, f3, f4⟩ := id hc
        go_wp2_with fail
        refine (pick_any _ bs (p + 1 + 1) _ _ hr (by omega) (by omega)).mono ?_
        rintro e w4 ⟨rfl, hr4, hw4⟩
        rw [HX.out]
        have hc4 := hc.wr hw4 hca
        have hs4 := hs.wr hw4 n0
        have hL : Left w a bs (p + 5) w4 := ⟨_, hr4, by omega, hW.trans hw4⟩
        clear c0 c1 c2 c3 f0 f1 f2 f3 f4 hc hs hr hW hw4 hr4
        obtain ⟨c0, c1, c2, c3, f0, f1, f2, f3, f4⟩ := hc4
        obtain ⟨s0, s1, s2, s3, t0, t1, t2, t3, t4⟩ := hs4
        go_wp2
        refine bodyPost_ret (v := .agg #[.int .i64 5, .int .i64 A, .int .i64 X, .int .i64 0]) (by simp [results, Tryd.results69, go_sem, s0, s1, s2, s3]) rfl ⟨⟨5, A, X, 0⟩, rfl, ⟨by simp only; omega, by simp only; omega, by simp only; omega, by simp only; omega⟩, left_set (left_set (left_set (left_set (left_set (hL) hcb halt _ _) (Nat.le_refl _) halt _ _) (Nat.le_refl _) halt _ _) (Nat.le_refl _) halt _ _) (Nat.le_refl _) halt _ _⟩
      · obtain ⟨c0, c1, c2, c3, f0, f1, f2, f3, f4⟩ := id hc
        go_wp2_with fail
        refine (pick_any _ bs (p + 1 + 1) _ _ hr (by omega) (by omega)).mono ?_
        rintro e w4 ⟨rfl, hr4, hw4⟩
        rw [HX.out]
        have hc4 := hc.wr hw4 hca
        have hs4 := hs.wr hw4 n0
        have hL : Left w a bs (p + 5) w4 := ⟨_, hr4, by omega, hW.trans hw4⟩
        clear c0 c1 c2 c3 f0 f1 f2 f3 f4 hc hs hr hW hw4 hr4
        obtain ⟨c0, c1, c2, c3, f0, f1, f2, f3, f4⟩ := hc4
        obtain ⟨s0, s1, s2, s3, t0, t1, t2, t3, t4⟩ := hs4
        go_wp2
        refine bodyPost_ret (v := .agg #[.int .i64 8, .int .i64 A, .int .i64 X, .int .i64 0]) (by simp [results, Tryd.results69, go_sem, s0, s1, s2, s3]) rfl ⟨⟨8, A, X, 0⟩, rfl, ⟨by simp only; omega, by simp only; omega, by simp only; omega, by simp only; omega⟩, left_set (left_set (left_set (left_set (left_set (hL) hcb halt _ _) (Nat.le_refl _) halt _ _) (Nat.le_refl _) halt _ _) (Nat.le_refl _) halt _ _) (Nat.le_refl _) halt _ _⟩
      · obtain ⟨c0, c1, c2, c3, f0, f1, f2, f3, f4⟩ := id hc
        go_wp2_with fail
        refine (pick_any _ bs (p + 1 + 1) _ _ hr (by omega) (by omega)).mono ?_
        rintro e w4 ⟨rfl, hr4, hw4⟩
        rw [HX.out]
        have hc4 := hc.wr hw4 hca
        have hs4 := hs.wr hw4 n0
        have hL : Left w a bs (p + 5) w4 := ⟨_, hr4, by omega, hW.trans hw4⟩
        clear c0 c1 c2 c3 f0 f1 f2 f3 f4 hc hs hr hW hw4 hr4
        obtain ⟨c0, c1, c2, c3, f0, f1, f2, f3, f4⟩ := hc4
        obtain ⟨s0, s1, s2, s3, t0, t1, t2, t3, t4⟩ := hs4
        go_wp2
        refine bodyPost_ret (v := .agg #[.int .i64 9, .int .i64 A, .int .i64 X, .int .i64 0]) (by simp [results, Tryd.results69, go_sem, s0, s1, s2, s3]) rfl ⟨⟨9, A, X, 0⟩, rfl, ⟨by simp only; omega, by simp only; omega, by simp only; omega, by simp only; omega⟩, left_set (left_set (left_set (left_set (left_set (hL) hcb halt _ _) (Nat.le_refl _) halt _ _) (Nat.le_refl _) halt _ _) (Nat.le_refl _) halt _ _) (Nat.le_refl _) halt _ _⟩
    · obtain ⟨b1, b2⟩ := pickV_bd bs (p + 1 + 1) 4
      obtain ⟨b3, b4⟩ := pickV_bd bs (p + 1 + 1 + 1) 4
      obtain ⟨X, hX⟩ : ∃ X, pickV bs (p + 1 + 1) 4 = X := ⟨_, rfl⟩
      obtain ⟨Y, hY⟩ : ∃ Y, pickV bs (p + 1 + 1 + 1) 4 = Y := ⟨_, rfl⟩
      have hXa : 0 ≤ X := by omega
      have hXb : X ≤ 3 := by omega
      have hYa : 0 ≤ Y := by omega
      have hYb : Y ≤ 3 := by omega
      have HX := Lib.hid hX
      have HY := Lib.hid hY
      clear b1 b2 hX b3 b4 hY
      rcases hk with rfl | rfl
      · obtain ⟨c0, c1, c2, c3, f0, f1, f2, f3, f4⟩ := id hc
        go_wp2_with fail
        refine (pick_any _ bs (p + 1 + 1) _ _ hr (by omega) (by omega)).mono ?_
        rintro e w4 ⟨rfl, hr4, hw4⟩
        rw [HX.out]
        have hc4 := hc.wr hw4 hca
        have hs4 := hs.wr hw4 n0
        have hW4 := hW.trans hw4
        clear c0 c1 c2 c3 f0 f1 f2 f3 f4 hc hs hr hW hw4
        obtain ⟨c0, c1, c2, c3, f0, f1, f2, f3, f4⟩ := id hc4
        have hc5 := c4_set2 hc4 X
        have hL4 : Left w a bs (p + 5) w4 := ⟨_, hr4, by omega, hW4⟩
        have hr5 : Rdr (w4.setCell ⟨cb, 2, none⟩ (.int .i64 X)) a bs (p + 1 + 1 + 1) := hr4.wr (Wr_set0 w4 cb 2 _) (fun k hk => by omega)
        have hs5 := c4_other hs4 hsc 2 (.int .i64 X)
        go_wp2_with fail
        refine (pick_any _ bs (p + 1 + 1 + 1) _ _ hr5 (by omega) (by omega)).mono ?_
        rintro e w5 ⟨rfl, hr6, hw5⟩
        rw [HY.out]
        clear c0 c1 c2 c3 f0 f1 f2 f3 f4
        have hc6 := hc5.wr hw5 hca
        have hs6 := hs5.wr hw5 n0
        have hL : Left w a bs (p + 5) w5 := by
          obtain ⟨_, _, _, hWs⟩ := left_set hL4 hcb halt 2 (.int .i64 X)
          exact ⟨_, hr6, by omega, hWs.trans hw5⟩
        clear hc4 hs4 hW4 hc5 hs5 hL4 hr5 hr6 hw5 hr4
        obtain ⟨c0, c1, c2, c3, f0, f1, f2, f3, f4⟩ := hc6
        obtain ⟨s0, s1, s2, s3, t0, t1, t2, t3, t4⟩ := hs6
        go_wp2
        refine bodyPost_ret (v := .agg #[.int .i64 6, .int .i64 A, .int .i64 X, .int .i64 Y]) (by simp [results, Tryd.results69, go_sem, s0, s1, s2, s3]) rfl ⟨⟨6, A, X, Y⟩, rfl, ⟨by simp only; omega, by simp only; omega, by simp only; omega, by simp only; omega⟩, left_set (left_set (left_set (left_set (left_set (hL) hcb halt _ _) (Nat.le_refl _) halt _ _) (Nat.le_refl _) halt _ _) (Nat.le_refl _) halt _ _) (Nat.le_refl _) halt _ _⟩
      · obtain ⟨c0, c1, c2, c3, f0, f1, f2, f3, f4⟩ := id hc
        go_wp2_with fail
        refine (pick_any _ bs (p + 1 + 1) _ _ hr (by omega) (by omega)).mono ?_
        rintro e w4 ⟨rfl, hr4, hw4⟩
        rw [HX.out]
        have hc4 := hc.wr hw4 hca
        have hs4 := hs.wr hw4 n0
        have hW4 := hW.trans hw4
        clear c0 c1 c2 c3 f0 f1 f2 f3 f4 hc hs hr hW hw4
        obtain ⟨c0, c1, c2, c3, f0, f1, f2, f3, f4⟩ := id hc4
        have hc5 := c4_set2 hc4 X
        have hL4 : Left w a bs (p + 5) w4 := ⟨_, hr4, by omega, hW4⟩
        have hr5 : Rdr (w4.setCell ⟨cb, 2, none⟩ (.int .i64 X)) a bs (p + 1 + 1 + 1) := hr4.wr (Wr_set0 w4 cb 2 _) (fun k hk => by omega)
        have hs5 := c4_other hs4 hsc 2 (.int .i64 X)
        go_wp2_with fail
        refine (pick_any _ bs (p + 1 + 1 + 1) _ _ hr5 (by omega) (by omega)).mono ?_
        rintro e w5 ⟨rfl, hr6, hw5⟩
        rw [HY.out]
        clear c0 c1 c2 c3 f0 f1 f2 f3 f4
        have hc6 := hc5.wr hw5 hca
        have hs6 := hs5.wr hw5 n0
        have hL : Left w a bs (p + 5) w5 := by
          obtain ⟨_, _, _, hWs⟩ := left_set hL4 hcb halt 2 (.int .i64 X)
          exact ⟨_, hr6, by omega, hWs.trans hw5⟩
        clear hc4 hs4 hW4 hc5 hs5 hL4 hr5 hr6 hw5 hr4
        obtain ⟨c0, c1, c2, c3, f0, f1, f2, f3, f4⟩ := hc6
        obtain ⟨s0, s1, s2, s3, t0, t1, t2, t3, t4⟩ := hs6
        go_wp2
        refine bodyPost_ret (v := .agg #[.int .i64 7, .int .i64 A, .int .i64 X, .int .i64 Y]) (by simp [results, Tryd.results69, go_sem, s0, s1, s2, s3]) rfl ⟨⟨7, A, X, Y⟩, rfl, ⟨by simp only; omega, by simp only; omega, by simp only; omega, by simp only; omega⟩, left_set (left_set (left_set (left_set (left_set (hL) hcb halt _ _) (Nat.le_refl _) halt _ _) (Nat.le_refl _) halt _ _) (Nat.le_refl _) halt _ _) (Nat.le_refl _) halt _ _⟩
    · have hL : Left w a bs (p + 5) wc := ⟨_, hr, by omega, hW⟩
      clear hr hW
      obtain ⟨c0, c1, c2, c3, f0, f1, f2, f3, f4⟩ := hc
      obtain ⟨s0, s1, s2, s3, t0, t1, t2, t3, t4⟩ := hs
      go_wp2
      refine bodyPost_ret (v := .agg #[.int .i64 2, .int .i64 A, .int .i64 0, .int .i64 0]) (by simp [results, Tryd.results69, go_sem, s0, s1, s2, s3]) rfl ⟨⟨2, A, 0, 0⟩, rfl, ⟨by simp only; omega, by simp only; omega, by simp only; omega, by simp only; omega⟩, left_set (left_set (left_set (left_set (hL) (Nat.le_refl _) halt _ _) (Nat.le_refl _) halt _ _) (Nat.le_refl _) halt _ _) (Nat.le_refl _) halt _ _⟩
end Go.Proofs.YtidmjeehcmpjnaaDoor
