/- YthhdffgfldphlaaDrawMem: the draw of a memory: it returns a list of numbers within bounds in new memory and leaves old memory as it was. Conditions: a reader's place is at most 1000000. -/
import Derived.Test.YthhdffgfldphlaaDrawV
namespace Go.Proofs.Ythhdffgfldphlaa
open Go.ChangeShapes Go.WideShapes Go.ChangeAt Go.RowKit

theorem lit_cell {w w' : World} {a : Nat} {cs : Array Value} {E : TypeId} (hw : Wr (w.alloc (.cells cs E)) w' (fun b => b = a)) (ha : a < w.heap.size) (j : Nat) : w'.cell? ⟨w.heap.size, j, none⟩ = cs[j]? := by
  rw [hw.cell (by simp) (by omega), cell_of_row _ w.heap.size j cs E (0, 0) (heap_alloc_new w _)]
theorem wr_own {w w6 w7 : World} {p q : Nat → Prop} (h : Wr w w6 p) (h2 : Wr w6 w7 q) (hq : ∀ k, q k → w.heap.size ≤ k) : Wr w w7 p :=
  ⟨h2.os.trans h.os, h2.tape.trans h.tape, h2.output.trans h.output, Nat.le_trans h.size h2.size, fun k hk hp => (h2.block k (Nat.lt_of_lt_of_le hk h.size) (fun hh => by have := hq k hh; omega)).trans (h.block k hk hp)⟩
/-- A memory being drawn: the reader, the list, old memory. -/
structure MemSt (w0 : World) (z : Nat) (a : Nat) (bs : List Int) (q : Int) (n : Nat) (w : World) (v : Value) : Prop where
  rd : ∃ p, Rdr w a bs p ∧ p ≤ q
  own : ∃ xs : List Int, w.ownsRow z 3 1 v xs.length (xs.map (Value.int .i64)) ∧ xs.length = n ∧ ∀ x ∈ xs, -1 ≤ x ∧ x ≤ 256
  wr : Wr w0 w (fun b => b = a)
  size : z ≤ w.heap.size
  base : w0.heap.size ≤ z
  rz : a < w0.heap.size
theorem MemSt.step {w0 w w' : World} {z a n : Nat} {bs : List Int} {q p : Int} {v : Value} (h : MemSt w0 z a bs q n w v) (hw : Wr w w' (fun b => b = a)) (hr : Rdr w' a bs p) {q' : Int} (hp : p ≤ q') : MemSt w0 z a bs q' n w' v := by
  obtain ⟨xs, ho, h1, h2⟩ := h.own
  have h3 := h.rz
  have h5 := h.base
  exact ⟨⟨p, hr, hp⟩, ⟨xs, hw.owns ho (fun k hk (hh : k = a) => by have := own_ge ho k hk; omega), h1, h2⟩, h.wr.trans hw, Nat.le_trans h.size hw.size, h5, h3⟩
theorem MemSt.alloc {w0 w : World} {z a n : Nat} {bs : List Int} {q : Int} {v : Value} (h : MemSt w0 z a bs q n w v) (o : Obj) : MemSt w0 z a bs q n (w.alloc o) v := by
  obtain ⟨p, hr, hp⟩ := h.rd
  exact h.step (wr_alloc (Wr.refl _ _) o) (hr.alloc o) hp
/-- What a drawn memory leaves. -/
def MemD (w : World) (a : Nat) (bs : List Int) (q : Int) (e : Ending) (w' : World) : Prop :=
  ∃ v, e = .returned v ∧ (∃ xs : List Int, w'.ownsRow w.heap.size 3 1 v xs.length (xs.map (Value.int .i64)) ∧ xs.length ≤ 33 ∧ ∀ x ∈ xs, -1 ≤ x ∧ x ≤ 256) ∧ Left w a bs q w'

set_option maxHeartbeats 4000000 in
theorem l20Memory_any (a : Nat) (bs : List Int) (p n : Int) (w : World) (h : Rdr w a bs p) (hp : p ≤ 1000000) (hn0 : 0 ≤ n) (hn : n ≤ 1000000) : Calls Try.prog 22 #[.pointer (some ⟨a, 0, none⟩), .int .i64 n] w (MemD w a bs (p + 110)) := by
  have hp0 := h.nn
  have halt := h.lt
  obtain ⟨b1, b2⟩ := pickV_bd bs p 12
  obtain ⟨b3, b4⟩ := pickV_bd bs (p + 1) 4
  have hoE : (w.alloc (.cells #[] 3)).ownsRow w.heap.size 3 1 (.slice (some ⟨w.heap.size, 0, none⟩) 0 0) 0 ([].map (Value.int .i64)) := World.ownsRow_lit w #[] 0 (Nat.le_refl _) (by decide) rfl
  have hS0 : MemSt w w.heap.size a bs p 0 (w.alloc (.cells #[] 3)) (.slice (some ⟨w.heap.size, 0, none⟩) 0 0) :=
    ⟨⟨p, h.alloc _, Int.le_refl _⟩, ⟨[], hoE, rfl, by simp⟩, wr_alloc (Wr.refl _ _) _, by simp, Nat.le_refl _, halt⟩
  go_enter Try.func22, Try.ntmps22
  go_wp2_with fail
  refine (pick_any _ bs (p) _ _ (h.alloc _) (by omega) (by omega)).mono ?_
  rintro e w2 ⟨rfl, hr2, hw2⟩
  have hq2 := wr_cells hw2
  have hS2 := hS0.step hw2 hr2 (q' := p + 1) (by omega)
  have hlt2 := hr2.lt
  have hne2 : ¬ w2.heap.size = a := by omega
  go_wp2_with fail
  refine (pick_any _ bs (p + 1) _ _ (hr2.alloc _) (by omega) (by omega)).mono ?_
  rintro e w3 ⟨rfl, hr3, hw3⟩
  have hq3 := wr_cells hw3
  have hS3 := (hS2.alloc _).step hw3 hr3 (q' := p + 2) (by omega)
  obtain ⟨V, hV⟩ : ∃ V, pickV bs p 12 = V := ⟨_, rfl⟩
  rw [hV] at b1 b2 hw3 hq3 ⊢
  obtain ⟨j, hj⟩ : ∃ j : Nat, pickV bs (p + 1) 4 = j := ⟨(pickV bs (p + 1) 4).toNat, by omega⟩
  have hj4 : j < 4 := by omega
  rw [hj]
  obtain ⟨K, hK, hK1, hK2⟩ : ∃ K : Nat, (#[.int .i64 8, .int .i64 16, .int .i64 (1 + V), .int .i64 32] : Array Value)[j]? = some (.int .i64 (K : Int)) ∧ 1 ≤ K ∧ K ≤ 32 := by
    rcases (show j = 0 ∨ j = 1 ∨ j = 2 ∨ j = 3 by omega) with rfl | rfl | rfl | rfl
    · exact ⟨8, rfl, by omega, by omega⟩
    · exact ⟨16, rfl, by omega, by omega⟩
    · exact ⟨(1 + V).toNat, by rw [Int.toNat_of_nonneg (by omega)]; rfl, by omega, by omega⟩
    · exact ⟨32, rfl, by omega, by omega⟩
  have hcK := (lit_cell hw3 hlt2 j).trans hK
  clear hV hj hK hq2 hq3 hw2 hw3 hS0 hS2 hoE b1 b2 b3 b4 hr2 h
  go_wp2_with fail
  clear hcK hlt2 hne2 hj4
  go_loopg [5, 6] K (fun g v i wr => g ≤ K ∧ i = .int .i64 g ∧ MemSt w w.heap.size a bs (p + 2 + 3 * ((K : Int) - g)) (K - g) wr v)
  case atStart => exact ⟨Nat.le_refl _, rfl, by simpa using hS3⟩
  case round =>
    clear hS3 hr3
    obtain ⟨hg, rfl, hD⟩ := hrel
    obtain ⟨q, hr, hq⟩ := hD.rd
    have hq0 := hr.nn
    by_cases hlt : 0 < gk
    · obtain ⟨c1, c2⟩ := pickV_bd bs q 256
      obtain ⟨c3, c4⟩ := pickV_bd bs (q + 1) 5
      obtain ⟨c5, c6⟩ := pickV_bd bs (q + 1 + 1) 3
      go_wp2_with fail
      refine (pick_any _ bs (q) _ _ hr (by omega) (by omega)).mono ?_
      rintro e w4 ⟨rfl, hr4, hw4⟩
      have hq4 := wr_cells hw4
      go_wp2_with fail
      refine (pick_any _ bs (q + 1) _ _ hr4 (by omega) (by omega)).mono ?_
      rintro e w5 ⟨rfl, hr5, hw5⟩
      have hq5 := wr_cells hw5
      have hD5 := hD.step (hw4.trans hw5) hr5 (q' := q + 1 + 1) (by omega)
      have hlt5 := hr5.lt
      obtain ⟨X1, hX1⟩ : ∃ X, pickV bs q 256 = X := ⟨_, rfl⟩
      obtain ⟨X2, hX2⟩ : ∃ X, pickV bs (q + 1) 5 = X := ⟨_, rfl⟩
      rw [hX1] at c1 c2 ⊢
      rw [hX2] at c3 c4 ⊢
      clear hX1 hX2 hq4 hq5 hw4 hw5 hD hr hr4
      go_wp2_with fail
      refine (pick_any _ bs (q + 1 + 1) _ _ (hr5.alloc _) (by omega) (by omega)).mono ?_
      rintro e w6 ⟨rfl, hr6, hw6⟩
      have hq6 := wr_cells hw6
      have hD6 := (hD5.alloc _).step hw6 hr6 (q' := q + 1 + 1 + 1) (by omega)
      obtain ⟨j2, hj2⟩ : ∃ j : Nat, pickV bs (q + 1 + 1) 3 = j := ⟨(pickV bs (q + 1 + 1) 3).toNat, by omega⟩
      have hj3 : j2 < 3 := by omega
      rw [hj2]
      obtain ⟨X, hX, hXa, hXb⟩ : ∃ X : Int, (#[.int .i64 0, .int .i64 X1, .int .i64 X2] : Array Value)[j2]? = some (.int .i64 X) ∧ -1 ≤ X ∧ X ≤ 256 := by
        rcases (show j2 = 0 ∨ j2 = 1 ∨ j2 = 2 by omega) with rfl | rfl | rfl
        · exact ⟨0, rfl, by omega, by omega⟩
        · exact ⟨X1, rfl, by omega, by omega⟩
        · exact ⟨X2, rfl, by omega, by omega⟩
      have hcX := (lit_cell hw6 hlt5 j2).trans hX
      obtain ⟨xs, ho6, hl6, hx6⟩ := hD6.own
      have hz6 := hD6.size
      have hl6b : xs.length ≤ 32 := by omega
      have HL6 := Lib.hid hl6
      clear hl6
      have hne5 : ¬ w5.heap.size = a := by omega
      clear hj2 hX hq6 hw6 hD5 hr5 c1 c2 c3 c4 c5 c6
      go_wp2_with (at_builtin; refine wpList_app1 _ rfl _ _ 23 3 rfl _ 1 8 [.int .i64 X] (.int .i64 0) Try.underlying23 infoInt rfl (by decide) rfl (by intro u hu; simp at hu; subst hu; rfl) _ _ _ ho6 rfl rfl (by omega) (by omega) (by omega) ?_)
      intro v' w7 ho7 hw7 _
      have hrz := hD6.rz
      have hbs := hD6.base
      have hr7 := hr6.wr hw7 (fun k hk => by have := own_ge ho6 k hk; omega)
      have ho8 := own_snoc ho7
      have hW7 := wr_own hD6.wr hw7 (own_ge ho6)
      have hD7 : MemSt w w.heap.size a bs (p + 2 + 3 * ((K : Int) - ((gk - 1 : Nat) : Int))) (K - (gk - 1)) w7 v' :=
        ⟨⟨_, hr7, by omega⟩, ⟨xs ++ [X], ho8, by have := HL6.out; simp; omega, all_snoc hx6 ⟨hXa, hXb⟩⟩, hW7, Nat.le_trans hz6 hw7.size, hbs, hrz⟩
      clear ho6 ho7 ho8 hx6 hw7 hW7 hr7 hr6 hD6 hcX hq
      go_wp2
      go_roundg (gk - 1)
      case measure => omega
      case rel => exact ⟨by omega, by go_num, hD7⟩
    · obtain rfl : gk = 0 := by omega
      go_wp2_with fail
      refine (odd_any _ bs (q) _ _ hr (by omega) (by omega) (by omega)).mono ?_
      rintro e w4 ⟨rfl, ⟨q4, hr4, hp4a, hp4b, _⟩, hw4⟩
      have hD4 := hD.step hw4 hr4 (q' := p + 105) (by omega)
      clear hD hr hw4 hlt hg
      cases hodd : oddV bs q n
      · obtain ⟨xs, ho, hl, hx⟩ := hD4.own
        have hL : Left w a bs (p + 110) w4 := ⟨q4, hr4, by omega, hD4.wr⟩
        have hl2 : xs.length ≤ 33 := by omega
        clear hD4
        go_wp2
        go_ret
        exact ⟨_, rfl, ⟨xs, ho, hl2, hx⟩, hL⟩
      · obtain ⟨c1, c2⟩ := pickV_bd bs q4 3
        go_wp2_with fail
        refine (pick_any _ bs (q4) _ _ hr4 (by omega) (by omega)).mono ?_
        rintro e w5 ⟨rfl, hr5, hw5⟩
        have hq5 := wr_cells hw5
        have hD5 := hD4.step hw5 hr5 (q' := p + 106) (by omega)
        have hz5 := hD5.size
        have halt5 := hr5.lt
        clear hw5 hD4 hr4 hq5
        rcases (show pickV bs q4 3 = 0 ∨ pickV bs q4 3 = 1 ∨ pickV bs q4 3 = 2 by omega) with hv | hv | hv
        · rw [hv]
          have hoN : (w5.alloc (.cells #[] 3)).ownsRow w.heap.size 3 1 (.slice (some ⟨w5.heap.size, 0, none⟩) 0 0) ([] : List Int).length (([] : List Int).map (Value.int .i64)) := World.ownsRow_lit w5 #[] 0 hz5 (by decide) rfl
          have hL : Left w a bs (p + 110) (w5.alloc (.cells #[] 3)) := ⟨q4 + 1, hr5.alloc _, by omega, wr_alloc hD5.wr _⟩
          clear hD5
          go_wp2
          go_ret
          exact ⟨_, rfl, ⟨[], hoN, by simp, by simp⟩, hL⟩
        · rw [hv]
          obtain ⟨c3, c4⟩ := pickV_bd bs (q4 + 1) 2
          go_wp2_with fail
          refine (pick_any _ bs (q4 + 1) _ _ (hr5.alloc _) (by omega) (by omega)).mono ?_
          rintro e w6 ⟨rfl, hr6, hw6⟩
          have hq6 := wr_cells hw6
          have hD6 := (hD5.alloc _).step hw6 hr6 (q' := p + 107) (by omega)
          obtain ⟨j3, hj3⟩ : ∃ j : Nat, pickV bs (q4 + 1) 2 = j := ⟨(pickV bs (q4 + 1) 2).toNat, by omega⟩
          have hj2 : j3 < 2 := by omega
          rw [hj3]
          obtain ⟨X, hX, hXa, hXb⟩ : ∃ X : Int, (#[.int .i64 (-1), .int .i64 256] : Array Value)[j3]? = some (.int .i64 X) ∧ -1 ≤ X ∧ X ≤ 256 := by
            rcases (show j3 = 0 ∨ j3 = 1 by omega) with rfl | rfl
            · exact ⟨-1, rfl, by omega, by omega⟩
            · exact ⟨256, rfl, by omega, by omega⟩
          have hcX := (lit_cell hw6 halt5 j3).trans hX
          obtain ⟨xs, ho6, hl6, hx6⟩ := hD6.own
          have hW6 := hD6.wr
          have hz6 := hD6.size
          have hrz := hD6.rz
          rcases ho6.2 with ⟨_, hz⟩ | ⟨g, cap, cur, hv1, hbg, hgg, hnc, hcm1, _⟩
          · omega
          have hge := own_ge ho6
          subst hv1
          have hcm2 : cap ≤ 9223372036854775807 := by unfold maxLen at hcm1; omega
          have hx1 : 1 ≤ xs.length := by omega
          obtain ⟨y, hy⟩ := get_lt (show 0 < xs.length by omega)
          have hold : w6.cell? ⟨g, 0, none⟩ = some (.int .i64 y) := by rw [ho6.cellAt 0 (by omega)]; simp [hy]
          have hfr := ho6.frozenAt 0
          have hst := ho6.stored 0 (.int .i64 X)
          have hst1 : (w6.setCell ⟨g, 0, none⟩ (.int .i64 X)).ownsRow w.heap.size 3 1 (.slice (some ⟨g, 0, none⟩) xs.length cap) (xs.set 0 X).length ((xs.set 0 X).map (Value.int .i64)) := by rw [List.length_set, List.map_set]; exact hst.1
          have hxs : ∀ x ∈ xs.set 0 X, -1 ≤ x ∧ x ≤ 256 := by
            intro x hx
            rcases List.mem_or_eq_of_mem_set hx with hx | rfl
            · exact hx6 x hx
            · exact ⟨hXa, hXb⟩
          have hlen : (xs.set 0 X).length ≤ 33 := by rw [List.length_set]; omega
          have hr7 := hr6.wr (Wr.of_grown hst.2) (fun k hk => by cases hk; omega)
          have hL : Left w a bs (p + 110) (w6.setCell ⟨g, 0, none⟩ (.int .i64 X)) := ⟨_, hr7, by omega, wr_own hW6 (Wr.of_grown hst.2) (fun k hk => by cases hk; exact hbg)⟩
          have HST := Lib.hid hst1
          clear hj3 hX hq6 hw6 hD5 hD6 hr5 hr6 hr7 hst hst1 hy hgg ho6 hx6 hl6 c1 c2 c3 c4 hge
          go_wp2
          go_ret
          exact ⟨_, rfl, ⟨_, HST.out, hlen, hxs⟩, hL⟩
        · rw [hv]
          obtain ⟨i0, hi, hz0, hz1, hz2⟩ := info_parts infoInt
          have hz3 : i0.bytes * 33 ≤ 281474976710656 := by rw [hz2]; decide
          have HZ := Lib.hid hz2
          clear hz2
          have hW5 := hD5.wr
          clear hD5
          go_wp2_with (at_make; refine wpList_make_full _ rfl _ _ 23 rfl w.heap.size 3 i0 (.int .i64 0) 1 Try.underlying23 hi hz0 hz1 _ _ _ _ 33 rfl rfl rfl rfl hz3 (by decide) hz5 ?_)
          clear hz3 HZ hz0 hz1 hi
          intro w6 ho6 hg6
          have ho7 : w6.ownsRow w.heap.size 3 1 (.slice (some ⟨w5.heap.size, 0, none⟩) 33 33) (List.replicate 33 (0 : Int)).length ((List.replicate 33 (0 : Int)).map (Value.int .i64)) := by
            have e : (List.replicate 33 (0 : Int)).map (Value.int .i64) = (madeCells (Value.int .i64 0).cells (33 * 1)).toList := by rw [show (Value.int .i64 0).cells = #[.int .i64 0] from rfl, toList_madeCells_one]; rfl
            rw [e]; exact ho6
          have hr7 := hr5.wr (Wr.of_grown hg6) (fun k hk => by cases hk)
          have hL : Left w a bs (p + 110) w6 := ⟨_, hr7, by omega, hW5.trans ((Wr.of_grown hg6).weak (fun k hk => by cases hk))⟩
          clear ho6 hg6
          go_wp2
          go_ret
          exact ⟨_, rfl, ⟨_, ho7, by simp, by intro x hx; rw [List.eq_of_mem_replicate hx]; omega⟩, hL⟩
end Go.Proofs.Ythhdffgfldphlaa
