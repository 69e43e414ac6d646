/- YtidmjeehcmpjnaaDoorDrawK: the draw of an instruction that may be invalid: it returns an instruction with numbers within bounds and leaves old memory as it was. Conditions: a reader's place is at most 900000. -/
import Derived.Test.YtidmjeehcmpjnaaDoorDrawC
namespace Go.Proofs.YtidmjeehcmpjnaaDoor
open Go.ChangeShapes Go.WideShapes Go.ChangeAt Go.RowKit
set_option linter.unusedVariables false

theorem c4_at {w : World} {b j : Nat} {x y z u : Int} (h : C4 w b x y z u) (hj : j < 4) (v : Int) : C4 (w.setCell ⟨b, j, none⟩ (.int .i64 v)) b (if j = 0 then v else x) (if j = 1 then v else y) (if j = 2 then v else z) (if j = 3 then v else u) := by
  obtain ⟨h0, h1, h2, h3, h4, h5, h6, h7, h8⟩ := h
  have o := fun (i : Nat) (hi : i ≠ j) => World.cell?_setCell_other w ⟨b, j, none⟩ ⟨b, i, none⟩ (.int .i64 v) (by intro e; exact hi (congrArg Addr.off e).symm)
  rcases (show j = 0 ∨ j = 1 ∨ j = 2 ∨ j = 3 by omega) with rfl | rfl | rfl | rfl
  · exact ⟨World.cell?_setCell_same _ _ _ h0, (o 1 (by decide)).trans h1, (o 2 (by decide)).trans h2, (o 3 (by decide)).trans h3, by simpa using h4, by simpa using h5, by simpa using h6, by simpa using h7, by simpa using h8⟩
  · exact ⟨(o 0 (by decide)).trans h0, World.cell?_setCell_same _ _ _ h1, (o 2 (by decide)).trans h2, (o 3 (by decide)).trans h3, by simpa using h4, by simpa using h5, by simpa using h6, by simpa using h7, by simpa using h8⟩
  · exact ⟨(o 0 (by decide)).trans h0, (o 1 (by decide)).trans h1, World.cell?_setCell_same _ _ _ h2, (o 3 (by decide)).trans h3, by simpa using h4, by simpa using h5, by simpa using h6, by simpa using h7, by simpa using h8⟩
  · exact ⟨(o 0 (by decide)).trans h0, (o 1 (by decide)).trans h1, (o 2 (by decide)).trans h2, World.cell?_setCell_same _ _ _ h3, by simpa using h4, by simpa using h5, by simpa using h6, by simpa using h7, by simpa using h8⟩
theorem c4_set4 {w : World} {b : Nat} {x y z u : Int} (h : C4 w b x y z u) (x' y' z' u' : Int) : C4 ((((w.setCell ⟨b, 0, none⟩ (.int .i64 x')).setCell ⟨b, 1, none⟩ (.int .i64 y')).setCell ⟨b, 2, none⟩ (.int .i64 z')).setCell ⟨b, 3, none⟩ (.int .i64 u')) b x' y' z' u' := by
  have h1 := c4_at (c4_at (c4_at (c4_at h (j := 0) (by decide) x') (j := 1) (by decide) y') (j := 2) (by decide) z') (j := 3) (by decide) u'
  simpa using h1
theorem c4_new (w : World) (x y z u : Int) : C4 (w.alloc (.cells #[.int .i64 x, .int .i64 y, .int .i64 z, .int .i64 u] 42)) w.heap.size x y z u := by
  have h := heap_alloc_new w (.cells #[.int .i64 x, .int .i64 y, .int .i64 z, .int .i64 u] 42)
  exact ⟨cell_of_row _ _ 0 _ _ _ h, cell_of_row _ _ 1 _ _ _ h, cell_of_row _ _ 2 _ _ _ h, cell_of_row _ _ 3 _ _ _ h, frozen_of_row _ _ 0 _ _ h, frozen_of_row _ _ 1 _ _ h, frozen_of_row _ _ 2 _ _ h, frozen_of_row _ _ 3 _ _ h, by simp⟩
theorem left_set4 {w wz : World} {a g : Nat} {bs : List Int} {q : Int} (h : Left w a bs q wz) (hg : w.heap.size ≤ g) (ha : a < w.heap.size) (x y z u : Value) : Left w a bs q ((((wz.setCell ⟨g, 0, none⟩ x).setCell ⟨g, 1, none⟩ y).setCell ⟨g, 2, none⟩ z).setCell ⟨g, 3, none⟩ u) :=
  left_set (left_set (left_set (left_set h hg ha _ _) hg ha _ _) hg ha _ _) hg ha _ _
theorem c4_other4 {w : World} {b g : Nat} {x y z u : Int} (h : C4 w b x y z u) (hn : ¬ b = g) (v0 v1 v2 v3 : Value) : C4 ((((w.setCell ⟨g, 0, none⟩ v0).setCell ⟨g, 1, none⟩ v1).setCell ⟨g, 2, none⟩ v2).setCell ⟨g, 3, none⟩ v3) b x y z u :=
  c4_other (c4_other (c4_other (c4_other h hn _ _) hn _ _) hn _ _) hn _ _
set_option maxRecDepth 100000 in
set_option maxHeartbeats 8000000 in
theorem l20Code_any (a : Nat) (bs : List Int) (p n : Int) (w : World) (h : Rdr w a bs p) (hp : p ≤ 900000) (hn0 : 0 ≤ n) (hn : n ≤ 1000000) : Calls Tryd.prog 59 #[.pointer (some ⟨a, 0, none⟩), .int .i64 n] w (CodeD w a bs (p + 14)) := by
  have hp0 := h.nn
  have halt := h.lt
  have hW0 : Wr w (w.alloc (.cells #[.int .i64 0, .int .i64 0, .int .i64 0, .int .i64 0] 42)) (fun b => b = a) := wr_alloc (Wr.refl _ _) _
  have hr0 := h.alloc (.cells #[.int .i64 0, .int .i64 0, .int .i64 0, .int .i64 0] 42)
  have hs0 := c4_new w 0 0 0 0
  have n0 : ¬ w.heap.size = a := by omega
  go_enter Tryd.func59, Tryd.ntmps59
  go_wp2_with fail
  refine (l20Plain_any a bs p _ hr0 (by omega)).mono ?_
  rintro e w1 ⟨c, rfl, hci, p1, hr1, hp1, hw1⟩
  have hpp1 := hr1.nn
  have hs1 := hs0.wr hw1 n0
  have hW1 := hW0.trans hw1
  have hc1 := c4_new w1 c.op c.a c.b c.c
  have hlt1 := hr1.lt
  have hr1a := hr1.alloc (.cells #[.int .i64 c.op, .int .i64 c.a, .int .i64 c.b, .int .i64 c.c] 42)
  have hW1a := wr_alloc hW1 (.cells #[.int .i64 c.op, .int .i64 c.a, .int .i64 c.b, .int .i64 c.c] 42)
  have hs1a := hs1.alloc (.cells #[.int .i64 c.op, .int .i64 c.a, .int .i64 c.b, .int .i64 c.c] 42)
  have hz1 := hs1.lt
  have hca : ¬ w1.heap.size = a := by omega
  have hsc : ¬ w.heap.size = w1.heap.size := by omega
  have hcb : w.heap.size ≤ w1.heap.size := by omega
  obtain ⟨b1, b2⟩ := pickV_bd bs p1 5
  obtain ⟨V, hV⟩ : ∃ V, pickV bs p1 5 = V := ⟨_, rfl⟩
  have hV0 : 0 ≤ V := by omega
  have hV4 : V ≤ 4 := by omega
  have HV := Lib.hid hV
  have HCI := Lib.hid hci
  clear b1 b2 hV hs0 hs1 hr0 hW0 hw1 hW1 hr1 hci
  go_wp2_with fail
  refine (pick_any _ bs p1 5 _ hr1a (by omega) (by omega)).mono ?_
  rintro e w2 ⟨rfl, hr2, hw2⟩
  rw [HV.out]
  have hc2 := hc1.wr hw2 hca
  have hs2 := hs1a.wr hw2 n0
  have hW2 := hW1a.trans hw2
  clear hc1 hs1a hW1a hr1a hw2
  go_upto_block 0 with fail
  go_cut [] from 6 (fun wr => ∃ c : Cd, cdIn c ∧ C4 wr w1.heap.size c.op c.a c.b c.c ∧ C4 wr w.heap.size 0 0 0 0 ∧ Left w a bs (p + 9) wr)
  case first =>
    by_cases hv0 : V = 0
    · subst hv0
      obtain ⟨b1, b2⟩ := pickV_bd bs (p1 + 1) 4
      obtain ⟨A, hA⟩ : ∃ X, pickV bs (p1 + 1) 4 = X := ⟨_, rfl⟩
      have hA0 : 0 ≤ A := by omega
      have hA3 : A ≤ 3 := by omega
      have HA := Lib.hid hA
      clear b1 b2 hA
      go_wp2_with fail
      refine (pick_any _ bs (p1 + 1) 4 _ hr2 (by omega) (by omega)).mono ?_
      rintro e w3 ⟨rfl, hr3, hw3⟩
      rw [HA.out]
      have hc3 := hc2.wr hw3 hca
      have hs3 := hs2.wr hw3 n0
      have hL : Left w a bs (p + 9) w3 := ⟨_, hr3, by omega, hW2.trans hw3⟩
      have HC3 := Lib.hid hc3
      have HS3 := Lib.hid hs3
      have HL := Lib.hid hL
      clear hc2 hs2 hW2 hr2 hr3 hw3 hs3 hL
      obtain ⟨c0, c1, c2, c3, f0, f1, f2, f3, f4⟩ := hc3
      go_wp2_with fail
      go_meet
      case rel => exact ⟨⟨11, A, 0, 0⟩, ⟨by simp only; omega, by simp only; omega, by simp only; omega, by simp only; omega⟩, c4_set4 HC3.out _ _ _ _, c4_other4 HS3.out hsc _ _ _ _, left_set4 HL.out hcb halt _ _ _ _⟩
    · have ho0 : (V == 0) = false := beq_eq_false_iff_ne.2 hv0
      by_cases hv1 : V = 1
      · subst hv1
        obtain ⟨b1, b2⟩ := pickV_bd bs (p1 + 1) 4
        obtain ⟨b3, b4⟩ := pickV_bd bs (p1 + 1 + 1) 4
        obtain ⟨b5, b6⟩ := pickV_bd bs (p1 + 1 + 1 + 1) 4
        obtain ⟨A, hA⟩ : ∃ X, pickV bs (p1 + 1) 4 = X := ⟨_, rfl⟩
        obtain ⟨B, hB⟩ : ∃ X, pickV bs (p1 + 1 + 1) 4 = X := ⟨_, rfl⟩
        obtain ⟨j, hj⟩ : ∃ j : Nat, pickV bs (p1 + 1 + 1 + 1) 4 = j := ⟨(pickV bs (p1 + 1 + 1 + 1) 4).toNat, by omega⟩
        have hA0 : 0 ≤ A := by omega
        have hA3 : A ≤ 3 := by omega
        have hB0 : 0 ≤ B := by omega
        have hB3 : B ≤ 3 := by omega
        have hj4 : j < 4 := by omega
        have HA := Lib.hid hA
        have HB := Lib.hid hB
        have HJ := Lib.hid hj
        clear b1 b2 hA b3 b4 hB b5 b6 hj hv0 ho0
        go_wp2_with fail
        refine (pick_any _ bs (p1 + 1) 4 _ hr2 (by omega) (by omega)).mono ?_
        rintro e w3 ⟨rfl, hr3, hw3⟩
        rw [HA.out]
        go_wp2_with fail
        refine (pick_any _ bs (p1 + 1 + 1) 4 _ hr3 (by omega) (by omega)).mono ?_
        rintro e w4 ⟨rfl, hr4, hw4⟩
        rw [HB.out]
        have hlt4 := hr4.lt
        have hne4 : ¬ w4.heap.size = a := by omega
        go_wp2_with fail
        refine (pick_any _ bs (p1 + 1 + 1 + 1) 4 _ (hr4.alloc _) (by omega) (by omega)).mono ?_
        rintro e w5 ⟨rfl, hr5, hw5⟩
        rw [HJ.out]
        have lc := fun i => lit_cell2 hw5 (heap_alloc_new w4 _) hne4 i
        have hc5 := (((hc2.wr hw3 hca).wr hw4 hca).alloc _).wr hw5 hca
        have hs5 := (((hs2.wr hw3 n0).wr hw4 n0).alloc _).wr hw5 n0
        have hL : Left w a bs (p + 9) w5 := ⟨_, hr5, by omega, (wr_alloc ((hW2.trans hw3).trans hw4) _).trans hw5⟩
        have HC5 := Lib.hid hc5
        have HS5 := Lib.hid hs5
        have HL := Lib.hid hL
        clear hc2 hs2 hW2 hr2 hr3 hw3 hr4 hw4 hr5 hw5 hs5 hL
        obtain ⟨c0, c1, c2, c3, f0, f1, f2, f3, f4⟩ := hc5
        rcases (show j = 0 ∨ j = 1 ∨ j = 2 ∨ j = 3 by omega) with rfl | rfl | rfl | rfl
        · have l0 := lc 0
          have l1 := lc 1
          have l2 := lc 2
          have l3 := lc 3
          simp only [List.getElem?_toArray, List.getElem?_cons_zero, List.getElem?_cons_succ] at l0 l1 l2 l3
          clear lc
          go_wp2_with fail
          go_meet
          case rel => exact ⟨⟨13, A, 1 + B, 0⟩, ⟨by simp only; omega, by simp only; omega, by simp only; omega, by simp only; omega⟩, c4_set4 HC5.out _ _ _ _, c4_other4 HS5.out hsc _ _ _ _, left_set4 HL.out hcb halt _ _ _ _⟩
        · have l0 := lc 4
          have l1 := lc 5
          have l2 := lc 6
          have l3 := lc 7
          simp only [List.getElem?_toArray, List.getElem?_cons_zero, List.getElem?_cons_succ] at l0 l1 l2 l3
          clear lc
          go_wp2_with fail
          go_meet
          case rel => exact ⟨⟨10, 0, 0, 0⟩, ⟨by simp only; omega, by simp only; omega, by simp only; omega, by simp only; omega⟩, c4_set4 HC5.out _ _ _ _, c4_other4 HS5.out hsc _ _ _ _, left_set4 HL.out hcb halt _ _ _ _⟩
        · have l0 := lc 8
          have l1 := lc 9
          have l2 := lc 10
          have l3 := lc 11
          simp only [List.getElem?_toArray, List.getElem?_cons_zero, List.getElem?_cons_succ] at l0 l1 l2 l3
          clear lc
          go_wp2_with fail
          go_meet
          case rel => exact ⟨⟨12, 0, 0, 0⟩, ⟨by simp only; omega, by simp only; omega, by simp only; omega, by simp only; omega⟩, c4_set4 HC5.out _ _ _ _, c4_other4 HS5.out hsc _ _ _ _, left_set4 HL.out hcb halt _ _ _ _⟩
        · have l0 := lc 12
          have l1 := lc 13
          have l2 := lc 14
          have l3 := lc 15
          simp only [List.getElem?_toArray, List.getElem?_cons_zero, List.getElem?_cons_succ] at l0 l1 l2 l3
          clear lc
          go_wp2_with fail
          go_meet
          case rel => exact ⟨⟨14, 0, 0, 0⟩, ⟨by simp only; omega, by simp only; omega, by simp only; omega, by simp only; omega⟩, c4_set4 HC5.out _ _ _ _, c4_other4 HS5.out hsc _ _ _ _, left_set4 HL.out hcb halt _ _ _ _⟩
      · have ho1 : (V == 1) = false := beq_eq_false_iff_ne.2 hv1
        have hL : Left w a bs (p + 9) w2 := ⟨_, hr2, by omega, hW2⟩
        have HCC := Lib.hid hc2
        have HSS := Lib.hid hs2
        have HL := Lib.hid hL
        clear hc2 hs2 hL hW2 hr2 hv0 hv1
        go_wp2_with fail
        go_meet
        case rel => exact ⟨c, HCI.out, HCC.out, HSS.out, HL.out⟩
  case rest =>
    obtain ⟨d, hdi, hc3, hs3, q, hr3, hq3, hW3⟩ := hcut
    have hqq := hr3.nn
    clear hc2 hs2 hW2 hr2
    go_wp2_with fail
    refine (odd_any _ bs q _ _ hr3 (by omega) (by omega) (by omega)).mono ?_
    rintro e w4 ⟨rfl, ⟨q4, hr4, hq4a, hq4b, _⟩, hw4⟩
    have hc4 := hc3.wr hw4 hca
    have hs4 := hs3.wr hw4 n0
    have hW4 := hW3.trans hw4
    clear hc3 hs3 hW3 hr3 hw4
    cases hodd : oddV bs q n
    · have hL : Left w a bs (p + 14) w4 := ⟨_, hr4, by omega, hW4⟩
      obtain ⟨c0, c1, c2, c3, f0, f1, f2, f3, f4⟩ := hc4
      obtain ⟨s0, s1, s2, s3, t0, t1, t2, t3, t4⟩ := hs4
      clear hr4 hW4
      go_wp2
      refine bodyPost_ret (v := .agg #[.int .i64 d.op, .int .i64 d.a, .int .i64 d.b, .int .i64 d.c]) (by simp [results, Tryd.results59, go_sem, s0, s1, s2, s3]) rfl ⟨d, rfl, hdi, left_set4 hL (Nat.le_refl _) halt _ _ _ _⟩
    · obtain ⟨b1, b2⟩ := pickV_bd bs q4 4
      obtain ⟨m, hm⟩ : ∃ j : Nat, pickV bs q4 4 = j := ⟨(pickV bs q4 4).toNat, by omega⟩
      have hm4 : m < 4 := by omega
      have HM := Lib.hid hm
      clear b1 b2 hm
      go_wp2_with fail
      refine (pick_any _ bs q4 4 _ hr4 (by omega) (by omega)).mono ?_
      rintro e w5 ⟨rfl, hr5, hw5⟩
      rw [HM.out]
      have hlt5 := hr5.lt
      have hne5 : ¬ w5.heap.size = a := by omega
      have hc5 := hc4.wr hw5 hca
      have hs5 := hs4.wr hw5 n0
      have hW5 := hW4.trans hw5
      clear hc4 hs4 hW4 hr4 hw5
      rcases (show m = 0 ∨ m = 1 ∨ m = 2 ∨ m = 3 by omega) with rfl | rfl | rfl | rfl
      · obtain ⟨b3, b4⟩ := pickV_bd bs (q4 + 1) 2
        obtain ⟨j, hj⟩ : ∃ j : Nat, pickV bs (q4 + 1) 2 = j := ⟨(pickV bs (q4 + 1) 2).toNat, by omega⟩
        have hjn : j < 2 := by omega
        have HJ := Lib.hid hj
        obtain ⟨X, hX, hXa, hXb⟩ : ∃ X : Int, (#[.int .i64 0, .int .i64 15] : Array Value)[j]? = some (.int .i64 X) ∧ -1 ≤ X ∧ X ≤ 256 := by
          rcases (show j = 0 ∨ j = 1 by omega) with rfl | rfl
          · exact ⟨0, rfl, by omega, by omega⟩
          · exact ⟨15, rfl, by omega, by omega⟩
        clear b3 b4 hj
        go_wp2_with fail
        refine (pick_any _ bs (q4 + 1) 2 _ (hr5.alloc _) (by omega) (by omega)).mono ?_
        rintro e w6 ⟨rfl, hr6, hw6⟩
        rw [HJ.out]
        have lc := (lit_cell2 hw6 (heap_alloc_new w5 _) hne5 j).trans hX
        have hc6 := (hc5.alloc _).wr hw6 hca
        have hs6 := (hs5.alloc _).wr hw6 n0
        have hL : Left w a bs (p + 14) w6 := ⟨_, hr6, by omega, (wr_alloc hW5 _).trans hw6⟩
        clear hX hc5 hs5 hW5 hr5 hr6 hw6
        obtain ⟨c0, c1, c2, c3, f0, f1, f2, f3, f4⟩ := hc6
        obtain ⟨s0, s1, s2, s3, t0, t1, t2, t3, t4⟩ := hs6
        go_wp2
        refine bodyPost_ret (v := .agg #[.int .i64 X, .int .i64 d.a, .int .i64 d.b, .int .i64 d.c]) (by simp [results, Tryd.results59, go_sem, s0, s1, s2, s3]) rfl ⟨⟨X, d.a, d.b, d.c⟩, rfl, ⟨⟨hXa, hXb⟩, hdi.2.1, hdi.2.2.1, hdi.2.2.2⟩, left_set4 (left_set hL hcb halt _ _) (Nat.le_refl _) halt _ _ _ _⟩
      · obtain ⟨b3, b4⟩ := pickV_bd bs (q4 + 1) 2
        obtain ⟨j, hj⟩ : ∃ j : Nat, pickV bs (q4 + 1) 2 = j := ⟨(pickV bs (q4 + 1) 2).toNat, by omega⟩
        have hjn : j < 2 := by omega
        have HJ := Lib.hid hj
        obtain ⟨X, hX, hXa, hXb⟩ : ∃ X : Int, (#[.int .i64 (-1), .int .i64 4] : Array Value)[j]? = some (.int .i64 X) ∧ -1 ≤ X ∧ X ≤ 256 := by
          rcases (show j = 0 ∨ j = 1 by omega) with rfl | rfl
          · exact ⟨-1, rfl, by omega, by omega⟩
          · exact ⟨4, rfl, by omega, by omega⟩
        clear b3 b4 hj
        go_wp2_with fail
        refine (pick_any _ bs (q4 + 1) 2 _ (hr5.alloc _) (by omega) (by omega)).mono ?_
        rintro e w6 ⟨rfl, hr6, hw6⟩
        rw [HJ.out]
        have lc := (lit_cell2 hw6 (heap_alloc_new w5 _) hne5 j).trans hX
        have hc6 := (hc5.alloc _).wr hw6 hca
        have hs6 := (hs5.alloc _).wr hw6 n0
        have hL : Left w a bs (p + 14) w6 := ⟨_, hr6, by omega, (wr_alloc hW5 _).trans hw6⟩
        clear hX hc5 hs5 hW5 hr5 hr6 hw6
        obtain ⟨c0, c1, c2, c3, f0, f1, f2, f3, f4⟩ := hc6
        obtain ⟨s0, s1, s2, s3, t0, t1, t2, t3, t4⟩ := hs6
        go_wp2
        refine bodyPost_ret (v := .agg #[.int .i64 d.op, .int .i64 X, .int .i64 d.b, .int .i64 d.c]) (by simp [results, Tryd.results59, go_sem, s0, s1, s2, s3]) rfl ⟨⟨d.op, X, d.b, d.c⟩, rfl, ⟨hdi.1, ⟨hXa, hXb⟩, hdi.2.2.1, hdi.2.2.2⟩, left_set4 (left_set hL hcb halt _ _) (Nat.le_refl _) halt _ _ _ _⟩
      · obtain ⟨b3, b4⟩ := pickV_bd bs (q4 + 1) 2
        obtain ⟨j, hj⟩ : ∃ j : Nat, pickV bs (q4 + 1) 2 = j := ⟨(pickV bs (q4 + 1) 2).toNat, by omega⟩
        have hjn : j < 2 := by omega
        have HJ := Lib.hid hj
        obtain ⟨X, hX, hXa, hXb⟩ : ∃ X : Int, (#[.int .i64 (-1), .int .i64 256] : Array Value)[j]? = some (.int .i64 X) ∧ -1 ≤ X ∧ X ≤ 256 := by
          rcases (show j = 0 ∨ j = 1 by omega) with rfl | rfl
          · exact ⟨-1, rfl, by omega, by omega⟩
          · exact ⟨256, rfl, by omega, by omega⟩
        clear b3 b4 hj
        go_wp2_with fail
        refine (pick_any _ bs (q4 + 1) 2 _ (hr5.alloc _) (by omega) (by omega)).mono ?_
        rintro e w6 ⟨rfl, hr6, hw6⟩
        rw [HJ.out]
        have lc := (lit_cell2 hw6 (heap_alloc_new w5 _) hne5 j).trans hX
        have hc6 := (hc5.alloc _).wr hw6 hca
        have hs6 := (hs5.alloc _).wr hw6 n0
        have hL : Left w a bs (p + 14) w6 := ⟨_, hr6, by omega, (wr_alloc hW5 _).trans hw6⟩
        clear hX hc5 hs5 hW5 hr5 hr6 hw6
        obtain ⟨c0, c1, c2, c3, f0, f1, f2, f3, f4⟩ := hc6
        obtain ⟨s0, s1, s2, s3, t0, t1, t2, t3, t4⟩ := hs6
        go_wp2
        refine bodyPost_ret (v := .agg #[.int .i64 d.op, .int .i64 d.a, .int .i64 X, .int .i64 d.c]) (by simp [results, Tryd.results59, go_sem, s0, s1, s2, s3]) rfl ⟨⟨d.op, d.a, X, d.c⟩, rfl, ⟨hdi.1, hdi.2.1, ⟨hXa, hXb⟩, hdi.2.2.2⟩, left_set4 (left_set hL hcb halt _ _) (Nat.le_refl _) halt _ _ _ _⟩
      · obtain ⟨b3, b4⟩ := pickV_bd bs (q4 + 1) 3
        obtain ⟨j, hj⟩ : ∃ j : Nat, pickV bs (q4 + 1) 3 = j := ⟨(pickV bs (q4 + 1) 3).toNat, by omega⟩
        have hjn : j < 3 := by omega
        have HJ := Lib.hid hj
        obtain ⟨X, hX, hXa, hXb⟩ : ∃ X : Int, (#[.int .i64 (-1), .int .i64 4, .int .i64 1] : Array Value)[j]? = some (.int .i64 X) ∧ -1 ≤ X ∧ X ≤ 256 := by
          rcases (show j = 0 ∨ j = 1 ∨ j = 2 by omega) with rfl | rfl | rfl
          · exact ⟨-1, rfl, by omega, by omega⟩
          · exact ⟨4, rfl, by omega, by omega⟩
          · exact ⟨1, rfl, by omega, by omega⟩
        clear b3 b4 hj
        go_wp2_with fail
        refine (pick_any _ bs (q4 + 1) 3 _ (hr5.alloc _) (by omega) (by omega)).mono ?_
        rintro e w6 ⟨rfl, hr6, hw6⟩
        rw [HJ.out]
        have lc := (lit_cell2 hw6 (heap_alloc_new w5 _) hne5 j).trans hX
        have hc6 := (hc5.alloc _).wr hw6 hca
        have hs6 := (hs5.alloc _).wr hw6 n0
        have hL : Left w a bs (p + 14) w6 := ⟨_, hr6, by omega, (wr_alloc hW5 _).trans hw6⟩
        clear hX hc5 hs5 hW5 hr5 hr6 hw6
        obtain ⟨c0, c1, c2, c3, f0, f1, f2, f3, f4⟩ := hc6
        obtain ⟨s0, s1, s2, s3, t0, t1, t2, t3, t4⟩ := hs6
        go_wp2
        refine bodyPost_ret (v := .agg #[.int .i64 d.op, .int .i64 d.a, .int .i64 d.b, .int .i64 X]) (by simp [results, Tryd.results59, go_sem, s0, s1, s2, s3]) rfl ⟨⟨d.op, d.a, d.b, X⟩, rfl, ⟨hdi.1, hdi.2.1, hdi.2.2.1, ⟨hXa, hXb⟩⟩, left_set4 (left_set hL hcb halt _ _) (Nat.le_refl _) halt _ _ _ _⟩
end Go.Proofs.YtidmjeehcmpjnaaDoor
