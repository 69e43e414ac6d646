/- YtgmaffoljdmkpaaDrawW: the draw of a list of lanes and a number of lanes: it returns numbers within bounds in new memory and leaves old memory as it was. No conditions. -/
import Derived.Test.YtgmaffoljdmkpaaDrawV
namespace Go.Proofs.Ytgmaffoljdmkpaa
open Go.ChangeShapes Go.WideShapes Go.ChangeAt Go.RowKit

def MaskOfD (w : World) (e : Ending) (w' : World) : Prop :=
  ∃ (v : Value) (xs : List Int) (l : Int), e = .returned (.tuple #[v, .int .i64 l]) ∧ w'.ownsRow w.heap.size 3 1 v xs.length (xs.map (Value.int .i64)) ∧ xs.length ≤ 8 ∧ (∀ x ∈ xs, -1 ≤ x ∧ x ≤ 9) ∧ 0 ≤ l ∧ l ≤ 9 ∧ Below w.heap.size w w'
/-- The state while the list is drawn. -/
structure Drawing (w0 : World) (z : Nat) (a : Nat) (bs : List Int) (q : Int) (n : Nat) (w : World) (v : Value) : Prop where
  rd : ∃ p, Rdr w a bs p ∧ p ≤ q
  own : ∃ xs : List Int, w.ownsRow z 3 1 v xs.length (xs.map (Value.int .i64)) ∧ xs.length ≤ n ∧ ∀ x ∈ xs, -1 ≤ x ∧ x ≤ 9
  below : Below w0.heap.size w0 w
  size : z ≤ w.heap.size
  base : w0.heap.size ≤ z
  rz : a < z
  ra : w0.heap.size ≤ a
theorem Drawing.wr {w0 w w' : World} {z a n : Nat} {bs : List Int} {q p : Int} {v : Value} (h : Drawing w0 z a bs q n w v) (hw : Wr w w' (fun b => b = a)) (hr : Rdr w' a bs p) {q' : Int} (hp : p ≤ q') : Drawing w0 z a bs q' n w' v := by
  obtain ⟨xs, ho, h1, h2⟩ := h.own
  have h3 := h.rz
  have h4 := h.size
  have h5 := h.base
  refine ⟨⟨p, hr, hp⟩, ⟨xs, hw.owns ho (fun k hk (hh : k = a) => by have := own_ge ho k hk; omega), h1, h2⟩, Below.wr h.below hw (by omega) (fun k hk => by have := h.ra; omega), Nat.le_trans h4 hw.size, h5, h3, h.ra⟩
theorem Drawing.alloc {w0 w : World} {z a n : Nat} {bs : List Int} {q : Int} {v : Value} (h : Drawing w0 z a bs q n w v) (o : Obj) : Drawing w0 z a bs q n (w.alloc o) v := by
  obtain ⟨p, hr, hp⟩ := h.rd
  exact h.wr (wr_alloc (Wr.refl _ _) o) (hr.alloc o) hp
set_option maxHeartbeats 4000000 in
theorem DrawMaskOf_any (v : Value) (bs0 : List Int) (w : World) (h : RdI .u8 w v bs0) : Calls Try.prog 31 #[v] w (MaskOfD w) := by
  obtain ⟨bs, hbs⟩ : ∃ bs, bs = bs0.take 2000 := ⟨_, rfl⟩
  obtain ⟨b1, b2⟩ := pickV_bd bs 0 8
  obtain ⟨b3, b4⟩ := pickV_bd bs (0 + 1) 7
  go_enter Try.func31, Try.ntmps31
  go_wp2_with fail
  refine (open_any _ bs0 _ h).mono ?_
  rintro e w1 ⟨a, rfl, hr1, ha, hb1⟩
  rw [← hbs] at hr1
  clear hbs h
  go_wp2_with fail
  refine (pick_any _ bs (0) _ _ hr1 (by omega) (by omega)).mono ?_
  rintro e w2 ⟨rfl, hr2, hw2⟩
  have hq2 := wr_cells hw2
  obtain ⟨V, hV⟩ : ∃ V, pickV bs 0 8 = V := ⟨_, rfl⟩
  rw [hV] at b1 b2 ⊢
  clear hV
  have hz2 := hw2.size
  have hoE : (w2.alloc (.cells #[] 3)).ownsRow w2.heap.size 3 1 (.slice (some ⟨w2.heap.size, 0, none⟩) 0 0) 0 ([].map (Value.int .i64)) := World.ownsRow_lit w2 #[] 0 (Nat.le_refl _) (by decide) rfl
  have hBe := (Below.wr hb1 hw2 hb1.size (fun k hk => by omega)).alloc (by have := hb1.size; omega) (.cells #[] 3)
  have hD : Drawing w w2.heap.size a bs (0 + 1) 0 (w2.alloc (.cells #[] 3)) (.slice (some ⟨w2.heap.size, 0, none⟩) 0 0) :=
    ⟨⟨_, hr2.alloc _, Int.le_refl _⟩, ⟨[], hoE, Nat.le_refl _, by simp⟩, hBe, by simp, by have := hb1.size; omega, hr2.lt, ha⟩
  go_wp2_with fail
  refine (pick_any _ bs (0 + 1) _ _ (hr2.alloc _) (by omega) (by omega)).mono ?_
  rintro e w3 ⟨rfl, hr3, hw3⟩
  have hq3 := wr_cells hw3
  have hD3 := hD.wr hw3 hr3 (q' := 2) (by omega)
  obtain ⟨n, hn⟩ : ∃ n : Nat, pickV bs (0 + 1) 7 = n := ⟨(pickV bs (0 + 1) 7).toNat, by omega⟩
  have hn7 : n < 7 := by omega
  rw [hn]
  generalize w2.heap.size = z at hD3
  clear hn b3 b4 hq2 hq3 hw2 hw3 hD hBe hoE hr1 hr2 hr3 hb1
  go_wp2_with fail
  go_loopg [6, 7] n (fun g v i wr => i = .int .i64 g ∧ g ≤ n ∧ Drawing w z a bs (2 + (n - g)) (n - g) wr v)
  case atStart => exact ⟨rfl, Nat.le_refl _, by simpa using hD3⟩
  case round =>
    clear hD3
    obtain ⟨rfl, hg, hD⟩ := hrel
    by_cases hlt : 0 < gk
    · obtain ⟨p, hr, hp⟩ := hD.rd
      obtain ⟨b5, b6⟩ := pickV_bd bs p (1 + V)
      have hp0 := hr.nn
      go_wp2_with fail
      refine (pick_any _ bs (p) (1 + V) _ hr (by omega) (by omega)).mono ?_
      rintro e w4 ⟨rfl, hr4, hw4⟩
      have hq4 := wr_cells hw4
      have hD4 := hD.wr hw4 hr4 (q' := 2 + (n - (gk - 1))) (by omega)
      obtain ⟨X, hX⟩ : ∃ X, pickV bs p (1 + V) = X := ⟨_, rfl⟩
      rw [hX] at b5 b6 ⊢
      obtain ⟨xs, ho4, hl4, hx4⟩ := hD4.own
      have hz4 := hD4.size
      clear hX hw4 hq4 hr hD hr4
      go_wp2_with (at_builtin; refine wpList_app1 _ rfl _ _ 30 3 rfl _ 1 8 [.int .i64 X] (.int .i64 0) Try.underlying30 infoInt rfl (by decide) rfl (by intro u hu; simp at hu; subst hu; rfl) _ _ _ ho4 rfl rfl (by omega) (by omega) (by omega) ?_)
      intro v' w5 ho5 hw5 hbb
      obtain ⟨p5, hr5, hp5⟩ := hD4.rd
      have hrz := hD4.rz
      have hr6 := hr5.wr hw5 (fun k hk => by have := own_ge ho4 k hk; omega)
      have ho6 := own_snoc ho5
      have hx6 := all_snoc hx4 (show -1 ≤ X ∧ X ≤ 9 by omega)
      have hD5 : Drawing w z a bs (2 + (n - ((gk - 1 : Nat) : Int))) (n - (gk - 1)) w5 v' :=
        ⟨⟨p5, hr6, by omega⟩, ⟨xs ++ [X], ho6, by simp; omega, hx6⟩, hbb _ _ hD4.base hD4.below, Nat.le_trans hz4 hw5.size, hD4.base, hrz, hD4.ra⟩
      clear ho4 ho5 ho6 hx4 hx6 hr5 hr6 hbb hw5 hD4
      go_wp2
      go_roundg (gk - 1)
      case measure => omega
      case rel => exact ⟨by go_num, by omega, hD5⟩
    · obtain rfl : gk = 0 := by omega
      obtain ⟨p, hr, hp⟩ := hD.rd
      have hp0 := hr.nn
      go_wp2_with fail
      refine (odd_any _ bs (p) _ _ hr (by omega) (by omega) (by omega)).mono ?_
      rintro e w4 ⟨rfl, ⟨p4, hr4, hp4a, hp4b, _⟩, hw4⟩
      have hD4 := hD.wr hw4 hr4 (q' := 10) (by omega)
      clear hD hr hw4
      cases hodd : oddV bs p 6
      · go_wp2_with fail
        refine (odd_any _ bs (p4) _ _ hr4 (by omega) (by omega) (by omega)).mono ?_
        rintro e w5 ⟨rfl, ⟨p5, hr5, hp5a, hp5b, _⟩, hw5⟩
        have hD5 := hD4.wr hw5 hr5 (q' := 11) (by omega)
        cases hodd2 : oddV bs p4 14
        · obtain ⟨xs, ho, hl, hx⟩ := hD5.own
          have ho' := own_mono ho hD5.base
          have hbl := hD5.below
          clear hD4 hD5 hw5 ho
          go_wp2
          go_ret2
          exact ⟨_, xs, 1 + V, rfl, ho', by omega, hx, by omega, by omega, hbl⟩
        · obtain ⟨b7, b8⟩ := pickV_bd bs p5 2
          have hlt5 := hr5.lt
          have hne5 : ¬ w5.heap.size = a := by omega
          go_wp2_with fail
          refine (pick_any _ bs (p5) _ _ (hr5.alloc _) (by omega) (by omega)).mono ?_
          rintro e w6 ⟨rfl, hr6, hw6⟩
          have hq6 := wr_cells hw6
          have hD6 := (hD5.alloc _).wr hw6 hr6 (q' := 12) (by omega)
          obtain ⟨xs, ho, hl, hx⟩ := hD6.own
          have ho' := own_mono ho hD6.base
          have hbl := hD6.below
          clear hD4 hD5 hD6 hw5 hw6 ho
          rcases (show pickV bs p5 2 = 0 ∨ pickV bs p5 2 = 1 by omega) with hv | hv
          · rw [hv]
            go_wp2
            go_ret2
            exact ⟨_, xs, 0, rfl, ho', by omega, hx, by omega, by omega, hbl⟩
          · rw [hv]
            go_wp2
            go_ret2
            exact ⟨_, xs, 9, rfl, ho', by omega, hx, by omega, by omega, hbl⟩
      · obtain ⟨b7, b8⟩ := pickV_bd bs p4 2
        have hlt4 := hr4.lt
        have hne4 : ¬ w4.heap.size = a := by omega
        go_wp2_with fail
        refine (pick_any _ bs (p4) _ _ (hr4.alloc _) (by omega) (by omega)).mono ?_
        rintro e w5 ⟨rfl, hr5, hw5⟩
        have hq5 := wr_cells hw5
        have hD5 := (hD4.alloc _).wr hw5 hr5 (q' := 12) (by omega)
        obtain ⟨xs, ho5, hl5, hx5⟩ := hD5.own
        have hz5 := hD5.size
        rcases (show pickV bs p4 2 = 0 ∨ pickV bs p4 2 = 1 by omega) with hv | hv
        all_goals
          rw [hv]
        all_goals
          clear hD4 hw5 hr4
        all_goals
          go_wp2_with (first | (at_builtin; refine wpList_app1 _ rfl _ _ 30 3 rfl _ 1 8 [.int .i64 (-1)] (.int .i64 0) Try.underlying30 infoInt rfl (by decide) rfl (by intro u hu; simp at hu; subst hu; rfl) _ _ _ ho5 rfl rfl (by omega) (by omega) (by omega) ?_) | (at_builtin; refine wpList_app1 _ rfl _ _ 30 3 rfl _ 1 8 [.int .i64 (1 + V)] (.int .i64 0) Try.underlying30 infoInt rfl (by decide) rfl (by intro u hu; simp at hu; subst hu; rfl) _ _ _ ho5 rfl rfl (by omega) (by omega) (by omega) ?_))
        all_goals
          intro v' w6 ho6 hw6 hbb
          have hr6 := hr5.wr hw6 (fun k hk => by have := own_ge ho5 k hk; have := hD5.rz; omega)
          have ho7 := own_snoc ho6
          have hl7 := hbb _ _ hD5.base hD5.below
          have hrz := hD5.rz
          have hra := hD5.ra
          have hba := hD5.base
          have hz6 := Nat.le_trans hz5 hw6.size
          have hll : ∀ y : Int, (xs ++ [y]).length ≤ 8 := fun y => by rw [List.length_append, List.length_singleton]; omega
          have hD6 : Drawing w z a bs 12 8 w6 v' := ⟨⟨_, hr6, by omega⟩, ⟨_, ho7, hll _, all_snoc hx5 (by show -1 ≤ _ ∧ _ ≤ 9; omega)⟩, hl7, hz6, hba, hrz, hra⟩
          clear hD5 ho5 hx5 ho6 ho7 hl7 hw6 hbb hr5
          go_wp2_with fail
          refine (odd_any _ bs (p4 + 1) _ _ hr6 (by omega) (by omega) (by omega)).mono ?_
          rintro e w7 ⟨rfl, ⟨p7, hr7, hp7a, hp7b, _⟩, hw7⟩
          have hD7 := hD6.wr hw7 hr7 (q' := 13) (by omega)
          clear hD6 hr6 hw7
          cases hodd2 : oddV bs (p4 + 1) 14
          · obtain ⟨ys, ho, hl, hx⟩ := hD7.own
            have ho' := own_mono ho hD7.base
            have hbl := hD7.below
            clear hD7 ho
            go_wp2
            go_ret2
            exact ⟨_, ys, 1 + V, rfl, ho', by omega, hx, by omega, by omega, hbl⟩
          · obtain ⟨b9, b10⟩ := pickV_bd bs p7 2
            have hlt7 := hr7.lt
            have hne7 : ¬ w7.heap.size = a := by omega
            go_wp2_with fail
            refine (pick_any _ bs (p7) _ _ (hr7.alloc _) (by omega) (by omega)).mono ?_
            rintro e w8 ⟨rfl, hr8, hw8⟩
            have hq8 := wr_cells hw8
            have hD8 := (hD7.alloc _).wr hw8 hr8 (q' := 14) (by omega)
            obtain ⟨ys, ho, hl, hx⟩ := hD8.own
            have ho' := own_mono ho hD8.base
            have hbl := hD8.below
            clear hD7 hD8 hw8 ho
            rcases (show pickV bs p7 2 = 0 ∨ pickV bs p7 2 = 1 by omega) with hv2 | hv2
            · rw [hv2]
              go_wp2
              go_ret2
              exact ⟨_, ys, 0, rfl, ho', by omega, hx, by omega, by omega, hbl⟩
            · rw [hv2]
              go_wp2
              go_ret2
              exact ⟨_, ys, 9, rfl, ho', by omega, hx, by omega, by omega, hbl⟩
end Go.Proofs.Ytgmaffoljdmkpaa
