/- YtgmaffoljdmkpaaDrawV: the draws of values, of lists of values and lanes, and of memories: each returns numbers within bounds and leaves old memory as it was. Conditions: a reader's place is at most 1000000000. -/
import Derived.Test.YtgmaffoljdmkpaaDrawM
namespace Go.Proofs.Ytgmaffoljdmkpaa
open Go.ChangeShapes Go.WideShapes Go.ChangeAt Go.RowKit

def ValD (w : World) (a : Nat) (bs : List Int) (q : Int) (e : Ending) (w' : World) : Prop :=
  ∃ x, e = .returned (.int .i64 x) ∧ -1 ≤ x ∧ x ≤ 256 ∧ Left w a bs q w'
set_option maxHeartbeats 2000000 in
theorem l20Value_any (a : Nat) (bs : List Int) (p n : Int) (w : World) (h : Rdr w a bs p) (hp : p ≤ 1000000000) (hn0 : 0 ≤ n) (hn : n ≤ 1000000) : Calls Try.prog 61 #[.pointer (some ⟨a, 0, none⟩), .int .i64 n] w (ValD w a bs (p + 3)) := by
  have hp0 := h.nn
  go_enter Try.func61, Try.ntmps61
  go_wp2_with fail
  refine (odd_any _ bs (p) _ _ h (by omega) (by omega) (by omega)).mono ?_
  rintro e w1 ⟨rfl, ⟨p1, hr1, hp1a, hp1b, _⟩, hw1⟩
  have hlt := hr1.lt
  cases hodd : oddV bs p n
  · obtain ⟨b1, b2⟩ := pickV_bd bs p1 256
    go_wp2_with fail
    refine (pick_any _ bs (p1) _ _ hr1 (by omega) (by omega)).mono ?_
    rintro e w2 ⟨rfl, hr2, hw2⟩
    have hq2 := wr_cells hw2
    have hlt2 := hr2.lt
    have hne : ¬ w2.heap.size = a := by omega
    obtain ⟨b3, b4⟩ := pickV_bd bs (p1 + 1) 4
    go_wp2_with fail
    refine (pick_any _ bs (p1 + 1) _ _ (hr2.alloc _) (by omega) (by omega)).mono ?_
    rintro e w3 ⟨rfl, hr3, hw3⟩
    have hq3 := wr_cells hw3
    have hW := ((hw1.trans hw2).trans (wr_alloc (Wr.refl _ _) _)).trans hw3
    clear hw1 hw2 hw3
    rcases (show pickV bs (p1 + 1) 4 = 0 ∨ pickV bs (p1 + 1) 4 = 1 ∨ pickV bs (p1 + 1) 4 = 2 ∨ pickV bs (p1 + 1) 4 = 3 by omega) with hv | hv | hv | hv
    all_goals
      rw [hv]
      go_wp2
      go_ret
      exact ⟨_, rfl, by omega, by omega, _, hr3, by omega, hW⟩
  · have hne : ¬ w1.heap.size = a := by omega
    obtain ⟨b1, b2⟩ := pickV_bd bs p1 2
    go_wp2_with fail
    refine (pick_any _ bs (p1) _ _ (hr1.alloc _) (by omega) (by omega)).mono ?_
    rintro e w2 ⟨rfl, hr2, hw2⟩
    have hq2 := wr_cells hw2
    have hW := (hw1.trans (wr_alloc (Wr.refl _ _) _)).trans hw2
    clear hw1 hw2
    rcases (show pickV bs p1 2 = 0 ∨ pickV bs p1 2 = 1 by omega) with hv | hv
    all_goals
      rw [hv]
      go_wp2
      go_ret
      exact ⟨_, rfl, by omega, by omega, _, hr2, by omega, hW⟩
def TwoD (w : World) (a : Nat) (bs : List Int) (q : Int) (e : Ending) (w' : World) : Prop :=
  ∃ x y, e = .returned (.tuple #[.int .i64 x, .int .i64 y]) ∧ -1 ≤ x ∧ x ≤ 256 ∧ -1 ≤ y ∧ y ≤ 256 ∧ Left w a bs q w'
theorem l20Two_any (a : Nat) (bs : List Int) (p : Int) (w : World) (h : Rdr w a bs p) (hp : p ≤ 1000000) : Calls Try.prog 52 #[.pointer (some ⟨a, 0, none⟩)] w (TwoD w a bs (p + 6)) := by
  have hp0 := h.nn
  go_enter Try.func52, Try.ntmps52
  go_wp2_with fail
  refine (l20Value_any _ bs p _ _ h (by omega) (by omega) (by omega)).mono ?_
  rintro e w1 ⟨x, rfl, hx1, hx2, p1, hr1, hp1, hw1⟩
  have hp2 := hr1.nn
  go_wp2_with fail
  refine (l20Value_any _ bs p1 _ _ hr1 (by omega) (by omega) (by omega)).mono ?_
  rintro e w2 ⟨y, rfl, hy1, hy2, p2, hr2, hp3, hw2⟩
  go_wp2
  go_ret2
  exact ⟨x, y, rfl, hx1, hx2, hy1, hy2, p2, hr2, by omega, hw1.trans hw2⟩
theorem left_below {w w1 w2 : World} {a : Nat} {bs : List Int} {q : Int} (hb : Below w.heap.size w w1) (ha : w.heap.size ≤ a) (h : Left w1 a bs q w2) : Below w.heap.size w w2 := by
  obtain ⟨_, _, _, hw⟩ := h
  exact Below.wr hb hw hb.size (fun k hk => by omega)
/-- Two drawn numbers. -/
def Pair (lo1 hi1 lo2 hi2 : Int) (w : World) (e : Ending) (w' : World) : Prop :=
  ∃ x y, e = .returned (.tuple #[.int .i64 x, .int .i64 y]) ∧ lo1 ≤ x ∧ x ≤ hi1 ∧ lo2 ≤ y ∧ y ≤ hi2 ∧ Below w.heap.size w w'
theorem DrawWordAdd_any (v : Value) (bs : List Int) (w : World) (h : RdI .u8 w v bs) : Calls Try.prog 19 #[v] w (Pair (-1) 256 (-1) 256 w) := by
  go_enter Try.func19, Try.ntmps19
  go_wp2_with fail
  refine (open_any _ bs _ h).mono ?_
  rintro e w1 ⟨a, rfl, hr1, ha, hb1⟩
  go_wp2_with fail
  refine (l20Two_any _ _ 0 _ hr1 (by omega)).mono ?_
  rintro e w2 ⟨x, y, rfl, hx1, hx2, hy1, hy2, hl⟩
  have hb2 := left_below hb1 ha hl
  go_wp2
  go_ret2
  exact ⟨x, y, rfl, hx1, hx2, hy1, hy2, hb2⟩
theorem DrawWordMul_any (v : Value) (bs : List Int) (w : World) (h : RdI .u8 w v bs) : Calls Try.prog 25 #[v] w (Pair (-1) 256 (-1) 256 w) := by
  go_enter Try.func25, Try.ntmps25
  go_wp2_with fail
  refine (open_any _ bs _ h).mono ?_
  rintro e w1 ⟨a, rfl, hr1, ha, hb1⟩
  go_wp2_with fail
  refine (l20Two_any _ _ 0 _ hr1 (by omega)).mono ?_
  rintro e w2 ⟨x, y, rfl, hx1, hx2, hy1, hy2, hl⟩
  have hb2 := left_below hb1 ha hl
  go_wp2
  go_ret2
  exact ⟨x, y, rfl, hx1, hx2, hy1, hy2, hb2⟩
theorem DrawWordLess_any (v : Value) (bs : List Int) (w : World) (h : RdI .u8 w v bs) : Calls Try.prog 22 #[v] w (Pair (-1) 256 (-1) 256 w) := by
  go_enter Try.func22, Try.ntmps22
  go_wp2_with fail
  refine (open_any _ bs _ h).mono ?_
  rintro e w1 ⟨a, rfl, hr1, ha, hb1⟩
  go_wp2_with fail
  refine (l20Two_any _ _ 0 _ hr1 (by omega)).mono ?_
  rintro e w2 ⟨x, y, rfl, hx1, hx2, hy1, hy2, hl⟩
  have hb2 := left_below hb1 ha hl
  go_wp2
  go_ret2
  exact ⟨x, y, rfl, hx1, hx2, hy1, hy2, hb2⟩
theorem DrawMaskValid_any (v : Value) (bs : List Int) (w : World) (h : RdI .u8 w v bs) : Calls Try.prog 15 #[v] w (Pair (-1) 256 0 9 w) := by
  go_enter Try.func15, Try.ntmps15
  go_wp2_with fail
  refine (open_any _ bs _ h).mono ?_
  rintro e w1 ⟨a, rfl, hr1, ha, hb1⟩
  go_wp2_with fail
  refine (l20Mask_any _ _ 0 _ hr1 (by omega)).mono ?_
  rintro e w2 ⟨x, y, rfl, hy1, hy2, hx1, hx2, hl⟩
  have hb2 := left_below hb1 ha hl
  go_wp2
  go_ret2
  exact ⟨x, y, rfl, hx1, hx2, hy1, hy2, hb2⟩
theorem DrawMaskLanes_any (v : Value) (bs : List Int) (w : World) (h : RdI .u8 w v bs) : Calls Try.prog 42 #[v] w (Pair (-1) 256 0 9 w) := by
  go_enter Try.func42, Try.ntmps42
  go_wp2_with fail
  refine (open_any _ bs _ h).mono ?_
  rintro e w1 ⟨a, rfl, hr1, ha, hb1⟩
  go_wp2_with fail
  refine (l20Mask_any _ _ 0 _ hr1 (by omega)).mono ?_
  rintro e w2 ⟨x, y, rfl, hy1, hy2, hx1, hx2, hl⟩
  have hb2 := left_below hb1 ha hl
  go_wp2
  go_ret2
  exact ⟨x, y, rfl, hx1, hx2, hy1, hy2, hb2⟩
theorem DrawMaskMany_any (v : Value) (bs : List Int) (w : World) (h : RdI .u8 w v bs) : Calls Try.prog 45 #[v] w (Pair (-1) 256 0 9 w) := by
  go_enter Try.func45, Try.ntmps45
  go_wp2_with fail
  refine (open_any _ bs _ h).mono ?_
  rintro e w1 ⟨a, rfl, hr1, ha, hb1⟩
  go_wp2_with fail
  refine (l20Mask_any _ _ 0 _ hr1 (by omega)).mono ?_
  rintro e w2 ⟨x, y, rfl, hy1, hy2, hx1, hx2, hl⟩
  have hb2 := left_below hb1 ha hl
  go_wp2
  go_ret2
  exact ⟨x, y, rfl, hx1, hx2, hy1, hy2, hb2⟩
def One (lo hi : Int) (w : World) (e : Ending) (w' : World) : Prop := ∃ x, e = .returned (.int .i64 x) ∧ lo ≤ x ∧ x ≤ hi ∧ Below w.heap.size w w'
theorem DrawMaskAll_any (v : Value) (bs : List Int) (w : World) (h : RdI .u8 w v bs) : Calls Try.prog 37 #[v] w (One (-1) 9 w) := by
  obtain ⟨b1, b2⟩ := pickV_bd (bs.take 2000) 0 11
  go_enter Try.func37, Try.ntmps37
  go_wp2_with fail
  refine (open_any _ bs _ h).mono ?_
  rintro e w1 ⟨a, rfl, hr1, ha, hb1⟩
  go_wp2_with fail
  refine (pick_any _ _ 0 _ _ hr1 (by omega) (by omega)).mono ?_
  rintro e w2 ⟨rfl, hr2, hw2⟩
  have hb2 := Below.wr hb1 hw2 hb1.size (fun k hk => by omega)
  go_wp2
  go_ret
  exact ⟨_, rfl, by omega, by omega, hb2⟩
/-- A drawn list of numbers in new memory. -/
def ListD (lo hi : Int) (n : Nat) (w : World) (base : Nat) (v : Value) : Prop := ∃ xs : List Int, w.ownsRow base 3 1 v xs.length (xs.map (Value.int .i64)) ∧ xs.length ≤ n ∧ ∀ x ∈ xs, lo ≤ x ∧ x ≤ hi
theorem all_snoc {P : Int → Prop} {xs : List Int} {y : Int} (h : ∀ x ∈ xs, P x) (hy : P y) : ∀ x ∈ xs ++ [y], P x := by
  intro x hx
  rcases List.mem_append.1 hx with hx | hx
  · exact h x hx
  · rw [List.mem_singleton.1 hx]; exact hy
theorem own_snoc {w : World} {base : Nat} {v : Value} {xs : List Int} {y : Int} (h : w.ownsRow base 3 1 v (xs.length + 1) (xs.map (Value.int .i64) ++ [.int .i64 y])) : w.ownsRow base 3 1 v (xs ++ [y]).length ((xs ++ [y]).map (Value.int .i64)) := by simpa using h
def ListR (lo hi : Int) (n : Nat) (w : World) (e : Ending) (w' : World) : Prop := ∃ v, e = .returned v ∧ ListD lo hi n w' w.heap.size v ∧ Below w.heap.size w w'
set_option maxHeartbeats 2000000 in
theorem DrawWordSum_any (v : Value) (bs0 : List Int) (w : World) (h : RdI .u8 w v bs0) : Calls Try.prog 34 #[v] w (ListR (-1) 256 8 w) := by
  obtain ⟨bs, hbs⟩ : ∃ bs, bs = bs0.take 2000 := ⟨_, rfl⟩
  obtain ⟨b1, b2⟩ := pickV_bd bs 0 8
  go_enter Try.func34, Try.ntmps34
  go_wp2_with fail
  refine (open_any _ bs0 _ h).mono ?_
  rintro e w1 ⟨a, rfl, hr1, ha, hb1⟩
  rw [← hbs] at hr1
  clear hbs h
  go_wp2_with fail
  refine (pick_any _ bs (0) _ _ (hr1.alloc _) (by omega) (by omega)).mono ?_
  rintro e w2 ⟨rfl, hr2, hw2⟩
  have hq2 := wr_cells hw2
  have ho2 : w2.ownsRow w1.heap.size 3 1 (.slice (some ⟨w1.heap.size, 0, none⟩) 0 0) 0 ([].map (Value.int .i64)) := hw2.owns (World.ownsRow_lit w1 #[] 0 (Nat.le_refl _) (by decide) rfl) (fun k hk (hh : k = a) => by have hk2 : w1.heap.size = k := (by simpa [Value.ownBlock] using hk); have := hr1.lt; omega)
  have hb2 := Below.wr (hb1.alloc hb1.size (.cells #[] 3)) hw2 (by have := hb1.size; simp; omega) (fun k hk => by omega)
  have hz := hb1.size
  have halt := hr1.lt
  obtain ⟨n, hn⟩ : ∃ n : Nat, pickV bs 0 8 = n := ⟨(pickV bs 0 8).toNat, by omega⟩
  rw [hn]
  have hn8 : n < 8 := by omega
  have hb2s := hb2.size
  have hws := hw2.size
  simp only [World.size_alloc] at hws
  have hws : w1.heap.size ≤ w2.heap.size := by omega
  clear hn b1 b2 hq2 hw2
  go_wp2_with fail
  go_loopg [4, 5] n (fun g v i wr => i = .int .i64 g ∧ g ≤ n ∧ (∃ p, Rdr wr a bs p ∧ p ≤ 1 + 3 * (8 - (g : Int))) ∧ (∃ xs : List Int, wr.ownsRow w1.heap.size 3 1 v xs.length (xs.map (Value.int .i64)) ∧ xs.length + g ≤ 8 ∧ ∀ x ∈ xs, -1 ≤ x ∧ x ≤ 256) ∧ Below w.heap.size w wr ∧ w1.heap.size ≤ wr.heap.size)
  case atStart => exact ⟨rfl, Nat.le_refl _, ⟨_, hr2, by omega⟩, ⟨[], ho2, by simp; omega, by simp⟩, hb2, hws⟩
  case round =>
    obtain ⟨rfl, hg, ⟨p, hr, hpp⟩, ⟨xs, ho, hxl, hxb⟩, hbl, hwz⟩ := hrel
    have hp0 := hr.nn
    by_cases hlt : 0 < gk
    · go_wp2_with fail
      refine (l20Value_any _ bs p _ _ hr (by omega) (by omega) (by omega)).mono ?_
      rintro e w3 ⟨x, rfl, hx1, hx2, p3, hr3, hp3, hw3⟩
      have ho3 := hw3.owns ho (fun k hk (hh : k = a) => by have := own_ge ho k hk; omega)
      have hb3 := Below.wr hbl hw3 (by have := hbl.size; omega) (fun k hk => by omega)
      have hw13 : w1.heap.size ≤ w3.heap.size := Nat.le_trans hwz hw3.size
      clear hw3 ho
      go_wp2_with (at_builtin; refine wpList_app1 _ rfl _ _ 30 3 rfl _ 1 8 [.int .i64 x] (.int .i64 0) Try.underlying30 infoInt rfl (by decide) rfl (by intro u hu; simp at hu; subst hu; rfl) _ _ _ ho3 rfl rfl (by omega) (by omega) (by omega) ?_)
      intro v' w4 ho4 hw4 hbb
      have hr4 := (hr3.wr hw4 (fun k hk => by have := own_ge ho3 k hk; omega))
      have hb4 := hbb _ _ (by omega) hb3
      have ho5 := own_snoc ho4
      have hxb2 := all_snoc hxb ⟨hx1, hx2⟩
      have hw14 := Nat.le_trans hw13 hw4.size
      clear ho3 ho4 hw4 hbb hxb
      go_wp2
      go_roundg (gk - 1)
      case measure => omega
      case rel => exact ⟨by go_num, by omega, ⟨p3, hr4, by omega⟩, ⟨xs ++ [x], ho5, by simp; omega, hxb2⟩, hb4, hw14⟩
    · obtain rfl : gk = 0 := by omega
      have ho5 := own_mono ho hz
      go_wp2
      go_ret
      exact ⟨_, rfl, ⟨xs, ho5, by omega, hxb⟩, hbl⟩
end Go.Proofs.Ytgmaffoljdmkpaa
