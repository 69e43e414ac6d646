/- YtmjkjdibolcblaaMemI: what the copies, comparisons and marks of lists of numbers do, and the sums. Conditions: a list that is copied has at most 1048576 numbers. -/
import Derived.Test.YtmjkjdibolcblaaWords
namespace Go.Proofs.Ytmjkjdibolcblaa
open Go.ChangeShapes Go.WideShapes Go.ChangeAt Go.RowKit

theorem infoInt : (Try.prog.info? 3).map (fun i => (i.zero, i.size, i.bytes)) = some (some (.int .i64 0), 1, 8) := by kernel_rfl

/-- A new slice of numbers is returned; nothing that was there has changed. -/
def NewI (w : World) (xs : List Int) (e : Ending) (w' : World) : Prop :=
  ∃ v, e = .returned v ∧ w'.ownsRow w.heap.size 3 1 v xs.length (xs.map (Value.int .i64)) ∧ Below w.heap.size w w'

theorem rdI_of_owns {w : World} {base e : Nat} {v : Value} {xs : List Int} (h : w.ownsRow base e 1 v xs.length (xs.map (Value.int .i64))) (hw : ∀ x ∈ xs, (Lit.int .i64 x).wf = true) : RdI .i64 w v xs :=
  ⟨rd_of_owns h, hw⟩

set_option maxHeartbeats 1000000 in
theorem toIntS_any (v : Value) (xs : List Int) (w : World) (h : RdI .i64 w v xs) (hn : xs.length ≤ 1048576) : Calls Try.prog 25 #[v] w (NewI w xs) := by
  obtain ⟨a, c, b, off, rfl, hlc, hm, hb, hcell⟩ := h.form
  obtain ⟨i0, hi, hz0, hz1, hz2⟩ := info_parts infoInt
  have hz3 : i0.bytes * xs.length ≤ 281474976710656 := by rw [hz2]; omega
  have hz4 : xs.length ≤ maxLen := by unfold maxLen; omega
  have HZ := Lib.hid hz2
  clear hz2
  go_enter Try.func25, Try.ntmps25
  go_wp2_with (at_make; refine wpList_make_full _ rfl _ _ 29 rfl w.heap.size 3 i0 (.int .i64 0) 1 Try.underlying29 hi hz0 hz1 _ _ _ _ xs.length rfl rfl rfl rfl hz3 hz4 (Nat.le_refl _) ?_)
  clear hz3 hz4 HZ hz0 hz1 hi
  intro w1 hown1 hg1
  have hown2 : w1.ownsRow w.heap.size 3 1 (.slice (some ⟨w.heap.size, 0, none⟩) xs.length xs.length) xs.length (fillL (xs.map (Value.int .i64)) (.int .i64 0) 0) := by
    rw [fill_zero, List.length_map, ← toList_madeCells_one]
    simpa [Value.cells] using hown1
  have hb1 : Below w.heap.size w w1 := (Below.refl _ _).grown hg1 (Nat.le_refl _) (by intro k hk; cases hk)
  clear hown1 hg1
  go_wp2_with fail
  go_loopg [4] xs.length (fun g i wr => ∃ k : Nat, k + g = xs.length ∧ i = .int .i64 k ∧ wr.ownsRow w.heap.size 3 1 (.slice (some ⟨w.heap.size, 0, none⟩) xs.length xs.length) xs.length (fillL (xs.map (Value.int .i64)) (.int .i64 0) k) ∧ Below w.heap.size w wr)
  case atStart => exact ⟨0, by omega, rfl, hown2, hb1⟩
  case round =>
    clear hown2 hb1
    obtain ⟨k, hk, rfl, hown, hbl⟩ := hrel
    by_cases hlt : k < xs.length
    · obtain ⟨x, hx⟩ := get_lt hlt
      obtain ⟨rfl, hc⟩ := hcell k x hx
      have hc' : wr.cell? ⟨b, off + k, none⟩ = some (.int .i64 x) := (hbl.cell (hb (by rintro rfl; simp at hlt))).trans hc
      have hold : wr.cell? ⟨w.heap.size, k, none⟩ = some (.int .i64 0) := by rw [hown.cellAt k (by omega), fill_get _ _ (by simpa using hlt)]
      have hfr := hown.frozenAt k
      have hst := (hown.stored k (.int .i64 x)).1
      rw [fill_set _ _ (by simp [hx])] at hst
      have HST := Lib.hid hst
      have HX := Lib.hid hx
      have hbl' : Below w.heap.size w (wr.setCell ⟨w.heap.size, k, none⟩ (.int .i64 x)) := hbl.setCell (Nat.le_refl _) _
      clear hst hcell hown hc hx
      go_wp2
      go_roundg (xs.length - (k + 1))
      case measure => omega
      case rel => exact ⟨k + 1, by omega, by go_num, HST.out, hbl'⟩
    · have hkn : xs.length ≤ k := by omega
      rw [fill_all _ _ (by simpa using hkn)] at hown
      clear hcell
      go_wp2
      go_ret
      exact ⟨_, rfl, hown, hbl⟩

set_option maxHeartbeats 1000000 in
theorem eqIntS_same (v u : Value) (xs : List Int) (w : World) (h : RdI .i64 w v xs) (h' : RdI .i64 w u xs) :
    Calls Try.prog 27 #[v, u] w fun e w' => e = .returned (.bool true) ∧ Below w.heap.size w w' := by
  obtain ⟨a, c, b, off, rfl, hlc, hm, hb, hcell⟩ := h.form
  obtain ⟨a', c', b', off', rfl, hlc', hm', hb', hcell'⟩ := h'.form
  go_enter Try.func27, Try.ntmps27
  go_wp2_with fail
  go_loopg [5] xs.length (fun g i wr => ∃ k : Nat, k + g = xs.length ∧ i = .int .i64 k ∧ Below w.heap.size w wr)
  case atStart => exact ⟨0, by omega, rfl, Below.refl _ _⟩
  case round =>
    obtain ⟨k, hk, rfl, hbl⟩ := hrel
    by_cases hlt : k < xs.length
    · obtain ⟨x, hx⟩ := get_lt hlt
      obtain ⟨rfl, hc⟩ := hcell k x hx
      obtain ⟨rfl, hc2⟩ := hcell' k x hx
      have hne : xs ≠ [] := by rintro rfl; simp at hlt
      have hc3 : wr.cell? ⟨b, off + k, none⟩ = some (.int .i64 x) := (hbl.cell (hb hne)).trans hc
      have hc4 : wr.cell? ⟨b', off' + k, none⟩ = some (.int .i64 x) := (hbl.cell (hb' hne)).trans hc2
      clear hcell hcell' hc hc2 hx
      go_wp2
      go_quiet (fail)
      go_wp2
      go_roundg (xs.length - (k + 1))
      case measure => omega
      case rel => exact ⟨k + 1, by omega, by go_num, by first | exact hbl | exact hbl.drew | exact ⟨hbl.os, hbl.tape, hbl.output, hbl.size, hbl.block⟩⟩
    · clear hcell hcell'
      go_wp2
      go_ret
      exact ⟨rfl, hbl⟩

/-- The numbers k, k + 1, .. -/
def marks (k : Int) (n : Nat) : List Int := (List.range n).map fun (i : Nat) => k + (i : Int)
theorem marks_get (k : Int) {n i : Nat} (h : i < n) : (marks k n)[i]? = some (k + i) := by simp [marks, h]
theorem marks_length (k : Int) (n : Nat) : (marks k n).length = n := by simp [marks]
theorem marks_wf {k : Int} {n : Nat} (h0 : -9223372036854775808 ≤ k) (h1 : k + n ≤ 9223372036854775807) : ∀ x ∈ marks k n, (Lit.int .i64 x).wf = true := by
  intro x hx
  obtain ⟨i, hi, rfl⟩ := List.mem_map.1 hx
  have := List.mem_range.1 hi
  exact WalkArith.wf_i64 (by omega)
/-- The first j numbers are marks, the rest is as it was. -/
def part (xs : List Int) (k : Int) (j : Nat) : List Int := marks k j ++ xs.drop j
theorem part_zero (xs : List Int) (k : Int) : part xs k 0 = xs := by simp [part, marks]
theorem part_all (xs : List Int) (k : Int) {j : Nat} (h : xs.length ≤ j) : part xs k j = marks k j := by simp [part, List.drop_eq_nil_of_le h]
theorem part_set (xs : List Int) (k : Int) {j : Nat} (h : j < xs.length) : (part xs k j).set j (k + j) = part xs k (j + 1) := by
  obtain ⟨x, hx⟩ := get_lt h
  unfold part
  rw [List.set_append_right _ _ (by simp [marks_length]), drop_cons hx]
  simp [marks, List.range_succ]
theorem part_length (xs : List Int) (k : Int) {j : Nat} (h : j ≤ xs.length) : (part xs k j).length = xs.length := by simp [part, marks_length]; omega

set_option maxHeartbeats 1000000 in
theorem markIntS_any (v : Value) (xs : List Int) (k0 : Int) (base : Nat) (w : World) (h : w.ownsRow base 3 1 v xs.length (xs.map (Value.int .i64))) (hn : xs.length ≤ 9223372036854775807) (hk0 : 0 ≤ k0) (hk1 : k0 + xs.length ≤ 9223372036854775807) :
    Calls Try.prog 31 #[v, .int .i64 k0] w fun e w' => e = .returned (.int .i64 (k0 + xs.length)) ∧ w'.ownsRow base 3 1 v (marks k0 xs.length).length ((marks k0 xs.length).map (Value.int .i64)) ∧ Wr w w' (fun b => v.ownBlock = some b) := by
  rw [marks_length]
  rcases h.2 with ⟨rfl, h0⟩ | ⟨gb, cap, cur, rfl, hbg, hgg, hnc, hcm, _⟩
  · have hx : xs = [] := List.eq_nil_of_length_eq_zero h0
    subst hx
    go_enter Try.func31, Try.ntmps31
    go_wp2_with fail
    refine wp_loop_rounds 1 ?_
    rw [rounds_succ]
    go_wp2
    go_ret
    exact ⟨by simp, by simpa [marks] using h, Wr.refl _ _⟩
  · have hcm' : cap ≤ 9223372036854775807 := by unfold maxLen at hcm; omega
    clear hgg
    go_enter Try.func31, Try.ntmps31
    go_wp2_with fail
    go_loopg [1, 5] xs.length (fun g m i wr => ∃ k : Nat, k + g = xs.length ∧ i = .int .i64 k ∧ m = .int .i64 (k0 + k) ∧ wr.ownsRow base 3 1 (.slice (some ⟨gb, 0, none⟩) xs.length cap) xs.length ((part xs k0 k).map (Value.int .i64)) ∧ Wr w wr (fun b => some gb = some b))
    case atStart => exact ⟨0, by omega, rfl, by go_num, by rw [part_zero]; exact h, Wr.refl _ _⟩
    case round =>
      clear h
      obtain ⟨k, hk, rfl, rfl, hown, hwr⟩ := hrel
      by_cases hlt : k < xs.length
      · have hlen := part_length xs k0 (Nat.le_of_lt hlt)
        obtain ⟨y, hy⟩ := get_lt (show k < (part xs k0 k).length by omega)
        have hold : wr.cell? ⟨gb, k, none⟩ = some (.int .i64 y) := by rw [hown.cellAt k (by omega)]; simp [hy]
        have hfr := hown.frozenAt k
        have hst := hown.stored k (.int .i64 (k0 + k))
        rw [← List.map_set, part_set xs k0 hlt] at hst
        have HST := Lib.hid hst.1
        have HW := Lib.hid (hwr.trans (Wr.of_grown hst.2))
        clear hst hown hy hlen
        go_wp2
        go_roundg (xs.length - (k + 1))
        case measure => omega
        case rel => exact ⟨k + 1, by omega, by go_num, by go_num, HST.out, HW.out⟩
      · have hkn : xs.length = k := by omega
        rw [part_all _ _ (by omega), ← hkn] at hown
        have HK := Lib.hid hkn
        clear hkn
        go_wp2
        go_ret
        exact ⟨by rw [HK.out]; rfl, hown, hwr⟩

set_option maxHeartbeats 1000000 in
theorem heldIntS_any (v : Value) (n : Nat) (k0 : Int) (w : World) (h : RdI .i64 w v (marks k0 n)) (hk0 : 0 ≤ k0) (hk1 : k0 + n ≤ 9223372036854775807) :
    Calls Try.prog 33 #[v, .int .i64 k0] w fun e w' => e = .returned (.int .i64 (k0 + n)) ∧ Below w.heap.size w w' := by
  obtain ⟨a, c, b, off, rfl, hlc, hm, hb, hcell⟩ := h.form
  rw [marks_length] at *
  have hcell2 : ∀ i, i < n → a = some ⟨b, off, none⟩ ∧ w.cell? ⟨b, off + i, none⟩ = some (.int .i64 (k0 + i)) := fun i hi => hcell i _ (marks_get k0 hi)
  have hb2 : 0 < n → b < w.heap.size := fun hn => hb (fun he => by have := congrArg List.length he; rw [marks_length] at this; simp at this; omega)
  clear hcell hb h
  go_enter Try.func33, Try.ntmps33
  go_wp2_with fail
  go_loopg [1, 5] n (fun g m i wr => ∃ k : Nat, k + g = n ∧ i = .int .i64 k ∧ m = .int .i64 (k0 + k) ∧ Below w.heap.size w wr)
  case atStart => exact ⟨0, by omega, rfl, by go_num, Below.refl _ _⟩
  case round =>
    obtain ⟨k, hk, rfl, rfl, hbl⟩ := hrel
    by_cases hlt : k < n
    · obtain ⟨rfl, hc⟩ := hcell2 k hlt
      have hc3 : wr.cell? ⟨b, off + k, none⟩ = some (.int .i64 (k0 + k)) := (hbl.cell (hb2 (by omega))).trans hc
      clear hcell2 hc
      go_wp2
      go_roundg (n - (k + 1))
      case measure => omega
      case rel => exact ⟨k + 1, by omega, by go_num, by go_num, hbl⟩
    · have hkn : n = k := by omega
      have HK := Lib.hid hkn
      clear hcell2 hkn
      go_wp2
      go_ret
      exact ⟨by rw [HK.out]; rfl, hbl⟩

/-- The sum from s on; -1 at the first that is no value. -/
def wSumFrom (s : Int) : List Int → Int
  | [] => s
  | x :: r => if inB x 0 255 then wSumFrom ((s + x) % 256) r else -1
def wSum (xs : List Int) : Int := wSumFrom 0 xs

end Go.Proofs.Ytmjkjdibolcblaa
