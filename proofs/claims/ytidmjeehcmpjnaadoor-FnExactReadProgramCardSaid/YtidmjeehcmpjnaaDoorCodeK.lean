/- YtidmjeehcmpjnaaDoorCodeK: marks on lists of instructions. Conditions: the numbers stay below 2 to the 63. -/
import Derived.Test.YtidmjeehcmpjnaaDoorCodeM
namespace Go.Proofs.YtidmjeehcmpjnaaDoor
open Go.ChangeShapes Go.WideShapes Go.ChangeAt Go.RowKit
set_option linter.unusedVariables false
def cdInts (cs : List Cd) : List Int := cs.flatMap fun c => [c.op, c.a, c.b, c.c]
theorem cdInts_cells (cs : List Cd) : (cdInts cs).map (Value.int .i64) = cdCells cs := by
  induction cs with
  | nil => rfl
  | cons c r ih => unfold cdInts cdCells at *; rw [List.flatMap_cons, List.flatMap_cons, List.map_append, ih]; rfl
theorem cdInts_length (cs : List Cd) : (cdInts cs).length = cs.length * 4 := by
  have h := cdCells_length cs
  rw [← cdInts_cells, List.length_map] at h; exact h
theorem part4 (ys : List Int) (k0 : Int) {k : Nat} (h : k * 4 + 3 < ys.length) :
    (((((part ys k0 (k * 4)).set (k * 4) (k0 + (k * 4 : Nat))).set (k * 4 + 1) (k0 + (k * 4 + 1 : Nat))).set (k * 4 + 2) (k0 + (k * 4 + 2 : Nat))).set (k * 4 + 3) (k0 + (k * 4 + 3 : Nat))) = part ys k0 ((k + 1) * 4) := by
  rw [part_set _ _ (by omega), part_set _ _ (by omega), part_set _ _ (by omega), part_set _ _ (by omega), show k * 4 + 3 + 1 = (k + 1) * 4 by omega]
set_option maxHeartbeats 2000000 in
theorem markCodeS_any (v : Value) (n : Nat) (ys : List Int) (hys : ys.length = n * 4) (k0 : Int) (base : Nat) (w : World) (h : w.ownsRow base 42 4 v n (ys.map (Value.int .i64))) (hn : n ≤ 9223372036854775807) (hk0 : 0 ≤ k0) (hk1 : k0 + n * 4 ≤ 9223372036854775807) :
    Calls Tryd.prog 20 #[v, .int .i64 k0] w fun e w' => e = .returned (.int .i64 (k0 + n * 4)) ∧ w'.ownsRow base 42 4 v n ((marks k0 (n * 4)).map (Value.int .i64)) ∧ Wr w w' (fun b => v.ownBlock = some b) := by
  rcases h.2 with ⟨rfl, h1⟩ | ⟨gb, cap, cur, rfl, hbg, hgg, hnc, hcm, _⟩
  · subst h1
    have hx : ys = [] := List.eq_nil_of_length_eq_zero (by simpa using hys)
    subst hx
    go_enter Tryd.func20, Tryd.ntmps20
    go_wp2_with fail
    refine wp_loop_rounds 1 ?_
    rw [rounds_succ]
    go_wp2
    go_ret
    exact ⟨by simp, by simpa [marks] using h, Wr.refl _ _⟩
  · have hcm' : cap ≤ 9223372036854775807 := by unfold maxLen at hcm; omega
    clear hgg
    have HYS := Lib.hid hys
    clear hys
    go_enter Tryd.func20, Tryd.ntmps20
    go_wp2_with fail
    go_loopg [1, 5] n (fun g m i wr => ∃ k : Nat, k + g = n ∧ i = .int .i64 k ∧ m = .int .i64 (k0 + k * 4) ∧ wr.ownsRow base 42 4 (.slice (some ⟨gb, 0, none⟩) n cap) n ((part ys k0 (k * 4)).map (Value.int .i64)) ∧ Wr w wr (fun b => some gb = some b))
    case atStart => exact ⟨0, by omega, rfl, by go_num, by rw [Nat.zero_mul, part_zero]; exact h, Wr.refl _ _⟩
    case round =>
      clear h
      obtain ⟨k, hk, rfl, rfl, hown, hwr⟩ := hrel
      by_cases hlt : k < n
      · have hlen := part_length ys k0 (j := k * 4) (by have := HYS.out; omega)
        rw [HYS.out] at hlen
        have hst := stored4 hown (k * 4) (.int .i64 (k0 + k * 4)) (.int .i64 (k0 + k * 4 + 1)) (.int .i64 (k0 + k * 4 + 2)) (.int .i64 (k0 + k * 4 + 3))
        have hp := part4 ys k0 (k := k) (by have := HYS.out; omega)
        have e : ((((((part ys k0 (k * 4)).map (Value.int .i64)).set (k * 4) (.int .i64 (k0 + k * 4))).set (k * 4 + 1) (.int .i64 (k0 + k * 4 + 1))).set (k * 4 + 2) (.int .i64 (k0 + k * 4 + 2))).set (k * 4 + 3) (.int .i64 (k0 + k * 4 + 3))) = (part ys k0 ((k + 1) * 4)).map (Value.int .i64) := by
          rw [← hp, List.map_set, List.map_set, List.map_set, List.map_set]
          simp only [Int.natCast_add, Int.natCast_mul, Int.cast_ofNat_Int, Int.add_assoc]
        rw [e] at hst
        have hget := fun j (hj : j < n * 4) => (get_lt (show j < (part ys k0 (k * 4)).length by omega))
        have hold := fun j (hj : j < n * 4) => hown.cellAt j hj
        have g : ∀ j, j < n * 4 → ∃ u, wr.cell? ⟨gb, j, none⟩ = some u := fun j hj => by
          obtain ⟨y, hy⟩ := hget j hj
          exact ⟨.int .i64 y, by rw [hold j hj]; simp [hy]⟩
        obtain ⟨u0, g0⟩ := g (k * 4) (by omega)
        obtain ⟨u1, g1⟩ := g (k * 4 + 1) (by omega)
        obtain ⟨u2, g2⟩ := g (k * 4 + 2) (by omega)
        obtain ⟨u3, g3⟩ := g (k * 4 + 3) (by omega)
        have f0 := hown.frozenAt (k * 4)
        have f1 := hown.frozenAt (k * 4 + 1)
        have f2 := hown.frozenAt (k * 4 + 2)
        have f3 := hown.frozenAt (k * 4 + 3)
        have HST := Lib.hid hst.1
        have HW := Lib.hid (hwr.trans (Wr.of_grown hst.2))
        have s1 : k0 + k * 4 + 1 + 1 = k0 + k * 4 + 2 := by omega
        have s2 : k0 + k * 4 + 2 + 1 = k0 + k * 4 + 3 := by omega
        have s3 : k0 + k * 4 + 3 + 1 = k0 + k * 4 + 4 := by omega
        clear hst hown hlen hget hold g hp e
        go_wp2
        go_roundg (n - (k + 1))
        case measure => omega
        case rel => exact ⟨k + 1, by omega, by go_num, by go_num, HST.out, HW.out⟩
      · have hkn : n = k := by omega
        have hall := part_all ys k0 (j := k * 4) (by have := HYS.out; omega)
        rw [hall, ← hkn] at hown
        have HK := Lib.hid hkn
        clear hkn hall
        go_wp2
        go_ret
        exact ⟨by rw [HK.out]; rfl, hown, hwr⟩
set_option maxHeartbeats 2000000 in
theorem heldCodeS_any (v : Value) (n : Nat) (k0 : Int) (w : World) (h : Rd w v 4 n ((marks k0 (n * 4)).map (Value.int .i64))) (hk0 : 0 ≤ k0) (hk1 : k0 + n * 4 ≤ 9223372036854775807) :
    Calls Tryd.prog 21 #[v, .int .i64 k0] w fun e w' => e = .returned (.int .i64 (k0 + n * 4)) ∧ w = w' := by
  obtain ⟨_, a, c, rfl, hnc, hcm, hcell⟩ := h
  have hcm' : c ≤ 9223372036854775807 := by unfold maxLen at hcm; omega
  clear hcm
  have hget : ∀ k, k < n → ∃ b off, a = some ⟨b, off, none⟩ ∧ w.cell? ⟨b, off + k * 4, none⟩ = some (.int .i64 (k0 + k * 4)) ∧ w.cell? ⟨b, off + k * 4 + 1, none⟩ = some (.int .i64 (k0 + k * 4 + 1)) ∧ w.cell? ⟨b, off + k * 4 + 2, none⟩ = some (.int .i64 (k0 + k * 4 + 1 + 1)) ∧ w.cell? ⟨b, off + k * 4 + 3, none⟩ = some (.int .i64 (k0 + k * 4 + 1 + 1 + 1)) := fun k hk => by
    obtain ⟨b, off, ha, _, hc⟩ := hcell (by omega)
    have g : ∀ j, j < n * 4 → w.cell? ⟨b, off + j, none⟩ = some (.int .i64 (k0 + (j : Nat))) := fun j hj => hc j _ (by rw [List.getElem?_map, marks_get k0 hj]; rfl)
    refine ⟨b, off, ha, ?_, ?_, ?_, ?_⟩
    · rw [g (k * 4) (by omega), show k0 + ((k * 4 : Nat) : Int) = k0 + k * 4 by omega]
    · rw [Nat.add_assoc, g (k * 4 + 1) (by omega), show k0 + ((k * 4 + 1 : Nat) : Int) = k0 + k * 4 + 1 by omega]
    · rw [Nat.add_assoc, g (k * 4 + 2) (by omega), show k0 + ((k * 4 + 2 : Nat) : Int) = k0 + k * 4 + 1 + 1 by omega]
    · rw [Nat.add_assoc, g (k * 4 + 3) (by omega), show k0 + ((k * 4 + 3 : Nat) : Int) = k0 + k * 4 + 1 + 1 + 1 by omega]
  clear hcell
  go_enter Tryd.func21, Tryd.ntmps21
  go_wp2_with fail
  go_loopg [1, 5] n (fun g m i wr => ∃ k : Nat, k + g = n ∧ i = .int .i64 k ∧ m = .int .i64 (k0 + k * 4) ∧ wr = w)
  case atStart => exact ⟨0, by omega, rfl, by go_num, rfl⟩
  case round =>
    obtain ⟨k, hk, rfl, rfl, rfl⟩ := hrel
    by_cases hlt : k < n
    · obtain ⟨b, off, rfl, c0, c1, c2, c3⟩ := hget k hlt
      clear hget
      go_wp2
      go_roundg (n - (k + 1))
      case measure => omega
      case rel => exact ⟨k + 1, by omega, by go_num, by go_num, rfl⟩
    · have hkn : n = k := by omega
      have HK := Lib.hid hkn
      clear hget hkn
      go_wp2
      go_ret
      exact ⟨by rw [HK.out]; rfl, rfl⟩
end Go.Proofs.YtidmjeehcmpjnaaDoor
