/- YtgmaffoljdmkpaaDrawM: the draws of masks, lanes and values: each returns numbers within bounds and leaves old memory as it was. Conditions: a reader's place is at most 1000000000. -/
import Derived.Test.YtgmaffoljdmkpaaDraw0
namespace Go.Proofs.Ytgmaffoljdmkpaa
open Go.ChangeShapes Go.WideShapes Go.ChangeAt Go.RowKit

/-- What a draw leaves: the reader at a later place; no other old block is written. -/
def Left (w : World) (a : Nat) (bs : List Int) (q : Int) (w' : World) : Prop := ∃ p, Rdr w' a bs p ∧ p ≤ q ∧ Wr w w' (fun b => b = a)
theorem wr_cells {w w' : World} {a : Nat} (h : Wr w w' (fun b => b = a)) : ∀ b o, b < w.heap.size → ¬ b = a → w'.cell? ⟨b, o, none⟩ = w.cell? ⟨b, o, none⟩ := fun _ _ hb hn => h.cell hb hn
theorem wr_alloc {w w' : World} {q : Nat → Prop} (h : Wr w w' q) (o : Obj) : Wr w (w'.alloc o) q := h.trans (Wr.of_below ((Below.refl _ _).alloc (Nat.le_refl _) _))
theorem wr_drew {w w' : World} {q : Nat → Prop} (h : Wr w w' q) : Wr w w'.drew q := ⟨h.os, h.tape, h.output, h.size, h.block⟩
theorem Rdr.alloc {w : World} {a : Nat} {bs : List Int} {p : Int} (h : Rdr w a bs p) (o : Obj) : Rdr (w.alloc o) a bs p := h.below ((Below.refl _ _).alloc (Nat.le_refl _) _) (Nat.le_refl _)
theorem Rdr.drew {w : World} {a : Nat} {bs : List Int} {p : Int} (h : Rdr w a bs p) : Rdr w.drew a bs p := h.below ((Below.refl _ _).drew) (Nat.le_refl _)

def MaskD (w : World) (a : Nat) (bs : List Int) (q : Int) (e : Ending) (w' : World) : Prop :=
  ∃ m l, e = .returned (.tuple #[.int .i64 m, .int .i64 l]) ∧ 0 ≤ l ∧ l ≤ 9 ∧ -1 ≤ m ∧ m ≤ 256 ∧ Left w a bs q w'

set_option maxHeartbeats 4000000 in
theorem l20Mask_any (a : Nat) (bs : List Int) (p : Int) (w : World) (h : Rdr w a bs p) (hp : p ≤ 1000000000) : Calls Try.prog 47 #[.pointer (some ⟨a, 0, none⟩)] w (MaskD w a bs (p + 6)) := by
  have hp0 := h.nn
  obtain ⟨b1, b2⟩ := pickV_bd bs p 8
  have hpw := pow_le (l := 1 + pickV bs p 8) (by omega)
  obtain ⟨b3, b4⟩ := pickV_bd bs (p + 1) (2 ^ (1 + pickV bs p 8).toNat)
  go_enter Try.func47, Try.ntmps47
  go_wp2_with fail
  refine (pick_any _ bs p 8 _ h (by omega) (by omega)).mono ?_
  rintro e w1 ⟨rfl, hr1, hw1⟩
  go_wp2_with fail
  refine (pick_any _ bs (p + 1) _ _ hr1 (by omega) (by omega)).mono ?_
  rintro e w2 ⟨rfl, hr2, hw2⟩
  generalize pickV bs p 8 = V at *
  generalize pickV bs (p + 1) (2 ^ (1 + V).toNat) = M at *
  go_wp2_with fail
  refine (odd_any _ bs (p + 1 + 1) _ _ hr2 (by omega) (by omega) (by omega)).mono ?_
  rintro e w3 ⟨rfl, ⟨p3, hr3, _, _, hp3⟩, hw3⟩
  obtain rfl := hp3 (by omega)
  clear hp3
  have hW3 := (hw1.trans hw2).trans hw3
  clear hw1 hw2 hw3 hr1 hr2 h
  cases hodd : oddV bs (p + 1 + 1) 6
  · go_wp2_with fail
    refine (odd_any _ bs (p + 1 + 1 + 1) _ _ hr3 (by omega) (by omega) (by omega)).mono ?_
    rintro e w4 ⟨rfl, ⟨p4, hr4, hq1, hq2, _⟩, hw4⟩
    have hW4 := hW3.trans hw4
    cases hodd2 : oddV bs (p + 1 + 1 + 1) 14
    · go_wp2
      go_ret2
      exact ⟨M, 1 + V, rfl, by omega, by omega, by omega, by omega, p4, hr4, by omega, hW4⟩
    · go_wp2_with fail
      obtain ⟨b5, b6⟩ := pickV_bd bs p4 2
      refine (pick_any _ bs p4 _ _ (hr4.alloc _) (by omega) (by omega)).mono ?_
      rintro e w5 ⟨rfl, hr5, hw5⟩
      have hq5 := wr_cells hw5
      have hW5 := (wr_alloc hW4 _).trans hw5
      have hlt := hr4.lt
      have hne : ¬ w4.heap.size = a := by omega
      rcases (show pickV bs p4 2 = 0 ∨ pickV bs p4 2 = 1 by omega) with hv | hv
      · rw [hv]
        go_wp2
        go_ret2
        exact ⟨M, 0, rfl, by omega, by omega, by omega, by omega, p4 + 1, hr5, by omega, hW5⟩
      · rw [hv]
        go_wp2
        go_ret2
        exact ⟨M, 9, rfl, by omega, by omega, by omega, by omega, p4 + 1, hr5, by omega, hW5⟩
  · have hlt3 := hr3.lt
    have hne : ¬ w3.heap.size = a := by omega
    obtain ⟨b5, b6⟩ := pickV_bd bs (p + 1 + 1 + 1) 2
    have hv : pickV bs (p + 1 + 1 + 1) 2 = 0 ∨ pickV bs (p + 1 + 1 + 1) 2 = 1 := by omega
    have hwr : IntKind.i64.wrap (2 ^ (1 + V).toNat) = 2 ^ (1 + V).toNat := IntWalk.i64_in _ (by omega)
    rcases hv with hv | hv
    all_goals
      go_wp2_with fail
      go_region_with (go_at_call 58; refine (pick_any _ bs (p + 1 + 1 + 1) _ _ ?_ (by omega) (by omega)).mono ?_; (first | exact hr3.drew | exact hr3.drew.alloc _); rintro e w4 ⟨rfl, hr4, hw4⟩; have hq4 := wr_cells hw4; rw [hv])
    all_goals
      clear hq4
      go_wp2_with fail
      refine (odd_any _ bs (p + 1 + 1 + 1 + 1) _ _ ?_ (by omega) (by omega) (by omega)).mono ?_
      · first | exact hr4 | exact hr4.alloc _
      rintro e w5 ⟨rfl, ⟨p5, hr5, hq1, hq2, _⟩, hw5⟩
      have hW5 : Wr w w5 (fun b => b = a) := by first | exact ((wr_drew hW3).trans hw4).trans hw5 | exact ((wr_alloc (wr_drew hW3) _).trans hw4).trans hw5 | exact (wr_alloc ((wr_drew hW3).trans hw4) _).trans hw5
      clear hw4 hr4 hw5
      cases hodd2 : oddV bs (p + 1 + 1 + 1 + 1) 14
      · go_wp2
        go_ret2
        exact ⟨_, 1 + V, rfl, by omega, by omega, by omega, by omega, p5, hr5, by omega, hW5⟩
      · go_wp2_with fail
        obtain ⟨b7, b8⟩ := pickV_bd bs p5 2
        refine (pick_any _ bs p5 _ _ (hr5.alloc _) (by omega) (by omega)).mono ?_
        rintro e w6 ⟨rfl, hr6, hw6⟩
        have hq6 := wr_cells hw6
        have hW6 := (wr_alloc hW5 _).trans hw6
        have hlt := hr5.lt
        have hne5 : ¬ w5.heap.size = a := by omega
        rcases (show pickV bs p5 2 = 0 ∨ pickV bs p5 2 = 1 by omega) with hv2 | hv2
        · rw [hv2]
          go_wp2
          go_ret2
          exact ⟨_, 0, rfl, by omega, by omega, by omega, by omega, p5 + 1, hr6, by omega, hW6⟩
        · rw [hv2]
          go_wp2
          go_ret2
          exact ⟨_, 9, rfl, by omega, by omega, by omega, by omega, p5 + 1, hr6, by omega, hW6⟩
end Go.Proofs.Ytgmaffoljdmkpaa
