/- YtidmjeehcmpjnaaDoorDrawX: the draws of texts of instructions: some text of at most 40 bytes; nothing that was there has changed but the reader. Conditions: a reader's place is at most 800000. -/
import Derived.Test.YtidmjeehcmpjnaaDoorDrawB
import Derived.Test.YtidmjeehcmpjnaaDoorTxtI
namespace Go.Proofs.YtidmjeehcmpjnaaDoor
open Go.ChangeShapes Go.WideShapes Go.ChangeAt Go.RowKit
set_option linter.unusedVariables false
/-- The texts that a bent text is picked from. -/
def bentL (t : List UInt8) : List (List UInt8) := [t ++ [32], [32] ++ t, t ++ [32, 48], [115, 101, 116, 32, 48, 32, 48, 55], [115, 101, 116, 32, 48, 32, 50, 53, 54], [65, 100, 100, 32, 49, 32, 50], [], [105, 102], [101, 110, 100, 32, 48], [112, 105, 99, 107, 32, 49, 32, 50], [115, 101, 116, 32, 32, 48, 32, 53]]
theorem bent_get (t : List UInt8) (h : t.length ≤ 19) {j : Nat} (hj : j < 11) : ∃ x, (bentL t)[j]? = some x ∧ x.length ≤ 40 := by
  obtain ⟨x, hx⟩ := get_lt (show j < (bentL t).length from hj)
  refine ⟨x, hx, ?_⟩
  have hm := List.mem_of_getElem? hx
  unfold bentL at hm
  simp only [List.mem_cons, List.not_mem_nil, or_false] at hm
  rcases hm with rfl | rfl | rfl | rfl | rfl | rfl | rfl | rfl | rfl | rfl | rfl <;> simp <;> omega
theorem bent_row (T : List UInt8) : (#[.string ((⟨T.toArray⟩ : ByteArray) ++ ⟨#[32]⟩), .string ((⟨#[32]⟩ : ByteArray) ++ ⟨T.toArray⟩), .string ((⟨T.toArray⟩ : ByteArray) ++ ⟨#[32, 48]⟩), .string ⟨#[115, 101, 116, 32, 48, 32, 48, 55]⟩, .string ⟨#[115, 101, 116, 32, 48, 32, 50, 53, 54]⟩, .string ⟨#[65, 100, 100, 32, 49, 32, 50]⟩, .string ⟨#[]⟩, .string ⟨#[105, 102]⟩, .string ⟨#[101, 110, 100, 32, 48]⟩, .string ⟨#[112, 105, 99, 107, 32, 49, 32, 50]⟩, .string ⟨#[115, 101, 116, 32, 32, 48, 32, 53]⟩] : Array Value) = (txts (bentL T)).toArray := by
  have e1 := bapp T [32]
  have e2 := bapp [32] T
  have e3 := bapp T [32, 48]
  rw [show (⟨T.toArray⟩ : ByteArray) ++ ⟨#[32]⟩ = ⟨(T ++ [32]).toArray⟩ from e1, show (⟨#[32]⟩ : ByteArray) ++ ⟨T.toArray⟩ = ⟨([32] ++ T).toArray⟩ from e2, show (⟨T.toArray⟩ : ByteArray) ++ ⟨#[32, 48]⟩ = ⟨(T ++ [32, 48]).toArray⟩ from e3]
  rfl
def TextD (w : World) (a : Nat) (bs : List Int) (q : Int) (e : Ending) (w' : World) : Prop := ∃ l : List UInt8, e = .returned (.string ⟨l.toArray⟩) ∧ l.length ≤ 40 ∧ Left w a bs q w'
theorem left_below {w w' w2 : World} {a : Nat} {bs : List Int} {q : Int} (h : Left w a bs q w') (hb : Below w'.heap.size w' w2) : Left w a bs q w2 := by
  obtain ⟨p, h1, h2, h3⟩ := h
  exact ⟨p, h1.below hb (Nat.le_refl _), h2, h3.trans (Wr.of_below hb)⟩
set_option maxRecDepth 100000 in
set_option maxHeartbeats 4000000 in
theorem l20Text_any (a : Nat) (bs : List Int) (p n : Int) (w : World) (h : Rdr w a bs p) (hp : p ≤ 800000) (hn0 : 0 ≤ n) (hn : n ≤ 1000000) : Calls Tryd.prog 53 #[.pointer (some ⟨a, 0, none⟩), .int .i64 n] w (TextD w a bs (p + 16)) := by
  have hp0 := h.nn
  have HR := Lib.hid h
  clear h
  go_enter Tryd.func53, Tryd.ntmps53
  go_wp2_with fail
  refine (l20Code_any a bs p 0 w HR.out (by omega) (by omega) (by omega)).mono ?_
  rintro e w1 ⟨c, rfl, hc, p1, hr1, hp1, hw1⟩
  go_wp2_with fail
  refine (specCodeText c w1).mono ?_
  rintro e w2 ⟨rfl, hb2⟩
  have hr2 := hr1.below hb2 (Nat.le_refl _)
  have hw2 := hw1.trans (Wr.of_below hb2)
  obtain ⟨T, hT⟩ : ∃ T, ctext c = T := ⟨_, rfl⟩
  have htl := ctext_len c
  rw [hT] at htl ⊢
  clear hT hc hw1 hb2 hr1
  go_wp2_with fail
  refine (odd_any a bs p1 n w2 hr2 (by omega) hn0 (by omega)).mono ?_
  rintro e w3 ⟨rfl, ⟨p2, hr3, hp2a, hp2b, _⟩, hw3⟩
  have hw3 := hw2.trans hw3
  have HL3 := Lib.hid (show Left w a bs (p + 16) w3 from ⟨p2, hr3, by omega, hw3⟩)
  cases oddV bs p1 n with
  | false =>
    clear hr2 hr3 hw2 hw3
    go_wp2
    go_ret
    exact ⟨T, rfl, by omega, HL3.out⟩
  | true =>
    have hpb := (pickV_bd bs p2 11).1
    have hpc := (pickV_bd bs p2 11).2 (by decide)
    go_wp2_with fail
    rw [bent_row]
    have hr4 := hr3.alloc (.cells (txts (bentL T)).toArray 9)
    have hg : (w3.alloc (.cells (txts (bentL T)).toArray 9)).heap[w3.heap.size]? = some (.cells (txts (bentL T)).toArray 9 (0, 0)) := heap_alloc_new _ _
    have hna : ¬ w3.heap.size = a := by have := hr3.lt; omega
    have hw4 : Wr w (w3.alloc (.cells (txts (bentL T)).toArray 9)) (fun b => b = a) := wr_alloc hw3 _
    refine (pick_any a bs p2 11 _ hr4 (by omega) (by decide)).mono ?_
    rintro e w4 ⟨rfl, hr5, hw5⟩
    obtain ⟨P, hP⟩ : ∃ P : Nat, pickV bs p2 11 = P := ⟨(pickV bs p2 11).toNat, by omega⟩
    rw [hP] at hpc ⊢
    obtain ⟨x, hx, hxl⟩ := bent_get T htl (j := P) (by omega)
    have hc : w4.cell? ⟨w3.heap.size, P, none⟩ = some (.string ⟨x.toArray⟩) := by
      rw [lit_cell2 hw5 hg hna P]
      have : (txts (bentL T))[P]? = some (.string ⟨x.toArray⟩) := by unfold txts; rw [List.getElem?_map, hx]; rfl
      simpa using this
    have HL5 := Lib.hid (show Left w a bs (p + 16) w4 from ⟨p2 + 1, hr5, by omega, hw4.trans hw5⟩)
    have hP11 : (P : Int) < 11 := by omega
    clear hr2 hr3 hr4 hr5 hw2 hw3 hw4 hw5 hg hP hpb hx HL3 hpc
    go_wp2
    go_ret
    exact ⟨x, rfl, hxl, HL5.out⟩
set_option maxHeartbeats 2000000 in
theorem DrawReadCode_any (v : Value) (bs0 : List Int) (w : World) (h : RdI .u8 w v bs0) : Calls Tryd.prog 45 #[v] w fun e w' => ∃ l : List UInt8, e = .returned (.string ⟨l.toArray⟩) ∧ l.length ≤ 40 ∧ Below w.heap.size w w' := by
  have HR := Lib.hid h
  clear h
  go_enter Tryd.func45, Tryd.ntmps45
  go_wp2_with fail
  refine (open_any _ bs0 _ HR.out).mono ?_
  rintro e w1 ⟨a, rfl, hr1, ha, hb1⟩
  go_wp2_with fail
  refine (l20Text_any a _ 0 3 w1 hr1 (by omega) (by omega) (by omega)).mono ?_
  rintro e w2 ⟨l, rfl, hl, p, _, _, hw2⟩
  have hB2 := Below.wr hb1 hw2 hb1.size (fun k hk => by omega)
  go_wp2
  go_ret
  exact ⟨l, rfl, hl, hB2⟩
end Go.Proofs.YtidmjeehcmpjnaaDoor
