/- YtidmjeehcmpjnaaDoorTxtN: numbers and names as texts, by the reference and the laws. Conditions: a number that is shown is at least 0. -/
import Derived.Test.YtidmjeehcmpjnaaDoorCardB
import Derived.Test.YtidmjeehcmpjnaaDoorCodeN
import Derived.Lib.ItoaLen
namespace Go.Proofs.YtidmjeehcmpjnaaDoor
open Go.ChangeShapes Go.WideShapes Go.ChangeAt Go.RowKit
set_option linter.unusedVariables false
theorem shown_any (op : Int) (w : World) (h : 1 ≤ op ∧ op ≤ 14) : Calls Tryd.prog 57 #[.int .i64 op] w fun e w' => e = .returned (.int .i64 (shownN op)) ∧ w = w' := by
  by_cases h1 : op = 1
  · subst h1
    go_enter Tryd.func57, Tryd.ntmps57
    go_wp2
    go_ret
    exact ⟨rfl, rfl⟩
  by_cases h13 : op = 13
  · subst h13
    go_enter Tryd.func57, Tryd.ntmps57
    go_wp2
    go_ret
    exact ⟨rfl, rfl⟩
  have e1 : (op == 1) = false := by simpa using h1
  have e13 : (op == 13) = false := by simpa using h13
  have hs : (shownN op : Int) = regsN op := by unfold shownN; rw [if_neg (by omega)]; rcases regsN_cases op with ⟨hr, _⟩ | ⟨hr, _⟩ | ⟨hr, _⟩ | ⟨hr, _⟩ <;> rw [hr] <;> rfl
  rw [hs]
  go_enter Tryd.func57, Tryd.ntmps57
  go_wp2_with (go_at_call 71; refine (registers_any _ _).mono ?_; rintro e w' ⟨rfl, rfl⟩)
  go_ret
  exact ⟨rfl, rfl⟩
set_option maxRecDepth 100000 in
set_option maxHeartbeats 2000000 in
theorem l5Name_any (op : Int) (w : World) (h : 1 ≤ op ∧ op ≤ 14) : Calls Tryd.prog 54 #[.int .i64 op] w fun e w' => e = .returned (.string ⟨(nm op).toArray⟩) ∧ Below w.heap.size w w' := by
  rcases (show op = 1 ∨ op = 2 ∨ op = 3 ∨ op = 4 ∨ op = 5 ∨ op = 6 ∨ op = 7 ∨ op = 8 ∨ op = 9 ∨ op = 10 ∨ op = 11 ∨ op = 12 ∨ op = 13 ∨ op = 14 by omega) with rfl | rfl | rfl | rfl | rfl | rfl | rfl | rfl | rfl | rfl | rfl | rfl | rfl | rfl
  all_goals
    go_enter Tryd.func54, Tryd.ntmps54
    go_wp2
    go_ret
    exact ⟨rfl, (Below.refl _ _).alloc (Nat.le_refl _) _⟩
def chr (x : Int) : UInt8 := UInt8.ofNat x.toNat
theorem chr_dig (k : Nat) : chr (48 + (k : Int) % 10) = UInt8.ofNat (48 + k % 10) := by unfold chr; congr 1
/-- 'string([]byte{x})', x a byte. -/
theorem conv1 (w : World) (x : Int) (h : 0 ≤ x ∧ x ≤ 255) : (convert 32 9 (.slice (some ⟨w.heap.size, 0, none⟩) 1 1)).run Tryd.prog (w.alloc (.cells #[.int .u8 x] 5)) = .ok (.string ⟨#[chr x]⟩) (w.alloc (.cells #[.int .u8 x] 5)) :=
  run_convert_bytes_back (w.alloc (.cells #[.int .u8 x] 5)) 32 9 5 ⟨w.heap.size, 0, none⟩ 1 [chr x] Tryd.underlying32 Tryd.underlying5 Tryd.underlying9 (fun j hj => by
    have hj0 : j = 0 := by simpa using hj
    subst hj0
    rw [Addr.add_lit, cell_of_row _ w.heap.size _ _ _ (0, 0) (heap_alloc_new w _)]
    simp only [List.getElem_cons_zero, chr, UInt8.toNat_ofNat']
    simp
    omega)
theorem bapp (a b : List UInt8) : (⟨a.toArray⟩ : ByteArray) ++ ⟨b.toArray⟩ = ⟨(a ++ b).toArray⟩ := by
  apply ByteArray.ext
  simp
theorem dec_step (m : Nat) : Lib.decDigits m = (if 9 < m then Lib.decDigits (m / 10) else []) ++ [chr (48 + (m : Int) % 10)] := by
  rw [chr_dig, Lib.decDigits]
  by_cases h : m < 10
  · rw [dif_pos h, if_neg (by omega), Nat.mod_eq_of_lt h]; rfl
  · rw [dif_neg h, if_pos (by omega)]
theorem dig_step (k : Nat) (l : List UInt8) (h : 9 < k) : (if 9 < k then dig (k / 10 : Nat) else []) ++ l = (if 9 < k / 10 then dig (k / 10 / 10 : Nat) else []) ++ (chr (48 + (k : Int) / 10 % 10) :: l) := by
  rw [if_pos h, dig_nat, dig_nat, dec_step (k / 10), List.append_assoc]
  rfl
theorem dig_len_le (m : Nat) (h : m ≤ 1000000) : (dig m).length ≤ 21 := by
  unfold dig
  exact Lib.itoa_length_le _ (by omega) (by omega)
set_option maxRecDepth 100000 in
theorem l5Number_any (n : Int) (w : World) (h : 0 ≤ n ∧ n ≤ 1000000) : Calls Tryd.prog 55 #[.int .i64 n] w fun e w' => e = .returned (.string ⟨(dig n).toArray⟩) ∧ Below w.heap.size w w' := by
  obtain ⟨m, rfl⟩ : ∃ m : Nat, n = m := ⟨n.toNat, by omega⟩
  have k1 := conv1 w (48 + m % 10) (by omega)
  have HM := Lib.hid (dig_len_le m (by omega))
  go_enter Tryd.func55, Tryd.ntmps55
  go_wp2
  clear k1
  go_loopg [0, 3] m (fun g n' out wr => ∃ (k : Nat) (l : List UInt8), n' = .int .i64 k ∧ out = .string ⟨l.toArray⟩ ∧ k ≤ 1000000 ∧ g = k ∧ Hid (dig m = (if 9 < k then dig (k / 10 : Nat) else []) ++ l) ∧ Below w.heap.size w wr)
  case atStart => exact ⟨m, [chr (48 + m % 10)], rfl, rfl, by omega, rfl, Lib.hid (by rw [dig_nat, dig_nat]; exact dec_step m), (Below.refl _ _).alloc (Nat.le_refl _) _⟩
  case round =>
    obtain ⟨k, l, rfl, rfl, hk, hg, hd, hb⟩ := hrel
    by_cases h9 : 9 < k
    · have k1 := conv1 wr (48 + (k : Int) / 10 % 10) (by omega)
      have HD := Lib.hid (hd.out.trans (dig_step k l h9))
      have hl : ¬ 9223372036854775807 < 1 + l.length := by
        have := congrArg List.length hd.out
        rw [List.length_append] at this
        have := HM.out
        omega
      have hb2 := hb.alloc hb.size (.cells #[.int .u8 (48 + (k : Int) / 10 % 10)] 5)
      obtain rfl := hg.symm
      clear hd hb
      go_wp2
      go_roundg (k / 10)
      case measure => omega
      case rel => exact ⟨k / 10, chr (48 + (k : Int) / 10 % 10) :: l, by go_num, congrArg Value.string (bapp [_] l), by omega, rfl, HD, hb2⟩
    · have hl : dig m = l := by have := hd.out; rw [if_neg (by omega)] at this; simpa using this
      subst hl
      go_wp2
      go_ret
      exact ⟨rfl, hb⟩
def mtext (k : Int) : List UInt8 := 109 :: (if k ≤ 0 then [48] else dig k)
theorem mt_step (k : Nat) (l : List UInt8) (h : 0 < k) : (if 0 < k then dig k else []) ++ l = (if 0 < k / 10 then dig (k / 10 : Nat) else []) ++ (chr (48 + (k : Int) % 10) :: l) := by
  rw [if_pos h, dig_nat, dig_nat, dec_step k, List.append_assoc]
  by_cases h9 : 9 < k
  · rw [if_pos h9, if_pos (by omega)]; rfl
  · rw [if_neg h9, if_neg (by omega)]; rfl
set_option maxRecDepth 100000 in
theorem markText_any (n : Int) (w : World) (h : n ≤ 9223372036854775807) : Calls Tryd.prog 47 #[.int .i64 n] w fun e w' => e = .returned (.string ⟨(mtext n).toArray⟩) ∧ Below w.heap.size w w' := by
  by_cases h0 : n ≤ 0
  · unfold mtext
    rw [if_pos h0]
    go_enter Tryd.func47, Tryd.ntmps47
    go_wp2
    go_ret
    exact ⟨rfl, Below.refl _ _⟩
  obtain ⟨m, rfl⟩ : ∃ m : Nat, n = m := ⟨n.toNat, by omega⟩
  have HM := Lib.hid (show (dig m).length ≤ 21 from Lib.itoa_length_le _ (by omega) (by omega))
  unfold mtext
  rw [if_neg h0]
  go_enter Tryd.func47, Tryd.ntmps47
  go_wp2
  go_loopg [0, 3] m (fun g n' out wr => ∃ (k : Nat) (l : List UInt8), n' = .int .i64 k ∧ out = .string ⟨l.toArray⟩ ∧ (k : Int) ≤ 9223372036854775807 ∧ g = k ∧ Hid (dig m = (if 0 < k then dig k else []) ++ l) ∧ Below w.heap.size w wr)
  case atStart => exact ⟨m, [], rfl, rfl, by omega, rfl, Lib.hid (by rw [if_pos (by omega), List.append_nil]), Below.refl _ _⟩
  case round =>
    obtain ⟨k, l, rfl, rfl, hk, hg, hd, hb⟩ := hrel
    have hl : ¬ 9223372036854775807 < 1 + l.length := by
      have := congrArg List.length hd.out
      rw [List.length_append] at this
      have := HM.out
      omega
    by_cases h9 : 0 < k
    · have k1 := conv1 wr (48 + (k : Int) % 10) (by omega)
      have HD := Lib.hid (hd.out.trans (mt_step k l h9))
      have hb2 := hb.alloc hb.size (.cells #[.int .u8 (48 + (k : Int) % 10)] 5)
      obtain rfl := hg.symm
      clear hd hb
      go_wp2
      go_roundg (k / 10)
      case measure => omega
      case rel => exact ⟨k / 10, chr (48 + (k : Int) % 10) :: l, by go_num, congrArg Value.string (bapp [_] l), by omega, rfl, HD, hb2⟩
    · have hlm : dig m = l := by have := hd.out; rw [if_neg (by omega)] at this; simpa using this
      subst hlm
      go_wp2
      go_ret
      exact ⟨congrArg (fun x => Ending.returned (Value.string x)) (bapp [109] _), hb⟩
end Go.Proofs.YtidmjeehcmpjnaaDoor
