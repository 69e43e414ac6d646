/- YtgmaffoljdmkpaaMasks: what the functions on masks return, in the program and in the reference: MaskLanes, MaskOf, MaskMany; and MemoryValid. No conditions but that a number that is counted is from 0 to 255. -/
import Derived.Test.YtgmaffoljdmkpaaMemI
namespace Go.Proofs.Ytgmaffoljdmkpaa
open Go.ChangeShapes Go.WideShapes Go.ChangeAt Go.RowKit

theorem ret_i {k : IntKind} {a b : Int} (h : a = b) : Ending.returned (.int k a) = .returned (.int k b) := by rw [h]

def bitB (m : Int) (k : Nat) : Bool := m / 2 ^ k % 2 == 1
theorem and_one {x : Int} (h0 : 0 ≤ x) (h1 : x ≤ 255) : bits .and .i64 x 1 = x % 2 := by
  obtain ⟨k, rfl⟩ : ∃ k : Nat, x = k := ⟨x.toNat, by omega⟩
  have hk : k < 256 := by omega
  clear h0 h1
  revert k
  decide +kernel
theorem shr_bd {m : Int} (k : Nat) (h : 0 ≤ m ∧ m ≤ 255) : 0 ≤ m / 2 ^ k ∧ m / 2 ^ k ≤ 255 := by
  have hp : (0 : Int) < 2 ^ k := Int.pow_pos (by decide)
  exact ⟨Int.ediv_nonneg h.1 (Int.le_of_lt hp), Int.le_trans (Int.ediv_le_self _ h.1) h.2⟩
/-- The lanes below n that are in the mask m. -/
def lanesL (m : Int) (n : Nat) : List Int := ((List.range n).filter (bitB m)).map fun (k : Nat) => (k : Int)
theorem lanesL_yes {m : Int} {k : Nat} (h : bitB m k = true) : lanesL m (k + 1) = lanesL m k ++ [(k : Int)] := by simp [lanesL, List.range_succ, List.filter_append, h]
theorem lanesL_no {m : Int} {k : Nat} (h : bitB m k = false) : lanesL m (k + 1) = lanesL m k := by simp [lanesL, List.range_succ, List.filter_append, h]
theorem lanesL_le (m : Int) (n : Nat) : (lanesL m n).length ≤ n := by
  unfold lanesL
  rw [List.length_map]
  have := List.length_filter_le (bitB m) (List.range n)
  simpa using this
theorem lanesL_wf (m : Int) {n : Nat} (h : n ≤ 100) : ∀ x ∈ lanesL m n, (Lit.int .i64 x).wf = true := by
  intro x hx
  obtain ⟨k, hk, rfl⟩ := List.mem_map.1 hx
  have := List.mem_range.1 ((List.mem_filter.1 hk).1)
  exact WalkArith.wf_i64 (by omega)
def pop (m : Int) : Int := m % 2 + m / 2 % 2 + m / 4 % 2 + m / 8 % 2 + m / 16 % 2 + m / 32 % 2 + m / 64 % 2 + m / 128 % 2
theorem lanes_all : ∀ l : Nat, l < 9 → ∀ m : Nat, m < 2 ^ l → lanesL (m : Int) 8 = lanesL (m : Int) l ∧ ((lanesL (m : Int) l).length : Int) = pop (m : Int) := by decide +kernel
theorem maskValid_i {m l : Int} (h : maskValid m l = true) : 1 ≤ l ∧ l ≤ 8 ∧ 0 ≤ m ∧ m < 2 ^ l.toNat := by
  simp only [maskValid, Bool.and_eq_true] at h
  have h1 := inB_i h.1
  have h2 := inB_i h.2
  rw [maskAll_in h.1] at h2
  omega
theorem lanes_valid {m l : Int} (h : maskValid m l = true) : lanesL m 8 = lanesL m l.toNat ∧ ((lanesL m l.toNat).length : Int) = pop m := by
  obtain ⟨h1, h2, h3, h4⟩ := maskValid_i h
  have h5 := lanes_all l.toNat (by omega) m.toNat (by
    have e : (m.toNat : Int) < ((2 ^ l.toNat : Nat) : Int) := by
      rw [Int.toNat_of_nonneg h3]; simpa using h4
    omega)
  rwa [Int.toNat_of_nonneg h3] at h5
theorem maskValid_bd {m l : Int} (h : maskValid m l = true) : 0 ≤ m ∧ m ≤ 255 := by
  obtain ⟨h1, h2, h3, h4⟩ := maskValid_i h
  have := pow_le ⟨h1, h2⟩
  omega

set_option maxHeartbeats 1000000 in
theorem lanesOf_any (m : Int) (w : World) (h : 0 ≤ m ∧ m ≤ 255) : Calls Try.prog 63 #[.int .i64 m] w (NewI w (lanesL m 8)) := by
  go_enter Try.func63, Try.ntmps63
  go_wp2_with fail
  go_loopg [3, 5] 8 (fun g v i wr => ∃ (k : Nat), k + g = 8 ∧ i = .int .i64 k ∧ wr.ownsRow w.heap.size 3 1 v (lanesL m k).length ((lanesL m k).map (Value.int .i64)) ∧ Below w.heap.size w wr)
  case atStart => exact ⟨0, by omega, rfl, World.ownsRow_nil _ _ _ _, Below.refl _ _⟩
  case round =>
    obtain ⟨k, hk, rfl, hown, hbl⟩ := hrel
    by_cases hlt : k < 8
    · have hsb := shr_bd k h
      have hle := lanesL_le m k
      cases hbit : bitB m k
      · have ht : (bits BinOp.and IntKind.i64 (m / 2 ^ k) 1 == 1) = false := by rw [and_one hsb.1 hsb.2]; exact hbit
        have hl := lanesL_no hbit
        rw [← hl] at hown
        clear hbit hl hle
        go_wp2
        go_roundg (8 - (k + 1))
        case measure => omega
        case rel => exact ⟨k + 1, by omega, by go_num, hown, hbl⟩
      · have ht : (bits BinOp.and IntKind.i64 (m / 2 ^ k) 1 == 1) = true := by rw [and_one hsb.1 hsb.2]; exact hbit
        have hl := lanesL_yes hbit
        have HL := Lib.hid hl
        have hsz := hbl.size
        clear hbit hl
        go_wp2_with (at_builtin; refine wpList_app1 wr rfl _ _ 30 3 rfl w.heap.size 1 8 [.int .i64 k] (.int .i64 0) Try.underlying30 infoInt rfl (by decide) rfl (by intro u hu; simp at hu; subst hu; rfl) _ _ _ hown rfl rfl (by omega) (by omega) (by omega) ?_)
        intro v' w' ho2 _ hbb
        have hb2 := hbb _ _ (Nat.le_refl _) hbl
        have ho3 : w'.ownsRow w.heap.size 3 1 v' (lanesL m (k + 1)).length ((lanesL m (k + 1)).map (Value.int .i64)) := by rw [HL.out]; simpa using ho2
        clear hown ho2 hbb hbl hsz
        go_wp2
        go_roundg (8 - (k + 1))
        case measure => omega
        case rel => exact ⟨k + 1, by omega, by go_num, ho3, hb2⟩
    · obtain rfl : k = 8 := by omega
      go_wp2
      go_ret
      exact ⟨_, rfl, hown, hbl⟩
theorem implMaskLanes (m l : Int) (w : World) : Calls Try.prog 41 #[.int .i64 m, .int .i64 l] w (NewI w (if maskValid m l then lanesL m l.toNat else [])) := by
  cases hv : maskValid m l
  · go_enter Try.func41, Try.ntmps41
    go_wp2_with (go_at_call 16; refine (implMaskValid _ _ _).mono ?_; rintro e w' ⟨rfl, rfl⟩)
    go_ret
    exact ⟨_, rfl, World.ownsRow_nil _ _ _ _, Below.refl _ _⟩
  · have h1 := (lanes_valid hv).1
    have h2 := maskValid_bd hv
    have H1 := Lib.hid h1
    clear h1
    go_enter Try.func41, Try.ntmps41
    go_wp2_with (first | (go_at_call 16; refine (implMaskValid _ _ _).mono ?_; rintro e w' ⟨rfl, rfl⟩) | (go_at_call 63; refine (lanesOf_any _ _ h2).mono ?_; rintro e w1 ⟨v1, rfl, ho1, hb1⟩))
    go_ret
    exact ⟨_, rfl, by rw [← H1.out]; exact ho1, hb1⟩
set_option maxHeartbeats 1000000 in
theorem specMaskLanes (m l : Int) (w : World) : Calls Try.prog 44 #[.int .i64 m, .int .i64 l] w (NewI w (if maskValid m l then lanesL m l.toNat else [])) := by
  cases hv : maskValid m l
  · go_enter Try.func44, Try.ntmps44
    by_cases h0 : 0 < l
    · go_wp2_with fail
      refine wp_loop_rounds 1 ?_
      rw [rounds_succ]
      go_wp2_with (go_at_call 17; refine (specMaskValid _ _ _).mono ?_; rintro e w' ⟨rfl, rfl⟩)
      go_ret
      exact ⟨_, rfl, World.ownsRow_lit w #[] 0 (Nat.le_refl _) (by decide) rfl, (Below.refl _ _).alloc (Nat.le_refl _) _⟩
    · go_wp2_with fail
      refine wp_loop_rounds 1 ?_
      rw [rounds_succ]
      go_wp2_with (go_at_call 17; refine (specMaskValid _ _ _).mono ?_; rintro e w' ⟨rfl, rfl⟩)
      go_ret
      exact ⟨_, rfl, World.ownsRow_lit w #[] 0 (Nat.le_refl _) (by decide) rfl, (Below.refl _ _).alloc (Nat.le_refl _) _⟩
  · obtain ⟨b1, b2, _, _⟩ := maskValid_i hv
    have hmb := maskValid_bd hv
    obtain ⟨n, rfl⟩ : ∃ n : Nat, l = n := ⟨l.toNat, by omega⟩
    go_enter Try.func44, Try.ntmps44
    go_wp2_with fail
    go_loopg [5, 6] n (fun g v i wr => ∃ (k : Nat), k + g = n ∧ i = .int .i64 k ∧ wr.ownsRow w.heap.size 3 1 v (lanesL m k).length ((lanesL m k).map (Value.int .i64)) ∧ Below w.heap.size w wr)
    case atStart => exact ⟨0, by omega, rfl, World.ownsRow_lit w #[] 0 (Nat.le_refl _) (by decide) rfl, (Below.refl _ _).alloc (Nat.le_refl _) _⟩
    case round =>
      obtain ⟨k, hk, rfl, hown, hbl⟩ := hrel
      by_cases hlt : k < n
      · have hsb := shr_bd k hmb
        have hle := lanesL_le m k
        cases hbit : bitB m k
        · have ht : (m / 2 ^ k % 2 == 1) = false := hbit
          have hl := lanesL_no hbit
          rw [← hl] at hown
          clear hbit hl hle
          go_wp2_with (go_at_call 17; refine (specMaskValid _ _ _).mono ?_; rintro e w' ⟨rfl, rfl⟩)
          go_roundg (n - (k + 1))
          case measure => omega
          case rel => exact ⟨k + 1, by omega, by go_num, hown, hbl⟩
        · have ht : (m / 2 ^ k % 2 == 1) = true := hbit
          have hl := lanesL_yes hbit
          have HL := Lib.hid hl
          have hsz := hbl.size
          clear hbit hl
          go_wp2_with (first | (go_at_call 17; refine (specMaskValid _ _ _).mono ?_; rintro e w' ⟨rfl, rfl⟩) | (at_builtin; refine wpList_app1 wr rfl _ _ 30 3 rfl w.heap.size 1 8 [.int .i64 k] (.int .i64 0) Try.underlying30 infoInt rfl (by decide) rfl (by intro u hu; simp at hu; subst hu; rfl) _ _ _ hown rfl rfl (by omega) (by omega) (by omega) ?_))
          intro v' w' ho2 _ hbb
          have hb2 := hbb _ _ (Nat.le_refl _) hbl
          have ho3 : w'.ownsRow w.heap.size 3 1 v' (lanesL m (k + 1)).length ((lanesL m (k + 1)).map (Value.int .i64)) := by rw [HL.out]; simpa using ho2
          clear hown ho2 hbb hbl hsz
          go_wp2
          go_roundg (n - (k + 1))
          case measure => omega
          case rel => exact ⟨k + 1, by omega, by go_num, ho3, hb2⟩
      · obtain rfl : k = n := by omega
        go_wp2_with (go_at_call 17; refine (specMaskValid _ _ _).mono ?_; rintro e w' ⟨rfl, rfl⟩)
        go_ret
        exact ⟨_, rfl, hown, hbl⟩
theorem ones64 (m : Int) (w : World) (h : 0 ≤ m ∧ m ≤ 255) : Calls Try.prog 67 #[.int .u64 m] w fun e w' => e = .returned (.int .i64 (pop m)) ∧ w = w' := by
  go_enter Try.func67, Try.ntmps67
  go_wp2
  go_ret
  refine ⟨ret_i ?_, rfl⟩
  obtain ⟨k, rfl⟩ : ∃ k : Nat, m = k := ⟨m.toNat, by omega⟩
  have hk : k < 256 := by omega
  clear h
  revert k
  decide +kernel
theorem ones (m : Int) (w : World) (h : 0 ≤ m ∧ m ≤ 255) : Calls Try.prog 65 #[.int .u64 m] w fun e w' => e = .returned (.int .i64 (pop m)) ∧ w = w' := by
  go_enter Try.func65, Try.ntmps65
  go_wp2_with (go_at_call 67; refine (ones64 _ _ h).mono ?_; rintro e w' ⟨rfl, rfl⟩)
  all_goals go_ret
  all_goals exact ⟨rfl, rfl⟩
theorem maskMany_any (m : Int) (w : World) (h : 0 ≤ m ∧ m ≤ 255) : Calls Try.prog 62 #[.int .i64 m] w fun e w' => e = .returned (.int .i64 (pop m)) ∧ w = w' := by
  go_enter Try.func62, Try.ntmps62
  go_wp2_with (go_at_call 65; refine (ones _ _ h).mono ?_; rintro e w' ⟨rfl, rfl⟩)
  go_ret
  exact ⟨rfl, rfl⟩
def mMany (m l : Int) : Int := if maskValid m l then pop m else -1
theorem implMaskMany (m l : Int) (w : World) : Calls Try.prog 40 #[.int .i64 m, .int .i64 l] w fun e w' => e = .returned (.int .i64 (mMany m l)) ∧ w = w' := by
  cases hv : maskValid m l
  · have hm : mMany m l = -1 := by simp [mMany, hv]
    have H := Lib.hid hm
    clear hm
    go_enter Try.func40, Try.ntmps40
    go_wp2_with (go_at_call 16; refine (implMaskValid _ _ _).mono ?_; rintro e w' ⟨rfl, rfl⟩)
    go_ret
    exact ⟨by rw [H.out]; rfl, rfl⟩
  · have hm : mMany m l = pop m := by simp [mMany, hv]
    have H := Lib.hid hm
    have h2 := maskValid_bd hv
    clear hm
    go_enter Try.func40, Try.ntmps40
    go_wp2_with (first | (go_at_call 16; refine (implMaskValid _ _ _).mono ?_; rintro e w' ⟨rfl, rfl⟩) | (go_at_call 62; refine (maskMany_any _ _ h2).mono ?_; rintro e w' ⟨rfl, rfl⟩))
    go_ret
    exact ⟨by rw [H.out]; rfl, rfl⟩
theorem specMaskMany (m l : Int) (w : World) : Calls Try.prog 46 #[.int .i64 m, .int .i64 l] w fun e w' => e = .returned (.int .i64 (mMany m l)) ∧ Below w.heap.size w w' := by
  cases hv : maskValid m l
  · have hm : mMany m l = -1 := by simp [mMany, hv]
    have H := Lib.hid hm
    clear hm
    go_enter Try.func46, Try.ntmps46
    go_wp2_with (go_at_call 17; refine (specMaskValid _ _ _).mono ?_; rintro e w' ⟨rfl, rfl⟩)
    go_ret
    exact ⟨by rw [H.out]; rfl, Below.refl _ _⟩
  · have hm : mMany m l = ((lanesL m l.toNat).length : Int) := by rw [(lanes_valid hv).2]; simp [mMany, hv]
    have hs := specMaskLanes m l w
    rw [hv, if_pos rfl] at hs
    have HS := Lib.hid hs
    have H := Lib.hid hm
    clear hm hs
    go_enter Try.func46, Try.ntmps46
    go_wp2_with (go_at_call 17; refine (specMaskValid _ _ _).mono ?_; rintro e w' ⟨rfl, rfl⟩)
    refine HS.out.mono ?_
    rintro e w1 ⟨v1, rfl, ho1, hb1⟩
    obtain ⟨a, c, hv1⟩ : ∃ a c, v1 = .slice a (lanesL m l.toNat).length c := by
      obtain ⟨_, a, c, h, _⟩ := rd_of_owns ho1
      exact ⟨a, c, h⟩
    subst hv1
    clear ho1
    go_wp2
    go_ret
    exact ⟨by rw [H.out]; rfl, hb1⟩
end Go.Proofs.Ytgmaffoljdmkpaa
