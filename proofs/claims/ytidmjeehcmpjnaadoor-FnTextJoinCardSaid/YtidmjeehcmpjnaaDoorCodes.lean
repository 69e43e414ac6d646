/- YtidmjeehcmpjnaaDoorCodes: what the functions on instructions return, in the program and in the reference. No conditions. -/
import Derived.Test.YtidmjeehcmpjnaaDoorCodeM
namespace Go.Proofs.YtidmjeehcmpjnaaDoor
open Go.ChangeShapes Go.WideShapes Go.ChangeAt Go.RowKit
set_option linter.unusedVariables false

theorem below_box (c : Cd) (w : World) : Below w.heap.size w (w.alloc (.cells #[.int .i64 c.op, .int .i64 c.a, .int .i64 c.b, .int .i64 c.c] 42)) := (Below.refl _ _).alloc (Nat.le_refl _) _
theorem isReg_any (n : Int) (w : World) : Calls Tryd.prog 72 #[.int .i64 n] w fun e w' => e = .returned (.bool (inB n 0 3)) ∧ w = w' := by
  go_enter Tryd.func72, Tryd.ntmps72
  go_wp2_with (go_at_call 74; refine (within_any _ _ _ _).mono ?_; rintro e w' ⟨rfl, rfl⟩)
  go_ret
  exact ⟨rfl, rfl⟩
set_option maxHeartbeats 1000000 in
theorem registers_any (op : Int) (w : World) : Calls Tryd.prog 71 #[.int .i64 op] w fun e w' => e = .returned (.int .i64 (regsN op)) ∧ w = w' := by
  rcases regsN_cases op with ⟨hr, h1⟩ | ⟨hr, h1⟩ | ⟨hr, h1⟩ | ⟨hr, h1⟩
  · have HR := Lib.hid hr
    clear hr
    rcases h1 with rfl | rfl | rfl | rfl
    all_goals
      go_enter Tryd.func71, Tryd.ntmps71
      go_wp2
      go_ret
      exact ⟨by rw [HR.out]; rfl, rfl⟩
  · have HR := Lib.hid hr
    clear hr
    rcases h1 with rfl | rfl | rfl | rfl | rfl
    all_goals
      go_enter Tryd.func71, Tryd.ntmps71
      go_wp2
      go_ret
      exact ⟨by rw [HR.out]; rfl, rfl⟩
  · have HR := Lib.hid hr
    clear hr
    rcases h1 with rfl | rfl
    all_goals
      go_enter Tryd.func71, Tryd.ntmps71
      go_wp2
      go_ret
      exact ⟨by rw [HR.out]; rfl, rfl⟩
  · have HR := Lib.hid hr
    clear hr
    rcases h1 with rfl | rfl | rfl | h1 | h1
    all_goals
      go_enter Tryd.func71, Tryd.ntmps71
      go_wp2
      go_ret
      exact ⟨by rw [HR.out]; rfl, rfl⟩
set_option maxHeartbeats 4000000 in
theorem implCodeValid (c : Cd) (w : World) : Calls Tryd.prog 56 #[.agg #[.int .i64 c.op, .int .i64 c.a, .int .i64 c.b, .int .i64 c.c]] w fun e w' => e = .returned (.bool (cValid c)) ∧ Below w.heap.size w w' := by
  have hB := (below_box c w).alloc (by simp) (.cells #[.int .i64 c.a, .int .i64 c.b, .int .i64 c.c] 3)
  have hcell : ∀ k, k < 3 → ((w.alloc (.cells #[.int .i64 c.op, .int .i64 c.a, .int .i64 c.b, .int .i64 c.c] 42)).alloc (.cells #[.int .i64 c.a, .int .i64 c.b, .int .i64 c.c] 3)).cell? ⟨w.heap.size + 1, k, none⟩ = some (.int .i64 (c.arg k)) := by
    intro k hk
    have hx := cell_of_row _ _ k #[.int .i64 c.a, .int .i64 c.b, .int .i64 c.c] 3 (0, 0) (heap_alloc_new (w.alloc (.cells #[.int .i64 c.op, .int .i64 c.a, .int .i64 c.b, .int .i64 c.c] 42)) _)
    rw [World.size_alloc] at hx
    rw [hx]
    rcases (show k = 0 ∨ k = 1 ∨ k = 2 by omega) with rfl | rfl | rfl <;> rfl
  have HC := Lib.hid hcell
  clear hcell
  go_enter Tryd.func56, Tryd.ntmps56
  go_wp2_with fail
  go_loopg [15] 3 (fun g i wr => ∃ k : Nat, k + g = 3 ∧ i = .int .i64 k ∧ cValid c = cFrom3 c k ∧ wr = (w.alloc (.cells #[.int .i64 c.op, .int .i64 c.a, .int .i64 c.b, .int .i64 c.c] 42)).alloc (.cells #[.int .i64 c.a, .int .i64 c.b, .int .i64 c.c] 3))
  case atStart => exact ⟨0, by omega, rfl, rfl, rfl⟩
  case round =>
    obtain ⟨k, hk, rfl, hs, rfl⟩ := hrel
    by_cases hlt : k < 3
    · have hc := HC.out k hlt
      rw [cFrom3_step c hlt] at hs
      obtain ⟨X, hX⟩ : ∃ X, c.arg k = X := ⟨_, rfl⟩
      rw [hX] at hc hs
      clear hX
      have hno : okAt c.op k X = false → Hid (cValid c = false) := fun h => Lib.hid (by rw [hs, h]; rfl)
      have hyes : okAt c.op k X = true → Hid (cValid c = cFrom3 c (k + 1)) := fun h => Lib.hid (by rw [hs, h]; rfl)
      by_cases h1 : (k : Int) < regsN c.op
      · have ho := okAt_reg X h1
        obtain ⟨R, hR⟩ : ∃ R, regsN c.op = R := ⟨_, rfl⟩
        have HRr := Lib.hid hR
        cases hv : inB X 0 3
        · have HS := hno (ho.trans hv)
          clear hs hno hyes ho hR
          go_wp2_with (first | (go_at_call 71; refine (registers_any _ _).mono ?_; rintro e w' ⟨rfl, rfl⟩) | (go_at_call 72; refine (isReg_any _ _).mono ?_; rintro e w' ⟨rfl, rfl⟩))
          go_ret
          exact ⟨by rw [HS.out]; rfl, hB⟩
        · have HS := hyes (ho.trans hv)
          clear hs hno hyes ho hR
          go_wp2_with (first | (go_at_call 71; refine (registers_any _ _).mono ?_; rintro e w' ⟨rfl, rfl⟩) | (go_at_call 72; refine (isReg_any _ _).mono ?_; rintro e w' ⟨rfl, rfl⟩))
          go_roundg (3 - (k + 1))
          case measure => omega
          case rel => exact ⟨k + 1, by omega, by go_num, HS.out, rfl⟩
      · by_cases h2 : k = 1
        · subst h2
          by_cases h3 : c.op = 1
          · have ho := okAt_set X h1 ⟨rfl, h3⟩
            have h3b : (c.op == 1) = true := beq_iff_eq.2 h3
            clear h3
            cases hv : inB X 0 255
            · have HS := hno (ho.trans hv)
              clear hs hno hyes ho
              go_wp2_with (first | (go_at_call 71; refine (registers_any _ _).mono ?_; rintro e w' ⟨rfl, rfl⟩) | (go_at_call 73; refine (isWord_any _ _).mono ?_; rintro e w' ⟨rfl, rfl⟩))
              go_ret
              exact ⟨by rw [HS.out]; rfl, hB⟩
            · have HS := hyes (ho.trans hv)
              clear hs hno hyes ho
              go_wp2_with (first | (go_at_call 71; refine (registers_any _ _).mono ?_; rintro e w' ⟨rfl, rfl⟩) | (go_at_call 73; refine (isWord_any _ _).mono ?_; rintro e w' ⟨rfl, rfl⟩))
              go_roundg (3 - (1 + 1))
              case measure => omega
              case rel => exact ⟨1 + 1, by omega, by go_num, HS.out, rfl⟩
          · have h3b : (c.op == 1) = false := beq_eq_false_iff_ne.2 h3
            by_cases h4 : c.op = 13
            · have ho := okAt_loop X h1 ⟨rfl, h4⟩
              have h4b : (c.op == 13) = true := beq_iff_eq.2 h4
              clear h4
              cases hv : inB X 1 4
              · have HS := hno (ho.trans hv)
                clear hs hno hyes ho
                go_wp2_with (first | (go_at_call 71; refine (registers_any _ _).mono ?_; rintro e w' ⟨rfl, rfl⟩) | (go_at_call 74; refine (within_any _ _ _ _).mono ?_; rintro e w' ⟨rfl, rfl⟩))
                go_ret
                exact ⟨by rw [HS.out]; rfl, hB⟩
              · have HS := hyes (ho.trans hv)
                clear hs hno hyes ho
                go_wp2_with (first | (go_at_call 71; refine (registers_any _ _).mono ?_; rintro e w' ⟨rfl, rfl⟩) | (go_at_call 74; refine (within_any _ _ _ _).mono ?_; rintro e w' ⟨rfl, rfl⟩))
                go_roundg (3 - (1 + 1))
                case measure => omega
                case rel => exact ⟨1 + 1, by omega, by go_num, HS.out, rfl⟩
            · have h4b : (c.op == 13) = false := beq_eq_false_iff_ne.2 h4
              have ho := okAt_zero X h1 (fun h => h3 h.2) (fun h => h4 h.2)
              cases hv : (X == 0)
              · have HS := hno (ho.trans hv)
                have hv2 : (X != 0) = true := by rw [bne, hv]; rfl
                clear hs hno hyes ho
                go_wp2_with (go_at_call 71; refine (registers_any _ _).mono ?_; rintro e w' ⟨rfl, rfl⟩)
                go_ret
                exact ⟨by rw [HS.out]; rfl, hB⟩
              · have HS := hyes (ho.trans hv)
                have hv2 : (X != 0) = false := by rw [bne, hv]; rfl
                clear hs hno hyes ho
                go_wp2_with (go_at_call 71; refine (registers_any _ _).mono ?_; rintro e w' ⟨rfl, rfl⟩)
                go_roundg (3 - (1 + 1))
                case measure => omega
                case rel => exact ⟨1 + 1, by omega, by go_num, HS.out, rfl⟩
        · have h2b : ((k : Int) == 1) = false := beq_eq_false_iff_ne.2 (by omega)
          have ho := okAt_zero X h1 (fun h => h2 h.1) (fun h => h2 h.1)
          cases hv : (X == 0)
          · have HS := hno (ho.trans hv)
            have hv2 : (X != 0) = true := by rw [bne, hv]; rfl
            clear hs hno hyes ho
            go_wp2_with (go_at_call 71; refine (registers_any _ _).mono ?_; rintro e w' ⟨rfl, rfl⟩)
            go_ret
            exact ⟨by rw [HS.out]; rfl, hB⟩
          · have HS := hyes (ho.trans hv)
            have hv2 : (X != 0) = false := by rw [bne, hv]; rfl
            clear hs hno hyes ho
            go_wp2_with (go_at_call 71; refine (registers_any _ _).mono ?_; rintro e w' ⟨rfl, rfl⟩)
            go_roundg (3 - (k + 1))
            case measure => omega
            case rel => exact ⟨k + 1, by omega, by go_num, HS.out, rfl⟩
    · obtain rfl : k = 3 := by omega
      have HS := Lib.hid hs
      clear hs
      go_wp2_with (go_at_call 74; refine (within_any _ _ _ _).mono ?_; rintro e w' ⟨rfl, rfl⟩)
      go_ret
      exact ⟨by rw [HS.out]; rfl, hB⟩
end Go.Proofs.YtidmjeehcmpjnaaDoor
