/- YtidmjeehcmpjnaaDoorCodesS: which instructions the reference calls valid. No conditions. -/
import Derived.Test.YtidmjeehcmpjnaaDoorCodes
namespace Go.Proofs.YtidmjeehcmpjnaaDoor
open Go.ChangeShapes Go.WideShapes Go.ChangeAt Go.RowKit
set_option linter.unusedVariables false

set_option maxHeartbeats 8000000 in
theorem specCodeValid (c : Cd) (w : World) : Calls Tryd.prog 44 #[.agg #[.int .i64 c.op, .int .i64 c.a, .int .i64 c.b, .int .i64 c.c]] w fun e w' => e = .returned (.bool (cValid c)) ∧ Below w.heap.size w w' := by
  have hB := below_box c w
  obtain ⟨op, a, b, d⟩ := c
  have HB := Lib.hid hB
  clear hB
  rcases cValid_cases ⟨op, a, b, d⟩ with ⟨ho, hv⟩ | ⟨ho, hv⟩ | ⟨ho, hv⟩ | ⟨ho, hv⟩ | ⟨ho, hv⟩ | ⟨ho, hv⟩ | ⟨ho, hv⟩
  · simp only at ho hv
    rcases ho with rfl
    all_goals
      cases hA : inB a 0 3
      · rw [hA] at hv
        have HV := Lib.hid hv
        clear hv
        go_enter Tryd.func44, Tryd.ntmps44
        go_wp2_with (first | (go_at_call 65; refine (l1In_any _ _ _ _).mono ?_; rintro e w' ⟨rfl, rfl⟩) | (go_at_call 66; refine (l2Word_any _ _).mono ?_; rintro e w' ⟨rfl, rfl⟩))
        go_ret
        exact ⟨by rw [HV.out]; rfl, HB.out⟩
      · cases hC1 : inB b 0 255
        · rw [hA, hC1] at hv
          have HV := Lib.hid hv
          clear hv
          go_enter Tryd.func44, Tryd.ntmps44
          go_wp2_with (first | (go_at_call 65; refine (l1In_any _ _ _ _).mono ?_; rintro e w' ⟨rfl, rfl⟩) | (go_at_call 66; refine (l2Word_any _ _).mono ?_; rintro e w' ⟨rfl, rfl⟩))
          go_ret
          exact ⟨by rw [HV.out]; rfl, HB.out⟩
        · cases hC2 : (d == 0)
          · rw [hA, hC1, hC2] at hv
            have HV := Lib.hid hv
            clear hv
            go_enter Tryd.func44, Tryd.ntmps44
            go_wp2_with (first | (go_at_call 65; refine (l1In_any _ _ _ _).mono ?_; rintro e w' ⟨rfl, rfl⟩) | (go_at_call 66; refine (l2Word_any _ _).mono ?_; rintro e w' ⟨rfl, rfl⟩))
            go_ret
            exact ⟨by rw [HV.out]; rfl, HB.out⟩
          · rw [hA, hC1, hC2] at hv
            have HV := Lib.hid hv
            clear hv
            go_enter Tryd.func44, Tryd.ntmps44
            go_wp2_with (first | (go_at_call 65; refine (l1In_any _ _ _ _).mono ?_; rintro e w' ⟨rfl, rfl⟩) | (go_at_call 66; refine (l2Word_any _ _).mono ?_; rintro e w' ⟨rfl, rfl⟩))
            go_ret
            exact ⟨by rw [HV.out]; rfl, HB.out⟩
  · simp only at ho hv
    rcases ho with rfl | rfl
    all_goals
      cases hA : inB a 0 3
      · rw [hA] at hv
        have HV := Lib.hid hv
        clear hv
        go_enter Tryd.func44, Tryd.ntmps44
        go_wp2_with (first | (go_at_call 65; refine (l1In_any _ _ _ _).mono ?_; rintro e w' ⟨rfl, rfl⟩) | (go_at_call 66; refine (l2Word_any _ _).mono ?_; rintro e w' ⟨rfl, rfl⟩))
        go_ret
        exact ⟨by rw [HV.out]; rfl, HB.out⟩
      · cases hC1 : (b == 0)
        · rw [hA, hC1] at hv
          have HV := Lib.hid hv
          clear hv
          go_enter Tryd.func44, Tryd.ntmps44
          go_wp2_with (first | (go_at_call 65; refine (l1In_any _ _ _ _).mono ?_; rintro e w' ⟨rfl, rfl⟩) | (go_at_call 66; refine (l2Word_any _ _).mono ?_; rintro e w' ⟨rfl, rfl⟩))
          go_ret
          exact ⟨by rw [HV.out]; rfl, HB.out⟩
        · cases hC2 : (d == 0)
          · rw [hA, hC1, hC2] at hv
            have HV := Lib.hid hv
            clear hv
            go_enter Tryd.func44, Tryd.ntmps44
            go_wp2_with (first | (go_at_call 65; refine (l1In_any _ _ _ _).mono ?_; rintro e w' ⟨rfl, rfl⟩) | (go_at_call 66; refine (l2Word_any _ _).mono ?_; rintro e w' ⟨rfl, rfl⟩))
            go_ret
            exact ⟨by rw [HV.out]; rfl, HB.out⟩
          · rw [hA, hC1, hC2] at hv
            have HV := Lib.hid hv
            clear hv
            go_enter Tryd.func44, Tryd.ntmps44
            go_wp2_with (first | (go_at_call 65; refine (l1In_any _ _ _ _).mono ?_; rintro e w' ⟨rfl, rfl⟩) | (go_at_call 66; refine (l2Word_any _ _).mono ?_; rintro e w' ⟨rfl, rfl⟩))
            go_ret
            exact ⟨by rw [HV.out]; rfl, HB.out⟩
  · simp only at ho hv
    rcases ho with rfl
    all_goals
      cases hA : inB a 0 3
      · rw [hA] at hv
        have HV := Lib.hid hv
        clear hv
        go_enter Tryd.func44, Tryd.ntmps44
        go_wp2_with (first | (go_at_call 65; refine (l1In_any _ _ _ _).mono ?_; rintro e w' ⟨rfl, rfl⟩) | (go_at_call 66; refine (l2Word_any _ _).mono ?_; rintro e w' ⟨rfl, rfl⟩))
        go_ret
        exact ⟨by rw [HV.out]; rfl, HB.out⟩
      · cases hC1 : inB b 1 4
        · rw [hA, hC1] at hv
          have HV := Lib.hid hv
          clear hv
          go_enter Tryd.func44, Tryd.ntmps44
          go_wp2_with (first | (go_at_call 65; refine (l1In_any _ _ _ _).mono ?_; rintro e w' ⟨rfl, rfl⟩) | (go_at_call 66; refine (l2Word_any _ _).mono ?_; rintro e w' ⟨rfl, rfl⟩))
          go_ret
          exact ⟨by rw [HV.out]; rfl, HB.out⟩
        · cases hC2 : (d == 0)
          · rw [hA, hC1, hC2] at hv
            have HV := Lib.hid hv
            clear hv
            go_enter Tryd.func44, Tryd.ntmps44
            go_wp2_with (first | (go_at_call 65; refine (l1In_any _ _ _ _).mono ?_; rintro e w' ⟨rfl, rfl⟩) | (go_at_call 66; refine (l2Word_any _ _).mono ?_; rintro e w' ⟨rfl, rfl⟩))
            go_ret
            exact ⟨by rw [HV.out]; rfl, HB.out⟩
          · rw [hA, hC1, hC2] at hv
            have HV := Lib.hid hv
            clear hv
            go_enter Tryd.func44, Tryd.ntmps44
            go_wp2_with (first | (go_at_call 65; refine (l1In_any _ _ _ _).mono ?_; rintro e w' ⟨rfl, rfl⟩) | (go_at_call 66; refine (l2Word_any _ _).mono ?_; rintro e w' ⟨rfl, rfl⟩))
            go_ret
            exact ⟨by rw [HV.out]; rfl, HB.out⟩
  · simp only at ho hv
    rcases ho with rfl | rfl | rfl | rfl | rfl
    all_goals
      cases hA : inB a 0 3
      · rw [hA] at hv
        have HV := Lib.hid hv
        clear hv
        go_enter Tryd.func44, Tryd.ntmps44
        go_wp2_with (first | (go_at_call 65; refine (l1In_any _ _ _ _).mono ?_; rintro e w' ⟨rfl, rfl⟩) | (go_at_call 66; refine (l2Word_any _ _).mono ?_; rintro e w' ⟨rfl, rfl⟩))
        go_ret
        exact ⟨by rw [HV.out]; rfl, HB.out⟩
      · cases hC1 : inB b 0 3
        · rw [hA, hC1] at hv
          have HV := Lib.hid hv
          clear hv
          go_enter Tryd.func44, Tryd.ntmps44
          go_wp2_with (first | (go_at_call 65; refine (l1In_any _ _ _ _).mono ?_; rintro e w' ⟨rfl, rfl⟩) | (go_at_call 66; refine (l2Word_any _ _).mono ?_; rintro e w' ⟨rfl, rfl⟩))
          go_ret
          exact ⟨by rw [HV.out]; rfl, HB.out⟩
        · cases hC2 : (d == 0)
          · rw [hA, hC1, hC2] at hv
            have HV := Lib.hid hv
            clear hv
            go_enter Tryd.func44, Tryd.ntmps44
            go_wp2_with (first | (go_at_call 65; refine (l1In_any _ _ _ _).mono ?_; rintro e w' ⟨rfl, rfl⟩) | (go_at_call 66; refine (l2Word_any _ _).mono ?_; rintro e w' ⟨rfl, rfl⟩))
            go_ret
            exact ⟨by rw [HV.out]; rfl, HB.out⟩
          · rw [hA, hC1, hC2] at hv
            have HV := Lib.hid hv
            clear hv
            go_enter Tryd.func44, Tryd.ntmps44
            go_wp2_with (first | (go_at_call 65; refine (l1In_any _ _ _ _).mono ?_; rintro e w' ⟨rfl, rfl⟩) | (go_at_call 66; refine (l2Word_any _ _).mono ?_; rintro e w' ⟨rfl, rfl⟩))
            go_ret
            exact ⟨by rw [HV.out]; rfl, HB.out⟩
  · simp only at ho hv
    rcases ho with rfl | rfl
    all_goals
      cases hA : inB a 0 3
      · rw [hA] at hv
        have HV := Lib.hid hv
        clear hv
        go_enter Tryd.func44, Tryd.ntmps44
        go_wp2_with (first | (go_at_call 65; refine (l1In_any _ _ _ _).mono ?_; rintro e w' ⟨rfl, rfl⟩) | (go_at_call 66; refine (l2Word_any _ _).mono ?_; rintro e w' ⟨rfl, rfl⟩))
        go_ret
        exact ⟨by rw [HV.out]; rfl, HB.out⟩
      · cases hC1 : inB b 0 3
        · rw [hA, hC1] at hv
          have HV := Lib.hid hv
          clear hv
          go_enter Tryd.func44, Tryd.ntmps44
          go_wp2_with (first | (go_at_call 65; refine (l1In_any _ _ _ _).mono ?_; rintro e w' ⟨rfl, rfl⟩) | (go_at_call 66; refine (l2Word_any _ _).mono ?_; rintro e w' ⟨rfl, rfl⟩))
          go_ret
          exact ⟨by rw [HV.out]; rfl, HB.out⟩
        · cases hC2 : inB d 0 3
          · rw [hA, hC1, hC2] at hv
            have HV := Lib.hid hv
            clear hv
            go_enter Tryd.func44, Tryd.ntmps44
            go_wp2_with (first | (go_at_call 65; refine (l1In_any _ _ _ _).mono ?_; rintro e w' ⟨rfl, rfl⟩) | (go_at_call 66; refine (l2Word_any _ _).mono ?_; rintro e w' ⟨rfl, rfl⟩))
            go_ret
            exact ⟨by rw [HV.out]; rfl, HB.out⟩
          · rw [hA, hC1, hC2] at hv
            have HV := Lib.hid hv
            clear hv
            go_enter Tryd.func44, Tryd.ntmps44
            go_wp2_with (first | (go_at_call 65; refine (l1In_any _ _ _ _).mono ?_; rintro e w' ⟨rfl, rfl⟩) | (go_at_call 66; refine (l2Word_any _ _).mono ?_; rintro e w' ⟨rfl, rfl⟩))
            go_ret
            exact ⟨by rw [HV.out]; rfl, HB.out⟩
  · simp only at ho hv
    rcases ho with rfl | rfl | rfl
    all_goals
      cases hA : (a == 0)
      · rw [hA] at hv
        have HV := Lib.hid hv
        clear hv
        go_enter Tryd.func44, Tryd.ntmps44
        go_wp2_with (first | (go_at_call 65; refine (l1In_any _ _ _ _).mono ?_; rintro e w' ⟨rfl, rfl⟩) | (go_at_call 66; refine (l2Word_any _ _).mono ?_; rintro e w' ⟨rfl, rfl⟩))
        go_ret
        exact ⟨by rw [HV.out]; rfl, HB.out⟩
      · cases hC1 : (b == 0)
        · rw [hA, hC1] at hv
          have HV := Lib.hid hv
          clear hv
          go_enter Tryd.func44, Tryd.ntmps44
          go_wp2_with (first | (go_at_call 65; refine (l1In_any _ _ _ _).mono ?_; rintro e w' ⟨rfl, rfl⟩) | (go_at_call 66; refine (l2Word_any _ _).mono ?_; rintro e w' ⟨rfl, rfl⟩))
          go_ret
          exact ⟨by rw [HV.out]; rfl, HB.out⟩
        · cases hC2 : (d == 0)
          · rw [hA, hC1, hC2] at hv
            have HV := Lib.hid hv
            clear hv
            go_enter Tryd.func44, Tryd.ntmps44
            go_wp2_with (first | (go_at_call 65; refine (l1In_any _ _ _ _).mono ?_; rintro e w' ⟨rfl, rfl⟩) | (go_at_call 66; refine (l2Word_any _ _).mono ?_; rintro e w' ⟨rfl, rfl⟩))
            go_ret
            exact ⟨by rw [HV.out]; rfl, HB.out⟩
          · rw [hA, hC1, hC2] at hv
            have HV := Lib.hid hv
            clear hv
            go_enter Tryd.func44, Tryd.ntmps44
            go_wp2_with (first | (go_at_call 65; refine (l1In_any _ _ _ _).mono ?_; rintro e w' ⟨rfl, rfl⟩) | (go_at_call 66; refine (l2Word_any _ _).mono ?_; rintro e w' ⟨rfl, rfl⟩))
            go_ret
            exact ⟨by rw [HV.out]; rfl, HB.out⟩
  · simp only at ho hv
    rcases ho with ho | ho
    all_goals
      have HV := Lib.hid hv
      clear hv
      go_enter Tryd.func44, Tryd.ntmps44
      go_wp2_with (first | (go_at_call 65; refine (l1In_any _ _ _ _).mono ?_; rintro e w' ⟨rfl, rfl⟩) | (go_at_call 66; refine (l2Word_any _ _).mono ?_; rintro e w' ⟨rfl, rfl⟩))
      go_ret
      exact ⟨by rw [HV.out]; rfl, HB.out⟩
end Go.Proofs.YtidmjeehcmpjnaaDoor
