/- YtidmjeehcmpjnaaDoorDrawL: the draw of a block of instructions. Conditions: a reader's place is at most 300000 (outermost), a room of at most 1000, a depth of 0 to 3. -/
import Derived.Test.YtidmjeehcmpjnaaDoorBlkE
namespace Go.Proofs.YtidmjeehcmpjnaaDoor
open Go.ChangeShapes Go.WideShapes Go.ChangeAt Go.RowKit
set_option linter.unusedVariables false
set_option maxRecDepth 100000 in
set_option maxHeartbeats 16000000 in
theorem l20Block_step (a : Nat) (bs : List Int) (depth P U : Int) (L : Nat) (hd : 0 ≤ depth ∧ depth ≤ 3) (hP : 0 ≤ P ∧ P ≤ 10000) (hL : L ≤ 4000) (hU : U ≤ 700000)
    (hrec : depth < 3 → BlkAt a bs (depth + 1) P (U + 130000) L) : BlkAt a bs depth (1 + 6 * (6 + 2 * P)) U (6 * (4 + 2 * L)) := by
  intro q0 room wA w0 z0 n0 v0 h0 hp hr0 hr1
  have HREC := Lib.hid hrec
  have HO := Lib.hid h0
  have hD0 := h0.start
  clear h0 hrec
  go_enter Tryd.func68, Tryd.ntmps68
  go_wp2_with fail
  refine (pick_dc 6 hD0 (by omega) (by omega)).mono ?_
  rintro e w1 ⟨k, rfl, hk0, hk6, hD1⟩
  obtain ⟨k, rfl⟩ : ∃ j : Nat, k = j := ⟨k.toNat, by omega⟩
  obtain ⟨z, hz⟩ : ∃ z, wA.heap.size = z := ⟨_, rfl⟩
  rw [hz] at hD1
  have HZ := Lib.hid hz
  clear hz
  clear hD0
  go_wp2_with fail
  go_loopg [7, 8] (k + 1) (fun g v i wr => i = .int .i64 g ∧ g ≤ 6 ∧ ∃ (q : Int) (n : Nat), DC wA z a bs q n wr v ∧ q + g * (6 + 2 * P) ≤ q0 + (1 + 6 * (6 + 2 * P)) ∧ n + g * (4 + 2 * L) ≤ 6 * (4 + 2 * L))
  case atStart =>
    refine ⟨by rw [Int.add_comm]; rfl, by omega, q0 + 1, 0, by rw [HZ.out]; exact hD1, ?_, ?_⟩
    · have : ((k + 1 : Nat) : Int) * (6 + 2 * P) ≤ 6 * (6 + 2 * P) := Int.mul_le_mul_of_nonneg_right (by omega) (by omega)
      omega
    · have : (k + 1) * (4 + 2 * L) ≤ 6 * (4 + 2 * L) := Nat.mul_le_mul_right _ (by omega)
      omega
  case round =>
    clear hD1
    obtain ⟨rfl, hg, q, n, hD, hq, hn⟩ := hrel
    have hg0 : 0 ≤ (gk : Int) * (6 + 2 * P) := Int.mul_nonneg (by omega) (by omega)
    have hg1 : 0 ≤ gk * (4 + 2 * L) := Nat.zero_le _
    obtain ⟨ad, len, cap, hv, hl1, hl2, hl3⟩ := hD.shape
    subst hv
    have hend : q ≤ q0 + (1 + 6 * (6 + 2 * P)) ∧ n ≤ 6 * (4 + 2 * L) := by omega
    by_cases hlt : 0 < gk
    · by_cases hlen : (len : Int) < room
      · obtain ⟨j, rfl⟩ : ∃ j, gk = j + 1 := ⟨gk - 1, by omega⟩
        have hm1 : ((j + 1 : Nat) : Int) * (6 + 2 * P) = (j : Int) * (6 + 2 * P) + (6 + 2 * P) := by rw [Int.natCast_add, Int.add_mul]; simp
        have hm2 : (j + 1) * (4 + 2 * L) = j * (4 + 2 * L) + (4 + 2 * L) := Nat.succ_mul _ _
        have hm3 : 0 ≤ (j : Int) * (6 + 2 * P) := Int.mul_nonneg (by omega) (by omega)
        rw [hm1] at hq
        rw [hm2] at hn
        clear hm1 hm2 hg0 hg1
        go_wp2_with fail
        refine (pick_dc 7 hD (by omega) (by omega)).mono ?_
        rintro e w2 ⟨V, rfl, b1, b2, hD2⟩
        clear hD
        have hz2 := hD2.size
        rcases (show V = 0 ∨ V = 1 ∨ V = 2 ∨ 3 ≤ V by omega) with rfl | rfl | rfl | hv
        · by_cases hcond : depth < 3 ∧ 6 ≤ room - (len : Int)
          · obtain ⟨hdl, hrm⟩ := hcond
            have HRec := Lib.hid (HREC.out hdl)
            clear HREC
            go_wp2_with fail
            refine (pick_dc 4 hD2 (by omega) (by omega)).mono ?_
            rintro e w3 ⟨A, rfl, hA0, hA1, hD3⟩
            have hz3 := hD3.size
            clear hD2 hz2
            go_wp2_with (at_builtin; refine wpList_dc1 _ rfl _ _ rfl ⟨11, A, 0, 0⟩ (by unfold cdIn; simp; omega) hD3 (by omega) rfl rfl ?_)
            intro v4 w4 hD4
            clear hD3 hz3
            go_wp2_with fail
            refine (pick_dc 3 hD4 (by omega) (by omega)).mono ?_
            rintro e w5 ⟨Y, rfl, hY0, hY1, hD5⟩
            have hz5 := hD5.size
            clear hD4 hl1 hl2 hl3
            obtain ⟨ad5, len5, cap5, hv5, hl1, hl2, hl3⟩ := hD5.shape
            subst hv5
            go_upto_if 49 with fail
            generalize (Y == 0) = yb
            clear hY0 hY1
            go_cut [7] from 50 to 70 (fun v wr => DC wA z a bs (q + 5 + P) (n + 2 + L) wr v)
            case first =>
              cases yb
              · by_cases hmn : room - (len5 : Int) - 3 ≤ 8
                all_goals
                  go_wp2_with fail
                  refine (HRec.out _ _ _ _ _ _ _ hD5 (by omega) (by omega) (by omega)).mono ?_
                  rintro e w6 ⟨u, rfl, hD6, w7, z7, q7, hU6⟩
                  clear hD5
                  have hz6 := hD6.size
                  go_wp2_with (at_builtin; refine wpList_dc2 _ rfl _ _ rfl hD6 hU6 (by omega) (by omega) rfl rfl ?_)
                  intro v8 w8 hD8
                  clear hD6 hz6 hU6
                  go_wp2
                  go_meet
                  exact hD8.mono (by omega) (by omega)
              · go_wp2_with fail
                refine (pick_dc 4 hD5 (by omega) (by omega)).mono ?_
                rintro e w6 ⟨B, rfl, hB0, hB1, hD6⟩
                clear hD5 hz5
                go_wp2_with fail
                refine (pick_dc 4 hD6 (by omega) (by omega)).mono ?_
                rintro e w7 ⟨C, rfl, hC0, hC1, hD7⟩
                have hz7 := hD7.size
                clear hD6
                go_wp2_with (at_builtin; refine wpList_dc1 _ rfl _ _ rfl ⟨5, B, C, 0⟩ (by unfold cdIn; simp; omega) hD7 (by omega) rfl rfl ?_)
                intro v8 w8 hD8
                clear hD7 hz7
                go_wp2
                go_meet
                exact hD8.mono (by omega) (by omega)
            case rest =>
              have hD9 := hcut
              clear hcut hD5 hz5
              generalize wc = w9 at hD9
              have hz9 := hD9.size
              obtain ⟨ad9, len9, cap9, hv9, hl1, hl2, hl3⟩ := hD9.shape
              subst hv9
              by_cases hr4 : 4 ≤ room - (len9 : Int)
              · go_wp2_with fail
                refine (pick_dc 2 hD9 (by omega) (by omega)).mono ?_
                rintro e w10 ⟨Y, rfl, hY0, hY1, hD10⟩
                clear hD9 hz9
                have hz10 := hD10.size
                by_cases hY : Y = 0
                · subst hY
                  go_wp2_with (at_builtin; refine wpList_dc1 _ rfl _ _ rfl ⟨12, 0, 0, 0⟩ (by unfold cdIn; simp) hD10 (by omega) rfl rfl ?_)
                  intro v11 w11 hD11
                  clear hD10 hz10
                  have hz11 := hD11.size
                  obtain ⟨ad11, len11, cap11, hv11, hl1, hl2, hl3⟩ := hD11.shape
                  subst hv11
                  by_cases hmn : room - (len11 : Int) - 1 ≤ 6
                  all_goals
                    go_wp2_with fail
                    refine (HRec.out _ _ _ _ _ _ _ hD11 (by omega) (by omega) (by omega)).mono ?_
                    rintro e w12 ⟨u, rfl, hD12, w7, z7, q7, hU12⟩
                    clear hD11
                    have hz12 := hD12.size
                    go_wp2_with (at_builtin; refine wpList_dc2 _ rfl _ _ rfl hD12 hU12 (by omega) (by omega) rfl rfl ?_)
                    intro v13 w13 hD13
                    clear hD12 hz12 hU12
                    have hz13 := hD13.size
                    go_wp2_with (at_builtin; refine wpList_dc1 _ rfl _ _ rfl ⟨14, 0, 0, 0⟩ (by unfold cdIn; simp) hD13 (by omega) rfl rfl ?_)
                    intro v14 w14 hD14
                    clear hD13 hz13
                    go_wp2
                    go_roundg j
                    case measure => omega
                    case rel => exact ⟨by go_num, by omega, _, _, hD14, by omega, by omega⟩
                · have hyb : (Y == 0) = false := by simpa using hY
                  go_wp2_with (at_builtin; refine wpList_dc1 _ rfl _ _ rfl ⟨14, 0, 0, 0⟩ (by unfold cdIn; simp) hD10 (by omega) rfl rfl ?_)
                  intro v14 w14 hD14
                  clear hD10 hz10
                  go_wp2
                  go_roundg j
                  case measure => omega
                  case rel => exact ⟨by go_num, by omega, _, _, hD14, by omega, by omega⟩
              · go_wp2_with (at_builtin; refine wpList_dc1 _ rfl _ _ rfl ⟨14, 0, 0, 0⟩ (by unfold cdIn; simp) hD9 (by omega) rfl rfl ?_)
                intro v14 w14 hD14
                clear hD9 hz9
                go_wp2
                go_roundg j
                case measure => omega
                case rel => exact ⟨by go_num, by omega, _, _, hD14, by omega, by omega⟩
          · by_cases hdl : depth < 3
            · have hrm : ¬ 6 ≤ room - (len : Int) := fun hh => hcond ⟨hdl, hh⟩
              clear hcond
              go_wp2
              go_roundg j
              case measure => omega
              case rel => exact ⟨by go_num, by omega, _, _, hD2, by omega, by omega⟩
            · clear hcond
              go_wp2
              go_roundg j
              case measure => omega
              case rel => exact ⟨by go_num, by omega, _, _, hD2, by omega, by omega⟩
        · by_cases hcond : depth < 3 ∧ 5 ≤ room - (len : Int)
          · obtain ⟨hdl, hrm⟩ := hcond
            have HRec := Lib.hid (HREC.out hdl)
            clear HREC
            go_wp2_with fail
            refine (pick_dc 4 hD2 (by omega) (by omega)).mono ?_
            rintro e w3 ⟨A, rfl, hA0, hA1, hD3⟩
            clear hD2 hz2
            go_wp2_with fail
            refine (pick_dc 4 hD3 (by omega) (by omega)).mono ?_
            rintro e w4 ⟨B, rfl, hB0, hB1, hD4⟩
            clear hD3
            have hz4 := hD4.size
            go_wp2_with (at_builtin; refine wpList_dc1 _ rfl _ _ rfl ⟨13, A, 1 + B, 0⟩ (by unfold cdIn; simp; omega) hD4 (by omega) rfl rfl ?_)
            intro v11 w11 hD11
            clear hD4 hz4
            have hz11 := hD11.size
            obtain ⟨ad11, len11, cap11, hv11, hl1, hl2, hl3⟩ := hD11.shape
            subst hv11
            by_cases hmn : room - (len11 : Int) - 1 ≤ 7
            all_goals
              go_wp2_with fail
              refine (HRec.out _ _ _ _ _ _ _ hD11 (by omega) (by omega) (by omega)).mono ?_
              rintro e w12 ⟨u, rfl, hD12, w7, z7, q7, hU12⟩
              clear hD11
              have hz12 := hD12.size
              go_wp2_with (at_builtin; refine wpList_dc2 _ rfl _ _ rfl hD12 hU12 (by omega) (by omega) rfl rfl ?_)
              intro v13 w13 hD13
              clear hD12 hz12 hU12
              have hz13 := hD13.size
              go_wp2_with (at_builtin; refine wpList_dc1 _ rfl _ _ rfl ⟨14, 0, 0, 0⟩ (by unfold cdIn; simp) hD13 (by omega) rfl rfl ?_)
              intro v14 w14 hD14
              clear hD13 hz13
              go_wp2
              go_roundg j
              case measure => omega
              case rel => exact ⟨by go_num, by omega, _, _, hD14, by omega, by omega⟩
          · by_cases hdl : depth < 3
            · have hrm : ¬ 5 ≤ room - (len : Int) := fun hh => hcond ⟨hdl, hh⟩
              clear hcond
              go_wp2
              go_roundg j
              case measure => omega
              case rel => exact ⟨by go_num, by omega, _, _, hD2, by omega, by omega⟩
            · clear hcond
              go_wp2
              go_roundg j
              case measure => omega
              case rel => exact ⟨by go_num, by omega, _, _, hD2, by omega, by omega⟩
        · by_cases hd0 : depth = 0
          · subst hd0
            go_wp2_with (at_builtin; refine wpList_dc1 _ rfl _ _ rfl ⟨10, 0, 0, 0⟩ (by unfold cdIn; simp) hD2 (by omega) rfl rfl ?_)
            intro v4 w4 hD4
            clear hD2
            go_wp2
            go_roundg j
            case measure => omega
            case rel => exact ⟨by go_num, by omega, _, _, hD4, by omega, by omega⟩
          · go_wp2_with fail
            refine (pick_dc 9 hD2 (by omega) (by omega)).mono ?_
            rintro e w3 ⟨Y, rfl, hY0, hY9, hD3⟩
            have hz3 := hD3.size
            clear hD2
            by_cases hY1 : Y = 0
            · subst hY1
              go_wp2_with (at_builtin; refine wpList_dc1 _ rfl _ _ rfl ⟨10, 0, 0, 0⟩ (by unfold cdIn; simp) hD3 (by omega) rfl rfl ?_)
              intro v4 w4 hD4
              clear hD3
              go_wp2
              go_roundg j
              case measure => omega
              case rel => exact ⟨by go_num, by omega, _, _, hD4, by omega, by omega⟩
            · have hyb : (Y == 0) = false := by simpa using hY1
              go_wp2
              go_roundg j
              case measure => omega
              case rel => exact ⟨by go_num, by omega, _, _, hD3, by omega, by omega⟩
        · go_wp2_with fail
          refine (plain_dc hD2 (by omega)).mono ?_
          rintro e w3 ⟨c, rfl, hc, hD3⟩
          have hz3 := hD3.size
          clear hD2 hz2
          go_wp2_with (at_builtin; refine wpList_dc1 _ rfl _ _ rfl c hc hD3 (by omega) rfl rfl ?_)
          intro v4 w4 hD4
          clear hD3
          go_wp2
          go_roundg j
          case measure => omega
          case rel => exact ⟨by go_num, by omega, _, _, hD4, by omega, by omega⟩
      · go_wp2
        go_ret
        exact ⟨_, rfl, HO.out.over (hD.mono (Int.le_refl _) (Nat.le_refl _)) (by rw [← HZ.out] at *; omega), _, _, _, hD.mono (Int.le_refl _) hend.2⟩
    · go_wp2
      go_ret
      exact ⟨_, rfl, HO.out.over hD hend.1, _, _, _, hD.mono (Int.le_refl _) hend.2⟩
theorem l20Block_any (a : Nat) (bs : List Int) : BlkAt a bs 0 69745 300000 45240 := by
  have h3 := l20Block_step a bs 3 0 690000 0 (by omega) (by omega) (by omega) (by omega) (fun h => absurd h (by omega))
  have h2 := l20Block_step a bs 2 (1 + 6 * (6 + 2 * 0)) 560000 (6 * (4 + 2 * 0)) (by omega) (by omega) (by omega) (by omega) (fun _ => h3)
  have h1 := l20Block_step a bs 1 _ 430000 _ (by omega) (by omega) (by omega) (by omega) (fun _ => h2)
  exact l20Block_step a bs 0 _ 300000 _ (by omega) (by omega) (by omega) (by omega) (fun _ => h1)
end Go.Proofs.YtidmjeehcmpjnaaDoor
