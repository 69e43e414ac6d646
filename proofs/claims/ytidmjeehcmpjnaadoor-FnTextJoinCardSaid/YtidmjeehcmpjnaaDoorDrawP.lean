/- YtidmjeehcmpjnaaDoorDrawP: the draw of a program. Conditions: a reader's place is at most 1000, a bound of at most 1000. -/
import Derived.Test.YtidmjeehcmpjnaaDoorDrawL
import Derived.Test.YtidmjeehcmpjnaaDoorBlkF
import Derived.Deep.CutBlock
namespace Go.Proofs.YtidmjeehcmpjnaaDoor
open Go.ChangeShapes Go.WideShapes Go.ChangeAt Go.RowKit
set_option linter.unusedVariables false
set_option maxRecDepth 100000 in
set_option maxHeartbeats 16000000 in
theorem l20Program_any (a : Nat) (bs : List Int) (p n : Int) (w : World) (h : Rdr w a bs p) (hp : p ≤ 1000) (hn : 0 ≤ n ∧ n ≤ 1000) : Calls Tryd.prog 48 #[.pointer (some ⟨a, 0, none⟩), .int .i64 n] w (BlkD w a bs (p + 209600) 150000) := by
  have hD0 := DC.start0 h
  have hp0 := h.nn
  obtain ⟨z, hz⟩ : ∃ z, w.heap.size = z := ⟨_, rfl⟩
  rw [hz] at hD0
  have HZ := Lib.hid hz
  clear h hz
  go_enter Tryd.func48, Tryd.ntmps48
  go_wp2_with fail
  rw [HZ.out]
  refine (pick_dc 4 hD0 (by omega) (by omega)).mono ?_
  rintro e w1 ⟨V, rfl, hV0, hV1, hD1⟩
  clear hD0
  go_upto_block 0 with fail
  go_cut [5] from 11 to 37 (fun v wr => DC w z a bs (p + 3) 3 wr v)
  case first =>
    have hz1 := hD1.size
    rcases (show V = 0 ∨ V = 1 ∨ V = 2 ∨ V = 3 by omega) with rfl | rfl | rfl | rfl
    · go_wp2_with (at_builtin; refine wpList_dcL _ rfl _ _ rfl [⟨2, 0, 0, 0⟩, ⟨5, 1, 0, 0⟩] (by unfold cdIn; simp) _ rfl hD1 (by omega) (by decide) rfl rfl ?_)
      intro v2 w2 hD2
      clear hD1
      go_wp2
      go_meet
      exact hD2.mono (by omega) (by simp)
    · go_wp2_with (at_builtin; refine wpList_dcL _ rfl _ _ rfl [⟨2, 3, 0, 0⟩, ⟨8, 0, 3, 0⟩, ⟨9, 0, 3, 0⟩] (by unfold cdIn; simp) _ rfl hD1 (by omega) (by decide) rfl rfl ?_)
      intro v2 w2 hD2
      clear hD1
      go_wp2
      go_meet
      exact hD2.mono (by omega) (by simp)
    · go_wp2_with fail
      refine (pick_dc 4 hD1 (by omega) (by omega)).mono ?_
      rintro e w2 ⟨A, rfl, hA0, hA1, hD2⟩
      clear hD1
      go_wp2_with fail
      refine (pick_dc 4 hD2 (by omega) (by omega)).mono ?_
      rintro e w3 ⟨B, rfl, hB0, hB1, hD3⟩
      clear hD2
      have hz3 := hD3.size
      go_wp2_with (at_builtin; refine wpList_dc1 _ rfl _ _ rfl ⟨1, A, 1 + B, 0⟩ (by unfold cdIn; simp; omega) hD3 (by omega) rfl rfl ?_)
      intro v4 w4 hD4
      clear hD3
      go_wp2
      go_meet
      exact hD4.mono (by omega) (by omega)
    · go_wp2
      go_meet
      exact hD1.mono (by omega) (by omega)
  case rest =>
    have hD2 := hcut
    clear hcut hD1 hV0 hV1
    generalize wc = w2 at hD2
    go_wp2_with fail
    refine (pick_dc 3 hD2 (by omega) (by omega)).mono ?_
    rintro e w3 ⟨K, rfl, hK0, hK1, hD3⟩
    obtain ⟨k, rfl⟩ : ∃ j : Nat, K = j := ⟨K.toNat, by omega⟩
    clear hD2
    go_upto_block 1 with fail
    go_cut [5, 6] from 40 to 54 (fun v i wr => DC w z a bs (p + 4 + 209235) (3 + 3 * 45240) wr v)
    case first =>
      go_wp2_with fail
      go_loopg [5, 6] (k + 1) (fun g v i wr => i = .int .i64 g ∧ g ≤ 3 ∧ ∃ (q : Int) (n : Nat), DC w z a bs q n wr v ∧ q + g * 69745 ≤ p + 4 + 209235 ∧ n + g * 45240 ≤ 3 + 3 * 45240)
      case atStart => exact ⟨by rw [Int.add_comm]; rfl, by omega, _, _, hD3, by omega, by omega⟩
      case round =>
        clear hD3
        obtain ⟨rfl, hg, q, m, hD, hq, hm⟩ := hrel
        obtain ⟨ad, len, cap, hv, hl1, hl2, hl3⟩ := hD.shape
        subst hv
        by_cases hlt : 0 < gk
        · obtain ⟨j, rfl⟩ : ∃ j, gk = j + 1 := ⟨gk - 1, by omega⟩
          go_wp2_with fail
          refine (l20Block_any a bs _ _ _ _ _ _ _ hD (by omega) (by omega) (by omega)).mono ?_
          rintro e w6 ⟨u, rfl, hD6, w7, z7, q7, hU6⟩
          clear hD
          have hz6 := hD6.size
          go_wp2_with (at_builtin; refine wpList_dc2 _ rfl _ _ rfl hD6 hU6 (by omega) (by omega) rfl rfl ?_)
          intro v8 w8 hD8
          clear hD6 hz6 hU6
          obtain ⟨ad8, len8, cap8, hv8, hl1, hl2, hl3⟩ := hD8.shape
          subst hv8
          by_cases hbr : (34 : Int) < len8
          · go_wp2
            go_meet
            exact hD8.mono (by omega) (by omega)
          · go_wp2
            go_roundg j
            case measure => omega
            case rel => exact ⟨by go_num, by omega, _, _, hD8, by omega, by omega⟩
        · obtain rfl : gk = 0 := by omega
          go_wp2
          go_meet
          exact hD.mono (by omega) (by omega)
    case rest =>
      have hD4 := hcut
      clear hcut hD3
      generalize wc = w4 at hD4
      have hz4 := hD4.size
      obtain ⟨ad, len, cap, hv, hl1, hl2, hl3⟩ := hD4.shape
      subst hv
      go_wp2_with fail
      refine (odd_dc 3 hD4 (by omega) (by omega)).mono ?_
      rintro e w5 ⟨O, rfl, hD5⟩
      clear hD4 hz4
      have hz5 := hD5.size
      cases O
      · have hD6 := hD5.mono (q' := p + 209245) (n' := 140000 - 50) (by omega) (by omega)
        clear hD5
        generalize w5 = w6 at *
        by_cases hl0 : 0 < len
        · go_wp2_with fail
          refine (odd_dc n hD6 (by omega) (by omega)).mono ?_
          rintro e w7 ⟨O, rfl, hD7⟩
          clear hD6
          cases O
          · go_wp2
            go_ret
            exact ⟨_, rfl, by rw [HZ.out]; exact hD7.mono (by omega) (by omega)⟩
          · go_wp2_with fail
            refine (pick_dc len hD7 (by omega) (by omega)).mono ?_
            rintro e w8 ⟨I, rfl, hI0, hI1, hD8⟩
            obtain ⟨i, rfl⟩ : ∃ j : Nat, I = j := ⟨I.toNat, by omega⟩
            clear hD7
            go_wp2_with fail
            refine (pick_dc 5 hD8 (by omega) (by omega)).mono ?_
            rintro e w9 ⟨S, rfl, hS0, hS1, hD9⟩
            clear hD8
            have hz9 := hD9.size
            rcases (show S = 0 ∨ S = 1 ∨ S = 2 ∨ S = 3 ∨ S = 4 by omega) with rfl | rfl | rfl | rfl | rfl
            · go_wp2_with fail
              refine (code_dc 1 hD9 (by omega) (by omega)).mono ?_
              rintro e w10 ⟨c, rfl, hc, hD10⟩
              clear hD9 hz9
              obtain ⟨g, rfl, hgl, hga, ⟨x0, x1, x2, x3, e0, e1, e2, e3⟩, f0, f1, f2, f3, hset⟩ := hD10.at i (by omega)
              have hD11 := hset c hc
              have HD := Lib.hid hD11
              clear hset hD11 hD10
              go_wp2
              go_ret
              exact ⟨_, rfl, by rw [HZ.out]; exact HD.out.mono (by omega) (by omega)⟩
            · go_wp2_with (at_builtin; refine wpList_dc1 _ rfl _ _ rfl ⟨14, 0, 0, 0⟩ (by unfold cdIn; simp) hD9 (by omega) rfl rfl ?_)
              intro v10 w10 hD10
              clear hD9 hz9
              go_wp2
              go_ret
              exact ⟨_, rfl, by rw [HZ.out]; exact hD10.mono (by omega) (by omega)⟩
            · go_wp2_with (at_builtin; refine wpList_dc1 _ rfl _ _ rfl ⟨12, 0, 0, 0⟩ (by unfold cdIn; simp) hD9 (by omega) rfl rfl ?_)
              intro v10 w10 hD10
              clear hD9 hz9
              go_wp2
              go_ret
              exact ⟨_, rfl, by rw [HZ.out]; exact hD10.mono (by omega) (by omega)⟩
            · have hL := hD9.lit [⟨11, 0, 0, 0⟩, ⟨11, 0, 0, 0⟩, ⟨11, 0, 0, 0⟩, ⟨11, 0, 0, 0⟩, ⟨14, 0, 0, 0⟩, ⟨14, 0, 0, 0⟩, ⟨14, 0, 0, 0⟩, ⟨14, 0, 0, 0⟩] (by unfold cdIn; simp) (by decide) _ rfl
              have hA := hD9.alloc (.cells (cdCells [⟨11, 0, 0, 0⟩, ⟨11, 0, 0, 0⟩, ⟨11, 0, 0, 0⟩, ⟨11, 0, 0, 0⟩, ⟨14, 0, 0, 0⟩, ⟨14, 0, 0, 0⟩, ⟨14, 0, 0, 0⟩, ⟨14, 0, 0, 0⟩]).toArray 42)
              have HL := Lib.hid hL
              have HA := Lib.hid hA
              clear hL hA
              go_wp2_with (at_builtin; refine wpList_dc2 _ rfl _ _ rfl HL.out HA.out (by decide) (by omega) rfl rfl ?_)
              intro v10 w10 hD10
              clear hD9 hz9 HL HA
              go_wp2
              go_ret
              exact ⟨_, rfl, by rw [HZ.out]; exact hD10.mono (by omega) (by first | omega | (simp; done) | (simp; omega))⟩
            · go_wp2_with fail
              go_loopg [5] 41 (fun g v wr => ∃ (ad : Option Addr) (len cap : Nat) (q : Int) (m : Nat), v = .slice ad len cap ∧ len ≤ cap ∧ cap ≤ 9223372036854775807 ∧ DC w z a bs q m wr (.slice ad len cap) ∧ 41 ≤ len + g ∧ q + g * 5 ≤ p + 209500 ∧ m + g ≤ 140000)
              case atStart => exact ⟨_, _, _, _, _, rfl, hl2, hl3, hD9, by omega, by omega, by omega⟩
              case round =>
                clear hD9 hl1 hl2 hl3
                obtain ⟨ad, len, cap, q, m, rfl, hl2, hl3, hD, hg, hq, hm⟩ := hrel
                by_cases hlt : len ≤ 40
                · obtain ⟨j, rfl⟩ : ∃ j, gk = j + 1 := ⟨gk - 1, by omega⟩
                  go_wp2_with fail
                  refine (plain_dc hD (by omega)).mono ?_
                  rintro e w10 ⟨c, rfl, hc, hD10⟩
                  have hz10 := hD10.size
                  clear hD
                  go_wp2_with (at_builtin; refine wpList_dc1n _ rfl _ _ rfl c hc hD10 (by omega) rfl rfl ?_)
                  intro ad11 cap11 w11 hD11
                  clear hD10 hz10
                  obtain ⟨_, _, _, he, _, hc1, hc2⟩ := hD11.shape
                  injection he with he1 he2 he3
                  subst he1 he2 he3
                  go_wp2
                  go_roundg j
                  case measure => omega
                  case rel => exact ⟨_, _, _, _, _, rfl, hc1, hc2, hD11, by omega, by omega, by omega⟩
                · have hlt2 : (40 : Int) < len := by omega
                  go_wp2
                  go_ret
                  exact ⟨_, rfl, by rw [HZ.out]; exact hD.mono (by omega) (by omega)⟩
        · obtain rfl : len = 0 := by omega
          go_wp2
          go_ret
          exact ⟨_, rfl, by rw [HZ.out]; exact hD6.mono (by omega) (by omega)⟩
      · by_cases hl7 : (len : Int) < 37
        · go_wp2_with fail
          refine (pick_dc 4 hD5 (by omega) (by omega)).mono ?_
          rintro e w51 ⟨A, rfl, hA0, hA1, hD51⟩
          clear hD5
          have hz51 := hD51.size
          go_wp2_with (at_builtin; refine wpList_dcL _ rfl _ _ rfl [⟨2, 2, 0, 0⟩, ⟨9, A, 2, 0⟩] (by unfold cdIn; simp; omega) _ rfl hD51 (by omega) (by simp) rfl rfl ?_)
          intro v6 w6 hD52
          have hD6 := hD52.mono (q' := p + 209245) (n' := 140000 - 50) (by omega) (by first | omega | (simp; done) | (simp; omega))
          clear hD51 hD52 hz51 hl1 hl2 hl3
          obtain ⟨ad, len, cap, hv, hl1, hl2, hl3⟩ := hD6.shape
          subst hv
          by_cases hl0 : 0 < len
          · go_wp2_with fail
            refine (odd_dc n hD6 (by omega) (by omega)).mono ?_
            rintro e w7 ⟨O, rfl, hD7⟩
            clear hD6
            cases O
            · go_wp2
              go_ret
              exact ⟨_, rfl, by rw [HZ.out]; exact hD7.mono (by omega) (by omega)⟩
            · go_wp2_with fail
              refine (pick_dc len hD7 (by omega) (by omega)).mono ?_
              rintro e w8 ⟨I, rfl, hI0, hI1, hD8⟩
              obtain ⟨i, rfl⟩ : ∃ j : Nat, I = j := ⟨I.toNat, by omega⟩
              clear hD7
              go_wp2_with fail
              refine (pick_dc 5 hD8 (by omega) (by omega)).mono ?_
              rintro e w9 ⟨S, rfl, hS0, hS1, hD9⟩
              clear hD8
              have hz9 := hD9.size
              rcases (show S = 0 ∨ S = 1 ∨ S = 2 ∨ S = 3 ∨ S = 4 by omega) with rfl | rfl | rfl | rfl | rfl
              · go_wp2_with fail
                refine (code_dc 1 hD9 (by omega) (by omega)).mono ?_
                rintro e w10 ⟨c, rfl, hc, hD10⟩
                clear hD9 hz9
                obtain ⟨g, rfl, hgl, hga, ⟨x0, x1, x2, x3, e0, e1, e2, e3⟩, f0, f1, f2, f3, hset⟩ := hD10.at i (by omega)
                have hD11 := hset c hc
                have HD := Lib.hid hD11
                clear hset hD11 hD10
                go_wp2
                go_ret
                exact ⟨_, rfl, by rw [HZ.out]; exact HD.out.mono (by omega) (by omega)⟩
              · go_wp2_with (at_builtin; refine wpList_dc1 _ rfl _ _ rfl ⟨14, 0, 0, 0⟩ (by unfold cdIn; simp) hD9 (by omega) rfl rfl ?_)
                intro v10 w10 hD10
                clear hD9 hz9
                go_wp2
                go_ret
                exact ⟨_, rfl, by rw [HZ.out]; exact hD10.mono (by omega) (by omega)⟩
              · go_wp2_with (at_builtin; refine wpList_dc1 _ rfl _ _ rfl ⟨12, 0, 0, 0⟩ (by unfold cdIn; simp) hD9 (by omega) rfl rfl ?_)
                intro v10 w10 hD10
                clear hD9 hz9
                go_wp2
                go_ret
                exact ⟨_, rfl, by rw [HZ.out]; exact hD10.mono (by omega) (by omega)⟩
              · have hL := hD9.lit [⟨11, 0, 0, 0⟩, ⟨11, 0, 0, 0⟩, ⟨11, 0, 0, 0⟩, ⟨11, 0, 0, 0⟩, ⟨14, 0, 0, 0⟩, ⟨14, 0, 0, 0⟩, ⟨14, 0, 0, 0⟩, ⟨14, 0, 0, 0⟩] (by unfold cdIn; simp) (by decide) _ rfl
                have hA := hD9.alloc (.cells (cdCells [⟨11, 0, 0, 0⟩, ⟨11, 0, 0, 0⟩, ⟨11, 0, 0, 0⟩, ⟨11, 0, 0, 0⟩, ⟨14, 0, 0, 0⟩, ⟨14, 0, 0, 0⟩, ⟨14, 0, 0, 0⟩, ⟨14, 0, 0, 0⟩]).toArray 42)
                have HL := Lib.hid hL
                have HA := Lib.hid hA
                clear hL hA
                go_wp2_with (at_builtin; refine wpList_dc2 _ rfl _ _ rfl HL.out HA.out (by decide) (by omega) rfl rfl ?_)
                intro v10 w10 hD10
                clear hD9 hz9 HL HA
                go_wp2
                go_ret
                exact ⟨_, rfl, by rw [HZ.out]; exact hD10.mono (by omega) (by first | omega | (simp; done) | (simp; omega))⟩
              · go_wp2_with fail
                go_loopg [5] 41 (fun g v wr => ∃ (ad : Option Addr) (len cap : Nat) (q : Int) (m : Nat), v = .slice ad len cap ∧ len ≤ cap ∧ cap ≤ 9223372036854775807 ∧ DC w z a bs q m wr (.slice ad len cap) ∧ 41 ≤ len + g ∧ q + g * 5 ≤ p + 209500 ∧ m + g ≤ 140000)
                case atStart => exact ⟨_, _, _, _, _, rfl, hl2, hl3, hD9, by omega, by omega, by omega⟩
                case round =>
                  clear hD9 hl1 hl2 hl3
                  obtain ⟨ad, len, cap, q, m, rfl, hl2, hl3, hD, hg, hq, hm⟩ := hrel
                  by_cases hlt : len ≤ 40
                  · obtain ⟨j, rfl⟩ : ∃ j, gk = j + 1 := ⟨gk - 1, by omega⟩
                    go_wp2_with fail
                    refine (plain_dc hD (by omega)).mono ?_
                    rintro e w10 ⟨c, rfl, hc, hD10⟩
                    have hz10 := hD10.size
                    clear hD
                    go_wp2_with (at_builtin; refine wpList_dc1n _ rfl _ _ rfl c hc hD10 (by omega) rfl rfl ?_)
                    intro ad11 cap11 w11 hD11
                    clear hD10 hz10
                    obtain ⟨_, _, _, he, _, hc1, hc2⟩ := hD11.shape
                    injection he with he1 he2 he3
                    subst he1 he2 he3
                    go_wp2
                    go_roundg j
                    case measure => omega
                    case rel => exact ⟨_, _, _, _, _, rfl, hc1, hc2, hD11, by omega, by omega, by omega⟩
                  · have hlt2 : (40 : Int) < len := by omega
                    go_wp2
                    go_ret
                    exact ⟨_, rfl, by rw [HZ.out]; exact hD.mono (by omega) (by omega)⟩
          · obtain rfl : len = 0 := by omega
            go_wp2
            go_ret
            exact ⟨_, rfl, by rw [HZ.out]; exact hD6.mono (by omega) (by omega)⟩
        · have hD6 := hD5.mono (q' := p + 209245) (n' := 140000 - 50) (by omega) (by omega)
          clear hD5
          generalize w5 = w6 at *
          by_cases hl0 : 0 < len
          · go_wp2_with fail
            refine (odd_dc n hD6 (by omega) (by omega)).mono ?_
            rintro e w7 ⟨O, rfl, hD7⟩
            clear hD6
            cases O
            · go_wp2
              go_ret
              exact ⟨_, rfl, by rw [HZ.out]; exact hD7.mono (by omega) (by omega)⟩
            · go_wp2_with fail
              refine (pick_dc len hD7 (by omega) (by omega)).mono ?_
              rintro e w8 ⟨I, rfl, hI0, hI1, hD8⟩
              obtain ⟨i, rfl⟩ : ∃ j : Nat, I = j := ⟨I.toNat, by omega⟩
              clear hD7
              go_wp2_with fail
              refine (pick_dc 5 hD8 (by omega) (by omega)).mono ?_
              rintro e w9 ⟨S, rfl, hS0, hS1, hD9⟩
              clear hD8
              have hz9 := hD9.size
              rcases (show S = 0 ∨ S = 1 ∨ S = 2 ∨ S = 3 ∨ S = 4 by omega) with rfl | rfl | rfl | rfl | rfl
              · go_wp2_with fail
                refine (code_dc 1 hD9 (by omega) (by omega)).mono ?_
                rintro e w10 ⟨c, rfl, hc, hD10⟩
                clear hD9 hz9
                obtain ⟨g, rfl, hgl, hga, ⟨x0, x1, x2, x3, e0, e1, e2, e3⟩, f0, f1, f2, f3, hset⟩ := hD10.at i (by omega)
                have hD11 := hset c hc
                have HD := Lib.hid hD11
                clear hset hD11 hD10
                go_wp2
                go_ret
                exact ⟨_, rfl, by rw [HZ.out]; exact HD.out.mono (by omega) (by omega)⟩
              · go_wp2_with (at_builtin; refine wpList_dc1 _ rfl _ _ rfl ⟨14, 0, 0, 0⟩ (by unfold cdIn; simp) hD9 (by omega) rfl rfl ?_)
                intro v10 w10 hD10
                clear hD9 hz9
                go_wp2
                go_ret
                exact ⟨_, rfl, by rw [HZ.out]; exact hD10.mono (by omega) (by omega)⟩
              · go_wp2_with (at_builtin; refine wpList_dc1 _ rfl _ _ rfl ⟨12, 0, 0, 0⟩ (by unfold cdIn; simp) hD9 (by omega) rfl rfl ?_)
                intro v10 w10 hD10
                clear hD9 hz9
                go_wp2
                go_ret
                exact ⟨_, rfl, by rw [HZ.out]; exact hD10.mono (by omega) (by omega)⟩
              · have hL := hD9.lit [⟨11, 0, 0, 0⟩, ⟨11, 0, 0, 0⟩, ⟨11, 0, 0, 0⟩, ⟨11, 0, 0, 0⟩, ⟨14, 0, 0, 0⟩, ⟨14, 0, 0, 0⟩, ⟨14, 0, 0, 0⟩, ⟨14, 0, 0, 0⟩] (by unfold cdIn; simp) (by decide) _ rfl
                have hA := hD9.alloc (.cells (cdCells [⟨11, 0, 0, 0⟩, ⟨11, 0, 0, 0⟩, ⟨11, 0, 0, 0⟩, ⟨11, 0, 0, 0⟩, ⟨14, 0, 0, 0⟩, ⟨14, 0, 0, 0⟩, ⟨14, 0, 0, 0⟩, ⟨14, 0, 0, 0⟩]).toArray 42)
                have HL := Lib.hid hL
                have HA := Lib.hid hA
                clear hL hA
                go_wp2_with (at_builtin; refine wpList_dc2 _ rfl _ _ rfl HL.out HA.out (by decide) (by omega) rfl rfl ?_)
                intro v10 w10 hD10
                clear hD9 hz9 HL HA
                go_wp2
                go_ret
                exact ⟨_, rfl, by rw [HZ.out]; exact hD10.mono (by omega) (by first | omega | (simp; done) | (simp; omega))⟩
              · go_wp2_with fail
                go_loopg [5] 41 (fun g v wr => ∃ (ad : Option Addr) (len cap : Nat) (q : Int) (m : Nat), v = .slice ad len cap ∧ len ≤ cap ∧ cap ≤ 9223372036854775807 ∧ DC w z a bs q m wr (.slice ad len cap) ∧ 41 ≤ len + g ∧ q + g * 5 ≤ p + 209500 ∧ m + g ≤ 140000)
                case atStart => exact ⟨_, _, _, _, _, rfl, hl2, hl3, hD9, by omega, by omega, by omega⟩
                case round =>
                  clear hD9 hl1 hl2 hl3
                  obtain ⟨ad, len, cap, q, m, rfl, hl2, hl3, hD, hg, hq, hm⟩ := hrel
                  by_cases hlt : len ≤ 40
                  · obtain ⟨j, rfl⟩ : ∃ j, gk = j + 1 := ⟨gk - 1, by omega⟩
                    go_wp2_with fail
                    refine (plain_dc hD (by omega)).mono ?_
                    rintro e w10 ⟨c, rfl, hc, hD10⟩
                    have hz10 := hD10.size
                    clear hD
                    go_wp2_with (at_builtin; refine wpList_dc1n _ rfl _ _ rfl c hc hD10 (by omega) rfl rfl ?_)
                    intro ad11 cap11 w11 hD11
                    clear hD10 hz10
                    obtain ⟨_, _, _, he, _, hc1, hc2⟩ := hD11.shape
                    injection he with he1 he2 he3
                    subst he1 he2 he3
                    go_wp2
                    go_roundg j
                    case measure => omega
                    case rel => exact ⟨_, _, _, _, _, rfl, hc1, hc2, hD11, by omega, by omega, by omega⟩
                  · have hlt2 : (40 : Int) < len := by omega
                    go_wp2
                    go_ret
                    exact ⟨_, rfl, by rw [HZ.out]; exact hD.mono (by omega) (by omega)⟩
          · exfalso; omega
end Go.Proofs.YtidmjeehcmpjnaaDoor
