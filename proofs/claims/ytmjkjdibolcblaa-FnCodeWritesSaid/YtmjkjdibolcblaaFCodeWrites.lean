/- YtmjkjdibolcblaaFCodeWrites: A step of a lane changes no register but that which the instruction writes. No conditions. -/
import Derived.Test.YtmjkjdibolcblaaDrawB
import Derived.Test.YtmjkjdibolcblaaOpensL
import Derived.Test.YtmjkjdibolcblaaAlive
import Derived.Deep.CutBlock
import Derived.BigRegion
import Derived.Deep.Light
namespace Go.Proofs.Ytmjkjdibolcblaa
open Go.ChangeShapes Go.WideShapes Go.ChangeAt Go.RowKit
set_option linter.unusedVariables false
set_option maxRecDepth 100000 in
set_option maxHeartbeats 16000000 in
theorem fnCodeWrites_walk (v : Value) (bs : List Int) (w0 : World) (h : RdI .u8 w0 v bs) : Calls Try.prog 3 #[v] w0 fun e w' => e = .returned (.bool true) ∧ Below w0.heap.size w0 w' := by
  obtain ⟨ad, cc, hv, hlc, hcm⟩ := h.shape
  subst hv
  have hB0 := Below.refl w0.heap.size w0
  by_cases hn : bs.length ≤ 1048576
  rotate_left
  · go_enter Try.func3, Try.ntmps3
    go_wp2
    go_ret
    exact ⟨rfl, hB0⟩
  go_enter Try.func3, Try.ntmps3
  go_wp2_with fail
  refine (DrawCodeWrites_any _ bs _ h).mono ?_
  rintro e w1 ⟨c, rfl, hci, hB1⟩
  have hz1 := hB1.size
  have hs1 := Box4.new w1 (.int .i64 c.op) (.int .i64 c.a) (.int .i64 c.b) (.int .i64 c.c) 24
  have hA1 := below_alloc w1 (.cells #[.int .i64 c.op, .int .i64 c.a, .int .i64 c.b, .int .i64 c.c] 24)
  have hB1a := hB1.trans (hA1.mono hz1)
  obtain ⟨N, hN⟩ : ∃ N, cWrites c = N := ⟨_, rfl⟩
  have HN := Lib.hid hN
  have HCI := Lib.hid hci
  clear hN hci hA1 hB1 h
  go_wp2_with fail
  refine (implCodeWrites c _).mono ?_
  rintro e w2 ⟨rfl, hb2⟩
  rw [HN.out]
  have hB2 := hB1a.trans (hb2.mono hB1a.size)
  have hs2 := hs1.below hb2 (Nat.le_refl _)
  clear hb2 hs1 hB1a
  obtain ⟨x0, x1, x2, x3, x4⟩ := _root_.id hs2
  go_wp2_with fail
  refine (specCodeWrites c _).mono ?_
  rintro e w3 ⟨rfl, hb3⟩
  rw [HN.out]
  have hB3 := hB2.trans (hb3.mono hB2.size)
  have hs3 := hs2.below hb3 (Nat.le_refl _)
  clear hb3 hs2 hB2 x0 x1 x2 x3 x4
  obtain ⟨x0, x1, x2, x3, x4⟩ := _root_.id hs3
  obtain ⟨O, hO⟩ : ∃ O, isOp c = O := ⟨_, rfl⟩
  have HO := Lib.hid hO
  clear hO
  go_wp2_with fail
  refine (opens_any c _).mono ?_
  rintro e w4 ⟨rfl, hb4⟩
  rw [HO.out]
  have hB4 := hB3.trans (hb4.mono hB3.size)
  have hs4 := hs3.below hb4 (Nat.le_refl _)
  clear hb4 hs3 hB3 x0 x1 x2 x3 x4
  have HS4 := Lib.hid hs4
  obtain ⟨x0, x1, x2, x3, x4⟩ := _root_.id hs4
  clear hs4
  cases O
  rotate_left
  · have hm : N = -1 := by rw [← HN.out]; exact no_writes (.inl HO.out)
    subst hm
    go_wp2_with (go_at_call 13; refine (alive_any _).mono ?_; rintro e w' ⟨rfl, rfl⟩)
    go_ret
    exact ⟨rfl, hB4⟩
  by_cases h12 : c.op = 12
  · have hm : N = -1 := by rw [← HN.out]; exact no_writes (.inr (.inl h12))
    subst hm
    rw [h12] at x0
    clear h12
    go_wp2_with (go_at_call 13; refine (alive_any _).mono ?_; rintro e w' ⟨rfl, rfl⟩)
    go_ret
    exact ⟨rfl, hB4⟩
  by_cases h14 : c.op = 14
  · have hm : N = -1 := by rw [← HN.out]; exact no_writes (.inr (.inr (.inl h14)))
    subst hm
    rw [h14] at x0
    clear h14
    go_wp2_with (go_at_call 13; refine (alive_any _).mono ?_; rintro e w' ⟨rfl, rfl⟩)
    go_ret
    exact ⟨rfl, hB4⟩
  have e12 : (c.op == 12) = false := by simpa using h12
  have e14 : (c.op == 14) = false := by simpa using h14
  obtain ⟨V, hV⟩ : ∃ V, cValid c = V := ⟨_, rfl⟩
  have HV := Lib.hid hV
  clear hV
  go_wp2_with fail
  refine (specCodeValid c _).mono ?_
  rintro e w5 ⟨rfl, hb5⟩
  rw [HV.out]
  have hB5 := hB4.trans (hb5.mono hB4.size)
  have HS5 := Lib.hid (HS4.out.below hb5 (Nat.le_refl _))
  clear hb5 HS4 hB4 x0 x1 x2 x3 x4
  cases V
  · have hm : N = -1 := by rw [← HN.out]; exact no_writes (.inr (.inr (.inr HV.out)))
    subst hm
    clear e12 e14 h12 h14
    go_wp2_with (go_at_call 13; refine (alive_any _).mono ?_; rintro e w' ⟨rfl, rfl⟩)
    go_ret
    exact ⟨rfl, hB5⟩
  have HP := Lib.hid (plain_of HO.out h12 h14 HV.out)
  clear e12 e14 h12 h14 HO HV
  go_wp2_with fail
  refine (implNewLane4 _).mono ?_
  rintro e w6 ⟨g6, c6, b6, d6, rfl, oi6, ot6, hne6, hc6, hb6⟩
  have hB6 := hB5.trans (hb6.mono hB5.size)
  have hs6 := HS5.out.below hb6 (Nat.le_refl _)
  have hA6 := below_alloc w6 (.cells #[.slice (some ⟨g6, 0, none⟩) 4 c6, .int .i64 0, .slice b6 0 d6, .bool false] 31)
  have hK6 := Box4.new w6 (.slice (some ⟨g6, 0, none⟩) 4 c6) (.int .i64 0) (.slice b6 0 d6) (.bool false) 31
  obtain ⟨wA, hwA⟩ : ∃ x, x = w6.alloc (.cells #[.slice (some ⟨g6, 0, none⟩) 4 c6, .int .i64 0, .slice b6 0 d6, .bool false] 31) := ⟨_, rfl⟩
  obtain ⟨bA, hbA⟩ : ∃ x, w6.heap.size = x := ⟨_, rfl⟩
  have hBA := hB6.trans (hA6.mono hB6.size)
  have hsA := hs6.below hA6 (Nat.le_refl _)
  have oiA := oi6.below hA6
  have otA := OwI.below ot6 hA6
  have hgl := oi6.lt
  have hsl := hs6.lt
  have hx1 : w1.heap.size ≠ g6 := by have := oi6.ge; have := HS5.out.lt; omega
  rw [← hwA] at hBA hsA oiA otA hK6
  rw [hbA] at hK6 hgl hsl
  have HWA := Lib.hid hwA
  have HBA := Lib.hid hbA
  have HSA := Lib.hid hsA
  have HKA := Lib.hid hK6
  have HTA := Lib.hid otA
  have HNE := Lib.hid hne6
  have hz5 := hB5.size
  clear hb6 hB6 hs6 hA6 oi6 ot6 hne6 hwA hbA hsA hK6 otA HS5 hB5
  have hoi0 : OI w5.heap.size wA g6 c6 (rowN 0) := oiA
  clear oiA
  obtain ⟨y0, y1, y2, y3, y4⟩ := _root_.id HKA.out
  go_upto_region 10 with fail
  rw [← HWA.out, HBA.out]
  go_upto_block 0 with fail
  go_cut [6] from 48 to 58 (fun _ wr => OI w5.heap.size wr g6 c6 (rowN 4) ∧ Wr wA wr (fun b => b = g6))
  case first =>
    go_wp2_with fail
    go_loopg [6] 4 (fun g i wr => ∃ k : Nat, k + g = 4 ∧ i = .int .i64 k ∧ OI w5.heap.size wr g6 c6 (rowN k) ∧ Wr wA wr (fun b => b = g6))
    case atStart => exact ⟨0, rfl, rfl, hoi0, Wr.refl _ _⟩
    case round =>
      clear hoi0 y0 y1 y2 y3
      obtain ⟨k, hk, rfl, hoi, hwr⟩ := hrel
      have hKr := HKA.out.wr hwr (by omega)
      have HKR := Lib.hid hKr
      have hzr := hwr.size
      obtain ⟨y0, y1, y2, y3, y5⟩ := _root_.id hKr
      clear hKr
      by_cases hlt : k < 4
      · obtain ⟨y, hy⟩ := get_lt (show k < (rowN k).length by rw [rowN_len]; exact hlt)
        have hold := hoi.get (i := k) (by rw [rowN_len]; exact hlt)
        have hfr := hoi.frz k
        have hst := hoi.set k (3 + 5 * (k : Int))
        rw [rowN_set hlt] at hst
        have HST := Lib.hid (And.intro hst.1 (hwr.trans hst.2))
        clear hst hy hoi hwr
        have hkl : (k : Int) < 4 := by omega
        go_wp2
        go_roundg (4 - (k + 1))
        case measure => omega
        case rel => exact ⟨k + 1, by omega, by go_num, HST.out.1, HST.out.2⟩
      · have hk4 : k = 4 := by omega
        subst hk4
        have HE := Lib.hid (And.intro hoi hwr)
        clear hoi hwr
        go_wp2
        go_meet
        exact HE.out
  case rest =>
    obtain ⟨hoi, hwr⟩ := hcut
    obtain ⟨wr, hwrr⟩ : ∃ x, x = wc := ⟨_, rfl⟩
    subst hwrr
    have hKr := HKA.out.wr hwr (by omega)
    have HKR := Lib.hid hKr
    have hzr := hwr.size
    obtain ⟨y0, y1, y2, y3, y5⟩ := _root_.id hKr
    clear hKr
    have HOI := Lib.hid hoi
    have hsr := HSA.out.wr hwr hx1
    have hBr := Below.wr hBA hwr (by have := HSA.out.lt; have := hBA.size; omega) (fun b hb => by have := HOI.out.ge; subst hb; omega)
    have htr := hwr.owns HTA.out (fun b hb hh => HNE.out (by rw [hb, hh]))
    obtain ⟨W2, hW2⟩ : ∃ x, x = (wr.alloc (.cells #[.int .i64 c.op, .int .i64 c.a, .int .i64 c.b, .int .i64 c.c] 24)).alloc (.cells #[.int .i64 1, .int .i64 2, .int .i64 3] 3) := ⟨_, rfl⟩
    have hb2 : Below wr.heap.size wr W2 := by rw [hW2]; exact (below_alloc wr _).trans ((below_alloc _ _).mono (by simp))
    have hcode : W2.ownsRow 0 24 4 (.slice (some ⟨wr.heap.size, 0, none⟩) 1 1) 1 (cdCells [c]) := by
      rw [hW2]; exact owns_below (World.ownsRow_lit (base := 0) (e := 24) (size := 4) wr #[.int .i64 c.op, .int .i64 c.a, .int .i64 c.b, .int .i64 c.c] 1 (Nat.zero_le _) (by decide) rfl) (below_alloc _ _) (Nat.le_refl _)
    have hmem : OwI 0 W2 (.slice (some ⟨wr.heap.size + 1, 0, none⟩) 3 3) [1, 2, 3] := by
      have hx := World.ownsRow_lit (base := 0) (e := 3) (size := 1) (wr.alloc (.cells #[.int .i64 c.op, .int .i64 c.a, .int .i64 c.b, .int .i64 c.c] 24)) #[.int .i64 1, .int .i64 2, .int .i64 3] 3 (Nat.zero_le _) (by decide) rfl
      rw [World.size_alloc] at hx
      rw [hW2]; exact hx
    have hcd : RdC W2 (.slice (some ⟨wr.heap.size, 0, none⟩) ([c] : List Cd).length 1) [c] := rdC_of_owns hcode (fun x hx => by simp at hx; subst hx; exact HCI.out.wf)
    have hcall := implStepLane w5.heap.size w5.heap.size 0 (.slice (some ⟨g6, 0, none⟩) 4 c6) (.slice b6 0 d6) (.slice (some ⟨wr.heap.size + 1, 0, none⟩) 3 3) (.slice (some ⟨wr.heap.size, 0, none⟩) 1 1) ⟨rows4, 0, [], false⟩ [c] [1, 2, 3] 2 W2 (OwI.below (HOI.out.own) hb2) (OwI.below htr hb2) hmem hcd (fun x hx => WalkArith.wf_i64 (by have := rows4_ok x hx; omega)) (fun x hx => by simp at hx) (fun x hx => WalkArith.wf_i64 (by simp at hx; omega))
    have hst := plain_step (rs := rows4) (ms := [1, 2, 3]) (id := 2) HP.out rfl rows4_ok ⟨by decide, by intro x hx; simp at hx; omega⟩ rfl (by decide)
    have hlen := (simple_ok (r := rows4) (m := [1, 2, 3]) (c := c) (id := 2) rows4_ok ⟨by decide, by intro x hx; simp at hx; omega⟩ HP.out.1 (by decide)).1
    have hoth := plain_writes HP.out rows4 [1, 2, 3] 2
    rw [HN.out] at hoth
    generalize (stepV ⟨rows4, 0, [], false⟩ [c] 2 [1, 2, 3]).2 = M at *
    generalize (stepV ⟨rows4, 0, [], false⟩ [c] 2 [1, 2, 3]).1 = L at *
    generalize (simple rows4 [1, 2, 3] c 2).1 = R at *
    simp only at hcall
    have HCALL := Lib.hid hcall
    have HST := Lib.hid (And.intro hst.1 (And.intro hlen hoth))
    have HW2 := Lib.hid hW2
    have HB2 := Lib.hid (hBr.trans (hb2.mono hBr.size))
    have HK2 := Lib.hid (HKR.out.below hb2 (Nat.le_refl _))
    have HOI2 := Lib.hid (HOI.out.below hb2)
    obtain ⟨q0, q1, q2, q3, q4⟩ := _root_.id hsr
    clear hcall hst hlen hoth hW2 hBr hb2 hsr htr hcode hmem hcd hoi hwr HKR HKA HTA HNE HSA HBA hBA hz1 hzr hgl hsl
    go_upto_region 16 with fail
    go_wp2_with fail
    rw [← HW2.out]
    refine HCALL.out.mono ?_
    rintro e w9 ⟨r9, t9, m9, rfl, n1, n2, n3, nd, nd2, hb9⟩
    rw [HST.out.1] at n1
    have hRl : R.length = 4 := HST.out.2.1
    obtain ⟨gR, cR, hr9, oi9, hc9a, hc9b⟩ := OI.shape n1 (by omega)
    obtain ⟨b9, d9, ht9⟩ := own_shape n2
    obtain ⟨e9, f9, hm9⟩ := own_shape n3
    subst hr9 ht9 hm9
    rw [hRl]
    have hA9 := below_alloc w9 (.cells #[.slice (some ⟨gR, 0, none⟩) 4 cR, .int .i64 L.pc, .slice b9 L.turns.length d9, .bool L.waits] 31)
    have hX9 := Box4.new w9 (.slice (some ⟨gR, 0, none⟩) 4 cR) (.int .i64 L.pc) (.slice b9 L.turns.length d9) (.bool L.waits) 31
    have h29 := hb9.trans (hA9.mono hb9.size)
    have HB9 := Lib.hid (HB2.out.trans (h29.mono HB2.out.size))
    have HKX := Lib.hid (HK2.out.below h29 (Nat.le_refl _))
    have HOX := Lib.hid (HOI2.out.below h29)
    have HOR := Lib.hid (oi9.below hA9)
    obtain ⟨wX, hwX⟩ : ∃ x, x = w9.alloc (.cells #[.slice (some ⟨gR, 0, none⟩) 4 cR, .int .i64 L.pc, .slice b9 L.turns.length d9, .bool L.waits] 31) := ⟨_, rfl⟩
    obtain ⟨bX, hbX⟩ : ∃ x, w9.heap.size = x := ⟨_, rfl⟩
    rw [← hwX] at HB9 HKX HOX HOR hX9
    rw [hbX] at hX9
    have HXX := Lib.hid hX9
    have HWX := Lib.hid hwX
    have HBX := Lib.hid hbX
    have HRL := Lib.hid hRl
    clear n1 n2 n3 nd nd2 hb9 oi9 hA9 hX9 h29 hwX hbX hRl HB2 HK2 HOI2 HCALL HOI q0 q1 q2 q3 q4
    as_aux_lemma =>
      go_upto_region 17 with fail
      rw [← HWX.out, HBX.out]
      go_wp2_with fail
      go_loopg [9] 4 (fun g i wr => ∃ k : Nat, k + g = 4 ∧ i = .int .i64 k ∧ Below wX.heap.size wX wr)
      case atStart => exact ⟨0, rfl, rfl, Below.refl _ _⟩
      case round =>
        obtain ⟨k, hk, rfl, hbk⟩ := hrel
        by_cases hlt : k < 4
        · have o1 := (HOR.out.below hbk).get (i := k) (by rw [HRL.out]; exact hlt)
          have o2 := (HOX.out.below hbk).get (i := k) (by rw [rowN_len]; exact hlt)
          obtain ⟨x0, x1, x2, x3, x4⟩ := HXX.out.below hbk (Nat.le_refl _)
          obtain ⟨y0, y1, y2, y3, y4⟩ := HKX.out.below hbk (Nat.le_refl _)
          have hkl : (k : Int) < 4 := by omega
          have HBK := Lib.hid hbk
          clear hbk x1 x2 x3 y1 y2 y3
          have hk4d : decide ((4 : Int) ≤ (k : Int)) = false := by rw [decide_eq_false_iff_not]; omega
          by_cases hkn : (k : Int) = N
          · subst hkn
            go_wp2
            go_quiet (fail)
            go_wp2
            go_roundg (4 - (k + 1))
            case measure => omega
            case rel => exact ⟨k + 1, by omega, by go_num, below_drewN HBK.out _⟩
          · have hv := HST.out.2.2 k hkn
            have hv2 : rg R k = rg rows4 k := by unfold rg; rw [Int.toNat_natCast, hv]
            rw [hv2] at o1
            rw [rowN_4] at o2
            generalize rg rows4 (k : Int) = y at *
            have e1 : ((k : Int) != N) = true := by simpa using hkn
            clear hv hv2 hkn
            go_wp2
            go_quiet (fail)
            go_wp2
            go_roundg (4 - (k + 1))
            case measure => omega
            case rel => exact ⟨k + 1, by omega, by go_num, below_drewN HBK.out _⟩
        · go_wp2
          go_ret
          exact ⟨rfl, HB9.out.trans (hbk.mono HB9.out.size)⟩
namespace fnCodeWrites
set_option linter.unusedVariables false
set_option maxRecDepth 100000 in
theorem lifted (os : Os) (started : os.Started) (H : Type) (enc : TypeId × Value → H) :
    ReturnsInHanded {} Try.checked os 3 .any (Rows.fnCodeWritesSpec.pre6 enc Try.prog Try.f3 Rows.fnCodeWritesRow.domain false) (Rows.fnCodeWritesSpec.post enc Try.prog Try.f3 false true false false) := by
  refine returnsInHanded_of_change (C := Try.checked) own started (by kernel_rfl) Try.func3
    (ChangeSpec.witness6 (enc := enc) (C := Try.checked) false ⟨#[], #[.slice none 0 0], []⟩ 8 (by kernel_rfl) (by kernel_rfl) (by kernel_rfl) (by kernel_rfl)) ?_
  intro W base args ds gs before hval0 hW hcnd _
  have hval : ∀ (j : Nat) t v, Try.f3.params[j]? = some t → args[j]? = some v → Value.okWide Try.prog W .any base t v := hval0
  have hW' := hW
  obtain ⟨p, q, hA0, hV, rfl, hfz, hnd⟩ := hW
  have hA : DataW.TrodAll enc Try.prog W 0 (fun _ => true) true Try.f3.params.toList args.toList ds p := hA0
  rw [Try.params3] at hA hval
  obtain ⟨v0, vs0, d0, ds0, p0, q0, hargs, rfl, rfl, h0, r0⟩ := trodAll_cons hA
  obtain ⟨rfl, rfl, rfl⟩ := trodAll_nil r0
  obtain rfl : args = #[v0] := by cases args; simp_all
  obtain ⟨rfl, rfl⟩ := trodVars_none hV
  have k0 := h0
  have lt0 : ∀ x ∈ p0, x.block < W.heap.size := by obtain ⟨m, hm⟩ := k0; exact DataW.trod_lt m _ _ _ hm
  obtain ⟨z0, w0⟩ := open_rdI (kk := .u8) Try.underlying22 Try.underlying5 (by kernel_rfl) (hval 0 22 v0 rfl rfl) h0
  clear hA0 hval0
  refine (fnCodeWrites_walk v0 z0 W w0).mono fun e W' ⟨he, bel⟩ => ?_
  subst he
  exact ⟨_, rfl, _, _, _, [], _, [], hW', trodAll_mk1 (shut_bool Try.underlying4 _), (trodAll_cons_mk (Below.trod laidOut (by kernel_rfl) (of_decide_eq_true (by kernel_rfl)) k0 bel lt0) trodAll_mk0), rfl, bel.frame _, fun h => by cases h⟩
theorem over : Rows.fnCodeWritesRow.holds Try.pinned (OpenSpec.ofChange Rows.fnCodeWritesSpec) :=
  OpenClaim.holds_of_wide 3 Try.f3 rfl rfl rfl rfl rfl rfl rfl ⟨rfl, rfl, rfl, rfl, rfl⟩ rfl rfl rfl rfl rfl (by kernel_rfl) Try.func3 (by kernel_rfl)
    (of_decide_eq_true (by kernel_rfl)) (by unfold Func.isWrapper; first | (rw [if_pos (by decide +kernel)]; kernel_rfl) | (rw [if_neg (by decide +kernel)]; exact ⟨rfl, rfl⟩))
    (fun os started H enc _ => lifted os started H enc)
end fnCodeWrites
/-- The given statement on FnCodeWrites. -/
theorem fnCodeWrites_holds : Rows.FnCodeWritesSaid := fnCodeWrites.over
#print axioms fnCodeWrites_holds
end Go.Proofs.Ytmjkjdibolcblaa
