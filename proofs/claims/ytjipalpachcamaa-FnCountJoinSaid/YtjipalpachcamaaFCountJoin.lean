/- YtjipalpachcamaaFCountJoin: The number of instructions with an operation in two programs together is the sum of the numbers. No conditions. -/
import Derived.Test.YtjipalpachcamaaDrawS
import Derived.Test.YtjipalpachcamaaLawC
import Derived.Test.YtjipalpachcamaaLawQ
import Derived.Test.YtjipalpachcamaaPgmC
import Derived.Test.YtjipalpachcamaaAlive
namespace Go.Proofs.Ytjipalpachcamaa
open Go.ChangeShapes Go.WideShapes Go.ChangeAt Go.RowKit
set_option linter.unusedVariables false
set_option maxHeartbeats 2000000 in
theorem joined_any (u v : Value) (a b : List Cd) (B1 B2 : Nat) (w : World) (h1 : OC B1 w u a) (h2 : OC B2 w v b) : Calls Try.prog 31 #[u, v] w
    fun e w' => e = .returned (.bool (pValid a && (pValid b && decide (a.length + b.length ≤ 40)))) ∧ Below w.heap.size w w' := by
  have hB1 := Below.refl w.heap.size w
  obtain ⟨PA, hPA⟩ : ∃ P, pValid a = P := ⟨_, rfl⟩
  obtain ⟨PB, hPB⟩ : ∃ P, pValid b = P := ⟨_, rfl⟩
  have la : PA = true → a.length ≤ 40 := fun h => pValid_len (by rw [hPA]; exact h)
  have lb : PB = true → b.length ≤ 40 := fun h => pValid_len (by rw [hPB]; exact h)
  have HA := Lib.hid hPA
  have HB := Lib.hid hPB
  have hO1 := h1
  have hp1 := h2
  clear hPA hPB h1 h2
  rw [HA.out, HB.out]
  obtain ⟨a1, c1, hs1, _, _⟩ := hO1.shape
  obtain ⟨a2, c2, hs2, _, _⟩ := hp1.shape
  subst hs1 hs2
  go_enter Try.func31, Try.ntmps31
  go_wp2_with fail
  refine (specProgramValid _ a _ hO1.rd).mono ?_
  rintro e w2 ⟨rfl, hb2⟩
  rw [HA.out]
  have hB2 := hB1.trans (hb2.mono hB1.size)
  have hO2 := hO1.below hb2
  have hp2 := hp1.below hb2
  clear hb2 hB1 hO1 hp1
  cases PA
  · go_wp2
    go_ret
    exact ⟨rfl, hB2⟩
  · have la := la rfl
    go_wp2_with fail
    refine (specProgramValid _ b _ hp2.rd).mono ?_
    rintro e w3 ⟨rfl, hb3⟩
    rw [HB.out]
    have hB3 := hB2.trans (hb3.mono hB2.size)
    have hO3 := hO2.below hb3
    have hp3 := hp2.below hb3
    clear hb3 hB2 hO2 hp2
    cases PB
    · go_wp2
      go_ret
      exact ⟨rfl, hB3⟩
    · have lb := lb rfl
      go_wp2
      go_ret
      exact ⟨by show Ending.returned (.bool (decide ((a.length : Int) + (b.length : Int) ≤ 40))) = _; rw [Bool.true_and, Bool.true_and, decide_eq_decide.2 (show ((a.length : Int) + (b.length : Int) ≤ 40) ↔ (a.length + b.length ≤ 40) by omega)], hB3⟩
theorem count_bd (cs : List Cd) (op : Int) : -1 ≤ cCount cs op ∧ cCount cs op ≤ 40 := by
  cases h : pValid cs with
  | false => rw [count_no h]; omega
  | true => have := count_yes h op; omega
set_option maxRecDepth 100000 in
set_option maxHeartbeats 8000000 in
theorem fnCountJoin_walk (v : Value) (bs : List Int) (v2 : Value) (bs2 : List Int) (w0 : World) (h : RdI .u8 w0 v bs) (h2 : RdI .u8 w0 v2 bs2) : Calls Try.prog 8 #[v, v2] w0 fun e w' => e = .returned (.bool true) ∧ Below w0.heap.size w0 w' := by
  obtain ⟨ad, c, hv, hlc, hcm⟩ := h.shape
  obtain ⟨ad2, c2, hv2, hlc2, hcm2⟩ := h2.shape
  subst hv hv2
  have hB0 := Below.refl w0.heap.size w0
  by_cases hn : bs.length ≤ 1048576
  · by_cases hn2 : bs2.length ≤ 1048576
    · go_enter Try.func8, Try.ntmps8
      go_wp2_with fail
      refine (DrawCountOps_any _ bs _ h).mono ?_
      rintro e w1 ⟨u, i, rfl, hi, a, ho, hl, hc, hB1⟩
      have hO1 : OC w0.heap.size w1 u a := ⟨ho, hc⟩
      have h3 := h2.below hB1 (Nat.le_refl _)
      clear h h2 ho hc
      go_wp2_with fail
      refine (DrawCountOps_any _ bs2 _ h3).mono ?_
      rintro e w2 ⟨x, i2, rfl, hi2, b, ho, hl2, hc, hb2⟩
      have hz1 := hB1.size
      have hp2 : OC w0.heap.size w2 x b := ⟨own_mono ho hz1, hc⟩
      have hO2 := hO1.below hb2
      have hB2 := hB1.trans (hb2.mono hB1.size)
      clear h3 ho hc hb2 hO1 hB1
      obtain ⟨N, hN⟩ : ∃ N, cCount a i = N := ⟨_, rfl⟩
      obtain ⟨M, hM⟩ : ∃ N, cCount b i = N := ⟨_, rfl⟩
      have bN : -1 ≤ N ∧ N ≤ 40 := by rw [← hN]; exact count_bd a i
      have bM : -1 ≤ M ∧ M ≤ 40 := by rw [← hM]; exact count_bd b i
      obtain ⟨J, hJ⟩ : ∃ J, (pValid a && (pValid b && decide (a.length + b.length ≤ 40))) = J := ⟨_, rfl⟩
      have hS : J = true → cCount (a ++ b) i = N + M := by
        intro h
        rw [h] at hJ
        simp only [Bool.and_eq_true, decide_eq_true_eq] at hJ
        rw [count_join hJ.1 hJ.2.1 hJ.2.2, hN, hM]
      have HN := Lib.hid hN
      have HM := Lib.hid hM
      have HJ := Lib.hid hJ
      have HS := Lib.hid hS
      clear hN hM hJ hS
      go_wp2_with fail
      refine (implCountOps _ a i _ hO2.rd).mono ?_
      rintro e w3 ⟨rfl, hb3⟩
      rw [HN.out]
      have hB3 := hB2.trans (hb3.mono hB2.size)
      have hO3 := hO2.below hb3
      have hp3 := hp2.below hb3
      clear hb3 hB2 hO2 hp2
      go_wp2_with fail
      refine (specCountOps _ a i _ hO3.rd).mono ?_
      rintro e w4 ⟨rfl, hb4⟩
      rw [HN.out]
      have hB4 := hB3.trans (hb4.mono hB3.size)
      have hO4 := hO3.below hb4
      have hp4 := hp3.below hb4
      clear hb4 hB3 hO3 hp3
      go_wp2_with fail
      refine (joined_any _ _ a b _ _ _ hO4 hp4).mono ?_
      rintro e w5 ⟨rfl, hb5⟩
      rw [HJ.out]
      have hB5 := hB4.trans (hb5.mono hB4.size)
      have hO5 := hO4.below hb5
      have hp5 := hp4.below hb5
      clear hb5 hB4 hO4 hp4
      cases J
      · go_wp2_with (go_at_call 18; refine (alive_any _).mono ?_; rintro e w' ⟨rfl, rfl⟩)
        go_ret
        exact ⟨rfl, hB5⟩
      · have HS2 := Lib.hid (HS.out rfl)
        have hz5 := hB5.size
        go_wp2_with (at_builtin; refine wpList_ocL _ (by rfl) _ _ rfl [] (by simp) _ rfl hO5 (by simp) (by omega) rfl rfl ?_)
        intro v6 w6 hO6 hb6
        have hp6 := hp5.below hb6
        have hz6 := hb6.size
        clear hO5
        go_wp2_with (at_builtin; refine wpList_ocA _ (by rfl) _ _ rfl hO6 hp6 (by omega) (by omega) (by omega) rfl rfl ?_)
        intro v7 w7 hO7 hb7
        have hbb := hb6.trans hb7
        have hp7 := hp5.below hbb
        have hB7 := hB5.trans (hbb.mono hB5.size)
        clear hbb hb6 hb7 hp5 hp6 hO6 hB5 hz6 hz5
        go_wp2_with fail
        refine (implCountOps _ _ i _ hO7.rd).mono ?_
        rintro e w8 ⟨rfl, hb8⟩
        rw [HS2.out]
        have hB8 := hB7.trans (hb8.mono hB7.size)
        have hp8 := hp7.below hb8
        clear hb8 hB7 hp7
        clear hO7
        go_wp2_with fail
        refine (implCountOps _ b i _ hp8.rd).mono ?_
        rintro e w9 ⟨rfl, hb9⟩
        rw [HM.out]
        have hB9 := hB8.trans (hb9.mono hB8.size)
        clear hb9 hB8 
        clear hp8
        go_wp2_with (go_at_call 18; refine (alive_any _).mono ?_; rintro e w' ⟨rfl, rfl⟩)
        go_ret
        exact ⟨rfl, hB9⟩
    · go_enter Try.func8, Try.ntmps8
      go_wp2
      go_ret
      exact ⟨rfl, hB0⟩
  · go_enter Try.func8, Try.ntmps8
    go_wp2
    go_ret
    exact ⟨rfl, hB0⟩
namespace fnCountJoin
set_option linter.unusedVariables false
set_option maxRecDepth 100000 in
theorem lifted (os : Os) (started : os.Started) (H : Type) (enc : TypeId × Value → H) :
    ReturnsInHanded {} Try.checked os 8 .any (Rows.fnCountJoinSpec.pre6 enc Try.prog Try.f8 Rows.fnCountJoinRow.domain false) (Rows.fnCountJoinSpec.post enc Try.prog Try.f8 false true false false) := by
  refine returnsInHanded_of_change (C := Try.checked) own started (by kernel_rfl) Try.func8
    (ChangeSpec.witness6 (enc := enc) (C := Try.checked) false ⟨#[], #[.slice none 0 0, .slice none 0 0], []⟩ 8 (by kernel_rfl) (by kernel_rfl) (by kernel_rfl) (by kernel_rfl)) ?_
  intro W base args ds gs before hval0 hW hcnd _
  have hval : ∀ (j : Nat) t v, Try.f8.params[j]? = some t → args[j]? = some v → Value.okWide Try.prog W .any base t v := hval0
  have hW' := hW
  obtain ⟨p, q, hA0, hV, rfl, hfz, hnd⟩ := hW
  have hA : DataW.TrodAll enc Try.prog W 0 (fun _ => true) true Try.f8.params.toList args.toList ds p := hA0
  rw [Try.params8] at hA hval
  obtain ⟨v0, vs0, d0, ds0, p0, q0, hargs, rfl, rfl, h0, r0⟩ := trodAll_cons hA
  obtain ⟨v1, vs1, d1, ds1, p1, q1, rfl, rfl, rfl, h1, r1⟩ := trodAll_cons r0
  obtain ⟨rfl, rfl, rfl⟩ := trodAll_nil r1
  obtain rfl : args = #[v0, v1] := by cases args; simp_all
  obtain ⟨rfl, rfl⟩ := trodVars_none hV
  have k0 := h0
  have lt0 : ∀ x ∈ p0, x.block < W.heap.size := by obtain ⟨m, hm⟩ := k0; exact DataW.trod_lt m _ _ _ hm
  obtain ⟨z0, w0⟩ := open_rdI (kk := .u8) Try.underlying22 Try.underlying5 (by kernel_rfl) (hval 0 22 v0 rfl rfl) h0
  have k1 := h1
  have lt1 : ∀ x ∈ p1, x.block < W.heap.size := by obtain ⟨m, hm⟩ := k1; exact DataW.trod_lt m _ _ _ hm
  obtain ⟨z1, w1⟩ := open_rdI (kk := .u8) Try.underlying22 Try.underlying5 (by kernel_rfl) (hval 1 22 v1 rfl rfl) h1
  clear hA0 hval0
  refine (fnCountJoin_walk v0 z0 v1 z1 W w0 w1).mono fun e W' ⟨he, bel⟩ => ?_
  subst he
  exact ⟨_, rfl, _, _, _, [], _, [], hW', trodAll_mk1 (shut_bool Try.underlying4 _), (trodAll_cons_mk (Below.trod laidOut (by kernel_rfl) (of_decide_eq_true (by kernel_rfl)) k0 bel lt0) (trodAll_cons_mk (Below.trod laidOut (by kernel_rfl) (of_decide_eq_true (by kernel_rfl)) k1 bel lt1) trodAll_mk0)), rfl, bel.frame _, fun h => by cases h⟩
theorem over : Rows.fnCountJoinRow.holds Try.pinned (OpenSpec.ofChange Rows.fnCountJoinSpec) :=
  OpenClaim.holds_of_wide 8 Try.f8 rfl rfl rfl rfl rfl rfl rfl ⟨rfl, rfl, rfl, rfl, rfl⟩ rfl rfl rfl rfl rfl (by kernel_rfl) Try.func8 (by kernel_rfl)
    (of_decide_eq_true (by kernel_rfl)) (by unfold Func.isWrapper; first | (rw [if_pos (by decide +kernel)]; kernel_rfl) | (rw [if_neg (by decide +kernel)]; exact ⟨rfl, rfl⟩))
    (fun os started H enc _ => lifted os started H enc)
end fnCountJoin
/-- The given statement on FnCountJoin. -/
theorem fnCountJoin_holds : Rows.FnCountJoinSaid := fnCountJoin.over
#print axioms fnCountJoin_holds
end Go.Proofs.Ytjipalpachcamaa
