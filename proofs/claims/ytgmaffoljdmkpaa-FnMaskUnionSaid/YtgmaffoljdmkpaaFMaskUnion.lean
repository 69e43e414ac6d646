/- YtgmaffoljdmkpaaFMaskUnion: The mask of two lists is the binary or of their masks. No conditions. -/
import Derived.Test.YtgmaffoljdmkpaaDrawW
import Derived.Test.YtgmaffoljdmkpaaBitsP
import Derived.Test.YtgmaffoljdmkpaaSameI
import Derived.Test.YtgmaffoljdmkpaaAlive
namespace Go.Proofs.Ytgmaffoljdmkpaa
open Go.ChangeShapes Go.WideShapes Go.ChangeAt Go.RowKit
set_option linter.unusedVariables false
theorem mOf_union {xs ys : List Int} {l : Int} (hx : 0 ≤ mOf xs l) (hy : 0 ≤ mOf ys l) : mOf (xs ++ ys) l = bits .or .i64 (mOf xs l) (mOf ys l) := by
  obtain ⟨k, a, rfl, h1, h2, rfl, ha, e1⟩ := mOf_nat hx
  obtain ⟨k', b, hk, _, _, rfl, hb, e2⟩ := mOf_nat hy
  obtain rfl : k = k' := by omega
  have hp : 2 ^ k ≤ 2 ^ 8 := Nat.pow_le_pow_right (by decide) h2
  have la := mN_lt a ha 0 (Nat.two_pow_pos _)
  have lb := mN_lt b hb 0 (Nat.two_pow_pos _)
  rw [e1, e2, bits_or (by omega) (by omega), ← List.map_append, mOf_of_nat h1 h2 (by intro y hy; rcases List.mem_append.1 hy with h | h; exact ha y h; exact hb y h), mN_union]
set_option maxHeartbeats 4000000 in
theorem fnMaskUnion_walk (v : Value) (bs : List Int) (v2 : Value) (bs2 : List Int) (w0 : World) (h : RdI .u8 w0 v bs) (h2 : RdI .u8 w0 v2 bs2) : Calls Try.prog 9 #[v, v2] w0 fun e w' => e = .returned (.bool true) ∧ Below w0.heap.size w0 w' := by
  obtain ⟨ad, c, hv, hlc, hcm⟩ := h.shape
  subst hv
  obtain ⟨ad2, c2, hv2, hlc2, hcm2⟩ := h2.shape
  subst hv2
  have hB0 := Below.refl w0.heap.size w0
  by_cases hn : bs.length ≤ 1048576
  · by_cases hn2 : bs2.length ≤ 1048576
    · go_enter Try.func9, Try.ntmps9
      go_wp2_with fail
      refine (DrawMaskOf_any _ bs _ h).mono ?_
      rintro e w1 ⟨v1, xs, l, rfl, ho1, hxl, hxb, hl1, hl2, hB1⟩
      go_wp2_with fail
      refine (DrawMaskOf_any _ bs2 _ (h2.below hB1 (Nat.le_refl _))).mono ?_
      rintro e w2 ⟨v2, ys, l2, rfl, ho2, hyl, hyb, hl3, hl4, hb2⟩
      have hB2 := hB1.trans (hb2.mono hB1.size)
      have hwx : ∀ x ∈ xs, (Lit.int .i64 x).wf = true := fun x hx => WalkArith.wf_i64 (by have := hxb x hx; omega)
      have hwy : ∀ x ∈ ys, (Lit.int .i64 x).wf = true := fun x hx => WalkArith.wf_i64 (by have := hyb x hx; omega)
      have hox2 := owns_below ho1 hb2 (Nat.le_refl _)
      go_wp2_with fail
      refine (implMaskOf _ _ _ _ (rdI_of_owns hox2 hwx)).mono ?_
      rintro e w3 ⟨rfl, hb3⟩
      have hB3 := hB2.trans (hb3.mono hB2.size)
      have hox3 := owns_below hox2 hb3 (Nat.le_refl _)
      have hoy3 := owns_below ho2 hb3 (Nat.le_refl _)
      go_wp2_with fail
      refine (implMaskOf _ _ _ _ (rdI_of_owns hoy3 hwy)).mono ?_
      rintro e w4 ⟨rfl, hb4⟩
      have hB4 := hB3.trans (hb4.mono hB3.size)
      have hox4 := owns_below hox3 hb4 (Nat.le_refl _)
      have hoy4 := owns_below hoy3 hb4 (Nat.le_refl _)
      go_wp2_with fail
      refine (specMaskOf _ _ _ _ (rdI_of_owns hox4 hwx)).mono ?_
      rintro e w' ⟨rfl, rfl⟩
      by_cases hx : 0 ≤ mOf xs l
      · by_cases hy : 0 ≤ mOf ys l
        · have hu := mOf_union hx hy
          have HU := Lib.hid hu
          clear hu ho1 ho2 hox2 hox3 hoy3
          have hz := hB4.size
          have hoE : (w4.alloc (.cells #[] 3)).ownsRow w4.heap.size 3 1 (.slice (some ⟨w4.heap.size, 0, none⟩) 0 0) 0 [] := World.ownsRow_lit w4 #[] 0 (Nat.le_refl _) (by decide) rfl
          have hbE : Below w4.heap.size w4 (w4.alloc (.cells #[] 3)) := (Below.refl _ _).alloc (Nat.le_refl _) _
          have hox5 := owns_below hox4 hbE (Nat.le_refl _)
          have hoy5 := owns_below hoy4 hbE (Nat.le_refl _)
          have hox_lt := own_lt hox4
          have hoy_lt := own_lt hoy4
          go_wp2_with (at_builtin; refine wpList_app2 _ rfl _ _ 30 3 rfl _ _ 1 8 (.int .i64 0) Try.underlying30 infoInt rfl (by decide) _ _ _ _ _ _ hoE hox5 (oneI xs) rfl rfl (by omega) (by omega) (by simp) ?_)
          intro v5 w5 ho5 hw5 hbb5
          have hB5 := hbb5 w4.heap.size w4 (Nat.le_refl _) hbE
          have hoy6 := owns_below hoy4 hB5 (Nat.le_refl _)
          have hz5 := hB5.size
          clear hox5 hoy5 hoE hbE hw5 hbb5
          go_wp2_with (at_builtin; refine wpList_app2 _ rfl _ _ 30 3 rfl _ _ 1 8 (.int .i64 0) Try.underlying30 infoInt rfl (by decide) _ _ _ _ _ _ ho5 hoy6 (oneI ys) rfl rfl (by omega) (by omega) (by omega) ?_)
          intro v6 w6 ho6 hw6 hbb6
          have hB6 := hbb6 w4.heap.size w4 (Nat.le_refl _) hB5
          have hr6 : RdI .i64 w6 v6 (xs ++ ys) := rdI_of_owns (base := w4.heap.size) (e := 3) (by simpa using ho6) (fun x hx => by
            rcases List.mem_append.1 hx with hx | hx
            · exact hwx x hx
            · exact hwy x hx)
          have hBB := hB4.trans (hB6.mono hz)
          clear hw6 hbb6 ho5 ho6 hoy6 hB5
          go_wp2_with fail
          refine (implMaskOf _ _ _ _ hr6).mono ?_
          rintro e w7 ⟨rfl, hb7⟩
          rw [HU.out]
          go_wp2
          go_ret
          exact ⟨rfl, hBB.trans (hb7.mono hBB.size)⟩
        · clear ho1 ho2 hox2 hox3 hoy3 hox4 hoy4
          go_wp2_with (go_at_call 18; refine (alive_any _).mono ?_; rintro e w' ⟨rfl, rfl⟩)
          go_ret
          exact ⟨rfl, hB4⟩
      · clear ho1 ho2 hox2 hox3 hoy3 hox4 hoy4
        go_wp2_with (go_at_call 18; refine (alive_any _).mono ?_; rintro e w' ⟨rfl, rfl⟩)
        go_ret
        exact ⟨rfl, hB4⟩
    · go_enter Try.func9, Try.ntmps9
      go_wp2
      go_ret
      exact ⟨rfl, hB0⟩
  · go_enter Try.func9, Try.ntmps9
    go_wp2
    go_ret
    exact ⟨rfl, hB0⟩
namespace fnMaskUnion
set_option linter.unusedVariables false
set_option maxRecDepth 100000 in
theorem lifted (os : Os) (started : os.Started) (H : Type) (enc : TypeId × Value → H) :
    ReturnsInHanded {} Try.checked os 9 .any (Rows.fnMaskUnionSpec.pre6 enc Try.prog Try.f9 Rows.fnMaskUnionRow.domain false) (Rows.fnMaskUnionSpec.post enc Try.prog Try.f9 false true false false) := by
  refine returnsInHanded_of_change (C := Try.checked) own started (by kernel_rfl) Try.func9
    (ChangeSpec.witness6 (enc := enc) (C := Try.checked) false ⟨#[], #[.slice none 0 0, .slice none 0 0], []⟩ 8 (by kernel_rfl) (by kernel_rfl) (by kernel_rfl) (by kernel_rfl)) ?_
  intro W base args ds gs before hval0 hW hcnd _
  have hval : ∀ (j : Nat) t v, Try.f9.params[j]? = some t → args[j]? = some v → Value.okWide Try.prog W .any base t v := hval0
  have hW' := hW
  obtain ⟨p, q, hA0, hV, rfl, hfz, hnd⟩ := hW
  have hA : DataW.TrodAll enc Try.prog W 0 (fun _ => true) true Try.f9.params.toList args.toList ds p := hA0
  rw [Try.params9] at hA hval
  obtain ⟨v0, vs0, d0, ds0, p0, q0, hargs, rfl, rfl, h0, r0⟩ := trodAll_cons hA
  obtain ⟨v1, vs1, d1, ds1, p1, q1, rfl, rfl, rfl, h1, r1⟩ := trodAll_cons r0
  obtain ⟨rfl, rfl, rfl⟩ := trodAll_nil r1
  obtain rfl : args = #[v0, v1] := by cases args; simp_all
  obtain ⟨rfl, rfl⟩ := trodVars_none hV
  have k0 := h0
  have lt0 : ∀ x ∈ p0, x.block < W.heap.size := by obtain ⟨m, hm⟩ := k0; exact DataW.trod_lt m _ _ _ hm
  obtain ⟨z0, w0⟩ := open_rdI (kk := .u8) Try.underlying22 Try.underlying5 (by kernel_rfl) (hval 0 22 v0 rfl rfl) h0
  have k1 := h1
  have lt1 : ∀ x ∈ p1, x.block < W.heap.size := by obtain ⟨m, hm⟩ := k1; exact DataW.trod_lt m _ _ _ hm
  obtain ⟨z1, w1⟩ := open_rdI (kk := .u8) Try.underlying22 Try.underlying5 (by kernel_rfl) (hval 1 22 v1 rfl rfl) h1
  clear hA0 hval0
  refine (fnMaskUnion_walk v0 z0 v1 z1 W w0 w1).mono fun e W' ⟨he, bel⟩ => ?_
  subst he
  exact ⟨_, rfl, _, _, _, [], _, [], hW', trodAll_mk1 (shut_bool Try.underlying4 _), (trodAll_cons_mk (Below.trod laidOut (by kernel_rfl) (of_decide_eq_true (by kernel_rfl)) k0 bel lt0) (trodAll_cons_mk (Below.trod laidOut (by kernel_rfl) (of_decide_eq_true (by kernel_rfl)) k1 bel lt1) trodAll_mk0)), rfl, bel.frame _, fun h => by cases h⟩
theorem over : Rows.fnMaskUnionRow.holds Try.pinned (OpenSpec.ofChange Rows.fnMaskUnionSpec) :=
  OpenClaim.holds_of_wide 9 Try.f9 rfl rfl rfl rfl rfl rfl rfl ⟨rfl, rfl, rfl, rfl, rfl⟩ rfl rfl rfl rfl rfl (by kernel_rfl) Try.func9 (by kernel_rfl)
    (of_decide_eq_true (by kernel_rfl)) (by unfold Func.isWrapper; first | (rw [if_pos (by decide +kernel)]; kernel_rfl) | (rw [if_neg (by decide +kernel)]; exact ⟨rfl, rfl⟩))
    (fun os started H enc _ => lifted os started H enc)
end fnMaskUnion
/-- The given statement on FnMaskUnion. -/
theorem fnMaskUnion_holds : Rows.FnMaskUnionSaid := fnMaskUnion.over
#print axioms fnMaskUnion_holds
end Go.Proofs.Ytgmaffoljdmkpaa
