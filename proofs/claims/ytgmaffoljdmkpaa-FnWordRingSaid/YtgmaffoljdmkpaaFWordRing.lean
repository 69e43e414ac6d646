/- YtgmaffoljdmkpaaFWordRing: The product with the sum of two values is the sum of the two products. No conditions. -/
import Derived.Test.YtgmaffoljdmkpaaDrawV
import Derived.Test.YtgmaffoljdmkpaaBitsP
import Derived.Test.YtgmaffoljdmkpaaAlive
namespace Go.Proofs.Ytgmaffoljdmkpaa
open Go.ChangeShapes Go.WideShapes Go.ChangeAt Go.RowKit
set_option linter.unusedVariables false

set_option maxHeartbeats 4000000 in
theorem fnWordRing_walk (v : Value) (bs : List Int) (v2 : Value) (bs2 : List Int) (w0 : World) (h : RdI .u8 w0 v bs) (h2 : RdI .u8 w0 v2 bs2) : Calls Try.prog 7 #[v, v2] w0 fun e w' => e = .returned (.bool true) ∧ Below w0.heap.size w0 w' := by
  obtain ⟨ad, c, hv, hlc, hcm⟩ := h.shape
  subst hv
  obtain ⟨ad2, c2, hv2, hlc2, hcm2⟩ := h2.shape
  subst hv2
  have hB0 := Below.refl w0.heap.size w0
  by_cases hn : bs.length ≤ 1048576
  · by_cases hn2 : bs2.length ≤ 1048576
    · go_enter Try.func7, Try.ntmps7
      go_wp2_with fail
      refine (DrawWordMul_any _ bs _ h).mono ?_
      rintro e w1 ⟨a, b, rfl, ha1, ha2, hb1, hb2, hB1⟩
      have hc0 : 0 ≤ (bs2.length : Int) % 256 ∧ (bs2.length : Int) % 256 ≤ 255 := by omega
      generalize hC : (bs2.length : Int) % 256 = C at hc0
      by_cases hv : (0 ≤ a ∧ a ≤ 255) ∧ (0 ≤ b ∧ b ≤ 255)
      · obtain ⟨hv1, hv2⟩ := hv
        have e1 := wMul_val hv1 hv2
        have e3 := wAdd_val (a := b) (b := C) hv2 hc0
        have e4 := wMul_val (a := a) (b := (b + C) % 256) hv1 (by omega)
        have e5 := wMul_val (a := a) (b := C) hv1 hc0
        have e6 := wAdd_val (a := a * b % 256) (b := a * C % 256) (by omega) (by omega)
        rw [mul_add_mod a b C] at e4
        have hN : 0 ≤ a * b % 256 ∧ a * b % 256 < 256 := by omega
        generalize a * b % 256 = N at *
        generalize a * C % 256 = M at *
        generalize (b + C) % 256 = B at *
        generalize (N + M) % 256 = X at *
        go_wp2_with (first | (go_at_call 26; refine (implWordMul _ _ _).mono ?_; rintro e w' ⟨rfl, rfl⟩) | (go_at_call 27; refine (specWordMul _ _ _).mono ?_; rintro e w' ⟨rfl, rfl⟩) | (go_at_call 20; refine (implWordAdd _ _ _).mono ?_; rintro e w' ⟨rfl, rfl⟩) | (go_at_call 18; refine (alive_any _).mono ?_; rintro e w' ⟨rfl, rfl⟩))
        go_ret
        exact ⟨rfl, hB1⟩
      · have e1 := (wOp_neg a b hv).2.1
        clear hv
        go_wp2_with (first | (go_at_call 26; refine (implWordMul _ _ _).mono ?_; rintro e w' ⟨rfl, rfl⟩) | (go_at_call 27; refine (specWordMul _ _ _).mono ?_; rintro e w' ⟨rfl, rfl⟩) | (go_at_call 20; refine (implWordAdd _ _ _).mono ?_; rintro e w' ⟨rfl, rfl⟩) | (go_at_call 18; refine (alive_any _).mono ?_; rintro e w' ⟨rfl, rfl⟩))
        go_ret
        exact ⟨rfl, hB1⟩
    · go_enter Try.func7, Try.ntmps7
      go_wp2
      go_ret
      exact ⟨rfl, hB0⟩
  · go_enter Try.func7, Try.ntmps7
    go_wp2
    go_ret
    exact ⟨rfl, hB0⟩
namespace fnWordRing
set_option linter.unusedVariables false
set_option maxRecDepth 100000 in
theorem lifted (os : Os) (started : os.Started) (H : Type) (enc : TypeId × Value → H) :
    ReturnsInHanded {} Try.checked os 7 .any (Rows.fnWordRingSpec.pre6 enc Try.prog Try.f7 Rows.fnWordRingRow.domain false) (Rows.fnWordRingSpec.post enc Try.prog Try.f7 false true false false) := by
  refine returnsInHanded_of_change (C := Try.checked) own started (by kernel_rfl) Try.func7
    (ChangeSpec.witness6 (enc := enc) (C := Try.checked) false ⟨#[], #[.slice none 0 0, .slice none 0 0], []⟩ 8 (by kernel_rfl) (by kernel_rfl) (by kernel_rfl) (by kernel_rfl)) ?_
  intro W base args ds gs before hval0 hW hcnd _
  have hval : ∀ (j : Nat) t v, Try.f7.params[j]? = some t → args[j]? = some v → Value.okWide Try.prog W .any base t v := hval0
  have hW' := hW
  obtain ⟨p, q, hA0, hV, rfl, hfz, hnd⟩ := hW
  have hA : DataW.TrodAll enc Try.prog W 0 (fun _ => true) true Try.f7.params.toList args.toList ds p := hA0
  rw [Try.params7] at hA hval
  obtain ⟨v0, vs0, d0, ds0, p0, q0, hargs, rfl, rfl, h0, r0⟩ := trodAll_cons hA
  obtain ⟨v1, vs1, d1, ds1, p1, q1, rfl, rfl, rfl, h1, r1⟩ := trodAll_cons r0
  obtain ⟨rfl, rfl, rfl⟩ := trodAll_nil r1
  obtain rfl : args = #[v0, v1] := by cases args; simp_all
  obtain ⟨rfl, rfl⟩ := trodVars_none hV
  have k0 := h0
  have lt0 : ∀ x ∈ p0, x.block < W.heap.size := by obtain ⟨m, hm⟩ := k0; exact DataW.trod_lt m _ _ _ hm
  obtain ⟨z0, w0⟩ := open_rdI (kk := .u8) Try.underlying22 Try.underlying5 (by kernel_rfl) (hval 0 22 v0 rfl rfl) h0
  have k1 := h1
  have lt1 : ∀ x ∈ p1, x.block < W.heap.size := by obtain ⟨m, hm⟩ := k1; exact DataW.trod_lt m _ _ _ hm
  obtain ⟨z1, w1⟩ := open_rdI (kk := .u8) Try.underlying22 Try.underlying5 (by kernel_rfl) (hval 1 22 v1 rfl rfl) h1
  clear hA0 hval0
  refine (fnWordRing_walk v0 z0 v1 z1 W w0 w1).mono fun e W' ⟨he, bel⟩ => ?_
  subst he
  exact ⟨_, rfl, _, _, _, [], _, [], hW', trodAll_mk1 (shut_bool Try.underlying4 _), (trodAll_cons_mk (Below.trod laidOut (by kernel_rfl) (of_decide_eq_true (by kernel_rfl)) k0 bel lt0) (trodAll_cons_mk (Below.trod laidOut (by kernel_rfl) (of_decide_eq_true (by kernel_rfl)) k1 bel lt1) trodAll_mk0)), rfl, bel.frame _, fun h => by cases h⟩
theorem over : Rows.fnWordRingRow.holds Try.pinned (OpenSpec.ofChange Rows.fnWordRingSpec) :=
  OpenClaim.holds_of_wide 7 Try.f7 rfl rfl rfl rfl rfl rfl rfl ⟨rfl, rfl, rfl, rfl, rfl⟩ rfl rfl rfl rfl rfl (by kernel_rfl) Try.func7 (by kernel_rfl)
    (of_decide_eq_true (by kernel_rfl)) (by unfold Func.isWrapper; first | (rw [if_pos (by decide +kernel)]; kernel_rfl) | (rw [if_neg (by decide +kernel)]; exact ⟨rfl, rfl⟩))
    (fun os started H enc _ => lifted os started H enc)
end fnWordRing
/-- The given statement on FnWordRing. -/
theorem fnWordRing_holds : Rows.FnWordRingSaid := fnWordRing.over
#print axioms fnWordRing_holds
end Go.Proofs.Ytgmaffoljdmkpaa
