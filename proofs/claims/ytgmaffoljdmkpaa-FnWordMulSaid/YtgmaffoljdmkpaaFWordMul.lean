/- YtgmaffoljdmkpaaFWordMul: The order does not matter; a product with a sum is the sum of the products; 1 changes nothing. No conditions. -/
import Derived.Test.YtgmaffoljdmkpaaDrawV
import Derived.Test.YtgmaffoljdmkpaaBitsP
import Derived.Test.YtgmaffoljdmkpaaAlive
namespace Go.Proofs.Ytgmaffoljdmkpaa
open Go.ChangeShapes Go.WideShapes Go.ChangeAt Go.RowKit
set_option linter.unusedVariables false

set_option maxHeartbeats 4000000 in
theorem fnWordMul_walk (v : Value) (bs : List Int) (w0 : World) (h : RdI .u8 w0 v bs) : Calls Try.prog 6 #[v] w0 fun e w' => e = .returned (.bool true) ∧ Below w0.heap.size w0 w' := by
  obtain ⟨ad, c, hv, hlc, hcm⟩ := h.shape
  subst hv
  have hB0 := Below.refl w0.heap.size w0
  by_cases hn : bs.length ≤ 1048576
  · go_enter Try.func6, Try.ntmps6
    go_wp2_with fail
    refine (DrawWordMul_any _ bs _ h).mono ?_
    rintro e w1 ⟨a, b, rfl, ha1, ha2, hb1, hb2, hB1⟩
    by_cases hv : (0 ≤ a ∧ a ≤ 255) ∧ (0 ≤ b ∧ b ≤ 255)
    · obtain ⟨hv1, hv2⟩ := hv
      have e1 := wMul_val hv1 hv2
      have e2 := wMul_val hv2 hv1
      have e3 := wAdd_val (a := b) (b := 1) hv2 (by omega)
      have e4 := wMul_val (a := a) (b := (b + 1) % 256) hv1 (by omega)
      have e5 := wAdd_val (a := a * b % 256) (b := a) (by omega) hv1
      have e6 := wMul_val (a := a) (b := 1) hv1 (by omega)
      have e7 := wMul_val (a := a) (b := 0) hv1 (by omega)
      have e8 := mul_add_mod a b 1
      rw [Int.mul_one] at e6 e8
      rw [Int.mul_zero] at e7
      rw [show a % 256 = a by omega] at e6 e8
      rw [e8] at e4
      rw [Int.mul_comm b a] at e2
      have hN : 0 ≤ a * b % 256 ∧ a * b % 256 < 256 := by omega
      have hb : 0 ≤ (b + 1) % 256 ∧ (b + 1) % 256 < 256 := by omega
      clear e8
      generalize a * b % 256 = N at *
      generalize (b + 1) % 256 = B at *
      generalize (N + a) % 256 = X at *
      have e9 : (0 : Int) % 256 = 0 := rfl
      rw [e9] at e7
      clear e9
      go_wp2_with (first | (go_at_call 26; refine (implWordMul _ _ _).mono ?_; rintro e w' ⟨rfl, rfl⟩) | (go_at_call 27; refine (specWordMul _ _ _).mono ?_; rintro e w' ⟨rfl, rfl⟩) | (go_at_call 20; refine (implWordAdd _ _ _).mono ?_; rintro e w' ⟨rfl, rfl⟩) | (go_at_call 18; refine (alive_any _).mono ?_; rintro e w' ⟨rfl, rfl⟩))
      go_ret
      exact ⟨rfl, hB1⟩
    · have e1 := (wOp_neg a b hv).2.1
      have e2 := (wOp_neg b a (fun hh => hv ⟨hh.2, hh.1⟩)).2.1
      clear hv
      go_wp2_with (first | (go_at_call 26; refine (implWordMul _ _ _).mono ?_; rintro e w' ⟨rfl, rfl⟩) | (go_at_call 27; refine (specWordMul _ _ _).mono ?_; rintro e w' ⟨rfl, rfl⟩) | (go_at_call 20; refine (implWordAdd _ _ _).mono ?_; rintro e w' ⟨rfl, rfl⟩) | (go_at_call 18; refine (alive_any _).mono ?_; rintro e w' ⟨rfl, rfl⟩))
      go_ret
      exact ⟨rfl, hB1⟩
  · go_enter Try.func6, Try.ntmps6
    go_wp2
    go_ret
    exact ⟨rfl, hB0⟩
namespace fnWordMul
set_option linter.unusedVariables false
set_option maxRecDepth 100000 in
theorem lifted (os : Os) (started : os.Started) (H : Type) (enc : TypeId × Value → H) :
    ReturnsInHanded {} Try.checked os 6 .any (Rows.fnWordMulSpec.pre6 enc Try.prog Try.f6 Rows.fnWordMulRow.domain false) (Rows.fnWordMulSpec.post enc Try.prog Try.f6 false true false false) := by
  refine returnsInHanded_of_change (C := Try.checked) own started (by kernel_rfl) Try.func6
    (ChangeSpec.witness6 (enc := enc) (C := Try.checked) false ⟨#[], #[.slice none 0 0], []⟩ 8 (by kernel_rfl) (by kernel_rfl) (by kernel_rfl) (by kernel_rfl)) ?_
  intro W base args ds gs before hval0 hW hcnd _
  have hval : ∀ (j : Nat) t v, Try.f6.params[j]? = some t → args[j]? = some v → Value.okWide Try.prog W .any base t v := hval0
  have hW' := hW
  obtain ⟨p, q, hA0, hV, rfl, hfz, hnd⟩ := hW
  have hA : DataW.TrodAll enc Try.prog W 0 (fun _ => true) true Try.f6.params.toList args.toList ds p := hA0
  rw [Try.params6] at hA hval
  obtain ⟨v0, vs0, d0, ds0, p0, q0, hargs, rfl, rfl, h0, r0⟩ := trodAll_cons hA
  obtain ⟨rfl, rfl, rfl⟩ := trodAll_nil r0
  obtain rfl : args = #[v0] := by cases args; simp_all
  obtain ⟨rfl, rfl⟩ := trodVars_none hV
  have k0 := h0
  have lt0 : ∀ x ∈ p0, x.block < W.heap.size := by obtain ⟨m, hm⟩ := k0; exact DataW.trod_lt m _ _ _ hm
  obtain ⟨z0, w0⟩ := open_rdI (kk := .u8) Try.underlying22 Try.underlying5 (by kernel_rfl) (hval 0 22 v0 rfl rfl) h0
  clear hA0 hval0
  refine (fnWordMul_walk v0 z0 W w0).mono fun e W' ⟨he, bel⟩ => ?_
  subst he
  exact ⟨_, rfl, _, _, _, [], _, [], hW', trodAll_mk1 (shut_bool Try.underlying4 _), (trodAll_cons_mk (Below.trod laidOut (by kernel_rfl) (of_decide_eq_true (by kernel_rfl)) k0 bel lt0) trodAll_mk0), rfl, bel.frame _, fun h => by cases h⟩
theorem over : Rows.fnWordMulRow.holds Try.pinned (OpenSpec.ofChange Rows.fnWordMulSpec) :=
  OpenClaim.holds_of_wide 6 Try.f6 rfl rfl rfl rfl rfl rfl rfl ⟨rfl, rfl, rfl, rfl, rfl⟩ rfl rfl rfl rfl rfl (by kernel_rfl) Try.func6 (by kernel_rfl)
    (of_decide_eq_true (by kernel_rfl)) (by unfold Func.isWrapper; first | (rw [if_pos (by decide +kernel)]; kernel_rfl) | (rw [if_neg (by decide +kernel)]; exact ⟨rfl, rfl⟩))
    (fun os started H enc _ => lifted os started H enc)
end fnWordMul
/-- The given statement on FnWordMul. -/
theorem fnWordMul_holds : Rows.FnWordMulSaid := fnWordMul.over
#print axioms fnWordMul_holds
end Go.Proofs.Ytgmaffoljdmkpaa
