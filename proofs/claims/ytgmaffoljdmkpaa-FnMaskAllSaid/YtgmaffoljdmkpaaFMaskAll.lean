/- YtgmaffoljdmkpaaFMaskAll: The mask has all lanes, and one lane more doubles it and adds 1. No conditions. -/
import Derived.Test.YtgmaffoljdmkpaaDrawV
import Derived.Test.YtgmaffoljdmkpaaMasks
import Derived.Test.YtgmaffoljdmkpaaAlive
namespace Go.Proofs.Ytgmaffoljdmkpaa
open Go.ChangeShapes Go.WideShapes Go.ChangeAt Go.RowKit
set_option linter.unusedVariables false
theorem mMany_all {l : Int} (h : 1 ≤ l ∧ l ≤ 8) : mMany (maskAll l) l = l := by
  rcases (show l = 1 ∨ l = 2 ∨ l = 3 ∨ l = 4 ∨ l = 5 ∨ l = 6 ∨ l = 7 ∨ l = 8 by omega) with rfl | rfl | rfl | rfl | rfl | rfl | rfl | rfl <;> decide +kernel
theorem maskAll_succ {l : Int} (h1 : 1 ≤ l) (h2 : l ≤ 7) : maskAll (l + 1) = 2 * maskAll l + 1 := by
  rcases (show l = 1 ∨ l = 2 ∨ l = 3 ∨ l = 4 ∨ l = 5 ∨ l = 6 ∨ l = 7 by omega) with rfl | rfl | rfl | rfl | rfl | rfl | rfl <;> decide +kernel
set_option maxHeartbeats 4000000 in
theorem fnMaskAll_walk (v : Value) (bs : List Int) (w0 : World) (h : RdI .u8 w0 v bs) : Calls Try.prog 11 #[v] w0 fun e w' => e = .returned (.bool true) ∧ Below w0.heap.size w0 w' := by
  obtain ⟨ad, c, hv, hlc, hcm⟩ := h.shape
  subst hv
  have hB0 := Below.refl w0.heap.size w0
  by_cases hn : bs.length ≤ 1048576
  · go_enter Try.func11, Try.ntmps11
    go_wp2_with fail
    refine (DrawMaskAll_any _ bs _ h).mono ?_
    rintro e w1 ⟨n, rfl, hn1, hn2, hB1⟩
    by_cases hv : 1 ≤ n ∧ n ≤ 8
    · obtain ⟨hv1, hv2⟩ := hv
      have e1 := mMany_all ⟨hv1, hv2⟩
      have e0 := maskAll_bd (inB_t ⟨hv1, hv2⟩)
      by_cases h8 : n = 8
      · subst h8
        generalize maskAll 8 = A at *
        go_wp2_with (first | (go_at_call 38; refine (implMaskAll _ _).mono ?_; rintro e w' ⟨rfl, rfl⟩) | (go_at_call 39; refine (specMaskAll _ _).mono ?_; rintro e w' ⟨rfl, rfl⟩) | (go_at_call 40; refine (implMaskMany _ _ _).mono ?_; rintro e w' ⟨rfl, rfl⟩) | (go_at_call 18; refine (alive_any _).mono ?_; rintro e w' ⟨rfl, rfl⟩))
        go_ret
        exact ⟨rfl, hB1⟩
      · have e2 := maskAll_succ (l := n) hv1 (by omega)
        have hne : (n == 8) = false := by simp; omega
        go_wp2_with (first | (go_at_call 38; refine (implMaskAll _ _).mono ?_; rintro e w' ⟨rfl, rfl⟩) | (go_at_call 39; refine (specMaskAll _ _).mono ?_; rintro e w' ⟨rfl, rfl⟩) | (go_at_call 40; refine (implMaskMany _ _ _).mono ?_; rintro e w' ⟨rfl, rfl⟩) | (go_at_call 18; refine (alive_any _).mono ?_; rintro e w' ⟨rfl, rfl⟩))
        go_ret
        exact ⟨rfl, hB1⟩
    · have e1 := maskAll_out (inB_f hv)
      rcases (show n < 1 ∨ 8 < n by omega) with hc | hc
      all_goals
        clear hv
        go_wp2_with (first | (go_at_call 38; refine (implMaskAll _ _).mono ?_; rintro e w' ⟨rfl, rfl⟩) | (go_at_call 39; refine (specMaskAll _ _).mono ?_; rintro e w' ⟨rfl, rfl⟩) | (go_at_call 40; refine (implMaskMany _ _ _).mono ?_; rintro e w' ⟨rfl, rfl⟩) | (go_at_call 18; refine (alive_any _).mono ?_; rintro e w' ⟨rfl, rfl⟩))
        go_ret
        exact ⟨rfl, hB1⟩
  · go_enter Try.func11, Try.ntmps11
    go_wp2
    go_ret
    exact ⟨rfl, hB0⟩
namespace fnMaskAll
set_option linter.unusedVariables false
set_option maxRecDepth 100000 in
theorem lifted (os : Os) (started : os.Started) (H : Type) (enc : TypeId × Value → H) :
    ReturnsInHanded {} Try.checked os 11 .any (Rows.fnMaskAllSpec.pre6 enc Try.prog Try.f11 Rows.fnMaskAllRow.domain false) (Rows.fnMaskAllSpec.post enc Try.prog Try.f11 false true false false) := by
  refine returnsInHanded_of_change (C := Try.checked) own started (by kernel_rfl) Try.func11
    (ChangeSpec.witness6 (enc := enc) (C := Try.checked) false ⟨#[], #[.slice none 0 0], []⟩ 8 (by kernel_rfl) (by kernel_rfl) (by kernel_rfl) (by kernel_rfl)) ?_
  intro W base args ds gs before hval0 hW hcnd _
  have hval : ∀ (j : Nat) t v, Try.f11.params[j]? = some t → args[j]? = some v → Value.okWide Try.prog W .any base t v := hval0
  have hW' := hW
  obtain ⟨p, q, hA0, hV, rfl, hfz, hnd⟩ := hW
  have hA : DataW.TrodAll enc Try.prog W 0 (fun _ => true) true Try.f11.params.toList args.toList ds p := hA0
  rw [Try.params11] at hA hval
  obtain ⟨v0, vs0, d0, ds0, p0, q0, hargs, rfl, rfl, h0, r0⟩ := trodAll_cons hA
  obtain ⟨rfl, rfl, rfl⟩ := trodAll_nil r0
  obtain rfl : args = #[v0] := by cases args; simp_all
  obtain ⟨rfl, rfl⟩ := trodVars_none hV
  have k0 := h0
  have lt0 : ∀ x ∈ p0, x.block < W.heap.size := by obtain ⟨m, hm⟩ := k0; exact DataW.trod_lt m _ _ _ hm
  obtain ⟨z0, w0⟩ := open_rdI (kk := .u8) Try.underlying22 Try.underlying5 (by kernel_rfl) (hval 0 22 v0 rfl rfl) h0
  clear hA0 hval0
  refine (fnMaskAll_walk v0 z0 W w0).mono fun e W' ⟨he, bel⟩ => ?_
  subst he
  exact ⟨_, rfl, _, _, _, [], _, [], hW', trodAll_mk1 (shut_bool Try.underlying4 _), (trodAll_cons_mk (Below.trod laidOut (by kernel_rfl) (of_decide_eq_true (by kernel_rfl)) k0 bel lt0) trodAll_mk0), rfl, bel.frame _, fun h => by cases h⟩
theorem over : Rows.fnMaskAllRow.holds Try.pinned (OpenSpec.ofChange Rows.fnMaskAllSpec) :=
  OpenClaim.holds_of_wide 11 Try.f11 rfl rfl rfl rfl rfl rfl rfl ⟨rfl, rfl, rfl, rfl, rfl⟩ rfl rfl rfl rfl rfl (by kernel_rfl) Try.func11 (by kernel_rfl)
    (of_decide_eq_true (by kernel_rfl)) (by unfold Func.isWrapper; first | (rw [if_pos (by decide +kernel)]; kernel_rfl) | (rw [if_neg (by decide +kernel)]; exact ⟨rfl, rfl⟩))
    (fun os started H enc _ => lifted os started H enc)
end fnMaskAll
/-- The given statement on FnMaskAll. -/
theorem fnMaskAll_holds : Rows.FnMaskAllSaid := fnMaskAll.over
#print axioms fnMaskAll_holds
end Go.Proofs.Ytgmaffoljdmkpaa
