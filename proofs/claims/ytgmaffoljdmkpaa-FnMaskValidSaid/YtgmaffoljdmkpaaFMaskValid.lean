/- YtgmaffoljdmkpaaFMaskValid: A valid mask is valid for more lanes; all lanes and one more are not. No conditions. -/
import Derived.Test.YtgmaffoljdmkpaaDrawV
import Derived.Test.YtgmaffoljdmkpaaMasks
import Derived.Test.YtgmaffoljdmkpaaAlive
namespace Go.Proofs.Ytgmaffoljdmkpaa
open Go.ChangeShapes Go.WideShapes Go.ChangeAt Go.RowKit
set_option linter.unusedVariables false
theorem maskValid_succ {m l : Int} (h : maskValid m l = true) (hl : l < 8) : maskValid m (l + 1) = true := by
  obtain ⟨h1, h2, h3, h4⟩ := maskValid_i h
  have hi : inB (l + 1) 1 8 = true := inB_t (by omega)
  obtain ⟨k, rfl⟩ : ∃ k : Nat, l = k := ⟨l.toNat, by omega⟩
  have e : ((k : Int) + 1).toNat = k + 1 := by omega
  rw [maskValid, hi, maskAll_in hi, e]
  simp only [Bool.true_and]
  refine inB_t ⟨h3, ?_⟩
  rw [Int.toNat_natCast] at h4
  rw [Int.pow_succ]
  omega
set_option maxHeartbeats 4000000 in
theorem fnMaskValid_walk (v : Value) (bs : List Int) (w0 : World) (h : RdI .u8 w0 v bs) : Calls Try.prog 3 #[v] w0 fun e w' => e = .returned (.bool true) ∧ Below w0.heap.size w0 w' := by
  obtain ⟨ad, c, hv, hlc, hcm⟩ := h.shape
  subst hv
  have hB0 := Below.refl w0.heap.size w0
  by_cases hn : bs.length ≤ 1048576
  · go_enter Try.func3, Try.ntmps3
    go_wp2_with fail
    refine (DrawMaskValid_any _ bs _ h).mono ?_
    rintro e w1 ⟨a, b, rfl, ha1, ha2, hb1, hb2, hB1⟩
    rcases (show b = 0 ∨ b = 1 ∨ b = 2 ∨ b = 3 ∨ b = 4 ∨ b = 5 ∨ b = 6 ∨ b = 7 ∨ b = 8 ∨ b = 9 by omega) with rfl | rfl | rfl | rfl | rfl | rfl | rfl | rfl | rfl | rfl
    · have hc : maskValid a 0 = false := by simp [maskValid, inB]
      have hi : maskValid 1 0 = false := by simp [maskValid, inB]
      go_wp2_with (first | (go_at_call 16; refine (implMaskValid _ _ _).mono ?_; rintro e w' ⟨rfl, rfl⟩) | (go_at_call 17; refine (specMaskValid _ _ _).mono ?_; rintro e w' ⟨rfl, rfl⟩) | (go_at_call 18; refine (alive_any _).mono ?_; rintro e w' ⟨rfl, rfl⟩))
      go_ret
      exact ⟨rfl, hB1⟩
    · have hi : maskValid 2 1 = false := by decide
      cases hc : maskValid a 1
      · go_wp2_with (first | (go_at_call 16; refine (implMaskValid _ _ _).mono ?_; rintro e w' ⟨rfl, rfl⟩) | (go_at_call 17; refine (specMaskValid _ _ _).mono ?_; rintro e w' ⟨rfl, rfl⟩) | (go_at_call 18; refine (alive_any _).mono ?_; rintro e w' ⟨rfl, rfl⟩))
        go_ret
        exact ⟨rfl, hB1⟩
      · have hs : maskValid a 2 = true := maskValid_succ hc (by decide)
        go_wp2_with (first | (go_at_call 16; refine (implMaskValid _ _ _).mono ?_; rintro e w' ⟨rfl, rfl⟩) | (go_at_call 17; refine (specMaskValid _ _ _).mono ?_; rintro e w' ⟨rfl, rfl⟩) | (go_at_call 18; refine (alive_any _).mono ?_; rintro e w' ⟨rfl, rfl⟩))
        go_ret
        exact ⟨rfl, hB1⟩
    · have hi : maskValid 4 2 = false := by decide
      cases hc : maskValid a 2
      · go_wp2_with (first | (go_at_call 16; refine (implMaskValid _ _ _).mono ?_; rintro e w' ⟨rfl, rfl⟩) | (go_at_call 17; refine (specMaskValid _ _ _).mono ?_; rintro e w' ⟨rfl, rfl⟩) | (go_at_call 18; refine (alive_any _).mono ?_; rintro e w' ⟨rfl, rfl⟩))
        go_ret
        exact ⟨rfl, hB1⟩
      · have hs : maskValid a 3 = true := maskValid_succ hc (by decide)
        go_wp2_with (first | (go_at_call 16; refine (implMaskValid _ _ _).mono ?_; rintro e w' ⟨rfl, rfl⟩) | (go_at_call 17; refine (specMaskValid _ _ _).mono ?_; rintro e w' ⟨rfl, rfl⟩) | (go_at_call 18; refine (alive_any _).mono ?_; rintro e w' ⟨rfl, rfl⟩))
        go_ret
        exact ⟨rfl, hB1⟩
    · have hi : maskValid 8 3 = false := by decide
      cases hc : maskValid a 3
      · go_wp2_with (first | (go_at_call 16; refine (implMaskValid _ _ _).mono ?_; rintro e w' ⟨rfl, rfl⟩) | (go_at_call 17; refine (specMaskValid _ _ _).mono ?_; rintro e w' ⟨rfl, rfl⟩) | (go_at_call 18; refine (alive_any _).mono ?_; rintro e w' ⟨rfl, rfl⟩))
        go_ret
        exact ⟨rfl, hB1⟩
      · have hs : maskValid a 4 = true := maskValid_succ hc (by decide)
        go_wp2_with (first | (go_at_call 16; refine (implMaskValid _ _ _).mono ?_; rintro e w' ⟨rfl, rfl⟩) | (go_at_call 17; refine (specMaskValid _ _ _).mono ?_; rintro e w' ⟨rfl, rfl⟩) | (go_at_call 18; refine (alive_any _).mono ?_; rintro e w' ⟨rfl, rfl⟩))
        go_ret
        exact ⟨rfl, hB1⟩
    · have hi : maskValid 16 4 = false := by decide
      cases hc : maskValid a 4
      · go_wp2_with (first | (go_at_call 16; refine (implMaskValid _ _ _).mono ?_; rintro e w' ⟨rfl, rfl⟩) | (go_at_call 17; refine (specMaskValid _ _ _).mono ?_; rintro e w' ⟨rfl, rfl⟩) | (go_at_call 18; refine (alive_any _).mono ?_; rintro e w' ⟨rfl, rfl⟩))
        go_ret
        exact ⟨rfl, hB1⟩
      · have hs : maskValid a 5 = true := maskValid_succ hc (by decide)
        go_wp2_with (first | (go_at_call 16; refine (implMaskValid _ _ _).mono ?_; rintro e w' ⟨rfl, rfl⟩) | (go_at_call 17; refine (specMaskValid _ _ _).mono ?_; rintro e w' ⟨rfl, rfl⟩) | (go_at_call 18; refine (alive_any _).mono ?_; rintro e w' ⟨rfl, rfl⟩))
        go_ret
        exact ⟨rfl, hB1⟩
    · have hi : maskValid 32 5 = false := by decide
      cases hc : maskValid a 5
      · go_wp2_with (first | (go_at_call 16; refine (implMaskValid _ _ _).mono ?_; rintro e w' ⟨rfl, rfl⟩) | (go_at_call 17; refine (specMaskValid _ _ _).mono ?_; rintro e w' ⟨rfl, rfl⟩) | (go_at_call 18; refine (alive_any _).mono ?_; rintro e w' ⟨rfl, rfl⟩))
        go_ret
        exact ⟨rfl, hB1⟩
      · have hs : maskValid a 6 = true := maskValid_succ hc (by decide)
        go_wp2_with (first | (go_at_call 16; refine (implMaskValid _ _ _).mono ?_; rintro e w' ⟨rfl, rfl⟩) | (go_at_call 17; refine (specMaskValid _ _ _).mono ?_; rintro e w' ⟨rfl, rfl⟩) | (go_at_call 18; refine (alive_any _).mono ?_; rintro e w' ⟨rfl, rfl⟩))
        go_ret
        exact ⟨rfl, hB1⟩
    · have hi : maskValid 64 6 = false := by decide
      cases hc : maskValid a 6
      · go_wp2_with (first | (go_at_call 16; refine (implMaskValid _ _ _).mono ?_; rintro e w' ⟨rfl, rfl⟩) | (go_at_call 17; refine (specMaskValid _ _ _).mono ?_; rintro e w' ⟨rfl, rfl⟩) | (go_at_call 18; refine (alive_any _).mono ?_; rintro e w' ⟨rfl, rfl⟩))
        go_ret
        exact ⟨rfl, hB1⟩
      · have hs : maskValid a 7 = true := maskValid_succ hc (by decide)
        go_wp2_with (first | (go_at_call 16; refine (implMaskValid _ _ _).mono ?_; rintro e w' ⟨rfl, rfl⟩) | (go_at_call 17; refine (specMaskValid _ _ _).mono ?_; rintro e w' ⟨rfl, rfl⟩) | (go_at_call 18; refine (alive_any _).mono ?_; rintro e w' ⟨rfl, rfl⟩))
        go_ret
        exact ⟨rfl, hB1⟩
    · have hi : maskValid 128 7 = false := by decide
      cases hc : maskValid a 7
      · go_wp2_with (first | (go_at_call 16; refine (implMaskValid _ _ _).mono ?_; rintro e w' ⟨rfl, rfl⟩) | (go_at_call 17; refine (specMaskValid _ _ _).mono ?_; rintro e w' ⟨rfl, rfl⟩) | (go_at_call 18; refine (alive_any _).mono ?_; rintro e w' ⟨rfl, rfl⟩))
        go_ret
        exact ⟨rfl, hB1⟩
      · have hs : maskValid a 8 = true := maskValid_succ hc (by decide)
        go_wp2_with (first | (go_at_call 16; refine (implMaskValid _ _ _).mono ?_; rintro e w' ⟨rfl, rfl⟩) | (go_at_call 17; refine (specMaskValid _ _ _).mono ?_; rintro e w' ⟨rfl, rfl⟩) | (go_at_call 18; refine (alive_any _).mono ?_; rintro e w' ⟨rfl, rfl⟩))
        go_ret
        exact ⟨rfl, hB1⟩
    · have hi : maskValid 256 8 = false := by decide
      cases hc : maskValid a 8
      · go_wp2_with (first | (go_at_call 16; refine (implMaskValid _ _ _).mono ?_; rintro e w' ⟨rfl, rfl⟩) | (go_at_call 17; refine (specMaskValid _ _ _).mono ?_; rintro e w' ⟨rfl, rfl⟩) | (go_at_call 18; refine (alive_any _).mono ?_; rintro e w' ⟨rfl, rfl⟩))
        go_ret
        exact ⟨rfl, hB1⟩
      · go_wp2_with (first | (go_at_call 16; refine (implMaskValid _ _ _).mono ?_; rintro e w' ⟨rfl, rfl⟩) | (go_at_call 17; refine (specMaskValid _ _ _).mono ?_; rintro e w' ⟨rfl, rfl⟩) | (go_at_call 18; refine (alive_any _).mono ?_; rintro e w' ⟨rfl, rfl⟩))
        go_ret
        exact ⟨rfl, hB1⟩
    · have hc : maskValid a 9 = false := by simp [maskValid, inB]
      have hi : maskValid 512 9 = false := by simp [maskValid, inB]
      go_wp2_with (first | (go_at_call 16; refine (implMaskValid _ _ _).mono ?_; rintro e w' ⟨rfl, rfl⟩) | (go_at_call 17; refine (specMaskValid _ _ _).mono ?_; rintro e w' ⟨rfl, rfl⟩) | (go_at_call 18; refine (alive_any _).mono ?_; rintro e w' ⟨rfl, rfl⟩))
      go_ret
      exact ⟨rfl, hB1⟩
  · go_enter Try.func3, Try.ntmps3
    go_wp2
    go_ret
    exact ⟨rfl, hB0⟩
namespace fnMaskValid
set_option linter.unusedVariables false
set_option maxRecDepth 100000 in
theorem lifted (os : Os) (started : os.Started) (H : Type) (enc : TypeId × Value → H) :
    ReturnsInHanded {} Try.checked os 3 .any (Rows.fnMaskValidSpec.pre6 enc Try.prog Try.f3 Rows.fnMaskValidRow.domain false) (Rows.fnMaskValidSpec.post enc Try.prog Try.f3 false true false false) := by
  refine returnsInHanded_of_change (C := Try.checked) own started (by kernel_rfl) Try.func3
    (ChangeSpec.witness6 (enc := enc) (C := Try.checked) false ⟨#[], #[.slice none 0 0], []⟩ 8 (by kernel_rfl) (by kernel_rfl) (by kernel_rfl) (by kernel_rfl)) ?_
  intro W base args ds gs before hval0 hW hcnd _
  have hval : ∀ (j : Nat) t v, Try.f3.params[j]? = some t → args[j]? = some v → Value.okWide Try.prog W .any base t v := hval0
  have hW' := hW
  obtain ⟨p, q, hA0, hV, rfl, hfz, hnd⟩ := hW
  have hA : DataW.TrodAll enc Try.prog W 0 (fun _ => true) true Try.f3.params.toList args.toList ds p := hA0
  rw [Try.params3] at hA hval
  obtain ⟨v0, vs0, d0, ds0, p0, q0, hargs, rfl, rfl, h0, r0⟩ := trodAll_cons hA
  obtain ⟨rfl, rfl, rfl⟩ := trodAll_nil r0
  obtain rfl : args = #[v0] := by cases args; simp_all
  obtain ⟨rfl, rfl⟩ := trodVars_none hV
  have k0 := h0
  have lt0 : ∀ x ∈ p0, x.block < W.heap.size := by obtain ⟨m, hm⟩ := k0; exact DataW.trod_lt m _ _ _ hm
  obtain ⟨z0, w0⟩ := open_rdI (kk := .u8) Try.underlying22 Try.underlying5 (by kernel_rfl) (hval 0 22 v0 rfl rfl) h0
  clear hA0 hval0
  refine (fnMaskValid_walk v0 z0 W w0).mono fun e W' ⟨he, bel⟩ => ?_
  subst he
  exact ⟨_, rfl, _, _, _, [], _, [], hW', trodAll_mk1 (shut_bool Try.underlying4 _), (trodAll_cons_mk (Below.trod laidOut (by kernel_rfl) (of_decide_eq_true (by kernel_rfl)) k0 bel lt0) trodAll_mk0), rfl, bel.frame _, fun h => by cases h⟩
theorem over : Rows.fnMaskValidRow.holds Try.pinned (OpenSpec.ofChange Rows.fnMaskValidSpec) :=
  OpenClaim.holds_of_wide 3 Try.f3 rfl rfl rfl rfl rfl rfl rfl ⟨rfl, rfl, rfl, rfl, rfl⟩ rfl rfl rfl rfl rfl (by kernel_rfl) Try.func3 (by kernel_rfl)
    (of_decide_eq_true (by kernel_rfl)) (by unfold Func.isWrapper; first | (rw [if_pos (by decide +kernel)]; kernel_rfl) | (rw [if_neg (by decide +kernel)]; exact ⟨rfl, rfl⟩))
    (fun os started H enc _ => lifted os started H enc)
end fnMaskValid
/-- The given statement on FnMaskValid. -/
theorem fnMaskValid_holds : Rows.FnMaskValidSaid := fnMaskValid.over
#print axioms fnMaskValid_holds
end Go.Proofs.Ytgmaffoljdmkpaa
