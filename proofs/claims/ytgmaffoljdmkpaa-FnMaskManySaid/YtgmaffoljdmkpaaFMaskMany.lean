/- YtgmaffoljdmkpaaFMaskMany: The numbers of lanes in a mask and not in it are together the number of lanes. No conditions. -/
import Derived.Test.YtgmaffoljdmkpaaDrawV
import Derived.Test.YtgmaffoljdmkpaaMasks
import Derived.Test.YtgmaffoljdmkpaaAlive
namespace Go.Proofs.Ytgmaffoljdmkpaa
open Go.ChangeShapes Go.WideShapes Go.ChangeAt Go.RowKit
set_option linter.unusedVariables false
theorem rest_all : ∀ l : Nat, l < 9 → ∀ m : Nat, m < 2 ^ l → mMany (maskAll (l : Int) - (m : Int)) (l : Int) = if 1 ≤ l then (l : Int) - mMany (m : Int) (l : Int) else -1 := by decide +kernel
theorem mMany_rest {m l : Int} (h : maskValid m l = true) : mMany (maskAll l - m) l = l - mMany m l := by
  obtain ⟨h1, h2, h3, h4⟩ := maskValid_i h
  obtain ⟨k, rfl⟩ : ∃ k : Nat, l = k := ⟨l.toNat, by omega⟩
  obtain ⟨j, rfl⟩ : ∃ j : Nat, m = j := ⟨m.toNat, by omega⟩
  rw [Int.toNat_natCast] at h4
  have h5 : ((j : Nat) : Int) < ((2 ^ k : Nat) : Int) := by simpa using h4
  have := rest_all k (by omega) j (by omega)
  rwa [if_pos (by omega)] at this
set_option maxHeartbeats 4000000 in
theorem fnMaskMany_walk (v : Value) (bs : List Int) (w0 : World) (h : RdI .u8 w0 v bs) : Calls Try.prog 14 #[v] w0 fun e w' => e = .returned (.bool true) ∧ Below w0.heap.size w0 w' := by
  obtain ⟨ad, c, hv, hlc, hcm⟩ := h.shape
  subst hv
  have hB0 := Below.refl w0.heap.size w0
  by_cases hn : bs.length ≤ 1048576
  · go_enter Try.func14, Try.ntmps14
    go_wp2_with fail
    refine (DrawMaskMany_any _ bs _ h).mono ?_
    rintro e w1 ⟨a, b, rfl, ha1, ha2, hb1, hb2, hB1⟩
    go_wp2_with fail
    refine (implMaskMany _ _ _).mono ?_
    rintro e w' ⟨rfl, rfl⟩
    go_wp2_with fail
    refine (specMaskMany _ _ _).mono ?_
    rintro e w2 ⟨rfl, hb2⟩
    have hB2 := hB1.trans (hb2.mono hB1.size)
    cases hv : maskValid a b
    · have e1 : mMany a b = -1 := by simp [mMany, hv]
      rw [e1]
      go_wp2_with (go_at_call 18; refine (alive_any _).mono ?_; rintro e w' ⟨rfl, rfl⟩)
      go_ret
      exact ⟨rfl, hB2⟩
    · have e1 := mMany_rest hv
      have e2 := maskValid_i hv
      have e3 := maskAll_bd (l := b) (inB_t ⟨e2.1, e2.2.1⟩)
      have e4 : ((lanesL a b.toNat).length : Int) = mMany a b := by rw [(lanes_valid hv).2]; simp [mMany, hv]
      have hl := implMaskLanes a b
      rw [hv, if_pos rfl] at hl
      have HL := Lib.hid hl
      have H4 := Lib.hid e4
      have hN : 0 ≤ mMany a b := by rw [← e4]; omega
      clear hl e4 e2
      obtain ⟨N, hN2⟩ : ∃ N, mMany a b = N := ⟨_, rfl⟩
      rw [hN2] at e1 hN H4 ⊢
      clear hN2
      go_wp2_with (first | (go_at_call 38; refine (implMaskAll _ _).mono ?_; rintro e w' ⟨rfl, rfl⟩) | (go_at_call 40; refine (implMaskMany _ _ _).mono ?_; rintro e w' ⟨rfl, rfl⟩))
      refine (HL.out _).mono ?_
      rintro e w3 ⟨v3, rfl, ho3, hb3⟩
      obtain ⟨a3, c3, rfl⟩ := own_shape ho3
      have hB3 := hB2.trans (hb3.mono hB2.size)
      have h4 := H4.out
      clear ho3 hb3
      go_wp2_with fail
      go_ret
      exact ⟨rfl, hB3⟩
  · go_enter Try.func14, Try.ntmps14
    go_wp2
    go_ret
    exact ⟨rfl, hB0⟩
namespace fnMaskMany
set_option linter.unusedVariables false
set_option maxRecDepth 100000 in
theorem lifted (os : Os) (started : os.Started) (H : Type) (enc : TypeId × Value → H) :
    ReturnsInHanded {} Try.checked os 14 .any (Rows.fnMaskManySpec.pre6 enc Try.prog Try.f14 Rows.fnMaskManyRow.domain false) (Rows.fnMaskManySpec.post enc Try.prog Try.f14 false true false false) := by
  refine returnsInHanded_of_change (C := Try.checked) own started (by kernel_rfl) Try.func14
    (ChangeSpec.witness6 (enc := enc) (C := Try.checked) false ⟨#[], #[.slice none 0 0], []⟩ 8 (by kernel_rfl) (by kernel_rfl) (by kernel_rfl) (by kernel_rfl)) ?_
  intro W base args ds gs before hval0 hW hcnd _
  have hval : ∀ (j : Nat) t v, Try.f14.params[j]? = some t → args[j]? = some v → Value.okWide Try.prog W .any base t v := hval0
  have hW' := hW
  obtain ⟨p, q, hA0, hV, rfl, hfz, hnd⟩ := hW
  have hA : DataW.TrodAll enc Try.prog W 0 (fun _ => true) true Try.f14.params.toList args.toList ds p := hA0
  rw [Try.params14] at hA hval
  obtain ⟨v0, vs0, d0, ds0, p0, q0, hargs, rfl, rfl, h0, r0⟩ := trodAll_cons hA
  obtain ⟨rfl, rfl, rfl⟩ := trodAll_nil r0
  obtain rfl : args = #[v0] := by cases args; simp_all
  obtain ⟨rfl, rfl⟩ := trodVars_none hV
  have k0 := h0
  have lt0 : ∀ x ∈ p0, x.block < W.heap.size := by obtain ⟨m, hm⟩ := k0; exact DataW.trod_lt m _ _ _ hm
  obtain ⟨z0, w0⟩ := open_rdI (kk := .u8) Try.underlying22 Try.underlying5 (by kernel_rfl) (hval 0 22 v0 rfl rfl) h0
  clear hA0 hval0
  refine (fnMaskMany_walk v0 z0 W w0).mono fun e W' ⟨he, bel⟩ => ?_
  subst he
  exact ⟨_, rfl, _, _, _, [], _, [], hW', trodAll_mk1 (shut_bool Try.underlying4 _), (trodAll_cons_mk (Below.trod laidOut (by kernel_rfl) (of_decide_eq_true (by kernel_rfl)) k0 bel lt0) trodAll_mk0), rfl, bel.frame _, fun h => by cases h⟩
theorem over : Rows.fnMaskManyRow.holds Try.pinned (OpenSpec.ofChange Rows.fnMaskManySpec) :=
  OpenClaim.holds_of_wide 14 Try.f14 rfl rfl rfl rfl rfl rfl rfl ⟨rfl, rfl, rfl, rfl, rfl⟩ rfl rfl rfl rfl rfl (by kernel_rfl) Try.func14 (by kernel_rfl)
    (of_decide_eq_true (by kernel_rfl)) (by unfold Func.isWrapper; first | (rw [if_pos (by decide +kernel)]; kernel_rfl) | (rw [if_neg (by decide +kernel)]; exact ⟨rfl, rfl⟩))
    (fun os started H enc _ => lifted os started H enc)
end fnMaskMany
/-- The given statement on FnMaskMany. -/
theorem fnMaskMany_holds : Rows.FnMaskManySaid := fnMaskMany.over
#print axioms fnMaskMany_holds
end Go.Proofs.Ytgmaffoljdmkpaa
