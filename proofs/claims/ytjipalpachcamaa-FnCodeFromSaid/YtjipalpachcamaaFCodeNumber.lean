/- YtjipalpachcamaaFCodeNumber: CodeFrom of an instruction's number returns the instruction. No conditions. -/
import Derived.Test.YtjipalpachcamaaFCodeValid
import Derived.Test.YtjipalpachcamaaCodeF
namespace Go.Proofs.Ytjipalpachcamaa
open Go.ChangeShapes Go.WideShapes Go.ChangeAt Go.RowKit
set_option linter.unusedVariables false
theorem cFromV_num {c : Cd} (h : cValid c = true) : cFromV (cNum c) = .tuple #[.agg #[.int .i64 c.op, .int .i64 c.a, .int .i64 c.b, .int .i64 c.c], .bool true] := by
  have h1 := cdOf_num h
  have h2 := cNum_t h
  have h3 := (cNum_bd c).2.2 h
  have h4 := cFrom_yes (n := cNum c) (by omega) (by rw [h2, h1]; exact h)
  rw [h2, h1] at h4
  unfold cFromV
  rw [h2, h4.1, h4.2]
theorem cNum_mod {c : Cd} (h : cValid c = true) : cNum c % 16 = c.op := by
  have h2 := cNum_t h
  have h3 := cValid_bd h
  omega
set_option maxHeartbeats 4000000 in
theorem fnCodeNumber_walk (v : Value) (bs : List Int) (w0 : World) (h : RdI .u8 w0 v bs) : Calls Try.prog 4 #[v] w0 fun e w' => e = .returned (.bool true) ∧ Below w0.heap.size w0 w' := by
  obtain ⟨ad, c, hv, hlc, hcm⟩ := h.shape
  subst hv
  have hB0 := Below.refl w0.heap.size w0
  by_cases hn : bs.length ≤ 1048576
  · go_enter Try.func4, Try.ntmps4
    go_wp2_with fail
    refine (DrawCodeNumber_any _ bs _ h).mono ?_
    rintro e w1 ⟨c, rfl, hc, hB1⟩
    have hz1 := hB1.size
    have hs1 := c4_new w1 c.op c.a c.b c.c
    have hB1a := hB1.alloc hz1 (.cells #[.int .i64 c.op, .int .i64 c.a, .int .i64 c.b, .int .i64 c.c] 24)
    obtain ⟨N, hN⟩ : ∃ n, cNum c = n := ⟨_, rfl⟩
    have hNb := cNum_bd c
    rw [hN] at hNb
    have hNv : N = -1 ∨ (0 ≤ N ∧ cFromV N = .tuple #[.agg #[.int .i64 c.op, .int .i64 c.a, .int .i64 c.b, .int .i64 c.c], .bool true] ∧ N % 16 = c.op) := by
      cases hv : cValid c with
      | false => left; rw [← hN]; exact cNum_f hv
      | true => right; exact ⟨hNb.2.2 hv, by rw [← hN]; exact cFromV_num hv, by rw [← hN]; exact cNum_mod hv⟩
    have HN := Lib.hid hN
    obtain ⟨hN1, hN2, _⟩ := hNb
    clear hN hc h
    go_wp2_with fail
    refine (implCodeNumber c _).mono ?_
    rintro e w2 ⟨rfl, hb2⟩
    rw [HN.out]
    have hs2 := hs1.below hb2
    have hB2 := hB1a.trans (hb2.mono hB1a.size)
    have hz2 := hb2.size
    simp only [World.size_alloc] at hz2
    have hlt2 : w1.heap.size < w2.heap.size := by omega
    clear hb2 hs1
    obtain ⟨c0, c1, c2, c3, f0, f1, f2, f3, f4⟩ := id hs2
    go_wp2_with fail
    refine (specCodeNumber c _).mono ?_
    rintro e w3 ⟨rfl, hb3⟩
    rw [HN.out]
    have hs3 := hs2.below hb3
    have hB3 := hB2.trans (hb3.mono hB2.size)
    have hz3 := hb3.size
    have hlt3 : w1.heap.size < w3.heap.size := by omega
    clear hb3 hs2 c0 c1 c2 c3 f0 f1 f2 f3 f4 hB2 hB1a
    rcases hNv with rfl | ⟨hN0, hV, hM⟩
    · clear hs3
      go_wp2_with (go_at_call 18; refine (alive_any _).mono ?_; rintro e w' ⟨rfl, rfl⟩)
      go_ret
      exact ⟨rfl, hB3⟩
    · have HV := Lib.hid hV
      clear hV
      go_wp2_with fail
      refine (implCodeFrom N _ (by omega)).mono ?_
      rintro e w4 ⟨rfl, hb4⟩
      rw [HV.out]
      have hs4 := hs3.below hb4
      have hB4 := hB3.trans (hb4.mono hB3.size)
      have hz4 := hb4.size
      have hne : ¬ w1.heap.size = w4.heap.size := by omega
      clear hb4 hs3 hB3
      have hB5 := hB4.alloc hB4.size (.cells #[.int .i64 c.op, .int .i64 c.a, .int .i64 c.b, .int .i64 c.c] 24)
      obtain ⟨c0, c1, c2, c3, f0, f1, f2, f3, f4⟩ := id hs4
      clear hs4 hB4
      go_wp2
      go_ret
      exact ⟨rfl, hB5⟩
  · go_enter Try.func4, Try.ntmps4
    go_wp2
    go_ret
    exact ⟨rfl, hB0⟩
namespace fnCodeNumber
set_option linter.unusedVariables false
set_option maxRecDepth 100000 in
theorem lifted (os : Os) (started : os.Started) (H : Type) (enc : TypeId × Value → H) :
    ReturnsInHanded {} Try.checked os 4 .any (Rows.fnCodeNumberSpec.pre6 enc Try.prog Try.f4 Rows.fnCodeNumberRow.domain false) (Rows.fnCodeNumberSpec.post enc Try.prog Try.f4 false true false false) := by
  refine returnsInHanded_of_change (C := Try.checked) own started (by kernel_rfl) Try.func4
    (ChangeSpec.witness6 (enc := enc) (C := Try.checked) false ⟨#[], #[.slice none 0 0], []⟩ 8 (by kernel_rfl) (by kernel_rfl) (by kernel_rfl) (by kernel_rfl)) ?_
  intro W base args ds gs before hval0 hW hcnd _
  have hval : ∀ (j : Nat) t v, Try.f4.params[j]? = some t → args[j]? = some v → Value.okWide Try.prog W .any base t v := hval0
  have hW' := hW
  obtain ⟨p, q, hA0, hV, rfl, hfz, hnd⟩ := hW
  have hA : DataW.TrodAll enc Try.prog W 0 (fun _ => true) true Try.f4.params.toList args.toList ds p := hA0
  rw [Try.params4] at hA hval
  obtain ⟨v0, vs0, d0, ds0, p0, q0, hargs, rfl, rfl, h0, r0⟩ := trodAll_cons hA
  obtain ⟨rfl, rfl, rfl⟩ := trodAll_nil r0
  obtain rfl : args = #[v0] := by cases args; simp_all
  obtain ⟨rfl, rfl⟩ := trodVars_none hV
  have k0 := h0
  have lt0 : ∀ x ∈ p0, x.block < W.heap.size := by obtain ⟨m, hm⟩ := k0; exact DataW.trod_lt m _ _ _ hm
  obtain ⟨z0, w0⟩ := open_rdI (kk := .u8) Try.underlying22 Try.underlying5 (by kernel_rfl) (hval 0 22 v0 rfl rfl) h0
  clear hA0 hval0
  refine (fnCodeNumber_walk v0 z0 W w0).mono fun e W' ⟨he, bel⟩ => ?_
  subst he
  exact ⟨_, rfl, _, _, _, [], _, [], hW', trodAll_mk1 (shut_bool Try.underlying4 _), (trodAll_cons_mk (Below.trod laidOut (by kernel_rfl) (of_decide_eq_true (by kernel_rfl)) k0 bel lt0) trodAll_mk0), rfl, bel.frame _, fun h => by cases h⟩
theorem over : Rows.fnCodeNumberRow.holds Try.pinned (OpenSpec.ofChange Rows.fnCodeNumberSpec) :=
  OpenClaim.holds_of_wide 4 Try.f4 rfl rfl rfl rfl rfl rfl rfl ⟨rfl, rfl, rfl, rfl, rfl⟩ rfl rfl rfl rfl rfl (by kernel_rfl) Try.func4 (by kernel_rfl)
    (of_decide_eq_true (by kernel_rfl)) (by unfold Func.isWrapper; first | (rw [if_pos (by decide +kernel)]; kernel_rfl) | (rw [if_neg (by decide +kernel)]; exact ⟨rfl, rfl⟩))
    (fun os started H enc _ => lifted os started H enc)
end fnCodeNumber
/-- The given statement on FnCodeNumber. -/
theorem fnCodeNumber_holds : Rows.FnCodeNumberSaid := fnCodeNumber.over
#print axioms fnCodeNumber_holds
end Go.Proofs.Ytjipalpachcamaa
