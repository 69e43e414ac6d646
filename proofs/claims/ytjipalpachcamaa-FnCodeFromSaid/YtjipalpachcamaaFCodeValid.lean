/- YtjipalpachcamaaFCodeValid: An operation 15 or a register 4 makes an instruction invalid. No conditions. -/
import Derived.Test.YtjipalpachcamaaDrawB
import Derived.Test.YtjipalpachcamaaCodesS
import Derived.Test.YtjipalpachcamaaAlive
namespace Go.Proofs.Ytjipalpachcamaa
open Go.ChangeShapes Go.WideShapes Go.ChangeAt Go.RowKit
set_option linter.unusedVariables false
theorem C4.below {w w' : World} {b : Nat} {x y z u : Int} (h : C4 w b x y z u) (hb : Below w.heap.size w w') : C4 w' b x y z u := by
  obtain ⟨h0, h1, h2, h3, h4, h5, h6, h7, h8⟩ := h
  exact ⟨(hb.cell (p := ⟨b, 0, none⟩) h8).trans h0, (hb.cell (p := ⟨b, 1, none⟩) h8).trans h1, (hb.cell (p := ⟨b, 2, none⟩) h8).trans h2, (hb.cell (p := ⟨b, 3, none⟩) h8).trans h3, (hb.frozen (p := ⟨b, 0, none⟩) h8).trans h4, (hb.frozen (p := ⟨b, 1, none⟩) h8).trans h5, (hb.frozen (p := ⟨b, 2, none⟩) h8).trans h6, (hb.frozen (p := ⟨b, 3, none⟩) h8).trans h7, Nat.lt_of_lt_of_le h8 hb.size⟩
theorem cValid_op15 (a b c : Int) : cValid ⟨15, a, b, c⟩ = false := by
  cases h : cValid ⟨15, a, b, c⟩ with
  | false => rfl
  | true => have := (cValid_bd h).2.1; simp at this
theorem cValid_a4 (o b c : Int) : cValid ⟨o, 4, b, c⟩ = false := by
  cases h : cValid ⟨o, 4, b, c⟩ with
  | false => rfl
  | true => have := (cValid_bd h).2.2.2.1; simp at this
set_option maxHeartbeats 4000000 in
theorem fnCodeValid_walk (v : Value) (bs : List Int) (w0 : World) (h : RdI .u8 w0 v bs) : Calls Try.prog 3 #[v] w0 fun e w' => e = .returned (.bool true) ∧ Below w0.heap.size w0 w' := by
  obtain ⟨ad, c, hv, hlc, hcm⟩ := h.shape
  subst hv
  have hB0 := Below.refl w0.heap.size w0
  by_cases hn : bs.length ≤ 1048576
  · go_enter Try.func3, Try.ntmps3
    go_wp2_with fail
    refine (DrawCodeValid_any _ bs _ h).mono ?_
    rintro e w1 ⟨c, rfl, hc, hB1⟩
    have hz1 := hB1.size
    have hs1 := c4_new w1 c.op c.a c.b c.c
    have hB1a := hB1.alloc hz1 (.cells #[.int .i64 c.op, .int .i64 c.a, .int .i64 c.b, .int .i64 c.c] 24)
    obtain ⟨ok, hok⟩ : ∃ b, cValid c = b := ⟨_, rfl⟩
    have HK := Lib.hid hok
    have h15 := cValid_op15 c.a c.b c.c
    have h4 := cValid_a4 c.op c.b c.c
    have H15 := Lib.hid h15
    have H4 := Lib.hid h4
    clear hok hc h15 h4 h
    go_wp2_with fail
    refine (implCodeValid c _).mono ?_
    rintro e w2 ⟨rfl, hb2⟩
    rw [HK.out]
    have hs2 := hs1.below hb2
    have hB2 := hB1a.trans (hb2.mono hB1a.size)
    have hz2 := hb2.size
    simp only [World.size_alloc] at hz2
    have hlt2 : w1.heap.size < w2.heap.size := by omega
    clear hb2 hs1
    obtain ⟨c0, c1, c2, c3, f0, f1, f2, f3, f4⟩ := id hs2
    go_wp2_with fail
    refine (specCodeValid c _).mono ?_
    rintro e w3 ⟨rfl, hb3⟩
    rw [HK.out]
    have hs3 := hs2.below hb3
    have hB3 := hB2.trans (hb3.mono hB2.size)
    have hz3 := hb3.size
    have hlt3 : w1.heap.size < w3.heap.size := by omega
    clear hb3 hs2 c0 c1 c2 c3 f0 f1 f2 f3 f4 hB2 hB1a
    obtain ⟨c0, c1, c2, c3, f0, f1, f2, f3, f4⟩ := id hs3
    go_wp2_with fail
    have hB4 := (hB3.alloc hB3.size (.cells #[.int .i64 15, .int .i64 c.a, .int .i64 c.b, .int .i64 c.c] 24)).alloc (by simp; omega) (.cells #[.int .i64 c.op, .int .i64 4, .int .i64 c.b, .int .i64 c.c] 24)
    have hs4 := c4_new (w3.alloc (.cells #[.int .i64 15, .int .i64 c.a, .int .i64 c.b, .int .i64 c.c] 24)) c.op 4 c.b c.c
    clear c0 c1 c2 c3 f0 f1 f2 f3 f4 hs3
    refine (implCodeValid ⟨15, c.a, c.b, c.c⟩ _).mono ?_
    rintro e w5 ⟨rfl, hb5⟩
    rw [H15.out]
    have hs5 := hs4.below hb5
    simp only [World.size_alloc] at hs5
    have hB5 := hB4.trans (hb5.mono hB4.size)
    clear hb5 hs4 hB4 hB3
    obtain ⟨c0, c1, c2, c3, f0, f1, f2, f3, f4⟩ := id hs5
    go_wp2_with fail
    refine (implCodeValid ⟨c.op, 4, c.b, c.c⟩ _).mono ?_
    rintro e w6 ⟨rfl, hb6⟩
    rw [H4.out]
    have hB6 := hB5.trans (hb6.mono hB5.size)
    clear hb6 hB5 hs5 c0 c1 c2 c3 f0 f1 f2 f3 f4
    go_wp2_with (go_at_call 18; refine (alive_any _).mono ?_; rintro e w' ⟨rfl, rfl⟩)
    go_ret
    exact ⟨rfl, hB6⟩
  · go_enter Try.func3, Try.ntmps3
    go_wp2
    go_ret
    exact ⟨rfl, hB0⟩
namespace fnCodeValid
set_option linter.unusedVariables false
set_option maxRecDepth 100000 in
theorem lifted (os : Os) (started : os.Started) (H : Type) (enc : TypeId × Value → H) :
    ReturnsInHanded {} Try.checked os 3 .any (Rows.fnCodeValidSpec.pre6 enc Try.prog Try.f3 Rows.fnCodeValidRow.domain false) (Rows.fnCodeValidSpec.post enc Try.prog Try.f3 false true false false) := by
  refine returnsInHanded_of_change (C := Try.checked) own started (by kernel_rfl) Try.func3
    (ChangeSpec.witness6 (enc := enc) (C := Try.checked) false ⟨#[], #[.slice none 0 0], []⟩ 8 (by kernel_rfl) (by kernel_rfl) (by kernel_rfl) (by kernel_rfl)) ?_
  intro W base args ds gs before hval0 hW hcnd _
  have hval : ∀ (j : Nat) t v, Try.f3.params[j]? = some t → args[j]? = some v → Value.okWide Try.prog W .any base t v := hval0
  have hW' := hW
  obtain ⟨p, q, hA0, hV, rfl, hfz, hnd⟩ := hW
  have hA : DataW.TrodAll enc Try.prog W 0 (fun _ => true) true Try.f3.params.toList args.toList ds p := hA0
  rw [Try.params3] at hA hval
  obtain ⟨v0, vs0, d0, ds0, p0, q0, hargs, rfl, rfl, h0, r0⟩ := trodAll_cons hA
  obtain ⟨rfl, rfl, rfl⟩ := trodAll_nil r0
  obtain rfl : args = #[v0] := by cases args; simp_all
  obtain ⟨rfl, rfl⟩ := trodVars_none hV
  have k0 := h0
  have lt0 : ∀ x ∈ p0, x.block < W.heap.size := by obtain ⟨m, hm⟩ := k0; exact DataW.trod_lt m _ _ _ hm
  obtain ⟨z0, w0⟩ := open_rdI (kk := .u8) Try.underlying22 Try.underlying5 (by kernel_rfl) (hval 0 22 v0 rfl rfl) h0
  clear hA0 hval0
  refine (fnCodeValid_walk v0 z0 W w0).mono fun e W' ⟨he, bel⟩ => ?_
  subst he
  exact ⟨_, rfl, _, _, _, [], _, [], hW', trodAll_mk1 (shut_bool Try.underlying4 _), (trodAll_cons_mk (Below.trod laidOut (by kernel_rfl) (of_decide_eq_true (by kernel_rfl)) k0 bel lt0) trodAll_mk0), rfl, bel.frame _, fun h => by cases h⟩
theorem over : Rows.fnCodeValidRow.holds Try.pinned (OpenSpec.ofChange Rows.fnCodeValidSpec) :=
  OpenClaim.holds_of_wide 3 Try.f3 rfl rfl rfl rfl rfl rfl rfl ⟨rfl, rfl, rfl, rfl, rfl⟩ rfl rfl rfl rfl rfl (by kernel_rfl) Try.func3 (by kernel_rfl)
    (of_decide_eq_true (by kernel_rfl)) (by unfold Func.isWrapper; first | (rw [if_pos (by decide +kernel)]; kernel_rfl) | (rw [if_neg (by decide +kernel)]; exact ⟨rfl, rfl⟩))
    (fun os started H enc _ => lifted os started H enc)
end fnCodeValid
/-- The given statement on FnCodeValid. -/
theorem fnCodeValid_holds : Rows.FnCodeValidSaid := fnCodeValid.over
#print axioms fnCodeValid_holds
end Go.Proofs.Ytjipalpachcamaa
