/- YtjipalpachcamaaFCodeFrom: CodeNumber of an accepted number's instruction is the number. No conditions. -/
import Derived.Test.YtjipalpachcamaaFCodeNumber
namespace Go.Proofs.Ytjipalpachcamaa
open Go.ChangeShapes Go.WideShapes Go.ChangeAt Go.RowKit
set_option linter.unusedVariables false
set_option maxHeartbeats 4000000 in
theorem DrawCodeFrom_any (v : Value) (bs0 : List Int) (w : World) (h : RdI .u8 w v bs0) : Calls Try.prog 23 #[v] w (fun e w' => ∃ n : Int, e = .returned (.int .i64 n) ∧ -1 ≤ n ∧ n ≤ 9223372036854775807 ∧ Below w.heap.size w w') := by
  obtain ⟨bs, hbs⟩ : ∃ bs, bs = bs0.take 2000 := ⟨_, rfl⟩
  go_enter Try.func23, Try.ntmps23
  go_wp2_with fail
  refine (open_any _ bs0 _ h).mono ?_
  rintro e w1 ⟨a, rfl, hr1, ha, hb1⟩
  rw [← hbs] at hr1
  have hz1 := hb1.size
  clear hbs h
  go_wp2_with fail
  refine (l20Code_any a bs 0 0 w1 hr1 (by omega) (by omega) (by omega)).mono ?_
  rintro e w2 ⟨c, rfl, hc, p, hr2, hp2, hw2⟩
  have hB2 := Below.wr hb1 hw2 hz1 (fun k hk => by omega)
  obtain ⟨N, hN⟩ : ∃ n, cNum c = n := ⟨_, rfl⟩
  have hNb := cNum_bd c
  rw [hN] at hNb
  obtain ⟨hN1, hN2, _⟩ := hNb
  have HN := Lib.hid hN
  have hpp := hr2.nn
  clear hN hc hw2 hr1 hb1
  go_wp2_with fail
  refine (specCodeNumber c _).mono ?_
  rintro e w3 ⟨rfl, hb3⟩
  rw [HN.out]
  have hB3 := hB2.trans (hb3.mono hB2.size)
  have hr3 := hr2.below hb3 (Nat.le_refl _)
  clear hb3 hB2 hr2
  obtain ⟨b1, b2⟩ := pickV_bd bs p 9
  obtain ⟨b3, b4⟩ := pickV_bd bs (p + 1) 256
  obtain ⟨b5, b6⟩ := pickV_bd bs (p + 1 + 1) 8
  obtain ⟨X, hX⟩ : ∃ X, pickV bs p 9 = X := ⟨_, rfl⟩
  obtain ⟨Y, hY⟩ : ∃ X, pickV bs (p + 1) 256 = X := ⟨_, rfl⟩
  obtain ⟨j, hj⟩ : ∃ j : Nat, pickV bs (p + 1 + 1) 8 = j := ⟨(pickV bs (p + 1 + 1) 8).toNat, by omega⟩
  have x1 : 0 ≤ X := by omega
  have x2 : X ≤ 8 := by omega
  have y1 : 0 ≤ Y := by omega
  have y2 : Y ≤ 255 := by omega
  have hj8 : j < 8 := by omega
  have HX := Lib.hid hX
  have HY := Lib.hid hY
  have HJ := Lib.hid hj
  clear b1 b2 b3 b4 b5 b6 hX hY hj
  go_wp2_with fail
  refine (pick_any _ bs p _ _ hr3 (by omega) (by omega)).mono ?_
  rintro e w4 ⟨rfl, hr4, hw4⟩
  rw [HX.out]
  have hz3 := hB3.size
  have hB4 := Below.wr hB3 hw4 hz3 (fun k hk => by omega)
  clear hr3 hw4 hB3
  go_wp2_with fail
  refine (pick_any _ bs (p + 1) _ _ hr4 (by omega) (by omega)).mono ?_
  rintro e w5 ⟨rfl, hr5, hw5⟩
  rw [HY.out]
  have hz4 := hB4.size
  have hB5 := Below.wr hB4 hw5 hz4 (fun k hk => by omega)
  clear hr4 hw5 hB4
  have hz5 := hB5.size
  have halt := hr5.lt
  go_wp2_with fail
  refine (pick_any _ bs (p + 1 + 1) _ _ ((hr5.alloc _).alloc _) (by omega) (by omega)).mono ?_
  rintro e w6 ⟨rfl, hr6, hw6⟩
  rw [HJ.out]
  have hB6 := Below.wr ((hB5.alloc hz5 _).alloc (by simp; omega) _) hw6 (by simp; omega) (fun k hk => by omega)
  have n1 : ¬ w5.heap.size = a := by omega
  have n2 : ¬ w5.heap.size + 1 = a := by omega
  obtain ⟨i, hi, hi6⟩ : ∃ i : Nat, (#[.int .i64 0, .int .i64 0, .int .i64 0, .int .i64 1, .int .i64 2, .int .i64 3, .int .i64 4, .int .i64 5] : Array Value)[j]? = some (.int .i64 (i : Int)) ∧ i < 6 := by
    rcases (show j = 0 ∨ j = 1 ∨ j = 2 ∨ j = 3 ∨ j = 4 ∨ j = 5 ∨ j = 6 ∨ j = 7 by omega) with rfl | rfl | rfl | rfl | rfl | rfl | rfl | rfl
    · exact ⟨0, rfl, by omega⟩
    · exact ⟨0, rfl, by omega⟩
    · exact ⟨0, rfl, by omega⟩
    · exact ⟨1, rfl, by omega⟩
    · exact ⟨2, rfl, by omega⟩
    · exact ⟨3, rfl, by omega⟩
    · exact ⟨4, rfl, by omega⟩
    · exact ⟨5, rfl, by omega⟩
  obtain ⟨Z, hZ, hZ1, hZ2⟩ : ∃ Z : Int, (#[.int .i64 N, .int .i64 (N + 64 * X), .int .i64 (N + 16384), .int .i64 (Y * 99), .int .i64 (-1), .int .i64 9223372036854775807] : Array Value)[i]? = some (.int .i64 Z) ∧ -1 ≤ Z ∧ Z ≤ 9223372036854775807 := by
    rcases (show i = 0 ∨ i = 1 ∨ i = 2 ∨ i = 3 ∨ i = 4 ∨ i = 5 by omega) with rfl | rfl | rfl | rfl | rfl | rfl
    all_goals exact ⟨_, rfl, by omega, by omega⟩
  have hcI := (lit_cell2 hw6 (heap_alloc_new (w5.alloc _) _) (by simp only [World.size_alloc]; exact n2) j).trans hi
  simp only [World.size_alloc] at hcI
  have hcZ := (lit_cell2 hw6 (by rw [heap_alloc_old _ _ (by simp)]; exact heap_alloc_new w5 _) n1 i).trans hZ
  clear hi hZ hw6 hr5 hr6 hB5
  go_wp2
  go_ret
  exact ⟨Z, rfl, hZ1, hZ2, hB6⟩
theorem cFromV_ok {n : Int} (h0 : -1 ≤ n) : (∃ C : Cd, cFromV n = .tuple #[.agg #[.int .i64 C.op, .int .i64 C.a, .int .i64 C.b, .int .i64 C.c], .bool true] ∧ cNum C = n ∧ cValid C = true) ∨ cFromV n = .tuple #[.agg #[.int .i64 0, .int .i64 0, .int .i64 0, .int .i64 0], .bool false] := by
  by_cases hn : n < 0
  · exact .inr (cFromV_neg hn)
  · cases hv : cValid (cdOf n) with
    | false => exact .inr (cFromV_no hn hv)
    | true => exact .inl ⟨cdOf n, cFromV_yes hn hv, by rw [cNum_t hv]; exact num_cdOf (by omega), hv⟩
set_option maxHeartbeats 4000000 in
theorem fnCodeFrom_walk (v : Value) (bs : List Int) (w0 : World) (h : RdI .u8 w0 v bs) : Calls Try.prog 5 #[v] w0 fun e w' => e = .returned (.bool true) ∧ Below w0.heap.size w0 w' := by
  obtain ⟨ad, c, hv, hlc, hcm⟩ := h.shape
  subst hv
  have hB0 := Below.refl w0.heap.size w0
  by_cases hn : bs.length ≤ 1048576
  · go_enter Try.func5, Try.ntmps5
    go_wp2_with fail
    refine (DrawCodeFrom_any _ bs _ h).mono ?_
    rintro e w1 ⟨n, rfl, hn1, hn2, hB1⟩
    clear h
    rcases cFromV_ok hn1 with ⟨C, hV, hN, hC⟩ | hV
    · have HV := Lib.hid hV
      have HN := Lib.hid hN
      have HC := Lib.hid hC
      clear hV hN hC
      go_wp2_with fail
      refine (implCodeFrom n _ hn2).mono ?_
      rintro e w2 ⟨rfl, hb2⟩
      rw [HV.out]
      have hB2 := hB1.trans (hb2.mono hB1.size)
      have hs2 := c4_new w2 C.op C.a C.b C.c
      have hB2a := hB2.alloc hB2.size (.cells #[.int .i64 C.op, .int .i64 C.a, .int .i64 C.b, .int .i64 C.c] 24)
      clear hb2 hB2
      go_wp2_with fail
      refine (specCodeFrom n _ hn2).mono ?_
      rintro e w3 ⟨rfl, hb3⟩
      rw [HV.out]
      have hs3 := (hs2.below hb3).alloc (.cells #[.int .i64 C.op, .int .i64 C.a, .int .i64 C.b, .int .i64 C.c] 24)
      have hB3 := hB2a.trans (hb3.mono hB2a.size)
      have hB3a := hB3.alloc hB3.size (.cells #[.int .i64 C.op, .int .i64 C.a, .int .i64 C.b, .int .i64 C.c] 24)
      have hz3 := hb3.size
      simp only [World.size_alloc] at hz3
      have hne : ¬ w2.heap.size = w3.heap.size := by omega
      have hlt : w2.heap.size < w3.heap.size := by omega
      have hcw := (hs2.below hb3)
      clear hb3 hs2 hB3 hB2a
      obtain ⟨c0, c1, c2, c3, f0, f1, f2, f3, f4⟩ := id hcw
      go_wp2_with fail
      refine (implCodeNumber C _).mono ?_
      rintro e w4 ⟨rfl, hb4⟩
      rw [HN.out]
      have hs4 := hs3.below hb4
      have hB4 := hB3a.trans (hb4.mono hB3a.size)
      have hz4 := hb4.size
      clear hb4 hs3 hB3a c0 c1 c2 c3 f0 f1 f2 f3 f4 hcw
      obtain ⟨c0, c1, c2, c3, f0, f1, f2, f3, f4⟩ := id hs4
      go_wp2_with fail
      refine (implCodeValid C _).mono ?_
      rintro e w5 ⟨rfl, hb5⟩
      rw [HC.out]
      have hB5 := hB4.trans (hb5.mono hB4.size)
      clear hb5 hB4 hs4 c0 c1 c2 c3 f0 f1 f2 f3 f4
      go_wp2
      go_ret
      exact ⟨rfl, hB5⟩
    · have HV := Lib.hid hV
      clear hV
      go_wp2_with fail
      refine (implCodeFrom n _ hn2).mono ?_
      rintro e w2 ⟨rfl, hb2⟩
      rw [HV.out]
      have hB2 := hB1.trans (hb2.mono hB1.size)
      have hs2 := c4_new w2 0 0 0 0
      have hB2a := hB2.alloc hB2.size (.cells #[.int .i64 0, .int .i64 0, .int .i64 0, .int .i64 0] 24)
      clear hb2 hB2
      go_wp2_with fail
      refine (specCodeFrom n _ hn2).mono ?_
      rintro e w3 ⟨rfl, hb3⟩
      rw [HV.out]
      have hB3 := hB2a.trans (hb3.mono hB2a.size)
      have hB3a := hB3.alloc hB3.size (.cells #[.int .i64 0, .int .i64 0, .int .i64 0, .int .i64 0] 24)
      have hz3 := hb3.size
      simp only [World.size_alloc] at hz3
      have hne : ¬ w2.heap.size = w3.heap.size := by omega
      have hlt : w2.heap.size < w3.heap.size := by omega
      have hcw := (hs2.below hb3)
      clear hb3 hs2 hB3 hB2a
      obtain ⟨c0, c1, c2, c3, f0, f1, f2, f3, f4⟩ := id hcw
      clear hcw
      go_wp2_with (go_at_call 18; refine (alive_any _).mono ?_; rintro e w' ⟨rfl, rfl⟩)
      go_ret
      exact ⟨rfl, hB3a⟩
  · go_enter Try.func5, Try.ntmps5
    go_wp2
    go_ret
    exact ⟨rfl, hB0⟩
namespace fnCodeFrom
set_option linter.unusedVariables false
set_option maxRecDepth 100000 in
theorem lifted (os : Os) (started : os.Started) (H : Type) (enc : TypeId × Value → H) :
    ReturnsInHanded {} Try.checked os 5 .any (Rows.fnCodeFromSpec.pre6 enc Try.prog Try.f5 Rows.fnCodeFromRow.domain false) (Rows.fnCodeFromSpec.post enc Try.prog Try.f5 false true false false) := by
  refine returnsInHanded_of_change (C := Try.checked) own started (by kernel_rfl) Try.func5
    (ChangeSpec.witness6 (enc := enc) (C := Try.checked) false ⟨#[], #[.slice none 0 0], []⟩ 8 (by kernel_rfl) (by kernel_rfl) (by kernel_rfl) (by kernel_rfl)) ?_
  intro W base args ds gs before hval0 hW hcnd _
  have hval : ∀ (j : Nat) t v, Try.f5.params[j]? = some t → args[j]? = some v → Value.okWide Try.prog W .any base t v := hval0
  have hW' := hW
  obtain ⟨p, q, hA0, hV, rfl, hfz, hnd⟩ := hW
  have hA : DataW.TrodAll enc Try.prog W 0 (fun _ => true) true Try.f5.params.toList args.toList ds p := hA0
  rw [Try.params5] at hA hval
  obtain ⟨v0, vs0, d0, ds0, p0, q0, hargs, rfl, rfl, h0, r0⟩ := trodAll_cons hA
  obtain ⟨rfl, rfl, rfl⟩ := trodAll_nil r0
  obtain rfl : args = #[v0] := by cases args; simp_all
  obtain ⟨rfl, rfl⟩ := trodVars_none hV
  have k0 := h0
  have lt0 : ∀ x ∈ p0, x.block < W.heap.size := by obtain ⟨m, hm⟩ := k0; exact DataW.trod_lt m _ _ _ hm
  obtain ⟨z0, w0⟩ := open_rdI (kk := .u8) Try.underlying22 Try.underlying5 (by kernel_rfl) (hval 0 22 v0 rfl rfl) h0
  clear hA0 hval0
  refine (fnCodeFrom_walk v0 z0 W w0).mono fun e W' ⟨he, bel⟩ => ?_
  subst he
  exact ⟨_, rfl, _, _, _, [], _, [], hW', trodAll_mk1 (shut_bool Try.underlying4 _), (trodAll_cons_mk (Below.trod laidOut (by kernel_rfl) (of_decide_eq_true (by kernel_rfl)) k0 bel lt0) trodAll_mk0), rfl, bel.frame _, fun h => by cases h⟩
theorem over : Rows.fnCodeFromRow.holds Try.pinned (OpenSpec.ofChange Rows.fnCodeFromSpec) :=
  OpenClaim.holds_of_wide 5 Try.f5 rfl rfl rfl rfl rfl rfl rfl ⟨rfl, rfl, rfl, rfl, rfl⟩ rfl rfl rfl rfl rfl (by kernel_rfl) Try.func5 (by kernel_rfl)
    (of_decide_eq_true (by kernel_rfl)) (by unfold Func.isWrapper; first | (rw [if_pos (by decide +kernel)]; kernel_rfl) | (rw [if_neg (by decide +kernel)]; exact ⟨rfl, rfl⟩))
    (fun os started H enc _ => lifted os started H enc)
end fnCodeFrom
/-- The given statement on FnCodeFrom. -/
theorem fnCodeFrom_holds : Rows.FnCodeFromSaid := fnCodeFrom.over
#print axioms fnCodeFrom_holds
end Go.Proofs.Ytjipalpachcamaa
