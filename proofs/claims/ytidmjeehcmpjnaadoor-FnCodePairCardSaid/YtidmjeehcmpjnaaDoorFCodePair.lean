/- YtidmjeehcmpjnaaDoorFCodePair: Two valid instructions have the same number, and the same text, only if they are equal. Conditions: the listed variables hold what the program's text lays (the card ties that). -/
import Derived.Test.YtidmjeehcmpjnaaDoorDrawB
import Derived.Test.YtidmjeehcmpjnaaDoorTxtC
import Derived.Test.YtidmjeehcmpjnaaDoorAlive
import Derived.Deep.RegionHeld3
namespace Go.Proofs.YtidmjeehcmpjnaaDoor
open Go.ChangeShapes Go.WideShapes Go.ChangeAt Go.RowKit
set_option linter.unusedVariables false
theorem cNum_inj {c d : Cd} (hc : cValid c = true) (hd : cValid d = true) (h : cNum c = cNum d) : c = d := by
  have h1 := cdOf_num hc
  have h2 := cdOf_num hd
  rw [cNum_t hc, cNum_t hd] at h
  rw [h, h2] at h1
  exact h1.symm
theorem C4.under {w w' : World} {b : Nat} {x y z u : Int} (h : C4 w b x y z u) (hb : Below w.heap.size w w') : C4 w' b x y z u := h.wr (a := w.heap.size) ⟨hb.os, hb.tape, hb.output, hb.size, fun k hk _ => hb.block k hk⟩ (by have := h.lt; omega)
theorem anew (w : World) (o : Obj) : Below w.heap.size w (w.alloc o) := (Below.refl _ _).alloc (Nat.le_refl _) _
/-- Two instructions in memory. -/
structure PS (w0 : World) (X Y : Nat) (a b : Cd) (w : World) : Prop where
  x : C4 w X a.op a.a a.b a.c
  y : C4 w Y b.op b.a b.b b.c
  bel : Below w0.heap.size w0 w
theorem PS.under {w0 w w' : World} {X Y : Nat} {a b : Cd} (h : PS w0 X Y a b w) (hb : Below w.heap.size w w') : PS w0 X Y a b w' := ⟨h.x.under hb, h.y.under hb, h.bel.trans (hb.mono h.bel.size)⟩
theorem PS.s {w0 w : World} {X Y : Nat} {a b : Cd} (h : PS w0 X Y a b w) : w.cell? ⟨X, 0, none⟩ = some (.int .i64 a.op) ∧ w.cell? ⟨X, 1, none⟩ = some (.int .i64 a.a) ∧ w.cell? ⟨X, 2, none⟩ = some (.int .i64 a.b) ∧ w.cell? ⟨X, 3, none⟩ = some (.int .i64 a.c) ∧
    w.cell? ⟨Y, 0, none⟩ = some (.int .i64 b.op) ∧ w.cell? ⟨Y, 1, none⟩ = some (.int .i64 b.a) ∧ w.cell? ⟨Y, 2, none⟩ = some (.int .i64 b.b) ∧ w.cell? ⟨Y, 3, none⟩ = some (.int .i64 b.c) ∧ PS w0 X Y a b w := ⟨h.x.c0, h.x.c1, h.x.c2, h.x.c3, h.y.c0, h.y.c1, h.y.c2, h.y.c3, h⟩
set_option maxRecDepth 100000 in
set_option maxHeartbeats 8000000 in
theorem fnCodePair_walk (v : Value) (bs : List Int) (v2 : Value) (bs2 : List Int) (w0 : World) (h : RdI .u8 w0 v bs) (h2 : RdI .u8 w0 v2 bs2) (hL : LaidA w0) : Calls Tryd.prog 7 #[v, v2] w0 fun e w' => e = .returned (.bool true) ∧ Below w0.heap.size w0 w' := by
  obtain ⟨ad, c, hv, hlc, hcm⟩ := h.shape
  obtain ⟨ad2, c2, hv2, hlc2, hcm2⟩ := h2.shape
  subst hv hv2
  have hB0 := Below.refl w0.heap.size w0
  have HL := Lib.hid hL
  have HR := Lib.hid h
  have HR2 := Lib.hid h2
  clear hL h h2
  by_cases hn : bs.length ≤ 1048576
  rotate_left
  · go_enter Tryd.func7, Tryd.ntmps7
    go_wp2
    go_ret
    exact ⟨rfl, hB0⟩
  by_cases hn2 : bs2.length ≤ 1048576
  rotate_left
  · go_enter Tryd.func7, Tryd.ntmps7
    go_wp2
    go_ret
    exact ⟨rfl, hB0⟩
  go_enter Tryd.func7, Tryd.ntmps7
  go_wp2_with fail
  refine (DrawCodeNumber_any _ bs _ HR.out).mono ?_
  rintro e w1 ⟨a, rfl, _, hB1⟩
  have hB1x := hB1.trans ((anew w1 (.cells #[.int .i64 a.op, .int .i64 a.a, .int .i64 a.b, .int .i64 a.c] 42)).mono hB1.size)
  have hX1 := c4_of (b := w1.heap.size) (heap_alloc_new w1 (cObj a.op a.a a.b a.c))
  unfold cObj at hX1
  obtain ⟨X, hXe⟩ : ∃ X, w1.heap.size = X := ⟨_, rfl⟩
  rw [hXe] at hX1
  have HXE := Lib.hid hXe
  clear hXe
  go_wp2_with fail
  refine (DrawCodeNumber_any _ bs2 _ (HR2.out.below hB1x (Nat.le_refl _))).mono ?_
  rintro e w2 ⟨b, rfl, _, hB2⟩
  have hX2 := hX1.under hB2
  have hB2x := hB1x.trans (hB2.mono hB1x.size)
  have hY3 := c4_of (b := w2.heap.size) (heap_alloc_new w2 (cObj b.op b.a b.b b.c))
  unfold cObj at hY3
  obtain ⟨Y, hYe⟩ : ∃ Y, w2.heap.size = Y := ⟨_, rfl⟩
  rw [hYe] at hY3
  have HYE := Lib.hid hYe
  have hA := anew w2 (.cells #[.int .i64 b.op, .int .i64 b.a, .int .i64 b.b, .int .i64 b.c] 42)
  have hP3 : PS w0 X Y a b (w2.alloc (.cells #[.int .i64 b.op, .int .i64 b.a, .int .i64 b.b, .int .i64 b.c] 42)) := ⟨hX2.under hA, hY3, hB2x.trans (hA.mono hB2x.size)⟩
  have HP3 := Lib.hid hP3
  clear hX2 hY3 hA hB2x hB1x hX1 hB1 hB2 hB0 HR HR2 hYe
  obtain ⟨N, hN⟩ : ∃ N, cNum a = N := ⟨_, rfl⟩
  obtain ⟨M, hM⟩ : ∃ M, cNum b = M := ⟨_, rfl⟩
  have CI := Lib.hid (fun c w => implCodeNumber c w)
  have CA := Lib.hid (fun w => implCodeNumber a w)
  have CS := Lib.hid (fun w => specCodeNumber a w)
  have CB := Lib.hid (fun w => implCodeNumber b w)
  rw [hN] at CA CS
  rw [hM] at CB
  have hNb := cNum_bd a
  have hMb := cNum_bd b
  rw [hN] at hNb
  rw [hM] at hMb
  have hN1 := hNb.1
  have hN2 := hNb.2.1
  have hM1 := hMb.1
  have hM2 := hMb.2.1
  have HVA := Lib.hid hNb.2.2
  have HVB := Lib.hid hMb.2.2
  have HNE := Lib.hid hN
  have HME := Lib.hid hM
  clear hN hM hNb hMb
  obtain ⟨x0, x1, x2, x3, y0, y1, y2, y3, _⟩ := hP3.s
  clear hP3
  go_upto_region 5 with fail
  rw [HXE.out, HYE.out]
  go_wp2_with fail
  refine (CA.out _).mono ?_
  rintro e w4 ⟨rfl, hb4⟩
  have HP4 := Lib.hid (HP3.out.under hb4)
  clear x0 x1 x2 x3 y0 y1 y2 y3 hb4 HP3
  obtain ⟨x0, x1, x2, x3, y0, y1, y2, y3, _⟩ := HP4.out.s
  go_wp2_with fail
  refine (CS.out _).mono ?_
  rintro e w5 ⟨rfl, hb5⟩
  have HP5 := Lib.hid (HP4.out.under hb5)
  clear x0 x1 x2 x3 y0 y1 y2 y3 hb5 HP4
  obtain ⟨x0, x1, x2, x3, y0, y1, y2, y3, _⟩ := HP5.out.s
  by_cases hN0 : N < 0
  · go_wp2_with (go_at_call 27; refine (alive_any _).mono ?_; rintro e w' ⟨rfl, rfl⟩)
    go_ret
    exact ⟨rfl, HP5.out.bel⟩
  by_cases hM0 : M < 0
  · go_wp2_with fail
    refine (CB.out _).mono ?_
    rintro e w6 ⟨rfl, hb6⟩
    have HP6 := Lib.hid (HP5.out.under hb6)
    clear x0 x1 x2 x3 y0 y1 y2 y3 hb6 HP5
    go_wp2_with (go_at_call 27; refine (alive_any _).mono ?_; rintro e w' ⟨rfl, rfl⟩)
    go_ret
    exact ⟨rfl, HP6.out.bel⟩
  have hVA : cValid a = true := by
    cases h : cValid a with
    | true => rfl
    | false => have := cNum_f h; rw [HNE.out] at this; omega
  have hVB : cValid b = true := by
    cases h : cValid b with
    | true => rfl
    | false => have := cNum_f h; rw [HME.out] at this; omega
  have HVA := Lib.hid hVA
  have HVB := Lib.hid hVB
  clear hVA hVB
  have hN0' : 0 ≤ N := by omega
  have hM0' : 0 ≤ M := by omega
  clear hN0 hM0
  go_wp2_with fail
  refine (CB.out _).mono ?_
  rintro e w6 ⟨rfl, hb6⟩
  have HP6 := Lib.hid (HP5.out.under hb6)
  clear x0 x1 x2 x3 y0 y1 y2 y3 hb6 HP5
  go_upto_region 10 with fail
  have hPd : PS w0 X Y a b w6.drew := HP6.out.under (Below.refl _ _).drew
  clear HP6
  by_cases hab : a = b
  · subst hab
    have hNM : M = N := by rw [← HNE.out, ← HME.out]
    subst hNM
    obtain ⟨T, hT⟩ : ∃ T, ctext a = T := ⟨_, rfl⟩
    have CT := Lib.hid (fun w (h : LaidA w) => implCodeText a w h)
    rw [hT] at CT
    have hT2 := Lib.hid hT
    clear hT HNE HME HVA HVB
    go_region_held3 (fun w' => w'.cell? ⟨X, 0, none⟩ = some (.int .i64 a.op) ∧ w'.cell? ⟨X, 1, none⟩ = some (.int .i64 a.a) ∧ w'.cell? ⟨X, 2, none⟩ = some (.int .i64 a.b) ∧ w'.cell? ⟨X, 3, none⟩ = some (.int .i64 a.c) ∧ w'.cell? ⟨Y, 0, none⟩ = some (.int .i64 a.op) ∧ w'.cell? ⟨Y, 1, none⟩ = some (.int .i64 a.a) ∧ w'.cell? ⟨Y, 2, none⟩ = some (.int .i64 a.b) ∧ w'.cell? ⟨Y, 3, none⟩ = some (.int .i64 a.c) ∧ PS w0 X Y a a w') ((exact PS.s (by assumption))) (first | (go_at_call 34; refine (CA.out _).mono ?_; rintro e w' ⟨rfl, hb⟩; have hp := PS.under (by assumption) hb) | (go_at_call 32; refine (CT.out _ (HL.out.below (PS.bel (by assumption)))).mono ?_; rintro e w' ⟨rfl, hb⟩; have hp := PS.under (by assumption) hb))
    all_goals
      have hfin := Lib.hid (PS.bel (w0 := w0) (X := X) (Y := Y) (a := a) (b := a) (by assumption))
      go_wp2
      go_ret
      exact ⟨rfl, hfin.out⟩
  · have e1 : (N == M) = false := by
      rw [beq_eq_false_iff_ne, ← HNE.out, ← HME.out]
      exact fun h => hab (cNum_inj HVA.out HVB.out h)
    obtain ⟨T, hT⟩ : ∃ T, ctext a = T := ⟨_, rfl⟩
    obtain ⟨U, hU⟩ : ∃ U, ctext b = U := ⟨_, rfl⟩
    have CT := Lib.hid (fun w (h : LaidA w) => implCodeText a w h)
    have CU := Lib.hid (fun w (h : LaidA w) => implCodeText b w h)
    rw [hT] at CT
    rw [hU] at CU
    have e2 : (T == U) = false := by
      rw [beq_eq_false_iff_ne, ← hT, ← hU]
      exact fun h => hab (ctext_inj HVA.out HVB.out h)
    clear hT hU HNE HME HVA HVB
    obtain ⟨p, q, r, t⟩ := a
    obtain ⟨p2, q2, r2, t2⟩ := b
    have h4 : p ≠ p2 ∨ (p = p2 ∧ q ≠ q2) ∨ (p = p2 ∧ q = q2 ∧ r ≠ r2) ∨ (p = p2 ∧ q = q2 ∧ r = r2 ∧ t ≠ t2) := by
      by_cases h1 : p = p2
      · by_cases h2 : q = q2
        · by_cases h3 : r = r2
          · exact .inr (.inr (.inr ⟨h1, h2, h3, fun h4 => hab (by rw [h1, h2, h3, h4])⟩))
          · exact .inr (.inr (.inl ⟨h1, h2, h3⟩))
        · exact .inr (.inl ⟨h1, h2⟩)
      · exact .inl h1
    clear hab
    rcases h4 with h | ⟨rfl, h⟩ | ⟨rfl, rfl, h⟩ | ⟨rfl, rfl, rfl, h⟩
    · have e3 := beq_eq_false_iff_ne.2 h
      clear h
      go_region_held3 (fun w' => w'.cell? ⟨X, 0, none⟩ = some (.int .i64 p) ∧ w'.cell? ⟨X, 1, none⟩ = some (.int .i64 q) ∧ w'.cell? ⟨X, 2, none⟩ = some (.int .i64 r) ∧ w'.cell? ⟨X, 3, none⟩ = some (.int .i64 t) ∧ w'.cell? ⟨Y, 0, none⟩ = some (.int .i64 p2) ∧ w'.cell? ⟨Y, 1, none⟩ = some (.int .i64 q2) ∧ w'.cell? ⟨Y, 2, none⟩ = some (.int .i64 r2) ∧ w'.cell? ⟨Y, 3, none⟩ = some (.int .i64 t2) ∧ PS w0 X Y ⟨p, q, r, t⟩ ⟨p2, q2, r2, t2⟩ w') ((exact PS.s (by assumption))) (first | (go_at_call 34; refine (CB.out _).mono ?_; rintro e w' ⟨rfl, hb⟩; have hp := PS.under (by assumption) hb) | (go_at_call_of 32 (Value.agg #[.int .i64 p, .int .i64 q, .int .i64 r, .int .i64 t]); refine (CT.out _ (HL.out.below (PS.bel (by assumption)))).mono ?_; rintro e w' ⟨rfl, hb⟩; have hp := PS.under (by assumption) hb) | (go_at_call 32; refine (CU.out _ (HL.out.below (PS.bel (by assumption)))).mono ?_; rintro e w' ⟨rfl, hb⟩; have hp := PS.under (by assumption) hb))
      all_goals
        have hfin := Lib.hid (PS.bel (w0 := w0) (X := X) (Y := Y) (a := ⟨p, q, r, t⟩) (b := ⟨p2, q2, r2, t2⟩) (by assumption))
        go_wp2
        go_ret
        exact ⟨rfl, hfin.out⟩
    · have e3 := beq_eq_false_iff_ne.2 h
      clear h
      go_region_held3 (fun w' => w'.cell? ⟨X, 0, none⟩ = some (.int .i64 p) ∧ w'.cell? ⟨X, 1, none⟩ = some (.int .i64 q) ∧ w'.cell? ⟨X, 2, none⟩ = some (.int .i64 r) ∧ w'.cell? ⟨X, 3, none⟩ = some (.int .i64 t) ∧ w'.cell? ⟨Y, 0, none⟩ = some (.int .i64 p) ∧ w'.cell? ⟨Y, 1, none⟩ = some (.int .i64 q2) ∧ w'.cell? ⟨Y, 2, none⟩ = some (.int .i64 r2) ∧ w'.cell? ⟨Y, 3, none⟩ = some (.int .i64 t2) ∧ PS w0 X Y ⟨p, q, r, t⟩ ⟨p, q2, r2, t2⟩ w') ((exact PS.s (by assumption))) (first | (go_at_call 34; refine (CB.out _).mono ?_; rintro e w' ⟨rfl, hb⟩; have hp := PS.under (by assumption) hb) | (go_at_call_of 32 (Value.agg #[.int .i64 p, .int .i64 q, .int .i64 r, .int .i64 t]); refine (CT.out _ (HL.out.below (PS.bel (by assumption)))).mono ?_; rintro e w' ⟨rfl, hb⟩; have hp := PS.under (by assumption) hb) | (go_at_call 32; refine (CU.out _ (HL.out.below (PS.bel (by assumption)))).mono ?_; rintro e w' ⟨rfl, hb⟩; have hp := PS.under (by assumption) hb))
      all_goals
        have hfin := Lib.hid (PS.bel (w0 := w0) (X := X) (Y := Y) (a := ⟨p, q, r, t⟩) (b := ⟨p, q2, r2, t2⟩) (by assumption))
        go_wp2
        go_ret
        exact ⟨rfl, hfin.out⟩
    · have e3 := beq_eq_false_iff_ne.2 h
      clear h
      go_region_held3 (fun w' => w'.cell? ⟨X, 0, none⟩ = some (.int .i64 p) ∧ w'.cell? ⟨X, 1, none⟩ = some (.int .i64 q) ∧ w'.cell? ⟨X, 2, none⟩ = some (.int .i64 r) ∧ w'.cell? ⟨X, 3, none⟩ = some (.int .i64 t) ∧ w'.cell? ⟨Y, 0, none⟩ = some (.int .i64 p) ∧ w'.cell? ⟨Y, 1, none⟩ = some (.int .i64 q) ∧ w'.cell? ⟨Y, 2, none⟩ = some (.int .i64 r2) ∧ w'.cell? ⟨Y, 3, none⟩ = some (.int .i64 t2) ∧ PS w0 X Y ⟨p, q, r, t⟩ ⟨p, q, r2, t2⟩ w') ((exact PS.s (by assumption))) (first | (go_at_call 34; refine (CB.out _).mono ?_; rintro e w' ⟨rfl, hb⟩; have hp := PS.under (by assumption) hb) | (go_at_call_of 32 (Value.agg #[.int .i64 p, .int .i64 q, .int .i64 r, .int .i64 t]); refine (CT.out _ (HL.out.below (PS.bel (by assumption)))).mono ?_; rintro e w' ⟨rfl, hb⟩; have hp := PS.under (by assumption) hb) | (go_at_call 32; refine (CU.out _ (HL.out.below (PS.bel (by assumption)))).mono ?_; rintro e w' ⟨rfl, hb⟩; have hp := PS.under (by assumption) hb))
      all_goals
        have hfin := Lib.hid (PS.bel (w0 := w0) (X := X) (Y := Y) (a := ⟨p, q, r, t⟩) (b := ⟨p, q, r2, t2⟩) (by assumption))
        go_wp2
        go_ret
        exact ⟨rfl, hfin.out⟩
    · have e3 := beq_eq_false_iff_ne.2 h
      clear h
      go_region_held3 (fun w' => w'.cell? ⟨X, 0, none⟩ = some (.int .i64 p) ∧ w'.cell? ⟨X, 1, none⟩ = some (.int .i64 q) ∧ w'.cell? ⟨X, 2, none⟩ = some (.int .i64 r) ∧ w'.cell? ⟨X, 3, none⟩ = some (.int .i64 t) ∧ w'.cell? ⟨Y, 0, none⟩ = some (.int .i64 p) ∧ w'.cell? ⟨Y, 1, none⟩ = some (.int .i64 q) ∧ w'.cell? ⟨Y, 2, none⟩ = some (.int .i64 r) ∧ w'.cell? ⟨Y, 3, none⟩ = some (.int .i64 t2) ∧ PS w0 X Y ⟨p, q, r, t⟩ ⟨p, q, r, t2⟩ w') ((exact PS.s (by assumption))) (first | (go_at_call 34; refine (CB.out _).mono ?_; rintro e w' ⟨rfl, hb⟩; have hp := PS.under (by assumption) hb) | (go_at_call_of 32 (Value.agg #[.int .i64 p, .int .i64 q, .int .i64 r, .int .i64 t]); refine (CT.out _ (HL.out.below (PS.bel (by assumption)))).mono ?_; rintro e w' ⟨rfl, hb⟩; have hp := PS.under (by assumption) hb) | (go_at_call 32; refine (CU.out _ (HL.out.below (PS.bel (by assumption)))).mono ?_; rintro e w' ⟨rfl, hb⟩; have hp := PS.under (by assumption) hb))
      all_goals
        have hfin := Lib.hid (PS.bel (w0 := w0) (X := X) (Y := Y) (a := ⟨p, q, r, t⟩) (b := ⟨p, q, r, t2⟩) (by assumption))
        go_wp2
        go_ret
        exact ⟨rfl, hfin.out⟩
namespace fnCodePair
set_option linter.unusedVariables false
set_option maxRecDepth 100000 in
theorem lifted (os : Os) (started : os.Started) (H : Type) (enc : TypeId × Value → H) :
    ReturnsInHanded {} Tryd.checked os 7 .any (fun w args => (Rows.fnCodePairSpec.pre enc Tryd.prog Tryd.f7 [] false w args ∧ laidMetH Tryd.prog laidA w) ∧ sizedMet enc Tryd.prog Tryd.f7 (OpenSpec.ofChange Rows.fnCodePairSpec) false w args) (Rows.fnCodePairSpec.post enc Tryd.prog Tryd.f7 false true false false) := by
  refine handed_and_shaped (C := Tryd.checked) (X := fun w _ => laidMetH Tryd.prog laidA w) (fun _ _ _ hh h => h.of_heap hh) own started (by kernel_rfl) Tryd.func7
    (ChangeSpec.witness_shaped (enc := enc) (C := Tryd.checked) (os := os) (X := fun w _ => laidMetH Tryd.prog laidA w) false (World.laidAll Tryd.prog os laidA) #[.slice none 0 0, .slice none 0 0] 8 (World.laidAll_os _ _ _)
      (World.shaped_of_ZipB (by kernel_rfl) (by kernel_rfl)) (by kernel_rfl) (by kernel_rfl) (by kernel_rfl)
      (by rw [MakeChecks.laidMetH_plain _ _ _ (by kernel_rfl)]; exact laidMet_laidAll _ (by kernel_rfl) (by kernel_rfl))) ?_
  intro W base args ds gs before hval0 hW _ hshape hlaid
  have hval : ∀ (j : Nat) t v, Tryd.f7.params[j]? = some t → args[j]? = some v → Value.okWide Tryd.prog W .any base t v := hval0
  have hW' := hW
  obtain ⟨p, q, hA0, hV, rfl, hfz, hnd⟩ := hW
  have hA : DataW.TrodAll enc Tryd.prog W 0 (fun _ => true) true Tryd.f7.params.toList args.toList ds p := hA0
  rw [Tryd.params7] at hA hval
  obtain ⟨v0, vs0, d0, ds0, p0, q0, hargs, rfl, rfl, h0, r0⟩ := trodAll_cons hA
  obtain ⟨v1, vs1, d1, ds1, p1, q1, rfl, rfl, rfl, h1, r1⟩ := trodAll_cons r0
  obtain ⟨rfl, rfl, rfl⟩ := trodAll_nil r1
  obtain rfl : args = #[v0, v1] := by cases args; simp_all
  obtain ⟨gv, rfl⟩ := vars_one hV
  have k0 := h0
  have lt0 : ∀ x ∈ p0, x.block < W.heap.size := by obtain ⟨m, hm⟩ := k0; exact DataW.trod_lt m _ _ _ hm
  obtain ⟨z0, w0⟩ := open_rdI (kk := .u8) Tryd.underlying32 Tryd.underlying5 (by kernel_rfl) (hval 0 32 v0 rfl rfl) h0
  have k1 := h1
  have lt1 : ∀ x ∈ p1, x.block < W.heap.size := by obtain ⟨m, hm⟩ := k1; exact DataW.trod_lt m _ _ _ hm
  obtain ⟨z1, w1⟩ := open_rdI (kk := .u8) Tryd.underlying32 Tryd.underlying5 (by kernel_rfl) (hval 1 32 v1 rfl rfl) h1
  clear hA0 hval0
  refine (fnCodePair_walk v0 z0 v1 z1 W w0 w1 (laidA_of hlaid)).mono fun e W' ⟨he, bel⟩ => ?_
  subst he
  exact ⟨_, rfl, _, _, _, [], _, _, hW', trodAll_mk1 (shut_bool Tryd.underlying4 _), (trodAll_cons_mk (Below.trod laidOut (by kernel_rfl) (of_decide_eq_true (by kernel_rfl)) k0 bel lt0) (trodAll_cons_mk (Below.trod laidOut (by kernel_rfl) (of_decide_eq_true (by kernel_rfl)) k1 bel lt1) trodAll_mk0)), Below.trodVars laidOut bel varsKept hV, bel.frame _, fun h => by cases h⟩
theorem over : Rows.fnCodePairRow.holds Tryd.pinned (OpenSpec.ofChange Rows.fnCodePairSpec) :=
  OpenClaim.holds_of_wide 7 Tryd.f7 rfl rfl rfl rfl rfl rfl rfl ⟨rfl, rfl, rfl, rfl, rfl⟩ rfl rfl rfl rfl rfl (by kernel_rfl) Tryd.func7 (by kernel_rfl)
    (of_decide_eq_true (by kernel_rfl)) (by unfold Func.isWrapper; first | (rw [if_pos (by decide +kernel)]; kernel_rfl) | (rw [if_neg (by decide +kernel)]; exact ⟨rfl, rfl⟩))
    (fun os started H enc _ => lifted os started H enc)
theorem carded : Rows.FnCodePairCardSaid :=
  Claim7.holds_tied_plain_at .later [] [.data, .data, .data, .widerDeep] true (true, "035660c64568d2cd316fd08c4cbc06c1be121de206d0751e4ebf56ec72942bdf") true over (fun _ h => by cases h) (by kernel_rfl) (fun _ h => by cases h) fnCodePair_row_tie rfl ⟨rfl, rfl⟩ (by kernel_rfl) rfl
    (fun f fn hf hfn => by
      obtain rfl : f = 7 := Option.some.inj ((show Tryd.prog.funcNamed "loop.example/lanekernel/laws.FnCodePair" = some 7 by kernel_rfl).symm.trans hf) |>.symm
      obtain rfl : fn = Tryd.f7 := (Option.some.inj (Tryd.func7.symm.trans hfn)).symm
      exact ⟨by kernel_rfl, fun j t ht => by
        rw [Tryd.params7] at ht
        have hm : t ∈ [32, 32] := by simpa using Array.mem_of_getElem? ht
        have hall : ([32, 32].all fun u => !Tryd.prog.wantsStandIn u) = true := by kernel_rfl
        exact (show Tryd.prog.wantsStandIn t = false by simpa using List.all_eq_true.1 hall t hm)⟩)
    (by kernel_rfl)
end fnCodePair
/-- The given card on FnCodePair. -/
theorem fnCodePair_holds : Rows.FnCodePairCardSaid := fnCodePair.carded
#print axioms fnCodePair_holds
end Go.Proofs.YtidmjeehcmpjnaaDoor
