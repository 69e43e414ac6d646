/- YthhdffgfldphlaaFLaneValid: A valid lane with a turn more is invalid; behind the end of the program it is invalid. No conditions. -/
import Derived.Test.YthhdffgfldphlaaDrawT
import Derived.Test.YthhdffgfldphlaaLaneX
import Derived.Test.YthhdffgfldphlaaAppM
import Derived.Test.YthhdffgfldphlaaAlive
namespace Go.Proofs.Ythhdffgfldphlaa
open Go.ChangeShapes Go.WideShapes Go.ChangeAt Go.RowKit
set_option linter.unusedVariables false
theorem lValid_turn {l : Ln} {cs : List Cd} (h : lValid l cs = true) : lValid ⟨l.regs, l.pc, l.turns ++ [0], l.waits⟩ cs = false := by
  unfold lValid at h ⊢
  simp only [Bool.and_eq_true] at h ⊢
  obtain ⟨_, _, _, _, h5, _⟩ := h
  have hl := ((turnsB_iff cs _ _).1 h5).1
  have hf : turnsB cs (l.turns ++ [0]) (loopsAt cs l.pc.toNat) = false := by
    cases hb : turnsB cs (l.turns ++ [0]) (loopsAt cs l.pc.toNat) with
    | false => rfl
    | true =>
      have := ((turnsB_iff cs _ _).1 hb).1
      rw [List.length_append] at this
      simp at this
      omega
  simp [hf]
theorem lValid_end {l : Ln} {cs : List Cd} : lValid ⟨l.regs, cs.length + 1, l.turns, l.waits⟩ cs = false := by
  unfold lValid
  have hf : inB ((cs.length : Int) + 1) 0 cs.length = false := inB_f (by omega)
  simp [hf]
/-- What the law has in memory. -/
structure LL (w0 : World) (B X : Nat) (r t lv : Value) (l : Ln) (cs : List Cd) (w : World) : Prop where
  bel : Below w0.heap.size w0 w
  x : Box4 w X r (.int .i64 l.pc) t (.bool l.waits)
  nr : OwI B w r l.regs
  nt : OwI B w t l.turns
  ol : w.ownsRow B 41 4 lv cs.length (cdCells cs)
  xb : w0.heap.size ≤ X
  up : ∀ k, r.ownBlock = some k ∨ t.ownBlock = some k ∨ lv.ownBlock = some k → k < X
theorem LL.below {w0 : World} {B X : Nat} {r t lv : Value} {l : Ln} {cs : List Cd} {w w' : World} (h : LL w0 B X r t lv l cs w) (hb : Below w.heap.size w w') : LL w0 B X r t lv l cs w' :=
  ⟨h.bel.trans (hb.mono h.bel.size), h.x.below hb (Nat.le_refl _), OwI.below h.nr hb, OwI.below h.nt hb, owns_below h.ol hb (Nat.le_refl _), h.xb, h.up⟩
theorem LL.set {w0 : World} {B X : Nat} {r t lv : Value} {l : Ln} {cs : List Cd} {w : World} (h : LL w0 B X r t lv l cs w) {A : Nat} (hA : X < A) (j : Nat) (v : Value) : LL w0 B X r t lv l cs (w.setCell ⟨A, j, none⟩ v) := by
  have hw := Wr_set0 w A j v
  have hx := h.xb
  have hu := h.up
  exact ⟨Below.wr h.bel hw h.bel.size (fun k hk => by omega), h.x.wr hw (by omega), hw.owns h.nr (fun k hk hh => by have := hu k (.inl hk); omega), hw.owns h.nt (fun k hk hh => by have := hu k (.inr (.inl hk)); omega), hw.owns h.ol (fun k hk hh => by have := hu k (.inr (.inr hk)); omega), h.xb, h.up⟩
set_option maxRecDepth 100000 in
set_option maxHeartbeats 8000000 in
theorem fnLaneValid_walk (v : Value) (bs : List Int) (w0 : World) (h : RdI .u8 w0 v bs) : Calls Try.prog 3 #[v] w0 fun e w' => e = .returned (.bool true) ∧ Below w0.heap.size w0 w' := by
  obtain ⟨ad, c, hv, hlc, hcm⟩ := h.shape
  subst hv
  have hB0 := Below.refl w0.heap.size w0
  by_cases hn : bs.length ≤ 1048576
  rotate_left
  · go_enter Try.func3, Try.ntmps3
    go_wp2
    go_ret
    exact ⟨rfl, hB0⟩
  go_enter Try.func3, Try.ntmps3
  go_wp2_with fail
  refine (DrawLaneValid_any _ bs _ h).mono ?_
  rintro e w1 ⟨r, t, lv, mv, l, cs, ms, id, rfl, hD⟩
  obtain ⟨ra, rc, hrv⟩ := own_shape hD.nr
  obtain ⟨ta, tc, htv⟩ := own_shape hD.nt
  obtain ⟨la, lc, hlv⟩ := own_shape hD.ol
  subst hrv htv hlv
  have hXA := Box4.new w1 (.slice ra l.regs.length rc) (.int .i64 l.pc) (.slice ta l.turns.length tc) (.bool l.waits) 25
  have hA := below_alloc w1 (.cells #[.slice ra l.regs.length rc, .int .i64 l.pc, .slice ta l.turns.length tc, .bool l.waits] 25)
  have hLL : LL w0 w0.heap.size w1.heap.size (.slice ra l.regs.length rc) (.slice ta l.turns.length tc) (.slice la cs.length lc) l cs (w1.alloc (.cells #[.slice ra l.regs.length rc, .int .i64 l.pc, .slice ta l.turns.length tc, .bool l.waits] 25)) :=
    ⟨hD.bl.trans (hA.mono hD.bl.size), hXA, OwI.below hD.nr hA, OwI.below hD.nt hA, owns_below hD.ol hA (Nat.le_refl _), hD.bl.size, fun k hk => by
      rcases hk with hk | hk | hk
      · exact own_lt hD.nr k hk
      · exact own_lt hD.nt k hk
      · exact own_lt hD.ol k hk⟩
  have HR := Lib.hid (fun x hx => far_wf (hD.li.1 x hx))
  have HT := Lib.hid (fun x hx => far_wf (hD.li.2.1 x hx))
  have HC := Lib.hid (fun x hx => (hD.ci x hx).wf)
  have htl := hD.len.2
  have hcl := hD.cl
  clear h hA hD hXA
  go_upto_region 4 with fail
  revert hLL
  generalize w1.alloc _ = wA
  generalize w1.heap.size = X
  intro hLL
  have HLL := Lib.hid hLL
  clear hLL
  obtain ⟨b, hb⟩ : ∃ b, lValid l cs = b := ⟨_, rfl⟩
  have c1 := implLaneValid _ _ _ l cs wA (rdI_of_owns HLL.out.nr HR.out) (rdI_of_owns HLL.out.nt HT.out) (rdC_of_owns HLL.out.ol HC.out)
  have c2 := fun w2 (hw : LL w0 w0.heap.size X (.slice ra l.regs.length rc) (.slice ta l.turns.length tc) (.slice la cs.length lc) l cs w2) => specLaneValid _ _ _ l cs w2 (rdI_of_owns hw.nr HR.out) (rdI_of_owns hw.nt HT.out) (rdC_of_owns hw.ol HC.out)
  rw [hb] at c1
  simp only [hb] at c2
  have HB := Lib.hid hb
  have C1 := Lib.hid c1
  have C2 := Lib.hid c2
  clear hb c1 c2
  obtain ⟨x0, x1, x2, x3, x4⟩ := HLL.out.x
  go_wp2_with fail
  refine C1.out.mono ?_
  rintro e w2 ⟨rfl, hb2⟩
  have HL2 := Lib.hid (HLL.out.below hb2)
  clear x0 x1 x2 x3 x4 hb2 HLL C1
  obtain ⟨x0, x1, x2, x3, x4⟩ := HL2.out.x
  go_wp2_with fail
  refine (C2.out _ HL2.out).mono ?_
  rintro e w3 ⟨rfl, hb3⟩
  have HL3 := Lib.hid (HL2.out.below hb3)
  clear x0 x1 x2 x3 x4 hb3 HL2 C2
  obtain ⟨x0, x1, x2, x3, x4⟩ := HL3.out.x
  have hYA := Box4.new w3 (.slice ra l.regs.length rc) (.int .i64 l.pc) (.slice ta l.turns.length tc) (.bool l.waits) 25
  have hFA : ∀ o, (w3.alloc (.cells #[.slice ra l.regs.length rc, .int .i64 l.pc, .slice ta l.turns.length tc, .bool l.waits] 25)).frozen? ⟨w3.heap.size, o, none⟩ = false := fun o => frozen_of_row _ w3.heap.size o _ _ (heap_alloc_new w3 _)
  have hL4 := HL3.out.below (below_alloc w3 (.cells #[.slice ra l.regs.length rc, .int .i64 l.pc, .slice ta l.turns.length tc, .bool l.waits] 25))
  have hXA : X < w3.heap.size := x4
  have hA0 : w0.heap.size ≤ w3.heap.size := HL3.out.bel.size
  go_upto_region 8 with fail
  clear x0 x1 x2 x3 x4 HL3
  revert hYA hFA hL4
  generalize w3.alloc _ = wa
  generalize w3.heap.size = A at *
  intro hYA hFA hL4
  have hbE := below_alloc wa (.cells #[] 3)
  have hE := OwI.lit wa wa.heap.size (Nat.le_refl _)
  have HL4 := Lib.hid hL4
  have HY4 := Lib.hid hYA
  have HF4 := Lib.hid hFA
  have HT5 := Lib.hid (OwI.below hL4.nt hbE)
  have HE := Lib.hid hE
  have HBE := Lib.hid hbE
  obtain ⟨x0, x1, x2, x3, x4⟩ := hL4.x.below hbE (Nat.le_refl _)
  have hzE : wa.heap.size < (wa.alloc (.cells #[] 3)).heap.size := by simp
  clear hYA hFA hL4 hbE hE
  go_wp2_with (at_builtin; refine wpList_app2w _ rfl _ _ 23 3 rfl _ _ 1 8 (.int .i64 0) Try.underlying23 infoInt rfl (by decide) _ _ _ _ _ _ HE.out (by simp) HT5.out (oneI2 _) rfl rfl (by simp; omega) (by simp; omega) (Nat.le_of_lt hzE) ?_)
  intro v6 w6 ho6 hw6 hwh6
  have HB6 := Lib.hid (Below.wr HBE.out hw6 (Nat.le_of_lt hzE) (fun k hk => by cases hk; exact Nat.le_refl _))
  have HO6 := Lib.hid ho6
  have hz6 := HB6.out.size
  obtain ⟨a6, c6, hv6⟩ := own_shape ho6
  subst hv6
  clear ho6 hw6 hwh6 x0 x1 x2 x3 x4 HE HT5 HBE hzE
  go_wp2_with (at_builtin; refine wpList_app1 _ rfl _ _ 23 3 rfl _ 1 8 [.int .i64 0] (.int .i64 0) Try.underlying23 infoInt rfl (by decide) rfl (by intro u hu; simp at hu; subst hu; rfl) _ _ _ HO6.out rfl rfl (by omega) (by omega) (by omega) ?_)
  intro v7 w7 ho7 hw7 hbw7
  have hb7 := hbw7 wa.heap.size wa (Nat.le_refl _) HB6.out
  obtain ⟨a7, c7, hv7⟩ := own_shape ho7
  subst hv7
  have hL7 := HL4.out.below hb7
  have hY7 := HY4.out.below hb7 (Nat.le_refl _)
  have hAw := HY4.out.lt
  have f2 := (hb7.frozen (p := ⟨A, 2, none⟩) hAw).trans (HF4.out 2)
  have HL8 := Lib.hid (hL7.set hXA 2 (.slice a7 (l.turns.length + 1) c7))
  have HY8 := Lib.hid (hY7.s2 (.slice a7 (l.turns.length + 1) c7))
  have HO8 := Lib.hid ((Wr_set0 w7 A 2 (.slice a7 (l.turns.length + 1) c7)).owns ho7 (fun k hk hh => by have := own_ge ho7 k hk; omega))
  have y2 := hY7.at2
  clear ho7 hw7 hbw7 hb7 hL7 hY7 HL4 HY4 HF4 HB6 HO6 hz6
  go_upto_region 9 with fail
  clear y2 f2
  generalize w7.setCell _ _ = w8 at *
  have hbl := below_alloc w8 (.cells #[.slice ra l.regs.length rc, .int .i64 (cs.length + 1), .slice ta l.turns.length tc, .bool l.waits] 25)
  have HL9 := Lib.hid (HL8.out.below hbl)
  have HY9 := Lib.hid (HY8.out.below hbl (Nat.le_refl _))
  have hO9 := owns_below HO8.out hbl (Nat.le_refl _)
  have hO9' : (w8.alloc (.cells #[.slice ra l.regs.length rc, .int .i64 (cs.length + 1), .slice ta l.turns.length tc, .bool l.waits] 25)).ownsRow wa.heap.size 3 1 (.slice a7 (l.turns.length + 1) c7) (l.turns ++ [0]).length ((l.turns ++ [0]).map (Value.int .i64)) := by
    rw [List.length_append, List.map_append]; exact hO9
  have ht2 : ∀ x ∈ l.turns ++ [0], (Lit.int .i64 x).wf = true := fun x hx => by
    rcases List.mem_append.1 hx with hx | hx
    · exact HT.out x hx
    · simp only [List.mem_singleton] at hx; subst hx; rfl
  have hc1 := implLaneValid _ _ _ ⟨l.regs, l.pc, l.turns ++ [0], l.waits⟩ cs _ (rdI_of_owns HL9.out.nr HR.out) (rdI_of_owns hO9' ht2) (rdC_of_owns HL9.out.ol HC.out)
  have hc2 := fun w (hw : LL w0 w0.heap.size X (.slice ra l.regs.length rc) (.slice ta l.turns.length tc) (.slice la cs.length lc) l cs w) => implLaneValid _ _ _ ⟨l.regs, cs.length + 1, l.turns, l.waits⟩ cs w (rdI_of_owns hw.nr HR.out) (rdI_of_owns hw.nt HT.out) (rdC_of_owns hw.ol HC.out)
  simp only [lValid_end] at hc2
  have hxb := Box4.new w8 (.slice ra l.regs.length rc) (.int .i64 (cs.length + 1)) (.slice ta l.turns.length tc) (.bool l.waits) 25
  have HXB := Lib.hid hxb
  obtain ⟨x0, x1, x2, x3, x4⟩ := HL8.out.x
  have hkl : (cs.length : Int) + 1 ≤ 9223372036854775807 := by omega
  cases b with
  | false =>
    clear hc1 hc2 hO9 hO9' hbl HXB hxb
    go_wp2_with (go_at_call 7; refine (alive_any _).mono ?_; rintro e w' ⟨rfl, rfl⟩)
    go_ret
    exact ⟨rfl, HL9.out.bel⟩
  | true =>
    rw [lValid_turn HB.out] at hc1
    have HC1 := Lib.hid hc1
    have HC2 := Lib.hid hc2
    clear hc1 hc2 hO9 hO9' hbl hxb HB
    obtain ⟨z0, z1, z2, z3, z4⟩ := HY9.out
    go_wp2_with fail
    refine HC1.out.mono ?_
    rintro e wb ⟨rfl, hbb⟩
    have HLb := Lib.hid (HL9.out.below hbb)
    have hXb := HXB.out.below hbb (Nat.le_refl _)
    clear z0 z1 z2 z3 z4 x0 x1 x2 x3 x4 hbb
    obtain ⟨z0, z1, z2, z3, z4⟩ := hXb
    go_wp2_with fail
    refine (HC2.out _ HLb.out).mono ?_
    rintro e wd ⟨rfl, hbd⟩
    have HLd := Lib.hid (HLb.out.below hbd)
    clear z0 z1 z2 z3 z4 hbd
    go_wp2_with (go_at_call 7; refine (alive_any _).mono ?_; rintro e w' ⟨rfl, rfl⟩)
    go_ret
    exact ⟨rfl, HLd.out.bel⟩
namespace fnLaneValid
set_option linter.unusedVariables false
set_option maxRecDepth 100000 in
theorem lifted (os : Os) (started : os.Started) (H : Type) (enc : TypeId × Value → H) :
    ReturnsInHanded {} Try.checked os 3 .any (Rows.fnLaneValidSpec.pre6 enc Try.prog Try.f3 Rows.fnLaneValidRow.domain false) (Rows.fnLaneValidSpec.post enc Try.prog Try.f3 false true false false) := by
  refine returnsInHanded_of_change (C := Try.checked) own started (by kernel_rfl) Try.func3
    (ChangeSpec.witness6 (enc := enc) (C := Try.checked) false ⟨#[], #[.slice none 0 0], []⟩ 8 (by kernel_rfl) (by kernel_rfl) (by kernel_rfl) (by kernel_rfl)) ?_
  intro W base args ds gs before hval0 hW hcnd _
  have hval : ∀ (j : Nat) t v, Try.f3.params[j]? = some t → args[j]? = some v → Value.okWide Try.prog W .any base t v := hval0
  have hW' := hW
  obtain ⟨p, q, hA0, hV, rfl, hfz, hnd⟩ := hW
  have hA : DataW.TrodAll enc Try.prog W 0 (fun _ => true) true Try.f3.params.toList args.toList ds p := hA0
  rw [Try.params3] at hA hval
  obtain ⟨v0, vs0, d0, ds0, p0, q0, hargs, rfl, rfl, h0, r0⟩ := trodAll_cons hA
  obtain ⟨rfl, rfl, rfl⟩ := trodAll_nil r0
  obtain rfl : args = #[v0] := by cases args; simp_all
  obtain ⟨rfl, rfl⟩ := trodVars_none hV
  have k0 := h0
  have lt0 : ∀ x ∈ p0, x.block < W.heap.size := by obtain ⟨m, hm⟩ := k0; exact DataW.trod_lt m _ _ _ hm
  obtain ⟨z0, w0⟩ := open_rdI (kk := .u8) Try.underlying22 Try.underlying5 (by kernel_rfl) (hval 0 22 v0 rfl rfl) h0
  clear hA0 hval0
  refine (fnLaneValid_walk v0 z0 W w0).mono fun e W' ⟨he, bel⟩ => ?_
  subst he
  exact ⟨_, rfl, _, _, _, [], _, [], hW', trodAll_mk1 (shut_bool Try.underlying4 _), (trodAll_cons_mk (Below.trod laidOut (by kernel_rfl) (of_decide_eq_true (by kernel_rfl)) k0 bel lt0) trodAll_mk0), rfl, bel.frame _, fun h => by cases h⟩
theorem over : Rows.fnLaneValidRow.holds Try.pinned (OpenSpec.ofChange Rows.fnLaneValidSpec) :=
  OpenClaim.holds_of_wide 3 Try.f3 rfl rfl rfl rfl rfl rfl rfl ⟨rfl, rfl, rfl, rfl, rfl⟩ rfl rfl rfl rfl rfl (by kernel_rfl) Try.func3 (by kernel_rfl)
    (of_decide_eq_true (by kernel_rfl)) (by unfold Func.isWrapper; first | (rw [if_pos (by decide +kernel)]; kernel_rfl) | (rw [if_neg (by decide +kernel)]; exact ⟨rfl, rfl⟩))
    (fun os started H enc _ => lifted os started H enc)
end fnLaneValid
/-- The given statement on FnLaneValid. -/
theorem fnLaneValid_holds : Rows.FnLaneValidSaid := fnLaneValid.over
#print axioms fnLaneValid_holds
end Go.Proofs.Ythhdffgfldphlaa
