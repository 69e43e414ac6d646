/- YtgmaffoljdmkpaaFMaskLanes: The lanes ascend, and MaskOf of them is the mask. No conditions. -/
import Derived.Test.YtgmaffoljdmkpaaDrawV
import Derived.Test.YtgmaffoljdmkpaaMaskOf
import Derived.Test.YtgmaffoljdmkpaaSameI
import Derived.Test.YtgmaffoljdmkpaaAlive
namespace Go.Proofs.Ytgmaffoljdmkpaa
open Go.ChangeShapes Go.WideShapes Go.ChangeAt Go.RowKit
set_option linter.unusedVariables false
theorem asc_all : ∀ l : Nat, l < 9 → ∀ m : Nat, m < 2 ^ l → (∀ k, k < 8 → k + 1 < (lanesL (m : Int) l).length → (lanesL (m : Int) l).getD k 0 < (lanesL (m : Int) l).getD (k + 1) 0) ∧ (1 ≤ l → mOf (lanesL (m : Int) l) (l : Int) = (m : Int)) := by decide +kernel
theorem lanes_facts (m l : Int) : (∀ x ∈ (if maskValid m l then lanesL m l.toNat else []), (Lit.int .i64 x).wf = true) ∧ (if maskValid m l then lanesL m l.toNat else []).length ≤ 8 ∧ (maskValid m l = false → (if maskValid m l then lanesL m l.toNat else []) = []) ∧
    (maskValid m l = true → (∀ k x y, (if maskValid m l then lanesL m l.toNat else [])[k]? = some x → (if maskValid m l then lanesL m l.toNat else [])[k + 1]? = some y → x < y) ∧ mOf (if maskValid m l then lanesL m l.toNat else []) l = m) := by
  cases hv : maskValid m l
  · simp
  · obtain ⟨h1, h2, h3, h4⟩ := maskValid_i hv
    have hl := lanesL_le m l.toNat
    refine ⟨by simpa using lanesL_wf m (by omega), by simp; omega, by simp, fun _ => ?_⟩
    obtain ⟨k, rfl⟩ : ∃ k : Nat, l = k := ⟨l.toNat, by omega⟩
    obtain ⟨j, rfl⟩ : ∃ j : Nat, m = j := ⟨m.toNat, by omega⟩
    rw [Int.toNat_natCast] at h4 hl
    have h5 : ((j : Nat) : Int) < ((2 ^ k : Nat) : Int) := by simpa using h4
    obtain ⟨f1, f2⟩ := asc_all k (by omega) j (by omega)
    simp only [if_true, Int.toNat_natCast]
    refine ⟨fun i x y hx hy => ?_, f2 (by omega)⟩
    have hi := (List.getElem?_eq_some_iff.1 hy).1
    have := f1 i (by omega) hi
    rw [List.getD, List.getD, hx, hy] at this
    exact this
set_option maxHeartbeats 4000000 in
theorem fnMaskLanes_walk (v : Value) (bs : List Int) (w0 : World) (h : RdI .u8 w0 v bs) : Calls Try.prog 13 #[v] w0 fun e w' => e = .returned (.bool true) ∧ Below w0.heap.size w0 w' := by
  obtain ⟨ad, c, hv, hlc, hcm⟩ := h.shape
  subst hv
  have hB0 := Below.refl w0.heap.size w0
  by_cases hn : bs.length ≤ 1048576
  · go_enter Try.func13, Try.ntmps13
    go_wp2_with fail
    refine (DrawMaskLanes_any _ bs _ h).mono ?_
    rintro e w1 ⟨a, b, rfl, ha1, ha2, hb1, hb2, hB1⟩
    obtain ⟨L, hL⟩ : ∃ L, L = (if maskValid a b then lanesL a b.toNat else []) := ⟨_, rfl⟩
    have hs : ∀ w, Calls Try.prog 44 #[.int .i64 a, .int .i64 b] w (NewI w L) := by rw [hL]; exact specMaskLanes a b
    have hi : ∀ w, Calls Try.prog 41 #[.int .i64 a, .int .i64 b] w (NewI w L) := by rw [hL]; exact implMaskLanes a b
    have hf := lanes_facts a b
    rw [← hL] at hf
    obtain ⟨hwf, hlen, hinv, hval⟩ := hf
    have HS := Lib.hid hs
    have HI := Lib.hid hi
    clear hL hs hi
    go_wp2_with fail
    refine (HI.out _).mono ?_
    rintro e w2 ⟨v2, rfl, ho2, hb2⟩
    have hB2 := hB1.trans (hb2.mono hB1.size)
    go_wp2_with fail
    refine (HS.out _).mono ?_
    rintro e w3 ⟨v3, rfl, ho3, hb3⟩
    have hB3 := hB2.trans (hb3.mono hB2.size)
    have hr2 := rdI_of_owns ho2 hwf
    go_wp2_with fail
    refine (sameInts_same _ _ L _ (hr2.below hb3 (Nat.le_refl _)) (rdI_of_owns ho3 hwf)).mono ?_
    rintro e w4 ⟨rfl, hb4⟩
    have hB4 := hB3.trans (hb4.mono hB3.size)
    have hr4 := (hr2.below hb3 (Nat.le_refl _)).below hb4 (Nat.le_refl _)
    obtain ⟨a2, c2, hv2⟩ := own_shape ho2
    subst hv2
    clear ho2 ho3 hr2
    cases hv : maskValid a b
    · have h0 := hinv hv
      subst h0
      go_wp2_with (first | (go_at_call 17; refine (specMaskValid _ _ _).mono ?_; rintro e w' ⟨rfl, rfl⟩) | (go_at_call 18; refine (alive_any _).mono ?_; rintro e w' ⟨rfl, rfl⟩))
      go_ret
      exact ⟨rfl, hB4⟩
    · go_wp2_with (go_at_call 17; refine (specMaskValid _ _ _).mono ?_; rintro e w' ⟨rfl, rfl⟩)
      obtain ⟨hasc, hmof⟩ := hval hv
      have HM := Lib.hid hmof
      obtain ⟨ad4, c4, bk, off, hsl, hlc4, hm4, hbk, hcell⟩ := hr4.form
      cases hsl
      go_loopg [6] L.length (fun g i wr => ∃ k : Nat, k + g = L.length ∧ i = .int .i64 (k + 1) ∧ Below w4.heap.size w4 wr)
      case atStart => exact ⟨0, by omega, rfl, Below.refl _ _⟩
      case round =>
        obtain ⟨k, hk, rfl, hbl⟩ := hrel
        by_cases hlt : k + 1 < L.length
        · obtain ⟨x, hx⟩ := get_lt (show k < L.length by omega)
          obtain ⟨y, hy⟩ := get_lt hlt
          obtain ⟨rfl, hc1⟩ := hcell k x hx
          obtain ⟨_, hc2⟩ := hcell (k + 1) y hy
          have hxy := hasc k x y hx hy
          have hne : L ≠ [] := by rintro rfl; simp at hlt
          have hc3 : wr.cell? ⟨bk, off + k, none⟩ = some (.int .i64 x) := (hbl.cell (hbk hne)).trans hc1
          have hc4 : wr.cell? ⟨bk, off + (k + 1), none⟩ = some (.int .i64 y) := (hbl.cell (hbk hne)).trans hc2
          clear hcell hc1 hc2 hx hy hasc hval
          go_wp2
          go_quiet (fail)
          go_wp2
          go_roundg (L.length - (k + 1))
          case measure => omega
          case rel => exact ⟨k + 1, by omega, by go_num, ⟨hbl.os, hbl.tape, hbl.output, hbl.size, hbl.block⟩⟩
        · have hr5 := hr4.below hbl (Nat.le_refl _)
          have hB5 := hB4.trans (hbl.mono hB4.size)
          clear hcell hasc hval
          go_wp2_with fail
          refine (implMaskOf _ _ _ _ hr5).mono ?_
          rintro e w6 ⟨rfl, hb6⟩
          rw [HM.out]
          go_wp2
          go_ret
          exact ⟨rfl, hB5.trans (hb6.mono hB5.size)⟩
  · go_enter Try.func13, Try.ntmps13
    go_wp2
    go_ret
    exact ⟨rfl, hB0⟩
namespace fnMaskLanes
set_option linter.unusedVariables false
set_option maxRecDepth 100000 in
theorem lifted (os : Os) (started : os.Started) (H : Type) (enc : TypeId × Value → H) :
    ReturnsInHanded {} Try.checked os 13 .any (Rows.fnMaskLanesSpec.pre6 enc Try.prog Try.f13 Rows.fnMaskLanesRow.domain false) (Rows.fnMaskLanesSpec.post enc Try.prog Try.f13 false true false false) := by
  refine returnsInHanded_of_change (C := Try.checked) own started (by kernel_rfl) Try.func13
    (ChangeSpec.witness6 (enc := enc) (C := Try.checked) false ⟨#[], #[.slice none 0 0], []⟩ 8 (by kernel_rfl) (by kernel_rfl) (by kernel_rfl) (by kernel_rfl)) ?_
  intro W base args ds gs before hval0 hW hcnd _
  have hval : ∀ (j : Nat) t v, Try.f13.params[j]? = some t → args[j]? = some v → Value.okWide Try.prog W .any base t v := hval0
  have hW' := hW
  obtain ⟨p, q, hA0, hV, rfl, hfz, hnd⟩ := hW
  have hA : DataW.TrodAll enc Try.prog W 0 (fun _ => true) true Try.f13.params.toList args.toList ds p := hA0
  rw [Try.params13] at hA hval
  obtain ⟨v0, vs0, d0, ds0, p0, q0, hargs, rfl, rfl, h0, r0⟩ := trodAll_cons hA
  obtain ⟨rfl, rfl, rfl⟩ := trodAll_nil r0
  obtain rfl : args = #[v0] := by cases args; simp_all
  obtain ⟨rfl, rfl⟩ := trodVars_none hV
  have k0 := h0
  have lt0 : ∀ x ∈ p0, x.block < W.heap.size := by obtain ⟨m, hm⟩ := k0; exact DataW.trod_lt m _ _ _ hm
  obtain ⟨z0, w0⟩ := open_rdI (kk := .u8) Try.underlying22 Try.underlying5 (by kernel_rfl) (hval 0 22 v0 rfl rfl) h0
  clear hA0 hval0
  refine (fnMaskLanes_walk v0 z0 W w0).mono fun e W' ⟨he, bel⟩ => ?_
  subst he
  exact ⟨_, rfl, _, _, _, [], _, [], hW', trodAll_mk1 (shut_bool Try.underlying4 _), (trodAll_cons_mk (Below.trod laidOut (by kernel_rfl) (of_decide_eq_true (by kernel_rfl)) k0 bel lt0) trodAll_mk0), rfl, bel.frame _, fun h => by cases h⟩
theorem over : Rows.fnMaskLanesRow.holds Try.pinned (OpenSpec.ofChange Rows.fnMaskLanesSpec) :=
  OpenClaim.holds_of_wide 13 Try.f13 rfl rfl rfl rfl rfl rfl rfl ⟨rfl, rfl, rfl, rfl, rfl⟩ rfl rfl rfl rfl rfl (by kernel_rfl) Try.func13 (by kernel_rfl)
    (of_decide_eq_true (by kernel_rfl)) (by unfold Func.isWrapper; first | (rw [if_pos (by decide +kernel)]; kernel_rfl) | (rw [if_neg (by decide +kernel)]; exact ⟨rfl, rfl⟩))
    (fun os started H enc _ => lifted os started H enc)
end fnMaskLanes
/-- The given statement on FnMaskLanes. -/
theorem fnMaskLanes_holds : Rows.FnMaskLanesSaid := fnMaskLanes.over
#print axioms fnMaskLanes_holds
end Go.Proofs.Ytgmaffoljdmkpaa
