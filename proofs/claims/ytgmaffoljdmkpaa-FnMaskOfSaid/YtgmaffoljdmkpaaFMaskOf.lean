/- YtgmaffoljdmkpaaFMaskOf: The order and repetitions do not matter; MaskLanes of the mask has exactly the lanes of the list. No conditions. -/
import Derived.Test.YtgmaffoljdmkpaaDrawW
import Derived.Test.YtgmaffoljdmkpaaBitsP
import Derived.Test.YtgmaffoljdmkpaaSameI
import Derived.Test.YtgmaffoljdmkpaaAlive
namespace Go.Proofs.Ytgmaffoljdmkpaa
open Go.ChangeShapes Go.WideShapes Go.ChangeAt Go.RowKit
set_option linter.unusedVariables false
theorem mN_valid {k : Nat} (h1 : 1 ≤ k) (h2 : k ≤ 8) {m : Nat} (h : m < 2 ^ k) : maskValid (m : Int) (k : Int) = true := by
  have hin : inB (k : Int) 1 8 = true := inB_t (by omega)
  rw [maskValid, hin, maskAll_in hin, Bool.true_and, Int.toNat_natCast]
  have : ((m : Nat) : Int) < ((2 ^ k : Nat) : Int) := by omega
  rw [pow_cast] at this
  exact inB_t (by omega)
theorem mN_hit {ys : List Nat} {y : Nat} (h : y ∈ ys) : ((mN 0 ys : Nat) : Int) / 2 ^ y % 2 = 1 := by
  have h1 := mN_bit ys 0 y
  rw [Nat.zero_testBit, Bool.false_or, decide_eq_true h, Nat.testBit_eq_decide_div_mod_eq, decide_eq_true_eq] at h1
  rw [← pow_cast]
  omega
theorem nodup_le : ∀ (a b : List Nat), a.Nodup → (∀ x ∈ a, x ∈ b) → a.length ≤ b.length := by
  intro a
  induction a with
  | nil => intro b _ _; simp
  | cons x r ih =>
    intro b hd hs
    rw [List.nodup_cons] at hd
    have hx := hs x (List.mem_cons_self ..)
    have h2 := ih (b.erase x) hd.2 (fun y hy => (List.mem_erase_of_ne (fun e => hd.1 (by rw [← e]; exact hy))).2 (hs y (List.mem_cons_of_mem _ hy)))
    rw [List.length_erase_of_mem hx] at h2
    have : 0 < b.length := List.length_pos_of_mem hx
    simp only [List.length_cons]
    omega
theorem lanes_count {k : Nat} (hk : k ≤ 8) (ys : List Nat) : (lanesL ((mN 0 ys : Nat) : Int) k).length ≤ ys.length := by
  unfold lanesL
  rw [List.length_map]
  refine nodup_le _ _ (List.nodup_range.filter _) fun x hx => ?_
  have hb := (List.mem_filter.1 hx).2
  have h1 := mN_bit ys 0 x
  rw [Nat.zero_testBit, Bool.false_or, Nat.testBit_eq_decide_div_mod_eq] at h1
  have h2 : mN 0 ys / 2 ^ x % 2 = 1 := by
    unfold bitB at hb
    rw [← pow_cast, beq_iff_eq] at hb
    omega
  rw [decide_eq_true h2] at h1
  simpa using h1.symm
theorem mOfFrom_dich {l : Int} : ∀ (xs : List Int) (m : Int), mOfFrom l m xs = -1 ∨ ∀ x ∈ xs, 0 ≤ x ∧ x ≤ l - 1 := by
  intro xs
  induction xs with
  | nil => intro m; right; simp
  | cons y r ih =>
    intro m
    rw [mOfFrom]
    split
    · rename_i hy
      rcases ih (bits .or .i64 m (2 ^ y.toNat)) with h | h
      · exact .inl h
      · right
        intro x hx
        rcases List.mem_cons.1 hx with rfl | hx
        · exact inB_i hy
        · exact h x hx
    · exact .inl rfl
theorem mOf_neg {xs : List Int} {l : Int} (h : ¬ 0 ≤ mOf xs l) : mOf xs l = -1 := by
  unfold mOf at h ⊢
  split at h
  · rename_i hl
    rw [if_pos hl]
    have hb := inB_i hl
    rcases mOfFrom_dich (l := l) xs 0 with h0 | h0
    · exact h0
    · exfalso
      apply h
      have e : xs = (xs.map Int.toNat).map (fun (x : Nat) => (x : Int)) := by
        rw [List.map_map]
        conv => lhs; rw [← List.map_id xs]
        apply List.map_congr_left
        intro x hm
        have := h0 x hm
        show x = ((x.toNat : Nat) : Int)
        omega
      have hy : ∀ y ∈ xs.map Int.toNat, y < l.toNat := by
        intro y hy
        obtain ⟨x, hm, rfl⟩ := List.mem_map.1 hy
        have := h0 x hm
        omega
      have h2 := mOfFrom_nat (l := l.toNat) (by omega) (xs.map Int.toNat) hy 0 (Nat.two_pow_pos _)
      rw [← e, Int.toNat_of_nonneg (by omega)] at h2
      have h3 : mOfFrom l 0 xs = ((mN 0 (xs.map Int.toNat) : Nat) : Int) := h2
      rw [h3]; omega
  · rename_i hl
    rw [if_neg hl]
set_option maxHeartbeats 4000000 in
theorem fnMaskOf_walk (v : Value) (bs : List Int) (w0 : World) (h : RdI .u8 w0 v bs) : Calls Try.prog 12 #[v] w0 fun e w' => e = .returned (.bool true) ∧ Below w0.heap.size w0 w' := by
  obtain ⟨ad, c, hv, hlc, hcm⟩ := h.shape
  subst hv
  have hB0 := Below.refl w0.heap.size w0
  by_cases hn : bs.length ≤ 1048576
  · go_enter Try.func12, Try.ntmps12
    go_wp2_with fail
    refine (DrawMaskOf_any _ bs _ h).mono ?_
    rintro e w1 ⟨v1, xs, l, rfl, ho1, hxl, hxb, hl1, hl2, hB1⟩
    have hwx : ∀ x ∈ xs, (Lit.int .i64 x).wf = true := fun x hx => WalkArith.wf_i64 (by have := hxb x hx; omega)
    have hr1 := rdI_of_owns ho1 hwx
    go_wp2_with fail
    refine (implMaskOf _ _ _ _ hr1).mono ?_
    rintro e w2 ⟨rfl, hb2⟩
    have hB2 := hB1.trans (hb2.mono hB1.size)
    have hr2 := hr1.below hb2 (Nat.le_refl _)
    go_wp2_with fail
    refine (specMaskOf _ _ _ _ hr2).mono ?_
    rintro e w' ⟨rfl, rfl⟩
    by_cases hx : 0 ≤ mOf xs l
    · obtain ⟨k, ys, rfl, hk1, hk2, rfl, hyk, hm⟩ := mOf_nat hx
      have hmb := mN_lt ys hyk 0 (Nat.two_pow_pos _)
      have hp8 : 2 ^ k ≤ 2 ^ 8 := Nat.pow_le_pow_right (by decide) hk2
      have hmv : maskValid ((mN 0 ys : Nat) : Int) (k : Int) = true := mN_valid hk1 hk2 hmb
      have hlc := lanes_count hk2 ys
      have hls := implMaskLanes ((mN 0 ys : Nat) : Int) (k : Int)
      rw [hmv, if_pos rfl, Int.toNat_natCast] at hls
      rw [hm]
      obtain ⟨M, hM⟩ : ∃ M, M = mN 0 ys := ⟨_, rfl⟩
      rw [← hM] at hmb hmv hls hlc ⊢
      have HLS := Lib.hid hls
      have HLC := Lib.hid hlc
      have HM := Lib.hid hM
      clear hls hlc hM hm hx
      obtain ⟨a2, c2, bk, off, hv1, hlc2, hm2, hbk, hcell⟩ := hr2.form
      subst hv1
      have hlen : (ys.map (fun (x : Nat) => (x : Int))).length = ys.length := by simp
      have hys : ys.length ≤ 8 := by rw [← hlen]; exact hxl
      rw [hlen] at hlc2 ⊢
      go_wp2_with fail
      have hz2 := hB2.size
      have hoE : (w2.alloc (.cells #[] 3)).ownsRow w2.heap.size 3 1 (.slice (some ⟨w2.heap.size, 0, none⟩) 0 0) 0 [] := World.ownsRow_lit w2 #[] 0 (Nat.le_refl _) (by decide) rfl
      have hbE : Below w2.heap.size w2 (w2.alloc (.cells #[] 3)) := (Below.refl _ _).alloc (Nat.le_refl _) _
      go_loopg [6, 7] ys.length (fun g u i wr => g ≤ ys.length ∧ i = .int .i64 ((g : Int) - 1) ∧ Below w2.heap.size w2 wr ∧ ∃ ts : List Nat, wr.ownsRow w2.heap.size 3 1 u ts.length (ts.map (fun (x : Nat) => Value.int .i64 (x : Int))) ∧ ts.length = 2 * (ys.length - g) ∧ ∀ y, y ∈ ts ↔ y ∈ ys.drop g)
      case atStart => exact ⟨Nat.le_refl _, rfl, hbE, [], hoE, by simp, by simp⟩
      case round =>
        clear hoE hbE
        obtain ⟨hg, rfl, hbl, ts, ho, htl, hts⟩ := hrel
        by_cases hlt : 0 < gk
        · obtain ⟨j, rfl⟩ : ∃ j, gk = j + 1 := ⟨gk - 1, by omega⟩
          obtain ⟨y, hy⟩ := get_lt (show j < ys.length by omega)
          obtain ⟨rfl, hc⟩ := hcell j (y : Int) (by simp [hy])
          have hyk2 := hyk y (List.mem_of_getElem? hy)
          have hne : ys.map (fun (x : Nat) => (x : Int)) ≠ [] := by intro hh; have := congrArg List.length hh; simp at this; rw [this] at hy; simp at hy
          have hc2 : wr.cell? ⟨bk, off + j, none⟩ = some (.int .i64 (y : Int)) := (hbl.cell (hbk hne)).trans hc
          have hbit : ((M : Nat) : Int) / 2 ^ y % 2 = 1 := by rw [HM.out]; exact mN_hit (List.mem_of_getElem? hy)
          have hnn : 0 ≤ ((M : Nat) : Int) / 2 ^ y := Int.ediv_nonneg (by omega) (Int.le_of_lt (Int.pow_pos (by decide)))
          have hi1 : ((j + 1 : Nat) : Int) - 1 = (j : Int) := by omega
          rw [hi1]
          have hdr := drop_cons hy
          have hts2 : ∀ z, z ∈ ts ++ [y, y] ↔ z ∈ ys.drop j := by
            intro z
            rw [hdr, List.mem_append, hts z]
            simp only [List.mem_cons, List.not_mem_nil, or_false, or_self]
            exact Or.comm
          have HT := Lib.hid hts2
          have hzr := hbl.size
          have hbkl := hbk hne
          have hjl : j < ys.length := by omega
          have hj0 : 0 ≤ (j : Int) ∧ (j : Int) < (ys.length : Int) := by omega
          clear hcell hts hts2 hdr hy hi1 hne hbk
          go_wp2
          go_region_law (refine step_appN wr.drew rfl _ _ 30 3 rfl _ 1 8 2 [.int .i64 (y : Int), .int .i64 (y : Int)] (.int .i64 0) Try.underlying30 infoInt rfl (by decide) rfl (by intro u hu; simp at hu; subst hu; rfl) _ _ _ ho.drew rfl rfl (by omega) (by omega) (by simp; omega) ?_; intro v' w' ho' hw' hbb')
          all_goals
            have hb3 : Below w2.heap.size w2 w' := hbb' _ _ (Nat.le_refl _) hbl.drew
            have ho3 : w'.ownsRow w2.heap.size 3 1 v' (ts ++ [y, y]).length ((ts ++ [y, y]).map (fun (x : Nat) => Value.int .i64 (x : Int))) := by simpa using ho'
            have hc3 : w'.cell? ⟨bk, off + j, none⟩ = some (.int .i64 (y : Int)) := (hb3.cell hbkl).trans hc
            clear ho ho' hw' hbb' hbl hc hc2
            go_wp2
            go_roundg j
            case measure => omega
            case rel => exact ⟨by omega, by go_num, hb3, ts ++ [y, y], ho3, by simp; omega, HT.out⟩
        · obtain rfl : gk = 0 := by omega
          rw [List.drop_zero] at hts
          have hty : ∀ y ∈ ts, y < k := fun y hy => hyk y ((hts y).1 hy)
          have hMt := mOf_of_nat hk1 hk2 hty
          rw [mN_same hts, ← HM.out] at hMt
          have HMT := Lib.hid hMt
          have hrt : RdI .i64 wr u6 (ts.map (fun (x : Nat) => (x : Int))) := rdI_of_owns (base := w2.heap.size) (e := 3) (by rw [List.length_map, List.map_map]; exact ho) (by
            intro x hx
            obtain ⟨y, hy, rfl⟩ := List.mem_map.1 hx
            have := hty y hy
            exact WalkArith.wf_i64 (by omega))
          have hBr := hB2.trans (hbl.mono hz2)
          clear hMt ho hts hty hcell hyk
          go_wp2_with fail
          refine (implMaskOf _ _ _ _ hrt).mono ?_
          rintro e w4 ⟨rfl, hb4⟩
          have hB4 := hBr.trans (hb4.mono hBr.size)
          rw [HMT.out]
          clear hrt
          go_wp2_with fail
          refine (HLS.out _).mono ?_
          rintro e w5 ⟨v5, rfl, ho5, hb5⟩
          obtain ⟨a5, c5, rfl⟩ := own_shape ho5
          have hB5 := hB4.trans (hb5.mono hB4.size)
          have hcnt := HLC.out
          clear ho5
          have hrn : RdI .i64 w5 (.slice none 0 0) [] := ⟨⟨rfl, none, 0, rfl, Nat.le_refl _, by simp [maxLen], fun h => absurd h (by simp)⟩, by simp⟩
          have hn0 : mOf [] (k : Int) = 0 := by rw [mOf, if_pos (inB_t (by omega))]; rfl
          go_wp2_with fail
          refine (implMaskOf _ _ _ _ hrn).mono ?_
          rintro e w6 ⟨rfl, hb6⟩
          rw [hn0]
          go_wp2
          go_ret
          exact ⟨rfl, hB5.trans (hb6.mono hB5.size)⟩
    · have hneg := mOf_neg hx
      clear ho1 hr1 hr2 hxb
      rw [hneg]
      go_wp2_with (go_at_call 18; refine (alive_any _).mono ?_; rintro e w' ⟨rfl, rfl⟩)
      go_ret
      exact ⟨rfl, hB2⟩
  · go_enter Try.func12, Try.ntmps12
    go_wp2
    go_ret
    exact ⟨rfl, hB0⟩
namespace fnMaskOf
set_option linter.unusedVariables false
set_option maxRecDepth 100000 in
theorem lifted (os : Os) (started : os.Started) (H : Type) (enc : TypeId × Value → H) :
    ReturnsInHanded {} Try.checked os 12 .any (Rows.fnMaskOfSpec.pre6 enc Try.prog Try.f12 Rows.fnMaskOfRow.domain false) (Rows.fnMaskOfSpec.post enc Try.prog Try.f12 false true false false) := by
  refine returnsInHanded_of_change (C := Try.checked) own started (by kernel_rfl) Try.func12
    (ChangeSpec.witness6 (enc := enc) (C := Try.checked) false ⟨#[], #[.slice none 0 0], []⟩ 8 (by kernel_rfl) (by kernel_rfl) (by kernel_rfl) (by kernel_rfl)) ?_
  intro W base args ds gs before hval0 hW hcnd _
  have hval : ∀ (j : Nat) t v, Try.f12.params[j]? = some t → args[j]? = some v → Value.okWide Try.prog W .any base t v := hval0
  have hW' := hW
  obtain ⟨p, q, hA0, hV, rfl, hfz, hnd⟩ := hW
  have hA : DataW.TrodAll enc Try.prog W 0 (fun _ => true) true Try.f12.params.toList args.toList ds p := hA0
  rw [Try.params12] at hA hval
  obtain ⟨v0, vs0, d0, ds0, p0, q0, hargs, rfl, rfl, h0, r0⟩ := trodAll_cons hA
  obtain ⟨rfl, rfl, rfl⟩ := trodAll_nil r0
  obtain rfl : args = #[v0] := by cases args; simp_all
  obtain ⟨rfl, rfl⟩ := trodVars_none hV
  have k0 := h0
  have lt0 : ∀ x ∈ p0, x.block < W.heap.size := by obtain ⟨m, hm⟩ := k0; exact DataW.trod_lt m _ _ _ hm
  obtain ⟨z0, w0⟩ := open_rdI (kk := .u8) Try.underlying22 Try.underlying5 (by kernel_rfl) (hval 0 22 v0 rfl rfl) h0
  clear hA0 hval0
  refine (fnMaskOf_walk v0 z0 W w0).mono fun e W' ⟨he, bel⟩ => ?_
  subst he
  exact ⟨_, rfl, _, _, _, [], _, [], hW', trodAll_mk1 (shut_bool Try.underlying4 _), (trodAll_cons_mk (Below.trod laidOut (by kernel_rfl) (of_decide_eq_true (by kernel_rfl)) k0 bel lt0) trodAll_mk0), rfl, bel.frame _, fun h => by cases h⟩
theorem over : Rows.fnMaskOfRow.holds Try.pinned (OpenSpec.ofChange Rows.fnMaskOfSpec) :=
  OpenClaim.holds_of_wide 12 Try.f12 rfl rfl rfl rfl rfl rfl rfl ⟨rfl, rfl, rfl, rfl, rfl⟩ rfl rfl rfl rfl rfl (by kernel_rfl) Try.func12 (by kernel_rfl)
    (of_decide_eq_true (by kernel_rfl)) (by unfold Func.isWrapper; first | (rw [if_pos (by decide +kernel)]; kernel_rfl) | (rw [if_neg (by decide +kernel)]; exact ⟨rfl, rfl⟩))
    (fun os started H enc _ => lifted os started H enc)
end fnMaskOf
/-- The given statement on FnMaskOf. -/
theorem fnMaskOf_holds : Rows.FnMaskOfSaid := fnMaskOf.over
#print axioms fnMaskOf_holds
end Go.Proofs.Ytgmaffoljdmkpaa
