/- YtgmaffoljdmkpaaFWordSum: The sum of the reversed list is the same, and that of two parts is the sum of their sums. No conditions. -/
import Derived.Test.YtgmaffoljdmkpaaDrawV
import Derived.Test.YtgmaffoljdmkpaaBitsP
import Derived.Test.YtgmaffoljdmkpaaSameI
import Derived.Test.YtgmaffoljdmkpaaAlive
namespace Go.Proofs.Ytgmaffoljdmkpaa
open Go.ChangeShapes Go.WideShapes Go.ChangeAt Go.RowKit
set_option linter.unusedVariables false
theorem below_drewN (B : Nat) (w : World) (n : Nat) : Below B w (w.drewN n) := ⟨rfl, rfl, rfl, Nat.le_refl _, fun _ _ => rfl⟩
theorem rdI_drewN {k : IntKind} {w : World} {v : Value} {xs : List Int} (h : RdI k w v xs) (n : Nat) : RdI k (w.drewN n) v xs := h.below (below_drewN w.heap.size w n) (Nat.le_refl _)
theorem RdI.sub {k : IntKind} {w : World} {b off n c : Nat} {xs : List Int} (h : RdI k w (.slice (some ⟨b, off, none⟩) n c) xs) {i j : Nat} (hij : i ≤ j) (hj : j ≤ n) : RdI k w (.slice (some ⟨b, off + i, none⟩) (j - i) (c - i)) ((xs.take j).drop i) := by
  obtain ⟨⟨h1, a, c', hv, h3, h4, h5⟩, hw⟩ := h
  simp only [Value.slice.injEq] at hv
  obtain ⟨rfl, rfl, rfl⟩ := hv
  have hl : ((xs.take j).drop i).length = j - i := by simp; omega
  refine ⟨⟨by simp, some ⟨b, off + i, none⟩, c - i, ?_, ?_, by unfold maxLen at h4 ⊢; omega, fun hp => ?_⟩, fun x hx => hw x (List.mem_of_mem_take (List.mem_of_mem_drop hx))⟩
  · rw [hl]
  · rw [hl]; omega
  · obtain ⟨b', off', hb, hlt, hc⟩ := h5 (by rw [hl] at hp; omega)
    simp only [Option.some.injEq, Addr.mk.injEq, and_true] at hb
    obtain ⟨rfl, rfl⟩ := hb
    refine ⟨b, off + i, rfl, hlt, fun t u hu => ?_⟩
    have ht : t < j - i := by have := (List.getElem?_eq_some_iff.1 hu).1; rw [List.length_map, hl] at this; exact this
    rw [Nat.add_assoc]
    refine hc (i + t) u ?_
    rw [← hu, List.getElem?_map, List.getElem?_map, List.getElem?_drop, List.getElem?_take, if_pos (by omega)]
set_option maxHeartbeats 4000000 in
theorem fnWordSum_walk (v : Value) (bs : List Int) (w0 : World) (h : RdI .u8 w0 v bs) : Calls Try.prog 10 #[v] w0 fun e w' => e = .returned (.bool true) ∧ Below w0.heap.size w0 w' := by
  obtain ⟨ad, c, hv, hlc, hcm⟩ := h.shape
  subst hv
  have hB0 := Below.refl w0.heap.size w0
  by_cases hn : bs.length ≤ 1048576
  · go_enter Try.func10, Try.ntmps10
    go_wp2_with fail
    refine (DrawWordSum_any _ bs _ h).mono ?_
    rintro e w1 ⟨v1, rfl, ⟨xs, ho1, hxl, hxb⟩, hB1⟩
    have hwx : ∀ x ∈ xs, (Lit.int .i64 x).wf = true := fun x hx => WalkArith.wf_i64 (by have := hxb x hx; omega)
    have hr1 := rdI_of_owns ho1 hwx
    go_wp2_with fail
    refine (implWordSum _ _ _ hr1).mono ?_
    rintro e w' ⟨rfl, rfl⟩
    go_wp2_with fail
    refine (specWordSum _ _ _ hr1).mono ?_
    rintro e w' ⟨rfl, rfl⟩
    by_cases hs : 0 ≤ wSum xs
    · by_cases hx0 : xs = []
      · subst hx0
        have e0 : wSum [] = 0 := rfl
        have hnil : ∀ W a c, c ≤ 9223372036854775807 → RdI .i64 W (.slice a 0 c) [] := fun W a c hc => ⟨⟨rfl, a, c, rfl, Nat.zero_le _, by unfold maxLen; omega, fun h => absurd h (by decide)⟩, by simp⟩
        have hadd : wAdd 0 0 = 0 := rfl
        have hbE : Below w1.heap.size w1 (w1.alloc (.cells #[] 3)) := (Below.refl _ _).alloc (Nat.le_refl _) _
        rcases ho1.2 with ⟨hv1, _⟩ | ⟨g, cap, cur, hv1, _, _, _, hcm1, _⟩
        all_goals
          subst hv1
          clear ho1 hr1
        · rw [e0]
          go_wp2_with fail
          refine wp_loop_rounds 1 ?_
          rw [rounds_succ]
          go_wp2_with fail
          go_quiet ((first | (go_at_call 35; exact Calls.quiet_of_same ((implWordSum _ [] _ (hnil _ _ _ (by omega))).mono fun _ _ ⟨h1, h2⟩ => ⟨h1, h2.symm⟩)) | (go_at_call 20; exact Calls.quiet_of_same ((implWordAdd _ _ _).mono fun _ _ ⟨h1, h2⟩ => ⟨h1, h2.symm⟩))))
          go_wp2
          go_ret
          exact ⟨rfl, hB1.trans ((hbE.trans (below_drewN _ _ _)).mono hB1.size)⟩
        · have hcm2 : cap ≤ 9223372036854775807 := by unfold maxLen at hcm1; omega
          rw [e0]
          go_wp2_with fail
          refine wp_loop_rounds 1 ?_
          rw [rounds_succ]
          go_wp2_with fail
          go_quiet ((first | (go_at_call 35; exact Calls.quiet_of_same ((implWordSum _ [] _ (hnil _ _ _ (by omega))).mono fun _ _ ⟨h1, h2⟩ => ⟨h1, h2.symm⟩)) | (go_at_call 20; exact Calls.quiet_of_same ((implWordAdd _ _ _).mono fun _ _ ⟨h1, h2⟩ => ⟨h1, h2.symm⟩))))
          go_wp2
          go_ret
          exact ⟨rfl, hB1.trans ((hbE.trans (below_drewN _ _ _)).mono hB1.size)⟩
      · rcases ho1.2 with ⟨_, hz⟩ | ⟨g, cap, cur, hv1, _, hgg, hnc, hcm1, _⟩
        · exact absurd (List.eq_nil_of_length_eq_zero hz) hx0
        subst hv1
        have hcm2 : cap ≤ 9223372036854775807 := by unfold maxLen at hcm1; omega
        have hn1 : 1 ≤ xs.length := List.length_pos_iff.2 hx0
        have hglt := (Array.getElem?_eq_some_iff.1 hgg).1
        have hcell := ho1.cellAt
        have e1 := wSum_reverse xs
        have e4 := wSum_parts (xs := xs.take (xs.length / 2)) (ys := xs.drop (xs.length / 2)) (by rw [List.take_append_drop]; exact hs)
        rw [List.take_append_drop] at e4
        have hhalf : ¬ cap = xs.length / 2 := by omega
        have hT : RdI .i64 w1 (.slice (some ⟨g, 0, none⟩) (xs.length / 2) cap) (xs.take (xs.length / 2)) := by simpa using hr1.sub (i := 0) (j := xs.length / 2) (Nat.zero_le _) (by omega)
        have hDr : RdI .i64 w1 (.slice (some ⟨g, xs.length / 2, none⟩) (xs.length - xs.length / 2) (cap - xs.length / 2)) (xs.drop (xs.length / 2)) := by simpa using hr1.sub (i := xs.length / 2) (j := xs.length) (by omega) (Nat.le_refl _)
        obtain ⟨N, hN⟩ : ∃ N, wSum xs = N := ⟨_, rfl⟩
        rw [hN] at e1 e4 hs ⊢
        have E1 := Lib.hid e1
        have E4 := Lib.hid e4
        have hbE : Below w1.heap.size w1 (w1.alloc (.cells #[] 3)) := (Below.refl _ _).alloc (Nat.le_refl _) _
        have hoE : (w1.alloc (.cells #[] 3)).ownsRow w1.heap.size 3 1 (.slice (some ⟨w1.heap.size, 0, none⟩) 0 0) 0 [] := World.ownsRow_lit w1 #[] 0 (Nat.le_refl _) (by decide) rfl
        clear hN e1 e4 hr1 ho1 hgg
        go_wp2_with fail
        go_loopg [5, 6] xs.length (fun q u i wr => q ≤ xs.length ∧ i = .int .i64 ((q : Int) - 1) ∧ Below w1.heap.size w1 wr ∧ wr.ownsRow w1.heap.size 3 1 u ((xs.drop q).reverse).length (((xs.drop q).reverse).map (Value.int .i64)))
        case atStart => exact ⟨Nat.le_refl _, rfl, hbE, by simpa using hoE⟩
        case round =>
          clear hbE hoE
          obtain ⟨hq, rfl, hbl, ho⟩ := hrel
          have hzr := hbl.size
          by_cases hlt : 0 < gk
          · obtain ⟨j, rfl⟩ : ∃ j, gk = j + 1 := ⟨gk - 1, by omega⟩
            obtain ⟨x, hx⟩ := get_lt (show j < xs.length by omega)
            have hc : wr.cell? ⟨g, j, none⟩ = some (.int .i64 x) := (hbl.cell (p := ⟨g, j, none⟩) hglt).trans (by rw [hcell j (by omega)]; simp [hx])
            have hrev : (xs.drop j).reverse = (xs.drop (j + 1)).reverse ++ [x] := by rw [drop_cons hx, List.reverse_cons]
            have HR := Lib.hid hrev
            have hi1 : ((j + 1 : Nat) : Int) - 1 = (j : Int) := by omega
            have hll : ((xs.drop (j + 1)).reverse).length ≤ 8 := by simp; omega
            have hjl : j < xs.length := by omega
            rw [hi1]
            clear hcell hrev hx hi1 hT hDr
            go_wp2_with (at_builtin; refine wpList_app1 _ rfl _ _ 30 3 rfl _ 1 8 [.int .i64 x] (.int .i64 0) Try.underlying30 infoInt rfl (by decide) rfl (by intro u hu; simp at hu; subst hu; rfl) _ _ _ ho rfl rfl (by omega) (by omega) (by omega) ?_)
            intro v' w' ho' hw' hbb'
            have hb2 := hbb' _ _ (Nat.le_refl _) hbl
            have ho2 : w'.ownsRow w1.heap.size 3 1 v' ((xs.drop j).reverse).length (((xs.drop j).reverse).map (Value.int .i64)) := by rw [HR.out]; exact own_snoc (by simpa using ho')
            clear ho ho' hw' hbb' hbl hc
            go_wp2
            go_roundg j
            case measure => omega
            case rel => exact ⟨by omega, by go_num, hb2, ho2⟩
          · obtain rfl : gk = 0 := by omega
            have hru : RdI .i64 wr u5 xs.reverse := by
              have := rdI_of_owns ho (fun x hx => hwx x (by simpa using hx))
              simpa using this
            have hTr := hT.below hbl (Nat.le_refl _)
            have hDrr := hDr.below hbl (Nat.le_refl _)
            have e1 := E1.out
            have e4 := E4.out
            have hBr := hB1.trans (hbl.mono hB1.size)
            clear ho hT hDr hcell hbl
            go_wp2_with fail
            go_quiet ((first | (go_at_call 35; (first | with_reducible exact Calls.quiet_of_same ((implWordSum _ _ _ (rdI_drewN hru _)).mono fun _ _ ⟨h1, h2⟩ => ⟨h1, h2.symm⟩) | with_reducible exact Calls.quiet_of_same ((implWordSum _ _ _ (rdI_drewN hTr _)).mono fun _ _ ⟨h1, h2⟩ => ⟨h1, h2.symm⟩) | with_reducible exact Calls.quiet_of_same ((implWordSum _ _ _ (rdI_drewN hDrr _)).mono fun _ _ ⟨h1, h2⟩ => ⟨h1, h2.symm⟩))) | (go_at_call 20; exact Calls.quiet_of_same ((implWordAdd _ _ _).mono fun _ _ ⟨h1, h2⟩ => ⟨h1, h2.symm⟩))))
            go_wp2
            go_ret
            exact ⟨rfl, hBr.trans ((below_drewN _ _ _).mono hBr.size)⟩
    · have hneg := wSum_neg hs
      clear ho1 hr1 hxb
      rw [hneg]
      go_wp2_with (go_at_call 18; refine (alive_any _).mono ?_; rintro e w' ⟨rfl, rfl⟩)
      go_ret
      exact ⟨rfl, hB1⟩
  · go_enter Try.func10, Try.ntmps10
    go_wp2
    go_ret
    exact ⟨rfl, hB0⟩
namespace fnWordSum
set_option linter.unusedVariables false
set_option maxRecDepth 100000 in
theorem lifted (os : Os) (started : os.Started) (H : Type) (enc : TypeId × Value → H) :
    ReturnsInHanded {} Try.checked os 10 .any (Rows.fnWordSumSpec.pre6 enc Try.prog Try.f10 Rows.fnWordSumRow.domain false) (Rows.fnWordSumSpec.post enc Try.prog Try.f10 false true false false) := by
  refine returnsInHanded_of_change (C := Try.checked) own started (by kernel_rfl) Try.func10
    (ChangeSpec.witness6 (enc := enc) (C := Try.checked) false ⟨#[], #[.slice none 0 0], []⟩ 8 (by kernel_rfl) (by kernel_rfl) (by kernel_rfl) (by kernel_rfl)) ?_
  intro W base args ds gs before hval0 hW hcnd _
  have hval : ∀ (j : Nat) t v, Try.f10.params[j]? = some t → args[j]? = some v → Value.okWide Try.prog W .any base t v := hval0
  have hW' := hW
  obtain ⟨p, q, hA0, hV, rfl, hfz, hnd⟩ := hW
  have hA : DataW.TrodAll enc Try.prog W 0 (fun _ => true) true Try.f10.params.toList args.toList ds p := hA0
  rw [Try.params10] at hA hval
  obtain ⟨v0, vs0, d0, ds0, p0, q0, hargs, rfl, rfl, h0, r0⟩ := trodAll_cons hA
  obtain ⟨rfl, rfl, rfl⟩ := trodAll_nil r0
  obtain rfl : args = #[v0] := by cases args; simp_all
  obtain ⟨rfl, rfl⟩ := trodVars_none hV
  have k0 := h0
  have lt0 : ∀ x ∈ p0, x.block < W.heap.size := by obtain ⟨m, hm⟩ := k0; exact DataW.trod_lt m _ _ _ hm
  obtain ⟨z0, w0⟩ := open_rdI (kk := .u8) Try.underlying22 Try.underlying5 (by kernel_rfl) (hval 0 22 v0 rfl rfl) h0
  clear hA0 hval0
  refine (fnWordSum_walk v0 z0 W w0).mono fun e W' ⟨he, bel⟩ => ?_
  subst he
  exact ⟨_, rfl, _, _, _, [], _, [], hW', trodAll_mk1 (shut_bool Try.underlying4 _), (trodAll_cons_mk (Below.trod laidOut (by kernel_rfl) (of_decide_eq_true (by kernel_rfl)) k0 bel lt0) trodAll_mk0), rfl, bel.frame _, fun h => by cases h⟩
theorem over : Rows.fnWordSumRow.holds Try.pinned (OpenSpec.ofChange Rows.fnWordSumSpec) :=
  OpenClaim.holds_of_wide 10 Try.f10 rfl rfl rfl rfl rfl rfl rfl ⟨rfl, rfl, rfl, rfl, rfl⟩ rfl rfl rfl rfl rfl (by kernel_rfl) Try.func10 (by kernel_rfl)
    (of_decide_eq_true (by kernel_rfl)) (by unfold Func.isWrapper; first | (rw [if_pos (by decide +kernel)]; kernel_rfl) | (rw [if_neg (by decide +kernel)]; exact ⟨rfl, rfl⟩))
    (fun os started H enc _ => lifted os started H enc)
end fnWordSum
/-- The given statement on FnWordSum. -/
theorem fnWordSum_holds : Rows.FnWordSumSaid := fnWordSum.over
#print axioms fnWordSum_holds
end Go.Proofs.Ytgmaffoljdmkpaa
