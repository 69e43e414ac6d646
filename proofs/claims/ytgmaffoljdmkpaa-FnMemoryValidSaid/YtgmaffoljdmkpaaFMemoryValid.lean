/- YtgmaffoljdmkpaaFMemoryValid: A valid memory with the value 256 in a further cell is invalid. No conditions. -/
import Derived.Test.YtgmaffoljdmkpaaDrawMem
import Derived.Test.YtgmaffoljdmkpaaMaskOf
import Derived.Test.YtgmaffoljdmkpaaSameI
import Derived.Test.YtgmaffoljdmkpaaAlive
namespace Go.Proofs.Ytgmaffoljdmkpaa
open Go.ChangeShapes Go.WideShapes Go.ChangeAt Go.RowKit
set_option linter.unusedVariables false
theorem below_drewN (B : Nat) (w : World) (n : Nat) : Below B w (w.drewN n) := ⟨rfl, rfl, rfl, Nat.le_refl _, fun _ _ => rfl⟩
theorem rdI_drewN {k : IntKind} {w : World} {v : Value} {xs : List Int} (h : RdI k w v xs) (n : Nat) : RdI k (w.drewN n) v xs := h.below (below_drewN w.heap.size w n) (Nat.le_refl _)
theorem RdI.sub {k : IntKind} {w : World} {b off n c : Nat} {xs : List Int} (h : RdI k w (.slice (some ⟨b, off, none⟩) n c) xs) {i j : Nat} (hij : i ≤ j) (hj : j ≤ n) : RdI k w (.slice (some ⟨b, off + i, none⟩) (j - i) (c - i)) ((xs.take j).drop i) := by
  obtain ⟨⟨h1, a, c', hv, h3, h4, h5⟩, hw⟩ := h
  simp only [Value.slice.injEq] at hv
  obtain ⟨rfl, rfl, rfl⟩ := hv
  have hl : ((xs.take j).drop i).length = j - i := by simp; omega
  refine ⟨⟨by simp, some ⟨b, off + i, none⟩, c - i, ?_, ?_, by unfold maxLen at h4 ⊢; omega, fun hp => ?_⟩, fun x hx => hw x (List.mem_of_mem_take (List.mem_of_mem_drop hx))⟩
  · rw [hl]
  · rw [hl]; omega
  · obtain ⟨b', off', hb, hlt, hc⟩ := h5 (by rw [hl] at hp; omega)
    simp only [Option.some.injEq, Addr.mk.injEq, and_true] at hb
    obtain ⟨rfl, rfl⟩ := hb
    refine ⟨b, off + i, rfl, hlt, fun t u hu => ?_⟩
    have ht : t < j - i := by have := (List.getElem?_eq_some_iff.1 hu).1; rw [List.length_map, hl] at this; exact this
    rw [Nat.add_assoc]
    refine hc (i + t) u ?_
    rw [← hu, List.getElem?_map, List.getElem?_map, List.getElem?_drop, List.getElem?_take, if_pos (by omega)]
theorem memValid_256 (xs : List Int) : memValid (xs ++ [256]) = false := by
  have : (xs ++ [256]).any (fun x => !inB x 0 255) = true := by rw [List.any_append]; simp [inB]
  rw [memValid, this]; simp
theorem memValid_pos {xs : List Int} (h : memValid xs = true) : 1 ≤ xs.length := by
  rw [memValid, Bool.and_eq_true] at h
  have := inB_i h.1
  omega
theorem memValid_take {xs : List Int} (h : memValid xs = true) : memValid (xs.take 1) = true := by
  have hp := memValid_pos h
  rw [memValid, Bool.and_eq_true] at h
  have hl : (xs.take 1).length = 1 := by simp; omega
  have ha : (xs.take 1).any (fun x => !inB x 0 255) = false := by
    rw [List.any_eq_false]
    intro x hx
    have h2 := h.2
    rw [Bool.not_eq_true', List.any_eq_false] at h2
    exact h2 x (List.mem_of_mem_take hx)
  rw [memValid, ha, hl]; rfl
theorem wpList_want {ops : Array Oper} {rest : List Oper} {o : Oper} {a : Act} {w : World} {Q : Exit → Act → World → Prop} (hw : Region.wanted o (yielded ops a.tmps) = true) (h : o.wp Try.prog a w (wpList Try.prog ops Q rest) Q) : wpList Try.prog ops Q (o :: rest) a w := by
  unfold wpList; rw [if_pos hw]; exact .inl h
theorem wpList_app1g {ops : Array Oper} {rest : List Oper} {o : Oper} {a : Act} {Q : Exit → Act → World → Prop} (w : World) (hgd : Region.wanted o (yielded ops a.tmps) = true) (s x : Operand) (T E : TypeId) (ho : o.op = .call { callee := .builtin .append, args := #[s, x], argTypes := #[T, T] })
    (base sz bytes : Nat) (us : List Value) (z : Value) (ht : Try.prog.underlying T = some (.slice E)) (hinfo : (Try.prog.info? E).map (fun i => (i.zero, i.size, i.bytes)) = some (some z, sz, bytes)) (hz : z.cells.size = sz) (hsz : 0 < sz) (hus : us.length = sz) (h1 : ∀ u ∈ us, u.oneCell' = true)
    (v : Value) (n : Nat) (xs : List Value) (hown : w.ownsRow base E sz v n xs) (hs : a.eval s = v) (hx : a.eval x = .slice (some ⟨w.heap.size, 0, none⟩) 1 1) (h63 : n + 1 ≤ 9223372036854775807) (hb : (n + 1) * bytes ≤ 140737488355328) (hbase : base ≤ w.heap.size)
    (h : ∀ v' w', w'.ownsRow base E sz v' (n + 1) (xs ++ us) → Wr w w' (fun b => v.ownBlock = some b) → (∀ B w0, B ≤ base → Below B w0 w → Below B w0 w') → wpList Try.prog ops Q rest (a.put o.dst v') w') :
    wpList Try.prog ops Q (o :: rest) a (w.alloc (.cells us.toArray E)) := by
  obtain ⟨i, hi, hz0, hz1, hz2⟩ := info_parts hinfo
  refine wpList_want hgd (wp_append_own _ s x T ho base E i z sz bytes ht hi hz0 hz1 hz2 hz hsz v n xs hs (hown.alloc _) ⟨w.heap.size, 0, none⟩ 1 1 us hx (by omega) ?_ h1 (by unfold maxLen; omega) hb (by simp; omega) ?_)
  · intro j u hj
    rw [Addr.add_lit, Nat.zero_add, cell_of_row _ w.heap.size j us.toArray E (0, 0) (heap_alloc_new w _)]
    simpa using hj
  · intro v' w' ho2 hg _
    have hw : Wr w w' (fun b => v.ownBlock = some b) := (Wr.of_below ((Below.refl _ _).alloc (Nat.le_refl _) _)).trans (Wr.of_grown hg)
    refine h v' w' ho2 hw fun B w0 hB hb0 => ?_
    refine Below.wr hb0 hw (by omega) fun k hk => ?_
    have := (hown.lt k hk).1
    omega
theorem wpList_app2g {ops : Array Oper} {rest : List Oper} {o : Oper} {a : Act} {Q : Exit → Act → World → Prop} (w : World) (hgd : Region.wanted o (yielded ops a.tmps) = true) (s x : Operand) (T E : TypeId) (ho : o.op = .call { callee := .builtin .append, args := #[s, x], argTypes := #[T, T] })
    (base base2 sz bytes : Nat) (z : Value) (ht : Try.prog.underlying T = some (.slice E)) (hinfo : (Try.prog.info? E).map (fun i => (i.zero, i.size, i.bytes)) = some (some z, sz, bytes)) (hz : z.cells.size = sz) (hsz : 0 < sz)
    (v vs : Value) (n m : Nat) (xs ys : List Value) (hown : w.ownsRow base E sz v n xs) (hsrc : w.ownsRow base2 E sz vs m ys) (h1 : ∀ u ∈ ys, u.oneCell' = true) (hs : a.eval s = v) (hx : a.eval x = vs) (h63 : n + m ≤ 9223372036854775807) (hb : (n + m) * bytes ≤ 140737488355328) (hbase : base ≤ w.heap.size)
    (h : ∀ v' w', w'.ownsRow base E sz v' (n + m) (xs ++ ys) → Wr w w' (fun b => v.ownBlock = some b) → (∀ B w0, B ≤ base → Below B w0 w → Below B w0 w') → wpList Try.prog ops Q rest (a.put o.dst v') w') :
    wpList Try.prog ops Q (o :: rest) a w := by
  obtain ⟨i, hi, hz0, hz1, hz2⟩ := info_parts hinfo
  have fin : ∀ v' w', w'.ownsRow base E sz v' (n + m) (xs ++ ys) → w.grownBy w' v.ownBlock → wpList Try.prog ops Q rest (a.put o.dst v') w' := fun v' w' ho2 hg => by
    have hw := Wr.of_grown hg
    refine h v' w' ho2 hw fun B w0 hB hb0 => ?_
    refine Below.wr hb0 hw (by omega) fun k hk => ?_
    have := (hown.lt k hk).1
    omega
  rcases hsrc.2 with ⟨hv, hm⟩ | ⟨g, cap, cur, hv, hbg, hgg, hmc, hcm, hcs, htk⟩
  · subst hv hm
    have hy : ys = [] := List.eq_nil_of_length_eq_zero (by simpa using hsrc.1)
    subst hy
    refine wpList_want hgd ?_
    have hrun := run_append_owned_none (P := Try.prog) (w := w) base T o.type E i sz ht hi v n xs hown
    have hf := fin v w (by simpa using hown) (World.grownBy.refl _ _)
    unfold Oper.wp
    simp [execOp, ho, resolve, invoke, builtin, hs, hx, hrun, Result.andThen]
    exact hf
  · subst hv
    refine wpList_want hgd (wp_append_own w s x T ho base E i z sz bytes ht hi hz0 hz1 hz2 hz hsz v n xs hs hown ⟨g, 0, none⟩ m cap ys hx hsrc.1 (hsrc.cells rfl) h1 (by unfold maxLen; omega) hb hbase ?_)
    intro v' w' ho2 hg _
    exact fin v' w' ho2 hg
set_option maxHeartbeats 4000000 in
theorem fnMemoryValid_walk (v : Value) (bs : List Int) (w0 : World) (h : RdI .u8 w0 v bs) : Calls Try.prog 8 #[v] w0 fun e w' => e = .returned (.bool true) ∧ Below w0.heap.size w0 w' := by
  obtain ⟨ad, c, hv, hlc, hcm⟩ := h.shape
  subst hv
  have hB0 := Below.refl w0.heap.size w0
  by_cases hn : bs.length ≤ 1048576
  · go_enter Try.func8, Try.ntmps8
    go_wp2_with fail
    refine (DrawMemoryValid_any _ bs _ h).mono ?_
    rintro e w1 ⟨v1, rfl, ⟨xs, ho1, hxl, hxb⟩, hB1⟩
    have hwx : ∀ x ∈ xs, (Lit.int .i64 x).wf = true := fun x hx => WalkArith.wf_i64 (by have := hxb x hx; omega)
    have hr1 := rdI_of_owns ho1 hwx
    go_wp2_with fail
    refine (implMemoryValid _ _ _ hr1).mono ?_
    rintro e w' ⟨rfl, rfl⟩
    go_wp2_with fail
    refine (specMemoryValid _ _ _ hr1).mono ?_
    rintro e w' ⟨rfl, rfl⟩
    have hoE : (w1.alloc (.cells #[] 3)).ownsRow w1.heap.size 3 1 (.slice (some ⟨w1.heap.size, 0, none⟩) 0 0) 0 [] := World.ownsRow_lit w1 #[] 0 (Nat.le_refl _) (by decide) rfl
    have hbE : Below w1.heap.size w1 (w1.alloc (.cells #[] 3)) := (Below.refl _ _).alloc (Nat.le_refl _) _
    have ho2 := owns_below ho1 hbE (Nat.le_refl _)
    cases hv : memValid xs
    · clear ho1 hr1
      go_wp2_with (at_builtin; refine wpList_app2g _ (by rfl) _ _ 30 3 rfl _ _ 1 8 (.int .i64 0) Try.underlying30 infoInt rfl (by decide) _ _ _ _ _ _ hoE ho2 (oneI xs) rfl rfl (by omega) (by omega) (by simp) ?_)
      intro v3 w3 ho3 hw3 hbb3
      have hB3 := hbb3 w1.heap.size w1 (Nat.le_refl _) hbE
      have hz3 := hB3.size
      clear hoE ho2 hw3 hbb3 hbE
      go_wp2_with (at_builtin; refine wpList_app1g _ (by rfl) _ _ 30 3 rfl _ 1 8 [.int .i64 256] (.int .i64 0) Try.underlying30 infoInt rfl (by decide) rfl (by intro u hu; simp at hu; subst hu; rfl) _ _ _ ho3 rfl rfl (by omega) (by omega) (by omega) ?_)
      intro v4 w4 ho4 hw4 hbb4
      have hB4 := hbb4 w1.heap.size w1 (Nat.le_refl _) hB3
      have hr4 : RdI .i64 w4 v4 (xs ++ [256]) := rdI_of_owns (base := w1.heap.size) (e := 3) (by simpa using ho4) (fun x hx => by
        rcases List.mem_append.1 hx with hx | hx
        · exact hwx x hx
        · rw [List.mem_singleton.1 hx]; rfl)
      have hrn : RdI .i64 w4 (.slice none 0 0) [] := ⟨⟨rfl, none, 0, rfl, Nat.le_refl _, by simp [maxLen], fun h => absurd h (by simp)⟩, by simp⟩
      have hm1 := memValid_256 xs
      have hm2 : memValid [] = false := rfl
      have hBB := hB1.trans (hB4.mono hB1.size)
      clear ho3 ho4 hw4 hbb4 hB3 hB4
      go_wp2_with fail
      refine (implMemoryValid _ _ _ hr4).mono ?_
      rintro e w' ⟨rfl, rfl⟩
      rw [hm1]
      clear hr4 hm1
      go_wp2_with fail
      refine (implMemoryValid _ _ _ hrn).mono ?_
      rintro e w' ⟨rfl, rfl⟩
      rw [hm2]
      clear hrn hm2
      go_wp2_with (go_at_call 18; refine (alive_any _).mono ?_; rintro e w' ⟨rfl, rfl⟩)
      go_ret
      exact ⟨rfl, hBB⟩
    · have hx1 := memValid_pos hv
      rcases ho1.2 with ⟨_, hz⟩ | ⟨g, cap, cur, hv1, _, _, hnc, hcm1, _⟩
      · omega
      subst hv1
      have hcm2 : cap ≤ 9223372036854775807 := by unfold maxLen at hcm1; omega
      have hT : RdI .i64 w1 (.slice (some ⟨g, 0, none⟩) 1 cap) (xs.take 1) := by simpa using hr1.sub (i := 0) (j := 1) (Nat.zero_le _) hx1
      have hm0 := memValid_take hv
      clear ho1 hr1
      go_wp2_with fail
      refine (implMemoryValid _ _ _ hT).mono ?_
      rintro e w' ⟨rfl, rfl⟩
      rw [hm0]
      clear hT hm0
      go_wp2_with (at_builtin; refine wpList_app2g _ (by rfl) _ _ 30 3 rfl _ _ 1 8 (.int .i64 0) Try.underlying30 infoInt rfl (by decide) _ _ _ _ _ _ hoE ho2 (oneI xs) rfl rfl (by omega) (by omega) (by simp) ?_)
      intro v3 w3 ho3 hw3 hbb3
      have hB3 := hbb3 w1.heap.size w1 (Nat.le_refl _) hbE
      have hz3 := hB3.size
      clear hoE ho2 hw3 hbb3 hbE
      go_wp2_with (at_builtin; refine wpList_app1g _ (by rfl) _ _ 30 3 rfl _ 1 8 [.int .i64 256] (.int .i64 0) Try.underlying30 infoInt rfl (by decide) rfl (by intro u hu; simp at hu; subst hu; rfl) _ _ _ ho3 rfl rfl (by omega) (by omega) (by omega) ?_)
      intro v4 w4 ho4 hw4 hbb4
      have hB4 := hbb4 w1.heap.size w1 (Nat.le_refl _) hB3
      have hr4 : RdI .i64 w4 v4 (xs ++ [256]) := rdI_of_owns (base := w1.heap.size) (e := 3) (by simpa using ho4) (fun x hx => by
        rcases List.mem_append.1 hx with hx | hx
        · exact hwx x hx
        · rw [List.mem_singleton.1 hx]; rfl)
      have hrn : RdI .i64 w4 (.slice none 0 0) [] := ⟨⟨rfl, none, 0, rfl, Nat.le_refl _, by simp [maxLen], fun h => absurd h (by simp)⟩, by simp⟩
      have hm1 := memValid_256 xs
      have hm2 : memValid [] = false := rfl
      have hBB := hB1.trans (hB4.mono hB1.size)
      clear ho3 ho4 hw4 hbb4 hB3 hB4
      go_wp2_with fail
      refine (implMemoryValid _ _ _ hr4).mono ?_
      rintro e w' ⟨rfl, rfl⟩
      rw [hm1]
      clear hr4 hm1
      go_wp2_with fail
      refine (implMemoryValid _ _ _ hrn).mono ?_
      rintro e w' ⟨rfl, rfl⟩
      rw [hm2]
      clear hrn hm2
      go_wp2_with (go_at_call 18; refine (alive_any _).mono ?_; rintro e w' ⟨rfl, rfl⟩)
      go_ret
      exact ⟨rfl, hBB⟩
  · go_enter Try.func8, Try.ntmps8
    go_wp2
    go_ret
    exact ⟨rfl, hB0⟩
namespace fnMemoryValid
set_option linter.unusedVariables false
set_option maxRecDepth 100000 in
theorem lifted (os : Os) (started : os.Started) (H : Type) (enc : TypeId × Value → H) :
    ReturnsInHanded {} Try.checked os 8 .any (Rows.fnMemoryValidSpec.pre6 enc Try.prog Try.f8 Rows.fnMemoryValidRow.domain false) (Rows.fnMemoryValidSpec.post enc Try.prog Try.f8 false true false false) := by
  refine returnsInHanded_of_change (C := Try.checked) own started (by kernel_rfl) Try.func8
    (ChangeSpec.witness6 (enc := enc) (C := Try.checked) false ⟨#[], #[.slice none 0 0], []⟩ 8 (by kernel_rfl) (by kernel_rfl) (by kernel_rfl) (by kernel_rfl)) ?_
  intro W base args ds gs before hval0 hW hcnd _
  have hval : ∀ (j : Nat) t v, Try.f8.params[j]? = some t → args[j]? = some v → Value.okWide Try.prog W .any base t v := hval0
  have hW' := hW
  obtain ⟨p, q, hA0, hV, rfl, hfz, hnd⟩ := hW
  have hA : DataW.TrodAll enc Try.prog W 0 (fun _ => true) true Try.f8.params.toList args.toList ds p := hA0
  rw [Try.params8] at hA hval
  obtain ⟨v0, vs0, d0, ds0, p0, q0, hargs, rfl, rfl, h0, r0⟩ := trodAll_cons hA
  obtain ⟨rfl, rfl, rfl⟩ := trodAll_nil r0
  obtain rfl : args = #[v0] := by cases args; simp_all
  obtain ⟨rfl, rfl⟩ := trodVars_none hV
  have k0 := h0
  have lt0 : ∀ x ∈ p0, x.block < W.heap.size := by obtain ⟨m, hm⟩ := k0; exact DataW.trod_lt m _ _ _ hm
  obtain ⟨z0, w0⟩ := open_rdI (kk := .u8) Try.underlying22 Try.underlying5 (by kernel_rfl) (hval 0 22 v0 rfl rfl) h0
  clear hA0 hval0
  refine (fnMemoryValid_walk v0 z0 W w0).mono fun e W' ⟨he, bel⟩ => ?_
  subst he
  exact ⟨_, rfl, _, _, _, [], _, [], hW', trodAll_mk1 (shut_bool Try.underlying4 _), (trodAll_cons_mk (Below.trod laidOut (by kernel_rfl) (of_decide_eq_true (by kernel_rfl)) k0 bel lt0) trodAll_mk0), rfl, bel.frame _, fun h => by cases h⟩
theorem over : Rows.fnMemoryValidRow.holds Try.pinned (OpenSpec.ofChange Rows.fnMemoryValidSpec) :=
  OpenClaim.holds_of_wide 8 Try.f8 rfl rfl rfl rfl rfl rfl rfl ⟨rfl, rfl, rfl, rfl, rfl⟩ rfl rfl rfl rfl rfl (by kernel_rfl) Try.func8 (by kernel_rfl)
    (of_decide_eq_true (by kernel_rfl)) (by unfold Func.isWrapper; first | (rw [if_pos (by decide +kernel)]; kernel_rfl) | (rw [if_neg (by decide +kernel)]; exact ⟨rfl, rfl⟩))
    (fun os started H enc _ => lifted os started H enc)
end fnMemoryValid
/-- The given statement on FnMemoryValid. -/
theorem fnMemoryValid_holds : Rows.FnMemoryValidSaid := fnMemoryValid.over
#print axioms fnMemoryValid_holds
end Go.Proofs.Ytgmaffoljdmkpaa
