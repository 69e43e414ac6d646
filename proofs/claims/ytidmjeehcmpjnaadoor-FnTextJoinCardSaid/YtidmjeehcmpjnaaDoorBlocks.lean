/- YtidmjeehcmpjnaaDoorBlocks: the program's table of blocks, walked. Conditions: the program has at most 1048576 instructions. -/
import Derived.Test.YtidmjeehcmpjnaaDoorBlkP
import Derived.Laws.AppendOwnNone
namespace Go.Proofs.YtidmjeehcmpjnaaDoor
open Go.ChangeShapes Go.WideShapes Go.ChangeAt Go.RowKit
set_option linter.unusedVariables false

theorem infoPS : (Tryd.prog.info? 79).map (fun i => (i.zero, i.size, i.bytes)) = some (some (.slice none 0 0), 1, 24) := by kernel_rfl
theorem infoP : (Tryd.prog.info? 88).map (fun i => (i.zero, i.size, i.bytes)) = some (some (.pointer none), 1, 8) := by kernel_rfl
def BlksR (cs : List Cd) (w : World) (e : Ending) (w' : World) : Prop :=
  ∃ va vo, e = .returned (.tuple #[va, vo, .bool (sOk cs)]) ∧ (sOk cs = true → Blks cs w' w.heap.size w'.heap.size va vo) ∧ Below w.heap.size w w'
theorem sOk_dead {cs : List Cd} {k : Nat} {c : Cd} {s : List Fr} (hc : cs[k]? = some c) (hs : stk cs k = some s) (hst : stp k c s = none) : sOk cs = false := by
  have hk := (List.getElem?_eq_some_iff.1 hc).1
  unfold sOk
  rw [stk_none (k := k + 1) (by rw [stk_succ hc hs]; exact hst) _ hk]; rfl
theorem sOk_fin {cs : List Cd} {s : List Fr} (hs : stk cs cs.length = some s) : sOk cs = decide (s.length = 0) := by
  unfold sOk
  rw [hs]
  cases s <;> simp [closed]
theorem bk_start {cs : List Cd} {w w1 w2 : World} (h1 : w1.ownsRow w.heap.size 79 1 (.slice (some ⟨w.heap.size, 0, none⟩) cs.length cs.length) cs.length (madeCells #[Value.slice none 0 0] cs.length).toList) (g1 : w.grownBy w1 none)
    (h2 : w2.ownsRow w.heap.size 88 1 (.slice (some ⟨w1.heap.size, 0, none⟩) cs.length cs.length) cs.length (madeCells #[Value.pointer none] cs.length).toList) (g2 : w1.grownBy w2 none) :
    ∃ role arV owV, BkSt cs w w.heap.size w1.heap.size 0 0 0 (fun _ => 0) role arV owV w2 (.slice none 0 0) [] := by
  have hb1 : Below w.heap.size w w1 := (Below.refl _ _).grown g1 (Nat.le_refl _) (by intro k hk; cases hk)
  have hb2 : Below w1.heap.size w1 w2 := (Below.refl _ _).grown g2 (Nat.le_refl _) (by intro k hk; cases hk)
  have hlt := own_lt h1 w.heap.size rfl
  refine ⟨fun b => if b = w.heap.size then 1 else 2, _, _, ⟨rfl, Nat.le_refl _, owns_below h1 hb2 (Nat.le_refl _), h2, World.ownsRow_nil _ _ _ _, by simp, by intro p hp; omega, by intro p q hp; omega, by intro p hp; omega, by intro i hi; omega, by intro i c hi; omega, ?_, by simp, ?_, (by intro b hb; cases hb), by intro p hp; omega, hb1.trans (hb2.mono hb1.size)⟩⟩
  · intro i _ hi
    rw [toList_madeCells_one, List.getElem?_replicate, if_pos (by omega)]
  · rw [if_neg (by omega)]

theorem BkSt.arnd0 {cs : List Cd} {w : World} {A O ka ko k : Nat} {ad role : Nat → Nat} {arV owV : List Value} {wr : World} {u : Value} {f : Fr} {r : List Fr} (h : BkSt cs w A O ka ko k ad role arV owV wr u (f :: r)) (hk : k ≤ cs.length) : arnd cs k = f.p := by
  rw [arnd_eq hk h.st]; rfl
theorem addrB_ne {b b' o o' : Nat} (h : ¬ b = b') : (⟨b, o, none⟩ : Addr) ≠ ⟨b', o', none⟩ := fun e => h (congrArg Addr.block e)

set_option maxRecDepth 100000 in
set_option maxHeartbeats 8000000 in
theorem implBlocks (v : Value) (cs : List Cd) (w : World) (h : RdC w v cs) (hn : cs.length ≤ 1048576) : Calls Tryd.prog 67 #[v] w (BlksR cs w) := by
  obtain ⟨a, n, b, off, rfl, hlc, hm, hb, hcell⟩ := h.opened
  obtain ⟨i0, hi, hz0, hz1, hz2⟩ := info_parts infoPS
  obtain ⟨i1, ii, iz0, iz1, iz2⟩ := info_parts infoP
  have hz3 : i0.bytes * cs.length ≤ 281474976710656 := by rw [hz2]; omega
  have iz3 : i1.bytes * cs.length ≤ 281474976710656 := by rw [iz2]; omega
  have hz4 : cs.length ≤ maxLen := by unfold maxLen; omega
  have HZ := Lib.hid hz2
  have IZ := Lib.hid iz2
  clear hz2 iz2
  go_enter Tryd.func67, Tryd.ntmps67
  go_wp2_with (at_make; refine wpList_make_full _ rfl _ _ 78 rfl w.heap.size 79 i0 (.slice none 0 0) 1 Tryd.underlying78 hi hz0 hz1 _ _ _ _ cs.length rfl rfl rfl rfl hz3 hz4 (Nat.le_refl _) ?_)
  intro w1 ho1 hg1
  have hs1 : w.heap.size ≤ w1.heap.size := hg1.size
  clear HZ hz0 hz1 hi hz3
  go_wp2_with (at_make; refine wpList_make_full _ rfl _ _ 79 rfl w.heap.size 88 i1 (.pointer none) 1 Tryd.underlying79 ii iz0 iz1 _ _ _ _ cs.length rfl rfl rfl rfl iz3 hz4 hs1 ?_)
  intro w2 ho2 hg2
  obtain ⟨role0, arV0, owV0, hS0⟩ := bk_start (by simpa [Value.cells] using ho1) hg1 (by simpa [Value.cells] using ho2) hg2
  clear IZ iz0 iz1 ii iz3 hz4 ho1 hg1 ho2 hg2
  obtain ⟨O, hO⟩ : ∃ O, O = w1.heap.size := ⟨_, rfl⟩
  rw [← hO] at hS0 ⊢
  clear hO hs1
  obtain ⟨A, hA⟩ : ∃ A, A = w.heap.size := ⟨_, rfl⟩
  rw [← hA] at hS0 ⊢
  clear hA
  go_wp2_with fail
  go_loopg [7, 19] cs.length (fun g u i wr => ∃ (k : Nat) (ad role : Nat → Nat) (arV owV : List Value) (s : List Fr), k + g = cs.length ∧ i = .int .i64 k ∧ BkSt cs w A O k k k ad role arV owV wr u s)
  case atStart => exact ⟨0, _, _, _, _, _, by omega, rfl, hS0⟩
  case round =>
    clear hS0
    obtain ⟨k, ad, role, arV, owV, s, hk, rfl, hP⟩ := hrel
    obtain ⟨us, uc, hu⟩ := own_shape hP.stack
    by_cases hlt : k < cs.length
    · obtain ⟨c, hx⟩ := get_lt hlt
      obtain ⟨hblt, ha⟩ := hb (ne_of_get hx)
      obtain ⟨e0, e1, e2, e3⟩ := hcell.get hb hP.bel hx
      have hdeep := (hP.inv (Nat.le_of_lt hlt)).deep
      subst ha
      clear hb
      have HX := Lib.hid hx
      have HCE := Lib.hid hcell
      have hsz := hP.bel.size
      have hA := own_lt hP.aro A rfl
      have hO := own_lt hP.own O rfl
      have hAO : ¬ A = O := fun he => by have h1 := hP.rA; have h2 := hP.rO; rw [he, h2] at h1; cases h1
      have hP1 := hP.below ((Below.refl _ _).alloc (Nat.le_refl _) (.cells #[.int .i64 c.op, .int .i64 c.a, .int .i64 c.b, .int .i64 c.c] 42))
      have hP2 := hP1.rerole (fun b => if b < wr.heap.size + 1 then role b else 5) (fun b hb => if_pos (by simpa using hb))
      have HP2 := Lib.hid hP2
      have hoE : ((wr.alloc (.cells #[.int .i64 c.op, .int .i64 c.a, .int .i64 c.b, .int .i64 c.c] 42)).alloc (.cells #[] 88)).ownsRow (wr.heap.size + 1) 88 1 (.slice (some ⟨wr.heap.size + 1, 0, none⟩) 0 0) 0 [] := by
        have := World.ownsRow_lit (base := wr.heap.size + 1) (e := 88) (size := 1) (wr.alloc (.cells #[.int .i64 c.op, .int .i64 c.a, .int .i64 c.b, .int .i64 c.c] 42)) #[] 0 (by simp) (by decide) rfl
        simpa using this
      have hsr := hP1.stack.alloc (.cells #[] 88)
      subst hu
      clear hcell hx hP hP1 hP2
      go_wp2_with (at_builtin; refine wpList_app2g _ (by rfl) _ _ 79 88 rfl _ _ 1 8 (.pointer none) Tryd.underlying79 infoP rfl (by decide) _ _ _ _ _ _ hoE hsr (ptrs_one _ _) rfl rfl (by omega) (by omega) (by simp) ?_)
      intro v3 w3 ho3 hw3 hbb3
      have hB3 := hbb3 (wr.heap.size + 1) (wr.alloc (.cells #[.int .i64 c.op, .int .i64 c.a, .int .i64 c.b, .int .i64 c.c] 42)) (Nat.le_refl _) ((Below.refl _ _).alloc (by simp) _)
      have hB3' : Below (wr.alloc (.cells #[.int .i64 c.op, .int .i64 c.a, .int .i64 c.b, .int .i64 c.c] 42)).heap.size (wr.alloc (.cells #[.int .i64 c.op, .int .i64 c.a, .int .i64 c.b, .int .i64 c.c] 42)) w3 := by rw [World.size_alloc]; exact hB3
      have hP3 := HP2.out.below hB3'
      have ho3' : w3.ownsRow w.heap.size 88 1 v3 s.length (ptrs ad s) := own_mono (by simpa using ho3) (by omega)
      have hr3 : ∀ b, v3.ownBlock = some b → (fun b => if b < wr.heap.size + 1 then role b else 5) b = 5 := fun b hb => if_neg (by have := own_ge ho3 b hb; omega)
      obtain ⟨role5, hrole5⟩ : ∃ r : Nat → Nat, r = (fun b => if b < wr.heap.size + 1 then role b else 5) := ⟨_, rfl⟩
      rw [← hrole5] at hP3 hr3
      obtain ⟨x3, hx3⟩ := get_lt (show k < arV.length by have := hP3.aro.1; omega)
      have hold := (hP3.aro.cellAt k (by omega)).trans hx3
      have hfr := hP3.aro.frozenAt k
      have hP4 := hP3.putAr ho3' hr3 hlt
      have q0 : w3.cell? ⟨wr.heap.size, 0, none⟩ = some (.int .i64 c.op) := (hB3.cell (p := ⟨wr.heap.size, 0, none⟩) (by simp)).trans (cell_of_row _ wr.heap.size 0 _ _ (0, 0) (heap_alloc_new wr _))
      have hs3 := hB3.size
      simp only [World.size_alloc] at hs3
      have oc := (hP3.own.cellAt k (by omega)).trans (hP3.owZ k (Nat.le_refl _) hlt)
      have ofr := hP3.own.frozenAt k
      obtain ⟨a3, c3, hv3⟩ := own_shape ho3'
      rw [hv3] at hP4 ⊢
      have HP4 := Lib.hid hP4
      have HX3 := Lib.hid hx3
      have nA : ¬ wr.heap.size = A := by omega
      have nO : ¬ wr.heap.size = O := by omega
      have nAO : ¬ O = A := fun he => hAO he.symm
      have lA : A < w3.heap.size := by omega
      have lO : O < w3.heap.size := by omega
      clear hP3 hP4 ho3 hw3 hbb3 hB3 hB3' ho3' hr3 hrole5 hv3 hx3 hoE hsr e0 e1 e2 e3 HP2
      rcases (show c.op = 11 ∨ c.op = 13 ∨ c.op = 12 ∨ c.op = 14 ∨ (¬ (c.op = 11 ∨ c.op = 13) ∧ c.op ≠ 12 ∧ c.op ≠ 14) by omega) with ho | ho | ho | ho | ⟨hoa, hob, hoc⟩
      · have HOP : Hid (c.op = 11 ∨ c.op = 13) := Lib.hid (Or.inl ho)
        have o1 : (c.op == 11) = true := beq_iff_eq.2 ho
        clear ho
        obtain ⟨ad2, had⟩ : ∃ r : Nat → Nat, r = (fun p => if p = k then w3.heap.size else ad p) := ⟨_, rfl⟩
        have adk : ad2 k = w3.heap.size := by rw [had]; exact if_pos rfl
        have ado : ∀ p, p < k → ad2 p = ad p := fun p hp => by rw [had]; exact if_neg (by omega)
        have h5 := HP4.out.reAd (Nat.le_of_lt hlt) (Nat.le_refl _) (Nat.le_refl _) ad2 ado
        have h6 := h5.putOw HX.out hlt
        have hown : ownP ad2 cs k c = .pointer (some ⟨w3.heap.size, 0, none⟩) := by unfold ownP; rw [if_pos HOP.out, adk]
        rw [hown] at h6
        have hs5 : ((w3.setCell ⟨A, k, none⟩ (.slice a3 s.length c3)).setCell ⟨O, k, none⟩ (.pointer (some ⟨w3.heap.size, 0, none⟩))).heap.size = w3.heap.size := by simp
        have hs6 : (((w3.setCell ⟨A, k, none⟩ (.slice a3 s.length c3)).setCell ⟨O, k, none⟩ (.pointer (some ⟨w3.heap.size, 0, none⟩))).alloc (.cells #[.int .i64 k, .int .i64 (-1), .int .i64 (-1)] 90)).heap.size = w3.heap.size + 1 := by simp
        have hblk : (((w3.setCell ⟨A, k, none⟩ (.slice a3 s.length c3)).setCell ⟨O, k, none⟩ (.pointer (some ⟨w3.heap.size, 0, none⟩))).alloc (.cells #[.int .i64 k, .int .i64 (-1), .int .i64 (-1)] 90)).heap[ad2 k]? = some (blkO k (-1) (-1)) := by
          have := heap_alloc_new ((w3.setCell ⟨A, k, none⟩ (.slice a3 s.length c3)).setCell ⟨O, k, none⟩ (.pointer (some ⟨w3.heap.size, 0, none⟩))) (.cells #[.int .i64 k, .int .i64 (-1), .int .i64 (-1)] 90)
          rw [hs5] at this; rw [adk]; exact this
        have h7 := (h6.rerole (fun b => if b < w3.heap.size then role5 b else 4) (fun b hb => if_pos (by rw [hs5] at hb; exact hb))).below ((Below.refl _ _).alloc (Nat.le_refl _) (.cells #[.int .i64 k, .int .i64 (-1), .int .i64 (-1)] 90))
        have h8 := h7.rerole (fun b => if b < w3.heap.size + 1 then (if b < w3.heap.size then role5 b else 4) else 3) (fun b hb => if_pos (by rw [hs6] at hb; exact hb))
        have hr4 : (fun b => if b < w3.heap.size + 1 then (if b < w3.heap.size then role5 b else 4) else 3) (ad2 k) = 4 := by
          simp only; rw [adk, if_pos (by omega), if_neg (by omega)]
        have hfr2 : ∀ q, q < k → isO cs q → ad2 q ≠ ad2 k := fun q hq ho => by
          have := (h5.alo q hq ho).2
          rw [World.size_setCell] at this
          rw [adk]; omega
        have hstk := h8.stack
        have H8 := Lib.hid h8
        have HBK := Lib.hid hblk
        have HR4 := Lib.hid hr4
        have HF2 := Lib.hid hfr2
        have HS6 := Lib.hid hs6
        have HAK := Lib.hid adk
        have hlo : w.heap.size ≤ w3.heap.size := by omega
        clear h5 h6 h7 h8 hown hs5 hblk hr4 hfr2 had ado adk hs6
        go_wp2_with (at_builtin; refine wpList_app1w (((w3.setCell ⟨A, k, none⟩ (.slice a3 s.length c3)).setCell ⟨O, k, none⟩ (.pointer (some ⟨w3.heap.size, 0, none⟩))).alloc (.cells #[.int .i64 k, .int .i64 (-1), .int .i64 (-1)] 90)) rfl _ _ 79 88 rfl _ 8 (.pointer (some ⟨w3.heap.size, 0, none⟩)) (.pointer none) Tryd.underlying79 infoP rfl rfl _ _ _ hstk rfl (by rw [HS6.out]; rfl) (by omega) (by omega) (by rw [HS6.out]; omega) ?_)
        intro v4 w4 ho4 hw4 hn4
        obtain ⟨a4, c4, hv4⟩ := own_shape ho4
        have hb4 := Below.wr H8.out.bel hw4 H8.out.bel.size (fun b hb => own_ge hstk b hb)
        by_cases hd : 3 ≤ s.length
        · have HN := Lib.hid (sOk_dead HX.out HP4.out.st (stp_deep HOP.out hd))
          subst hv4
          clear ho4 hw4 hn4 hstk
          go_wp2
          go_ret3
          exact ⟨_, _, by rw [HN.out]; rfl, fun h => (by rw [HN.out] at h; cases h), hb4⟩
        · have h9 := H8.out.push HX.out HOP.out (by omega) hlt HBK.out HR4.out (by rw [HAK.out]; exact hlo) HF2.out hw4 (by rw [HAK.out]; exact ho4) (fun b hb => by
            rcases hn4 b hb with hh | hh
            · exact H8.out.rS b hh
            · have hh2 : w3.heap.size + 1 ≤ b := by simpa using hh
              exact if_neg (by omega))
          subst hv4
          have H9 := Lib.hid h9
          clear ho4 hw4 hn4 hstk hb4 h9
          go_wp2
          go_roundg (cs.length - (k + 1))
          case measure => omega
          case rel => exact ⟨k + 1, _, _, _, _, _, by omega, by go_num, H9.out⟩
      · have HOP : Hid (c.op = 11 ∨ c.op = 13) := Lib.hid (Or.inr ho)
        have o1 : (c.op == 11) = false := beq_eq_false_iff_ne.2 (by omega)
        have o2 : (c.op == 13) = true := beq_iff_eq.2 ho
        clear ho
        obtain ⟨ad2, had⟩ : ∃ r : Nat → Nat, r = (fun p => if p = k then w3.heap.size else ad p) := ⟨_, rfl⟩
        have adk : ad2 k = w3.heap.size := by rw [had]; exact if_pos rfl
        have ado : ∀ p, p < k → ad2 p = ad p := fun p hp => by rw [had]; exact if_neg (by omega)
        have h5 := HP4.out.reAd (Nat.le_of_lt hlt) (Nat.le_refl _) (Nat.le_refl _) ad2 ado
        have h6 := h5.putOw HX.out hlt
        have hown : ownP ad2 cs k c = .pointer (some ⟨w3.heap.size, 0, none⟩) := by unfold ownP; rw [if_pos HOP.out, adk]
        rw [hown] at h6
        have hs5 : ((w3.setCell ⟨A, k, none⟩ (.slice a3 s.length c3)).setCell ⟨O, k, none⟩ (.pointer (some ⟨w3.heap.size, 0, none⟩))).heap.size = w3.heap.size := by simp
        have hs6 : (((w3.setCell ⟨A, k, none⟩ (.slice a3 s.length c3)).setCell ⟨O, k, none⟩ (.pointer (some ⟨w3.heap.size, 0, none⟩))).alloc (.cells #[.int .i64 k, .int .i64 (-1), .int .i64 (-1)] 90)).heap.size = w3.heap.size + 1 := by simp
        have hblk : (((w3.setCell ⟨A, k, none⟩ (.slice a3 s.length c3)).setCell ⟨O, k, none⟩ (.pointer (some ⟨w3.heap.size, 0, none⟩))).alloc (.cells #[.int .i64 k, .int .i64 (-1), .int .i64 (-1)] 90)).heap[ad2 k]? = some (blkO k (-1) (-1)) := by
          have := heap_alloc_new ((w3.setCell ⟨A, k, none⟩ (.slice a3 s.length c3)).setCell ⟨O, k, none⟩ (.pointer (some ⟨w3.heap.size, 0, none⟩))) (.cells #[.int .i64 k, .int .i64 (-1), .int .i64 (-1)] 90)
          rw [hs5] at this; rw [adk]; exact this
        have h7 := (h6.rerole (fun b => if b < w3.heap.size then role5 b else 4) (fun b hb => if_pos (by rw [hs5] at hb; exact hb))).below ((Below.refl _ _).alloc (Nat.le_refl _) (.cells #[.int .i64 k, .int .i64 (-1), .int .i64 (-1)] 90))
        have h8 := h7.rerole (fun b => if b < w3.heap.size + 1 then (if b < w3.heap.size then role5 b else 4) else 3) (fun b hb => if_pos (by rw [hs6] at hb; exact hb))
        have hr4 : (fun b => if b < w3.heap.size + 1 then (if b < w3.heap.size then role5 b else 4) else 3) (ad2 k) = 4 := by
          simp only; rw [adk, if_pos (by omega), if_neg (by omega)]
        have hfr2 : ∀ q, q < k → isO cs q → ad2 q ≠ ad2 k := fun q hq ho => by
          have := (h5.alo q hq ho).2
          rw [World.size_setCell] at this
          rw [adk]; omega
        have hstk := h8.stack
        have H8 := Lib.hid h8
        have HBK := Lib.hid hblk
        have HR4 := Lib.hid hr4
        have HF2 := Lib.hid hfr2
        have HS6 := Lib.hid hs6
        have HAK := Lib.hid adk
        have hlo : w.heap.size ≤ w3.heap.size := by omega
        clear h5 h6 h7 h8 hown hs5 hblk hr4 hfr2 had ado adk hs6
        go_wp2_with (at_builtin; refine wpList_app1w (((w3.setCell ⟨A, k, none⟩ (.slice a3 s.length c3)).setCell ⟨O, k, none⟩ (.pointer (some ⟨w3.heap.size, 0, none⟩))).alloc (.cells #[.int .i64 k, .int .i64 (-1), .int .i64 (-1)] 90)) rfl _ _ 79 88 rfl _ 8 (.pointer (some ⟨w3.heap.size, 0, none⟩)) (.pointer none) Tryd.underlying79 infoP rfl rfl _ _ _ hstk rfl (by rw [HS6.out]; rfl) (by omega) (by omega) (by rw [HS6.out]; omega) ?_)
        intro v4 w4 ho4 hw4 hn4
        obtain ⟨a4, c4, hv4⟩ := own_shape ho4
        have hb4 := Below.wr H8.out.bel hw4 H8.out.bel.size (fun b hb => own_ge hstk b hb)
        by_cases hd : 3 ≤ s.length
        · have HN := Lib.hid (sOk_dead HX.out HP4.out.st (stp_deep HOP.out hd))
          subst hv4
          clear ho4 hw4 hn4 hstk
          go_wp2
          go_ret3
          exact ⟨_, _, by rw [HN.out]; rfl, fun h => (by rw [HN.out] at h; cases h), hb4⟩
        · have h9 := H8.out.push HX.out HOP.out (by omega) hlt HBK.out HR4.out (by rw [HAK.out]; exact hlo) HF2.out hw4 (by rw [HAK.out]; exact ho4) (fun b hb => by
            rcases hn4 b hb with hh | hh
            · exact H8.out.rS b hh
            · have hh2 : w3.heap.size + 1 ≤ b := by simpa using hh
              exact if_neg (by omega))
          subst hv4
          have H9 := Lib.hid h9
          clear ho4 hw4 hn4 hstk hb4 h9
          go_wp2
          go_roundg (cs.length - (k + 1))
          case measure => omega
          case rel => exact ⟨k + 1, _, _, _, _, _, by omega, by go_num, H9.out⟩
      · have o1 : (c.op == 11) = false := beq_eq_false_iff_ne.2 (by omega)
        have o2 : (c.op == 13) = false := beq_eq_false_iff_ne.2 (by omega)
        have o3 : (c.op == 12) = true := beq_iff_eq.2 ho
        cases s with
        | nil =>
          have HN := Lib.hid (sOk_dead HX.out HP4.out.st (stp_else_nil ho))
          have hbx := HP4.out.bel
          clear ho
          go_wp2
          go_ret3
          exact ⟨_, _, by rw [HN.out]; rfl, fun h => (by rw [HN.out] at h; cases h), hbx⟩
        | cons f r =>
          have hsl : (f :: r).length = r.length + 1 := rfl
          rcases HP4.out.stack.2 with ⟨_, hz⟩ | ⟨g, cap, cur, hv1, hbg, hgg, hnc, hcm, _⟩
          · simp at hz
          simp only [Value.slice.injEq] at hv1
          obtain ⟨rfl, _, rfl⟩ := hv1
          have hcm' : uc ≤ 9223372036854775807 := by unfold maxLen at hcm; omega
          clear hgg hcm
          have hIv := HP4.out.inv (Nat.le_of_lt hlt)
          obtain ⟨hfp, hfo⟩ := HP4.out.frO (Nat.le_of_lt hlt) (i := 0) (f := f) rfl
          obtain ⟨cf, hcf, hcfo⟩ := (hIv.code 0 f rfl).2
          have hfl : f.p < cs.length := by omega
          have ar := HP4.out.arnd0 (Nat.le_of_lt hlt)
          have ngA : ¬ g = A := fun he => by have h1 := HP4.out.rS g rfl; rw [he, HP4.out.rA] at h1; cases h1
          have ngO : ¬ g = O := fun he => by have h1 := HP4.out.rS g rfl; rw [he, HP4.out.rO] at h1; cases h1
          have ndA : ¬ ad f.p = A := fun he => by have h1 := HP4.out.rB f.p hfp hfo; rw [he, HP4.out.rA] at h1; cases h1
          have ndO : ¬ ad f.p = O := fun he => by have h1 := HP4.out.rB f.p hfp hfo; rw [he, HP4.out.rO] at h1; cases h1
          have lA2 := HP4.out.lo
          have lO2 := own_ge HP4.out.own O rfl
          have nbA : ¬ b = A := by omega
          have nbO : ¬ b = O := by omega
          have ld := (HP4.out.alo f.p hfp hfo).1
          have nbd : ¬ b = ad f.p := by omega
          have hX4 : ∀ q j, ¬ q = A → (w3.setCell ⟨A, k, none⟩ (.slice a3 (f :: r).length c3)).cell? ⟨q, j, none⟩ = w3.cell? ⟨q, j, none⟩ := fun q j hq => World.cell?_setCell_other _ _ _ _ (addrB_ne (fun e => hq e.symm))
          have hF4 : ∀ q j, ¬ q = A → (w3.setCell ⟨A, k, none⟩ (.slice a3 (f :: r).length c3)).frozen? ⟨q, j, none⟩ = w3.frozen? ⟨q, j, none⟩ := fun q j hq => by simp
          have tc := (hX4 g r.length ngA).symm.trans ((HP4.out.stack.cellAt r.length (by simp)).trans (ptrs_top ad f r))
          unfold ptr at tc
          have hbk := HP4.out.frs 0 f rfl
          have d0 := (hX4 (ad f.p) 0 ndA).symm.trans (cell_of_row _ _ 0 _ _ _ hbk)
          have d1 := (hX4 (ad f.p) 1 ndA).symm.trans (cell_of_row _ _ 1 _ _ _ hbk)
          have d2 := (hX4 (ad f.p) 2 ndA).symm.trans (cell_of_row _ _ 2 _ _ _ hbk)
          have df1 := (hF4 (ad f.p) 1 ndA).symm.trans (frozen_of_row _ _ 1 _ _ hbk)
          have df2 := (hF4 (ad f.p) 2 ndA).symm.trans (frozen_of_row _ _ 2 _ _ hbk)
          have l0 := (hX4 b (off + f.p * 4) nbA).symm.trans (HCE.out.get (a := some ⟨b, off, none⟩) (fun _ => ⟨hblt, rfl⟩) HP4.out.bel hcf).1
          rw [hcfo] at l0
          simp only [List.getElem?_toArray, List.getElem?_cons_zero, List.getElem?_cons_succ] at d0 d1 d2
          clear hX4 hF4 hbk hIv hcfo hcf
          obtain ⟨X, hX⟩ : ∃ X, f.op = X := ⟨_, rfl⟩
          obtain ⟨Y, hY⟩ : ∃ Y, f.o = Y := ⟨_, rfl⟩
          rw [hX] at l0
          rw [hY] at d1
          by_cases hf1 : X = 11
          · have x1 : (X != 11) = false := by rw [hf1]; rfl
            by_cases hf2 : Y < 0
            · have h5 := HP4.out.putOw HX.out hlt
              have hown : ownP ad cs k c = .pointer (some ⟨ad f.p, 0, none⟩) := by unfold ownP; rw [if_neg (by omega), if_pos (Or.inl ho), ar]; rfl
              rw [hown] at h5
              have h6 := h5.divide hlt HX.out ho rfl ⟨hX.trans hf1, by rw [hY]; exact hf2⟩
              have H6 := Lib.hid h6
              clear h5 h6 hown hX hY ho hf1 ar
              go_wp2
              go_roundg (cs.length - (k + 1))
              case measure => omega
              case rel => exact ⟨k + 1, _, _, _, _, _, by omega, by go_num, H6.out⟩
            · have HN := Lib.hid (sOk_dead HX.out HP4.out.st (stp_else_no ho (fun h => hf2 (by rw [← hY]; exact h.2))))
              have hbx := HP4.out.bel
              clear ho hX hY hf1 ar
              go_wp2
              go_ret3
              exact ⟨_, _, by rw [HN.out]; rfl, fun h => (by rw [HN.out] at h; cases h), hbx⟩
          · have HN := Lib.hid (sOk_dead HX.out HP4.out.st (stp_else_no ho (fun h => hf1 (by rw [← hX]; exact h.1))))
            have hbx := HP4.out.bel
            have x1 : (X != 11) = true := by rw [bne_iff_ne]; exact hf1
            clear ho hX hY ar
            go_wp2
            go_ret3
            exact ⟨_, _, by rw [HN.out]; rfl, fun h => (by rw [HN.out] at h; cases h), hbx⟩
      · have o1 : (c.op == 11) = false := beq_eq_false_iff_ne.2 (by omega)
        have o2 : (c.op == 13) = false := beq_eq_false_iff_ne.2 (by omega)
        have o3 : (c.op == 12) = false := beq_eq_false_iff_ne.2 (by omega)
        have o4 : (c.op == 14) = true := beq_iff_eq.2 ho
        cases s with
        | nil =>
          have HN := Lib.hid (sOk_dead HX.out HP4.out.st (stp_end_nil ho))
          have hbx := HP4.out.bel
          clear ho
          go_wp2
          go_ret3
          exact ⟨_, _, by rw [HN.out]; rfl, fun h => (by rw [HN.out] at h; cases h), hbx⟩
        | cons f r =>
          have hsl : (f :: r).length = r.length + 1 := rfl
          rcases HP4.out.stack.2 with ⟨_, hz⟩ | ⟨g, cap, cur, hv1, hbg, hgg, hnc, hcm, _⟩
          · simp at hz
          simp only [Value.slice.injEq] at hv1
          obtain ⟨rfl, _, rfl⟩ := hv1
          have hcm' : uc ≤ 9223372036854775807 := by unfold maxLen at hcm; omega
          clear hgg hcm
          have hIv := HP4.out.inv (Nat.le_of_lt hlt)
          obtain ⟨hfp, hfo⟩ := HP4.out.frO (Nat.le_of_lt hlt) (i := 0) (f := f) rfl
          obtain ⟨cf, hcf, hcfo⟩ := (hIv.code 0 f rfl).2
          have hfl : f.p < cs.length := by omega
          have ar := HP4.out.arnd0 (Nat.le_of_lt hlt)
          have ngA : ¬ g = A := fun he => by have h1 := HP4.out.rS g rfl; rw [he, HP4.out.rA] at h1; cases h1
          have ngO : ¬ g = O := fun he => by have h1 := HP4.out.rS g rfl; rw [he, HP4.out.rO] at h1; cases h1
          have ndA : ¬ ad f.p = A := fun he => by have h1 := HP4.out.rB f.p hfp hfo; rw [he, HP4.out.rA] at h1; cases h1
          have ndO : ¬ ad f.p = O := fun he => by have h1 := HP4.out.rB f.p hfp hfo; rw [he, HP4.out.rO] at h1; cases h1
          have lA2 := HP4.out.lo
          have lO2 := own_ge HP4.out.own O rfl
          have nbA : ¬ b = A := by omega
          have nbO : ¬ b = O := by omega
          have ld := (HP4.out.alo f.p hfp hfo).1
          have nbd : ¬ b = ad f.p := by omega
          have hX4 : ∀ q j, ¬ q = A → (w3.setCell ⟨A, k, none⟩ (.slice a3 (f :: r).length c3)).cell? ⟨q, j, none⟩ = w3.cell? ⟨q, j, none⟩ := fun q j hq => World.cell?_setCell_other _ _ _ _ (addrB_ne (fun e => hq e.symm))
          have hF4 : ∀ q j, ¬ q = A → (w3.setCell ⟨A, k, none⟩ (.slice a3 (f :: r).length c3)).frozen? ⟨q, j, none⟩ = w3.frozen? ⟨q, j, none⟩ := fun q j hq => by simp
          have tc := (hX4 g r.length ngA).symm.trans ((HP4.out.stack.cellAt r.length (by simp)).trans (ptrs_top ad f r))
          unfold ptr at tc
          have hbk := HP4.out.frs 0 f rfl
          have d0 := (hX4 (ad f.p) 0 ndA).symm.trans (cell_of_row _ _ 0 _ _ _ hbk)
          have d1 := (hX4 (ad f.p) 1 ndA).symm.trans (cell_of_row _ _ 1 _ _ _ hbk)
          have d2 := (hX4 (ad f.p) 2 ndA).symm.trans (cell_of_row _ _ 2 _ _ _ hbk)
          have df1 := (hF4 (ad f.p) 1 ndA).symm.trans (frozen_of_row _ _ 1 _ _ hbk)
          have df2 := (hF4 (ad f.p) 2 ndA).symm.trans (frozen_of_row _ _ 2 _ _ hbk)
          have l0 := (hX4 b (off + f.p * 4) nbA).symm.trans (HCE.out.get (a := some ⟨b, off, none⟩) (fun _ => ⟨hblt, rfl⟩) HP4.out.bel hcf).1
          rw [hcfo] at l0
          simp only [List.getElem?_toArray, List.getElem?_cons_zero, List.getElem?_cons_succ] at d0 d1 d2
          clear hX4 hF4 hbk hIv hcfo hcf
          have h5 := HP4.out.putOw HX.out hlt
          have hown : ownP ad cs k c = .pointer (some ⟨ad f.p, 0, none⟩) := by unfold ownP; rw [if_neg (by omega), if_pos (Or.inr ho), ar]; rfl
          rw [hown] at h5
          have h6 := h5.close hlt HX.out ho rfl rfl
          have H6 := Lib.hid h6
          clear h5 h6 hown ho ar
          go_wp2
          go_roundg (cs.length - (k + 1))
          case measure => omega
          case rel => exact ⟨k + 1, _, _, _, _, _, by omega, by go_num, H6.out⟩
      · have o1 : (c.op == 11) = false := beq_eq_false_iff_ne.2 (by omega)
        have o2 : (c.op == 13) = false := beq_eq_false_iff_ne.2 (by omega)
        have o3 : (c.op == 12) = false := beq_eq_false_iff_ne.2 (by omega)
        have o4 : (c.op == 14) = false := beq_eq_false_iff_ne.2 (by omega)
        have H6 := Lib.hid (HP4.out.plain hlt HX.out hoa hob hoc)
        clear hoa hob hoc
        go_wp2
        go_roundg (cs.length - (k + 1))
        case measure => omega
        case rel => exact ⟨k + 1, _, _, _, _, _, by omega, by go_num, H6.out⟩
    · obtain rfl : k = cs.length := by omega
      clear hk hlt
      have hf := sOk_fin hP.st
      have hbl := hP.bel
      subst hu
      by_cases hs0 : s.length = 0
      · obtain rfl := List.eq_nil_of_length_eq_zero hs0
        have HD := Lib.hid hP.done
        rw [decide_eq_true hs0] at hf
        have HF := Lib.hid hf
        clear hf hP hcell hs0
        go_wp2
        go_ret3
        exact ⟨_, _, by rw [HF.out]; rfl, fun _ => HD.out, hbl⟩
      · rw [decide_eq_false hs0] at hf
        have hs0b : ((s.length : Int) == 0) = false := beq_eq_false_iff_ne.2 (by omega)
        have HF := Lib.hid hf
        clear hf hP hcell
        go_wp2
        go_ret3
        exact ⟨_, _, by rw [HF.out]; rfl, fun h => (by rw [HF.out] at h; cases h), hbl⟩
end Go.Proofs.YtidmjeehcmpjnaaDoor
