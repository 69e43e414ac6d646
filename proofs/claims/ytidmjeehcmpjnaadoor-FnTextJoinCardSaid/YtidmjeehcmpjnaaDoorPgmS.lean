/- YtidmjeehcmpjnaaDoorPgmS: which programs the reference calls valid. No conditions. -/
import Derived.Test.YtidmjeehcmpjnaaDoorCodesS
import Derived.Test.YtidmjeehcmpjnaaDoorPgmM
namespace Go.Proofs.YtidmjeehcmpjnaaDoor
open Go.ChangeShapes Go.WideShapes Go.ChangeAt Go.RowKit
set_option linter.unusedVariables false

/-- What the loop knows ahead of place k. -/
structure PvSt (cs : List Cd) (w : World) (k : Nat) (wr : World) (v : Value) (s : List Fr) : Prop where
  st : stk cs k = some s
  ok : ∀ j c, j < k → cs[j]? = some c → cValid c = true
  own : wr.ownsRow w.heap.size 3 1 v s.length ((kinds s).map (Value.int .i64))
  bel : Below w.heap.size w wr
theorem PvSt.step {cs : List Cd} {w wr w2 : World} {k : Nat} {v v2 : Value} {s s2 : List Fr} {c : Cd} (h : PvSt cs w k wr v s) (hc : cs[k]? = some c) (hv : cValid c = true) (hst : stp k c s = some s2)
    (ho : w2.ownsRow w.heap.size 3 1 v2 s2.length ((kinds s2).map (Value.int .i64))) (hb : Below w.heap.size w w2) : PvSt cs w (k + 1) w2 v2 s2 :=
  ⟨by rw [stk_succ hc h.st]; exact hst, valid_snoc h.ok hc hv, ho, hb⟩
theorem PvSt.dead {cs : List Cd} {w wr : World} {k : Nat} {v : Value} {s : List Fr} {c : Cd} (h : PvSt cs w k wr v s) (hc : cs[k]? = some c) (hst : stp k c s = none) : pValid cs = false := by
  have hk := (List.getElem?_eq_some_iff.1 hc).1
  exact pValid_none (k := k + 1) hk (by rw [stk_succ hc h.st]; exact hst)

set_option maxRecDepth 100000 in
set_option maxHeartbeats 4000000 in
theorem specProgramValid (v : Value) (cs : List Cd) (w : World) (h : RdC w v cs) : Calls Tryd.prog 26 #[v] w fun e w' => e = .returned (.bool (pValid cs)) ∧ Below w.heap.size w w' := by
  obtain ⟨a, n, b, off, rfl, hlc, hm, hb, hcell⟩ := h.opened
  have hS0 : PvSt cs w 0 (w.alloc (.cells #[] 3)) (.slice (some ⟨w.heap.size, 0, none⟩) 0 0) [] :=
    ⟨rfl, fun j c hj => absurd hj (Nat.not_lt_zero j), World.ownsRow_lit w #[] 0 (Nat.le_refl _) (by decide) rfl, (Below.refl _ _).alloc (Nat.le_refl _) _⟩
  go_enter Tryd.func26, Tryd.ntmps26
  go_wp2_with fail
  go_loopg [3, 4] cs.length (fun g u i wr => ∃ (k : Nat) (s : List Fr), k + g = cs.length ∧ i = .int .i64 k ∧ PvSt cs w k wr u s)
  case atStart => exact ⟨0, [], by omega, rfl, hS0⟩
  case round =>
    clear hS0
    obtain ⟨k, s, hk, rfl, hP⟩ := hrel
    obtain ⟨us, uc, hu⟩ := own_shape hP.own
    by_cases hlt : k < cs.length
    · obtain ⟨c, hx⟩ := get_lt hlt
      obtain ⟨hblt, ha⟩ := hb (ne_of_get hx)
      obtain ⟨e0, e1, e2, e3⟩ := hcell.get hb hP.bel hx
      subst ha
      clear hb
      have hI := inv_all k s (Nat.le_of_lt hlt) hP.st
      have hdeep := hI.deep
      cases hcv : cValid c
      · have HN := Lib.hid (pValid_bad hx hcv)
        have HC := Lib.hid (specCodeValid c)
        rw [hcv] at HC
        have hbl := hP.bel
        subst hu
        clear hcell hx hP hI hcv
        go_wp2_with fail
        refine (HC.out _).mono ?_
        rintro e w2 ⟨rfl, hb2⟩
        have hB2 := hbl.trans (hb2.mono hbl.size)
        go_wp2
        go_ret
        exact ⟨by rw [HN.out]; rfl, hB2⟩
      · have HX := Lib.hid hx
        have HP := Lib.hid hP
        have HCV := Lib.hid hcv
        have HCE := Lib.hid hcell
        have HC := Lib.hid (specCodeValid c)
        rw [hcv] at HC
        have how := hP.own
        have hbl := hP.bel
        subst hu
        clear hcell hP hI hcv hx
        rcases (show c.op = 11 ∨ c.op = 13 ∨ c.op = 12 ∨ c.op = 14 ∨ (¬ (c.op = 11 ∨ c.op = 13) ∧ c.op ≠ 12 ∧ c.op ≠ 14) by omega) with ho | ho | ho | ho | ⟨hoa, hob, hoc⟩
        · have o1 : (c.op == 11) = true := beq_iff_eq.2 ho
          by_cases hd : 3 ≤ s.length
          · have HN := Lib.hid (HP.out.dead HX.out (stp_deep (Or.inl ho) hd))
            clear ho
            go_wp2_with fail
            refine (HC.out _).mono ?_
            rintro e w2 ⟨rfl, hb2⟩
            have hB2 := hbl.trans (hb2.mono hbl.size)
            have how2 := owns_below how hb2 (Nat.le_refl _)
            clear e0 e1 e2 e3 how hbl hb2
            obtain ⟨e0, e1, e2, e3⟩ := HCE.out.get (a := some ⟨b, off, none⟩) (fun _ => ⟨hblt, rfl⟩) hB2 HX.out
            have hz2 := hB2.size
            go_wp2_with (at_builtin; refine wpList_app1 _ rfl _ _ 62 3 rfl _ 1 8 [.int .i64 c.op] (.int .i64 0) Tryd.underlying62 infoInt rfl (by decide) rfl (by intro u hu; simp at hu; subst hu; rfl) _ _ _ how2 rfl rfl (by omega) (by omega) (by omega) ?_)
            intro v' w3 ho3 hw3 hbb3
            have hB3 := hbb3 _ _ (Nat.le_refl _) hB2
            obtain ⟨av, cv, hv'⟩ := own_shape ho3
            subst hv'
            clear e0 e1 e2 e3 how2 hw3 hbb3 hB2
            go_wp2
            go_ret
            exact ⟨by rw [HN.out]; rfl, hB3⟩
          · have HS := Lib.hid (stp_open (k := k) (s := s) (Or.inl ho) (by omega))
            have HKO := Lib.hid (kinds_open k c.op s)
            clear ho
            go_wp2_with fail
            refine (HC.out _).mono ?_
            rintro e w2 ⟨rfl, hb2⟩
            have hB2 := hbl.trans (hb2.mono hbl.size)
            have how2 := owns_below how hb2 (Nat.le_refl _)
            clear e0 e1 e2 e3 how hbl hb2
            obtain ⟨e0, e1, e2, e3⟩ := HCE.out.get (a := some ⟨b, off, none⟩) (fun _ => ⟨hblt, rfl⟩) hB2 HX.out
            have hz2 := hB2.size
            go_wp2_with (at_builtin; refine wpList_app1 _ rfl _ _ 62 3 rfl _ 1 8 [.int .i64 c.op] (.int .i64 0) Tryd.underlying62 infoInt rfl (by decide) rfl (by intro u hu; simp at hu; subst hu; rfl) _ _ _ how2 rfl rfl (by omega) (by omega) (by omega) ?_)
            intro v' w3 ho3 hw3 hbb3
            have hB3 := hbb3 _ _ (Nat.le_refl _) hB2
            rw [← HKO.out] at ho3
            obtain ⟨av, cv, hv'⟩ := own_shape ho3
            subst hv'
            have HP3 := Lib.hid (HP.out.step HX.out HCV.out HS.out ho3 hB3)
            clear e0 e1 e2 e3 how2 hw3 hbb3 hB2 ho3
            go_wp2
            go_roundg (cs.length - (k + 1))
            case measure => omega
            case rel => exact ⟨k + 1, _, by omega, by go_num, HP3.out⟩
        · have o1 : (c.op == 11) = false := beq_eq_false_iff_ne.2 (by omega)
          have o2 : (c.op == 13) = true := beq_iff_eq.2 ho
          by_cases hd : 3 ≤ s.length
          · have HN := Lib.hid (HP.out.dead HX.out (stp_deep (Or.inr ho) hd))
            clear ho
            go_wp2_with fail
            refine (HC.out _).mono ?_
            rintro e w2 ⟨rfl, hb2⟩
            have hB2 := hbl.trans (hb2.mono hbl.size)
            have how2 := owns_below how hb2 (Nat.le_refl _)
            clear e0 e1 e2 e3 how hbl hb2
            obtain ⟨e0, e1, e2, e3⟩ := HCE.out.get (a := some ⟨b, off, none⟩) (fun _ => ⟨hblt, rfl⟩) hB2 HX.out
            have hz2 := hB2.size
            go_wp2_with (at_builtin; refine wpList_app1 _ rfl _ _ 62 3 rfl _ 1 8 [.int .i64 c.op] (.int .i64 0) Tryd.underlying62 infoInt rfl (by decide) rfl (by intro u hu; simp at hu; subst hu; rfl) _ _ _ how2 rfl rfl (by omega) (by omega) (by omega) ?_)
            intro v' w3 ho3 hw3 hbb3
            have hB3 := hbb3 _ _ (Nat.le_refl _) hB2
            obtain ⟨av, cv, hv'⟩ := own_shape ho3
            subst hv'
            clear e0 e1 e2 e3 how2 hw3 hbb3 hB2
            go_wp2
            go_ret
            exact ⟨by rw [HN.out]; rfl, hB3⟩
          · have HS := Lib.hid (stp_open (k := k) (s := s) (Or.inr ho) (by omega))
            have HKO := Lib.hid (kinds_open k c.op s)
            clear ho
            go_wp2_with fail
            refine (HC.out _).mono ?_
            rintro e w2 ⟨rfl, hb2⟩
            have hB2 := hbl.trans (hb2.mono hbl.size)
            have how2 := owns_below how hb2 (Nat.le_refl _)
            clear e0 e1 e2 e3 how hbl hb2
            obtain ⟨e0, e1, e2, e3⟩ := HCE.out.get (a := some ⟨b, off, none⟩) (fun _ => ⟨hblt, rfl⟩) hB2 HX.out
            have hz2 := hB2.size
            go_wp2_with (at_builtin; refine wpList_app1 _ rfl _ _ 62 3 rfl _ 1 8 [.int .i64 c.op] (.int .i64 0) Tryd.underlying62 infoInt rfl (by decide) rfl (by intro u hu; simp at hu; subst hu; rfl) _ _ _ how2 rfl rfl (by omega) (by omega) (by omega) ?_)
            intro v' w3 ho3 hw3 hbb3
            have hB3 := hbb3 _ _ (Nat.le_refl _) hB2
            rw [← HKO.out] at ho3
            obtain ⟨av, cv, hv'⟩ := own_shape ho3
            subst hv'
            have HP3 := Lib.hid (HP.out.step HX.out HCV.out HS.out ho3 hB3)
            clear e0 e1 e2 e3 how2 hw3 hbb3 hB2 ho3
            go_wp2
            go_roundg (cs.length - (k + 1))
            case measure => omega
            case rel => exact ⟨k + 1, _, by omega, by go_num, HP3.out⟩
        · have o1 : (c.op == 11) = false := beq_eq_false_iff_ne.2 (by omega)
          have o2 : (c.op == 13) = false := beq_eq_false_iff_ne.2 (by omega)
          have o3 : (c.op == 12) = true := beq_iff_eq.2 ho
          cases s with
          | nil =>
            have HN := Lib.hid (HP.out.dead HX.out (stp_else_nil ho))
            clear ho
            go_wp2_with fail
            refine (HC.out _).mono ?_
            rintro e w2 ⟨rfl, hb2⟩
            have hB2 := hbl.trans (hb2.mono hbl.size)
            have how2 := owns_below how hb2 (Nat.le_refl _)
            clear e0 e1 e2 e3 how hbl hb2
            obtain ⟨e0, e1, e2, e3⟩ := HCE.out.get (a := some ⟨b, off, none⟩) (fun _ => ⟨hblt, rfl⟩) hB2 HX.out
            go_wp2
            go_ret
            exact ⟨by rw [HN.out]; rfl, hB2⟩
          | cons f r =>
            simp only [List.length_cons] at hdeep how
            rcases how.2 with ⟨_, hz⟩ | ⟨g, cap, cur, hv1, hbg, hgg, hnc, hcm, _⟩
            · omega
            simp only [Value.slice.injEq] at hv1
            obtain ⟨rfl, _, rfl⟩ := hv1
            have hcm' : uc ≤ 9223372036854775807 := by unfold maxLen at hcm; omega
            clear hgg
            have htop : ((kinds (f :: r)).map (Value.int .i64))[r.length]? = some (.int .i64 f.kind) := by rw [List.getElem?_map, kinds_top]; rfl
            by_cases hf : f.op = 11 ∧ f.o < 0
            · have HS := Lib.hid (stp_else (k := k) (r := r) ho hf)
              have hkd : f.kind = 11 := by unfold Fr.kind; rw [if_pos hf.2]; exact hf.1
              rw [hkd] at htop
              clear ho hkd
              go_wp2_with fail
              refine (HC.out _).mono ?_
              rintro e w2 ⟨rfl, hb2⟩
              have hB2 := hbl.trans (hb2.mono hbl.size)
              have how2 := owns_below how hb2 (Nat.le_refl _)
              clear e0 e1 e2 e3 how hbl hb2
              obtain ⟨e0, e1, e2, e3⟩ := HCE.out.get (a := some ⟨b, off, none⟩) (fun _ => ⟨hblt, rfl⟩) hB2 HX.out
              have hold := (how2.cellAt r.length (by omega)).trans htop
              have hfr := how2.frozenAt r.length
              have hst := how2.stored r.length (.int .i64 12)
              have hset : ((kinds (f :: r)).map (Value.int .i64)).set r.length (.int .i64 12) = (kinds (⟨f.p, f.op, k⟩ :: r)).map (Value.int .i64) := by
                rw [← List.map_set, kinds_set, kinds_else]
              rw [hset] at hst
              have hB3 := Below.wr hB2 (Wr.of_grown hst.2) hB2.size (fun q hq => by cases hq; exact hbg)
              have HP3 := Lib.hid (HP.out.step HX.out HCV.out HS.out hst.1 hB3)
              clear how2 hst hset hB2 hB3 htop hf
              go_wp2
              go_roundg (cs.length - (k + 1))
              case measure => omega
              case rel => exact ⟨k + 1, _, by omega, by go_num, HP3.out⟩
            · have HN := Lib.hid (HP.out.dead HX.out (stp_else_no ho hf))
              have hkd : (f.kind != 11) = true := by
                rw [bne_iff_ne]; unfold Fr.kind; split
                · intro h; exact hf ⟨h, by assumption⟩
                · decide
              clear ho
              go_wp2_with fail
              refine (HC.out _).mono ?_
              rintro e w2 ⟨rfl, hb2⟩
              have hB2 := hbl.trans (hb2.mono hbl.size)
              have how2 := owns_below how hb2 (Nat.le_refl _)
              clear e0 e1 e2 e3 how hbl hb2
              obtain ⟨e0, e1, e2, e3⟩ := HCE.out.get (a := some ⟨b, off, none⟩) (fun _ => ⟨hblt, rfl⟩) hB2 HX.out
              have hold := (how2.cellAt r.length (by omega)).trans htop
              obtain ⟨fk, hfk⟩ : ∃ fk, f.kind = fk := ⟨_, rfl⟩
              rw [hfk] at hold hkd
              clear how2 htop hf hfk
              go_wp2
              go_ret
              exact ⟨by rw [HN.out]; rfl, hB2⟩
        · have o1 : (c.op == 11) = false := beq_eq_false_iff_ne.2 (by omega)
          have o2 : (c.op == 13) = false := beq_eq_false_iff_ne.2 (by omega)
          have o3 : (c.op == 12) = false := beq_eq_false_iff_ne.2 (by omega)
          have o4 : (c.op == 14) = true := beq_iff_eq.2 ho
          cases s with
          | nil =>
            have HN := Lib.hid (HP.out.dead HX.out (stp_end_nil ho))
            clear ho
            go_wp2_with fail
            refine (HC.out _).mono ?_
            rintro e w2 ⟨rfl, hb2⟩
            have hB2 := hbl.trans (hb2.mono hbl.size)
            have how2 := owns_below how hb2 (Nat.le_refl _)
            clear e0 e1 e2 e3 how hbl hb2
            obtain ⟨e0, e1, e2, e3⟩ := HCE.out.get (a := some ⟨b, off, none⟩) (fun _ => ⟨hblt, rfl⟩) hB2 HX.out
            go_wp2
            go_ret
            exact ⟨by rw [HN.out]; rfl, hB2⟩
          | cons f r =>
            simp only [List.length_cons] at hdeep how
            rcases how.2 with ⟨_, hz⟩ | ⟨g, cap, cur, hv1, hbg, hgg, hnc, hcm, _⟩
            · omega
            simp only [Value.slice.injEq] at hv1
            obtain ⟨rfl, _, rfl⟩ := hv1
            have hcm' : uc ≤ 9223372036854775807 := by unfold maxLen at hcm; omega
            clear hgg
            have HS := Lib.hid (stp_end (k := k) (f := f) (r := r) ho)
            clear ho
            go_wp2_with fail
            refine (HC.out _).mono ?_
            rintro e w2 ⟨rfl, hb2⟩
            have hB2 := hbl.trans (hb2.mono hbl.size)
            have how2 := owns_below how hb2 (Nat.le_refl _)
            clear e0 e1 e2 e3 how hbl hb2
            obtain ⟨e0, e1, e2, e3⟩ := HCE.out.get (a := some ⟨b, off, none⟩) (fun _ => ⟨hblt, rfl⟩) hB2 HX.out
            have hot := own_take how2 (m := r.length) (by omega)
            rw [Nat.mul_one, ← List.map_take, kinds_take] at hot
            have HP3 := Lib.hid (HP.out.step HX.out HCV.out HS.out hot hB2)
            clear how2 hot
            go_wp2
            go_roundg (cs.length - (k + 1))
            case measure => omega
            case rel => exact ⟨k + 1, _, by omega, by go_num, HP3.out⟩
        · have o1 : (c.op == 11) = false := beq_eq_false_iff_ne.2 (by omega)
          have o2 : (c.op == 13) = false := beq_eq_false_iff_ne.2 (by omega)
          have o3 : (c.op == 12) = false := beq_eq_false_iff_ne.2 (by omega)
          have o4 : (c.op == 14) = false := beq_eq_false_iff_ne.2 (by omega)
          have HS := Lib.hid (stp_plain (k := k) (s := s) hoa hob hoc)
          clear hoa hob hoc
          go_wp2_with fail
          refine (HC.out _).mono ?_
          rintro e w2 ⟨rfl, hb2⟩
          have hB2 := hbl.trans (hb2.mono hbl.size)
          have how2 := owns_below how hb2 (Nat.le_refl _)
          clear e0 e1 e2 e3 how hbl hb2
          obtain ⟨e0, e1, e2, e3⟩ := HCE.out.get (a := some ⟨b, off, none⟩) (fun _ => ⟨hblt, rfl⟩) hB2 HX.out
          have HP3 := Lib.hid (HP.out.step HX.out HCV.out HS.out how2 hB2)
          clear how2
          go_wp2
          go_roundg (cs.length - (k + 1))
          case measure => omega
          case rel => exact ⟨k + 1, _, by omega, by go_num, HP3.out⟩
    · obtain rfl : k = cs.length := by omega
      clear hk hlt
      have hf := valid_fin hP.ok hP.st
      have hbl := hP.bel
      subst hu
      clear hcell hP
      by_cases hs0 : s.length = 0
      · rw [decide_eq_true hs0, Bool.true_and] at hf
        have HF := Lib.hid hf
        clear hf
        go_wp2
        go_ret
        exact ⟨by rw [HF.out]; rfl, hbl⟩
      · rw [decide_eq_false hs0] at hf
        have HF := Lib.hid hf
        clear hf
        go_wp2
        go_ret
        exact ⟨by rw [HF.out]; rfl, hbl⟩
end Go.Proofs.YtidmjeehcmpjnaaDoor
