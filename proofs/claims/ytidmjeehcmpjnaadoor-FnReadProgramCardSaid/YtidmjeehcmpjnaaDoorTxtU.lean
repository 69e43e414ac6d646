/- YtidmjeehcmpjnaaDoorTxtU: a program read from lines, by the reference and the program. Conditions: at most 1048576 lines, each shorter than 2 to the 32; the listed variables hold what the program's text lays. -/
import Derived.Test.YtidmjeehcmpjnaaDoorTxtT
import Derived.Test.YtidmjeehcmpjnaaDoorTxtI
namespace Go.Proofs.YtidmjeehcmpjnaaDoor
open Go.ChangeShapes Go.WideShapes Go.ChangeAt Go.RowKit
set_option linter.unusedVariables false
def cZ : Obj := cObj 0 0 0 0
set_option maxRecDepth 100000 in
set_option maxHeartbeats 4000000 in
theorem specReadProgram (v : Value) (ls : List (List UInt8)) (w : World) (h : RdT w v ls) (hn : ls.length ≤ 1048576) (hx : ∀ x ∈ ls, x.length ≤ 4294967280) : Calls Tryd.prog 14 #[v] w (NewP w (rdP ls)) := by
  obtain ⟨a, n, b, off, rfl, hlc, hm, hb, hcell⟩ := h.form
  have hb0 := boxNew w (.cells #[] 42)
  have ho0 := ownC_lit w
  have HC := Lib.hid hcell
  have HXL := Lib.hid hx
  clear h hcell hx
  go_enter Tryd.func14, Tryd.ntmps14
  go_wp2_with fail
  go_loopg [4, 5] ls.length (fun g v i wr => ∃ (k : Nat) (cs : List Cd), k + g = ls.length ∧ i = .int .i64 k ∧ Hid (readsT (ls.take k) = some cs) ∧ wr.ownsRow w.heap.size 42 4 v cs.length (cdCells cs) ∧ Below w.heap.size w wr)
  case atStart => exact ⟨0, [], by omega, rfl, Lib.hid rfl, ho0, hb0⟩
  case round =>
    clear ho0 hb0
    obtain ⟨k, cs, hk, rfl, hd, ho, hbl⟩ := hrel
    have hcl : cs.length = k := by
      have h1 := readsT_len hd.out
      rw [List.length_take] at h1
      omega
    obtain ⟨av, cv, hvv⟩ := own_shape ho
    rw [hcl] at hvv ho
    subst hvv
    have HO := Lib.hid ho
    have HCL := Lib.hid hcl
    by_cases hlt : k < ls.length
    · obtain ⟨x, hx⟩ := get_lt hlt
      obtain ⟨rfl, c0⟩ := HC.out k x hx
      have hne : ls ≠ [] := by rintro rfl; simp at hlt
      have e0 := (hbl.cell (p := ⟨b, off + k, none⟩) (hb hne)).trans c0
      have hxl := HXL.out x (List.mem_of_getElem? hx)
      have HRC := Lib.hid (specReadCode x wr hxl)
      have hsplit : ls = ls.take k ++ x :: ls.drop (k + 1) := by rw [← drop_cons hx, List.take_append_drop]
      have HBL := Lib.hid hbl
      cases hrt : readT x with
      | none =>
        unfold okV at HRC
        rw [hrt] at HRC
        simp only [Option.getD_none, Option.isSome_none, cdZ] at HRC
        have HE := Lib.hid (show rdP ls = none by unfold rdP; rw [hsplit, readsT_bad _ _ _ hrt])
        clear hrt hsplit hd hcl ho hbl c0 hx
        go_wp2_with fail
        refine HRC.out.mono ?_
        rintro e w2 ⟨rfl, hb2⟩
        have HB2 := Lib.hid (HBL.out.trans (hb2.mono HBL.out.size))
        clear hb2 e0 HBL HO HRC
        have hbE := HB2.out.trans ((boxNew w2 cZ).mono HB2.out.size)
        have hbF := hbE.trans ((boxNew _ (.cells #[] 42)).mono hbE.size)
        have h9 := own_mono (base' := w.heap.size) (ownC_lit (w2.alloc cZ)) (by simp; exact Nat.le_succ_of_le HB2.out.size)
        rw [World.size_alloc] at h9
        have HO9 := Lib.hid h9
        unfold cZ cObj at hbE hbF HO9
        clear h9
        clear HB2
        go_wp2
        go_ret2
        exact newP_no HE.out HO9.out hbF
      | some c =>
        unfold okV at HRC
        rw [hrt] at HRC
        simp only [Option.getD_some, Option.isSome_some] at HRC
        have HN := Lib.hid (show readsT (ls.take (k + 1)) = some (cs ++ [c]) by rw [take_snoc hx]; exact readsT_snoc _ _ _ _ hd.out hrt)
        clear hrt hsplit hd hcl ho hbl c0 hx
        go_wp2_with fail
        refine HRC.out.mono ?_
        rintro e w2 ⟨rfl, hb2⟩
        have hb2w := HBL.out.trans (hb2.mono HBL.out.size)
        have hbX := boxNew w2 (.cells #[.int .i64 c.op, .int .i64 c.a, .int .i64 c.b, .int .i64 c.c] 42)
        have HB3 := Lib.hid (hb2w.trans (hbX.mono hb2w.size))
        have HO3 := Lib.hid (owns_below (owns_below HO.out hb2 (Nat.le_refl _)) hbX (Nat.le_refl _))
        have hz3 := HB3.out.size
        clear hb2 e0 HBL HO HRC hb2w hbX
        go_wp2_with (at_builtin; refine wpList_app1 _ rfl _ _ 24 42 rfl _ 4 32 [.int .i64 c.op, .int .i64 c.a, .int .i64 c.b, .int .i64 c.c] (.agg #[.int .i64 0, .int .i64 0, .int .i64 0, .int .i64 0]) Tryd.underlying24 infoCode rfl (by decide) rfl (by intro u hu; simp only [List.mem_cons, List.not_mem_nil, or_false] at hu; rcases hu with rfl | rfl | rfl | rfl <;> rfl) _ _ _ HO3.out rfl (by show Value.slice (some ⟨w2.heap.size + 1, 0, none⟩) 1 1 = _; simp) (by omega) (by omega) hz3 ?_)
        intro v5 w5 ho5 hw5 hb5
        have hB5 := hb5 _ w (Nat.le_refl _) HB3.out
        have ho6 : w5.ownsRow w.heap.size 42 4 v5 (cs ++ [c]).length (cdCells (cs ++ [c])) := by
          rw [List.length_append, HCL.out]
          unfold cdCells
          rw [List.flatMap_append]
          simp only [List.flatMap_cons, List.flatMap_nil, List.append_nil]
          exact ho5
        clear ho5 hw5 hb5 HO3 HB3 hz3
        go_wp2
        go_roundg (ls.length - (k + 1))
        case measure => omega
        case rel => exact ⟨k + 1, cs ++ [c], by omega, by go_num, HN, ho6, hB5⟩
    · have hall := hd.out
      rw [List.take_of_length_le (by omega)] at hall
      have HA := Lib.hid hall
      have HWF := Lib.hid (cds_wf (readsT_some hall).2)
      have HB := Lib.hid hbl
      have HPV := Lib.hid (specProgramValid (.slice av k cv) cs wr (rdC_of_owns (by rw [HCL.out]; exact HO.out) HWF.out))
      cases hpv : pValid cs with
      | false =>
        rw [hpv] at HPV
        have HE := Lib.hid (show rdP ls = none by unfold rdP; rw [hall]; simp only; rw [if_neg (by rw [hpv]; simp)])
        clear hall hd ho hbl hpv hcl
        go_wp2_with fail
        refine HPV.out.mono ?_
        rintro e w3 ⟨rfl, hb3⟩
        have HB3 := Lib.hid (HB.out.trans (hb3.mono HB.out.size))
        clear hb3 HB HPV HO
        have hbF := HB3.out.trans ((boxNew w3 (.cells #[] 42)).mono HB3.out.size)
        have HO9 := Lib.hid (own_mono (base' := w.heap.size) (ownC_lit w3) HB3.out.size)
        clear HB3
        go_wp2
        go_ret2
        exact newP_no HE.out HO9.out hbF
      | true =>
        rw [hpv] at HPV
        have HE := Lib.hid (show rdP ls = some cs by unfold rdP; rw [hall]; simp only; rw [if_pos hpv])
        clear hall hd ho hbl hpv hcl
        go_wp2_with fail
        refine HPV.out.mono ?_
        rintro e w3 ⟨rfl, hb3⟩
        have HB3 := Lib.hid (HB.out.trans (hb3.mono HB.out.size))
        have HO3 := Lib.hid (owns_below HO.out hb3 (Nat.le_refl _))
        clear hb3 HB HPV HO
        go_wp2
        go_ret2
        exact newP_yes (v := .slice av k cv) HE.out (by rw [HCL.out]; exact HO3.out) HB3.out
set_option maxRecDepth 100000 in
set_option maxHeartbeats 4000000 in
theorem implReadProgram (v : Value) (ls : List (List UInt8)) (w : World) (h : RdT w v ls) (hL : LaidB w) (hn : ls.length ≤ 1048576) (hx : ∀ x ∈ ls, x.length ≤ 4294967280) : Calls Tryd.prog 16 #[v] w (NewP w (rdP ls)) := by
  have HL := Lib.hid hL
  obtain ⟨a, n, b, off, rfl, hlc, hm, hb, hcell⟩ := h.form
  have hb0 := Below.refl w.heap.size w
  have ho0 := ownC_nil w.heap.size w
  have HC := Lib.hid hcell
  have HXL := Lib.hid hx
  clear h hcell hx hL
  go_enter Tryd.func16, Tryd.ntmps16
  go_wp2_with fail
  go_loopg [4, 11] ls.length (fun g v i wr => ∃ (k : Nat) (cs : List Cd), k + g = ls.length ∧ i = .int .i64 k ∧ Hid (readsT (ls.take k) = some cs) ∧ wr.ownsRow w.heap.size 42 4 v cs.length (cdCells cs) ∧ Below w.heap.size w wr)
  case atStart => exact ⟨0, [], by omega, rfl, Lib.hid rfl, ho0, hb0⟩
  case round =>
    clear ho0 hb0
    obtain ⟨k, cs, hk, rfl, hd, ho, hbl⟩ := hrel
    have hcl : cs.length = k := by
      have h1 := readsT_len hd.out
      rw [List.length_take] at h1
      omega
    obtain ⟨av, cv, hvv⟩ := own_shape ho
    rw [hcl] at hvv ho
    subst hvv
    have HO := Lib.hid ho
    have HCL := Lib.hid hcl
    by_cases hlt : k < ls.length
    · obtain ⟨x, hx⟩ := get_lt hlt
      obtain ⟨rfl, c0⟩ := HC.out k x hx
      have hne : ls ≠ [] := by rintro rfl; simp at hlt
      have e0 := (hbl.cell (p := ⟨b, off + k, none⟩) (hb hne)).trans c0
      have hxl := HXL.out x (List.mem_of_getElem? hx)
      have HRC := Lib.hid (implReadCode x wr (HL.out.below hbl) hxl)
      have hsplit : ls = ls.take k ++ x :: ls.drop (k + 1) := by rw [← drop_cons hx, List.take_append_drop]
      have HBL := Lib.hid hbl
      cases hrt : readT x with
      | none =>
        unfold okV at HRC
        rw [hrt] at HRC
        simp only [Option.getD_none, Option.isSome_none, cdZ] at HRC
        have HE := Lib.hid (show rdP ls = none by unfold rdP; rw [hsplit, readsT_bad _ _ _ hrt])
        clear hrt hsplit hd hcl ho hbl c0 hx
        go_wp2_with fail
        refine HRC.out.mono ?_
        rintro e w2 ⟨rfl, hb2⟩
        have HB2 := Lib.hid (HBL.out.trans (hb2.mono HBL.out.size))
        clear hb2 e0 HBL HO HRC
        have hbE := HB2.out.trans ((boxNew w2 cZ).mono HB2.out.size)
        unfold cZ cObj at hbE
        clear HB2
        go_wp2
        go_ret2
        exact newP_no HE.out (ownC_nil _ _) hbE
      | some c =>
        unfold okV at HRC
        rw [hrt] at HRC
        simp only [Option.getD_some, Option.isSome_some] at HRC
        have HN := Lib.hid (show readsT (ls.take (k + 1)) = some (cs ++ [c]) by rw [take_snoc hx]; exact readsT_snoc _ _ _ _ hd.out hrt)
        clear hrt hsplit hd hcl ho hbl c0 hx
        go_wp2_with fail
        refine HRC.out.mono ?_
        rintro e w2 ⟨rfl, hb2⟩
        have hb2w := HBL.out.trans (hb2.mono HBL.out.size)
        have hbX := boxNew w2 (.cells #[.int .i64 c.op, .int .i64 c.a, .int .i64 c.b, .int .i64 c.c] 42)
        have HB3 := Lib.hid (hb2w.trans (hbX.mono hb2w.size))
        have HO3 := Lib.hid (owns_below (owns_below HO.out hb2 (Nat.le_refl _)) hbX (Nat.le_refl _))
        have hz3 := HB3.out.size
        clear hb2 e0 HBL HO HRC hb2w hbX
        go_wp2_with (at_builtin; refine wpList_app1 _ rfl _ _ 24 42 rfl _ 4 32 [.int .i64 c.op, .int .i64 c.a, .int .i64 c.b, .int .i64 c.c] (.agg #[.int .i64 0, .int .i64 0, .int .i64 0, .int .i64 0]) Tryd.underlying24 infoCode rfl (by decide) rfl (by intro u hu; simp only [List.mem_cons, List.not_mem_nil, or_false] at hu; rcases hu with rfl | rfl | rfl | rfl <;> rfl) _ _ _ HO3.out rfl (by show Value.slice (some ⟨w2.heap.size + 1, 0, none⟩) 1 1 = _; simp) (by omega) (by omega) hz3 ?_)
        intro v5 w5 ho5 hw5 hb5
        have hB5 := hb5 _ w (Nat.le_refl _) HB3.out
        have ho6 : w5.ownsRow w.heap.size 42 4 v5 (cs ++ [c]).length (cdCells (cs ++ [c])) := by
          rw [List.length_append, HCL.out]
          unfold cdCells
          rw [List.flatMap_append]
          simp only [List.flatMap_cons, List.flatMap_nil, List.append_nil]
          exact ho5
        clear ho5 hw5 hb5 HO3 HB3 hz3
        go_wp2
        go_roundg (ls.length - (k + 1))
        case measure => omega
        case rel => exact ⟨k + 1, cs ++ [c], by omega, by go_num, HN, ho6, hB5⟩
    · have hall := hd.out
      rw [List.take_of_length_le (by omega)] at hall
      have HA := Lib.hid hall
      have HWF := Lib.hid (cds_wf (readsT_some hall).2)
      have HB := Lib.hid hbl
      have HPV := Lib.hid (implProgramValid (.slice av k cv) cs wr (rdC_of_owns (by rw [HCL.out]; exact HO.out) HWF.out))
      cases hpv : pValid cs with
      | false =>
        rw [hpv] at HPV
        have HE := Lib.hid (show rdP ls = none by unfold rdP; rw [hall]; simp only; rw [if_neg (by rw [hpv]; simp)])
        clear hall hd ho hbl hpv hcl
        go_wp2_with fail
        refine HPV.out.mono ?_
        rintro e w3 ⟨rfl, hb3⟩
        have HB3 := Lib.hid (HB.out.trans (hb3.mono HB.out.size))
        clear hb3 HB HPV HO
        go_wp2
        go_ret2
        exact newP_no HE.out (ownC_nil _ _) HB3.out
      | true =>
        rw [hpv] at HPV
        have HE := Lib.hid (show rdP ls = some cs by unfold rdP; rw [hall]; simp only; rw [if_pos hpv])
        clear hall hd ho hbl hpv hcl
        go_wp2_with fail
        refine HPV.out.mono ?_
        rintro e w3 ⟨rfl, hb3⟩
        have HB3 := Lib.hid (HB.out.trans (hb3.mono HB.out.size))
        have HO3 := Lib.hid (owns_below HO.out hb3 (Nat.le_refl _))
        clear hb3 HB HPV HO
        go_wp2
        go_ret2
        exact newP_yes (v := .slice av k cv) HE.out (by rw [HCL.out]; exact HO3.out) HB3.out
end Go.Proofs.YtidmjeehcmpjnaaDoor
