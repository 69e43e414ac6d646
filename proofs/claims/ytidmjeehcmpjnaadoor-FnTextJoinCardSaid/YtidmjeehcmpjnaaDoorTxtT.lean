/- YtidmjeehcmpjnaaDoorTxtT: the texts of a program, by the reference and the program. Conditions: the listed variables hold what the program's text lays. -/
import Derived.Test.YtidmjeehcmpjnaaDoorTxtM
import Derived.Test.YtidmjeehcmpjnaaDoorPgmS
import Derived.Test.YtidmjeehcmpjnaaDoorPgmI
namespace Go.Proofs.YtidmjeehcmpjnaaDoor
open Go.ChangeShapes Go.WideShapes Go.ChangeAt Go.RowKit
set_option linter.unusedVariables false
/-- The texts of a program. -/
def ptext (cs : List Cd) : List (List UInt8) := if pValid cs = true then cs.map ctext else []
theorem ptext_t {cs : List Cd} (h : pValid cs = true) : ptext cs = cs.map ctext := if_pos h
theorem ptext_f {cs : List Cd} (h : pValid cs = false) : ptext cs = [] := if_neg (by rw [h]; simp)
theorem ptext_len (cs : List Cd) : (ptext cs).length ≤ cs.length := by
  unfold ptext
  split
  · simp
  · simp
theorem ptext_fit (cs : List Cd) : ∀ x ∈ ptext cs, x.length ≤ 19 := by
  intro x hx
  unfold ptext at hx
  split at hx
  · obtain ⟨c, _, rfl⟩ := List.mem_map.1 hx
    exact ctext_len c
  · cases hx
theorem OwT.lit0 (w : World) : OwT w.heap.size (w.alloc (.cells #[] 9)) (.slice (some ⟨w.heap.size, 0, none⟩) 0 0) [] := World.ownsRow_lit w #[] 0 (Nat.le_refl _) (by decide) rfl
theorem OwT.nil (B : Nat) (w : World) : OwT B w (.slice none 0 0) [] := World.ownsRow_nil _ _ _ _
theorem boxNew (w : World) (o : Obj) : Below w.heap.size w (w.alloc o) := (Below.refl _ _).alloc (Nat.le_refl _) _
set_option maxRecDepth 100000 in
set_option maxHeartbeats 4000000 in
theorem specProgramText (v : Value) (cs : List Cd) (w : World) (h : RdC w v cs) : Calls Tryd.prog 25 #[v] w (NewT w (ptext cs)) := by
  have HR := Lib.hid h
  obtain ⟨a, n, b, off, rfl, hlc, hm, hb, hcell⟩ := h.form
  have hb0 := boxNew w (.cells #[] 9)
  have ho0 := OwT.lit0 w
  have HC := Lib.hid hcell
  clear h hcell
  cases hpv : pValid cs with
  | false =>
    rw [ptext_f hpv]
    have HV := Lib.hid (specProgramValid _ cs _ (HR.out.below hb0 (Nat.le_refl _)))
    rw [hpv] at HV
    have hne : cs ≠ [] := by rintro rfl; cases hpv
    have hpos : 0 < cs.length := List.length_pos_iff.2 hne
    have HO := Lib.hid ho0
    have HB0 := Lib.hid hb0
    clear hpv ho0 hb0 hne
    go_enter Tryd.func25, Tryd.ntmps25
    go_wp2_with fail
    refine wp_loop_rounds 1 ?_
    rw [rounds_succ]
    go_wp2_with fail
    refine HV.out.mono ?_
    rintro e w2 ⟨rfl, hb2⟩
    have hB := HB0.out.trans (hb2.mono HB0.out.size)
    have hO := HO.out.below hb2
    clear hb2
    go_wp2
    go_ret
    exact ⟨_, rfl, hO, hB⟩
  | true =>
    rw [ptext_t hpv]
    have HPV := Lib.hid hpv
    have h40 := pValid_len hpv
    clear hpv
    go_enter Tryd.func25, Tryd.ntmps25
    go_wp2_with fail
    go_loopg [3, 4] cs.length (fun g v i wr => ∃ k : Nat, k + g = cs.length ∧ i = .int .i64 k ∧ OwT w.heap.size wr v ((cs.take k).map ctext) ∧ Below w.heap.size w wr)
    case atStart => exact ⟨0, by omega, rfl, ho0, hb0⟩
    case round =>
      clear ho0 hb0
      obtain ⟨k, hk, rfl, ho, hbl⟩ := hrel
      have hkl : ((cs.take k).map ctext).length = k := by simp; omega
      obtain ⟨L, hLe⟩ : ∃ L, (cs.take k).map ctext = L := ⟨_, rfl⟩
      rw [hLe] at ho hkl
      have HLE := Lib.hid hLe
      clear hLe
      obtain ⟨av, cv, hvv⟩ := own_shape ho
      rw [hkl] at hvv
      subst hvv
      have HO := Lib.hid ho
      have HKL := Lib.hid hkl
      clear hkl
      by_cases hlt : k < cs.length
      · have HV := Lib.hid (specProgramValid _ cs wr (HR.out.below hbl (Nat.le_refl _)))
        rw [HPV.out] at HV
        obtain ⟨c, hx⟩ := get_lt hlt
        obtain ⟨rfl, c0, c1, c2, c3⟩ := HC.out k c hx
        have hne : cs ≠ [] := by rintro rfl; simp at hlt
        have hbw := hb hne
        have C0 := Lib.hid c0
        have C1 := Lib.hid c1
        have C2 := Lib.hid c2
        have C3 := Lib.hid c3
        have HTK := Lib.hid (show (cs.take (k + 1)).map ctext = L ++ [ctext c] by rw [take_snoc hx, List.map_append, HLE.out]; rfl)
        have HBL := Lib.hid hbl
        clear ho hbl c0 c1 c2 c3 hx
        go_wp2_with fail
        refine HV.out.mono ?_
        rintro e w2 ⟨rfl, hb2⟩
        have HB2 := Lib.hid (HBL.out.trans (hb2.mono HBL.out.size))
        have HO2 := Lib.hid (HO.out.below hb2)
        have e0 := (HB2.out.cell (p := ⟨b, off + k * 4, none⟩) hbw).trans C0.out
        have e1 := (HB2.out.cell (p := ⟨b, off + k * 4 + 1, none⟩) hbw).trans C1.out
        have e2 := (HB2.out.cell (p := ⟨b, off + k * 4 + 2, none⟩) hbw).trans C2.out
        have e3 := (HB2.out.cell (p := ⟨b, off + k * 4 + 3, none⟩) hbw).trans C3.out
        clear hb2 HO HV
        go_wp2_with fail
        refine (specCodeText c w2).mono ?_
        rintro e w3 ⟨rfl, hb3⟩
        have HB3 := Lib.hid (HB2.out.trans (hb3.mono HB2.out.size))
        have HO3 := Lib.hid (HO2.out.below hb3)
        have hz3 := HB3.out.size
        clear hb3 HO2 HB2 e0 e1 e2 e3
        have HO4 := Lib.hid (show w3.ownsRow w.heap.size 9 1 (.slice av k cv) k (txts L) by have h4 := HO3.out; unfold OwT at h4; rw [HKL.out] at h4; exact h4)
        clear HO3
        go_wp2_with (at_builtin; refine wpList_app1 _ rfl _ _ 22 9 rfl _ 1 16 [.string ⟨(ctext c).toArray⟩] (.string ByteArray.empty) Tryd.underlying22 infoStr rfl (by decide) rfl (by intro u hu; simp at hu; subst hu; rfl) _ _ _ HO4.out rfl rfl (by omega) (by omega) hz3 ?_)
        intro v5 w5 ho5 hw5 hb5
        have hB5 := hb5 _ w (Nat.le_refl _) HB3.out
        have ho6 : OwT w.heap.size w5 v5 ((cs.take (k + 1)).map ctext) := by
          rw [HTK.out]
          unfold OwT txts
          rw [List.length_append, HKL.out, List.map_append]
          exact ho5
        clear ho5 hw5 hb5 HO4 HB3 hz3
        go_wp2
        go_roundg (cs.length - (k + 1))
        case measure => omega
        case rel => exact ⟨k + 1, by omega, by go_num, ho6, hB5⟩
      · have hall : L = cs.map ctext := by rw [← HLE.out, List.take_of_length_le (by omega)]
        have HE := Lib.hid hall
        have HB := Lib.hid hbl
        clear ho hall hbl
        go_wp2
        go_ret
        have h6 := HO.out
        rw [HE.out] at h6
        exact ⟨.slice av k cv, rfl, h6, HB.out⟩
set_option maxRecDepth 100000 in
set_option maxHeartbeats 4000000 in
theorem implProgramText (v : Value) (cs : List Cd) (w : World) (h : RdC w v cs) (hL : LaidA w) : Calls Tryd.prog 23 #[v] w (NewT w (ptext cs)) := by
  have HR := Lib.hid h
  have HL := Lib.hid hL
  have HV := Lib.hid (implProgramValid _ cs w h)
  obtain ⟨a, n, b, off, rfl, hlc, hm, hb, hcell⟩ := h.form
  have HC := Lib.hid hcell
  clear h hcell hL
  cases hpv : pValid cs with
  | false =>
    rw [ptext_f hpv]
    rw [hpv] at HV
    clear hpv
    go_enter Tryd.func23, Tryd.ntmps23
    go_wp2_with fail
    refine HV.out.mono ?_
    rintro e w2 ⟨rfl, hb2⟩
    go_wp2
    go_ret
    exact ⟨_, rfl, OwT.nil _ _, hb2⟩
  | true =>
    rw [ptext_t hpv]
    rw [hpv] at HV
    have h40 := pValid_len hpv
    clear hpv
    go_enter Tryd.func23, Tryd.ntmps23
    go_wp2_with fail
    refine HV.out.mono ?_
    rintro e w2 ⟨rfl, hb2⟩
    have ho0 := OwT.nil w.heap.size w2
    clear HV
    go_wp2_with fail
    go_loopg [3, 11] cs.length (fun g v i wr => ∃ k : Nat, k + g = cs.length ∧ i = .int .i64 k ∧ OwT w.heap.size wr v ((cs.take k).map ctext) ∧ Below w.heap.size w wr)
    case atStart => exact ⟨0, by omega, rfl, ho0, hb2⟩
    case round =>
      clear ho0 hb2
      obtain ⟨k, hk, rfl, ho, hbl⟩ := hrel
      have hkl : ((cs.take k).map ctext).length = k := by simp; omega
      obtain ⟨L, hLe⟩ : ∃ L, (cs.take k).map ctext = L := ⟨_, rfl⟩
      rw [hLe] at ho hkl
      have HLE := Lib.hid hLe
      clear hLe
      obtain ⟨av, cv, hvv⟩ := own_shape ho
      rw [hkl] at hvv
      subst hvv
      have HO := Lib.hid ho
      have HKL := Lib.hid hkl
      clear hkl
      by_cases hlt : k < cs.length
      · obtain ⟨c, hx⟩ := get_lt hlt
        obtain ⟨rfl, c0, c1, c2, c3⟩ := HC.out k c hx
        have hne : cs ≠ [] := by rintro rfl; simp at hlt
        have hbw := hb hne
        have e0 := (hbl.cell (p := ⟨b, off + k * 4, none⟩) hbw).trans c0
        have e1 := (hbl.cell (p := ⟨b, off + k * 4 + 1, none⟩) hbw).trans c1
        have e2 := (hbl.cell (p := ⟨b, off + k * 4 + 2, none⟩) hbw).trans c2
        have e3 := (hbl.cell (p := ⟨b, off + k * 4 + 3, none⟩) hbw).trans c3
        have HTK := Lib.hid (show (cs.take (k + 1)).map ctext = L ++ [ctext c] by rw [take_snoc hx, List.map_append, HLE.out]; rfl)
        have hbx := hbl.trans ((boxNew wr (.cells #[.int .i64 c.op, .int .i64 c.a, .int .i64 c.b, .int .i64 c.c] 42)).mono hbl.size)
        have HOX := Lib.hid (HO.out.below (boxNew wr (.cells #[.int .i64 c.op, .int .i64 c.a, .int .i64 c.b, .int .i64 c.c] 42)))
        have HCT := Lib.hid (implCodeText c _ (HL.out.below hbx))
        have HBX := Lib.hid hbx
        clear ho hbl c0 c1 c2 c3 hx hbx HO
        go_wp2_with fail
        refine HCT.out.mono ?_
        rintro e w3 ⟨rfl, hb3⟩
        have HB3 := Lib.hid (HBX.out.trans (hb3.mono HBX.out.size))
        have HO3 := Lib.hid (HOX.out.below hb3)
        have hz3 := HB3.out.size
        have HO4 := Lib.hid (show w3.ownsRow w.heap.size 9 1 (.slice av k cv) k (txts L) by have h4 := HO3.out; unfold OwT at h4; rw [HKL.out] at h4; exact h4)
        clear hb3 HO3 HOX HBX HCT e0 e1 e2 e3
        go_wp2_with (at_builtin; refine wpList_app1 _ rfl _ _ 22 9 rfl _ 1 16 [.string ⟨(ctext c).toArray⟩] (.string ByteArray.empty) Tryd.underlying22 infoStr rfl (by decide) rfl (by intro u hu; simp at hu; subst hu; rfl) _ _ _ HO4.out rfl rfl (by omega) (by omega) hz3 ?_)
        intro v5 w5 ho5 hw5 hb5
        have hB5 := hb5 _ w (Nat.le_refl _) HB3.out
        have ho6 : OwT w.heap.size w5 v5 ((cs.take (k + 1)).map ctext) := by
          rw [HTK.out]
          unfold OwT txts
          rw [List.length_append, HKL.out, List.map_append]
          exact ho5
        clear ho5 hw5 hb5 HO4 HB3 hz3
        go_wp2
        go_roundg (cs.length - (k + 1))
        case measure => omega
        case rel => exact ⟨k + 1, by omega, by go_num, ho6, hB5⟩
      · have hall : L = cs.map ctext := by rw [← HLE.out, List.take_of_length_le (by omega)]
        have HE := Lib.hid hall
        have HB := Lib.hid hbl
        clear ho hall hbl
        go_wp2
        go_ret
        have h6 := HO.out
        rw [HE.out] at h6
        exact ⟨.slice av k cv, rfl, h6, HB.out⟩
/-- A program read from lines. -/
def rdP (ls : List (List UInt8)) : Option (List Cd) := match readsT ls with
  | some cs => if pValid cs = true then some cs else none
  | none => none
/-- Instructions in new memory, and whether there are any. -/
def NewP (w : World) (o : Option (List Cd)) (e : Ending) (w' : World) : Prop :=
  ∃ v, e = .returned (.tuple #[v, .bool o.isSome]) ∧ w'.ownsRow w.heap.size 42 4 v (o.getD []).length (cdCells (o.getD [])) ∧ Below w.heap.size w w'
theorem newP_no {w w' : World} {ls : List (List UInt8)} {v : Value} (h : rdP ls = none) (ho : w'.ownsRow w.heap.size 42 4 v 0 []) (hb : Below w.heap.size w w') : NewP w (rdP ls) (.returned (.tuple #[v, .bool false])) w' := by
  rw [h]; exact ⟨v, rfl, ho, hb⟩
theorem newP_yes {w w' : World} {ls : List (List UInt8)} {cs : List Cd} {v : Value} (h : rdP ls = some cs) (ho : w'.ownsRow w.heap.size 42 4 v cs.length (cdCells cs)) (hb : Below w.heap.size w w') : NewP w (rdP ls) (.returned (.tuple #[v, .bool true])) w' := by
  rw [h]; exact ⟨v, rfl, ho, hb⟩
theorem readsT_len : ∀ {ls : List (List UInt8)} {cs : List Cd}, readsT ls = some cs → cs.length = ls.length
  | [], cs, h => by cases h; rfl
  | l :: r, cs, h => by
    obtain ⟨h1, _⟩ := readsT_some h
    rw [h1, List.length_map]
theorem ownC_nil (B : Nat) (w : World) : w.ownsRow B 42 4 (.slice none 0 0) 0 [] := World.ownsRow_nil _ _ _ _
theorem ownC_lit (w : World) : (w.alloc (.cells #[] 42)).ownsRow w.heap.size 42 4 (.slice (some ⟨w.heap.size, 0, none⟩) 0 0) 0 [] := World.ownsRow_lit w #[] 0 (Nat.le_refl _) (by decide) rfl
theorem cds_wf {cs : List Cd} (h : ∀ c ∈ cs, cValid c = true) : ∀ c ∈ cs, c.wf := by
  intro c hc
  obtain ⟨h1, h2, h3, h4, h5, h6, h7, h8, _⟩ := cValid_bd (h c hc)
  exact ⟨WalkArith.wf_i64 (by omega), WalkArith.wf_i64 (by omega), WalkArith.wf_i64 (by omega), WalkArith.wf_i64 (by omega)⟩
end Go.Proofs.YtidmjeehcmpjnaaDoor
