/- YtidmjeehcmpjnaaDoorDrawR: lines drawn from bytes: some texts of at most 40 bytes, in new memory. No conditions. -/
import Derived.Test.YtidmjeehcmpjnaaDoorDrawP
import Derived.Test.YtidmjeehcmpjnaaDoorDrawX
import Derived.Test.YtidmjeehcmpjnaaDoorTxtT
namespace Go.Proofs.YtidmjeehcmpjnaaDoor
open Go.ChangeShapes Go.WideShapes Go.ChangeAt Go.RowKit
set_option linter.unusedVariables false
def LinesD (w : World) (e : Ending) (w' : World) : Prop := ∃ v l, e = .returned v ∧ OwT w.heap.size w' v l ∧ l.length ≤ 41 ∧ (∀ x ∈ l, x.length ≤ 40) ∧ Below w.heap.size w w'
theorem ptext_len40 (cs : List Cd) : (ptext cs).length ≤ 40 := by
  unfold ptext
  split
  · next h => have := pValid_len h; simpa using this
  · simp
theorem oneT (ls : List (List UInt8)) : ∀ u ∈ txts ls, u.oneCell' = true := by
  intro u hu
  obtain ⟨x, _, rfl⟩ := List.mem_map.1 hu
  rfl
set_option maxRecDepth 100000 in
set_option maxHeartbeats 4000000 in
theorem DrawReadProgram_any (v : Value) (bs0 : List Int) (w : World) (h : RdI .u8 w v bs0) : Calls Tryd.prog 29 #[v] w (LinesD w) := by
  have HR := Lib.hid h
  clear h
  go_enter Tryd.func29, Tryd.ntmps29
  go_wp2_with fail
  refine (open_any _ bs0 _ HR.out).mono ?_
  rintro e w1 ⟨a, rfl, hr1, ha, hb1⟩
  obtain ⟨bs, hbs⟩ : ∃ bs, bs0.take 2000 = bs := ⟨_, rfl⟩
  rw [hbs] at hr1
  clear hbs
  go_wp2_with fail
  refine (l20Program_any a bs 0 0 w1 hr1 (by omega) (by omega)).mono ?_
  rintro e w2 ⟨u, rfl, hD⟩
  obtain ⟨p2, hr2, hp2⟩ := hD.rd
  obtain ⟨cs, ho, hl, hin⟩ := hD.own
  have hB2 := Below.wr hb1 hD.wr hb1.size (fun k hk => by omega)
  have hal := hr2.lt
  have HU := Lib.hid (rdC_of_owns ho (fun c hc => (hin c hc).wf))
  have HB2 := Lib.hid hB2
  have hz2 := hB2.size
  clear hD hr1 hb1 ho hin hl hB2
  obtain ⟨P, hP⟩ : ∃ P, ptext cs = P := ⟨_, rfl⟩
  have CS := Lib.hid (specProgramText u cs w2 HU.out)
  have HPX := Lib.hid (ptext_fit cs)
  have hpl := ptext_len40 cs
  rw [hP] at CS HPX hpl
  clear hP
  go_wp2_with fail
  refine CS.out.mono ?_
  rintro e w3 ⟨v4, rfl, ho4, hb3⟩
  have hB3 := HB2.out.trans (hb3.mono HB2.out.size)
  have hr3 := hr2.below hb3 (Nat.le_refl _)
  have hz3 := hb3.size
  clear HB2 HU CS hb3 hr2
  go_wp2_with fail
  refine (odd_any a bs p2 3 w3 hr3 (by omega) (by omega) (by omega)).mono ?_
  rintro e w4 ⟨rfl, ⟨p4, hr4, _, hp4, _⟩, hw4⟩
  have hB4 := Below.wr hB3 hw4 hB3.size (fun k hk => by omega)
  have ho5 := ho4.wr hw4 (fun k hk hh => by have := own_ge ho4 k hk; omega)
  have HB4 := Lib.hid hB4
  have HO5 := Lib.hid ho5
  have hz4 := hw4.size
  clear hB3 hr3 ho4 hw4 ho5 hB4
  cases oddV bs p2 3 with
  | false =>
    go_wp2
    go_ret
    exact ⟨v4, P, rfl, own_mono HO5.out hz2, by omega, fun x hx => by have := HPX.out x hx; omega, HB4.out⟩
  | true =>
    go_wp2_with fail
    refine (pick_any a bs p4 3 w4 hr4 (by omega) (by omega)).mono ?_
    rintro e w5 ⟨rfl, hr5, hw5⟩
    have hpb := (pickV_bd bs p4 3).1
    have hpc := (pickV_bd bs p4 3).2 (by decide)
    have HB5 := Lib.hid (Below.wr HB4.out hw5 HB4.out.size (fun k hk => by omega))
    have HO6 := Lib.hid (HO5.out.wr hw5 (fun k hk hh => by have := own_ge HO5.out k hk; omega))
    have hz5 : w2.heap.size ≤ w5.heap.size := by have := hw5.size; omega
    clear hr4 hw5 HB4 HO5 hz3 hz4
    obtain ⟨Y, hY⟩ : ∃ Y, pickV bs p4 3 = Y := ⟨_, rfl⟩
    rw [hY] at hpb hpc ⊢
    clear hY
    obtain ⟨la, lc, hv4⟩ := own_shape HO6.out
    subst hv4
    have hY3 : Y = 0 ∨ Y = 1 ∨ Y = 2 := by omega
    clear hpb hpc
    rcases hY3 with rfl | rfl | rfl
    · go_wp2_with fail
      refine (l20Text_any a bs (p4 + 1) 1 w5 hr5 (by omega) (by omega) (by omega)).mono ?_
      rintro e w6 ⟨l, rfl, hll, p6, _, _, hw6⟩
      have HB6 := Lib.hid (Below.wr HB5.out hw6 HB5.out.size (fun k hk => by omega))
      have HO7 := Lib.hid (HO6.out.wr hw6 (fun k hk hh => by have := own_ge HO6.out k hk; omega))
      have hz6 : w2.heap.size ≤ w6.heap.size := by have := hw6.size; omega
      clear hr5 hw6 HB5 HO6
      go_wp2_with (at_builtin; refine wpList_app1 _ rfl _ _ 22 9 rfl _ 1 16 [.string ⟨l.toArray⟩] (.string ByteArray.empty) Tryd.underlying22 infoStr rfl (by decide) rfl (by intro u hu; simp at hu; subst hu; rfl) _ _ _ HO7.out rfl rfl (by omega) (by omega) hz6 ?_)
      intro v5 w7 ho7 hw7 hb7
      have hB7 := hb7 _ w (by omega) HB6.out
      have ho8 : OwT w2.heap.size w7 v5 (P ++ [l]) := by
        unfold OwT txts
        rw [List.length_append, List.map_append]
        exact ho7
      clear ho7 hw7 hb7 HO7 HB6 hz6
      go_wp2
      go_ret
      exact ⟨v5, _, rfl, own_mono ho8 hz2, by simp; omega, fun x hx => by
        rcases List.mem_append.1 hx with hx | hx
        · have := HPX.out x hx; omega
        · simp at hx; subst hx; omega, hB7⟩
    · clear hr5
      go_wp2_with (at_builtin; refine wpList_app1 _ rfl _ _ 22 9 rfl _ 1 16 [.string ⟨#[101, 110, 100]⟩] (.string ByteArray.empty) Tryd.underlying22 infoStr rfl (by decide) rfl (by intro u hu; simp at hu; subst hu; rfl) _ _ _ HO6.out rfl rfl (by omega) (by omega) hz5 ?_)
      intro v5 w7 ho7 hw7 hb7
      have hB7 := hb7 _ w (by omega) HB5.out
      have ho8 : OwT w2.heap.size w7 v5 (P ++ [[101, 110, 100]]) := by
        unfold OwT txts
        rw [List.length_append, List.map_append]
        exact ho7
      clear ho7 hw7 hb7 HO6 HB5
      go_wp2
      go_ret
      exact ⟨v5, _, rfl, own_mono ho8 hz2, by simp; omega, fun x hx => by
        rcases List.mem_append.1 hx with hx | hx
        · have := HPX.out x hx; omega
        · simp at hx; subst hx; decide, hB7⟩
    · clear hr5
      have ho0 := OwT.lit1 w5 [108, 111, 111, 112, 32, 48, 32, 49]
      have HO0 := Lib.hid ho0
      have HOP := Lib.hid (HO6.out.below (boxNew w5 (.cells #[.string ⟨[108, 111, 111, 112, 32, 48, 32, 49].toArray⟩] 9)))
      have HBx := Lib.hid (HB5.out.trans ((boxNew w5 (.cells #[.string ⟨[108, 111, 111, 112, 32, 48, 32, 49].toArray⟩] 9)).mono HB5.out.size))
      have hzx := HB5.out.size
      clear ho0 HO6 HB5
      go_wp2_with (at_builtin; refine wpList_app2g _ rfl _ _ 22 9 rfl _ _ 1 16 (.string ByteArray.empty) Tryd.underlying22 infoStr rfl (by decide) _ _ _ _ _ _ HO0.out HOP.out (oneT P) rfl rfl (by simp; omega) (by simp; omega) (by simp) ?_)
      intro v5 w7 ho7 hw7 hb7
      have hB7 := hb7 _ w hzx HBx.out
      have ho8 : OwT w5.heap.size w7 v5 ([[108, 111, 111, 112, 32, 48, 32, 49]] ++ P) := by
        unfold OwT txts
        rw [List.length_append, List.map_append]
        exact ho7
      clear ho7 hw7 hb7 HO0 HOP HBx
      go_wp2
      go_ret
      exact ⟨v5, _, rfl, own_mono ho8 hzx, by simp; omega, fun x hx => by
        rcases List.mem_append.1 hx with hx | hx
        · simp at hx; subst hx; decide
        · have := HPX.out x hx; omega, hB7⟩
end Go.Proofs.YtidmjeehcmpjnaaDoor
