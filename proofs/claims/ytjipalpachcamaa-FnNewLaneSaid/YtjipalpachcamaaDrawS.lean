/- YtjipalpachcamaaDrawS: the draws of a program and a place, and those from bytes: each returns instructions with numbers within bounds, in new memory. Conditions: a reader's place is at most 1000. -/
import Derived.Test.YtjipalpachcamaaDrawP
import Derived.Test.YtjipalpachcamaaPgmA
namespace Go.Proofs.Ytjipalpachcamaa
open Go.ChangeShapes Go.WideShapes Go.ChangeAt Go.RowKit
set_option linter.unusedVariables false
theorem DC.belowS {w0 w w' : World} {z a n : Nat} {bs : List Int} {q : Int} {v : Value} (h : DC w0 z a bs q n w v) (hb : Below w.heap.size w w') : DC w0 z a bs q n w' v := by
  obtain ⟨p, hr, hp⟩ := h.rd
  exact h.step (Wr.of_below hb) (hr.below hb (Nat.le_refl _)) hp
set_option maxRecDepth 100000 in
set_option maxHeartbeats 8000000 in
theorem l20Spot_any (a : Nat) (bs : List Int) (p : Int) (w : World) (h : Rdr w a bs p) (hp : p ≤ 1000) : Calls Try.prog 62 #[.pointer (some ⟨a, 0, none⟩)] w
    fun e w' => ∃ v i, e = .returned (.tuple #[v, .int .i64 i]) ∧ (-1 ≤ i ∧ i ≤ 150000) ∧ DC w w.heap.size a bs (p + 400000) 150000 w' v := by
  obtain ⟨z, hz⟩ : ∃ z, w.heap.size = z := ⟨_, rfl⟩
  have HZ := Lib.hid hz
  clear hz
  go_enter Try.func62, Try.ntmps62
  go_wp2_with fail
  refine (l20Program_any a bs p 14 _ h hp (by omega)).mono ?_
  rintro e w1 ⟨v, rfl, hD1⟩
  rw [HZ.out] at hD1
  clear h
  obtain ⟨ad, len, cap, hv, hl1, hl2, hl3⟩ := hD1.shape
  subst hv
  go_wp2_with fail
  refine (pick_dc (len + 1) hD1 (by omega) (by omega)).mono ?_
  rintro e w2 ⟨I, rfl, hI0, hI1, hD2⟩
  clear hD1
  go_wp2_with fail
  refine (pick_dc 14 hD2 (by omega) (by omega)).mono ?_
  rintro e w3 ⟨J, rfl, hJ0, hJ1, hD3⟩
  clear hD2
  go_wp2_with fail
  refine (pick_dc 2 hD3 (by omega) (by omega)).mono ?_
  rintro e w4 ⟨Y, rfl, hY0, hY1, hD4⟩
  clear hD3
  by_cases hY : Y = 0
  · subst hY
    go_wp2_with fail
    go_loopg [5, 6] len (fun g at0 k wr => ∃ kk : Nat, kk + g = len ∧ k = .int .i64 kk ∧ ∃ i, at0 = .int .i64 i ∧ -1 ≤ i ∧ i ≤ 150000 ∧ ∃ q, DC w z a bs q 150000 wr (.slice ad len cap) ∧ q + g ≤ p + 400000)
    case atStart => exact ⟨0, by omega, rfl, _, rfl, by omega, by omega, _, hD4, by omega⟩
    case round =>
      clear hD4
      obtain ⟨kk, hk, rfl, i, rfl, hi0, hi1, q, hD, hq⟩ := hrel
      by_cases hlt : kk < len
      · obtain ⟨g, rfl, hgl, hga, ⟨x0, x1, x2, x3, e0, e1, e2, e3⟩, _⟩ := hD.at kk hlt
        have HDD := Lib.hid hD
        clear hD
        go_wp2_with fail
        refine (l4Opens_any ⟨x0, x1, x2, x3⟩ _).mono ?_
        rintro e w5 ⟨rfl, hb5⟩
        have hD5 := HDD.out.belowS hb5
        clear e0 e1 e2 e3 HDD hb5 hgl hga
        generalize isOp ⟨x0, x1, x2, x3⟩ = B
        cases B
        · go_wp2
          go_roundg (len - (kk + 1))
          case measure => omega
          case rel => exact ⟨kk + 1, by omega, by go_num, _, rfl, by omega, by omega, _, hD5, by omega⟩
        · go_wp2_with fail
          refine (pick_dc 2 hD5 (by omega) (by omega)).mono ?_
          rintro e w6 ⟨Y, rfl, hY0, hY1, hD6⟩
          clear hD5
          by_cases hY : Y = 0
          · subst hY
            go_wp2
            go_roundg (len - (kk + 1))
            case measure => omega
            case rel => exact ⟨kk + 1, by omega, by go_num, _, rfl, by omega, by omega, _, hD6, by omega⟩
          · have hyb : (Y == 0) = false := by simpa using hY
            go_wp2
            go_roundg (len - (kk + 1))
            case measure => omega
            case rel => exact ⟨kk + 1, by omega, by go_num, _, rfl, by omega, by omega, _, hD6, by omega⟩
      · have hlt2 : (len : Int) ≤ kk := by omega
        go_wp2
        go_ret2
        exact ⟨_, _, rfl, ⟨by omega, by omega⟩, by rw [HZ.out]; exact hD.mono (by omega) (Nat.le_refl _)⟩
  · have hyb : (Y == 0) = false := by simpa using hY
    go_wp2
    go_ret2
    exact ⟨_, _, rfl, ⟨by omega, by omega⟩, by rw [HZ.out]; exact hD4.mono (by omega) (Nat.le_refl _)⟩
/-- A program drawn, in new memory; old memory unchanged. -/
def PgmDB (w : World) (v : Value) (w' : World) : Prop :=
  ∃ cs : List Cd, w'.ownsRow w.heap.size 24 4 v cs.length (cdCells cs) ∧ cs.length ≤ 150000 ∧ (∀ c ∈ cs, cdIn c) ∧ Below w.heap.size w w'
theorem DC.bytes {w w1 w' : World} {z a n : Nat} {bs : List Int} {q : Int} {v : Value} (h : DC w1 z a bs q n w' v) (hb : Below w.heap.size w w1) (ha : w.heap.size ≤ a) (hn : n ≤ 150000) : PgmDB w v w' := by
  obtain ⟨cs, ho, h1, h2⟩ := h.own
  have h3 := h.base
  have h4 := hb.size
  exact ⟨cs, own_mono ho (by omega), by omega, h2, Below.wr hb h.wr h4 (fun k hk => by omega)⟩

set_option maxHeartbeats 4000000 in
theorem DrawProgramValid_any (v : Value) (bs0 : List Int) (w : World) (h : RdI .u8 w v bs0) : Calls Try.prog 25 #[v] w (fun e w' => ∃ v, e = .returned v ∧ PgmDB w v w') := by
  obtain ⟨bs, hbs⟩ : ∃ bs, bs = bs0.take 2000 := ⟨_, rfl⟩
  go_enter Try.func25, Try.ntmps25
  go_wp2_with fail
  refine (open_any _ bs0 _ h).mono ?_
  rintro e w1 ⟨a, rfl, hr1, ha, hb1⟩
  rw [← hbs] at hr1
  clear hbs h
  go_wp2_with fail
  refine (l20Program_any a bs 0 2 w1 hr1 (by omega) (by omega)).mono ?_
  rintro e w2 ⟨u, rfl, hD⟩
  have hF := hD.bytes hb1 ha (Nat.le_refl _)
  clear hb1 hr1 hD
  go_wp2
  go_ret
  exact ⟨_, rfl, hF⟩
set_option maxHeartbeats 4000000 in
theorem DrawCountOps_any (v : Value) (bs0 : List Int) (w : World) (h : RdI .u8 w v bs0) : Calls Try.prog 28 #[v] w (fun e w' => ∃ v i, e = .returned (.tuple #[v, .int .i64 i]) ∧ (-1 ≤ i ∧ i ≤ 150000) ∧ PgmDB w v w') := by
  obtain ⟨bs, hbs⟩ : ∃ bs, bs = bs0.take 2000 := ⟨_, rfl⟩
  go_enter Try.func28, Try.ntmps28
  go_wp2_with fail
  refine (open_any _ bs0 _ h).mono ?_
  rintro e w1 ⟨a, rfl, hr1, ha, hb1⟩
  rw [← hbs] at hr1
  clear hbs h
  go_wp2_with fail
  refine (l20Program_any a bs 0 12 w1 hr1 (by omega) (by omega)).mono ?_
  rintro e w2 ⟨u, rfl, hD⟩
  clear hr1
  go_wp2_with fail
  refine (pick_dc 16 hD (by omega) (by omega)).mono ?_
  rintro e w3 ⟨I, rfl, hI0, hI1, hD3⟩
  have hF := hD3.bytes hb1 ha (Nat.le_refl _)
  clear hb1 hD hD3
  go_wp2
  go_ret2
  exact ⟨_, _, rfl, ⟨by omega, by omega⟩, hF⟩
set_option maxHeartbeats 4000000 in
theorem DrawBlockEnd_any (v : Value) (bs0 : List Int) (w : World) (h : RdI .u8 w v bs0) : Calls Try.prog 42 #[v] w (fun e w' => ∃ v i, e = .returned (.tuple #[v, .int .i64 i]) ∧ (-1 ≤ i ∧ i ≤ 150000) ∧ PgmDB w v w') := by
  obtain ⟨bs, hbs⟩ : ∃ bs, bs = bs0.take 2000 := ⟨_, rfl⟩
  go_enter Try.func42, Try.ntmps42
  go_wp2_with fail
  refine (open_any _ bs0 _ h).mono ?_
  rintro e w1 ⟨a, rfl, hr1, ha, hb1⟩
  rw [← hbs] at hr1
  clear hbs h
  go_wp2_with fail
  refine (l20Spot_any a bs 0 w1 hr1 (by omega)).mono ?_
  rintro e w2 ⟨u, i, rfl, hi, hD⟩
  have hF := hD.bytes hb1 ha (Nat.le_refl _)
  clear hb1 hr1 hD
  go_wp2
  go_ret2
  exact ⟨_, _, rfl, hi, hF⟩
set_option maxHeartbeats 4000000 in
theorem DrawBlockAround_any (v : Value) (bs0 : List Int) (w : World) (h : RdI .u8 w v bs0) : Calls Try.prog 45 #[v] w (fun e w' => ∃ v i, e = .returned (.tuple #[v, .int .i64 i]) ∧ (-1 ≤ i ∧ i ≤ 150000) ∧ PgmDB w v w') := by
  obtain ⟨bs, hbs⟩ : ∃ bs, bs = bs0.take 2000 := ⟨_, rfl⟩
  go_enter Try.func45, Try.ntmps45
  go_wp2_with fail
  refine (open_any _ bs0 _ h).mono ?_
  rintro e w1 ⟨a, rfl, hr1, ha, hb1⟩
  rw [← hbs] at hr1
  clear hbs h
  go_wp2_with fail
  refine (l20Spot_any a bs 0 w1 hr1 (by omega)).mono ?_
  rintro e w2 ⟨u, i, rfl, hi, hD⟩
  have hF := hD.bytes hb1 ha (Nat.le_refl _)
  clear hb1 hr1 hD
  go_wp2
  go_ret2
  exact ⟨_, _, rfl, hi, hF⟩
set_option maxHeartbeats 4000000 in
theorem DrawDepthAt_any (v : Value) (bs0 : List Int) (w : World) (h : RdI .u8 w v bs0) : Calls Try.prog 32 #[v] w (fun e w' => ∃ v i, e = .returned (.tuple #[v, .int .i64 i]) ∧ (-1 ≤ i ∧ i ≤ 150000) ∧ PgmDB w v w') := by
  obtain ⟨bs, hbs⟩ : ∃ bs, bs = bs0.take 2000 := ⟨_, rfl⟩
  go_enter Try.func32, Try.ntmps32
  go_wp2_with fail
  refine (open_any _ bs0 _ h).mono ?_
  rintro e w1 ⟨a, rfl, hr1, ha, hb1⟩
  rw [← hbs] at hr1
  clear hbs h
  go_wp2_with fail
  refine (l20Spot_any a bs 0 w1 hr1 (by omega)).mono ?_
  rintro e w2 ⟨u, i, rfl, hi, hD⟩
  have hF := hD.bytes hb1 ha (Nat.le_refl _)
  clear hb1 hr1 hD
  go_wp2
  go_ret2
  exact ⟨_, _, rfl, hi, hF⟩
end Go.Proofs.Ytjipalpachcamaa
