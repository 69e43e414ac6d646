/- YtjipalpachcamaaPgmB: the block around a place, its depth, the end of a block: what the program and the reference return. No conditions. -/
import Derived.Test.YtjipalpachcamaaPgmI
import Derived.Test.YtjipalpachcamaaPgmA
namespace Go.Proofs.Ytjipalpachcamaa
open Go.ChangeShapes Go.WideShapes Go.ChangeAt Go.RowKit
set_option linter.unusedVariables false

def inP (cs : List Cd) (at' : Int) : Bool := inB at' 0 ((cs.length : Int) - 1)
def bAround (cs : List Cd) (i : Int) : Int := if pValid cs && inP cs i then arnd cs i.toNat else -1
def bDepth (cs : List Cd) (i : Int) : Int := if pValid cs && inP cs i then (depth cs i.toNat : Int) else -1
def opAt (cs : List Cd) (i : Int) : Bool := isOp ((cs[i.toNat]?).getD cd0)
def bEnds (cs : List Cd) (i : Int) : Int × Int := if pValid cs && (inP cs i && opAt cs i) then bEnd cs i.toNat else (-1, -1)
theorem inP_nat {cs : List Cd} {i : Int} (h : inP cs i = true) : ∃ p : Nat, i = p ∧ p < cs.length := by
  have := inB_i h
  exact ⟨i.toNat, by omega, by omega⟩
theorem around_no1 {cs : List Cd} (i : Int) (h : pValid cs = false) : bAround cs i = -1 ∧ bDepth cs i = -1 ∧ bEnds cs i = (-1, -1) := by simp [bAround, bDepth, bEnds, h]
theorem around_no2 {cs : List Cd} {i : Int} (h : inP cs i = false) : bAround cs i = -1 ∧ bDepth cs i = -1 ∧ bEnds cs i = (-1, -1) := by simp [bAround, bDepth, bEnds, h]
theorem around_yes {cs : List Cd} {i : Int} (h : pValid cs = true) (h2 : inP cs i = true) : bAround cs i = arnd cs i.toNat ∧ bDepth cs i = (depth cs i.toNat : Int) := by simp [bAround, bDepth, h, h2]
theorem ends_yes {cs : List Cd} {p : Nat} {c : Cd} (h : pValid cs = true) (h2 : inP cs p = true) (hc : cs[p]? = some c) (ho : isOp c = true) : bEnds cs (p : Int) = bEnd cs p := by simp [bEnds, opAt, h, h2, hc, ho]
theorem ends_no {cs : List Cd} {p : Nat} {c : Cd} (hc : cs[p]? = some c) (ho : isOp c = false) : bEnds cs (p : Int) = (-1, -1) := by simp [bEnds, opAt, hc, ho]
set_option maxRecDepth 100000 in
set_option maxHeartbeats 4000000 in
theorem specBlockAround (v : Value) (cs : List Cd) (i : Int) (w : World) (h : RdC w v cs) : Calls Try.prog 46 #[v, .int .i64 i] w fun e w' => e = .returned (.int .i64 (bAround cs i)) ∧ Below w.heap.size w w' := by
  have HPV := Lib.hid (specProgramValid v cs w h)
  have HR := Lib.hid h
  obtain ⟨a, n, hv, hlc, hm⟩ := h.shape
  subst hv
  cases hpv : pValid cs
  · have HN := Lib.hid (around_no1 i hpv).1
    rw [hpv] at HPV
    clear hpv
    go_enter Try.func46, Try.ntmps46
    go_wp2_with fail
    refine HPV.out.mono ?_
    rintro e w1 ⟨rfl, hB1⟩
    go_wp2
    go_ret
    exact ⟨by rw [HN.out]; rfl, hB1⟩
  · have HV := Lib.hid hpv
    rw [hpv] at HPV
    clear hpv
    cases hin : inP cs i
    · have HN := Lib.hid (around_no2 hin).1
      unfold inP at hin
      go_enter Try.func46, Try.ntmps46
      go_wp2_with fail
      refine HPV.out.mono ?_
      rintro e w1 ⟨rfl, hB1⟩
      go_wp2_with (go_at_call 56; refine (l1In_any _ _ _ _).mono ?_; rintro e w' ⟨rfl, rfl⟩)
      go_ret
      exact ⟨by rw [HN.out]; rfl, hB1⟩
    · have HI := Lib.hid hin
      obtain ⟨p, rfl, hpl⟩ := inP_nat hin
      unfold inP at hin
      have HN : Hid (bAround cs (p : Int) = arnd cs p) := Lib.hid ((around_yes HV.out HI.out).1.trans (by simp))
      go_enter Try.func46, Try.ntmps46
      go_wp2_with fail
      refine HPV.out.mono ?_
      rintro e w1 ⟨rfl, hB1⟩
      have hR := HR.out.below hB1 (Nat.le_refl _)
      go_wp2_with (first | (go_at_call 56; refine (l1In_any _ _ _ _).mono ?_; rintro e w' ⟨rfl, rfl⟩) | (go_at_call 63; refine (l4Around_any _ cs p _ hR (by omega)).mono ?_; rintro e w2 ⟨rfl, hb2⟩))
      have hB2 := hB1.trans (hb2.mono hB1.size)
      go_ret
      exact ⟨by rw [HN.out]; rfl, hB2⟩
set_option maxRecDepth 100000 in
set_option maxHeartbeats 4000000 in
theorem specDepthAt (v : Value) (cs : List Cd) (i : Int) (w : World) (h : RdC w v cs) : Calls Try.prog 34 #[v, .int .i64 i] w fun e w' => e = .returned (.int .i64 (bDepth cs i)) ∧ Below w.heap.size w w' := by
  have HPV := Lib.hid (specProgramValid v cs w h)
  have HR := Lib.hid h
  obtain ⟨a, n, hv, hlc, hm⟩ := h.shape
  subst hv
  cases hpv : pValid cs
  · have HN := Lib.hid (around_no1 i hpv).2.1
    rw [hpv] at HPV
    clear hpv
    go_enter Try.func34, Try.ntmps34
    go_wp2_with fail
    refine HPV.out.mono ?_
    rintro e w1 ⟨rfl, hB1⟩
    go_wp2
    go_ret
    exact ⟨by rw [HN.out]; rfl, hB1⟩
  · have HV := Lib.hid hpv
    rw [hpv] at HPV
    clear hpv
    cases hin : inP cs i
    · have HN := Lib.hid (around_no2 hin).2.1
      unfold inP at hin
      go_enter Try.func34, Try.ntmps34
      go_wp2_with fail
      refine HPV.out.mono ?_
      rintro e w1 ⟨rfl, hB1⟩
      go_wp2_with (go_at_call 56; refine (l1In_any _ _ _ _).mono ?_; rintro e w' ⟨rfl, rfl⟩)
      go_ret
      exact ⟨by rw [HN.out]; rfl, hB1⟩
    · have HI := Lib.hid hin
      obtain ⟨p, rfl, hpl⟩ := inP_nat hin
      unfold inP at hin
      have HN : Hid (bDepth cs (p : Int) = (depth cs p : Int)) := Lib.hid ((around_yes HV.out HI.out).2.trans (by simp))
      have hd3 := depth_le HV.out (Nat.le_of_lt hpl)
      go_enter Try.func34, Try.ntmps34
      go_wp2_with fail
      refine HPV.out.mono ?_
      rintro e w1 ⟨rfl, hB1⟩
      have hR := HR.out.below hB1 (Nat.le_refl _)
      go_wp2_with (first | (go_at_call 56; refine (l1In_any _ _ _ _).mono ?_; rintro e w' ⟨rfl, rfl⟩) | (go_at_call 63; refine (l4Around_any _ cs p _ hR (by omega)).mono ?_; rintro e w2 ⟨rfl, hb2⟩))
      have hB2 := hB1.trans (hb2.mono hB1.size)
      clear hR hb2
      go_loopg [5, 6] (depth cs p) (fun g m i wr => ∃ (q t : Nat), q < cs.length ∧ i = .int .i64 (arnd cs q) ∧ m = .int .i64 (t : Int) ∧ depth cs q = g ∧ t + g = depth cs p ∧ Below w.heap.size w wr)
      case atStart => exact ⟨p, 0, hpl, rfl, rfl, rfl, by omega, hB2⟩
      case round =>
        clear hB2 hB1
        obtain ⟨q, t, hq, rfl, rfl, hdq, htg, hbl⟩ := hrel
        rcases depth_arnd HV.out (Nat.le_of_lt hq) with ⟨ha, hd0⟩ | ⟨m, ha, hm1, hdm⟩
        · have HT : Hid (t = depth cs p) := Lib.hid (by omega)
          rw [ha]
          clear ha hd0 hdq htg
          go_wp2
          go_ret
          exact ⟨by rw [HN.out, ← HT.out]; rfl, hbl⟩
        · rw [ha]
          have hR := HR.out.below hbl (Nat.le_refl _)
          have HDM : Hid (depth cs m = gk - 1) := Lib.hid (by omega)
          have hgk : 1 ≤ gk := by omega
          have htg2 : t + gk ≤ 3 := by omega
          have HTG := Lib.hid htg
          clear ha hdq hdm htg
          go_wp2_with (go_at_call 63; refine (l4Around_any _ cs m _ hR (by omega)).mono ?_; rintro e w2 ⟨rfl, hb2⟩)
          have hB3 := hbl.trans (hb2.mono hbl.size)
          clear hb2 hR
          go_roundg (gk - 1)
          case measure => omega
          case rel => exact ⟨m, t + 1, by omega, rfl, by go_num, HDM.out, by have := HTG.out; omega, hB3⟩
set_option maxRecDepth 100000 in
set_option maxHeartbeats 4000000 in
theorem specBlockEnd (v : Value) (cs : List Cd) (i : Int) (w : World) (h : RdC w v cs) : Calls Try.prog 44 #[v, .int .i64 i] w fun e w' => e = .returned (.tuple #[.int .i64 (bEnds cs i).1, .int .i64 (bEnds cs i).2]) ∧ Below w.heap.size w w' := by
  have HPV := Lib.hid (specProgramValid v cs w h)
  have HR := Lib.hid h
  obtain ⟨a, n, hv, hlc, hm⟩ := h.shape
  subst hv
  cases hpv : pValid cs
  · have HN := Lib.hid (around_no1 i hpv).2.2
    rw [hpv] at HPV
    clear hpv
    go_enter Try.func44, Try.ntmps44
    go_wp2_with fail
    refine HPV.out.mono ?_
    rintro e w1 ⟨rfl, hB1⟩
    go_wp2
    go_ret2
    exact ⟨by rw [HN.out]; rfl, hB1⟩
  · have HV := Lib.hid hpv
    rw [hpv] at HPV
    clear hpv
    cases hin : inP cs i
    · have HN := Lib.hid (around_no2 hin).2.2
      unfold inP at hin
      go_enter Try.func44, Try.ntmps44
      go_wp2_with fail
      refine HPV.out.mono ?_
      rintro e w1 ⟨rfl, hB1⟩
      go_wp2_with (go_at_call 56; refine (l1In_any _ _ _ _).mono ?_; rintro e w' ⟨rfl, rfl⟩)
      go_ret2
      exact ⟨by rw [HN.out]; rfl, hB1⟩
    · have HI := Lib.hid hin
      obtain ⟨p, rfl, hpl⟩ := inP_nat hin
      unfold inP at hin
      obtain ⟨c, hx⟩ := get_lt hpl
      have HLO := Lib.hid (l4Opens_any c)
      have HX := Lib.hid hx
      obtain ⟨a', n', b, off, hv', _, _, hb, hcell⟩ := HR.out.opened
      obtain ⟨hblt, ha⟩ := hb (ne_of_get hx)
      simp only [Value.slice.injEq] at hv'
      obtain ⟨rfl, _, rfl⟩ := hv'
      subst ha
      cases hop : isOp c
      · have HN := Lib.hid (ends_no hx hop)
        rw [hop] at HLO
        clear hop hx
        go_enter Try.func44, Try.ntmps44
        go_wp2_with fail
        refine HPV.out.mono ?_
        rintro e w1 ⟨rfl, hB1⟩
        obtain ⟨e0, e1, e2, e3⟩ := hcell.get (a := some ⟨b, off, none⟩) (fun _ => ⟨hblt, rfl⟩) hB1 HX.out
        clear hb hcell
        go_wp2_with (first | (go_at_call 56; refine (l1In_any _ _ _ _).mono ?_; rintro e w' ⟨rfl, rfl⟩) | (go_at_call 67; refine (HLO.out _).mono ?_; rintro e w2 ⟨rfl, hb2⟩))
        have hB2 := hB1.trans (hb2.mono hB1.size)
        go_ret2
        exact ⟨by rw [HN.out]; rfl, hB2⟩
      · have HN := Lib.hid (ends_yes HV.out HI.out hx hop)
        rw [hop] at HLO
        clear hop hx
        go_enter Try.func44, Try.ntmps44
        go_wp2_with fail
        refine HPV.out.mono ?_
        rintro e w1 ⟨rfl, hB1⟩
        obtain ⟨e0, e1, e2, e3⟩ := hcell.get (a := some ⟨b, off, none⟩) (fun _ => ⟨hblt, rfl⟩) hB1 HX.out
        clear hb hcell
        go_wp2_with (first | (go_at_call 56; refine (l1In_any _ _ _ _).mono ?_; rintro e w' ⟨rfl, rfl⟩) | (go_at_call 67; refine (HLO.out _).mono ?_; rintro e w2 ⟨rfl, hb2⟩) | fail)
        have hB2 := hB1.trans (hb2.mono hB1.size)
        have hR := HR.out.below hB2 (Nat.le_refl _)
        clear e0 e1 e2 e3 hb2
        go_wp2_with (go_at_call 68; refine (l4End_any _ cs p _ hR hpl).mono ?_; rintro e w3 ⟨rfl, hb3⟩)
        have hB3 := hB2.trans (hb3.mono hB2.size)
        go_ret2
        exact ⟨by rw [HN.out]; rfl, hB3⟩
end Go.Proofs.Ytjipalpachcamaa
