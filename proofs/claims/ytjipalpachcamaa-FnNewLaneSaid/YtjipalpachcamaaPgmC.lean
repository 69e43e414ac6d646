/- YtjipalpachcamaaPgmC: the block around a place, its depth, the end of a block: what the program returns. No conditions. -/
import Derived.Test.YtjipalpachcamaaPgmB
import Derived.Test.YtjipalpachcamaaCodeN
namespace Go.Proofs.Ytjipalpachcamaa
open Go.ChangeShapes Go.WideShapes Go.ChangeAt Go.RowKit
set_option linter.unusedVariables false

set_option maxRecDepth 100000 in
set_option maxHeartbeats 4000000 in
theorem implBlockAround (v : Value) (cs : List Cd) (i : Int) (w : World) (h : RdC w v cs) : Calls Try.prog 41 #[v, .int .i64 i] w fun e w' => e = .returned (.int .i64 (bAround cs i)) ∧ Below w.heap.size w w' := by
  have HPV := Lib.hid (implProgramValid v cs w h)
  have HR := Lib.hid h
  obtain ⟨a, n, hv, hlc, hm⟩ := h.shape
  subst hv
  cases hpv : pValid cs
  · have HN := Lib.hid (around_no1 i hpv).1
    rw [hpv] at HPV
    clear hpv
    go_enter Try.func41, Try.ntmps41
    go_wp2_with fail
    refine HPV.out.mono ?_
    rintro e w1 ⟨rfl, hB1⟩
    go_wp2
    go_ret
    exact ⟨by rw [HN.out]; rfl, hB1⟩
  · have HV := Lib.hid hpv
    rw [hpv] at HPV
    clear hpv
    cases hin : inP cs i
    · have HN := Lib.hid (around_no2 hin).1
      unfold inP at hin
      go_enter Try.func41, Try.ntmps41
      go_wp2_with fail
      refine HPV.out.mono ?_
      rintro e w1 ⟨rfl, hB1⟩
      go_wp2_with (go_at_call 55; refine (within_any _ _ _ _).mono ?_; rintro e w' ⟨rfl, rfl⟩)
      go_ret
      exact ⟨by rw [HN.out]; rfl, hB1⟩
    · have HI := Lib.hid hin
      obtain ⟨p, rfl, hpl⟩ := inP_nat hin
      unfold inP at hin
      have h40 := pValid_len HV.out
      obtain ⟨s, hs, hI⟩ := pValid_stk HV.out (Nat.le_of_lt hpl)
      have HS := Lib.hid hs
      have hdeep := hI.deep
      have har := arnd_eq (Nat.le_of_lt hpl) hs
      have HN : Hid (bAround cs (p : Int) = topP s[0]?) := Lib.hid ((around_yes HV.out HI.out).1.trans (by simpa using har))
      have hfO := fun (f : Fr) (hf : s[0]? = some f) => hI.code 0 f hf
      clear har hI hs
      go_enter Try.func41, Try.ntmps41
      go_wp2_with fail
      refine HPV.out.mono ?_
      rintro e w1 ⟨rfl, hB1⟩
      have hR := HR.out.below hB1 (Nat.le_refl _)
      go_wp2_with (go_at_call 55; refine (within_any _ _ _ _).mono ?_; rintro e w' ⟨rfl, rfl⟩)
      have hR2 := hR
      refine (implBlocks _ cs _ hR (by omega)).mono ?_
      rintro e w2 ⟨va, vo, rfl, hbk, hb2⟩
      have hok : sOk cs = true := by have h2 := HV.out; simp only [pValid, Bool.and_eq_true] at h2; exact h2.2.2
      have hB2 := hB1.trans (hb2.mono hB1.size)
      obtain ⟨A, O, ad, rfl, rfl, _, _, _, _, _, k8, k9, k10⟩ := hbk hok
      obtain ⟨aa, cc, q0, q1, q2, q3⟩ := k10 p s hpl HS.out
      cases s with
      | nil =>
        simp only [List.length_nil] at q0 q1
        clear k8 k9 k10 q3 hfO hbk hb2 hR hR2 hok
        go_wp2
        go_ret
        exact ⟨by rw [HN.out]; rfl, hB2⟩
      | cons f r =>
        obtain ⟨g, rfl, _, _, q4⟩ := q3 (by simp)
        have q5 : w2.cell? ⟨g, r.length, none⟩ = some (ptr ad f) := by simpa using q4 0 f rfl
        obtain ⟨hfo, cf, hcf, hcfo⟩ := hfO f rfl
        obtain ⟨_, _, q6, _, _⟩ := k9 f.p ⟨cf, hcf, by rw [hcfo]; exact hfo⟩
        simp only [List.length_cons] at q0 q1 hdeep
        unfold ptr at q5
        clear k8 k9 k10 q3 q4 hfO hbk hb2 hR hR2 hok hcf hcfo hfo
        go_wp2
        go_ret
        exact ⟨by rw [HN.out]; rfl, hB2⟩
set_option maxRecDepth 100000 in
set_option maxHeartbeats 4000000 in
theorem implDepthAt (v : Value) (cs : List Cd) (i : Int) (w : World) (h : RdC w v cs) : Calls Try.prog 33 #[v, .int .i64 i] w fun e w' => e = .returned (.int .i64 (bDepth cs i)) ∧ Below w.heap.size w w' := by
  have HPV := Lib.hid (implProgramValid v cs w h)
  have HR := Lib.hid h
  obtain ⟨a, n, hv, hlc, hm⟩ := h.shape
  subst hv
  cases hpv : pValid cs
  · have HN := Lib.hid (around_no1 i hpv).2.1
    rw [hpv] at HPV
    clear hpv
    go_enter Try.func33, Try.ntmps33
    go_wp2_with fail
    refine HPV.out.mono ?_
    rintro e w1 ⟨rfl, hB1⟩
    go_wp2
    go_ret
    exact ⟨by rw [HN.out]; rfl, hB1⟩
  · have HV := Lib.hid hpv
    rw [hpv] at HPV
    clear hpv
    cases hin : inP cs i
    · have HN := Lib.hid (around_no2 hin).2.1
      unfold inP at hin
      go_enter Try.func33, Try.ntmps33
      go_wp2_with fail
      refine HPV.out.mono ?_
      rintro e w1 ⟨rfl, hB1⟩
      go_wp2_with (go_at_call 55; refine (within_any _ _ _ _).mono ?_; rintro e w' ⟨rfl, rfl⟩)
      go_ret
      exact ⟨by rw [HN.out]; rfl, hB1⟩
    · have HI := Lib.hid hin
      obtain ⟨p, rfl, hpl⟩ := inP_nat hin
      unfold inP at hin
      have h40 := pValid_len HV.out
      obtain ⟨s, hs, hI⟩ := pValid_stk HV.out (Nat.le_of_lt hpl)
      have HS := Lib.hid hs
      have hdeep := hI.deep
      have HN : Hid (bDepth cs (p : Int) = (s.length : Int)) := Lib.hid ((around_yes HV.out HI.out).2.trans (by simp [depth, hs]))
      clear hI hs
      go_enter Try.func33, Try.ntmps33
      go_wp2_with fail
      refine HPV.out.mono ?_
      rintro e w1 ⟨rfl, hB1⟩
      have hR := HR.out.below hB1 (Nat.le_refl _)
      go_wp2_with (go_at_call 55; refine (within_any _ _ _ _).mono ?_; rintro e w' ⟨rfl, rfl⟩)
      refine (implBlocks _ cs _ hR (by omega)).mono ?_
      rintro e w2 ⟨va, vo, rfl, hbk, hb2⟩
      have hok : sOk cs = true := by have h2 := HV.out; simp only [pValid, Bool.and_eq_true] at h2; exact h2.2.2
      have hB2 := hB1.trans (hb2.mono hB1.size)
      obtain ⟨A, O, ad, rfl, rfl, _, _, _, _, _, k8, k9, k10⟩ := hbk hok
      obtain ⟨aa, cc, q0, q1, q2, q3⟩ := k10 p s hpl HS.out
      clear k8 k9 k10 q3 hbk hb2 hR hok
      go_wp2
      go_ret
      exact ⟨by rw [HN.out]; rfl, hB2⟩
set_option maxRecDepth 100000 in
set_option maxHeartbeats 4000000 in
theorem implOpens (v : Value) (cs : List Cd) (i : Int) (w : World) (h : RdC w v cs) : Calls Try.prog 66 #[v, .int .i64 i] w fun e w' => e = .returned (.bool (pValid cs && (inP cs i && opAt cs i))) ∧ Below w.heap.size w w' := by
  have HPV := Lib.hid (implProgramValid v cs w h)
  have HR := Lib.hid h
  obtain ⟨a, n, hv, hlc, hm⟩ := h.shape
  subst hv
  cases hpv : pValid cs
  · rw [hpv] at HPV
    clear hpv
    go_enter Try.func66, Try.ntmps66
    go_wp2_with fail
    refine HPV.out.mono ?_
    rintro e w1 ⟨rfl, hB1⟩
    go_wp2
    go_ret
    exact ⟨rfl, hB1⟩
  · rw [hpv] at HPV
    clear hpv
    cases hin : inP cs i
    · unfold inP at hin
      go_enter Try.func66, Try.ntmps66
      go_wp2_with fail
      refine HPV.out.mono ?_
      rintro e w1 ⟨rfl, hB1⟩
      go_wp2_with (go_at_call 55; refine (within_any _ _ _ _).mono ?_; rintro e w' ⟨rfl, rfl⟩)
      go_ret
      exact ⟨rfl, hB1⟩
    · obtain ⟨p, rfl, hpl⟩ := inP_nat hin
      unfold inP at hin
      obtain ⟨c, hx⟩ := get_lt hpl
      have HX := Lib.hid hx
      have hoa : opAt cs (p : Int) = isOp c := by simp [opAt, hx]
      obtain ⟨a', n', b, off, hv', _, _, hb, hcell⟩ := HR.out.opened
      obtain ⟨hblt, ha⟩ := hb (ne_of_get hx)
      simp only [Value.slice.injEq] at hv'
      obtain ⟨rfl, _, rfl⟩ := hv'
      subst ha
      by_cases h1 : c.op = 11
      · have HN : Hid (opAt cs (p : Int) = true) := Lib.hid (hoa.trans (isOp_t (Or.inl h1)))
        have o1 : (c.op == 11) = true := beq_iff_eq.2 h1
        clear h1 hx hoa
        go_enter Try.func66, Try.ntmps66
        go_wp2_with fail
        refine HPV.out.mono ?_
        rintro e w1 ⟨rfl, hB1⟩
        obtain ⟨e0, e1, e2, e3⟩ := hcell.get (a := some ⟨b, off, none⟩) (fun _ => ⟨hblt, rfl⟩) hB1 HX.out
        clear hb hcell
        go_wp2_with (go_at_call 55; refine (within_any _ _ _ _).mono ?_; rintro e w' ⟨rfl, rfl⟩)
        go_ret
        exact ⟨by rw [HN.out]; rfl, hB1⟩
      · have o1 : (c.op == 11) = false := beq_eq_false_iff_ne.2 h1
        by_cases h2 : c.op = 13
        · have HN : Hid (opAt cs (p : Int) = true) := Lib.hid (hoa.trans (isOp_t (Or.inr h2)))
          have o2 : (c.op == 13) = true := beq_iff_eq.2 h2
          clear h1 h2 hx hoa
          go_enter Try.func66, Try.ntmps66
          go_wp2_with fail
          refine HPV.out.mono ?_
          rintro e w1 ⟨rfl, hB1⟩
          obtain ⟨e0, e1, e2, e3⟩ := hcell.get (a := some ⟨b, off, none⟩) (fun _ => ⟨hblt, rfl⟩) hB1 HX.out
          clear hb hcell
          go_wp2_with (go_at_call 55; refine (within_any _ _ _ _).mono ?_; rintro e w' ⟨rfl, rfl⟩)
          go_ret
          exact ⟨by rw [HN.out]; rfl, hB1⟩
        · have HN : Hid (opAt cs (p : Int) = false) := Lib.hid (hoa.trans (isOp_f (fun h => h.elim h1 h2)))
          have o2 : (c.op == 13) = false := beq_eq_false_iff_ne.2 h2
          clear h1 h2 hx hoa
          go_enter Try.func66, Try.ntmps66
          go_wp2_with fail
          refine HPV.out.mono ?_
          rintro e w1 ⟨rfl, hB1⟩
          obtain ⟨e0, e1, e2, e3⟩ := hcell.get (a := some ⟨b, off, none⟩) (fun _ => ⟨hblt, rfl⟩) hB1 HX.out
          clear hb hcell
          go_wp2_with (go_at_call 55; refine (within_any _ _ _ _).mono ?_; rintro e w' ⟨rfl, rfl⟩)
          go_ret
          exact ⟨by rw [HN.out]; rfl, hB1⟩
theorem opAt_isO {cs : List Cd} {p : Nat} (hp : p < cs.length) (h : opAt cs (p : Int) = true) : ∃ c, cs[p]? = some c ∧ (c.op = 11 ∨ c.op = 13) := by
  obtain ⟨c, hc⟩ := get_lt hp
  have e : opAt cs (p : Int) = isOp c := by simp [opAt, hc]
  rw [e] at h
  refine ⟨c, hc, ?_⟩
  simpa [isOp] using h
set_option maxRecDepth 100000 in
set_option maxHeartbeats 4000000 in
theorem implBlockEnd (v : Value) (cs : List Cd) (i : Int) (w : World) (h : RdC w v cs) : Calls Try.prog 43 #[v, .int .i64 i] w fun e w' => e = .returned (.tuple #[.int .i64 (bEnds cs i).1, .int .i64 (bEnds cs i).2]) ∧ Below w.heap.size w w' := by
  have HPV := Lib.hid (implOpens v cs i w h)
  have HR := Lib.hid h
  obtain ⟨a, n, hv, hlc, hm⟩ := h.shape
  subst hv
  cases hpv : (pValid cs && (inP cs i && opAt cs i))
  · have HN : Hid (bEnds cs i = (-1, -1)) := Lib.hid (by unfold bEnds; rw [hpv]; rfl)
    rw [hpv] at HPV
    clear hpv
    go_enter Try.func43, Try.ntmps43
    go_wp2_with fail
    refine HPV.out.mono ?_
    rintro e w1 ⟨rfl, hB1⟩
    go_wp2
    go_ret2
    exact ⟨by rw [HN.out]; rfl, hB1⟩
  · have HN0 : bEnds cs i = bEnd cs i.toNat := by unfold bEnds; rw [hpv]; rfl
    rw [hpv] at HPV
    rw [Bool.and_eq_true, Bool.and_eq_true] at hpv
    obtain ⟨hv1, hin, hop⟩ := hpv
    have HV := Lib.hid hv1
    obtain ⟨p, rfl, hpl⟩ := inP_nat hin
    have h40 := pValid_len HV.out
    obtain ⟨c, hc, hco⟩ := opAt_isO hpl hop
    rw [Int.toNat_natCast] at HN0
    have HN := Lib.hid HN0
    have HC : Hid (isO cs p) := Lib.hid ⟨c, hc, hco⟩
    have HOW : Hid (∀ ad, ownP ad cs p c = .pointer (some ⟨ad p, 0, none⟩)) := Lib.hid (fun ad => by unfold ownP; rw [if_pos hco])
    have HX := Lib.hid hc
    clear hv1 hin hop HN0 hc hco
    go_enter Try.func43, Try.ntmps43
    go_wp2_with fail
    refine HPV.out.mono ?_
    rintro e w1 ⟨rfl, hB1⟩
    have hR := HR.out.below hB1 (Nat.le_refl _)
    go_wp2_with fail
    refine (implBlocks _ cs _ hR (by omega)).mono ?_
    rintro e w2 ⟨va, vo, rfl, hbk, hb2⟩
    have hok : sOk cs = true := by have h2 := HV.out; simp only [pValid, Bool.and_eq_true] at h2; exact h2.2.2
    have hB2 := hB1.trans (hb2.mono hB1.size)
    obtain ⟨A, O, ad, rfl, rfl, _, _, _, _, _, k8, k9, k10⟩ := hbk hok
    have q0 := k8 p c HX.out
    rw [HOW.out] at q0
    obtain ⟨_, _, _, q1, q2⟩ := k9 p HC.out
    clear k8 k9 k10 hbk hb2 hR hok
    go_wp2
    go_quiet (fail)
    go_wp2
    go_ret2
    exact ⟨by rw [HN.out]; rfl, below_dn hB2 _⟩
end Go.Proofs.Ytjipalpachcamaa
