/- YthhdffgfldphlaaLanD: the state while a lane is being drawn: the lane in a block X of its own, its lists in new memory, the reader; all else as it was. No Go function is walked here. No conditions. -/
import Derived.Test.YthhdffgfldphlaaStepT
import Derived.Test.YthhdffgfldphlaaDrawMem
namespace Go.Proofs.Ythhdffgfldphlaa
open Go.ChangeShapes Go.WideShapes Go.ChangeAt Go.RowKit
set_option linter.unusedVariables false
/-- Numbers of a lane that are far within 64 bits. -/
def lnIn (l : Ln) : Prop := (∀ x ∈ l.regs, -1000000 ≤ x ∧ x ≤ 1000000) ∧ (∀ x ∈ l.turns, -1000000 ≤ x ∧ x ≤ 1000000) ∧ (-1000000 ≤ l.pc ∧ l.pc ≤ 1000000)
structure LD (wM : World) (M0 X a : Nat) (bs : List Int) (q : Int) (r t : Value) (l : Ln) (wk : World) : Prop where
  rd : ∃ p, Rdr wk a bs p ∧ p ≤ q
  wr : Wr wM wk (fun k => k = a)
  m0 : wM.heap.size = M0
  aM : a < M0
  mX : M0 ≤ X
  kX : Box4 wk X r (.int .i64 l.pc) t (.bool l.waits)
  fX : ∀ o, wk.frozen? ⟨X, o, none⟩ = false
  nr : OwI M0 wk r l.regs
  nt : OwI M0 wk t l.turns
  nd : ∀ k, r.ownBlock = some k → t.ownBlock ≠ some k
  xr : ∀ k, r.ownBlock = some k → k ≠ X
  xt : ∀ k, t.ownBlock = some k → k ≠ X
  li : lnIn l
section
variable {wM : World} {M0 X a : Nat} {bs : List Int} {q : Int} {r t : Value} {l : Ln} {wk : World}
theorem LD.step (h : LD wM M0 X a bs q r t l wk) {w' : World} {p q' : Int} (hw : Wr wk w' (fun k => k = a)) (hr : Rdr w' a bs p) (hp : p ≤ q') : LD wM M0 X a bs q' r t l w' := by
  have h1 := h.aM
  have h2 := h.mX
  exact ⟨⟨p, hr, hp⟩, h.wr.trans hw, h.m0, h1, h2, h.kX.wr hw (by omega), fun o => (hw.frozen h.kX.lt (by omega)).trans (h.fX o), hw.owns h.nr (fun k hk hh => by have := own_ge h.nr k hk; omega), hw.owns h.nt (fun k hk hh => by have := own_ge h.nt k hk; omega), h.nd, h.xr, h.xt, h.li⟩
theorem LD.below (h : LD wM M0 X a bs q r t l wk) {w' : World} (hb : Below wk.heap.size wk w') : LD wM M0 X a bs q r t l w' := by
  obtain ⟨p, hr, hp⟩ := h.rd
  exact h.step (Wr.of_below hb) (hr.below hb (Nat.le_refl _)) hp
theorem LD.mono (h : LD wM M0 X a bs q r t l wk) {q' : Int} (hq : q ≤ q') : LD wM M0 X a bs q' r t l wk := by
  obtain ⟨p, hr, hp⟩ := h.rd
  exact ⟨⟨p, hr, by omega⟩, h.wr, h.m0, h.aM, h.mX, h.kX, h.fX, h.nr, h.nt, h.nd, h.xr, h.xt, h.li⟩
theorem pick_ld (k : Int) (h : LD wM M0 X a bs q r t l wk) (hq : q ≤ 1000000000) (hk : 1 ≤ k ∧ k ≤ 1000000000) : Calls Try.prog 23 #[.pointer (some ⟨a, 0, none⟩), .int .i64 k] wk fun e w' => ∃ V, e = .returned (.int .i64 V) ∧ 0 ≤ V ∧ V < k ∧ LD wM M0 X a bs (q + 1) r t l w' ∧ Wr wk w' (fun k => k = a) := by
  obtain ⟨p, hr, hp⟩ := h.rd
  have h0 := hr.nn
  obtain ⟨b1, b2⟩ := pickV_bd bs p k
  refine (pick_any a bs p k wk hr (by omega) (by omega)).mono ?_
  rintro e w' ⟨rfl, hr', hw⟩
  exact ⟨_, rfl, b1, b2 (by omega), h.step hw hr' (by omega), hw⟩
theorem odd_ld (k : Int) (h : LD wM M0 X a bs q r t l wk) (hq : q ≤ 1000000000) (hk : 0 ≤ k ∧ k ≤ 1000000000) : Calls Try.prog 26 #[.pointer (some ⟨a, 0, none⟩), .int .i64 k] wk fun e w' => ∃ V, e = .returned (.bool V) ∧ LD wM M0 X a bs (q + 1) r t l w' := by
  obtain ⟨p, hr, hp⟩ := h.rd
  have h0 := hr.nn
  refine (odd_any a bs p k wk hr (by omega) (by omega) (by omega)).mono ?_
  rintro e w' ⟨rfl, ⟨p', hr', h1, h2, _⟩, hw⟩
  exact ⟨_, rfl, h.step hw hr' (by omega)⟩
/-- Written behind M0: what the reader reads is as it was. -/
theorem LD.hi (h : LD wM M0 X a bs q r t l wk) {w' : World} {p : Nat → Prop} (hw : Wr wk w' p) (hp : ∀ k, p k → M0 ≤ k) : (∃ p, Rdr w' a bs p ∧ p ≤ q) ∧ Wr wM w' (fun k => k = a) := by
  obtain ⟨p0, hr, hp0⟩ := h.rd
  have h1 := h.aM
  have h2 := h.wr.size
  have h3 := h.m0
  exact ⟨⟨p0, hr.wr hw (fun k hk => by have := hp k hk; omega), hp0⟩, ⟨hw.os.trans h.wr.os, hw.tape.trans h.wr.tape, hw.output.trans h.wr.output, Nat.le_trans h2 hw.size, fun k hk hn => (hw.block k (by omega) (fun hh => by have := hp k hh; omega)).trans (h.wr.block k hk hn)⟩⟩
theorem mem_set_in {xs : List Int} {i : Nat} {v : Int} (h : ∀ x ∈ xs, -1000000 ≤ x ∧ x ≤ 1000000) (hv : -1000000 ≤ v ∧ v ≤ 1000000) : ∀ x ∈ xs.set i v, -1000000 ≤ x ∧ x ≤ 1000000 := by
  intro x hx
  rcases List.mem_or_eq_of_mem_set hx with hx | rfl
  · exact h x hx
  · exact hv
/-- A register is written. -/
theorem LD.reg {g c : Nat} (h : LD wM M0 X a bs q (.slice (some ⟨g, 0, none⟩) l.regs.length c) t l wk) (i : Nat) (v : Int) (hv : -1000000 ≤ v ∧ v ≤ 1000000) : LD wM M0 X a bs q (.slice (some ⟨g, 0, none⟩) l.regs.length c) t ⟨l.regs.set i v, l.pc, l.turns, l.waits⟩ (wk.setCell ⟨g, i, none⟩ (.int .i64 v)) := by
  obtain ⟨ho, hw⟩ := (OI.mk h.nr).set i v
  have hge := own_ge h.nr g rfl
  have hx := h.xr g rfl
  obtain ⟨h1, h2⟩ := h.hi hw (fun k hk => by omega)
  have hz : X < wk.heap.size := h.kX.lt
  refine ⟨h1, h2, h.m0, h.aM, h.mX, h.kX.wr hw (fun hh => hx hh.symm), fun o => (hw.frozen hz (fun hh => hx hh.symm)).trans (h.fX o), ?_, hw.owns h.nt (fun k hk hh => h.nd g rfl (by rw [← hh]; exact hk)), h.nd, h.xr, h.xt, ⟨mem_set_in h.li.1 hv, h.li.2.1, h.li.2.2⟩⟩
  have := ho.own
  rw [List.length_set] at this
  unfold OwI
  rw [List.length_set]
  exact this
/-- The place is written. -/
theorem LD.place (h : LD wM M0 X a bs q r t l wk) (v : Int) (hv : -1000000 ≤ v ∧ v ≤ 1000000) : LD wM M0 X a bs q r t ⟨l.regs, v, l.turns, l.waits⟩ (wk.setCell ⟨X, 1, none⟩ (.int .i64 v)) := by
  have hw := Wr_set0 wk X 1 (.int .i64 v)
  have hmX := h.mX
  obtain ⟨h1, h2⟩ := h.hi hw (fun k hk => by omega)
  exact ⟨h1, h2, h.m0, h.aM, h.mX, h.kX.s1 _, fun o => by simp; exact h.fX o, hw.owns h.nr (fun k hk hh => h.xr k hk hh), hw.owns h.nt (fun k hk hh => h.xt k hk hh), h.nd, h.xr, h.xt, ⟨h.li.1, h.li.2.1, hv⟩⟩
/-- Whether it waits is written. -/
theorem LD.wait (h : LD wM M0 X a bs q r t l wk) (v : Bool) : LD wM M0 X a bs q r t ⟨l.regs, l.pc, l.turns, v⟩ (wk.setCell ⟨X, 3, none⟩ (.bool v)) := by
  have hw := Wr_set0 wk X 3 (.bool v)
  have hmX := h.mX
  obtain ⟨h1, h2⟩ := h.hi hw (fun k hk => by omega)
  exact ⟨h1, h2, h.m0, h.aM, h.mX, h.kX.s3 _, fun o => by simp; exact h.fX o, hw.owns h.nr (fun k hk hh => h.xr k hk hh), hw.owns h.nt (fun k hk hh => h.xt k hk hh), h.nd, h.xr, h.xt, h.li⟩
/-- Another lane is put in, its lists in newer memory. -/
theorem LD.put (h : LD wM M0 X a bs q r t l wk) {w' : World} {r' t' : Value} {L : Ln} (hb : Below wk.heap.size wk w') (hr : OwI wk.heap.size w' r' L.regs) (ht : OwI wk.heap.size w' t' L.turns) (hd : ∀ k, r'.ownBlock = some k → t'.ownBlock ≠ some k) (hl : lnIn L) :
    LD wM M0 X a bs q r' t' L ((((w'.setCell ⟨X, 0, none⟩ r').setCell ⟨X, 1, none⟩ (.int .i64 L.pc)).setCell ⟨X, 2, none⟩ t').setCell ⟨X, 3, none⟩ (.bool L.waits)) := by
  have hb2 := h.below hb
  have hw := Wr_set4 w' X r' (.int .i64 L.pc) t' (.bool L.waits)
  have hmX := h.mX
  have hxl := h.kX.lt
  obtain ⟨h1, h2⟩ := hb2.hi hw (fun k hk => by omega)
  refine ⟨h1, h2, h.m0, h.aM, h.mX, hb2.kX.set4 _ _ _ _, fun o => by simp; exact hb2.fX o, own_mono (show OwI wk.heap.size _ _ _ from hw.owns hr (fun k hk hh => by have := own_ge hr k hk; omega)) (by omega), own_mono (show OwI wk.heap.size _ _ _ from hw.owns ht (fun k hk hh => by have := own_ge ht k hk; omega)) (by omega), hd, fun k hk hh => by have := own_ge hr k hk; omega, fun k hk hh => by have := own_ge ht k hk; omega, hl⟩
end
theorem far_wf {x : Int} (h : -1000000 ≤ x ∧ x ≤ 1000000) : (Lit.int .i64 x).wf = true := WalkArith.wf_i64 (by omega)
/-- What StepLane returns is far within 64 bits. -/
theorem stepV_in {l : Ln} {cs : List Cd} {id : Int} {ms : List Int} (hl : lnIn l) (hc : cs.length ≤ 150000) : lnIn (stepV l cs id ms).1 := by
  unfold stepV
  cases hs : stepOk l cs id ms with
  | false => rw [if_neg (by simp)]; exact ⟨by simp [lnZ], by simp [lnZ], by simp [lnZ]⟩
  | true =>
    rw [if_pos rfl]
    cases hw : (l.waits || (l.pc == cs.length)) with
    | true => rw [if_pos rfl]; exact hl
    | false =>
      rw [if_neg (by simp)]
      unfold stepOk at hs
      simp only [Bool.and_eq_true] at hs
      simp only [Bool.or_eq_false_iff, beq_eq_false_iff_ne] at hw
      obtain ⟨hp, hk, h0, h1⟩ := lValid_ok hs.1
      obtain ⟨h2, _⟩ := step_ok hp hk (memValid_ok hs.2.1) (inB_i hs.2.2) (by have := hw.2; omega)
      refine ⟨fun x hx => by have := h2.regs x hx; omega, fun x hx => ?_, by have := h2.pc; omega⟩
      obtain ⟨i, hi, rfl⟩ := List.getElem_of_mem hx
      have hT := h2.turns
      obtain ⟨p, hpp⟩ := get_lt (show i < (loopsAt cs (lstep cs id l ms).1.pc.toNat).length by rw [← hT.1]; exact hi)
      have h5 := hT.2 i _ p (List.getElem?_eq_getElem hi) hpp
      have h6 : bAt cs p ≤ 255 := by
        unfold bAt codeAt
        cases hcd : cs[((p : Int)).toNat]? with
        | none => simp [cd0]
        | some c => simpa using (cValid_bd (pValid_code hp hcd)).2.2.2.2.2.1
      omega
end Go.Proofs.Ythhdffgfldphlaa
