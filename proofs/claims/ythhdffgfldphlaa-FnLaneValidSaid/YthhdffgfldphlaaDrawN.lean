/- YthhdffgfldphlaaDrawN: the draw of a lane, a program, a number and a memory. Conditions: a reader's place is at most 500, a bound of at most 1000. -/
import Derived.Test.YthhdffgfldphlaaLanD
import Derived.Test.YthhdffgfldphlaaDrawP
import Derived.Deep.CutBlock
import Derived.Deep.QuietTactic
namespace Go.Proofs.Ythhdffgfldphlaa
open Go.ChangeShapes Go.WideShapes Go.ChangeAt Go.RowKit
set_option linter.unusedVariables false
/-- What the draw of a lane leaves. -/
def LaneDr (w : World) (a : Nat) (bs : List Int) (Q : Int) (e : Ending) (w' : World) : Prop :=
  ∃ (r t lv mv : Value) (l : Ln) (cs : List Cd) (ms : List Int) (id : Int), e = .returned (.tuple #[.agg #[r, .int .i64 l.pc, t, .bool l.waits], lv, .int .i64 id, mv]) ∧ OwI w.heap.size w' r l.regs ∧ OwI w.heap.size w' t l.turns ∧ lnIn l ∧ (l.regs.length ≤ 4 ∧ l.turns.length ≤ 4) ∧ (∀ k, r.ownBlock = some k → t.ownBlock ≠ some k) ∧
    w'.ownsRow w.heap.size 41 4 lv cs.length (cdCells cs) ∧ (∀ c ∈ cs, cdIn c) ∧ cs.length ≤ 150000 ∧ OwI w.heap.size w' mv ms ∧ ms.length ≤ 33 ∧ (∀ x ∈ ms, -1 ≤ x ∧ x ≤ 256) ∧ (-1 ≤ id ∧ id ≤ 8) ∧ Wr w w' (fun k => k = a)
theorem LD.more {wM : World} {M0 X a : Nat} {bs : List Int} {q : Int} {r t : Value} {l : Ln} {wk w' : World} {v' : Value} {y : Int} (h : LD wM M0 X a bs q r t l wk) (ho : w'.ownsRow M0 3 1 v' (l.turns.length + 1) (l.turns.map (Value.int .i64) ++ [.int .i64 y])) (hw : Wr wk w' (fun k => t.ownBlock = some k)) (hwh : ∀ k, v'.ownBlock = some k → t.ownBlock = some k ∨ wk.heap.size ≤ k) (hy : -1000000 ≤ y ∧ y ≤ 1000000) :
    LD wM M0 X a bs q r v' ⟨l.regs, l.pc, l.turns ++ [y], l.waits⟩ (w'.setCell ⟨X, 2, none⟩ v') := by
  have hge := own_ge h.nt
  have hxl := h.kX.lt
  have hmX := h.mX
  have hws := Wr_set0 w' X 2 v'
  have hall : Wr wk (w'.setCell ⟨X, 2, none⟩ v') (fun k => t.ownBlock = some k ∨ k = X) := (hw.weak fun k hk => .inl hk).trans (hws.weak fun k hk => .inr hk)
  obtain ⟨h1, h2⟩ := h.hi hall (fun k hk => by rcases hk with hk | hk; · exact hge k hk
                                               · omega)
  have hvX : ∀ k, v'.ownBlock = some k → k ≠ X := fun k hk hh => by
    rcases hwh k hk with h3 | h3
    · exact h.xt k h3 hh
    · omega
  have ho2 : OwI M0 w' v' (l.turns ++ [y]) := by unfold OwI; rw [List.length_append, List.map_append]; exact ho
  refine ⟨h1, h2, h.m0, h.aM, h.mX, (h.kX.wr hw (fun hh => h.xt X hh rfl)).s2 _, fun o => ?_, hws.owns (hw.owns h.nr (fun k hk hh => h.nd k hk hh)) (fun k hk hh => h.xr k hk hh), hws.owns ho2 (fun k hk hh => hvX k hk hh), fun k hk hh => ?_, h.xr, hvX, ⟨h.li.1, fun x hx => ?_, h.li.2.2⟩⟩
  · simp
    exact (hw.frozen hxl (fun hh => h.xt X hh rfl)).trans (h.fX o)
  · rcases hwh k hh with h3 | h3
    · exact h.nd k hk h3
    · have := own_lt h.nr k hk; omega
  · rcases List.mem_append.1 hx with hx | hx
    · exact h.li.2.1 x hx
    · rw [List.mem_singleton.1 hx]; exact hy
def lit3 (V : Int) : Obj := .cells #[.int .i64 0, .int .i64 V, .int .i64 1] 3 (0, 0)
/-- The state within the region that draws a register's value: what has been carried out, and its results. -/
structure PN (a X gr k : Nat) (rv : Value) (V : Int) (j : Nat) (W : Int) (b : Nat → Bool) (u : Nat → Value) (w : World) : Prop where
  o0 : b 0 = true → u 0 = .pointer (some ⟨X, 0, none⟩)
  o1 : b 1 = true → u 1 = rv
  o2 : b 2 = true → u 2 = .int .i64 k
  o3 : b 3 = true → u 3 = .pointer (some ⟨a, 0, none⟩)
  o4 : b 4 = true → u 4 = .int .i64 V
  o5 : b 5 = true → ∃ g, u 5 = .slice (some ⟨g, 0, none⟩) 3 3 ∧ w.heap[g]? = some (lit3 V) ∧ ¬ g = a
  o6 : b 6 = true → u 6 = .pointer (some ⟨a, 0, none⟩)
  o7 : b 7 = true → u 7 = .int .i64 j
  o8 : b 8 = true → ∃ g, u 8 = .pointer (some ⟨g, j, none⟩) ∧ w.heap[g]? = some (lit3 V) ∧ ¬ g = a
  o9 : b 9 = true → u 9 = .int .i64 W
  o10 : b 10 = true → u 10 = .pointer (some ⟨gr, k, none⟩)
theorem PN.world {a X gr k : Nat} {rv : Value} {V : Int} {j : Nat} {W : Int} {b : Nat → Bool} {u : Nat → Value} {w w' : World} (h : PN a X gr k rv V j W b u w) (hk : ∀ (g : Nat) (o : Obj), ¬ g = a → w.heap[g]? = some o → w'.heap[g]? = some o) : PN a X gr k rv V j W b u w' := by
  obtain ⟨h0, h1, h2, h3, h4, h5, h6, h7, h8, h9, h10⟩ := h
  refine ⟨h0, h1, h2, h3, h4, fun hb => ?_, h6, h7, fun hb => ?_, h9, h10⟩
  · obtain ⟨g, x, y, z⟩ := h5 hb; exact ⟨g, x, hk _ _ z y, z⟩
  · obtain ⟨g, x, y, z⟩ := h8 hb; exact ⟨g, x, hk _ _ z y, z⟩
/-- The state within the region, whole. -/
def PI (w0 : World) (a X gr k : Nat) (rv : Value) (bs : List Int) (p V : Int) (j : Nat) (W : Int) (b : Nat → Bool) (u : Nat → Value) (w : World) : Prop :=
  (b 11 = false ∧ PN a X gr k rv V j W b u w ∧ Rdr w a bs (p + (if b 4 then 1 else 0) + (if b 7 then 1 else 0)) ∧ (b 7 = true → b 4 = true) ∧ Wr w0 w (fun k => k = a)) ∨
    ((∀ i, i < 12 → b i = true) ∧ ∃ w6, Rdr w6 a bs (p + 1 + 1) ∧ Wr w0 w6 (fun k => k = a) ∧ w = w6.setCell ⟨gr, k, none⟩ (.int .i64 W))
theorem stepV_len {l : Ln} {cs : List Cd} {id : Int} {ms : List Int} (hl : l.regs.length ≤ 4 ∧ l.turns.length ≤ 3) : (stepV l cs id ms).1.regs.length ≤ 4 ∧ (stepV l cs id ms).1.turns.length ≤ 3 := by
  unfold stepV
  cases hs : stepOk l cs id ms with
  | false => rw [if_neg (by simp)]; exact ⟨by simp [lnZ], by simp [lnZ]⟩
  | true =>
    rw [if_pos rfl]
    cases hw : (l.waits || (l.pc == cs.length)) with
    | true => rw [if_pos rfl]; exact hl
    | false =>
      rw [if_neg (by simp)]
      unfold stepOk at hs
      simp only [Bool.and_eq_true] at hs
      simp only [Bool.or_eq_false_iff, beq_eq_false_iff_ne] at hw
      obtain ⟨hp, hk, h0, h1⟩ := lValid_ok hs.1
      obtain ⟨h2, _⟩ := step_ok hp hk (memValid_ok hs.2.1) (inB_i hs.2.2) (by have := hw.2; omega)
      have hT := h2.turns.1
      have hpc := h2.pc
      obtain ⟨s, hs2, hI⟩ := pValid_stk hp (show (lstep cs id l ms).1.pc.toNat ≤ cs.length by omega)
      rw [loopsAt_eq hs2] at hT
      have := loops_len hI.deep
      exact ⟨by rw [h2.len]; omega, by omega⟩
/-- The end: the lane is read out of its block, and put into the result's cell. -/
theorem lane_end {w w3 wk : World} {b M0 X a : Nat} {bs : List Int} {q Q : Int} {r t lv mv : Value} {l : Ln} {cs : List Cd} {ms : List Int} {id : Int} (hb : w.heap.size = b) (hab : a < b) (h : LD w3 M0 X a bs q r t l wk) (hbM : b + 1 ≤ M0) (hW3 : Wr w w3 (fun k => k = a)) (hl : w3.ownsRow (b + 1) 41 4 lv cs.length (cdCells cs)) (hm : OwI (b + 1) w3 mv ms) (hci : ∀ c ∈ cs, cdIn c) (hcl : cs.length ≤ 150000) (hml : ms.length ≤ 33) (hmb : ∀ x ∈ ms, -1 ≤ x ∧ x ≤ 256) (hid : -1 ≤ id ∧ id ≤ 8) (hln : l.regs.length ≤ 4 ∧ l.turns.length ≤ 4) (v0 v1 v2 v3 : Value) :
    LaneDr w a bs Q (.returned (.tuple #[.agg #[r, .int .i64 l.pc, t, .bool l.waits], lv, .int .i64 id, mv])) ((((wk.setCell ⟨b, 0, none⟩ v0).setCell ⟨b, 1, none⟩ v1).setCell ⟨b, 2, none⟩ v2).setCell ⟨b, 3, none⟩ v3) := by
  have hw4 := Wr_set4 wk b v0 v1 v2 v3
  have hr := own_mono (show OwI M0 _ r l.regs from hw4.owns h.nr (fun k hk hh => by have := own_ge h.nr k hk; omega)) (show w.heap.size ≤ M0 by omega)
  have ht := own_mono (show OwI M0 _ t l.turns from hw4.owns h.nt (fun k hk hh => by have := own_ge h.nt k hk; omega)) (show w.heap.size ≤ M0 by omega)
  have hl2 := h.wr.owns hl (fun k hk hh => by have := own_ge hl k hk; omega)
  have hm2 : OwI (b + 1) wk mv ms := h.wr.owns hm (fun k hk hh => by have := own_ge hm k hk; omega)
  have hl3 := own_mono (hw4.owns hl2 (fun k hk hh => by have := own_ge hl2 k hk; omega)) (show w.heap.size ≤ b + 1 by omega)
  have hm3 := own_mono (show OwI (b + 1) _ mv ms from hw4.owns hm2 (fun k hk hh => by have := own_ge hm2 k hk; omega)) (show w.heap.size ≤ b + 1 by omega)
  have h1 := hW3.trans h.wr
  refine ⟨r, t, lv, mv, l, cs, ms, id, rfl, hr, ht, h.li, hln, h.nd, hl3, hci, hcl, hm3, hml, hmb, hid, ⟨hw4.os.trans h1.os, hw4.tape.trans h1.tape, hw4.output.trans h1.output, Nat.le_trans h1.size hw4.size, fun k hk hn => ?_⟩⟩
  exact (hw4.block k (by have := h1.size; omega) (by omega)).trans (h1.block k hk hn)
set_option maxRecDepth 100000 in
set_option maxHeartbeats 16000000 in
theorem l20Lane_any (a : Nat) (bs : List Int) (p n : Int) (w : World) (h : Rdr w a bs p) (hp : p ≤ 500) (hn : 0 ≤ n ∧ n ≤ 1000) : Calls Try.prog 8 #[.pointer (some ⟨a, 0, none⟩), .int .i64 n] w (LaneDr w a bs (p + 300000)) := by
  have hp0 := h.nn
  have hab := h.lt
  obtain ⟨b, hb⟩ : ∃ x, w.heap.size = x := ⟨_, rfl⟩
  have hR0 := Box4.new w (.slice none 0 0) (.int .i64 0) (.slice none 0 0) (.bool false) 25
  have hF0 := fun o => frozen_of_row (w.alloc (.cells #[.slice none 0 0, .int .i64 0, .slice none 0 0, .bool false] 25)) w.heap.size o _ _ (heap_alloc_new w _)
  have hwz := wr_alloc (Wr.refl w (fun k => k = a)) (.cells #[.slice none 0 0, .int .i64 0, .slice none 0 0, .bool false] 25)
  have hra := h.alloc (.cells #[.slice none 0 0, .int .i64 0, .slice none 0 0, .bool false] 25)
  rw [hb] at hR0 hF0 hab
  have HB := Lib.hid hb
  have HF0 := Lib.hid hF0
  have HR0 := Lib.hid hR0
  clear hb hF0 hR0 h
  go_enter Try.func8, Try.ntmps8
  go_wp2_with fail
  refine (l20Program_any a bs p n _ hra (by omega) hn).mono ?_
  rintro e w1 ⟨lv, rfl, hD1⟩
  rw [HB.out]
  obtain ⟨cs, ho1, hl1, hc1⟩ := hD1.own
  obtain ⟨p1, hr1, hp1⟩ := hD1.rd
  have hb1 := hD1.wr
  have HC1 := Lib.hid hc1
  have hs1 := hD1.wr.size
  simp only [World.size_alloc] at hs1
  have HO1 := Lib.hid (own_mono ho1 (show b + 1 ≤ _ by rw [World.size_alloc, HB.out]; omega))
  clear hD1 ho1 hc1 hra
  have hpp1 := hr1.nn
  go_wp2_with fail
  refine (l20Memory_any a bs p1 n w1 hr1 (by omega) (by omega) (by omega)).mono ?_
  rintro e w2 ⟨mv, rfl, ⟨ms, ho2, hml, hmb⟩, p2, hr2, hp2, hw2⟩
  have HMB := Lib.hid hmb
  have hpp2 := hr2.nn
  have hW2 := hb1.trans hw2
  have HO2 := Lib.hid (own_mono ho2 (show b + 1 ≤ _ by rw [HB.out] at hs1; omega))
  have ho12 := hw2.owns HO1.out (fun k hk hh => by have := own_ge HO1.out k hk; omega)
  have HO12 := Lib.hid ho12
  clear hr1 hmb hb1 hw2 ho12 HO1 ho2
  obtain ⟨b1, b2⟩ := pickV_bd bs p2 8
  have b2 := b2 (by omega)
  go_wp2_with fail
  refine (pick_any a bs p2 8 w2 hr2 (by omega) (by omega)).mono ?_
  rintro e w3 ⟨rfl, hr3, hw3⟩
  generalize pickV bs p2 8 = ID at *
  have hW3 := hwz.trans (hW2.trans hw3)
  have hz3 := (hW2.trans hw3).size
  simp only [World.size_alloc] at hz3
  rw [HB.out] at hz3
  have HOL := Lib.hid (hw3.owns HO12.out (fun k hk hh => by have := own_ge HO12.out k hk; omega))
  have HOM : Hid (OwI (b + 1) w3 mv ms) := Lib.hid (hw3.owns HO2.out (fun k hk hh => by have := own_ge HO2.out k hk; omega))
  have HRB := Lib.hid (HR0.out.wr (hW2.trans hw3) (by omega))
  have HRF := Lib.hid (fun o => ((hW2.trans hw3).frozen HR0.out.lt (show ¬ b = a by omega)).trans (HF0.out o))
  clear hW2 hw3 hr2 HO12 HO2 HF0 HR0 hwz
  have HW3 := Lib.hid hW3
  clear hW3
  go_wp2_with fail
  refine (specNewLane w3).mono ?_
  rintro e w4 ⟨r, t, rfl, ⟨n1, n2, nd⟩, hb4⟩
  obtain ⟨M0, hM0⟩ : ∃ x, w3.heap.size = x := ⟨_, rfl⟩
  obtain ⟨X, hX⟩ : ∃ x, w4.heap.size = x := ⟨_, rfl⟩
  obtain ⟨gr, cr, hrv, _, hcr1, hcr2⟩ := OI.shape n1 (by decide)
  obtain ⟨ta, tc, htv⟩ := own_shape n2
  subst hrv htv
  have hz4 := hb4.size
  have hal := below_alloc w4 (.cells #[.slice (some ⟨gr, 0, none⟩) ln0.regs.length cr, .int .i64 ln0.pc, .slice ta ln0.turns.length tc, .bool ln0.waits] 25)
  have hLD : LD w3 M0 X a bs (p + 209800) (.slice (some ⟨gr, 0, none⟩) ln0.regs.length cr) (.slice ta ln0.turns.length tc) ln0 (w4.alloc (.cells #[.slice (some ⟨gr, 0, none⟩) ln0.regs.length cr, .int .i64 ln0.pc, .slice ta ln0.turns.length tc, .bool ln0.waits] 25)) := by
    have hx4 := Box4.new w4 (.slice (some ⟨gr, 0, none⟩) ln0.regs.length cr) (.int .i64 ln0.pc) (.slice ta ln0.turns.length tc) (.bool ln0.waits) 25
    have hf4 := fun o => frozen_of_row (w4.alloc (.cells #[.slice (some ⟨gr, 0, none⟩) ln0.regs.length cr, .int .i64 ln0.pc, .slice ta ln0.turns.length tc, .bool ln0.waits] 25)) w4.heap.size o _ _ (heap_alloc_new w4 _)
    have hbb := hb4.trans (hal.mono hz4)
    rw [hX] at hx4 hf4
    have m1 : OwI M0 w4 (.slice (some ⟨gr, 0, none⟩) ln0.regs.length cr) ln0.regs := by rw [← hM0]; exact n1
    have m2 : OwI M0 w4 (.slice ta ln0.turns.length tc) ln0.turns := by rw [← hM0]; exact n2
    exact ⟨⟨p2 + 1, hr3.below hbb (Nat.le_refl _), by omega⟩, Wr.of_below hbb, hM0, by omega, by omega, hx4, hf4, m1.below hal, m2.below hal, nd, fun k hk => by have := own_lt n1 k hk; omega, fun k hk => by have := own_lt n2 k hk; omega, ⟨by simp [ln0], by simp [ln0], by simp [ln0]⟩⟩
  have HLD := Lib.hid hLD
  have HX := Lib.hid hX
  have HM0 := Lib.hid hM0
  clear hLD hal hb4 n1 n2 nd hr3 hX hM0
  go_upto_region 5 with fail
  rw [HX.out]
  go_upto_block 0 with fail
  go_cut [12] from 23 to 37 (fun _ wr => ∃ rs : List Int, rs.length = 4 ∧ LD w3 M0 X a bs (p + 209808) (.slice (some ⟨gr, 0, none⟩) rs.length cr) (.slice ta 0 tc) ⟨rs, 0, [], false⟩ wr)
  case first =>
    go_wp2_with fail
    go_loopg [12] 4 (fun g i wr => ∃ k : Nat, k + g = 4 ∧ i = .int .i64 k ∧ ∃ rs : List Int, rs.length = 4 ∧ LD w3 M0 X a bs (p + 209800 + 2 * k) (.slice (some ⟨gr, 0, none⟩) rs.length cr) (.slice ta 0 tc) ⟨rs, 0, [], false⟩ wr)
    case atStart => exact ⟨0, rfl, rfl, [0, 0, 0, 0], rfl, HLD.out.mono (by omega)⟩
    case round =>
      obtain ⟨k, hk, rfl, rs, hrs, hLD⟩ := hrel
      by_cases hlt : k < 4
      · obtain ⟨p0, hr, hpq⟩ := hLD.rd
        have hp00 := hr.nn
        obtain ⟨c1, c2⟩ := pickV_bd bs p0 256
        obtain ⟨c3, c4⟩ := pickV_bd bs (p0 + 1) 3
        obtain ⟨V, hV⟩ : ∃ V, pickV bs p0 256 = V := ⟨_, rfl⟩
        obtain ⟨j, hj⟩ : ∃ j : Nat, pickV bs (p0 + 1) 3 = j := ⟨(pickV bs (p0 + 1) 3).toNat, by omega⟩
        rw [hV] at c1 c2
        rw [hj] at c3 c4
        have c2 := c2 (by omega)
        have c4 : j < 3 := by have := c4 (by omega); omega
        obtain ⟨W, hW, hW1, hW2⟩ : ∃ W : Int, (#[.int .i64 0, .int .i64 V, .int .i64 1] : Array Value)[j]? = some (.int .i64 W) ∧ -1000000 ≤ W ∧ W ≤ 1000000 := by
          rcases (show j = 0 ∨ j = 1 ∨ j = 2 by omega) with rfl | rfl | rfl
          · exact ⟨0, rfl, by omega, by omega⟩
          · exact ⟨V, rfl, by omega, by omega⟩
          · exact ⟨1, rfl, by omega, by omega⟩
        have oi := OI.mk hLD.nr
        have xg := oi.get (i := k) (by show k < rs.length; omega)
        have fg := oi.frz k
        have hgl := oi.lt
        have hgM := oi.ge
        have hXl := hLD.kX.lt
        have hXM := hLD.mX
        have haM := hLD.aM
        have hna : ¬ gr = a := by omega
        have hnX : ¬ X = a := by omega
        have hkl : (k : Int) < rs.length := by omega
        have hlt2 : (k : Int) < 4 := by omega
        have hp0b : p0 ≤ 1000000 := by omega
        have HX0 := Lib.hid hLD.kX.at0
        have HXG := Lib.hid xg
        have HFG := Lib.hid fg
        have HV := Lib.hid hV
        have HJ := Lib.hid hj
        have HW := Lib.hid hW
        have HL := Lib.hid hLD
        have HRS := Lib.hid hrs
        have HPQ := Lib.hid hpq
        have HR := Lib.hid hr
        clear hV hj hLD oi hrs hpq hW xg fg hr
        go_wp2_with fail
        refine region_dag (by kernel_rfl) (fun L act ww => ∃ (b' : Nat → Bool), L = #[b' 0, b' 1, b' 2, b' 3, b' 4, b' 5, b' 6, b' 7, b' 8, b' 9, b' 10, b' 11] ∧ ∃ (u : Nat → Value), act = ⟨#[.pointer (some ⟨a, 0, none⟩), .int .i64 n, undef, undef, .pointer (some ⟨b, 0, none⟩), .slice none 0 0, .int .i64 0, .slice none 0 0, lv, mv, .int .i64 ID, .pointer (some ⟨X, 0, none⟩), .int .i64 k, undef, .pointer (some ⟨a, 0, none⟩), .int .i64 n, lv, .pointer (some ⟨a, 0, none⟩), .int .i64 n, mv, .pointer (some ⟨a, 0, none⟩), .int .i64 ID, .agg #[.slice (some ⟨gr, 0, none⟩) ln0.regs.length cr, .int .i64 ln0.pc, .slice ta ln0.turns.length tc, .bool ln0.waits], .int .i64 k, .bool true, u25, u26, u 0, u 1, u 2, u 3, u 4, u 5, u 6, u 7, u 8, u 9, u 10, undef, undef, undef, undef, undef, undef, undef, undef, undef, undef, undef, undef, undef, undef, undef, undef, undef, undef, undef, undef, undef, undef, undef, undef, undef, undef, undef, undef, undef, undef, undef, undef, undef, undef, undef, undef, undef, undef, undef, undef, undef, undef, undef, undef, undef, undef, undef, undef, undef, undef, undef, undef, undef, undef, undef, undef, undef, undef, undef, undef, undef, undef, undef, undef], []⟩ ∧ PI wr a X gr k (.slice (some ⟨gr, 0, none⟩) rs.length cr) bs p0 V j W b' u ww) ?_ ?_ ?_
        · refine ⟨fun _ => false, rfl, fun i => match i with | 0 => u27 | 1 => u28 | 2 => u29 | 3 => u30 | 4 => u31 | 5 => u32 | 6 => u33 | 7 => u34 | 8 => u35 | 9 => u36 | _ => u37, rfl, Or.inl ⟨rfl, ⟨by simp, by simp, by simp, by simp, by simp, by simp, by simp, by simp, by simp, by simp, by simp⟩, ?_, by simp, wr_drew (Wr.refl _ _)⟩⟩
          simp only [Bool.false_eq_true, if_false]
          rw [Int.add_zero, Int.add_zero]
          exact HR.out.drew
        · intro L act ww hI i hi
          obtain ⟨b', rfl, u, rfl, hFF⟩ := hI
          obtain ⟨hlt, hb, he⟩ := ready_mem hi
          clear hi
          have hlt : i < 12 := hlt
          rcases hFF with ⟨h11, hF, hr, hord, hw⟩ | ⟨hall, _⟩
          rotate_left
          · exfalso
            have := hall i hlt
            rcases (show i = 0 ∨ i = 1 ∨ i = 2 ∨ i = 3 ∨ i = 4 ∨ i = 5 ∨ i = 6 ∨ i = 7 ∨ i = 8 ∨ i = 9 ∨ i = 10 ∨ i = 11 by omega) with rfl | rfl | rfl | rfl | rfl | rfl | rfl | rfl | rfl | rfl | rfl | rfl
            all_goals
              simp at hb
              rw [hb] at this
              cases this
          have hp0z := hr.nn
          rcases (show i = 0 ∨ i = 1 ∨ i = 2 ∨ i = 3 ∨ i = 4 ∨ i = 5 ∨ i = 6 ∨ i = 7 ∨ i = 8 ∨ i = 9 ∨ i = 10 ∨ i = 11 by omega) with rfl | rfl | rfl | rfl | rfl | rfl | rfl | rfl | rfl | rfl | rfl | rfl
          · refine wpOp_list rfl ?_
            intro K' hK'
            simp [Region.binds] at hb he
            go_wp2
            exact ⟨up b' 0 true, by simp [up, *], up u 0 (.pointer (some ⟨X, 0, none⟩)), by simp [up], Or.inl ⟨by simpa [up] using h11, ⟨fun _ => rfl, hF.o1, hF.o2, hF.o3, hF.o4, hF.o5, hF.o6, hF.o7, hF.o8, hF.o9, hF.o10⟩, hr, hord, hw⟩⟩
          · refine wpOp_list rfl ?_
            intro K' hK'
            simp [Region.binds] at hb he
            have hu := hF.o0 he
            have hx := (wr_cells hw X 0 hXl hnX).trans HX0.out
            go_wp2
            exact ⟨up b' 1 true, by simp [up, *], up u 1 (.slice (some ⟨gr, 0, none⟩) rs.length cr), by simp [up, hu], Or.inl ⟨by simpa [up] using h11, ⟨hF.o0, fun _ => rfl, hF.o2, hF.o3, hF.o4, hF.o5, hF.o6, hF.o7, hF.o8, hF.o9, hF.o10⟩, hr, hord, hw⟩⟩
          · refine wpOp_list rfl ?_
            intro K' hK'
            simp [Region.binds] at hb he
            go_wp2
            exact ⟨up b' 2 true, by simp [up, *], up u 2 (.int .i64 k), by simp [up], Or.inl ⟨by simpa [up] using h11, ⟨hF.o0, hF.o1, fun _ => rfl, hF.o3, hF.o4, hF.o5, hF.o6, hF.o7, hF.o8, hF.o9, hF.o10⟩, hr, hord, hw⟩⟩
          · refine wpOp_list rfl ?_
            intro K' hK'
            simp [Region.binds] at hb he
            go_wp2
            exact ⟨up b' 3 true, by simp [up, *], up u 3 (.pointer (some ⟨a, 0, none⟩)), by simp [up], Or.inl ⟨by simpa [up] using h11, ⟨hF.o0, hF.o1, hF.o2, fun _ => rfl, hF.o4, hF.o5, hF.o6, hF.o7, hF.o8, hF.o9, hF.o10⟩, hr, hord, hw⟩⟩
          · refine wpOp_list rfl ?_
            intro K' hK'
            simp [Region.binds] at hb he
            have hu := hF.o3 he
            have hb7 : b' 7 = false := by
              cases h7 : b' 7 with
              | false => rfl
              | true => exact absurd (hord h7) (by simp [hb])
            simp only [hb, hb7, Bool.false_eq_true, if_false] at hr
            rw [Int.add_zero, Int.add_zero] at hr
            go_wp2_with fail
            refine (pick_any _ bs p0 _ _ hr (by omega) (by omega)).mono ?_
            rintro e w5 ⟨rfl, hr5, hw5⟩
            rw [HV.out]
            have hG := hF.world (w' := w5) (fun g o hg ho => wr_blk hw5 ho hg)
            have hw6 := hw.trans hw5
            have hr6 : Rdr w5 a bs (p0 + 1 + (if b' 7 then 1 else 0)) := by simp only [hb7, Bool.false_eq_true, if_false]; rw [Int.add_zero]; exact hr5
            go_wp2
            refine ⟨up b' 4 true, rfl, up u 4 (.int .i64 V), by rw [← hu]; rfl, Or.inl ⟨by simpa [up] using h11, ⟨hG.o0, hG.o1, hG.o2, hG.o3, fun _ => rfl, hG.o5, hG.o6, hG.o7, hG.o8, hG.o9, hG.o10⟩, hr6, fun _ => rfl, hw6⟩⟩
          · refine wpOp_list rfl ?_
            intro K' hK'
            simp [Region.binds] at hb he
            have hu := hF.o4 he
            have hsz : ¬ ww.heap.size = a := by have := hr.lt; omega
            have hG := hF.world (w' := ww.alloc (lit3 V)) (fun g x _ hx => by rw [heap_alloc_old _ _ (Array.getElem?_eq_some_iff.1 hx).1]; exact hx)
            have hr6 := hr.alloc (lit3 V)
            have hw6 := wr_alloc hw (lit3 V)
            go_wp2
            exact ⟨up b' 5 true, by simp [up, *], up u 5 (.slice (some ⟨ww.heap.size, 0, none⟩) 3 3), by simp [up, hu], Or.inl ⟨by simpa [up] using h11, ⟨hG.o0, hG.o1, hG.o2, hG.o3, hG.o4, fun _ => ⟨_, rfl, heap_alloc_new _ _, hsz⟩, hG.o6, hG.o7, hG.o8, hG.o9, hG.o10⟩, hr6, hord, hw6⟩⟩
          · refine wpOp_list rfl ?_
            intro K' hK'
            simp [Region.binds] at hb he
            go_wp2
            exact ⟨up b' 6 true, by simp [up, *], up u 6 (.pointer (some ⟨a, 0, none⟩)), by simp [up], Or.inl ⟨by simpa [up] using h11, ⟨hF.o0, hF.o1, hF.o2, hF.o3, hF.o4, hF.o5, fun _ => rfl, hF.o7, hF.o8, hF.o9, hF.o10⟩, hr, hord, hw⟩⟩
          · refine wpOp_list rfl ?_
            intro K' hK'
            simp [Region.binds] at hb he
            have hu := hF.o6 he.1
            have hb4 := he.2
            simp only [hb, hb4, Bool.false_eq_true, if_false, if_true] at hr
            rw [Int.add_zero] at hr
            go_wp2_with fail
            refine (pick_any _ bs (p0 + 1) _ _ hr (by omega) (by omega)).mono ?_
            rintro e w5 ⟨rfl, hr5, hw5⟩
            rw [HJ.out]
            have hG := hF.world (w' := w5) (fun g o hg ho => wr_blk hw5 ho hg)
            have hw6 := hw.trans hw5
            have hr6 : Rdr w5 a bs (p0 + (if b' 4 then 1 else 0) + 1) := by simp only [hb4, if_true]; exact hr5
            go_wp2
            refine ⟨up b' 7 true, rfl, up u 7 (.int .i64 j), by rw [← hu]; rfl, Or.inl ⟨by simpa [up] using h11, ⟨hG.o0, hG.o1, hG.o2, hG.o3, hG.o4, hG.o5, hG.o6, fun _ => rfl, hG.o8, hG.o9, hG.o10⟩, hr6, fun _ => hb4, hw6⟩⟩
          · refine wpOp_list rfl ?_
            intro K' hK'
            simp [Region.binds] at hb he
            obtain ⟨g, hu, hg, hga⟩ := hF.o5 he.1
            have hv := hF.o7 he.2
            go_wp2
            exact ⟨up b' 8 true, by simp [up, *], up u 8 (.pointer (some ⟨g, j, none⟩)), by simp [up, hu, hv], Or.inl ⟨by simpa [up] using h11, ⟨hF.o0, hF.o1, hF.o2, hF.o3, hF.o4, hF.o5, hF.o6, hF.o7, fun _ => ⟨g, rfl, hg, hga⟩, hF.o9, hF.o10⟩, hr, hord, hw⟩⟩
          · refine wpOp_list rfl ?_
            intro K' hK'
            simp [Region.binds] at hb he
            obtain ⟨g, hu, hg, hga⟩ := hF.o8 he
            have hc := (cell_of_row _ g j _ _ _ hg).trans HW.out
            go_wp2
            exact ⟨up b' 9 true, by simp [up, *], up u 9 (.int .i64 W), by simp [up, hu], Or.inl ⟨by simpa [up] using h11, ⟨hF.o0, hF.o1, hF.o2, hF.o3, hF.o4, hF.o5, hF.o6, hF.o7, hF.o8, fun _ => rfl, hF.o10⟩, hr, hord, hw⟩⟩
          · refine wpOp_list rfl ?_
            intro K' hK'
            simp [Region.binds] at hb he
            have hu := hF.o1 he.1
            have hv := hF.o2 he.2.1
            go_wp2
            exact ⟨up b' 10 true, by simp [up, *], up u 10 (.pointer (some ⟨gr, k, none⟩)), by simp [up, hu, hv], Or.inl ⟨by simpa [up] using h11, ⟨hF.o0, hF.o1, hF.o2, hF.o3, hF.o4, hF.o5, hF.o6, hF.o7, hF.o8, hF.o9, fun _ => rfl⟩, hr, hord, hw⟩⟩
          · refine wpOp_list rfl ?_
            intro K' hK'
            simp [Region.binds] at hb he
            have e9 : b' 9 = true := he.2.1
            have e10 : b' 10 = true := he.1
            have e4 : b' 4 = true := by simp_all
            have e7 : b' 7 = true := by simp_all
            have hu := hF.o10 e10
            have hv := hF.o9 e9
            simp only [e4, e7, if_true] at hr
            have xg := (wr_cells hw gr k hgl hna).trans HXG.out
            have fg := (wr_frz hw gr k hgl hna).trans HFG.out
            have hall : ∀ i, i < 12 → up b' 11 true i = true := by
              intro i hi
              rcases (show i = 0 ∨ i = 1 ∨ i = 2 ∨ i = 3 ∨ i = 4 ∨ i = 5 ∨ i = 6 ∨ i = 7 ∨ i = 8 ∨ i = 9 ∨ i = 10 ∨ i = 11 by omega) with rfl | rfl | rfl | rfl | rfl | rfl | rfl | rfl | rfl | rfl | rfl | rfl
              all_goals first | rfl | (simp [up]; simp_all)
            go_wp2
            exact ⟨up b' 11 true, by simp [up, *], u, by simp [hu, hv], Or.inr ⟨hall, ww, hr, hw, rfl⟩⟩
        · intro L act ww hI hi
          obtain ⟨b', rfl, u, rfl, hFF⟩ := hI
          have e0 : b' 0 = true := ready_all 0 hi (by decide) (by simp [Region.binds])
          have e1 : b' 1 = true := ready_all 1 hi (by decide) (by simp [Region.binds, e0])
          have e2 : b' 2 = true := ready_all 2 hi (by decide) (by simp [Region.binds, *])
          have e3 : b' 3 = true := ready_all 3 hi (by decide) (by simp [Region.binds, *])
          have e4 : b' 4 = true := ready_all 4 hi (by decide) (by simp [Region.binds, *])
          have e5 : b' 5 = true := ready_all 5 hi (by decide) (by simp [Region.binds, *])
          have e6 : b' 6 = true := ready_all 6 hi (by decide) (by simp [Region.binds, *])
          have e7 : b' 7 = true := ready_all 7 hi (by decide) (by simp [Region.binds, *])
          have e8 : b' 8 = true := ready_all 8 hi (by decide) (by simp [Region.binds, *])
          have e9 : b' 9 = true := ready_all 9 hi (by decide) (by simp [Region.binds, *])
          have e10 : b' 10 = true := ready_all 10 hi (by decide) (by simp [Region.binds, *])
          have e11 : b' 11 = true := ready_all 11 hi (by decide) (by simp [Region.binds, *])
          rcases hFF with ⟨h11, _⟩ | ⟨_, w6, hr6, hw6, rfl⟩
          · rw [h11] at e11; cases e11
          clear hi e0 e1 e2 e3 e4 e5 e6 e7 e8 e9 e10 e11
          have hS6 := HL.out.step (q' := p + 209800 + 2 * ((k + 1 : Nat) : Int)) hw6 hr6 (by have := HPQ.out; omega)
          have hS7 := LD.reg (l := ⟨rs, 0, [], false⟩) (g := gr) (c := cr) hS6 k W ⟨hW1, hW2⟩
          have HS7 := Lib.hid hS7
          clear hS6 hS7 hr6 hw6
          go_wp2
          go_roundg (4 - (k + 1))
          case measure => omega
          case rel => exact ⟨k + 1, by omega, by go_num, rs.set k W, by rw [List.length_set]; exact HRS.out, by rw [List.length_set]; exact HS7.out⟩
      · have hk4 : ¬ (k : Int) < 4 := by omega
        have HE := Lib.hid hLD
        have hkk : k = 4 := by omega
        clear hLD
        go_wp2
        go_meet
        exact ⟨rs, hrs, HE.out.mono (by omega)⟩
  case rest =>
    obtain ⟨rs, hrs, hLD0⟩ := hcut
    clear HLD
    go_wp2_with fail
    refine (pick_ld 30 hLD0 (by omega) (by omega)).mono ?_
    rintro e w5 ⟨V, rfl, hV0, hV1, hLD5, _⟩
    obtain ⟨m, rfl⟩ : ∃ j : Nat, V = j := ⟨V.toNat, by omega⟩
    have HLD5 := Lib.hid hLD5
    clear hLD0 hLD5
    go_upto_block 2 with fail
    go_cut [13] from 40 to 55 (fun _ wr => ∃ r t l, LD w3 M0 X a bs (p + 209840) r t l wr ∧ l.regs.length ≤ 4 ∧ l.turns.length ≤ 3)
    case first =>
      go_wp2_with fail
      go_loopg [13] m (fun g i wr => i = .int .i64 g ∧ g ≤ 29 ∧ ∃ r t l, LD w3 M0 X a bs (p + 209839 - g) r t l wr ∧ l.regs.length ≤ 4 ∧ l.turns.length ≤ 3)
      case atStart => exact ⟨rfl, by omega, _, _, _, HLD5.out.mono (by omega), by simp [hrs], by simp⟩
      case round =>
        clear HLD5
        obtain ⟨rfl, hg, r, t, l, hLD, hrl, htl⟩ := hrel
        obtain ⟨ra, rc, hrv⟩ := own_shape hLD.nr
        obtain ⟨ta2, tc2, htv⟩ := own_shape hLD.nt
        subst hrv htv
        by_cases hlt : 0 < gk
        · obtain ⟨j, rfl⟩ : ∃ j, gk = j + 1 := ⟨gk - 1, by omega⟩
          have hmr : OwI (b + 1) wr mv ms := hLD.wr.owns HOM.out (fun k hk hh => by have := own_ge HOM.out k hk; omega)
          have hlr := hLD.wr.owns HOL.out (fun k hk hh => by have := own_ge HOL.out k hk; omega)
          have hcall := specStepLane M0 M0 (b + 1) (.slice ra l.regs.length rc) (.slice ta2 l.turns.length tc2) mv lv l cs ms ID wr hLD.nr hLD.nt hmr (rdC_of_owns hlr (fun x hx => (HC1.out x hx).wf)) (fun x hx => far_wf (hLD.li.1 x hx)) (fun x hx => far_wf (hLD.li.2.1 x hx)) (fun x hx => far_wf (by have := HMB.out x hx; omega))
          have hsi := stepV_in (id := ID) (ms := ms) hLD.li hl1
          have hsl := stepV_len (cs := cs) (id := ID) (ms := ms) ⟨hrl, htl⟩
          obtain ⟨⟨L, M⟩, hLM⟩ : ∃ LM, stepV l cs ID ms = LM := ⟨_, rfl⟩
          rw [hLM] at hcall hsi hsl
          have HSI := Lib.hid hsi
          have HSL := Lib.hid hsl
          obtain ⟨x0, x1, x2, x3, x4⟩ := _root_.id hLD.kX
          have HLD6 := Lib.hid hLD
          clear hmr hlr hLD hLM hsi hsl
          go_wp2_with fail
          refine hcall.mono ?_
          rintro e w6 ⟨r', t', mv', rfl, o1, o2, o3, d1, d2, hb6⟩
          obtain ⟨a5, c5, hv5⟩ := own_shape o1
          obtain ⟨a6, c6, hv6⟩ := own_shape o2
          subst hv5 hv6
          have hput := HLD6.out.put hb6 o1 o2 d1 HSI.out
          have hx6 := (HLD6.out.below hb6).kX
          have hf6 := (HLD6.out.below hb6).fX
          clear x0 x1 x2 x3 x4 hcall o1 o2 o3 d1 d2
          obtain ⟨x0, x1, x2, x3, x4⟩ := hx6
          have f0 := hf6 0
          have f1 := hf6 1
          have f2 := hf6 2
          have f3 := hf6 3
          clear hf6 hb6
          go_wp2_with fail
          refine (pick_ld 2 hput (by omega) (by omega)).mono ?_
          rintro e w7 ⟨U, rfl, hU0, hU1, hLD7, _⟩
          clear hput x0 x1 x2 x3 x4 f0 f1 f2 f3
          rcases (show U = 0 ∨ U = 1 by omega) with rfl | rfl
          · obtain ⟨y0, y1, y2, y3, y4⟩ := _root_.id hLD7.kX
            have g3 := hLD7.fX 3
            have H8 := Lib.hid (hLD7.wait false)
            clear hLD7
            go_wp2
            go_roundg j
            case measure => omega
            case rel => exact ⟨by go_num, by omega, _, _, _, H8.out.mono (by omega), HSL.out.1, HSL.out.2⟩
          · have H8 := Lib.hid hLD7
            clear hLD7
            go_wp2
            go_roundg j
            case measure => omega
            case rel => exact ⟨by go_num, by omega, _, _, _, H8.out.mono (by omega), HSL.out.1, HSL.out.2⟩
        · obtain rfl : gk = 0 := by omega
          have H8 := Lib.hid hLD
          clear hLD
          go_wp2
          go_meet
          exact ⟨_, _, _, H8.out.mono (by omega), hrl, htl⟩
    case rest =>
      clear HLD5
      obtain ⟨r, t, l, hLD, hrl, htl⟩ := hcut
      have hXM := hLD.mX
      have hbM : b + 1 ≤ M0 := by have := HM0.out; omega
      have hbX : ¬ b = X := by omega
      have hXb : ¬ X = b := by omega
      obtain ⟨ra, rc, hrv⟩ := own_shape hLD.nr
      obtain ⟨ta2, tc2, htv⟩ := own_shape hLD.nt
      obtain ⟨la, ln, hlv⟩ := own_shape HOL.out
      obtain ⟨ma, mn, hmv⟩ := own_shape HOM.out
      subst hrv htv hlv hmv
      go_wp2_with fail
      refine (odd_ld n hLD (by omega) (by omega)).mono ?_
      rintro e w7 ⟨O, rfl, hLD7⟩
      clear hLD
      cases O
      · obtain ⟨x0, x1, x2, x3, x4⟩ := _root_.id hLD7.kX
        have hbx := HRB.out.wr hLD7.wr (show ¬ b = a by omega)
        have hfb := fun o => (hLD7.wr.frozen HRB.out.lt (show ¬ b = a by omega)).trans (HRF.out o)
        obtain ⟨s0, s1, s2, s3, s4⟩ := _root_.id hbx
        have q0 := hfb 0
        have q1 := hfb 1
        have q2 := hfb 2
        have q3 := hfb 3
        clear hbx hfb
        have HEND := Lib.hid (lane_end (Q := p + 300000) HB.out hab hLD7 (by omega) HW3.out HOL.out HOM.out HC1.out hl1 hml HMB.out (id := ID) (by omega) (by omega) (.slice ra l.regs.length rc) (.int .i64 (l.pc)) (.slice ta2 l.turns.length tc2) (.bool l.waits))
        clear hLD7
        go_wp2
        refine bodyPost_ret (v := .tuple #[.agg #[.slice ra l.regs.length rc, .int .i64 (l.pc), .slice ta2 l.turns.length tc2, .bool l.waits], .slice la cs.length ln, .int .i64 ID, .slice ma ms.length mn]) (by simp [results, Try.results8, go_sem, s0, s1, s2, s3]) rfl HEND.out
      · by_cases hz0 : l.regs.length = 0
        · have hz1 : ¬ (0 : Int) < l.regs.length := by omega
          clear hz0
          obtain ⟨x0, x1, x2, x3, x4⟩ := _root_.id hLD7.kX
          have hbx := HRB.out.wr hLD7.wr (show ¬ b = a by omega)
          have hfb := fun o => (hLD7.wr.frozen HRB.out.lt (show ¬ b = a by omega)).trans (HRF.out o)
          obtain ⟨s0, s1, s2, s3, s4⟩ := _root_.id hbx
          have q0 := hfb 0
          have q1 := hfb 1
          have q2 := hfb 2
          have q3 := hfb 3
          clear hbx hfb
          have HEND := Lib.hid (lane_end (Q := p + 300000) HB.out hab hLD7 (by omega) HW3.out HOL.out HOM.out HC1.out hl1 hml HMB.out (id := ID) (by omega) (by omega) (.slice ra l.regs.length rc) (.int .i64 (l.pc)) (.slice ta2 l.turns.length tc2) (.bool l.waits))
          clear hLD7
          go_wp2
          refine bodyPost_ret (v := .tuple #[.agg #[.slice ra l.regs.length rc, .int .i64 (l.pc), .slice ta2 l.turns.length tc2, .bool l.waits], .slice la cs.length ln, .int .i64 ID, .slice ma ms.length mn]) (by simp [results, Try.results8, go_sem, s0, s1, s2, s3]) rfl HEND.out
        · have hz2 : (0 : Int) < l.regs.length := by omega
          obtain ⟨gr2, cr2, hrv2, oi2, _, _⟩ := OI.shape hLD7.nr (by omega)
          simp only [Value.slice.injEq] at hrv2
          obtain ⟨rfl, _, rfl⟩ := hrv2
          have xg2 := oi2.get (i := 0) (by omega)
          have fg2 := oi2.frz 0
          clear oi2
          obtain ⟨x0, x1, x2, x3, x4⟩ := _root_.id hLD7.kX
          go_wp2_with fail
          refine (pick_ld 5 hLD7 (by omega) (by omega)).mono ?_
          rintro e w8 ⟨V5, rfl, hV50, hV51, hLD8, _⟩
          clear hLD7 x0 x1 x2 x3 x4 xg2 fg2
          obtain ⟨x0, x1, x2, x3, x4⟩ := _root_.id hLD8.kX
          have f1 := hLD8.fX 1
          have f2 := hLD8.fX 2
          have f3 := hLD8.fX 3
          rcases (show V5 = 0 ∨ V5 = 1 ∨ V5 = 2 ∨ V5 = 3 ∨ V5 = 4 by omega) with rfl | rfl | rfl | rfl | rfl
          · have oi3 := OI.mk hLD8.nr
            have xg3 := oi3.get (i := 0) (by omega)
            have fg3 := oi3.frz 0
            have hgM := oi3.ge
            clear oi3
            have hLD9 := LD.reg hLD8 0 256 (by omega)
            have hgX : ¬ gr2 = X := hLD8.xr gr2 rfl
            have hgX2 : ¬ X = gr2 := fun hh => hgX hh.symm
            have hgb : ¬ gr2 = b := by omega
            have hgb2 : ¬ b = gr2 := by omega
            have hbx := HRB.out.wr hLD8.wr (show ¬ b = a by omega)
            have hfb := fun o => (hLD8.wr.frozen HRB.out.lt (show ¬ b = a by omega)).trans (HRF.out o)
            obtain ⟨s0, s1, s2, s3, s4⟩ := _root_.id hbx
            have q0 := hfb 0
            have q1 := hfb 1
            have q2 := hfb 2
            have q3 := hfb 3
            clear hbx hfb
            have HEND := Lib.hid (lane_end (Q := p + 300000) HB.out hab hLD9 (by omega) HW3.out HOL.out HOM.out HC1.out hl1 hml HMB.out (id := ID) (by omega) (by simp only [List.length_set]; omega) (.slice (some ⟨gr2, 0, none⟩) l.regs.length rc) (.int .i64 (l.pc)) (.slice ta2 l.turns.length tc2) (.bool l.waits))
            clear hLD8 hLD9
            go_wp2
            refine bodyPost_ret (v := .tuple #[.agg #[.slice (some ⟨gr2, 0, none⟩) l.regs.length rc, .int .i64 (l.pc), .slice ta2 l.turns.length tc2, .bool l.waits], .slice la cs.length ln, .int .i64 ID, .slice ma ms.length mn]) (by simp [results, Try.results8, go_sem, s0, s1, s2, s3]) rfl HEND.out
          · have hbl := below_alloc w8 (.cells #[.int .i64 (-1), .int .i64 (cs.length + 1)] 3)
            have hl2 : (cs.length : Int) + 1 ≤ 9223372036854775807 := by omega
            go_wp2_with fail
            refine (pick_ld 2 (hLD8.below hbl) (by omega) (by omega)).mono ?_
            rintro e w9 ⟨U, rfl, hU0, hU1, hLD9, hw9⟩
            have lc0 := lit_cell2 hw9 (heap_alloc_new w8 _) (by have := hLD8.aM; have := hLD8.mX; have := hLD8.kX.lt; omega) 0
            have lc1 := lit_cell2 hw9 (heap_alloc_new w8 _) (by have := hLD8.aM; have := hLD8.mX; have := hLD8.kX.lt; omega) 1
            clear hbl hw9 x0 x1 x2 x3 x4 f1 f2 f3 hLD8
            obtain ⟨x0, x1, x2, x3, x4⟩ := _root_.id hLD9.kX
            have f1 := hLD9.fX 1
            rcases (show U = 0 ∨ U = 1 by omega) with rfl | rfl
            · have hLD10 := hLD9.place (-1) (by omega)
              have hbx := HRB.out.wr hLD9.wr (show ¬ b = a by omega)
              have hfb := fun o => (hLD9.wr.frozen HRB.out.lt (show ¬ b = a by omega)).trans (HRF.out o)
              obtain ⟨s0, s1, s2, s3, s4⟩ := _root_.id hbx
              have q0 := hfb 0
              have q1 := hfb 1
              have q2 := hfb 2
              have q3 := hfb 3
              clear hbx hfb
              have HEND := Lib.hid (lane_end (Q := p + 300000) HB.out hab hLD10 (by omega) HW3.out HOL.out HOM.out HC1.out hl1 hml HMB.out (id := ID) (by omega) (by simp only; omega) (.slice (some ⟨gr2, 0, none⟩) l.regs.length rc) (.int .i64 (-1)) (.slice ta2 l.turns.length tc2) (.bool l.waits))
              clear hLD9 hLD10
              go_wp2
              refine bodyPost_ret (v := .tuple #[.agg #[.slice (some ⟨gr2, 0, none⟩) l.regs.length rc, .int .i64 (-1), .slice ta2 l.turns.length tc2, .bool l.waits], .slice la cs.length ln, .int .i64 ID, .slice ma ms.length mn]) (by simp [results, Try.results8, go_sem, s0, s1, s2, s3]) rfl HEND.out
            · have hLD10 := hLD9.place ((cs.length : Int) + 1) (by omega)
              have hbx := HRB.out.wr hLD9.wr (show ¬ b = a by omega)
              have hfb := fun o => (hLD9.wr.frozen HRB.out.lt (show ¬ b = a by omega)).trans (HRF.out o)
              obtain ⟨s0, s1, s2, s3, s4⟩ := _root_.id hbx
              have q0 := hfb 0
              have q1 := hfb 1
              have q2 := hfb 2
              have q3 := hfb 3
              clear hbx hfb
              have HEND := Lib.hid (lane_end (Q := p + 300000) HB.out hab hLD10 (by omega) HW3.out HOL.out HOM.out HC1.out hl1 hml HMB.out (id := ID) (by omega) (by simp only; omega) (.slice (some ⟨gr2, 0, none⟩) l.regs.length rc) (.int .i64 ((cs.length : Int) + 1)) (.slice ta2 l.turns.length tc2) (.bool l.waits))
              clear hLD9 hLD10
              go_wp2
              refine bodyPost_ret (v := .tuple #[.agg #[.slice (some ⟨gr2, 0, none⟩) l.regs.length rc, .int .i64 ((cs.length : Int) + 1), .slice ta2 l.turns.length tc2, .bool l.waits], .slice la cs.length ln, .int .i64 ID, .slice ma ms.length mn]) (by simp [results, Try.results8, go_sem, s0, s1, s2, s3]) rfl HEND.out
          · have hnt := hLD8.nt
            have HL8 := Lib.hid hLD8
            have hM8 : M0 ≤ w8.heap.size := by have := hLD8.mX; have := hLD8.kX.lt; omega
            clear hLD8
            go_wp2_with (at_builtin; refine wpList_app1w w8 rfl _ _ 23 3 rfl M0 8 (.int .i64 1) (.int .i64 0) Try.underlying23 infoInt rfl rfl _ _ _ hnt rfl rfl (by omega) (by omega) hM8 ?_)
            intro v9 w9 ho9 hw9 hn9
            have hLD10 := HL8.out.more ho9 hw9 hn9 (by omega)
            obtain ⟨a9, c9, hv9⟩ := own_shape ho9
            subst hv9
            have hk9 := HL8.out.kX.wr hw9 (fun hh => HL8.out.xt X hh rfl)
            have g2 := (hw9.frozen HL8.out.kX.lt (fun hh => HL8.out.xt X hh rfl)).trans f2
            have hbk9 := (HRB.out.wr HL8.out.wr (show ¬ b = a by omega)).wr hw9 (fun hh => by have := own_ge HL8.out.nt b hh; omega)
            have hfk9 := fun o => (hw9.frozen (o := o) (HRB.out.wr HL8.out.wr (show ¬ b = a by omega)).lt (fun hh => by have := own_ge HL8.out.nt b hh; omega)).trans ((HL8.out.wr.frozen HRB.out.lt (show ¬ b = a by omega)).trans (HRF.out o))
            clear x0 x1 x2 x3 x4 f1 f2 f3 hnt ho9 hw9 hn9
            obtain ⟨x0, x1, x2, x3, x4⟩ := hk9
            have hbx := hbk9
            have hfb := hfk9
            obtain ⟨s0, s1, s2, s3, s4⟩ := _root_.id hbx
            have q0 := hfb 0
            have q1 := hfb 1
            have q2 := hfb 2
            have q3 := hfb 3
            clear hbx hfb
            have HEND := Lib.hid (lane_end (Q := p + 300000) HB.out hab hLD10 (by omega) HW3.out HOL.out HOM.out HC1.out hl1 hml HMB.out (id := ID) (by omega) (by simp only [List.length_append, List.length_cons, List.length_nil]; omega) (.slice (some ⟨gr2, 0, none⟩) l.regs.length rc) (.int .i64 (l.pc)) (.slice a9 (l.turns.length + 1) c9) (.bool l.waits))
            clear hLD10 hbk9 hfk9
            go_wp2
            refine bodyPost_ret (v := .tuple #[.agg #[.slice (some ⟨gr2, 0, none⟩) l.regs.length rc, .int .i64 (l.pc), .slice a9 (l.turns.length + 1) c9, .bool l.waits], .slice la cs.length ln, .int .i64 ID, .slice ma ms.length mn]) (by simp [results, Try.results8, go_sem, s0, s1, s2, s3]) rfl HEND.out
          · have hLD9 := hLD8.wait true
            have hbx := HRB.out.wr hLD8.wr (show ¬ b = a by omega)
            have hfb := fun o => (hLD8.wr.frozen HRB.out.lt (show ¬ b = a by omega)).trans (HRF.out o)
            obtain ⟨s0, s1, s2, s3, s4⟩ := _root_.id hbx
            have q0 := hfb 0
            have q1 := hfb 1
            have q2 := hfb 2
            have q3 := hfb 3
            clear hbx hfb
            have HEND := Lib.hid (lane_end (Q := p + 300000) HB.out hab hLD9 (by omega) HW3.out HOL.out HOM.out HC1.out hl1 hml HMB.out (id := ID) (by omega) (by simp only; omega) (.slice (some ⟨gr2, 0, none⟩) l.regs.length rc) (.int .i64 (l.pc)) (.slice ta2 l.turns.length tc2) (.bool true))
            clear hLD8 hLD9
            go_wp2
            refine bodyPost_ret (v := .tuple #[.agg #[.slice (some ⟨gr2, 0, none⟩) l.regs.length rc, .int .i64 (l.pc), .slice ta2 l.turns.length tc2, .bool true], .slice la cs.length ln, .int .i64 ID, .slice ma ms.length mn]) (by simp [results, Try.results8, go_sem, s0, s1, s2, s3]) rfl HEND.out
          · have hbl := below_alloc w8 (.cells #[.int .i64 (-1), .int .i64 8] 3)
            go_wp2_with fail
            refine (pick_ld 2 (hLD8.below hbl) (by omega) (by omega)).mono ?_
            rintro e w9 ⟨U, rfl, hU0, hU1, hLD9, hw9⟩
            have lc0 := lit_cell2 hw9 (heap_alloc_new w8 _) (by have := hLD8.aM; have := hLD8.mX; have := hLD8.kX.lt; omega) 0
            have lc1 := lit_cell2 hw9 (heap_alloc_new w8 _) (by have := hLD8.aM; have := hLD8.mX; have := hLD8.kX.lt; omega) 1
            clear hbl hw9 x0 x1 x2 x3 x4 f1 f2 f3 hLD8
            rcases (show U = 0 ∨ U = 1 by omega) with rfl | rfl
            · obtain ⟨x0, x1, x2, x3, x4⟩ := _root_.id hLD9.kX
              have hbx := HRB.out.wr hLD9.wr (show ¬ b = a by omega)
              have hfb := fun o => (hLD9.wr.frozen HRB.out.lt (show ¬ b = a by omega)).trans (HRF.out o)
              obtain ⟨s0, s1, s2, s3, s4⟩ := _root_.id hbx
              have q0 := hfb 0
              have q1 := hfb 1
              have q2 := hfb 2
              have q3 := hfb 3
              clear hbx hfb
              have HEND := Lib.hid (lane_end (Q := p + 300000) HB.out hab hLD9 (by omega) HW3.out HOL.out HOM.out HC1.out hl1 hml HMB.out (id := (-1)) (by omega) (by omega) (.slice (some ⟨gr2, 0, none⟩) l.regs.length rc) (.int .i64 (l.pc)) (.slice ta2 l.turns.length tc2) (.bool l.waits))
              clear hLD9
              go_wp2
              refine bodyPost_ret (v := .tuple #[.agg #[.slice (some ⟨gr2, 0, none⟩) l.regs.length rc, .int .i64 (l.pc), .slice ta2 l.turns.length tc2, .bool l.waits], .slice la cs.length ln, .int .i64 (-1), .slice ma ms.length mn]) (by simp [results, Try.results8, go_sem, s0, s1, s2, s3]) rfl HEND.out
            · obtain ⟨x0, x1, x2, x3, x4⟩ := _root_.id hLD9.kX
              have hbx := HRB.out.wr hLD9.wr (show ¬ b = a by omega)
              have hfb := fun o => (hLD9.wr.frozen HRB.out.lt (show ¬ b = a by omega)).trans (HRF.out o)
              obtain ⟨s0, s1, s2, s3, s4⟩ := _root_.id hbx
              have q0 := hfb 0
              have q1 := hfb 1
              have q2 := hfb 2
              have q3 := hfb 3
              clear hbx hfb
              have HEND := Lib.hid (lane_end (Q := p + 300000) HB.out hab hLD9 (by omega) HW3.out HOL.out HOM.out HC1.out hl1 hml HMB.out (id := 8) (by omega) (by omega) (.slice (some ⟨gr2, 0, none⟩) l.regs.length rc) (.int .i64 (l.pc)) (.slice ta2 l.turns.length tc2) (.bool l.waits))
              clear hLD9
              go_wp2
              refine bodyPost_ret (v := .tuple #[.agg #[.slice (some ⟨gr2, 0, none⟩) l.regs.length rc, .int .i64 (l.pc), .slice ta2 l.turns.length tc2, .bool l.waits], .slice la cs.length ln, .int .i64 8, .slice ma ms.length mn]) (by simp [results, Try.results8, go_sem, s0, s1, s2, s3]) rfl HEND.out
end Go.Proofs.Ythhdffgfldphlaa
