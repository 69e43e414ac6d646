/- YtidmjeehcmpjnaaDoorPgmI: which programs the program calls valid; counts of instructions, in both. No conditions. -/
import Derived.Test.YtidmjeehcmpjnaaDoorBlocks
import Derived.Test.YtidmjeehcmpjnaaDoorPgmS
namespace Go.Proofs.YtidmjeehcmpjnaaDoor
open Go.ChangeShapes Go.WideShapes Go.ChangeAt Go.RowKit
set_option linter.unusedVariables false

theorem pValid_ok {cs : List Cd} (hl : cs.length ≤ 40) (hv : ∀ j c, j < cs.length → cs[j]? = some c → cValid c = true) : pValid cs = sOk cs := by
  have ha : cs.all cValid = true := by
    rw [List.all_eq_true]
    intro c hc
    obtain ⟨j, hj⟩ := List.mem_iff_getElem?.1 hc
    exact hv j c (List.getElem?_eq_some_iff.1 hj).1 hj
  unfold pValid
  rw [ha, decide_eq_true hl, Bool.true_and, Bool.true_and]
theorem pValid_long {cs : List Cd} (hl : ¬ cs.length ≤ 40) : pValid cs = false := by
  unfold pValid; rw [decide_eq_false hl, Bool.false_and]
set_option maxRecDepth 100000 in
set_option maxHeartbeats 4000000 in
theorem implProgramValid (v : Value) (cs : List Cd) (w : World) (h : RdC w v cs) : Calls Tryd.prog 46 #[v] w fun e w' => e = .returned (.bool (pValid cs)) ∧ Below w.heap.size w w' := by
  have HR := Lib.hid h
  obtain ⟨a, n, b, off, rfl, hlc, hm, hb, hcell⟩ := h.opened
  by_cases h40 : cs.length ≤ 40
  · go_enter Tryd.func46, Tryd.ntmps46
    go_wp2_with fail
    go_loopg [13] cs.length (fun g i wr => ∃ k : Nat, k + g = cs.length ∧ i = .int .i64 k ∧ (∀ j c, j < k → cs[j]? = some c → cValid c = true) ∧ Below w.heap.size w wr)
    case atStart => exact ⟨0, by omega, rfl, fun j c hj => absurd hj (Nat.not_lt_zero j), Below.refl _ _⟩
    case round =>
      obtain ⟨k, hk, rfl, hv, hbl⟩ := hrel
      have HV := Lib.hid hv
      by_cases hlt : k < cs.length
      · obtain ⟨c, hx⟩ := get_lt hlt
        obtain ⟨hblt, ha⟩ := hb (ne_of_get hx)
        obtain ⟨e0, e1, e2, e3⟩ := hcell.get hb hbl hx
        have HX := Lib.hid hx
        subst ha
        have hb1 := hbl.alloc hbl.size (.cells #[.int .i64 c.op, .int .i64 c.a, .int .i64 c.b, .int .i64 c.c] 42)
        have HC := Lib.hid (implCodeValid c)
        clear hb hcell hx hv
        cases hcv : cValid c
        · have HN := Lib.hid (pValid_bad HX.out hcv)
          rw [hcv] at HC
          clear hcv
          go_wp2_with fail
          refine (HC.out _).mono ?_
          rintro e w2 ⟨rfl, hb2⟩
          have hB2 := hb1.trans (hb2.mono hb1.size)
          clear hb1 hb2 hbl
          go_wp2
          go_ret
          exact ⟨by rw [HN.out]; rfl, hB2⟩
        · have HV2 := Lib.hid (valid_snoc HV.out HX.out hcv)
          rw [hcv] at HC
          clear hcv
          go_wp2_with fail
          refine (HC.out _).mono ?_
          rintro e w2 ⟨rfl, hb2⟩
          have hB2 := hb1.trans (hb2.mono hb1.size)
          clear hb1 hb2 hbl
          go_wp2
          go_roundg (cs.length - (k + 1))
          case measure => omega
          case rel => exact ⟨k + 1, by omega, by go_num, HV2.out, hB2⟩
      · obtain rfl : k = cs.length := by omega
        have HP := Lib.hid (pValid_ok h40 HV.out)
        have hR := HR.out.below hbl (Nat.le_refl _)
        clear hk hlt hv hb hcell
        go_wp2_with fail
        refine (implBlocks _ cs _ hR (by omega)).mono ?_
        rintro e w2 ⟨va, vo, rfl, _, hb2⟩
        have hB2 := hbl.trans (hb2.mono hbl.size)
        clear hR hb2 hbl
        go_wp2
        go_ret
        exact ⟨by rw [HP.out]; rfl, hB2⟩
  · have HN := Lib.hid (pValid_long h40)
    go_enter Tryd.func46, Tryd.ntmps46
    go_wp2
    go_ret
    exact ⟨by rw [HN.out]; rfl, Below.refl _ _⟩
theorem cnt_take {cs : List Cd} {k : Nat} {c : Cd} (op : Int) (hx : cs[k]? = some c) : cnt op (cs.take (k + 1)) = cnt op (cs.take k) + (if c.op = op then 1 else 0) := by
  rw [take_snoc hx, cnt_append]
  simp [cnt, List.countP_cons]
end Go.Proofs.YtidmjeehcmpjnaaDoor
