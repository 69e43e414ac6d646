/- YtidmjeehcmpjnaaDoorTxtC: the text of an instruction, by the reference and the program. Conditions: the listed variables hold what the program's text lays. -/
import Derived.Test.YtidmjeehcmpjnaaDoorTxtN
import Derived.Test.YtidmjeehcmpjnaaDoorShelf
import Derived.Deep.RegionHeld3
namespace Go.Proofs.YtidmjeehcmpjnaaDoor
open Go.ChangeShapes Go.WideShapes Go.ChangeAt Go.RowKit
set_option linter.unusedVariables false
/-- An instruction's numbers as far as they are shown. -/
structure Num3 (op a b d : Int) : Prop where
  n1 : (nm op).length ≤ 7
  a0 : 0 ≤ a ∧ a ≤ 255
  b0 : 0 ≤ b ∧ b ≤ 255
  d0 : 0 ≤ d ∧ d ≤ 255
theorem num3_of {c : Cd} (h : cValid c = true) : Num3 c.op c.a c.b c.c := by
  obtain ⟨h14, hn, hs⟩ := valid_nums h
  obtain ⟨op, a, b, d⟩ := c
  unfold Cd.nums at hn
  simp only at hn hs h14
  refine ⟨nm_len op, ?_, ?_, ?_⟩
  all_goals simp only
  · rcases hs with ⟨h0, rfl, rfl, rfl⟩ | ⟨h0, rfl, rfl⟩ | ⟨h0, rfl⟩ | h0
    · exact ⟨by decide, by decide⟩
    all_goals exact hn a (by rw [h0]; simp)
  · rcases hs with ⟨h0, rfl, rfl, rfl⟩ | ⟨h0, rfl, rfl⟩ | ⟨h0, rfl⟩ | h0
    · exact ⟨by decide, by decide⟩
    · exact ⟨by decide, by decide⟩
    all_goals exact hn b (by rw [h0]; simp)
  · rcases hs with ⟨h0, rfl, rfl, rfl⟩ | ⟨h0, rfl, rfl⟩ | ⟨h0, rfl⟩ | h0
    · exact ⟨by decide, by decide⟩
    · exact ⟨by decide, by decide⟩
    · exact ⟨by decide, by decide⟩
    · exact hn d (by rw [h0]; simp)
theorem ct0 {op a b d : Int} (h : cValid ⟨op, a, b, d⟩ = true) (hs : shownN op = 0) : ctext ⟨op, a, b, d⟩ = nm op := by
  rw [ctext_valid h]; unfold Cd.nums; simp only; rw [hs]; exact List.append_nil _
theorem ct1 {op a b d : Int} (h : cValid ⟨op, a, b, d⟩ = true) (hs : shownN op = 1) : ctext ⟨op, a, b, d⟩ = nm op ++ [32] ++ dig a := by
  rw [ctext_valid h]; unfold Cd.nums; simp only; rw [hs]; simp [numsT]
theorem ct2 {op a b d : Int} (h : cValid ⟨op, a, b, d⟩ = true) (hs : shownN op = 2) : ctext ⟨op, a, b, d⟩ = nm op ++ [32] ++ dig a ++ [32] ++ dig b := by
  rw [ctext_valid h]; unfold Cd.nums; simp only; rw [hs]; simp [numsT]
theorem ct3 {op a b d : Int} (h : cValid ⟨op, a, b, d⟩ = true) (hs : shownN op = 3) : ctext ⟨op, a, b, d⟩ = nm op ++ [32] ++ dig a ++ [32] ++ dig b ++ [32] ++ dig d := by
  rw [ctext_valid h]; unfold Cd.nums; simp only; rw [hs]; simp [numsT]
theorem b2 (x y z : List UInt8) : (⟨x.toArray⟩ : ByteArray) ++ ⟨y.toArray⟩ ++ ⟨z.toArray⟩ = ⟨(x ++ y ++ z).toArray⟩ := by rw [bapp, bapp]
theorem b4 (x y z u v : List UInt8) : (⟨x.toArray⟩ : ByteArray) ++ ⟨y.toArray⟩ ++ ⟨z.toArray⟩ ++ ⟨u.toArray⟩ ++ ⟨v.toArray⟩ = ⟨(x ++ y ++ z ++ u ++ v).toArray⟩ := by rw [bapp, bapp, bapp, bapp]
theorem b6 (x y z u v s t : List UInt8) : (⟨x.toArray⟩ : ByteArray) ++ ⟨y.toArray⟩ ++ ⟨z.toArray⟩ ++ ⟨u.toArray⟩ ++ ⟨v.toArray⟩ ++ ⟨s.toArray⟩ ++ ⟨t.toArray⟩ = ⟨(x ++ y ++ z ++ u ++ v ++ s ++ t).toArray⟩ := by rw [bapp, bapp, bapp, bapp, bapp, bapp]
theorem txt_eq {x : ByteArray} {l m : List UInt8} (h : x = ⟨l.toArray⟩) (h2 : m = l) : Ending.returned (Value.string x) = Ending.returned (Value.string ⟨m.toArray⟩) := by rw [h, h2]
set_option maxRecDepth 100000 in
set_option maxHeartbeats 4000000 in
theorem specCodeText_a (c : Cd) (w : World) (hv : cValid c = true) (ho : c.op = 10 ∨ c.op = 12 ∨ c.op = 14 ∨ c.op = 2 ∨ c.op = 11) : Calls Tryd.prog 30 #[.agg #[.int .i64 c.op, .int .i64 c.a, .int .i64 c.b, .int .i64 c.c]] w fun e w' => e = .returned (.string ⟨(ctext c).toArray⟩) ∧ Below w.heap.size w w' := by
  have HV := Lib.hid (specCodeValid c (w.alloc (.cells #[.int .i64 c.op, .int .i64 c.a, .int .i64 c.b, .int .i64 c.c] 42)))
  rw [hv] at HV
  obtain ⟨n1, a0, b0, d0⟩ := num3_of hv
  obtain ⟨op, a, b, d⟩ := c
  simp only at *
  have l1 := dig_len a0
  have HC := Lib.hid hv
  have HN := Lib.hid (fun w => l5Name_any op w (valid_nums hv).1)
  have HA := Lib.hid (fun w => l5Number_any a w (by omega))
  clear hv
  rcases ho with rfl | rfl | rfl | rfl | rfl
  all_goals
    go_enter Tryd.func30, Tryd.ntmps30
    go_wp2_with fail
    refine HV.out.mono ?_
    rintro e w1 ⟨rfl, hb1⟩
    obtain ⟨q0, q1, q2, q3, hB1⟩ := box_cells hb1
    clear hb1 HV
    go_wp2_with fail
    refine (HN.out _).mono ?_
    rintro e w2 ⟨rfl, hb2⟩
    have hB2 := hB1.trans (hb2.mono hB1.size)
    have z := Nat.lt_of_lt_of_le (World.block_lt_of_cell? w1 _ q0) (Nat.le_refl _)
    have p0 := (hb2.cell (p := ⟨w.heap.size, 0, none⟩) z).trans q0
    have p1 := (hb2.cell (p := ⟨w.heap.size, 1, none⟩) z).trans q1
    clear q0 q1 q2 q3 hb2 hB1
    go_wp2_with fail
  · go_ret
    exact ⟨txt_eq rfl (ct0 HC.out rfl), hB2⟩
  · go_ret
    exact ⟨txt_eq rfl (ct0 HC.out rfl), hB2⟩
  · go_ret
    exact ⟨txt_eq rfl (ct0 HC.out rfl), hB2⟩
  all_goals
    refine (HA.out _).mono ?_
    rintro e w3 ⟨rfl, hb3⟩
    have hB3 := hB2.trans (hb3.mono hB2.size)
    go_wp2
    go_ret
    exact ⟨txt_eq (b2 _ [32] _) (ct1 HC.out rfl), hB3⟩
/-- A number shown while an instruction's box stands. -/
theorem l5Number_box {W0 w : World} {x : Nat} {a b d : Int} (hx : W0.heap.size = x) (n : Int) (hn : 0 ≤ n ∧ n ≤ 1000000) (h1 : w.cell? ⟨x, 1, none⟩ = some (.int .i64 a)) (h2 : w.cell? ⟨x, 2, none⟩ = some (.int .i64 b)) (h3 : w.cell? ⟨x, 3, none⟩ = some (.int .i64 d)) (hb : Below x W0 w) :
    Calls Tryd.prog 55 #[.int .i64 n] w fun e w' => e = .returned (.string ⟨(dig n).toArray⟩) ∧ w'.cell? ⟨x, 1, none⟩ = some (.int .i64 a) ∧ w'.cell? ⟨x, 2, none⟩ = some (.int .i64 b) ∧ w'.cell? ⟨x, 3, none⟩ = some (.int .i64 d) ∧ Below x W0 w' := by
  have z := World.block_lt_of_cell? w _ h1
  exact (l5Number_any n w hn).mono fun e w' ⟨he, hb2⟩ => ⟨he, (hb2.cell (p := ⟨x, 1, none⟩) z).trans h1, (hb2.cell (p := ⟨x, 2, none⟩) z).trans h2, (hb2.cell (p := ⟨x, 3, none⟩) z).trans h3, hb.trans (hb2.mono (by rw [← hx]; have := hb.size; omega))⟩
set_option maxRecDepth 100000 in
set_option maxHeartbeats 8000000 in
theorem specCodeText_b (c : Cd) (w : World) (hv : cValid c = true) (ho : c.op = 1 ∨ c.op = 3 ∨ c.op = 4 ∨ c.op = 5 ∨ c.op = 8 ∨ c.op = 9 ∨ c.op = 13) : Calls Tryd.prog 30 #[.agg #[.int .i64 c.op, .int .i64 c.a, .int .i64 c.b, .int .i64 c.c]] w fun e w' => e = .returned (.string ⟨(ctext c).toArray⟩) ∧ Below w.heap.size w w' := by
  have HV := Lib.hid (specCodeValid c (w.alloc (.cells #[.int .i64 c.op, .int .i64 c.a, .int .i64 c.b, .int .i64 c.c] 42)))
  rw [hv] at HV
  obtain ⟨n1, a0, b0, d0⟩ := num3_of hv
  obtain ⟨op, a, b, d⟩ := c
  simp only at *
  have l1 := dig_len a0
  have l2 := dig_len b0
  have l3 := dig_len d0
  have s1 : ¬ 9223372036854775807 < (nm op).length + 1 := by omega
  have s2 : ¬ 9223372036854775807 < (nm op).length + 1 + (dig a).length := by omega
  have s3 : ¬ 9223372036854775807 < (nm op).length + 1 + (dig a).length + 1 := by omega
  have s4 : ¬ 9223372036854775807 < (nm op).length + 1 + (dig a).length + 1 + (dig b).length := by omega
  have HC := Lib.hid hv
  have HN := Lib.hid (fun w => l5Name_any op w (valid_nums hv).1)
  obtain ⟨x, hx⟩ : ∃ x, w.heap.size = x := ⟨_, rfl⟩
  have HX := Lib.hid hx
  clear hv hx l1 l2 l3 n1
  rcases ho with rfl | rfl | rfl | rfl | rfl | rfl | rfl
  all_goals
    go_enter Tryd.func30, Tryd.ntmps30
    go_wp2_with fail
    refine HV.out.mono ?_
    rintro e w1 ⟨rfl, hb1⟩
    obtain ⟨q0, q1, q2, q3, hB1⟩ := box_cells hb1
    rw [HX.out] at q0 q1 q2 q3 hB1 ⊢
    clear hb1 HV
    go_wp2_with fail
    refine (HN.out _).mono ?_
    rintro e w2 ⟨rfl, hb2⟩
    have hB2 := hB1.trans (hb2.mono (Nat.le_of_lt (World.block_lt_of_cell? w1 _ q0)))
    have z := World.block_lt_of_cell? w1 _ q0
    have p0 : w2.cell? ⟨x, 0, none⟩ = _ := (hb2.cell (p := ⟨x, 0, none⟩) z).trans q0
    have p1 : w2.drew.cell? ⟨x, 1, none⟩ = _ := (hb2.cell (p := ⟨x, 1, none⟩) z).trans q1
    have p2 : w2.drew.cell? ⟨x, 2, none⟩ = _ := (hb2.cell (p := ⟨x, 2, none⟩) z).trans q2
    have p3 : w2.drew.cell? ⟨x, 3, none⟩ = _ := (hb2.cell (p := ⟨x, 3, none⟩) z).trans q3
    have hBd := hB2.drew
    clear q0 q1 q2 q3 hb2 hB1 hB2 z HN
    go_wp2_with fail
    as_aux_lemma =>
    go_region_held3 (fun w' => w'.cell? ⟨x, 1, none⟩ = some (.int .i64 a) ∧ w'.cell? ⟨x, 2, none⟩ = some (.int .i64 b) ∧ w'.cell? ⟨x, 3, none⟩ = some (.int .i64 d) ∧ Below x w w') ((refine ⟨?_, ?_, ?_, ?_⟩ <;> assumption)) ((go_at_call 55; refine (l5Number_box HX.out _ (by omega) (by assumption) (by assumption) (by assumption) (by assumption)).mono ?_; rintro e w' ⟨rfl, c1, c2, c3, hB⟩))
    all_goals
      go_wp2
      go_ret
      exact ⟨txt_eq (b4 _ [32] _ [32] _) (ct2 HC.out rfl), by rw [HX.out]; assumption⟩
set_option maxRecDepth 100000 in
set_option maxHeartbeats 8000000 in
theorem specCodeText_c (c : Cd) (w : World) (hv : cValid c = true) (ho : c.op = 6 ∨ c.op = 7) : Calls Tryd.prog 30 #[.agg #[.int .i64 c.op, .int .i64 c.a, .int .i64 c.b, .int .i64 c.c]] w fun e w' => e = .returned (.string ⟨(ctext c).toArray⟩) ∧ Below w.heap.size w w' := by
  have HV := Lib.hid (specCodeValid c (w.alloc (.cells #[.int .i64 c.op, .int .i64 c.a, .int .i64 c.b, .int .i64 c.c] 42)))
  rw [hv] at HV
  obtain ⟨n1, a0, b0, d0⟩ := num3_of hv
  obtain ⟨op, a, b, d⟩ := c
  simp only at *
  have l1 := dig_len a0
  have l2 := dig_len b0
  have l3 := dig_len d0
  have s1 : ¬ 9223372036854775807 < (nm op).length + 1 := by omega
  have s2 : ¬ 9223372036854775807 < (nm op).length + 1 + (dig a).length := by omega
  have s3 : ¬ 9223372036854775807 < (nm op).length + 1 + (dig a).length + 1 := by omega
  have s4 : ¬ 9223372036854775807 < (nm op).length + 1 + (dig a).length + 1 + (dig b).length := by omega
  have s5 : ¬ 9223372036854775807 < (nm op).length + 1 + (dig a).length + 1 + (dig b).length + 1 := by omega
  have s6 : ¬ 9223372036854775807 < (nm op).length + 1 + (dig a).length + 1 + (dig b).length + 1 + (dig d).length := by omega
  have HC := Lib.hid hv
  have HN := Lib.hid (fun w => l5Name_any op w (valid_nums hv).1)
  obtain ⟨x, hx⟩ : ∃ x, w.heap.size = x := ⟨_, rfl⟩
  have HX := Lib.hid hx
  clear hv hx l1 l2 l3 n1
  rcases ho with rfl | rfl
  all_goals
    go_enter Tryd.func30, Tryd.ntmps30
    go_wp2_with fail
    refine HV.out.mono ?_
    rintro e w1 ⟨rfl, hb1⟩
    obtain ⟨q0, q1, q2, q3, hB1⟩ := box_cells hb1
    rw [HX.out] at q0 q1 q2 q3 hB1 ⊢
    clear hb1 HV
    go_wp2_with fail
    refine (HN.out _).mono ?_
    rintro e w2 ⟨rfl, hb2⟩
    have hB2 := hB1.trans (hb2.mono (Nat.le_of_lt (World.block_lt_of_cell? w1 _ q0)))
    have z := World.block_lt_of_cell? w1 _ q0
    have p0 : w2.cell? ⟨x, 0, none⟩ = _ := (hb2.cell (p := ⟨x, 0, none⟩) z).trans q0
    have p1 : w2.drew.cell? ⟨x, 1, none⟩ = _ := (hb2.cell (p := ⟨x, 1, none⟩) z).trans q1
    have p2 : w2.drew.cell? ⟨x, 2, none⟩ = _ := (hb2.cell (p := ⟨x, 2, none⟩) z).trans q2
    have p3 : w2.drew.cell? ⟨x, 3, none⟩ = _ := (hb2.cell (p := ⟨x, 3, none⟩) z).trans q3
    have hBd := hB2.drew
    clear q0 q1 q2 q3 hb2 hB1 hB2 z HN
    go_wp2_with fail
    as_aux_lemma =>
    go_region_held3 (fun w' => w'.cell? ⟨x, 1, none⟩ = some (.int .i64 a) ∧ w'.cell? ⟨x, 2, none⟩ = some (.int .i64 b) ∧ w'.cell? ⟨x, 3, none⟩ = some (.int .i64 d) ∧ Below x w w') ((refine ⟨?_, ?_, ?_, ?_⟩ <;> assumption)) ((go_at_call 55; refine (l5Number_box HX.out _ (by omega) (by assumption) (by assumption) (by assumption) (by assumption)).mono ?_; rintro e w' ⟨rfl, c1, c2, c3, hB⟩))
    all_goals
      go_wp2
      go_ret
      exact ⟨txt_eq (b6 _ [32] _ [32] _ [32] _) (ct3 HC.out rfl), by rw [HX.out]; assumption⟩
theorem specCodeText (c : Cd) (w : World) : Calls Tryd.prog 30 #[.agg #[.int .i64 c.op, .int .i64 c.a, .int .i64 c.b, .int .i64 c.c]] w fun e w' => e = .returned (.string ⟨(ctext c).toArray⟩) ∧ Below w.heap.size w w' := by
  cases hv : cValid c with
  | true =>
    have ho := (valid_nums hv).1
    by_cases h1 : c.op = 10 ∨ c.op = 12 ∨ c.op = 14 ∨ c.op = 2 ∨ c.op = 11
    · exact specCodeText_a c w hv h1
    by_cases h2 : c.op = 6 ∨ c.op = 7
    · exact specCodeText_c c w hv h2
    · exact specCodeText_b c w hv (by omega)
  | false =>
    have HV := Lib.hid (specCodeValid c (w.alloc (.cells #[.int .i64 c.op, .int .i64 c.a, .int .i64 c.b, .int .i64 c.c] 42)))
    rw [hv] at HV
    have HT := Lib.hid (ctext_bad hv)
    clear hv
    go_enter Tryd.func30, Tryd.ntmps30
    go_wp2_with fail
    refine HV.out.mono ?_
    rintro e w1 ⟨rfl, hb1⟩
    obtain ⟨q0, q1, q2, q3, hB1⟩ := box_cells hb1
    clear HV hb1
    go_wp2
    go_ret
    exact ⟨txt_eq rfl HT.out, hB1⟩
theorem below_grow (w : World) (k : Nat) (os : Array Obj) : Below w.heap.size w (Sort.grow (w.drewN k) os) :=
  ⟨rfl, rfl, rfl, by simp [Sort.grow], fun j hj => by
    show (w.heap ++ os)[j]? = w.heap[j]?
    rw [Array.getElem?_append_left hj]⟩
theorem itoa_any (n : Int) (h : 0 ≤ n ∧ n ≤ 1000000) (w : World) (hL : LaidA w) : Calls Tryd.prog 58 #[.int .i64 n] w fun e w' => e = .returned (.string ⟨(dig n).toArray⟩) ∧ Below w.heap.size w w' :=
  (Tryd.strconv_Itoa n (by omega) (by omega) w hL.pow).mono fun e w' ⟨he, k, os, hw⟩ => ⟨he, by rw [hw]; exact below_grow w k os⟩
theorem nm_get {k : Nat} (h : k ≤ 14) : nmL[k]? = some (nm k) := by
  unfold nm
  have : k < nmL.length := by have : nmL.length = 15 := by decide
                              omega
  simp [this]
theorem numsT_snoc (l : List Int) (k : Nat) (n : Int) (h : l[k]? = some n) : numsT (l.take (k + 1)) = numsT (l.take k) ++ ([32] ++ dig n) := by
  rw [take_snoc h]
  unfold numsT
  rw [List.flatMap_append]
  simp
theorem arg3 {a b d : Int} (a0 : 0 ≤ a ∧ a ≤ 255) (b0 : 0 ≤ b ∧ b ≤ 255) (d0 : 0 ≤ d ∧ d ≤ 255) {k : Nat} {n : Int} (h : [a, b, d][k]? = some n) : 0 ≤ n ∧ n ≤ 255 := by
  have := List.mem_of_getElem? h
  simp only [List.mem_cons, List.not_mem_nil, or_false] at this
  rcases this with rfl | rfl | rfl <;> assumption
set_option maxRecDepth 100000 in
set_option maxHeartbeats 8000000 in
theorem implCodeText_v (c : Cd) (w : World) (hL : LaidA w) (hv : cValid c = true) : Calls Tryd.prog 32 #[.agg #[.int .i64 c.op, .int .i64 c.a, .int .i64 c.b, .int .i64 c.c]] w fun e w' => e = .returned (.string ⟨(ctext c).toArray⟩) ∧ Below w.heap.size w w' := by
  have HV := Lib.hid (implCodeValid c (w.alloc (.cells #[.int .i64 c.op, .int .i64 c.a, .int .i64 c.b, .int .i64 c.c] 42)))
  rw [hv] at HV
  obtain ⟨n1, a0, b0, d0⟩ := num3_of hv
  have HC := Lib.hid (ctext_valid hv)
  have HS := Lib.hid (words_c hv).2.2
  have ho := (valid_nums hv).1
  obtain ⟨op, a, b, d⟩ := c
  simp only at *
  obtain ⟨o, rfl⟩ : ∃ o : Nat, op = o := ⟨op.toNat, by omega⟩
  obtain ⟨x, hx⟩ : ∃ x, w.heap.size = x := ⟨_, rfl⟩
  have HX := Lib.hid hx
  have HLw := Lib.hid hL
  clear hv hx hL
  go_enter Tryd.func32, Tryd.ntmps32
  go_wp2_with fail
  refine HV.out.mono ?_
  rintro e w1 ⟨rfl, hb1⟩
  obtain ⟨q0, q1, q2, q3, hB1⟩ := box_cells hb1
  have HL1 := Lib.hid (HLw.out.below hB1)
  have hn0 := HL1.out.names o (nm o) (nm_get (by omega))
  rw [HX.out] at q0 q1 q2 q3 hB1 ⊢
  clear hb1 HV HLw
  have z := World.block_lt_of_cell? w1 _ q0
  have p0 : w1.drew.cell? ⟨x, 0, none⟩ = _ := q0
  have p1 : w1.drew.cell? ⟨x, 1, none⟩ = _ := q1
  have p2 : w1.drew.cell? ⟨x, 2, none⟩ = _ := q2
  have p3 : w1.drew.cell? ⟨x, 3, none⟩ = _ := q3
  have hne := World.new_ne w1.drew ⟨x, 0, none⟩ p0
  obtain ⟨g, hg⟩ : ∃ g, w1.heap.size = g := ⟨_, rfl⟩
  obtain ⟨W1, hW⟩ : ∃ W1, (w1.alloc (.cells #[.int .i64 a, .int .i64 b, .int .i64 d] 3)).drew = W1 := ⟨_, rfl⟩
  have hBA := ((Below.refl w1.heap.size w1).alloc (Nat.le_refl _) (.cells #[.int .i64 a, .int .i64 b, .int .i64 d] 3)).drew
  have hcl : ∀ (j : Nat) (n : Int), [a, b, d][j]? = some n → (w1.alloc (.cells #[.int .i64 a, .int .i64 b, .int .i64 d] 3)).drew.cell? ⟨w1.heap.size, j, none⟩ = some (.int .i64 n) := fun j n hj =>
    (cell_of_row _ w1.heap.size j #[.int .i64 a, .int .i64 b, .int .i64 d] _ (0, 0) (heap_alloc_new w1 _)).trans (by
      rw [← Array.getElem?_toList]
      show ([a, b, d].map (Value.int .i64))[j]? = _
      rw [List.getElem?_map, hj]; rfl)
  have HG := Lib.hid hg
  have HL2 := Lib.hid (HL1.out.below hBA)
  have hBx := hB1.trans (hBA.mono (Nat.le_of_lt z))
  rw [hW] at hcl HL2 hBx
  rw [hg] at hcl
  have HCL := Lib.hid hcl
  have HBX := Lib.hid hBx
  have HWE := Lib.hid hW
  clear hg hW hBA hcl hBx HL1 hB1
  obtain ⟨s, hs⟩ : ∃ s, shownN o = s := ⟨_, rfl⟩
  have HSH := Lib.hid (fun w => shown_any (o : Int) w ho)
  have hs3 := HS.out
  rw [hs] at hs3 HSH
  have HSS := Lib.hid hs
  have hs3' : (s : Int) ≤ 3 := by omega
  clear hs HS
  go_wp2_with fail
  go_region_held3 (fun w' => w'.cell? ⟨x, 0, none⟩ = some (.int .i64 (o : Int)) ∧ w'.cell? ⟨x, 1, none⟩ = some (.int .i64 a) ∧ w'.cell? ⟨x, 2, none⟩ = some (.int .i64 b) ∧ w'.cell? ⟨x, 3, none⟩ = some (.int .i64 d)) (go_keep) ((go_at_call 57; refine (HSH.out _).mono ?_; rintro e w' ⟨rfl, rfl⟩))
  all_goals
    rename_i hHeld
    clear hHeld
    rw [HG.out, HWE.out]
    clear p0 p1 p2 p3 q0 q1 q2 q3 hne hn0 z HSH
    go_wp2_with fail
    go_loopg [25, 3] s (fun gk i t wr => ∃ (k : Nat) (T : List UInt8), k + gk = s ∧ i = .int .i64 k ∧ t = .string ⟨T.toArray⟩ ∧ T.length ≤ 7 + 4 * k ∧ Hid (T = nm o ++ numsT ([a, b, d].take k)) ∧ Below W1.heap.size W1 wr)
    case atStart => exact ⟨0, nm o, by omega, rfl, rfl, by omega, Lib.hid (List.append_nil _).symm, Below.refl _ _⟩
    case round =>
      obtain ⟨k, T, hk, rfl, rfl, hT, hTe, hb⟩ := hrel
      by_cases hlt : k < s
      · obtain ⟨n, hn⟩ := get_lt (show k < [a, b, d].length by simp; omega)
        have hc := HCL.out k n hn
        have hc2 : wr.cell? ⟨g, k, none⟩ = some (.int .i64 n) := (hb.cell (World.block_lt_of_cell? W1 _ hc)).trans hc
        have hn2 := arg3 a0 b0 d0 hn
        have ln := dig_len hn2
        have HTN := Lib.hid (show T ++ ([32] ++ dig n) = nm o ++ numsT ([a, b, d].take (k + 1)) by rw [numsT_snoc _ _ _ hn, hTe.out, List.append_assoc])
        clear hc hn
        go_wp2_with fail
        refine (itoa_any n (by omega) wr (HL2.out.below hb)).mono ?_
        rintro e w5 ⟨rfl, hb5⟩
        have hb6 := hb.trans (hb5.mono hb.size)
        clear hb hb5
        go_wp2
        go_roundg (s - (k + 1))
        case measure => omega
        case rel => exact ⟨k + 1, T ++ ([32] ++ dig n), by omega, by go_num, congrArg Value.string ((congrArg (fun y => (⟨T.toArray⟩ : ByteArray) ++ y) (bapp [32] (dig n))).trans (bapp T _)), by simp; omega, HTN, hb6⟩
      · have hks : k = s := by omega
        have HE := Lib.hid (show ctext ⟨o, a, b, d⟩ = T by rw [HC.out, hTe.out, hks]; unfold Cd.nums; rw [HSS.out])
        have hbF := HBX.out.trans (hb.mono (by have := HBX.out.size; rw [HX.out] at this; exact this))
        clear hks hTe
        go_wp2
        go_ret
        exact ⟨txt_eq rfl HE.out, by rw [HX.out]; exact hbF⟩
theorem implCodeText (c : Cd) (w : World) (hL : LaidA w) : Calls Tryd.prog 32 #[.agg #[.int .i64 c.op, .int .i64 c.a, .int .i64 c.b, .int .i64 c.c]] w fun e w' => e = .returned (.string ⟨(ctext c).toArray⟩) ∧ Below w.heap.size w w' := by
  cases hv : cValid c with
  | true => exact implCodeText_v c w hL hv
  | false =>
    have HV := Lib.hid (implCodeValid c (w.alloc (.cells #[.int .i64 c.op, .int .i64 c.a, .int .i64 c.b, .int .i64 c.c] 42)))
    rw [hv] at HV
    have HT := Lib.hid (ctext_bad hv)
    clear hv hL
    go_enter Tryd.func32, Tryd.ntmps32
    go_wp2_with fail
    refine HV.out.mono ?_
    rintro e w1 ⟨rfl, hb1⟩
    obtain ⟨q0, q1, q2, q3, hB1⟩ := box_cells hb1
    clear HV hb1
    go_wp2
    go_ret
    exact ⟨txt_eq rfl HT.out, hB1⟩
end Go.Proofs.YtidmjeehcmpjnaaDoor
