/- YtidmjeehcmpjnaaDoorTxtM: what the copies, comparisons, sizes and marks of lists of texts do. Conditions: a list that is copied has at most 1048576 texts; marks stay below 2 to the 63. -/
import Derived.Test.YtidmjeehcmpjnaaDoorTxtR
import Derived.Deep.Strs
import Derived.Deep.RegionWith
namespace Go.Proofs.YtidmjeehcmpjnaaDoor
open Go.ChangeShapes Go.WideShapes Go.ChangeAt Go.RowKit
set_option linter.unusedVariables false
/-- The value v reads as a list of texts. -/
def RdT (w : World) (v : Value) (ls : List (List UInt8)) : Prop := Rd w v 1 ls.length (txts ls) ∧ ∀ x ∈ ls, x.length ≤ 9223372036854775807
theorem RdT.below {B : Nat} {w w' : World} {v : Value} {ls : List (List UInt8)} (h : RdT w v ls) (hb : Below B w w') (hB : w.heap.size ≤ B) : RdT w' v ls := ⟨h.1.below hb hB, h.2⟩
theorem RdT.shape {w : World} {v : Value} {ls : List (List UInt8)} (h : RdT w v ls) : ∃ a c, v = .slice a ls.length c ∧ ls.length ≤ c ∧ c ≤ 9223372036854775807 := by
  obtain ⟨⟨_, a, c, hv, h1, h2, _⟩, _⟩ := h
  exact ⟨a, c, hv, h1, by unfold maxLen at h2; omega⟩
/-- Opened: its shape, and its texts, each under its own index. -/
theorem RdT.form {w : World} {v : Value} {ls : List (List UInt8)} (h : RdT w v ls) :
    ∃ a c b off, v = .slice a ls.length c ∧ ls.length ≤ c ∧ c ≤ 9223372036854775807 ∧ (ls ≠ [] → b < w.heap.size) ∧ ∀ i x, ls[i]? = some x → a = some ⟨b, off, none⟩ ∧ w.cell? ⟨b, off + i, none⟩ = some (.string ⟨x.toArray⟩) := by
  obtain ⟨⟨h1, a, c, hv, h3, h4, h5⟩, _⟩ := h
  have h4' : c ≤ 9223372036854775807 := by unfold maxLen at h4; omega
  by_cases hx : ls = []
  · exact ⟨a, c, 0, 0, hv, h3, h4', fun h => absurd hx h, by simp [hx]⟩
  · obtain ⟨b, off, ha, hb, hc⟩ := h5 (List.length_pos_iff.2 hx)
    exact ⟨a, c, b, off, hv, h3, h4', fun _ => hb, fun i x hi => ⟨ha, hc i _ (by unfold txts; rw [List.getElem?_map, hi]; rfl)⟩⟩
theorem OwT.rd {B : Nat} {w : World} {v : Value} {ls : List (List UInt8)} (h : OwT B w v ls) (hl : ∀ x ∈ ls, x.length ≤ 9223372036854775807) : RdT w v ls := ⟨rd_of_owns h, hl⟩
/-- New texts are returned; nothing that was there has changed. -/
def NewT (w : World) (ls : List (List UInt8)) (e : Ending) (w' : World) : Prop := ∃ v, e = .returned v ∧ OwT w.heap.size w' v ls ∧ Below w.heap.size w w'
theorem txts_length (ls : List (List UInt8)) : (txts ls).length = ls.length := by simp [txts]
set_option maxHeartbeats 2000000 in
theorem toStringS_any (v : Value) (ls : List (List UInt8)) (w : World) (h : RdT w v ls) (hn : ls.length ≤ 1048576) : Calls Tryd.prog 15 #[v] w (NewT w ls) := by
  obtain ⟨a, c, b, off, rfl, hlc, hm, hb, hcell⟩ := h.form
  obtain ⟨i0, hi, hz0, hz1, hz2⟩ := info_parts infoStr
  have hz3 : i0.bytes * ls.length ≤ 281474976710656 := by rw [hz2]; omega
  have hz4 : ls.length ≤ maxLen := by unfold maxLen; omega
  have HZ := Lib.hid hz2
  clear hz2
  go_enter Tryd.func15, Tryd.ntmps15
  go_wp2_with (at_make; refine wpList_make_full _ rfl _ _ 22 rfl w.heap.size 9 i0 (.string ByteArray.empty) 1 Tryd.underlying22 hi hz0 hz1 _ _ _ _ ls.length rfl rfl rfl rfl hz3 hz4 (Nat.le_refl _) ?_)
  clear hz3 hz4 HZ hz0 hz1 hi
  intro w1 hown1 hg1
  have hown2 : w1.ownsRow w.heap.size 9 1 (.slice (some ⟨w.heap.size, 0, none⟩) ls.length ls.length) ls.length (fillL (txts ls) (.string ByteArray.empty) 0) := by
    rw [fill_zero, txts_length, ← toList_madeCells_one]
    simpa [Value.cells] using hown1
  have hb1 : Below w.heap.size w w1 := (Below.refl _ _).grown hg1 (Nat.le_refl _) (by intro k hk; cases hk)
  clear hown1 hg1
  go_wp2_with fail
  go_loopg [4] ls.length (fun g i wr => ∃ k : Nat, k + g = ls.length ∧ i = .int .i64 k ∧ wr.ownsRow w.heap.size 9 1 (.slice (some ⟨w.heap.size, 0, none⟩) ls.length ls.length) ls.length (fillL (txts ls) (.string ByteArray.empty) k) ∧ Below w.heap.size w wr)
  case atStart => exact ⟨0, by omega, rfl, hown2, hb1⟩
  case round =>
    clear hown2 hb1
    obtain ⟨k, hk, rfl, hown, hbl⟩ := hrel
    by_cases hlt : k < ls.length
    · obtain ⟨x, hx⟩ := get_lt hlt
      obtain ⟨rfl, hc⟩ := hcell k x hx
      have hc' : wr.cell? ⟨b, off + k, none⟩ = some (.string ⟨x.toArray⟩) := (hbl.cell (hb (by rintro rfl; simp at hlt))).trans hc
      have hold : wr.cell? ⟨w.heap.size, k, none⟩ = some (.string ByteArray.empty) := by rw [hown.cellAt k (by omega), fill_get _ _ (by rw [txts_length]; exact hlt)]
      have hfr := hown.frozenAt k
      have hst := (hown.stored k (.string ⟨x.toArray⟩)).1
      rw [fill_set _ _ (by unfold txts; rw [List.getElem?_map, hx]; rfl)] at hst
      have HST := Lib.hid hst
      have HX := Lib.hid hx
      have hbl' : Below w.heap.size w (wr.setCell ⟨w.heap.size, k, none⟩ (.string ⟨x.toArray⟩)) := hbl.setCell (Nat.le_refl _) _
      clear hst hcell hown hc hx
      go_wp2
      go_roundg (ls.length - (k + 1))
      case measure => omega
      case rel => exact ⟨k + 1, by omega, by go_num, HST.out, hbl'⟩
    · have hkn : ls.length ≤ k := by omega
      rw [fill_all _ _ (by rw [txts_length]; exact hkn)] at hown
      clear hcell
      go_wp2
      go_ret
      exact ⟨_, rfl, hown, hbl⟩
/-- What is left of a size; -1 if it does not suffice. -/
def szFrom (l : Int) : List (List UInt8) → Int
  | [] => l
  | x :: r => if l - x.length < 0 then -1 else szFrom (l - x.length) r
def szT (ls : List (List UInt8)) (l : Int) : Int := if l - ls.length < 0 then -1 else szFrom (l - ls.length) ls
theorem szFrom_fit : ∀ (ls : List (List UInt8)) (l : Int), 0 ≤ szFrom l ls → 0 ≤ l ∧ (ls ≠ [] → szFrom l ls ≤ l) ∧ ∀ x ∈ ls, (x.length : Int) ≤ l
  | [], l, h => ⟨h, fun h => absurd rfl h, fun x hx => (by cases hx)⟩
  | x :: r, l, h => by
    unfold szFrom at h ⊢
    split at h
    · omega
    · rename_i hn
      rw [if_neg hn]
      obtain ⟨h1, h2, h3⟩ := szFrom_fit r (l - x.length) h
      have h2' : szFrom (l - x.length) r ≤ l - x.length := by
        cases r with
        | nil => exact Int.le_refl _
        | cons y r => exact h2 (by simp)
      refine ⟨by omega, fun _ => by omega, fun y hy => ?_⟩
      rcases List.mem_cons.1 hy with rfl | hy
      · omega
      · have := h3 y hy; omega
theorem szT_fit {ls : List (List UInt8)} {l : Int} (h : 0 ≤ szT ls l) : (ls.length : Int) ≤ l ∧ ∀ x ∈ ls, (x.length : Int) ≤ l := by
  unfold szT at h
  split at h
  · omega
  · obtain ⟨h1, _, h3⟩ := szFrom_fit _ _ h
    exact ⟨by omega, fun x hx => by have := h3 x hx; omega⟩
theorem szFrom_bd : ∀ (ls : List (List UInt8)) (l : Int), -1 ≤ l → -1 ≤ szFrom l ls ∧ szFrom l ls ≤ max l 0
  | [], l, h => ⟨h, by unfold szFrom; omega⟩
  | x :: r, l, h => by
    unfold szFrom
    split
    · omega
    · have := szFrom_bd r (l - x.length) (by omega)
      omega
set_option maxHeartbeats 2000000 in
theorem szStringS_any (v : Value) (ls : List (List UInt8)) (l : Int) (w : World) (h : RdT w v ls) (hl : 0 ≤ l ∧ l ≤ 1048576) : Calls Tryd.prog 13 #[v, .int .i64 l] w fun e w' => e = .returned (.int .i64 (szT ls l)) ∧ w = w' := by
  have hxl := Lib.hid h.2
  obtain ⟨a, c, b, off, rfl, hlc, hm, hb, hcell⟩ := h.form
  unfold szT
  by_cases hn : l - ls.length < 0
  · rw [if_pos hn]
    clear hcell hxl h
    go_enter Tryd.func13, Tryd.ntmps13
    go_wp2
    go_ret
    exact ⟨rfl, rfl⟩
  rw [if_neg hn]
  obtain ⟨V, hV⟩ : ∃ V, szFrom (l - ls.length) ls = V := ⟨_, rfl⟩
  have HV := Lib.hid hV
  rw [hV]
  have hl2 : 0 ≤ l - ls.length := by omega
  clear hV h
  go_enter Tryd.func13, Tryd.ntmps13
  go_wp2_with fail
  go_loopg [1, 5] ls.length (fun g m i wr => ∃ (k : Nat) (q : Int), k + g = ls.length ∧ i = .int .i64 k ∧ m = .int .i64 q ∧ 0 ≤ q ∧ q ≤ 1048576 ∧ Hid (V = szFrom q (ls.drop k)) ∧ wr = w)
  case atStart => exact ⟨0, l - ls.length, by omega, rfl, by go_num, by omega, by omega, Lib.hid HV.out.symm, rfl⟩
  case round =>
    obtain ⟨k, q, hk, rfl, rfl, hq0, hq1, hd, rfl⟩ := hrel
    by_cases hlt : k < ls.length
    · obtain ⟨x, hx⟩ := get_lt hlt
      obtain ⟨rfl, hc⟩ := hcell k x hx
      have hst := hd.out
      rw [drop_cons hx, szFrom] at hst
      have hxm := hxl.out x (List.mem_of_getElem? hx)
      have hxm' : (x.length : Int) ≤ 9223372036854775807 := by omega
      by_cases hneg : q - x.length < 0
      · rw [if_pos hneg] at hst
        have HE := Lib.hid hst
        clear hst hd hx hcell
        go_wp2
        go_ret
        exact ⟨by rw [HE.out]; rfl, rfl⟩
      · rw [if_neg hneg] at hst
        have HE := Lib.hid hst
        have hnn : 0 ≤ q - x.length := by omega
        clear hst hd hx hcell
        go_wp2
        go_roundg (ls.length - (k + 1))
        case measure => omega
        case rel => exact ⟨k + 1, q - x.length, by omega, by go_num, by go_num, by omega, by omega, HE, rfl⟩
    · have hst := hd.out
      rw [List.drop_eq_nil_of_le (by omega), szFrom] at hst
      have HE := Lib.hid hst
      clear hst hd hcell
      go_wp2
      go_ret
      exact ⟨by rw [HE.out]; rfl, rfl⟩
set_option maxHeartbeats 2000000 in
theorem eqStringS_same (v u : Value) (ls : List (List UInt8)) (w : World) (h : RdT w v ls) (h' : RdT w u ls) :
    Calls Tryd.prog 18 #[v, u] w fun e w' => e = .returned (.bool true) ∧ Below w.heap.size w w' := by
  obtain ⟨a, c, b, off, rfl, hlc, hm, hb, hcell⟩ := h.form
  obtain ⟨a', c', b', off', rfl, hlc', hm', hb', hcell'⟩ := h'.form
  clear h h'
  go_enter Tryd.func18, Tryd.ntmps18
  go_wp2_with fail
  go_loopg [5] ls.length (fun g i wr => ∃ k : Nat, k + g = ls.length ∧ i = .int .i64 k ∧ Below w.heap.size w wr)
  case atStart => exact ⟨0, by omega, rfl, Below.refl _ _⟩
  case round =>
    obtain ⟨k, hk, rfl, hbl⟩ := hrel
    by_cases hlt : k < ls.length
    · obtain ⟨x, hx⟩ := get_lt hlt
      obtain ⟨rfl, hc⟩ := hcell k x hx
      obtain ⟨rfl, hc2⟩ := hcell' k x hx
      have hne : ls ≠ [] := by rintro rfl; simp at hlt
      have hc3 : wr.cell? ⟨b, off + k, none⟩ = some (.string ⟨x.toArray⟩) := (hbl.cell (hb hne)).trans hc
      have hc4 : wr.cell? ⟨b', off' + k, none⟩ = some (.string ⟨x.toArray⟩) := (hbl.cell (hb' hne)).trans hc2
      clear hcell hcell' hc hc2 hx
      go_wp2
      go_quiet (fail)
      go_wp2
      go_roundg (ls.length - (k + 1))
      case measure => omega
      case rel => exact ⟨k + 1, by omega, by go_num, by first | exact hbl | exact hbl.drew | exact ⟨hbl.os, hbl.tape, hbl.output, hbl.size, hbl.block⟩⟩
    · clear hcell hcell'
      go_wp2
      go_ret
      exact ⟨rfl, hbl⟩
set_option maxHeartbeats 2000000 in
theorem sameTexts_same (v u : Value) (ls : List (List UInt8)) (w : World) (h : RdT w v ls) (h' : RdT w u ls) :
    Calls Tryd.prog 24 #[v, u] w fun e w' => e = .returned (.bool true) ∧ Below w.heap.size w w' := by
  obtain ⟨a, c, b, off, rfl, hlc, hm, hb, hcell⟩ := h.form
  obtain ⟨a', c', b', off', rfl, hlc', hm', hb', hcell'⟩ := h'.form
  clear h h'
  go_enter Tryd.func24, Tryd.ntmps24
  go_wp2_with fail
  go_loopg [5] ls.length (fun g i wr => ∃ k : Nat, k + g = ls.length ∧ i = .int .i64 k ∧ Below w.heap.size w wr)
  case atStart => exact ⟨0, by omega, rfl, Below.refl _ _⟩
  case round =>
    obtain ⟨k, hk, rfl, hbl⟩ := hrel
    by_cases hlt : k < ls.length
    · obtain ⟨x, hx⟩ := get_lt hlt
      obtain ⟨rfl, hc⟩ := hcell k x hx
      obtain ⟨rfl, hc2⟩ := hcell' k x hx
      have hne : ls ≠ [] := by rintro rfl; simp at hlt
      have hc3 : wr.cell? ⟨b, off + k, none⟩ = some (.string ⟨x.toArray⟩) := (hbl.cell (hb hne)).trans hc
      have hc4 : wr.cell? ⟨b', off' + k, none⟩ = some (.string ⟨x.toArray⟩) := (hbl.cell (hb' hne)).trans hc2
      clear hcell hcell' hc hc2 hx
      go_wp2
      go_quiet (fail)
      go_wp2
      go_roundg (ls.length - (k + 1))
      case measure => omega
      case rel => exact ⟨k + 1, by omega, by go_num, by first | exact hbl | exact hbl.drew | exact ⟨hbl.os, hbl.tape, hbl.output, hbl.size, hbl.block⟩⟩
    · clear hcell hcell'
      go_wp2
      go_ret
      exact ⟨rfl, hbl⟩
/-- The marks k, k + 1, .. as texts. -/
def mtexts (k : Int) (n : Nat) : List (List UInt8) := (List.range n).map fun (i : Nat) => mtext (k + (i : Int))
theorem mtexts_get (k : Int) {n i : Nat} (h : i < n) : (mtexts k n)[i]? = some (mtext (k + i)) := by simp [mtexts, h]
theorem mtexts_length (k : Int) (n : Nat) : (mtexts k n).length = n := by simp [mtexts]
theorem mtext_len (k : Int) (h : k ≤ 9223372036854775807) : (mtext k).length ≤ 22 := by
  unfold mtext
  split
  · simp
  · have : (dig k).length ≤ 21 := Lib.itoa_length_le _ (by omega) (by omega)
    simp only [List.length_cons]
    omega
theorem mtexts_fit {k : Int} {n : Nat} (h : k + n ≤ 9223372036854775807) : ∀ x ∈ mtexts k n, x.length ≤ 9223372036854775807 := by
  intro x hx
  obtain ⟨i, hi, rfl⟩ := List.mem_map.1 hx
  have := List.mem_range.1 hi
  have := mtext_len (k + i) (by omega)
  omega
/-- The first j texts are marks, the rest is as it was. -/
def partT (ys : List (List UInt8)) (k : Int) (j : Nat) : List (List UInt8) := mtexts k j ++ ys.drop j
theorem partT_zero (ys : List (List UInt8)) (k : Int) : partT ys k 0 = ys := by simp [partT, mtexts]
theorem partT_all (ys : List (List UInt8)) (k : Int) {j : Nat} (h : ys.length ≤ j) : partT ys k j = mtexts k j := by simp [partT, List.drop_eq_nil_of_le h]
theorem partT_set (ys : List (List UInt8)) (k : Int) {j : Nat} (h : j < ys.length) : (partT ys k j).set j (mtext (k + j)) = partT ys k (j + 1) := by
  obtain ⟨x, hx⟩ := get_lt h
  unfold partT
  rw [List.set_append_right _ _ (by simp [mtexts_length]), drop_cons hx]
  simp [mtexts, List.range_succ]
theorem partT_length (ys : List (List UInt8)) (k : Int) {j : Nat} (h : j ≤ ys.length) : (partT ys k j).length = ys.length := by simp [partT, mtexts_length]; omega
set_option maxHeartbeats 2000000 in
theorem markStringS_any (v : Value) (ys : List (List UInt8)) (k0 : Int) (base : Nat) (w : World) (h : OwT base w v ys) (hn : ys.length ≤ 9223372036854775807) (hk0 : 0 ≤ k0) (hk1 : k0 + ys.length ≤ 9223372036854775807) :
    Calls Tryd.prog 19 #[v, .int .i64 k0] w fun e w' => e = .returned (.int .i64 (k0 + ys.length)) ∧ OwT base w' v (mtexts k0 ys.length) ∧ Wr w w' (fun b => v.ownBlock = some b) := by
  unfold OwT
  rw [mtexts_length]
  rcases h.2 with ⟨rfl, h0⟩ | ⟨gb, cap, cur, rfl, hbg, hgg, hnc, hcm, _⟩
  · have hx : ys = [] := List.eq_nil_of_length_eq_zero h0
    subst hx
    go_enter Tryd.func19, Tryd.ntmps19
    go_wp2_with fail
    refine wp_loop_rounds 1 ?_
    rw [rounds_succ]
    go_wp2
    go_ret
    exact ⟨by simp, h, Wr.refl _ _⟩
  · have hcm' : cap ≤ 9223372036854775807 := by unfold maxLen at hcm; omega
    clear hgg
    go_enter Tryd.func19, Tryd.ntmps19
    go_wp2_with fail
    go_loopg [1, 5] ys.length (fun g m i wr => ∃ k : Nat, k + g = ys.length ∧ i = .int .i64 k ∧ m = .int .i64 (k0 + k) ∧ wr.ownsRow base 9 1 (.slice (some ⟨gb, 0, none⟩) ys.length cap) ys.length (txts (partT ys k0 k)) ∧ Wr w wr (fun b => some gb = some b))
    case atStart => exact ⟨0, by omega, rfl, by go_num, by rw [partT_zero]; exact h, Wr.refl _ _⟩
    case round =>
      clear h
      obtain ⟨k, hk, rfl, rfl, hown, hwr⟩ := hrel
      by_cases hlt : k < ys.length
      · have HO := Lib.hid hown
        have HWR := Lib.hid hwr
        clear hown hwr
        go_wp2_with fail
        refine (markText_any (k0 + k) wr (by omega)).mono ?_
        rintro e w2 ⟨rfl, hb2⟩
        have hown := owns_below HO.out hb2 (Nat.le_refl _)
        have hwr := HWR.out.trans (Wr.of_below hb2)
        have hlen := partT_length ys k0 (Nat.le_of_lt hlt)
        obtain ⟨y, hy⟩ := get_lt (show k < (partT ys k0 k).length by omega)
        have hold : w2.cell? ⟨gb, k, none⟩ = some (.string ⟨y.toArray⟩) := by
          rw [hown.cellAt k (by omega)]
          unfold txts
          rw [List.getElem?_map, hy]
          rfl
        have hfr := hown.frozenAt k
        have hst := hown.stored k (.string ⟨(mtext (k0 + k)).toArray⟩)
        have hset : (txts (partT ys k0 k)).set k (.string ⟨(mtext (k0 + k)).toArray⟩) = txts (partT ys k0 (k + 1)) := by
          rw [← partT_set ys k0 hlt]
          unfold txts
          rw [List.map_set]
          rfl
        rw [hset] at hst
        have HST := Lib.hid hst.1
        have HW := Lib.hid (hwr.trans (Wr.of_grown hst.2))
        clear hst hown hy hlen hset hwr hb2 HO HWR
        go_wp2
        go_roundg (ys.length - (k + 1))
        case measure => omega
        case rel => exact ⟨k + 1, by omega, by go_num, by go_num, HST.out, HW.out⟩
      · have hkn : ys.length = k := by omega
        rw [partT_all _ _ (by omega), ← hkn] at hown
        have HK := Lib.hid hkn
        clear hkn
        go_wp2
        go_ret
        exact ⟨by rw [HK.out]; rfl, hown, hwr⟩
set_option maxHeartbeats 2000000 in
theorem heldStringS_any (v : Value) (n : Nat) (k0 : Int) (w : World) (h : RdT w v (mtexts k0 n)) (hk0 : 0 ≤ k0) (hk1 : k0 + n ≤ 9223372036854775807) :
    Calls Tryd.prog 38 #[v, .int .i64 k0] w fun e w' => e = .returned (.int .i64 (k0 + n)) ∧ Below w.heap.size w w' := by
  obtain ⟨a, c, b, off, rfl, hlc, hm, hb, hcell⟩ := h.form
  rw [mtexts_length] at *
  have hcell2 : ∀ i, i < n → a = some ⟨b, off, none⟩ ∧ w.cell? ⟨b, off + i, none⟩ = some (.string ⟨(mtext (k0 + i)).toArray⟩) := fun i hi => hcell i _ (mtexts_get k0 hi)
  have hb2 : 0 < n → b < w.heap.size := fun hn => hb (fun he => by have := congrArg List.length he; rw [mtexts_length] at this; simp at this; omega)
  clear hcell hb h
  go_enter Tryd.func38, Tryd.ntmps38
  go_wp2_with fail
  go_loopg [1, 5] n (fun g m i wr => ∃ k : Nat, k + g = n ∧ i = .int .i64 k ∧ m = .int .i64 (k0 + k) ∧ Below w.heap.size w wr)
  case atStart => exact ⟨0, by omega, rfl, by go_num, Below.refl _ _⟩
  case round =>
    obtain ⟨k, hk, rfl, rfl, hbl⟩ := hrel
    by_cases hlt : k < n
    · obtain ⟨rfl, hc⟩ := hcell2 k hlt
      have hbw := hb2 (by omega)
      have HC := Lib.hid hc
      have HBL := Lib.hid hbl
      have hc3 : wr.drew.cell? ⟨b, off + k, none⟩ = some (.string ⟨(mtext (k0 + k)).toArray⟩) := (hbl.cell hbw).trans hc
      clear hcell2 hc hbl
      go_wp2_with fail
      go_region_with (go_at_call 47; refine (markText_any (k0 + k) _ (by omega)).mono ?_; rintro e w5 ⟨rfl, hb5⟩; have hB5 := HBL.out.drew.trans (hb5.mono HBL.out.size); have hc5 : w5.cell? ⟨b, off + k, none⟩ = some (.string ⟨(mtext (k0 + k)).toArray⟩) := (hB5.cell hbw).trans HC.out; clear hb5)
      all_goals
        have HF := Lib.hid hB5
        clear hc3 hc5 hB5
        go_wp2
        go_roundg (n - (k + 1))
        case measure => omega
        case rel => exact ⟨k + 1, by omega, by go_num, by go_num, HF.out⟩
    · have hkn : n = k := by omega
      have HK := Lib.hid hkn
      clear hcell2 hkn
      go_wp2
      go_ret
      exact ⟨by rw [HK.out]; rfl, hbl⟩
section
variable {H : Type} {enc : TypeId × Value → H} {P : Program} {W : World}
/-- Lists of texts among the arguments of a law, opened. -/
theorem open_strs {t e : TypeId} {v : Value} {d : DataW H} {p : List MemPlace} {b0 : Nat} (ht : P.underlying t = some (.slice e)) (he : P.underlying e = some .string) (hc : P.cellsOf e = 1)
    (hv : Value.okWide P W .any b0 t v) (h : DataW.Trod enc P W 0 (fun _ => true) true t v d p) : ∃ ls, RdT W v ls := by
  obtain ⟨a, len, cap, rfl⟩ := okWide_slice ht hv
  obtain ⟨fuel, hf⟩ := h
  rcases Go.Deep.open_strs ht he hc hf with ⟨hcs, _⟩ | ⟨x, l, c, m, Sx, hcs, _, hl, hm, hz, hx, hcell⟩
  · simp [Value.cells] at hcs
    obtain ⟨rfl, rfl, rfl⟩ := hcs
    exact ⟨[], ⟨rfl, none, 0, rfl, Nat.le_refl _, by simp [maxLen], fun h => absurd h (by simp)⟩, by simp⟩
  · simp [Value.cells] at hcs
    obtain ⟨rfl, rfl, rfl⟩ := hcs
    have hz' : m = cap := by simpa using hz
    subst hz'
    have hll : ((List.range len).map fun i => (Sx i).data.toList).length = len := by simp
    refine ⟨(List.range len).map fun i => (Sx i).data.toList, ⟨by rw [txts_length, Nat.mul_one], some x, m, by rw [hll], by rw [hll]; exact hl, hm, fun hn => ?_⟩, fun y hy => ?_⟩
    · rw [hll] at hn
      obtain ⟨b, off, spot⟩ := x
      have hc0 := (hcell 0 (by omega)).1
      have hs : spot = none := by simpa [Addr.add] using World.cell?_spot hc0
      subst hs
      refine ⟨b, off, rfl, World.block_lt_of_cell? W _ hc0, fun i u hu => ?_⟩
      have hi : i < len := by
        have := (List.getElem?_eq_some_iff.1 hu).1
        rw [txts_length, hll] at this
        exact this
      have h1 := (hcell i (by omega)).1
      rw [Addr.add_lit] at h1
      rw [h1]
      unfold txts at hu
      rw [List.getElem?_map, List.getElem?_map, List.getElem?_range hi] at hu
      have hu := Option.some.inj hu
      rw [← hu]
      show some (Value.string (Sx i)) = some (.string ⟨(Sx i).data.toList.toArray⟩)
      congr 2
    · obtain ⟨i, hi, rfl⟩ := List.mem_map.1 hy
      have h2 := (hcell i (by have := List.mem_range.1 hi; omega)).2
      unfold maxLen at h2
      have : (Sx i).data.toList.length = (Sx i).size := Array.length_toList
      omega
end
end Go.Proofs.YtidmjeehcmpjnaaDoor
