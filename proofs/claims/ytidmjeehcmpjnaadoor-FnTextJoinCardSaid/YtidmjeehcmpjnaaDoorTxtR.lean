/- YtidmjeehcmpjnaaDoorTxtR: an instruction read from a text, by the reference. Conditions: the text is shorter than 2 to the 32. -/
import Derived.Test.YtidmjeehcmpjnaaDoorTxtC
import Derived.Test.YtidmjeehcmpjnaaDoorAppM
import Derived.BigRegion
namespace Go.Proofs.YtidmjeehcmpjnaaDoor
open Go.ChangeShapes Go.WideShapes Go.ChangeAt Go.RowKit
set_option linter.unusedVariables false
set_option maxHeartbeats 1000000 in
theorem l5Value_any (s : ByteArray) (w : World) (hs : s.size ≤ 4294967280) : Calls Tryd.prog 61 #[.string s] w fun e w' => e = .returned (.int .i64 (valS s.data.toList)) ∧ w = w' := by
  have hsl : s.data.toList.length = s.size := Array.length_toList
  by_cases h0 : s.size = 0 ∨ 3 < s.size
  · have hv : valS s.data.toList = -1 := by unfold valS; rw [if_pos (by omega)]
    rw [hv]
    rcases h0 with h0 | h0
    · go_enter Tryd.func61, Tryd.ntmps61
      go_wp2
      go_ret
      exact ⟨rfl, rfl⟩
    · have h1 : ¬ s.size = 0 := by omega
      go_enter Tryd.func61, Tryd.ntmps61
      go_wp2
      go_ret
      exact ⟨rfl, rfl⟩
  have hv : valS s.data.toList = valF 0 s.data.toList := by unfold valS; rw [if_neg (by omega)]
  obtain ⟨V, hV⟩ : ∃ V, valS s.data.toList = V := ⟨_, rfl⟩
  have HV := Lib.hid (hV.symm.trans hv)
  rw [hV]
  clear hv hV
  have h1 : ¬ s.size = 0 := by omega
  have h3 : s.size ≤ 3 := by omega
  have h3' : (s.size : Int) ≤ 3 := by omega
  have e1 : ((s.size : Int) == 0) = false := by simpa using h1
  have e3 : decide (3 < s.size) = false := by simpa using h3
  clear h0
  go_enter Tryd.func61, Tryd.ntmps61
  go_wp2
  go_loopg [3, 4] s.size (fun g n i wr => ∃ (k : Nat) (q : Int), k + g = s.size ∧ i = .int .i64 k ∧ n = .int .i64 q ∧ 0 ≤ q ∧ q + 1 ≤ (10 ^ k : Nat) ∧ Hid (V = valF q (s.data.toList.drop k)) ∧ wr = w)
  case atStart => exact ⟨0, 0, by omega, rfl, rfl, by omega, by decide, Lib.hid HV.out, rfl⟩
  case round =>
    obtain ⟨k, q, hk, rfl, rfl, hq0, hq1, hd, rfl⟩ := hrel
    by_cases hlt : k < s.size
    · have hc : s.data.toList[k]? = some s[k] := by
        rw [Array.getElem?_toList]
        exact Array.getElem?_eq_getElem (show k < s.data.size from hlt)
      have hq99 : q ≤ 99 := by
        have : (10 ^ k : Nat) ≤ 10 ^ 2 := Nat.pow_le_pow_right (by decide) (by omega)
        omega
      have hst := hd.out
      rw [drop_cons hc, valF] at hst
      have h255 : ((s[k].toNat : Nat) : Int) ≤ 255 := by have := s[k].toNat_lt; omega
      by_cases hlo : (s[k].toNat : Int) < 48
      · rw [if_pos (.inl (by omega))] at hst
        have HE := Lib.hid hst
        clear hst hc hd
        go_wp2
        go_ret
        exact ⟨by rw [HE.out]; rfl, rfl⟩
      by_cases hhi : 57 < (s[k].toNat : Int)
      · rw [if_pos (.inr (by omega))] at hst
        have HE := Lib.hid hst
        have hlo' : decide ((s[k].toNat : Int) < 48) = false := by simpa using hlo
        clear hst hc hd
        go_wp2
        go_ret
        exact ⟨by rw [HE.out]; rfl, rfl⟩
      · rw [if_neg (by omega)] at hst
        have HE := Lib.hid hst
        have hlo' : 48 ≤ (s[k].toNat : Int) := by omega
        have hhi' : (s[k].toNat : Int) ≤ 57 := by omega
        have hp : 10 * q + ((s[k].toNat : Int) - 48) + 1 ≤ (10 ^ (k + 1) : Nat) := by rw [Nat.pow_succ]; omega
        clear hst hc hd hlo hhi
        go_wp2
        go_roundg (s.size - (k + 1))
        case measure => omega
        case rel => exact ⟨k + 1, 10 * q + ((s[k].toNat : Int) - 48), by omega, by go_num, by go_num, by omega, hp, HE, rfl⟩
    · have hst := hd.out
      rw [List.drop_eq_nil_of_le (by omega), valF] at hst
      have HE := Lib.hid hst
      clear hst hd
      go_wp2
      go_ret
      exact ⟨by rw [HE.out]; rfl, rfl⟩
def txt (l : List UInt8) : Value := .string ⟨l.toArray⟩
def txts (ls : List (List UInt8)) : List Value := ls.map txt
theorem infoStr : (Tryd.prog.info? 9).map (fun i => (i.zero, i.size, i.bytes)) = some (some (.string ByteArray.empty), 1, 16) := by kernel_rfl
/-- Texts in memory of somebody's own. -/
def OwT (B : Nat) (w : World) (v : Value) (ls : List (List UInt8)) : Prop := w.ownsRow B 9 1 v ls.length (txts ls)
theorem OwT.below {B : Nat} {w w' : World} {v : Value} {ls : List (List UInt8)} (h : OwT B w v ls) (hb : Below w.heap.size w w') : OwT B w' v ls := owns_below h hb (Nat.le_refl _)
theorem OwT.wr {B : Nat} {w w' : World} {v : Value} {ls : List (List UInt8)} {p : Nat → Prop} (h : OwT B w v ls) (hw : Wr w w' p) (hp : ∀ k, v.ownBlock = some k → ¬ p k) : OwT B w' v ls := hw.owns h hp
/-- It holds something: where it lies. -/
theorem OwT.at {B : Nat} {w : World} {v : Value} {ls : List (List UInt8)} (h : OwT B w v ls) (hn : 0 < ls.length) : ∃ g cap, v = .slice (some ⟨g, 0, none⟩) ls.length cap ∧ B ≤ g ∧ g < w.heap.size ∧ ls.length ≤ cap ∧ cap ≤ 9223372036854775807 := by
  rcases h.2 with ⟨_, h0⟩ | ⟨g, cap, cur, rfl, hb, hg, hc, hm, _⟩
  · omega
  · exact ⟨g, cap, rfl, hb, (Array.getElem?_eq_some_iff.1 hg).1, hc, by unfold maxLen at hm; omega⟩
theorem OwT.cell {B : Nat} {w : World} {g cap : Nat} {ls : List (List UInt8)} (h : OwT B w (.slice (some ⟨g, 0, none⟩) ls.length cap) ls) {i : Nat} {l : List UInt8} (hi : ls[i]? = some l) : w.cell? ⟨g, i, none⟩ = some (.string ⟨l.toArray⟩) := by
  have hlt := (List.getElem?_eq_some_iff.1 hi).1
  have h1 := h.cellAt i (by omega)
  rw [h1]
  unfold txts
  rw [List.getElem?_map, hi]
  rfl
/-- A written text, alone in new memory. -/
theorem OwT.lit1 (w : World) (l : List UInt8) : OwT w.heap.size (w.alloc (.cells #[.string ⟨l.toArray⟩] 9)) (.slice (some ⟨w.heap.size, 0, none⟩) 1 1) [l] :=
  World.ownsRow_lit w #[.string ⟨l.toArray⟩] 1 (Nat.le_refl _) (by decide) rfl
theorem sub1 (s : ByteArray) (k : Nat) (h : k < s.size) : s.extract k (k + 1) = ⟨[s[k]].toArray⟩ := by
  apply ByteArray.ext
  rw [ByteArray.data_extract]
  apply Array.ext'
  rw [Array.toList_extract]
  have h2 : k < s.data.toList.length := by rw [Array.length_toList]; exact h
  simp only [List.extract_eq_take_drop]
  rw [List.drop_eq_getElem_cons h2, show k + 1 - k = 1 by omega]
  rfl
set_option maxRecDepth 100000 in
set_option maxHeartbeats 4000000 in
theorem l5Words_any (s : ByteArray) (w : World) (hs : s.size ≤ 4294967280) : Calls Tryd.prog 60 #[.string s] w fun e w' => ∃ v, e = .returned v ∧ OwT w.heap.size w' v (splitW s.data.toList) ∧ Below w.heap.size w w' := by
  have hsl : s.data.toList.length = s.size := Array.length_toList
  have HSL := Lib.hid hsl
  obtain ⟨b, hb⟩ : ∃ b, w.heap.size = b := ⟨_, rfl⟩
  have hst := OwT.lit1 w []
  rw [hb] at hst
  have HB := Lib.hid hb
  have HST := Lib.hid hst
  have hb0 := Lib.hid (show Below b w (w.alloc (.cells #[.string ⟨#[]⟩] 9)) by rw [← hb]; exact (Below.refl _ _).alloc (Nat.le_refl _) _)
  rw [hb]
  clear hsl hb hst
  go_enter Tryd.func60, Tryd.ntmps60
  go_wp2
  rw [HB.out]
  go_loopg [3, 4] s.size (fun g v i wr => ∃ (k : Nat) (ys : List (List UInt8)) (z : List UInt8), k + g = s.size ∧ i = .int .i64 k ∧ Hid (splitW (s.data.toList.take k) = ys ++ [z]) ∧ OwT b wr v (ys ++ [z]) ∧ Below b w wr ∧ ys.length ≤ k ∧ z.length ≤ k)
  case atStart => exact ⟨0, [], [], by omega, rfl, Lib.hid rfl, HST.out, hb0.out, by simp, by simp⟩
  case round =>
    obtain ⟨k, ys, z, hk, rfl, hd, ho, hbl, hyl, hzl⟩ := hrel
    obtain ⟨g, cap, rfl, hg1, hg2, hg3, hg4⟩ := ho.at (by simp)
    have hlen : (ys ++ [z]).length = ys.length + 1 := by simp
    rw [hlen] at ho hg3 ⊢
    by_cases hlt : k < s.size
    · have hc : s.data.toList[k]? = some s[k] := by
        rw [Array.getElem?_toList]
        exact Array.getElem?_eq_getElem (show k < s.data.size from hlt)
      by_cases h32 : (s[k].toNat : Int) = 32
      · have h32b : (((s[k].toNat : Nat) : Int) == 32) = true := by simpa using h32
        have hsp : s[k] = 32 := by apply UInt8.toNat_inj.1; show s[k].toNat = 32; omega
        have HN := Lib.hid (show splitW (s.data.toList.take (k + 1)) = (ys ++ [z]) ++ [[]] by rw [take_snoc hc, hsp, splitW_snoc_sp, hd.out])
        have HO := Lib.hid ho
        have hbs := hbl.size
        clear ho hd hc hsp h32
        go_wp2_with (at_builtin; refine wpList_app1 _ rfl _ _ 22 9 rfl _ 1 16 [.string ⟨#[]⟩] (.string ByteArray.empty) Tryd.underlying22 infoStr rfl (by decide) rfl (by intro u hu; simp at hu; subst hu; rfl) _ _ _ HO.out rfl rfl (by omega) (by omega) (by have := HB.out; omega) ?_)
        intro v5 w5 ho5 hw5 hb5
        have hB5 := hb5 b w (Nat.le_refl _) hbl
        have ho6 : OwT b w5 v5 (ys ++ [z] ++ [[]]) := by
          unfold OwT txts
          rw [List.length_append, hlen, List.map_append]
          exact ho5
        clear ho5 hw5 hb5 hbl HO
        go_wp2
        go_roundg (s.size - (k + 1))
        case measure => omega
        case rel => exact ⟨k + 1, ys ++ [z], [], by omega, by go_num, HN, ho6, hB5, by simp; omega, by simp⟩
      · have h32b : (((s[k].toNat : Nat) : Int) == 32) = false := by simpa using h32
        have hsp : s[k] ≠ 32 := fun e => h32 (by rw [e]; rfl)
        have HN := Lib.hid (show splitW (s.data.toList.take (k + 1)) = ys ++ [z ++ [s[k]]] by rw [take_snoc hc]; exact splitW_snoc hsp _ _ _ hd.out)
        have hcell : wr.cell? ⟨g, ys.length, none⟩ = some (.string ⟨z.toArray⟩) := by
          rw [← hlen] at ho
          exact ho.cell (by simp)
        have ho2 : wr.ownsRow b 9 1 (.slice (some ⟨g, 0, none⟩) (ys.length + 1) cap) (ys.length + 1) (txts (ys ++ [z])) := by
          have h2 := ho
          unfold OwT at h2
          rwa [hlen] at h2
        have hfr := ho2.frozenAt ys.length
        have hst := ho2.stored ys.length (.string (⟨z.toArray⟩ ++ s.extract k (k + 1)))
        have hsu := sub1 s k hlt
        have hse : (s.extract k (k + 1)).size = 1 := by rw [hsu]; rfl
        have hset : (txts (ys ++ [z])).set ys.length (.string (⟨z.toArray⟩ ++ s.extract k (k + 1))) = txts (ys ++ [z ++ [s[k]]]) := by
          unfold txts
          rw [List.map_append, List.set_append_right _ _ (by simp), hsu]
          simp only [List.length_map, Nat.sub_self, List.map_append]
          show _ = List.map txt ys ++ [txt (z ++ [s[k]])]
          unfold txt
          rw [← bapp]
          rfl
        rw [hset] at hst
        have HS := Lib.hid hst.1
        have HBL := Lib.hid (Below.wr hbl (Wr.of_grown hst.2) (by have := hbl.size; have := HB.out; omega) (fun j hj => by cases hj; exact hg1))
        have s1 : ¬ 9223372036854775807 < z.length + (s.extract k (k + 1)).size := by omega
        have s2 : ¬ 9223372036854775807 < z.length + 1 := by omega
        have hk1 : k + 1 ≤ s.size := hlt
        clear hst hset hsu hsp h32 hc hd ho ho2
        go_wp2
        go_region
        all_goals
          have ho9 := HS.out.drew
          have hB9 := HBL.out.drew
          go_wp2
          go_roundg (s.size - (k + 1))
          case measure => omega
          case rel => exact ⟨k + 1, ys, z ++ [s[k]], by omega, by go_num, HN, by unfold OwT; rw [List.length_append]; exact ho9, hB9, by omega, by simp; omega⟩
    · have hall := hd.out
      rw [List.take_of_length_le (by have := HSL.out; omega)] at hall
      have HE := Lib.hid hall
      have HO := Lib.hid ho
      clear hall hd ho
      go_wp2
      go_ret
      exact ⟨.slice (some ⟨g, 0, none⟩) (ys.length + 1) cap, rfl, by rw [HE.out]; exact HO.out, hbl⟩
end Go.Proofs.YtidmjeehcmpjnaaDoor
