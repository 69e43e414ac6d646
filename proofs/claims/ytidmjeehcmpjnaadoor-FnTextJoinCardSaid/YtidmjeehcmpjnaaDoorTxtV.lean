/- YtidmjeehcmpjnaaDoorTxtV: two equal lists of instructions are found equal; plain laws on programs' texts. No conditions but on the lengths. -/
import Derived.Test.YtidmjeehcmpjnaaDoorTxtT
namespace Go.Proofs.YtidmjeehcmpjnaaDoor
open Go.ChangeShapes Go.WideShapes Go.ChangeAt Go.RowKit
set_option linter.unusedVariables false
set_option maxHeartbeats 4000000 in
theorem sameCodes_same (v u : Value) (cs : List Cd) (w : World) (h : RdC w v cs) (h' : RdC w u cs) :
    Calls Tryd.prog 28 #[v, u] w fun e w' => e = .returned (.bool true) ∧ Below w.heap.size w w' := by
  obtain ⟨a, n, b, off, rfl, hlc, hm, hb, hcell⟩ := h.form
  obtain ⟨a', n', b', off', rfl, hlc', hm', hb', hcell'⟩ := h'.form
  clear h h'
  go_enter Tryd.func28, Tryd.ntmps28
  go_wp2_with fail
  go_loopg [5] cs.length (fun g i wr => ∃ k : Nat, k + g = cs.length ∧ i = .int .i64 k ∧ Below w.heap.size w wr)
  case atStart => exact ⟨0, by omega, rfl, Below.refl _ _⟩
  case round =>
    obtain ⟨k, hk, rfl, hbl⟩ := hrel
    by_cases hlt : k < cs.length
    · obtain ⟨c, hx⟩ := get_lt hlt
      obtain ⟨rfl, c0, c1, c2, c3⟩ := hcell k c hx
      obtain ⟨rfl, d0, d1, d2, d3⟩ := hcell' k c hx
      have hne : cs ≠ [] := by rintro rfl; simp at hlt
      have hb1 := hb hne
      have hb2 := hb' hne
      have e0 := (hbl.cell (p := ⟨b, off + k * 4, none⟩) hb1).trans c0
      have e1 := (hbl.cell (p := ⟨b, off + k * 4 + 1, none⟩) hb1).trans c1
      have e2 := (hbl.cell (p := ⟨b, off + k * 4 + 2, none⟩) hb1).trans c2
      have e3 := (hbl.cell (p := ⟨b, off + k * 4 + 3, none⟩) hb1).trans c3
      have f0 := (hbl.cell (p := ⟨b', off' + k * 4, none⟩) hb2).trans d0
      have f1 := (hbl.cell (p := ⟨b', off' + k * 4 + 1, none⟩) hb2).trans d1
      have f2 := (hbl.cell (p := ⟨b', off' + k * 4 + 2, none⟩) hb2).trans d2
      have f3 := (hbl.cell (p := ⟨b', off' + k * 4 + 3, none⟩) hb2).trans d3
      clear hcell hcell' hx c0 c1 c2 c3 d0 d1 d2 d3
      go_wp2
      go_quiet (fail)
      go_wp2
      go_roundg (cs.length - (k + 1))
      case measure => omega
      case rel => exact ⟨k + 1, by omega, by go_num, by first | exact hbl | exact hbl.drew | exact ⟨hbl.os, hbl.tape, hbl.output, hbl.size, hbl.block⟩⟩
    · clear hcell hcell'
      go_wp2
      go_ret
      exact ⟨rfl, hbl⟩
/-- A program's texts read as the program. -/
theorem rdP_texts {cs : List Cd} (h : pValid cs = true) : rdP (cs.map ctext) = some cs := by
  unfold rdP
  rw [readsT_texts ((pValid_iff cs).1 h).2.1]
  simp only
  rw [if_pos h]
/-- What is read as a program is its texts. -/
theorem rdP_some {ls : List (List UInt8)} {cs : List Cd} (h : rdP ls = some cs) : pValid cs = true ∧ ls = cs.map ctext := by
  unfold rdP at h
  cases hr : readsT ls with
  | none => rw [hr] at h; cases h
  | some ds =>
    rw [hr] at h
    simp only at h
    cases hp : pValid ds with
    | false => rw [hp] at h; simp at h
    | true =>
      rw [hp] at h
      simp at h
      subst h
      exact ⟨hp, (readsT_some hr).1⟩
theorem rdP_text {ls : List (List UInt8)} {cs : List Cd} (h : rdP ls = some cs) : ptext cs = ls := by
  obtain ⟨h1, h2⟩ := rdP_some h
  rw [ptext_t h1, h2]
theorem rdP_len {ls : List (List UInt8)} : ((rdP ls).getD []).length ≤ ls.length := by
  cases h : rdP ls with
  | none => simp
  | some cs => have := (rdP_some h).2; rw [this]; simp
theorem rdP_wf {ls : List (List UInt8)} : ∀ c ∈ (rdP ls).getD [], c.wf := by
  cases h : rdP ls with
  | none => simp
  | some cs => simpa using cds_wf ((pValid_iff cs).1 (rdP_some h).1).2.1
/-- The texts of two programs together are the texts of both. -/
theorem ptext_join {a b : List Cd} (ha : pValid a = true) (hb : pValid b = true) (hl : a.length + b.length ≤ 40) : ptext (a ++ b) = ptext a ++ ptext b := by
  rw [ptext_t ha, ptext_t hb, ptext_t (pValid_join ha hb hl), List.map_append]
end Go.Proofs.YtidmjeehcmpjnaaDoor
