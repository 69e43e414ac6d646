/- YthhdffgfldphlaaPgmA: the reference's scans of programs: the block around a place, the end of a block. No conditions but that the place lies in the program or at its end. -/
import Derived.Test.YthhdffgfldphlaaPgmS
namespace Go.Proofs.Ythhdffgfldphlaa
open Go.ChangeShapes Go.WideShapes Go.ChangeAt Go.RowKit
set_option linter.unusedVariables false

def isOp (c : Cd) : Bool := (c.op == 11) || (c.op == 13)
theorem isOp_t {c : Cd} (h : c.op = 11 ∨ c.op = 13) : isOp c = true := by rcases h with h | h <;> simp [isOp, h]
theorem isOp_f {c : Cd} (h : ¬ (c.op = 11 ∨ c.op = 13)) : isOp c = false := by
  unfold isOp
  rw [beq_eq_false_iff_ne.2 (fun e => h (Or.inl e)), beq_eq_false_iff_ne.2 (fun e => h (Or.inr e))]; rfl
set_option maxHeartbeats 1000000 in
theorem l4Opens_any (c : Cd) (w : World) : Calls Try.prog 40 #[.agg #[.int .i64 c.op, .int .i64 c.a, .int .i64 c.b, .int .i64 c.c]] w fun e w' => e = .returned (.bool (isOp c)) ∧ Below w.heap.size w w' := by
  have hB : Below w.heap.size w (w.alloc (.cells #[.int .i64 c.op, .int .i64 c.a, .int .i64 c.b, .int .i64 c.c] 41)) := (Below.refl _ _).alloc (Nat.le_refl _) _
  by_cases h1 : c.op = 11
  · have HN := Lib.hid (isOp_t (Or.inl h1))
    have hb1 : (c.op == 11) = true := beq_iff_eq.2 h1
    clear h1
    go_enter Try.func40, Try.ntmps40
    go_wp2
    go_ret
    exact ⟨by rw [HN.out]; rfl, hB⟩
  · have hb1 : (c.op == 11) = false := beq_eq_false_iff_ne.2 h1
    by_cases h2 : c.op = 13
    · have HN := Lib.hid (isOp_t (Or.inr h2))
      have hb2 : (c.op == 13) = true := beq_iff_eq.2 h2
      clear h1 h2
      go_enter Try.func40, Try.ntmps40
      go_wp2
      go_ret
      exact ⟨by rw [HN.out]; rfl, hB⟩
    · have HN := Lib.hid (isOp_f (fun h => h.elim h1 h2))
      have hb2 : (c.op == 13) = false := beq_eq_false_iff_ne.2 h2
      clear h1 h2
      go_enter Try.func40, Try.ntmps40
      go_wp2
      go_ret
      exact ⟨by rw [HN.out]; rfl, hB⟩
theorem scanA_end {cs : List Cd} {k : Nat} {c : Cd} {d : Int} (hx : cs[k]? = some c) (h : c.op = 14) : scanA cs (k + 1) d = scanA cs k (d + 1) := by rw [scanA, hx]; simp only; rw [if_pos h]
theorem scanA_hit {cs : List Cd} {k : Nat} {c : Cd} (hx : cs[k]? = some c) (h : c.op = 11 ∨ c.op = 13) : scanA cs (k + 1) 0 = k := by rw [scanA, hx]; simp only; rw [if_neg (by omega), if_pos h, if_pos trivial]
theorem scanA_up {cs : List Cd} {k : Nat} {c : Cd} {d : Int} (hx : cs[k]? = some c) (h : c.op = 11 ∨ c.op = 13) (hd : d ≠ 0) : scanA cs (k + 1) d = scanA cs k (d - 1) := by rw [scanA, hx]; simp only; rw [if_neg (by omega), if_pos h, if_neg hd]
theorem scanA_on {cs : List Cd} {k : Nat} {c : Cd} {d : Int} (hx : cs[k]? = some c) (h : c.op ≠ 14) (h2 : ¬ (c.op = 11 ∨ c.op = 13)) : scanA cs (k + 1) d = scanA cs k d := by rw [scanA, hx]; simp only; rw [if_neg h, if_neg h2]
set_option maxRecDepth 100000 in
set_option maxHeartbeats 4000000 in
theorem l4Around_any (v : Value) (cs : List Cd) (p : Nat) (w : World) (h : RdC w v cs) (hp : p ≤ cs.length) : Calls Try.prog 30 #[v, .int .i64 p] w fun e w' => e = .returned (.int .i64 (arnd cs p)) ∧ Below w.heap.size w w' := by
  obtain ⟨a, n, b, off, rfl, hlc, hm, hb, hcell⟩ := h.opened
  go_enter Try.func30, Try.ntmps30
  go_wp2_with fail
  go_loopg [5, 6] p (fun g m i wr => ∃ d : Int, g ≤ p ∧ i = .int .i64 ((g : Int) - 1) ∧ m = .int .i64 d ∧ 0 ≤ d ∧ d + g ≤ p ∧ arnd cs p = scanA cs g d ∧ Below w.heap.size w wr)
  case atStart => exact ⟨0, Nat.le_refl _, by go_num, rfl, by omega, by omega, rfl, Below.refl _ _⟩
  case round =>
    obtain ⟨d, hg, rfl, rfl, hd0, hd1, hs, hbl⟩ := hrel
    by_cases hlt : 0 < gk
    · obtain ⟨k, rfl⟩ : ∃ k, gk = k + 1 := ⟨gk - 1, by omega⟩
      obtain ⟨c, hx⟩ := get_lt (show k < cs.length by omega)
      obtain ⟨hblt, ha⟩ := hb (ne_of_get hx)
      obtain ⟨e0, e1, e2, e3⟩ := hcell.get hb hbl hx
      have hi : ((k + 1 : Nat) : Int) - 1 = (k : Int) := by omega
      rw [hi]
      have hkl : k < cs.length := by omega
      have HLO := Lib.hid (l4Opens_any c)
      subst ha
      by_cases h14 : c.op = 14
      · rw [scanA_end hx h14] at hs
        rw [isOp_f (by omega)] at HLO
        have HS := Lib.hid hs
        have o1 : (c.op == 14) = true := beq_iff_eq.2 h14
        clear hb hcell hx h14 hs hi
        go_wp2_with fail
        refine (HLO.out _).mono ?_
        rintro e w2 ⟨rfl, hb2⟩
        have hB2 := hbl.trans (hb2.mono hbl.size)
        clear hb2 hbl
        go_wp2
        go_roundg k
        case measure => omega
        case rel => exact ⟨d + 1, by omega, by go_num, by go_num, by omega, by omega, HS.out, hB2⟩
      · have o1 : (c.op == 14) = false := beq_eq_false_iff_ne.2 h14
        by_cases ho : c.op = 11 ∨ c.op = 13
        · rw [isOp_t ho] at HLO
          by_cases hd : d = 0
          · subst hd
            rw [scanA_hit hx ho] at hs
            have HS := Lib.hid hs
            clear hb hcell hx h14 ho hs hi
            go_wp2_with fail
            refine (HLO.out _).mono ?_
            rintro e w2 ⟨rfl, hb2⟩
            have hB2 := hbl.trans (hb2.mono hbl.size)
            clear hb2 hbl
            go_wp2
            go_ret
            exact ⟨by rw [HS.out]; rfl, hB2⟩
          · rw [scanA_up hx ho hd] at hs
            have HS := Lib.hid hs
            have o2 : (d == 0) = false := beq_eq_false_iff_ne.2 hd
            clear hb hcell hx h14 ho hs hi
            go_wp2_with fail
            refine (HLO.out _).mono ?_
            rintro e w2 ⟨rfl, hb2⟩
            have hB2 := hbl.trans (hb2.mono hbl.size)
            clear hb2 hbl
            go_wp2
            go_roundg k
            case measure => omega
            case rel => exact ⟨d - 1, by omega, by go_num, by go_num, by omega, by omega, HS.out, hB2⟩
        · rw [scanA_on hx h14 ho] at hs
          rw [isOp_f ho] at HLO
          have HS := Lib.hid hs
          clear hb hcell hx h14 ho hs hi
          go_wp2_with fail
          refine (HLO.out _).mono ?_
          rintro e w2 ⟨rfl, hb2⟩
          have hB2 := hbl.trans (hb2.mono hbl.size)
          clear hb2 hbl
          go_wp2
          go_roundg k
          case measure => omega
          case rel => exact ⟨d, by omega, by go_num, rfl, by omega, by omega, HS.out, hB2⟩
    · obtain rfl : gk = 0 := by omega
      have HS := Lib.hid hs
      clear hs hb hcell
      go_wp2
      go_ret
      exact ⟨by rw [HS.out]; rfl, hbl⟩
theorem scanE_open {c : Cd} {r : List Cd} {k : Nat} {d o : Int} (h : c.op = 11 ∨ c.op = 13) : scanE (c :: r) k d o = scanE r (k + 1) (d + 1) o := by rw [scanE, if_pos h]
theorem scanE_else {c : Cd} {r : List Cd} {k : Nat} {o : Int} (h : c.op = 12) : scanE (c :: r) k 0 o = scanE r (k + 1) 0 k := by rw [scanE, if_neg (by omega), if_pos ⟨h, rfl⟩]
theorem scanE_end {c : Cd} {r : List Cd} {k : Nat} {o : Int} (h : c.op = 14) : scanE (c :: r) k 0 o = ((k : Int), o) := by rw [scanE, if_neg (by omega), if_neg (by omega), if_pos ⟨h, rfl⟩]
theorem scanE_up {c : Cd} {r : List Cd} {k : Nat} {d o : Int} (h : c.op = 14) (hd : d ≠ 0) : scanE (c :: r) k d o = scanE r (k + 1) (d - 1) o := by rw [scanE, if_neg (by omega), if_neg (by omega), if_neg (by omega), if_pos h]
theorem scanE_on {c : Cd} {r : List Cd} {k : Nat} {d o : Int} (h1 : ¬ (c.op = 11 ∨ c.op = 13)) (h2 : ¬ (c.op = 12 ∧ d = 0)) (h3 : c.op ≠ 14) : scanE (c :: r) k d o = scanE r (k + 1) d o := by rw [scanE, if_neg h1, if_neg h2, if_neg (by omega), if_neg h3]
set_option maxRecDepth 100000 in
set_option maxHeartbeats 8000000 in
theorem l4End_any (v : Value) (cs : List Cd) (p : Nat) (w : World) (h : RdC w v cs) (hp : p < cs.length) : Calls Try.prog 41 #[v, .int .i64 p] w fun e w' => e = .returned (.tuple #[.int .i64 (bEnd cs p).1, .int .i64 (bEnd cs p).2]) ∧ Below w.heap.size w w' := by
  obtain ⟨a, n, b, off, rfl, hlc, hm, hb, hcell⟩ := h.opened
  go_enter Try.func41, Try.ntmps41
  go_wp2_with fail
  go_loopg [6, 7, 8] (cs.length - (p + 1)) (fun g m t i wr => ∃ (k : Nat) (d o : Int), k + g = cs.length ∧ i = .int .i64 k ∧ m = .int .i64 d ∧ t = .int .i64 o ∧ 0 ≤ d ∧ d ≤ k ∧ bEnd cs p = scanE (cs.drop k) k d o ∧ Below w.heap.size w wr)
  case atStart => exact ⟨p + 1, 0, -1, by omega, by go_num, rfl, rfl, by omega, by omega, rfl, Below.refl _ _⟩
  case round =>
    obtain ⟨k, d, o, hk, rfl, rfl, rfl, hd0, hd1, hs, hbl⟩ := hrel
    by_cases hlt : k < cs.length
    · obtain ⟨c, hx⟩ := get_lt hlt
      obtain ⟨hblt, ha⟩ := hb (ne_of_get hx)
      obtain ⟨e0, e1, e2, e3⟩ := hcell.get hb hbl hx
      rw [drop_cons hx] at hs
      have HLO := Lib.hid (l4Opens_any c)
      have HX := Lib.hid hx
      have HCE := Lib.hid hcell
      subst ha
      clear hb hcell hx
      by_cases ho : c.op = 11 ∨ c.op = 13
      · rw [scanE_open ho] at hs
        rw [isOp_t ho] at HLO
        have HS := Lib.hid hs
        clear ho hs
        go_wp2_with fail
        refine (HLO.out _).mono ?_
        rintro e w2 ⟨rfl, hb2⟩
        have hB2 := hbl.trans (hb2.mono hbl.size)
        clear hb2 hbl
        go_wp2
        go_roundg (cs.length - (k + 1))
        case measure => omega
        case rel => exact ⟨k + 1, d + 1, o, by omega, by go_num, by go_num, rfl, by omega, by omega, HS.out, hB2⟩
      · rw [isOp_f ho] at HLO
        by_cases hd : d = 0
        · subst hd
          by_cases h12 : c.op = 12
          · rw [scanE_else h12] at hs
            have HS := Lib.hid hs
            have o1 : (c.op == 12) = true := beq_iff_eq.2 h12
            clear ho hs h12
            go_wp2_with fail
            refine (HLO.out _).mono ?_
            rintro e w2 ⟨rfl, hb2⟩
            have hB2 := hbl.trans (hb2.mono hbl.size)
            clear hb2 hbl e0 e1 e2 e3
            obtain ⟨e0, e1, e2, e3⟩ := HCE.out.get (a := some ⟨b, off, none⟩) (fun _ => ⟨hblt, rfl⟩) hB2 HX.out
            go_wp2
            go_roundg (cs.length - (k + 1))
            case measure => omega
            case rel => exact ⟨k + 1, 0, k, by omega, by go_num, rfl, rfl, by omega, by omega, HS.out, hB2⟩
          · have o1 : (c.op == 12) = false := beq_eq_false_iff_ne.2 h12
            by_cases h14 : c.op = 14
            · rw [scanE_end h14] at hs
              have HS := Lib.hid hs
              have o2 : (c.op == 14) = true := beq_iff_eq.2 h14
              clear ho hs h12 h14
              go_wp2_with fail
              refine (HLO.out _).mono ?_
              rintro e w2 ⟨rfl, hb2⟩
              have hB2 := hbl.trans (hb2.mono hbl.size)
              clear hb2 hbl e0 e1 e2 e3
              obtain ⟨e0, e1, e2, e3⟩ := HCE.out.get (a := some ⟨b, off, none⟩) (fun _ => ⟨hblt, rfl⟩) hB2 HX.out
              go_wp2
              go_ret2
              exact ⟨by rw [HS.out]; rfl, hB2⟩
            · rw [scanE_on ho (fun h => h12 h.1) h14] at hs
              have HS := Lib.hid hs
              have o2 : (c.op == 14) = false := beq_eq_false_iff_ne.2 h14
              clear ho hs h12 h14
              go_wp2_with fail
              refine (HLO.out _).mono ?_
              rintro e w2 ⟨rfl, hb2⟩
              have hB2 := hbl.trans (hb2.mono hbl.size)
              clear hb2 hbl e0 e1 e2 e3
              obtain ⟨e0, e1, e2, e3⟩ := HCE.out.get (a := some ⟨b, off, none⟩) (fun _ => ⟨hblt, rfl⟩) hB2 HX.out
              go_wp2
              go_roundg (cs.length - (k + 1))
              case measure => omega
              case rel => exact ⟨k + 1, 0, o, by omega, by go_num, rfl, rfl, by omega, by omega, HS.out, hB2⟩
        · have od : (d == 0) = false := beq_eq_false_iff_ne.2 hd
          by_cases h14 : c.op = 14
          · rw [scanE_up h14 hd] at hs
            have HS := Lib.hid hs
            have o1 : (c.op == 12) = false := beq_eq_false_iff_ne.2 (by omega)
            have o2 : (c.op == 14) = true := beq_iff_eq.2 h14
            have hdp : 1 ≤ d := by omega
            clear ho hs h14 hd
            go_wp2_with fail
            refine (HLO.out _).mono ?_
            rintro e w2 ⟨rfl, hb2⟩
            have hB2 := hbl.trans (hb2.mono hbl.size)
            clear hb2 hbl e0 e1 e2 e3
            obtain ⟨e0, e1, e2, e3⟩ := HCE.out.get (a := some ⟨b, off, none⟩) (fun _ => ⟨hblt, rfl⟩) hB2 HX.out
            go_wp2
            go_roundg (cs.length - (k + 1))
            case measure => omega
            case rel => exact ⟨k + 1, d - 1, o, by omega, by go_num, by go_num, rfl, by omega, by omega, HS.out, hB2⟩
          · rw [scanE_on ho (fun h => hd h.2) h14] at hs
            have HS := Lib.hid hs
            have o2 : (c.op == 14) = false := beq_eq_false_iff_ne.2 h14
            by_cases h12 : c.op = 12
            · have o1 : (c.op == 12) = true := beq_iff_eq.2 h12
              clear ho hs h14 hd h12
              go_wp2_with fail
              refine (HLO.out _).mono ?_
              rintro e w2 ⟨rfl, hb2⟩
              have hB2 := hbl.trans (hb2.mono hbl.size)
              clear hb2 hbl e0 e1 e2 e3
              obtain ⟨e0, e1, e2, e3⟩ := HCE.out.get (a := some ⟨b, off, none⟩) (fun _ => ⟨hblt, rfl⟩) hB2 HX.out
              go_wp2
              go_roundg (cs.length - (k + 1))
              case measure => omega
              case rel => exact ⟨k + 1, d, o, by omega, by go_num, rfl, rfl, by omega, by omega, HS.out, hB2⟩
            · have o1 : (c.op == 12) = false := beq_eq_false_iff_ne.2 h12
              clear ho hs h14 hd h12
              go_wp2_with fail
              refine (HLO.out _).mono ?_
              rintro e w2 ⟨rfl, hb2⟩
              have hB2 := hbl.trans (hb2.mono hbl.size)
              clear hb2 hbl e0 e1 e2 e3
              obtain ⟨e0, e1, e2, e3⟩ := HCE.out.get (a := some ⟨b, off, none⟩) (fun _ => ⟨hblt, rfl⟩) hB2 HX.out
              go_wp2
              go_roundg (cs.length - (k + 1))
              case measure => omega
              case rel => exact ⟨k + 1, d, o, by omega, by go_num, rfl, rfl, by omega, by omega, HS.out, hB2⟩
    · obtain rfl : k = cs.length := by omega
      rw [List.drop_length, scanE] at hs
      have HS := Lib.hid hs
      clear hs hb hcell hk hlt
      go_wp2
      go_ret2
      exact ⟨by rw [HS.out]; rfl, hbl⟩
end Go.Proofs.Ythhdffgfldphlaa
