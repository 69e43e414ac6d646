/- YthhdffgfldphlaaLaneV: which lanes are valid, in the reference and in the program. No conditions. -/
import Derived.Test.YthhdffgfldphlaaLaneP
import Derived.Test.YthhdffgfldphlaaMaskOf
import Derived.Test.YthhdffgfldphlaaPgmC
namespace Go.Proofs.Ythhdffgfldphlaa
open Go.ChangeShapes Go.WideShapes Go.ChangeAt Go.RowKit
set_option linter.unusedVariables false

/-- The places of the loops, as numbers. -/
def loopsI (s : List Fr) : List Int := (loopsOf s).map fun (p : Nat) => (p : Int)
theorem loopsOf_snoc (X : List Fr) (f : Fr) : loopsOf (X ++ [f]) = if f.op = 13 then f.p :: loopsOf X else loopsOf X := by
  unfold loopsOf
  rw [List.filter_append, List.map_append, List.reverse_append]
  by_cases h : f.op = 13
  · rw [if_pos h, List.filter_cons_of_pos (by simpa using h)]; simp
  · rw [if_neg h, List.filter_cons_of_neg (by simpa using h)]; simp
theorem loopsI_yes {X : List Fr} {f : Fr} (h : f.op = 13) : loopsI (X ++ [f]) = (f.p : Int) :: loopsI X := by unfold loopsI; rw [loopsOf_snoc, if_pos h]; rfl
theorem loopsI_no {X : List Fr} {f : Fr} (h : f.op ≠ 13) : loopsI (X ++ [f]) = loopsI X := by unfold loopsI; rw [loopsOf_snoc, if_neg h]
theorem loopsI_length (s : List Fr) : (loopsI s).length ≤ s.length := by
  unfold loopsI loopsOf; rw [List.length_map, List.length_reverse, List.length_map]; exact List.length_filter_le _ _
theorem oneI2 (xs : List Int) : ∀ u ∈ xs.map (Value.int .i64), u.oneCell' = true := by
  intro u hu
  obtain ⟨x, _, rfl⟩ := List.mem_map.1 hu
  rfl
set_option maxRecDepth 100000 in
set_option maxHeartbeats 4000000 in
theorem l6Loops_any (v : Value) (cs : List Cd) (p : Nat) (w : World) (h : RdC w v cs) (hp : p ≤ cs.length) {s : List Fr} (hs : stk cs p = some s) : Calls Try.prog 19 #[v, .int .i64 p] w (NewI w (loopsI s)) := by
  have HR := Lib.hid h
  have hI := inv_all p s hp hs
  have hdeep := hI.deep
  have HI := Lib.hid hI
  have HA := Lib.hid (arnd_eq hp hs)
  obtain ⟨a, n, b, off, rfl, hlc, hm, hb, hcell⟩ := h.opened
  have hoE : (w.alloc (.cells #[] 3)).ownsRow w.heap.size 3 1 (.slice (some ⟨w.heap.size, 0, none⟩) 0 0) 0 [] := World.ownsRow_lit w #[] 0 (Nat.le_refl _) (by decide) rfl
  have hb0 : Below w.heap.size w (w.alloc (.cells #[] 3)) := (Below.refl _ _).alloc (Nat.le_refl _) _
  have hR0 := h.below hb0 (Nat.le_refl _)
  clear hI hs
  go_enter Try.func19, Try.ntmps19
  go_wp2_with (go_at_call 30; refine (l4Around_any _ cs p _ hR0 hp).mono ?_; rintro e w1 ⟨rfl, hb1⟩)
  have hB1 := hb0.trans (hb1.mono hb0.size)
  have ho1 := owns_below hoE hb1 (Nat.le_refl _)
  obtain ⟨T0, hT0⟩ : ∃ T, topP s[0]? = T := ⟨_, rfl⟩
  rw [HA.out, hT0]
  have HT0 := Lib.hid hT0
  clear hb0 hb1 hoE hR0 hT0
  go_loopg [5, 6] s.length (fun g u i wr => ∃ (X R : List Fr), s = X ++ R ∧ R.length = g ∧ i = .int .i64 (topP R[0]?) ∧ wr.ownsRow w.heap.size 3 1 u (loopsI X).length ((loopsI X).map (Value.int .i64)) ∧ Below w.heap.size w wr)
  case atStart => exact ⟨[], s, rfl, rfl, by rw [HT0.out], ho1, hB1⟩
  case round =>
    clear ho1 hB1
    obtain ⟨X, R, hsx, hRl, rfl, ho, hbl⟩ := hrel
    cases R with
    | nil =>
      have HX : Hid (X = s) := Lib.hid (by rw [hsx]; simp)
      rw [HX.out] at ho
      clear hsx hb hcell
      rw [show topP ([] : List Fr)[0]? = -1 from rfl]
      go_wp2
      go_ret
      exact ⟨_, rfl, ho, hbl⟩
    | cons f R2 =>
      simp only [List.length_cons] at hRl
      have hfi : s[X.length]? = some f := by rw [hsx, List.getElem?_append_right (Nat.le_refl _)]; simp
      have hfp := HI.out.lt _ f hfi
      obtain ⟨_, c, hx, hco⟩ := HI.out.code _ f hfi
      have hbw := HI.out.below _ f hfi
      have hR2 : s.drop (X.length + 1) = R2 := by rw [hsx, ← List.drop_drop, List.drop_left]; rfl
      rw [hR2] at hbw
      have HA2 := Lib.hid (arnd_eq (by omega) hbw)
      have hxl : X.length ≤ 3 := by have := congrArg List.length hsx; rw [List.length_append] at this; omega
      have hll := loopsI_length X
      have HSX : Hid (s = (X ++ [f]) ++ R2) := Lib.hid (by rw [hsx]; simp)
      obtain ⟨hblt, ha⟩ := hb (ne_of_get hx)
      obtain ⟨e0, e1, e2, e3⟩ := hcell.get hb hbl hx
      subst ha
      have hfl : f.p < cs.length := by omega
      have HRl := Lib.hid hRl
      clear hb hcell hx hbw hR2 hsx hfi
      rw [hco] at e0
      rw [show topP (f :: R2)[0]? = (f.p : Int) from rfl]
      obtain ⟨T, hT⟩ : ∃ T, topP R2[0]? = T := ⟨_, rfl⟩
      have HT := Lib.hid hT
      have HA3 : Hid (arnd cs f.p = T) := Lib.hid (HA2.out.trans hT)
      clear hT HA2
      have hz := hbl.size
      by_cases h13 : f.op = 13
      · have o1 : (f.op == 13) = true := beq_iff_eq.2 h13
        have HL := Lib.hid (loopsI_yes (X := X) h13)
        obtain ⟨F, hF⟩ : ∃ F, f.op = F := ⟨_, rfl⟩
        rw [hF] at e0 o1
        have hoL : (wr.alloc (.cells #[.int .i64 f.p] 3)).ownsRow wr.heap.size 3 1 (.slice (some ⟨wr.heap.size, 0, none⟩) 1 1) 1 [.int .i64 f.p] := World.ownsRow_lit wr #[.int .i64 f.p] 1 (Nat.le_refl _) (by decide) rfl
        have hsr := ho.alloc (.cells #[.int .i64 f.p] 3)
        clear h13 hco hF
        go_wp2_with (at_builtin; refine wpList_app2g _ (by rfl) _ _ 23 3 rfl _ _ 1 8 (.int .i64 0) Try.underlying23 infoInt rfl (by decide) _ _ _ _ _ _ hoL hsr (oneI2 _) rfl rfl (by omega) (by omega) (by simp) ?_)
        intro v3 w3 ho3 hw3 hbb3
        have hB3 := hbb3 wr.heap.size wr (Nat.le_refl _) ((Below.refl _ _).alloc (Nat.le_refl _) _)
        have hB4 := hbl.trans (hB3.mono hbl.size)
        have ho4 : w3.ownsRow w.heap.size 3 1 v3 (loopsI (X ++ [f])).length ((loopsI (X ++ [f])).map (Value.int .i64)) := by
          rw [HL.out]
          have := own_mono ho3 hz
          simpa [Nat.add_comm] using this
        have hR4 := HR.out.below hB4 (Nat.le_refl _)
        clear ho3 hw3 hbb3 hB3 hoL hsr e0 e1 e2 e3
        go_wp2_with (go_at_call 30; refine (l4Around_any _ cs f.p _ hR4 (by omega)).mono ?_; rintro e w5 ⟨rfl, hb5⟩)
        have hB5 := hB4.trans (hb5.mono hB4.size)
        have ho5 := owns_below ho4 hb5 (Nat.le_refl _)
        rw [HA3.out]
        clear hb5 hR4 ho4
        go_roundg (gk - 1)
        case measure => omega
        case rel => exact ⟨X ++ [f], R2, HSX.out, by have := HRl.out; omega, by rw [HT.out], ho5, hB5⟩
      · have o1 : (f.op == 13) = false := beq_eq_false_iff_ne.2 h13
        have HL := Lib.hid (loopsI_no (X := X) h13)
        obtain ⟨F, hF⟩ : ∃ F, f.op = F := ⟨_, rfl⟩
        rw [hF] at e0 o1
        have hR4 := HR.out.below hbl (Nat.le_refl _)
        clear h13 hco hF
        go_wp2_with (go_at_call 30; refine (l4Around_any _ cs f.p _ hR4 (by omega)).mono ?_; rintro e w5 ⟨rfl, hb5⟩)
        have hB5 := hbl.trans (hb5.mono hbl.size)
        have ho5 := owns_below ho hb5 (Nat.le_refl _)
        rw [← HL.out] at ho5
        rw [HA3.out]
        clear hb5 hR4 ho e0 e1 e2 e3
        go_roundg (gk - 1)
        case measure => omega
        case rel => exact ⟨X ++ [f], R2, HSX.out, by have := HRl.out; omega, by rw [HT.out], ho5, hB5⟩
theorem laneClo (x : Int) (w : World) : Calls Try.prog 13 #[.int .i64 x] w fun e w' => e = .returned (.bool (!inB x 0 255)) ∧ w = w' := by
  go_enter Try.func13, Try.ntmps13
  go_wp2_with (go_at_call 14; refine (isWord_any _ _).mono ?_; rintro e w' ⟨rfl, rfl⟩)
  go_ret
  exact ⟨rfl, rfl⟩

set_option maxHeartbeats 1000000 in
theorem indexF_lane (v : Value) (xs : List Int) (w : World) (h : RdI .i64 w v xs) : Calls Try.prog 28 #[v, .func (.func 13) #[] #[]] w fun e w' => e = .returned (.int .i64 (idxF (fun x => !inB x 0 255) 0 xs)) ∧ w = w' := by
  obtain ⟨a, c, b, off, rfl, hlc, hm, hb, hcell⟩ := h.form
  go_enter Try.func28, Try.ntmps28
  go_wp2_with fail
  go_loopg [8] xs.length (fun g i wr => ∃ (k : Nat), k + g = xs.length ∧ i = .int .i64 k ∧ idxF (fun x => !inB x 0 255) 0 xs = idxF (fun x => !inB x 0 255) k (xs.drop k) ∧ wr = w)
  case atStart => exact ⟨0, by omega, rfl, by simp, rfl⟩
  case round =>
    obtain ⟨k, hk, rfl, hs, rfl⟩ := hrel
    by_cases hlt : k < xs.length
    · obtain ⟨x, hx⟩ := get_lt hlt
      obtain ⟨rfl, hc⟩ := hcell k x hx
      rw [drop_cons hx] at hs
      cases hp : ((fun x => !inB x 0 255) x : Bool)
      · have hs2 : idxF (fun x => !inB x 0 255) 0 xs = idxF (fun x => !inB x 0 255) (k + 1) (xs.drop (k + 1)) := by rw [hs, idxF_no hp]
        have HS := Lib.hid hs2
        clear hs hs2 hx hcell
        simp only [Bool.not_eq_false'] at hp
        go_wp2_with (go_at_call 13; refine (laneClo _ _).mono ?_; rintro e w' ⟨rfl, rfl⟩)
        go_roundg (xs.length - (k + 1))
        case measure => omega
        case rel => exact ⟨k + 1, by omega, by go_num, HS.out, rfl⟩
      · have hs2 : idxF (fun x => !inB x 0 255) 0 xs = k := by rw [hs, idxF_yes hp]
        have HS := Lib.hid hs2
        clear hs hs2 hx hcell
        simp only [Bool.not_eq_true'] at hp
        go_wp2_with (go_at_call 13; refine (laneClo _ _).mono ?_; rintro e w' ⟨rfl, rfl⟩)
        go_ret
        exact ⟨by rw [HS.out]; rfl, rfl⟩
    · rw [List.drop_eq_nil_of_le (by omega)] at hs
      have HS := Lib.hid hs
      clear hs hcell
      go_wp2
      go_ret
      exact ⟨by rw [HS.out]; rfl, rfl⟩
theorem containsF_lane (v : Value) (xs : List Int) (w : World) (h : RdI .i64 w v xs) : Calls Try.prog 12 #[v, .func (.func 13) #[] #[]] w fun e w' => e = .returned (.bool (xs.any (fun x => !inB x 0 255))) ∧ w = w' := by
  have hi := idxF_any (fun x => !inB x 0 255) xs 0
  have HI := Lib.hid hi
  have HC := Lib.hid (indexF_lane v xs w h)
  clear hi h
  go_enter Try.func12, Try.ntmps12
  go_wp2_with fail
  refine HC.out.mono ?_
  rintro e w' ⟨rfl, rfl⟩
  go_wp2
  go_ret
  exact ⟨by rw [← HI.out]; rfl, rfl⟩
end Go.Proofs.Ythhdffgfldphlaa
