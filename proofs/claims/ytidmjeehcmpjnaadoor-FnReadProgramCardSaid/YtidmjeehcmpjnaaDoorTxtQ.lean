/- YtidmjeehcmpjnaaDoorTxtQ: an instruction read from a text, by the reference. Conditions: the text is shorter than 2 to the 32. -/
import Derived.Test.YtidmjeehcmpjnaaDoorTxtR
import Derived.Test.YtidmjeehcmpjnaaDoorDrawC
namespace Go.Proofs.YtidmjeehcmpjnaaDoor
open Go.ChangeShapes Go.WideShapes Go.ChangeAt Go.RowKit
set_option linter.unusedVariables false
def cdZ : Cd := ⟨0, 0, 0, 0⟩
/-- An instruction and whether there is one. -/
def okV (o : Option Cd) : Value := .tuple #[.agg #[.int .i64 (o.getD cdZ).op, .int .i64 (o.getD cdZ).a, .int .i64 (o.getD cdZ).b, .int .i64 (o.getD cdZ).c], .bool o.isSome]
/-- What the reading of an instruction has in memory: b the result, b + 1 the instruction, the words behind them. -/
structure RS (w0 : World) (b : Nat) (v : Value) (ws : List (List UInt8)) (x y z u : Int) (w : World) : Prop where
  bel : Below b w0 w
  r : C4 w b 0 0 0 0
  c : C4 w (b + 1) x y z u
  wd : OwT (b + 2) w v ws
  hb : w0.heap.size = b
theorem C4.below {w w' : World} {b : Nat} {x y z u : Int} (h : C4 w b x y z u) (hb : Below w.heap.size w w') : C4 w' b x y z u := h.wr (a := w.heap.size) ⟨hb.os, hb.tape, hb.output, hb.size, fun k hk _ => hb.block k hk⟩ (by have := h.lt; omega)
section
variable {w0 w w' : World} {b : Nat} {v : Value} {ws : List (List UInt8)} {x y z u : Int}
theorem RS.below (h : RS w0 b v ws x y z u w) (hb : Below w.heap.size w w') : RS w0 b v ws x y z u w' :=
  ⟨h.bel.trans (hb.mono (by have := h.r.lt; omega)), h.r.below hb, h.c.below hb, h.wd.below hb, h.hb⟩
theorem RS.drew (h : RS w0 b v ws x y z u w) : RS w0 b v ws x y z u w.drew := ⟨h.bel.drew, ⟨h.r.c0, h.r.c1, h.r.c2, h.r.c3, h.r.f0, h.r.f1, h.r.f2, h.r.f3, h.r.lt⟩, ⟨h.c.c0, h.c.c1, h.c.c2, h.c.c3, h.c.f0, h.c.f1, h.c.f2, h.c.f3, h.c.lt⟩, World.ownsRow.drew h.wd, h.hb⟩
theorem RS.set (h : RS w0 b v ws x y z u w) (j : Nat) (t : Value) : Below b w0 (w.setCell ⟨b + 1, j, none⟩ t) ∧ C4 (w.setCell ⟨b + 1, j, none⟩ t) b 0 0 0 0 ∧ OwT (b + 2) (w.setCell ⟨b + 1, j, none⟩ t) v ws := by
  have hw := Wr_set0 w (b + 1) j t
  have := h.r.lt
  exact ⟨Below.wr h.bel hw (by omega) (fun k hk => by omega), c4_other h.r (by omega) j t, h.wd.wr hw (fun k hk hh => by have := own_ge h.wd k hk; omega)⟩
theorem RS.set0 (h : RS w0 b v ws x y z u w) (n : Int) : RS w0 b v ws n y z u (w.setCell ⟨b + 1, 0, none⟩ (.int .i64 n)) := ⟨(h.set 0 _).1, (h.set 0 _).2.1, c4_set0 h.c n, (h.set 0 _).2.2, h.hb⟩
theorem RS.set1 (h : RS w0 b v ws x y z u w) (n : Int) : RS w0 b v ws x n z u (w.setCell ⟨b + 1, 1, none⟩ (.int .i64 n)) := ⟨(h.set 1 _).1, (h.set 1 _).2.1, c4_set1 h.c n, (h.set 1 _).2.2, h.hb⟩
theorem RS.set2 (h : RS w0 b v ws x y z u w) (n : Int) : RS w0 b v ws x y n u (w.setCell ⟨b + 1, 2, none⟩ (.int .i64 n)) := ⟨(h.set 2 _).1, (h.set 2 _).2.1, c4_set2 h.c n, (h.set 2 _).2.2, h.hb⟩
theorem RS.set3 (h : RS w0 b v ws x y z u w) (n : Int) : RS w0 b v ws x y z n (w.setCell ⟨b + 1, 3, none⟩ (.int .i64 n)) := ⟨(h.set 3 _).1, (h.set 3 _).2.1, c4_set3 h.c n, (h.set 3 _).2.2, h.hb⟩
/-- The result is stored. -/
theorem RS.fin (h : RS w0 b v ws x y z u w) (t0 t1 t2 t3 : Value) : Below b w0 ((((w.setCell ⟨b, 0, none⟩ t0).setCell ⟨b, 1, none⟩ t1).setCell ⟨b, 2, none⟩ t2).setCell ⟨b, 3, none⟩ t3) := by
  have hw := (((Wr_set0 w b 0 t0).trans (Wr_set0 _ b 1 t1)).trans (Wr_set0 _ b 2 t2)).trans (Wr_set0 _ b 3 t3)
  exact Below.wr h.bel hw (by have := h.r.lt; omega) (fun k hk => by omega)
end
theorem opTo_step (w : List UInt8) (k : Nat) : opTo w (k + 1) = if w = nm ((k + 1 : Nat) : Int) then ((k + 1 : Nat) : Int) else opTo w k := rfl
theorem opTo_bd (w : List UInt8) : ∀ k : Nat, 0 ≤ opTo w k ∧ opTo w k ≤ k
  | 0 => ⟨Int.le_refl _, Int.le_refl _⟩
  | k + 1 => by
    rw [opTo_step]
    have := opTo_bd w k
    split <;> omega
theorem bytes_eq (x y : List UInt8) : ((⟨x.toArray⟩ : ByteArray) = ⟨y.toArray⟩) ↔ x = y := by
  constructor
  · intro h
    have := congrArg (fun s : ByteArray => s.data.toList) h
    simpa using this
  · intro h; rw [h]
theorem bytes_eta (s : ByteArray) : s = ⟨s.data.toList.toArray⟩ := by
  apply ByteArray.ext; simp
def cut (ws : List (List UInt8)) (j k : Nat) : Int := if j < k then numAt ws j else 0
theorem cut_no (ws : List (List UInt8)) {j k : Nat} (h : ¬ j < k) : cut ws j k = 0 := if_neg h
theorem cut_at {ws : List (List UInt8)} {j k : Nat} (h : j < k) {x : List UInt8} (hx : ws[j]? = some x) : cut ws j k = valS x := by
  unfold cut numAt; rw [if_pos h, hx]
theorem cut_lt {ws : List (List UInt8)} {j k : Nat} (h : j < k) : cut ws j k = numAt ws j := if_pos h
theorem cut_all (ws : List (List UInt8)) (j : Nat) : cut ws j ws.length = numAt ws j := by
  unfold cut
  by_cases h : j < ws.length
  · rw [if_pos h]
  · rw [if_neg h]; unfold numAt; rw [List.getElem?_eq_none (by omega)]
set_option maxRecDepth 100000 in
set_option maxHeartbeats 8000000 in
theorem specReadCode (l : List UInt8) (w : World) (hs : l.length ≤ 4294967280) : Calls Tryd.prog 40 #[.string ⟨l.toArray⟩] w fun e w' => e = .returned (okV (readT l)) ∧ Below w.heap.size w w' := by
  obtain ⟨b, hb⟩ : ∃ b, w.heap.size = b := ⟨_, rfl⟩
  have hbA : Below b w ((w.alloc (.cells #[.int .i64 0, .int .i64 0, .int .i64 0, .int .i64 0] 42)).alloc (.cells #[.int .i64 0, .int .i64 0, .int .i64 0, .int .i64 0] 42)) := by
    rw [← hb]; exact ((Below.refl _ _).alloc (Nat.le_refl _) _).alloc (by simp) _
  have hrA : C4 ((w.alloc (.cells #[.int .i64 0, .int .i64 0, .int .i64 0, .int .i64 0] 42)).alloc (.cells #[.int .i64 0, .int .i64 0, .int .i64 0, .int .i64 0] 42)) b 0 0 0 0 := by
    refine C4.alloc (c4_of ?_) _
    rw [← hb]; exact heap_alloc_new _ _
  have hcA : C4 ((w.alloc (.cells #[.int .i64 0, .int .i64 0, .int .i64 0, .int .i64 0] 42)).alloc (.cells #[.int .i64 0, .int .i64 0, .int .i64 0, .int .i64 0] 42)) (b + 1) 0 0 0 0 := by
    refine c4_of ?_
    have := heap_alloc_new (w.alloc (.cells #[.int .i64 0, .int .i64 0, .int .i64 0, .int .i64 0] 42)) (cObj 0 0 0 0)
    rw [World.size_alloc, hb] at this
    exact this
  have HB := Lib.hid hb
  have HBA := Lib.hid hbA
  have HRA := Lib.hid hrA
  have HCA := Lib.hid hcA
  rw [hb]
  clear hb hbA hrA hcA
  go_enter Tryd.func40, Tryd.ntmps40
  go_wp2_with fail
  refine (l5Words_any _ _ (show l.toArray.size ≤ _ by simpa using hs)).mono ?_
  rintro e w1 ⟨v, rfl, ho1, hb1⟩
  simp only [World.size_alloc] at ho1
  obtain ⟨ws, hws⟩ : ∃ ws, splitW l = ws := ⟨_, rfl⟩
  rw [hws, HB.out] at ho1
  obtain ⟨h0, tl, hh⟩ := List.exists_cons_of_ne_nil (show ws ≠ [] by rw [← hws]; exact splitW_ne l)
  obtain ⟨g, cap, rfl, hg1, hg2, hg3, hg4⟩ := ho1.at (by rw [hh]; simp)
  have hR1 : RS w b (.slice (some ⟨g, 0, none⟩) ws.length cap) ws 0 0 0 0 w1 := ⟨HBA.out.trans (hb1.mono (by simp; have := HB.out; omega)), HRA.out.below hb1, HCA.out.below hb1, ho1, HB.out⟩
  have HWS := Lib.hid hws
  have HH := Lib.hid hh
  have hwl : ws.length ≤ l.length + 1 := by rw [← hws]; exact splitW_len l
  have hw1 : 0 < ws.length := by rw [hh]; simp
  have HR1 := Lib.hid hR1
  clear hws hh ho1 hb1 hg2 HBA HRA HCA hR1
  go_wp2_with fail
  rw [HB.out]
  go_loopg [6] 14 (fun gk i wr => ∃ k : Nat, k + gk = 14 ∧ i = .int .i64 (k + 1) ∧ RS w b (.slice (some ⟨g, 0, none⟩) ws.length cap) ws (opTo h0 k) 0 0 0 wr)
  case atStart => exact ⟨0, by omega, rfl, HR1.out⟩
  case round =>
    clear HR1
    obtain ⟨k, hk, rfl, hR⟩ := hrel
    have hbd := opTo_bd h0 k
    by_cases hlt : k < 14
    · have hRd := Lib.hid hR.drew
      have hc0 := hR.drew.wd.cell (i := 0) (l := h0) (by rw [HH.out]; rfl)
      clear hR
      by_cases heq : h0 = nm ((k + 1 : Nat) : Int)
      · have hqb : (h0 == nm ((k : Int) + 1)) = true := by rw [beq_iff_eq, heq]; rfl
        have HST := Lib.hid (show opTo h0 (k + 1) = (k : Int) + 1 by rw [opTo_step, if_pos heq]; rfl)
        have Hq := Lib.hid heq
        clear heq
        go_wp2_with fail
        go_region_with (go_at_call 54; refine (l5Name_any _ _ (by omega)).mono ?_; rintro e w5 ⟨rfl, hb5⟩; have hR5 := Lib.hid (hRd.out.below hb5); have hc5 := hR5.out.wd.cell (i := 0) (l := h0) (by rw [HH.out]; rfl); clear hb5)
        all_goals
          obtain ⟨y0, y1, y2, y3, f0, f1, f2, f3, f4⟩ := hR5.out.c
          have HR6 := Lib.hid (hR5.out.set0 ((k : Int) + 1))
          clear hR5 hc5 hc0 hRd
          go_wp2
          go_roundg (14 - (k + 1))
          case measure => omega
          case rel => exact ⟨k + 1, by omega, by go_num, by rw [HST.out]; exact HR6.out⟩
      · have hqb : (h0 == nm ((k : Int) + 1)) = false := by
          rw [beq_eq_false_iff_ne]
          exact heq
        have HST := Lib.hid (show opTo h0 (k + 1) = opTo h0 k by rw [opTo_step, if_neg heq])
        clear heq
        go_wp2_with fail
        go_region_with (go_at_call 54; refine (l5Name_any _ _ (by omega)).mono ?_; rintro e w5 ⟨rfl, hb5⟩; have hR5 := Lib.hid (hRd.out.below hb5); have hc5 := hR5.out.wd.cell (i := 0) (l := h0) (by rw [HH.out]; rfl); clear hb5)
        all_goals
          clear hc5 hc0 hRd
          go_wp2
          go_roundg (14 - (k + 1))
          case measure => omega
          case rel => exact ⟨k + 1, by omega, by go_num, by rw [HST.out]; exact hR5.out⟩
    · obtain rfl : k = 14 := by omega
      have HR := Lib.hid hR
      clear hR hbd
      obtain ⟨O, hO⟩ : ∃ O, opTo h0 14 = O := ⟨_, rfl⟩
      rw [hO] at HR
      have HO := Lib.hid hO
      clear hO
      by_cases hbig : 4 < ws.length
      · have HE := Lib.hid (show readT l = none by unfold readT; rw [if_pos (by rw [HWS.out]; exact hbig)])
        obtain ⟨r0, r1, r2, r3, f0, f1, f2, f3, f4⟩ := HR.out.r
        have HF := Lib.hid (HR.out.fin (.int .i64 0) (.int .i64 0) (.int .i64 0) (.int .i64 0))
        clear HR HO
        go_wp2
        refine bodyPost_ret (v := okV none) (by simp [results, Tryd.results40, go_sem, r0, r1, r2, r3, okV, cdZ]) rfl ⟨by rw [HE.out], HF.out⟩
      · have hb4 : ws.length ≤ 4 := by omega
        have hb4' : (ws.length : Int) ≤ 4 := by omega
        go_wp2_with fail
        go_loopg [7] (ws.length - 1) (fun gk i wr => ∃ k : Nat, 1 ≤ k ∧ k + gk = ws.length ∧ i = .int .i64 k ∧ RS w b (.slice (some ⟨g, 0, none⟩) ws.length cap) ws O (cut ws 1 k) (cut ws 2 k) (cut ws 3 k) wr)
        case atStart => exact ⟨1, by omega, by omega, rfl, HR.out⟩
        case round =>
          clear HR
          obtain ⟨k, hk1, hk, rfl, hR⟩ := hrel
          by_cases hlt : k < ws.length
          · obtain ⟨x, hx⟩ := get_lt hlt
            have hc := hR.wd.cell hx
            have hxl : x.toArray.size ≤ 4294967280 := by
              have hm := splitW_mem l x (by rw [HWS.out]; exact List.mem_of_getElem? hx)
              rw [List.size_toArray]; omega
            have HX := Lib.hid hx
            have HR2 := Lib.hid hR
            obtain ⟨y0, y1, y2, y3, f0, f1, f2, f3, f4⟩ := hR.c
            clear hx hR
            rcases (show k = 1 ∨ k = 2 ∨ k = 3 by omega) with rfl | rfl | rfl
            · have HN := Lib.hid (HR2.out.set1 (valS x))
              go_wp2_with fail
              refine (l5Value_any _ _ hxl).mono ?_
              rintro e w' ⟨rfl, rfl⟩
              go_wp2
              go_roundg (ws.length - 2)
              case measure => omega
              case rel => exact ⟨2, by omega, by omega, by go_num, by rw [cut_at (by omega) HX.out, cut_no _ (by omega), cut_no _ (by omega)]; exact HN.out⟩
            · have HN := Lib.hid (HR2.out.set2 (valS x))
              go_wp2_with fail
              refine (l5Value_any _ _ hxl).mono ?_
              rintro e w' ⟨rfl, rfl⟩
              go_wp2
              go_roundg (ws.length - 3)
              case measure => omega
              case rel => exact ⟨3, by omega, by omega, by go_num, by rw [cut_at (j := 2) (by omega) HX.out, cut_no (j := 3) _ (by omega)]; rw [cut_no (j := 3) _ (by omega)] at HN; exact HN.out⟩
            · have HN := Lib.hid (HR2.out.set3 (valS x))
              go_wp2_with fail
              refine (l5Value_any _ _ hxl).mono ?_
              rintro e w' ⟨rfl, rfl⟩
              go_wp2
              go_roundg (ws.length - 4)
              case measure => omega
              case rel => exact ⟨4, by omega, by omega, by go_num, by rw [cut_at (j := 3) (by omega) HX.out]; exact HN.out⟩
          · obtain rfl : k = ws.length := by omega
            rw [cut_all, cut_all, cut_all] at hR
            have hwc : wordsC ws = ⟨O, numAt ws 1, numAt ws 2, numAt ws 3⟩ := by
              unfold wordsC opS
              rw [HH.out, List.headD_cons, HO.out]
            have hrt : readT l = if cValid ⟨O, numAt ws 1, numAt ws 2, numAt ws 3⟩ = true ∧ ctext ⟨O, numAt ws 1, numAt ws 2, numAt ws 3⟩ = l then some ⟨O, numAt ws 1, numAt ws 2, numAt ws 3⟩ else none := by
              unfold readT
              rw [HWS.out, if_neg hbig, hwc]
            clear hwc
            generalize numAt ws 1 = A1 at *
            generalize numAt ws 2 = A2 at *
            generalize numAt ws 3 = A3 at *
            have HRT := Lib.hid hrt
            have HR2 := Lib.hid hR
            have C1 := Lib.hid (fun w => specCodeValid ⟨O, A1, A2, A3⟩ w)
            have C2 := Lib.hid (fun w => specCodeText ⟨O, A1, A2, A3⟩ w)
            obtain ⟨y0, y1, y2, y3, f0, f1, f2, f3, f4⟩ := hR.c
            clear hrt hR
            cases hcv : cValid ⟨O, A1, A2, A3⟩ with
            | false =>
              rw [hcv] at C1
              have HE := Lib.hid (show readT l = none by rw [HRT.out, if_neg (by rw [hcv]; simp)])
              clear hcv
              go_wp2_with fail
              refine (C1.out _).mono ?_
              rintro e w5 ⟨rfl, hb5⟩
              have HR5 := Lib.hid (HR2.out.below hb5)
              obtain ⟨r0, r1, r2, r3, g0, g1, g2, g3, g4⟩ := HR5.out.r
              have HF := Lib.hid (HR5.out.fin (.int .i64 0) (.int .i64 0) (.int .i64 0) (.int .i64 0))
              clear hb5 HR2 HR5
              go_wp2
              refine bodyPost_ret (v := okV none) (by simp [results, Tryd.results40, go_sem, r0, r1, r2, r3, okV, cdZ]) rfl ⟨by rw [HE.out], HF.out⟩
            | true =>
              rw [hcv] at C1
              obtain ⟨T, hT⟩ : ∃ T, ctext ⟨O, A1, A2, A3⟩ = T := ⟨_, rfl⟩
              rw [hT] at C2
              by_cases htl : T = l
              · have HE := Lib.hid (show readT l = some ⟨O, A1, A2, A3⟩ by rw [HRT.out, if_pos ⟨hcv, hT.trans htl⟩])
                have e1 : (T == l) = true := by rw [beq_iff_eq]; exact htl
                have e2 : (T != l) = false := by rw [bne, e1]; rfl
                clear hcv hT htl
                go_wp2_with fail
                refine (C1.out _).mono ?_
                rintro e w5 ⟨rfl, hb5⟩
                have HR5 := Lib.hid (HR2.out.below hb5)
                clear y0 y1 y2 y3 f0 f1 f2 f3 f4 hb5 HR2
                obtain ⟨y0, y1, y2, y3, f0, f1, f2, f3, f4⟩ := HR5.out.c
                go_wp2_with fail
                refine (C2.out _).mono ?_
                rintro e w6 ⟨rfl, hb6⟩
                have HR6 := Lib.hid (HR5.out.below hb6)
                clear y0 y1 y2 y3 f0 f1 f2 f3 f4 hb6 HR5
                obtain ⟨y0, y1, y2, y3, f0, f1, f2, f3, f4⟩ := HR6.out.c
                obtain ⟨r0, r1, r2, r3, g0, g1, g2, g3, g4⟩ := HR6.out.r
                have HF := Lib.hid (HR6.out.fin (.int .i64 O) (.int .i64 A1) (.int .i64 A2) (.int .i64 A3))
                clear HR6
                go_wp2
                refine bodyPost_ret (v := okV (some ⟨O, A1, A2, A3⟩)) (by simp [results, Tryd.results40, go_sem, r0, r1, r2, r3, okV, cdZ]) rfl ⟨by rw [HE.out], HF.out⟩
              · have HE := Lib.hid (show readT l = none by rw [HRT.out, if_neg (fun h => htl (hT.symm.trans h.2))])
                have e1 : (T == l) = false := by rw [beq_eq_false_iff_ne]; exact htl
                have e2 : (T != l) = true := by rw [bne, e1]; rfl
                clear hcv hT htl
                go_wp2_with fail
                refine (C1.out _).mono ?_
                rintro e w5 ⟨rfl, hb5⟩
                have HR5 := Lib.hid (HR2.out.below hb5)
                clear y0 y1 y2 y3 f0 f1 f2 f3 f4 hb5 HR2
                obtain ⟨y0, y1, y2, y3, f0, f1, f2, f3, f4⟩ := HR5.out.c
                go_wp2_with fail
                refine (C2.out _).mono ?_
                rintro e w6 ⟨rfl, hb6⟩
                have HR6 := Lib.hid (HR5.out.below hb6)
                clear y0 y1 y2 y3 f0 f1 f2 f3 f4 hb6 HR5
                obtain ⟨r0, r1, r2, r3, g0, g1, g2, g3, g4⟩ := HR6.out.r
                have HF := Lib.hid (HR6.out.fin (.int .i64 0) (.int .i64 0) (.int .i64 0) (.int .i64 0))
                clear HR6
                go_wp2
                refine bodyPost_ret (v := okV none) (by simp [results, Tryd.results40, go_sem, r0, r1, r2, r3, okV, cdZ]) rfl ⟨by rw [HE.out], HF.out⟩
end Go.Proofs.YtidmjeehcmpjnaaDoor
