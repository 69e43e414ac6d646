/- YtmjkjdibolcblaaMachF: the program goes on at an OpIf or OpLoop. Conditions: the program is valid, the lane fits it. -/
import Derived.Test.YtmjkjdibolcblaaMachE
import Derived.BigRegion
import Derived.IntWalk
import Derived.Deep.RegionLaw
namespace Go.Proofs.Ytmjkjdibolcblaa
open Go.ChangeShapes Go.WideShapes Go.ChangeAt Go.RowKit
set_option linter.unusedVariables false
def StI (w0 : World) (b lo m X gm cm : Nat) (lv r : Value) (cs : List Cd) (L : Ln) (M : List Int) (e : Ending) (w' : World) : Prop :=
  e = .returned (.tuple #[]) ∧ ∃ t', RI w0 b lo m X gm cm lv r t' L M cs w'
theorem loop_other {cs : List Cd} {p : Nat} {c : Cd} (hv : pValid cs = true) (hc : cs[p]? = some c) (ho : c.op = 13) {e : Nat} {o : Int} (hb : bEnd cs p = ((e : Int), o)) : o < 0 := by
  obtain ⟨e2, f, c', S, _, k2, k3, k4, k5, k6, k7, k8, k9⟩ := block_end hv hc (.inr ho)
  rw [hb] at k9
  obtain ⟨h1, rfl⟩ := Prod.mk.inj k9
  rcases (inv_all e2 _ (Nat.le_of_lt k3) k6).other 0 f rfl with h | ⟨h, _⟩ <;> omega
/-- 'append(v, y)' of one number at a step of a region that draws its order: the new row, and where it lies; wl is the world as it stands there, W the one ahead of the region. -/
theorem step_app1w {ops : Array Oper} {o : Oper} {a : Act} {K : Act → World → Prop} {Q : Exit → Act → World → Prop} {E0 : Prop} {wl : World} (W : World) (hgd : o.guard = none) (s x : Operand) (T E : TypeId) (ho : o.op = .call { callee := .builtin .append, args := #[s, x], argTypes := #[T, T] })
    (base bytes : Nat) (y : Value) (z : Value) (ht : Try.prog.underlying T = some (.slice E)) (hinfo : (Try.prog.info? E).map (fun i => (i.zero, i.size, i.bytes)) = some (some z, 1, bytes)) (hz : z.cells.size = 1) (h1 : y.oneCell' = true)
    (v : Value) (n : Nat) (xs : List Value) (hown : W.ownsRow base E 1 v n xs) (g : Nat) (hs : a.eval s = v) (hx : a.eval x = .slice (some ⟨g, 0, none⟩) 1 1) (hb : Below W.heap.size W wl) (hg : wl.cell? ⟨g, 0, none⟩ = some y) (h63 : n + 1 ≤ 9223372036854775807) (hby : (n + 1) * bytes ≤ 140737488355328) (hbase : base ≤ W.heap.size)
    (h : ∀ v' w', w'.ownsRow base E 1 v' (n + 1) (xs ++ [y]) → Wr W w' (fun b => v.ownBlock = some b) → (∀ b, v'.ownBlock = some b → v.ownBlock = some b ∨ W.heap.size ≤ b) → K (a.put o.dst v') w') :
    if Region.wanted o (yielded ops a.tmps) = true then Oper.wp Try.prog o a wl K Q else E0 := by
  have hw : Region.wanted o (yielded ops a.tmps) = true := by simp [Region.wanted, hgd]
  rw [if_pos hw]
  obtain ⟨i, hi, hz0, hz1, hz2⟩ := info_parts hinfo
  obtain ⟨v', w', hr, h2, h3, h4⟩ := run_append_where (P := Try.prog) (w := wl) base T o.type E i z 1 bytes ht hi hz0 hz1 hz2 hz (by decide) v n xs (owns_below hown hb (Nat.le_refl _)) ⟨g, 0, none⟩ 1 [y] rfl (by
    intro j u hj
    cases j with
    | zero => simp only [List.getElem?_cons_zero, Option.some.injEq] at hj; subst hj; rw [Addr.add_lit]; exact hg
    | succ j => simp at hj) (by intro u hu; simp at hu; subst hu; exact h1) (by unfold maxLen; omega) hby (Nat.le_trans hbase hb.size)
  unfold Oper.wp execOp
  simp only [ho, resolve, invoke, builtin, Sem.run_bind, Sem.run_pure, Result.andThen_ok, List.map_toArray, List.map_cons, List.map_nil, hs, hx, hr]
  refine h v' w' h2 ((Wr.of_below hb).trans (Wr.of_grown h3)) fun b hb2 => ?_
  rcases h4 b hb2 with h | h
  · exact .inl h
  · exact .inr (Nat.le_trans hb.size h)
set_option maxRecDepth 100000 in
set_option maxHeartbeats 16000000 in
theorem enter_any (w0 : World) (b lo m X gm cm : Nat) (la : Option Addr) (ln : Nat) (r t : Value) (rs ts ms : List Int) (q : Nat) (d : Cd) (cs : List Cd) (id : Int) (wr : World) (hc : RdC w0 (.slice la cs.length ln) cs) (hp : pValid cs = true) (hk : LOK cs ⟨rs, q, ts, false⟩) (hd : cs[q]? = some d) (ho : d.op = 11 ∨ d.op = 13)
    (h : RI w0 b lo m X gm cm (.slice la cs.length ln) r t ⟨rs, q, ts, false⟩ ms cs wr) :
    Calls Try.prog 69 #[.pointer (some ⟨m, 0, none⟩), .pointer (some ⟨X, 0, none⟩)] wr (StI w0 b lo m X gm cm (.slice la cs.length ln) r cs (lstep cs id ⟨rs, q, ts, false⟩ ms).1 ms) := by
  obtain ⟨O, P, m0, m1, hO, p0, p1, p2, lO, lP, _⟩ := h.mach.own hd q ⟨d, hd, ho⟩ (.inl ⟨ho, rfl⟩)
  have hlm := h.mach.lt.2
  have hc1 := hc.below h.kB (by rw [h.wb]; exact Nat.le_refl _)
  have hql : q < cs.length := (List.getElem?_eq_some_iff.1 hd).1
  have h40 := pValid_len hp
  obtain ⟨la', ln', lb, lo', hlv, hln1, hln2, hlb, hcell⟩ := hc1.form
  obtain ⟨rfl, d0, d1, d2, d3⟩ := hcell q d hd
  simp only [Value.slice.injEq, true_and] at hlv
  obtain ⟨rfl, rfl⟩ := hlv
  have hlb1 : lb < wr.heap.size := hlb (by rintro rfl; simp at hql)
  clear hcell
  have hrl : rs.length = 4 := hk.len
  have htl : ts.length ≤ 3 := by
    have h1 : ts.length = (loopsAt cs ((q : Int)).toNat).length := hk.turns.1
    have h2 : (loopsAt cs ((q : Int)).toNat).length ≤ 3 := by
      obtain ⟨s, hs, hI⟩ := pValid_stk hp (show ((q : Int)).toNat ≤ cs.length by omega)
      rw [loopsAt_eq hs]; exact loops_len hI.deep
    omega
  obtain ⟨gr, rc, hrv, orr, hrc1, hrc2⟩ := OI.shape h.nr (by show 0 < rs.length; omega)
  obtain ⟨ta, tc, htv⟩ := own_shape h.nt
  subst hrv htv
  have hcv := pValid_code hp hd
  obtain ⟨v1, v2, v3, v4, v5, v6, v7, v8, v9, v10⟩ := cValid_bd hcv
  obtain ⟨en, oth, hbe, he1, ho1, ho2⟩ := end_in hp hd ho
  rw [hbe] at p1 p2
  simp only at p1 p2
  obtain ⟨op, dA, dB, dC⟩ := d
  simp only at d0 d1 d2 d3 ho v1 v2 v3 v4 v5 v6 v7 v8 v9 v10
  obtain ⟨A, rfl⟩ : ∃ n : Nat, dA = n := ⟨dA.toNat, by omega⟩
  have hA4 : A < rs.length := by omega
  have hAl : (A : Int) < rs.length := by omega
  obtain ⟨W, hW⟩ : ∃ W, W = (wr.alloc (.cells #[.int .i64 op, .int .i64 A, .int .i64 dB, .int .i64 dC] 24)).drew := ⟨_, rfl⟩
  obtain ⟨Y, hY⟩ : ∃ Y, wr.heap.size = Y := ⟨_, rfl⟩
  have hb : Below wr.heap.size wr W := by rw [hW]; exact (below_alloc wr _).drew
  have hBx : Box4 W Y (.int .i64 op) (.int .i64 A) (.int .i64 dB) (.int .i64 dC) := by
    have hx := Box4.new wr (.int .i64 op) (.int .i64 A) (.int .i64 dB) (.int .i64 dC) 24
    rw [hY] at hx
    rw [hW]; exact ⟨hx.at0, hx.at1, hx.at2, hx.at3, hx.lt⟩
  have hL : (lstep cs id ⟨rs, q, ts, false⟩ ms).1 = (if rg rs A = 0 then ⟨rs, if 0 ≤ oth then oth + 1 else (en : Int) + 1, ts, false⟩ else if op = 11 then ⟨rs, q + 1, ts, false⟩ else ⟨rs, q + 1, ts ++ [dB - 1], false⟩ : Ln) := by
    rcases ho with rfl | rfl
    · rw [lstep_if hd rfl]; simp only; rw [hbe]; simp only [if_true]; split <;> rfl
    · rw [lstep_loop hd rfl]; simp only; rw [hbe]; simp only [if_neg (show ¬ (13 : Int) = 11 by decide)]
      have ho3 : oth < 0 := loop_other hp hd rfl hbe
      rw [if_neg (show ¬ 0 ≤ oth by omega)]
  generalize (lstep cs id ⟨rs, q, ts, false⟩ ms).1 = L at *
  have HL := Lib.hid hL
  have HH := Lib.hid h
  have HS := Lib.hid (h.below hb)
  have HC := Lib.hid hc
  have HK := Lib.hid hk
  have HD := Lib.hid hd
  have HBE := Lib.hid hbe
  have HRL := Lib.hid hrl
  have P1 := Lib.hid ((hb.cell (p := ⟨P, 1, none⟩) lP).trans p1)
  have P2 := Lib.hid ((hb.cell (p := ⟨P, 2, none⟩) lP).trans p2)
  have HBX := Lib.hid hBx
  have HW := Lib.hid hW
  have HY := Lib.hid hY
  have kX := h.kX
  obtain ⟨x0, x1, x2, x3, x4⟩ := kX
  simp only at x0 x1 x2 x3
  clear h hc hk hc1 hd hbe hW hb hBx hL hrl orr p0 p1 p2 hY
  go_enter Try.func69, Try.ntmps69
  go_wp2
  go_region
  go_wp2_with fail
  rw [← HW.out, HY.out]
  have vb : op = 13 → 1 ≤ dB ∧ dB ≤ 4 := v10
  clear m0 m1 hO d0 d1 d2 d3 x0 x1 x2 x3 x4 v1 v2 v3 v4 v5 v6 v7 v8 v9 v10 lO lP hlb1 hln1 hln2 hlm hrc1 hrc2 hcv hlb
  have VB := Lib.hid vb
  clear vb
  have kX := HS.out.kX
  have r0 := (OI.mk HS.out.nr).get (i := A) hA4
  have f1 := HS.out.fX 1
  have f2 := HS.out.fX 2
  obtain ⟨x0, x1, x2, x3, x4⟩ := kX
  obtain ⟨y0, y1, y2, y3, y4⟩ := HBX.out
  have p1 := P1.out
  have p2 := P2.out
  simp only at x0 x1 x2 x3 r0
  as_aux_lemma =>
    generalize hxx : rg rs (A : Int) = x at *
    by_cases hx : x = 0
    · subst hx
      have e := HL.out
      rw [if_pos rfl] at e
      clear hxx HL
      by_cases hoo : 0 ≤ oth
      · rw [if_pos hoo] at e
        subst e
        as_aux_lemma =>
        go_quiet (fail)
        go_wp2
        go_end0
        exact ⟨rfl, _, (HS.out.below (below_drewN (Below.refl _ _) _)).cells (Wr_set0 _ X 1 _) ((HS.out.below (below_drewN (Below.refl _ _) _)).kX.s1 _) (fun o => by simp; exact HS.out.fX o)⟩
      · rw [if_neg hoo] at e
        subst e
        as_aux_lemma =>
        go_quiet (fail)
        go_wp2
        go_end0
        exact ⟨rfl, _, (HS.out.below (below_drewN (Below.refl _ _) _)).cells (Wr_set0 _ X 1 _) ((HS.out.below (below_drewN (Below.refl _ _) _)).kX.s1 _) (fun o => by simp; exact HS.out.fX o)⟩
    · have e := HL.out
      rw [if_neg hx] at e
      clear hxx HL
      have hxb : (x == 0) = false := by simpa using hx
      rcases ho with rfl | rfl
      · rw [if_pos rfl] at e
        subst e
        as_aux_lemma =>
        go_quiet (fail)
        go_wp2
        go_end0
        exact ⟨rfl, _, (HS.out.below (below_drewN (Below.refl _ _) _)).cells (Wr_set0 _ X 1 _) ((HS.out.below (below_drewN (Below.refl _ _) _)).kX.s1 _) (fun o => by simp; exact HS.out.fX o)⟩
      · rw [if_neg (by decide)] at e
        subst e
        have vb := VB.out rfl
        have hz := HS.out.kX.lt
        have hall : ∀ n, RI w0 b lo m X gm cm (.slice (some ⟨lb, lo', none⟩) cs.length ln) (.slice (some ⟨gr, 0, none⟩) rs.length rc) (.slice ta ts.length tc) ⟨rs, q, ts, false⟩ ms cs (W.drewN n) := fun n => HS.out.below (below_drewN (Below.refl _ _) _)
        have hallB : ∀ n, Box4 (W.drewN n) Y (.int .i64 13) (.int .i64 A) (.int .i64 dB) (.int .i64 dC) := fun n => HBX.out.below (below_drewN (Below.refl _ _) _) (Nat.le_refl _)
        have HALL := Lib.hid hall
        have HALLB := Lib.hid hallB
        clear hall hallB
        go_quiet (fail)
        go_wp2_with fail
        generalize hW2 : W.drewN _ = W2
        obtain ⟨nq, hnq⟩ : ∃ n, W.drewN n = W2 := ⟨_, hW2⟩
        clear hW2
        have hS2 := HALL.out nq
        rw [hnq] at hS2
        have hB2 := HALLB.out nq
        rw [hnq] at hB2
        have HS2 := Lib.hid hS2
        clear hnq HALL HALLB x0 x1 x2 x3 x4 y0 y1 y2 y3 y4 p1 p2 f1 f2 r0 hS2
        obtain ⟨x0, x1, x2, x3, x4⟩ := HS2.out.kX
        obtain ⟨y0, y1, y2, y3, y4⟩ := hB2
        have f1 := HS2.out.fX 1
        have f2 := HS2.out.fX 2
        simp only at x0 x1 x2 x3
        have hwr13 : IntKind.i64.wrap (dB - 1) = dB - 1 := IntWalk.i64_in _ (by omega)
        as_aux_lemma =>
        go_region_law (refine step_app1w W2 rfl (.tmp 51) (.tmp 55) 29 3 rfl b 8 (.int .i64 (dB - 1)) (.int .i64 0) Try.underlying29 infoInt rfl rfl (.slice ta ts.length tc) ts.length (ts.map (Value.int .i64)) HS2.out.nt W2.heap.size rfl rfl (below_alloc W2 _).drew (by simp) (by omega) (by omega) (by have := HS2.out.kB.size; have := HS2.out.wb; omega) ?_; intro v' w' ho hw hwh; have hXw := HS2.out.kX.wr hw (fun hh => (HS2.out.xt X hh).1 rfl); have z5 := (hw.frozen HS2.out.kX.lt (fun hh => (HS2.out.xt X hh).1 rfl)).trans (HS2.out.fX 1); have z6 := (hw.frozen HS2.out.kX.lt (fun hh => (HS2.out.xt X hh).1 rfl)).trans (HS2.out.fX 2); have HF := Lib.hid (HS2.out.app ho hw hwh (q + 1)); obtain ⟨ad', cp', hv'⟩ := own_shape ho; subst hv'; obtain ⟨z0, z1, z2, z3, z4⟩ := hXw; simp only at z0 z1 z2 z3; clear ho hw hwh)
        all_goals
          go_wp2
          go_end0
          exact ⟨rfl, _, HF.out⟩
end Go.Proofs.Ytmjkjdibolcblaa
