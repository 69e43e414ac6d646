/- YtidmjeehcmpjnaaDoorCodeO: instructions and lists of instructions among the arguments of a law, opened. No conditions. -/
import Derived.Test.YtidmjeehcmpjnaaDoorCodeM
namespace Go.Proofs.YtidmjeehcmpjnaaDoor
open Go.ChangeShapes Go.WideShapes Go.ChangeAt Go.RowKit Go.Joins Go.Deep
set_option linter.unusedVariables false
section
variable {H : Type} {enc : TypeId × Value → H} {P : Program} {W : World}
theorem open_code {t i : TypeId} {f0 f1 f2 f3 : Field} {v : Value} {d : DataW H} {p : List MemPlace} {b0 : Nat} (hs : P.underlying t = some (.struct #[f0, f1, f2, f3])) (hone : oneCellFields P #[f0, f1, f2, f3] = true) (hC : P.cellsOf t = 4)
    (hi : P.underlying i = some (.int .i64)) (t0 : f0.type = i) (t1 : f1.type = i) (t2 : f2.type = i) (t3 : f3.type = i)
    (hv : Value.okWide P W .any b0 t v) (h : DataW.Trod enc P W 0 (fun _ => true) true t v d p) : ∃ c : Cd, v = .agg #[.int .i64 c.op, .int .i64 c.a, .int .i64 c.b, .int .i64 c.c] ∧ c.wf := by
  obtain ⟨v0, v1, v2, v3, y0, y1, y2, y3, n, rfl, _, _, g0, g1, g2, g3⟩ := open_agg4 hs hone hC hv h
  rw [t0] at g0; rw [t1] at g1; rw [t2] at g2; rw [t3] at g3
  obtain ⟨a, e0, _, w0⟩ := DataW.trod_int hi g0
  obtain ⟨b, e1, _, w1⟩ := DataW.trod_int hi g1
  obtain ⟨c, e2, _, w2⟩ := DataW.trod_int hi g2
  obtain ⟨d, e3, _, w3⟩ := DataW.trod_int hi g3
  simp only [List.cons.injEq, and_true] at e0 e1 e2 e3
  exact ⟨⟨a, b, c, d⟩, by rw [e0, e1, e2, e3], w0, w1, w2, w3⟩
theorem open_codes {t e i : TypeId} {f0 f1 f2 f3 : Field} {v : Value} {d : DataW H} {p : List MemPlace} {b0 : Nat} (ht : P.underlying t = some (.slice e)) (hs : P.underlying e = some (.struct #[f0, f1, f2, f3])) (hone : oneCellFields P #[f0, f1, f2, f3] = true) (hC : P.cellsOf e = 4)
    (hi : P.underlying i = some (.int .i64)) (t0 : f0.type = i) (t1 : f1.type = i) (t2 : f2.type = i) (t3 : f3.type = i)
    (hv : Value.okWide P W .any b0 t v) (h : DataW.Trod enc P W 0 (fun _ => true) true t v d p) : ∃ cs : List Cd, RdC W v cs := by
  obtain ⟨a, len, cap, rfl⟩ := okWide_slice ht hv
  obtain ⟨fuel, hf⟩ := h
  rcases open_slice ht hf with ⟨hcs, _⟩ | ⟨x, l, c, m, n, D, Pl, hcs, _, hl, hm, hmm, _, hx⟩
  · simp [Value.cells] at hcs
    obtain ⟨rfl, rfl, rfl⟩ := hcs
    exact ⟨[], ⟨rfl, none, 0, rfl, Nat.le_refl _, by simp [maxLen], fun h => absurd h (by simp)⟩, by simp⟩
  · simp [Value.cells] at hcs
    obtain ⟨rfl, rfl, rfl⟩ := hcs
    have hmm : m = cap := by simpa using hmm
    subst hmm
    have each : ∀ j, j < m → ∃ q : Cd, q.wf ∧ W.cell? (x.add (j * 4)) = some (.int .i64 q.op) ∧ W.cell? (x.add (j * 4 + 1)) = some (.int .i64 q.a) ∧ W.cell? (x.add (j * 4 + 2)) = some (.int .i64 q.b) ∧ W.cell? (x.add (j * 4 + 3)) = some (.int .i64 q.c) := by
      intro j hj
      obtain ⟨cs', h1, h2⟩ := hx j hj
      rw [hC] at h1
      obtain ⟨_, hlen, hcell⟩ := World.cells?_some h1
      obtain ⟨y0, y1, y2, y3, n', _, _, g0, g1, g2, g3⟩ := trod_struct4 hs h2
      obtain ⟨o0, k0⟩ := hone_of hone 0 f0 rfl
      obtain ⟨o1, k1⟩ := hone_of hone 1 f1 rfl
      obtain ⟨o2, k2⟩ := hone_of hone 2 f2 rfl
      obtain ⟨o3, k3⟩ := hone_of hone 3 f3 rfl
      match cs', hlen with
      | [v0, v1, v2, v3], _ =>
        simp [o0, o1, o2, o3, k0, k1, k2, k3] at g0 g1 g2 g3
        rw [t0] at g0; rw [t1] at g1; rw [t2] at g2; rw [t3] at g3
        obtain ⟨a, e0, _, w0⟩ := DataW.trod_int hi g0
        obtain ⟨b, e1, _, w1⟩ := DataW.trod_int hi g1
        obtain ⟨c, e2, _, w2⟩ := DataW.trod_int hi g2
        obtain ⟨d, e3, _, w3⟩ := DataW.trod_int hi g3
        simp only [List.cons.injEq, and_true] at e0 e1 e2 e3
        subst e0 e1 e2 e3
        have q0 := hcell 0 (by omega)
        have q1 := hcell 1 (by omega)
        have q2 := hcell 2 (by omega)
        have q3 := hcell 3 (by omega)
        rw [add_add] at q0 q1 q2 q3
        exact ⟨⟨a, b, c, d⟩, ⟨w0, w1, w2, w3⟩, by simpa using q0, by simpa using q1, by simpa using q2, by simpa using q3⟩
    have each2 : ∀ j, ∃ q : Cd, j < m → q.wf ∧ W.cell? (x.add (j * 4)) = some (.int .i64 q.op) ∧ W.cell? (x.add (j * 4 + 1)) = some (.int .i64 q.a) ∧ W.cell? (x.add (j * 4 + 2)) = some (.int .i64 q.b) ∧ W.cell? (x.add (j * 4 + 3)) = some (.int .i64 q.c) := by
      intro j
      by_cases hj : j < m
      · obtain ⟨q, hq⟩ := each j hj; exact ⟨q, fun _ => hq⟩
      · exact ⟨⟨0, 0, 0, 0⟩, fun h => absurd h hj⟩
    obtain ⟨F, hF⟩ := Classical.axiomOfChoice each2
    have hll : ((List.range len).map F).length = len := by simp
    refine ⟨(List.range len).map F, ⟨by rw [cdCells_length], some x, m, by rw [hll], by rw [hll]; exact hl, hm, fun hn => ?_⟩, fun q hq => ?_⟩
    · rw [hll] at hn
      obtain ⟨b, off, spot⟩ := x
      have hc0 := (hF 0 (by omega)).2.1
      have hsp : spot = none := by simpa [Addr.add] using World.cell?_spot hc0
      subst hsp
      refine ⟨b, off, rfl, World.block_lt_of_cell? W _ hc0, fun i u hu => ?_⟩
      have hi4 : i < len * 4 := by
        have := (List.getElem?_eq_some_iff.1 hu).1
        rw [cdCells_length, hll] at this; exact this
      have hget : ((List.range len).map F)[i / 4]? = some (F (i / 4)) := by simp [show i / 4 < len by omega]
      obtain ⟨g0, g1, g2, g3⟩ := cdCells_get _ _ _ hget
      obtain ⟨_, f0, f1, f2, f3⟩ := hF (i / 4) (by omega)
      rw [Addr.add_lit] at f0 f1 f2 f3
      rcases (show i = 4 * (i / 4) ∨ i = 4 * (i / 4) + 1 ∨ i = 4 * (i / 4) + 2 ∨ i = 4 * (i / 4) + 3 by omega) with h | h | h | h
      · rw [h] at hu ⊢
        rw [g0] at hu; rw [← hu, show 4 * (i / 4) = i / 4 * 4 by omega]; exact f0
      · rw [h] at hu ⊢
        rw [g1] at hu; rw [← hu, show 4 * (i / 4) = i / 4 * 4 by omega]; exact f1
      · rw [h] at hu ⊢
        rw [g2] at hu; rw [← hu, show 4 * (i / 4) = i / 4 * 4 by omega]; exact f2
      · rw [h] at hu ⊢
        rw [g3] at hu; rw [← hu, show 4 * (i / 4) = i / 4 * 4 by omega]; exact f3
    · obtain ⟨j, hj, rfl⟩ := List.mem_map.1 hq
      exact (hF j (by have := List.mem_range.1 hj; omega)).1
end
end Go.Proofs.YtidmjeehcmpjnaaDoor
