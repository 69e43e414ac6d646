/- YtidmjeehcmpjnaaDoorDrawB: the draws of an instruction from bytes: each returns an instruction with numbers within bounds and leaves old memory as it was. No conditions. -/
import Derived.Test.YtidmjeehcmpjnaaDoorDrawK
namespace Go.Proofs.YtidmjeehcmpjnaaDoor
open Go.ChangeShapes Go.WideShapes Go.ChangeAt Go.RowKit
set_option linter.unusedVariables false
/-- An instruction drawn, in old memory unchanged. -/
def CodeDB (w : World) (e : Ending) (w' : World) : Prop :=
  ∃ c : Cd, e = .returned (.agg #[.int .i64 c.op, .int .i64 c.a, .int .i64 c.b, .int .i64 c.c]) ∧ cdIn c ∧ Below w.heap.size w w'
theorem below_hi4 {w w1 : World} (h : Below w.heap.size w w1) {g : Nat} (hg : w.heap.size ≤ g) (x y z u : Value) : Below w.heap.size w ((((w1.setCell ⟨g, 0, none⟩ x).setCell ⟨g, 1, none⟩ y).setCell ⟨g, 2, none⟩ z).setCell ⟨g, 3, none⟩ u) :=
  (((h.setCell hg _).setCell hg _).setCell hg _).setCell hg _
set_option maxHeartbeats 4000000 in
theorem DrawCodeNumber_any (v : Value) (bs0 : List Int) (w : World) (h : RdI .u8 w v bs0) : Calls Tryd.prog 33 #[v] w (CodeDB w) := by
  obtain ⟨bs, hbs⟩ : ∃ bs, bs = bs0.take 2000 := ⟨_, rfl⟩
  have hBa := (Below.refl w.heap.size w).alloc (Nat.le_refl _) (.cells #[.int .i64 0, .int .i64 0, .int .i64 0, .int .i64 0] 42)
  have hs0 := c4_new w 0 0 0 0
  have h1 := h.below hBa (Nat.le_refl _)
  go_enter Tryd.func33, Tryd.ntmps33
  go_wp2_with fail
  refine (open_any _ bs0 _ h1).mono ?_
  rintro e w1 ⟨a, rfl, hr1, ha, hb1⟩
  rw [← hbs] at hr1
  have hz1 := hb1.size
  simp only [World.size_alloc] at hz1 ha
  have hB1 := hBa.trans (hb1.mono (by simp))
  have hna : ¬ w.heap.size = a := by omega
  have hs1 := hs0.wr (Wr.of_below (p := fun b => b = a) hb1) hna
  clear hbs h h1 hb1 hBa hs0
  go_wp2_with fail
  refine (l20Code_any a bs 0 6 w1 hr1 (by omega) (by omega) (by omega)).mono ?_
  rintro e w2 ⟨c, rfl, hc, p, hr2, hp2, hw2⟩
  have hB2 := Below.wr hB1 hw2 hB1.size (fun k hk => by omega)
  have hs2 := hs1.wr hw2 hna
  have HC := Lib.hid hc
  clear hs1 hw2 hB1 hr1 hr2 hc
  obtain ⟨c0, c1, c2, c3, f0, f1, f2, f3, f4⟩ := id hs2
  have hB3 := below_hi4 hB2 (Nat.le_refl _) (.int .i64 c.op) (.int .i64 c.a) (.int .i64 c.b) (.int .i64 c.c)
  have hs3 := c4_set4 hs2 c.op c.a c.b c.c
  clear hs2
  go_wp2
  obtain ⟨d0, d1, d2, d3, _⟩ := hs3
  refine bodyPost_ret (v := .agg #[.int .i64 c.op, .int .i64 c.a, .int .i64 c.b, .int .i64 c.c]) (by simp [results, Tryd.results33, go_sem, d0, d1, d2, d3]) rfl ⟨c, rfl, HC.out, hB3⟩
set_option maxHeartbeats 4000000 in
theorem DrawCodeText_any (v : Value) (bs0 : List Int) (w : World) (h : RdI .u8 w v bs0) : Calls Tryd.prog 43 #[v] w (CodeDB w) := by
  obtain ⟨bs, hbs⟩ : ∃ bs, bs = bs0.take 2000 := ⟨_, rfl⟩
  have hBa := (Below.refl w.heap.size w).alloc (Nat.le_refl _) (.cells #[.int .i64 0, .int .i64 0, .int .i64 0, .int .i64 0] 42)
  have hs0 := c4_new w 0 0 0 0
  have h1 := h.below hBa (Nat.le_refl _)
  go_enter Tryd.func43, Tryd.ntmps43
  go_wp2_with fail
  refine (open_any _ bs0 _ h1).mono ?_
  rintro e w1 ⟨a, rfl, hr1, ha, hb1⟩
  rw [← hbs] at hr1
  have hz1 := hb1.size
  simp only [World.size_alloc] at hz1 ha
  have hB1 := hBa.trans (hb1.mono (by simp))
  have hna : ¬ w.heap.size = a := by omega
  have hs1 := hs0.wr (Wr.of_below (p := fun b => b = a) hb1) hna
  clear hbs h h1 hb1 hBa hs0
  go_wp2_with fail
  refine (l20Code_any a bs 0 6 w1 hr1 (by omega) (by omega) (by omega)).mono ?_
  rintro e w2 ⟨c, rfl, hc, p, hr2, hp2, hw2⟩
  have hB2 := Below.wr hB1 hw2 hB1.size (fun k hk => by omega)
  have hs2 := hs1.wr hw2 hna
  have HC := Lib.hid hc
  clear hs1 hw2 hB1 hr1 hr2 hc
  obtain ⟨c0, c1, c2, c3, f0, f1, f2, f3, f4⟩ := id hs2
  have hB3 := below_hi4 hB2 (Nat.le_refl _) (.int .i64 c.op) (.int .i64 c.a) (.int .i64 c.b) (.int .i64 c.c)
  have hs3 := c4_set4 hs2 c.op c.a c.b c.c
  clear hs2
  go_wp2
  obtain ⟨d0, d1, d2, d3, _⟩ := hs3
  refine bodyPost_ret (v := .agg #[.int .i64 c.op, .int .i64 c.a, .int .i64 c.b, .int .i64 c.c]) (by simp [results, Tryd.results43, go_sem, d0, d1, d2, d3]) rfl ⟨c, rfl, HC.out, hB3⟩
end Go.Proofs.YtidmjeehcmpjnaaDoor
