/- YtidmjeehcmpjnaaDoorDrawS: the draws of a program and a place, and those from bytes: each returns instructions with numbers within bounds, in new memory. Conditions: a reader's place is at most 1000. -/
import Derived.Test.YtidmjeehcmpjnaaDoorDrawP
import Derived.Test.YtidmjeehcmpjnaaDoorPgmA
namespace Go.Proofs.YtidmjeehcmpjnaaDoor
open Go.ChangeShapes Go.WideShapes Go.ChangeAt Go.RowKit
set_option linter.unusedVariables false
theorem DC.belowS {w0 w w' : World} {z a n : Nat} {bs : List Int} {q : Int} {v : Value} (h : DC w0 z a bs q n w v) (hb : Below w.heap.size w w') : DC w0 z a bs q n w' v := by
  obtain ⟨p, hr, hp⟩ := h.rd
  exact h.step (Wr.of_below hb) (hr.below hb (Nat.le_refl _)) hp
/-- A program drawn, in new memory; old memory unchanged. -/
def PgmDB (w : World) (v : Value) (w' : World) : Prop :=
  ∃ cs : List Cd, w'.ownsRow w.heap.size 42 4 v cs.length (cdCells cs) ∧ cs.length ≤ 150000 ∧ (∀ c ∈ cs, cdIn c) ∧ Below w.heap.size w w'
theorem DC.bytes {w w1 w' : World} {z a n : Nat} {bs : List Int} {q : Int} {v : Value} (h : DC w1 z a bs q n w' v) (hb : Below w.heap.size w w1) (ha : w.heap.size ≤ a) (hn : n ≤ 150000) : PgmDB w v w' := by
  obtain ⟨cs, ho, h1, h2⟩ := h.own
  have h3 := h.base
  have h4 := hb.size
  exact ⟨cs, own_mono ho (by omega), by omega, h2, Below.wr hb h.wr h4 (fun k hk => by omega)⟩

set_option maxHeartbeats 4000000 in
theorem DrawProgramText_any (v : Value) (bs0 : List Int) (w : World) (h : RdI .u8 w v bs0) : Calls Tryd.prog 22 #[v] w (fun e w' => ∃ v, e = .returned v ∧ PgmDB w v w') := by
  obtain ⟨bs, hbs⟩ : ∃ bs, bs = bs0.take 2000 := ⟨_, rfl⟩
  go_enter Tryd.func22, Tryd.ntmps22
  go_wp2_with fail
  refine (open_any _ bs0 _ h).mono ?_
  rintro e w1 ⟨a, rfl, hr1, ha, hb1⟩
  rw [← hbs] at hr1
  clear hbs h
  go_wp2_with fail
  refine (l20Program_any a bs 0 9 w1 hr1 (by omega) (by omega)).mono ?_
  rintro e w2 ⟨u, rfl, hD⟩
  have hF := hD.bytes hb1 ha (Nat.le_refl _)
  clear hb1 hr1 hD
  go_wp2
  go_ret
  exact ⟨_, rfl, hF⟩
end Go.Proofs.YtidmjeehcmpjnaaDoor
