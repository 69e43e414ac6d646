/- YtidmjeehcmpjnaaDoorDrawM: the draws of masks, lanes and values: each returns numbers within bounds and leaves old memory as it was. Conditions: a reader's place is at most 1000000000. -/
import Derived.Test.YtidmjeehcmpjnaaDoorDraw0
namespace Go.Proofs.YtidmjeehcmpjnaaDoor
open Go.ChangeShapes Go.WideShapes Go.ChangeAt Go.RowKit

/-- What a draw leaves: the reader at a later place; no other old block is written. -/
def Left (w : World) (a : Nat) (bs : List Int) (q : Int) (w' : World) : Prop := ∃ p, Rdr w' a bs p ∧ p ≤ q ∧ Wr w w' (fun b => b = a)
theorem wr_cells {w w' : World} {a : Nat} (h : Wr w w' (fun b => b = a)) : ∀ b o, b < w.heap.size → ¬ b = a → w'.cell? ⟨b, o, none⟩ = w.cell? ⟨b, o, none⟩ := fun _ _ hb hn => h.cell hb hn
theorem wr_alloc {w w' : World} {q : Nat → Prop} (h : Wr w w' q) (o : Obj) : Wr w (w'.alloc o) q := h.trans (Wr.of_below ((Below.refl _ _).alloc (Nat.le_refl _) _))
theorem wr_drew {w w' : World} {q : Nat → Prop} (h : Wr w w' q) : Wr w w'.drew q := ⟨h.os, h.tape, h.output, h.size, h.block⟩
theorem Rdr.alloc {w : World} {a : Nat} {bs : List Int} {p : Int} (h : Rdr w a bs p) (o : Obj) : Rdr (w.alloc o) a bs p := h.below ((Below.refl _ _).alloc (Nat.le_refl _) _) (Nat.le_refl _)
theorem Rdr.drew {w : World} {a : Nat} {bs : List Int} {p : Int} (h : Rdr w a bs p) : Rdr w.drew a bs p := h.below ((Below.refl _ _).drew) (Nat.le_refl _)

end Go.Proofs.YtidmjeehcmpjnaaDoor
