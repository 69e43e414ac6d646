/-
  No cell of these rows narrows 'for every input' (looked for: loops, veiled, ifaces, maps, wideKeys, modest, calm, conditions, laid).
  DERIVED. THE GIVEN ROWS OF THIS SEAT. 12 by the template 'for every input the law returns true; each argument reads behind the call as it read before'; 0 by the template 'total and deterministic' (their statements: YtmopkcfhplamhaaTotals.lean).
  GIVEN WITH THE SEED: the statements are not yours to turn. If you find one false, say at which input.
  Laid BY PROGRAM, IN A SANDBOX (cutbox-rows.mjs): the forced cells as the released guide's own fill.sh prints them over the translation ebb493ca2aa2e667… (all of the seat's roots in one cut). By AI agents, Wed Nov 11 2026. No macro, syntax, notation, axiom, sorry.
-/
import Derived.Test.YtmopkcfhplamhaaChecked
import GoSem.Claim
import GoSem.ClaimJoined
import GoSem.ClaimMapViews
import Derived.JoinedTies
import Derived.KernelRfl
namespace Go.Proofs.Ytmopkcfhplamhaa
/- THE CELL 'sum', in the pinned program and in every row, IS THE sha256 OF THE DUMP (.gsa) THAT YtmopkcfhplamhaaProg.lean LOADS. Nothing in Lean hashes anything: it is a label: what it is worth is what the hold of that sum in a sandbox is worth. -/
noncomputable def Try.pinned : Pinned := { name := "ytmopkcfhplamhaa", sum := "ebb493ca2aa2e667e49e7204a5509744637025cfd2f046bde0e785b0e2eb2629", checked := Try.checked }
namespace Rows
def none {H : Type} : Left H := { results := [], args := [] }

/-- 'laws.FnExactConstants': WHATEVER THE INPUT: true; the input reads as it did. -/
def fnExactConstantsSpec : ChangeSpec := { name := "fnExactConstants", fn := fun _ => fun
  | [] => { results := [.lit (.bool true)], args := [] }
  | _ => none }
def fnExactConstantsRow : OpenClaim := { program := "ytmopkcfhplamhaa", sum := "ebb493ca2aa2e667e49e7204a5509744637025cfd2f046bde0e785b0e2eb2629", func := "loop.example/lanekernel/laws.FnExactConstants", spec := "fnExactConstants", apart := false }
def FnExactConstantsSaid : Prop := fnExactConstantsRow.holds Try.pinned (OpenSpec.ofChange fnExactConstantsSpec)

/-- ITS FALSE NEIGHBOUR: 'it returns false'. Refute it at one input. -/
def fnExactConstantsWrong : ChangeSpec := { name := "fnExactConstants", fn := fun _ => fun
  | [] => { results := [.lit (.bool false)], args := [] }
  | _ => none }
def FnExactConstantsWrongFalsely : Prop := fnExactConstantsRow.holds Try.pinned (OpenSpec.ofChange fnExactConstantsWrong)

/-- 'laws.FnExactMaskValid': WHATEVER THE INPUT: true; the input reads as it did. -/
def fnExactMaskValidSpec : ChangeSpec := { name := "fnExactMaskValid", fn := fun _ => fun
  | [d1, d2] => { results := [.lit (.bool true)], args := [d1, d2] }
  | _ => none }
def fnExactMaskValidRow : OpenClaim := { program := "ytmopkcfhplamhaa", sum := "ebb493ca2aa2e667e49e7204a5509744637025cfd2f046bde0e785b0e2eb2629", func := "loop.example/lanekernel/laws.FnExactMaskValid", spec := "fnExactMaskValid", apart := false }
def FnExactMaskValidSaid : Prop := fnExactMaskValidRow.holds Try.pinned (OpenSpec.ofChange fnExactMaskValidSpec)

/-- ITS FALSE NEIGHBOUR: 'it returns false'. Refute it at one input. -/
def fnExactMaskValidWrong : ChangeSpec := { name := "fnExactMaskValid", fn := fun _ => fun
  | [d1, d2] => { results := [.lit (.bool false)], args := [d1, d2] }
  | _ => none }
def FnExactMaskValidWrongFalsely : Prop := fnExactMaskValidRow.holds Try.pinned (OpenSpec.ofChange fnExactMaskValidWrong)

/-- 'laws.FnExactMaskAll': WHATEVER THE INPUT: true; the input reads as it did. -/
def fnExactMaskAllSpec : ChangeSpec := { name := "fnExactMaskAll", fn := fun _ => fun
  | [d] => { results := [.lit (.bool true)], args := [d] }
  | _ => none }
def fnExactMaskAllRow : OpenClaim := { program := "ytmopkcfhplamhaa", sum := "ebb493ca2aa2e667e49e7204a5509744637025cfd2f046bde0e785b0e2eb2629", func := "loop.example/lanekernel/laws.FnExactMaskAll", spec := "fnExactMaskAll", apart := false }
def FnExactMaskAllSaid : Prop := fnExactMaskAllRow.holds Try.pinned (OpenSpec.ofChange fnExactMaskAllSpec)

/-- ITS FALSE NEIGHBOUR: 'it returns false'. Refute it at one input. -/
def fnExactMaskAllWrong : ChangeSpec := { name := "fnExactMaskAll", fn := fun _ => fun
  | [d] => { results := [.lit (.bool false)], args := [d] }
  | _ => none }
def FnExactMaskAllWrongFalsely : Prop := fnExactMaskAllRow.holds Try.pinned (OpenSpec.ofChange fnExactMaskAllWrong)

/-- 'laws.FnExactWordAdd': WHATEVER THE INPUT: true; the input reads as it did. -/
def fnExactWordAddSpec : ChangeSpec := { name := "fnExactWordAdd", fn := fun _ => fun
  | [d1, d2] => { results := [.lit (.bool true)], args := [d1, d2] }
  | _ => none }
def fnExactWordAddRow : OpenClaim := { program := "ytmopkcfhplamhaa", sum := "ebb493ca2aa2e667e49e7204a5509744637025cfd2f046bde0e785b0e2eb2629", func := "loop.example/lanekernel/laws.FnExactWordAdd", spec := "fnExactWordAdd", apart := false }
def FnExactWordAddSaid : Prop := fnExactWordAddRow.holds Try.pinned (OpenSpec.ofChange fnExactWordAddSpec)

/-- ITS FALSE NEIGHBOUR: 'it returns false'. Refute it at one input. -/
def fnExactWordAddWrong : ChangeSpec := { name := "fnExactWordAdd", fn := fun _ => fun
  | [d1, d2] => { results := [.lit (.bool false)], args := [d1, d2] }
  | _ => none }
def FnExactWordAddWrongFalsely : Prop := fnExactWordAddRow.holds Try.pinned (OpenSpec.ofChange fnExactWordAddWrong)

/-- 'laws.FnExactWordMul': WHATEVER THE INPUT: true; the input reads as it did. -/
def fnExactWordMulSpec : ChangeSpec := { name := "fnExactWordMul", fn := fun _ => fun
  | [d1, d2] => { results := [.lit (.bool true)], args := [d1, d2] }
  | _ => none }
def fnExactWordMulRow : OpenClaim := { program := "ytmopkcfhplamhaa", sum := "ebb493ca2aa2e667e49e7204a5509744637025cfd2f046bde0e785b0e2eb2629", func := "loop.example/lanekernel/laws.FnExactWordMul", spec := "fnExactWordMul", apart := false }
def FnExactWordMulSaid : Prop := fnExactWordMulRow.holds Try.pinned (OpenSpec.ofChange fnExactWordMulSpec)

/-- ITS FALSE NEIGHBOUR: 'it returns false'. Refute it at one input. -/
def fnExactWordMulWrong : ChangeSpec := { name := "fnExactWordMul", fn := fun _ => fun
  | [d1, d2] => { results := [.lit (.bool false)], args := [d1, d2] }
  | _ => none }
def FnExactWordMulWrongFalsely : Prop := fnExactWordMulRow.holds Try.pinned (OpenSpec.ofChange fnExactWordMulWrong)

/-- 'laws.FnExactWordLess': WHATEVER THE INPUT: true; the input reads as it did. -/
def fnExactWordLessSpec : ChangeSpec := { name := "fnExactWordLess", fn := fun _ => fun
  | [d1, d2] => { results := [.lit (.bool true)], args := [d1, d2] }
  | _ => none }
def fnExactWordLessRow : OpenClaim := { program := "ytmopkcfhplamhaa", sum := "ebb493ca2aa2e667e49e7204a5509744637025cfd2f046bde0e785b0e2eb2629", func := "loop.example/lanekernel/laws.FnExactWordLess", spec := "fnExactWordLess", apart := false }
def FnExactWordLessSaid : Prop := fnExactWordLessRow.holds Try.pinned (OpenSpec.ofChange fnExactWordLessSpec)

/-- ITS FALSE NEIGHBOUR: 'it returns false'. Refute it at one input. -/
def fnExactWordLessWrong : ChangeSpec := { name := "fnExactWordLess", fn := fun _ => fun
  | [d1, d2] => { results := [.lit (.bool false)], args := [d1, d2] }
  | _ => none }
def FnExactWordLessWrongFalsely : Prop := fnExactWordLessRow.holds Try.pinned (OpenSpec.ofChange fnExactWordLessWrong)

/-- 'laws.FnExactMemoryValid': WHATEVER THE INPUT: true; the input reads as it did. -/
def fnExactMemoryValidSpec : ChangeSpec := { name := "fnExactMemoryValid", fn := fun _ => fun
  | [d] => { results := [.lit (.bool true)], args := [d] }
  | _ => none }
def fnExactMemoryValidRow : OpenClaim := { program := "ytmopkcfhplamhaa", sum := "ebb493ca2aa2e667e49e7204a5509744637025cfd2f046bde0e785b0e2eb2629", func := "loop.example/lanekernel/laws.FnExactMemoryValid", spec := "fnExactMemoryValid", unfollowed := true, recurses := true, apart := false }
def FnExactMemoryValidSaid : Prop := fnExactMemoryValidRow.holds Try.pinned (OpenSpec.ofChange fnExactMemoryValidSpec)

/-- ITS FALSE NEIGHBOUR: 'it returns false'. Refute it at one input. -/
def fnExactMemoryValidWrong : ChangeSpec := { name := "fnExactMemoryValid", fn := fun _ => fun
  | [d] => { results := [.lit (.bool false)], args := [d] }
  | _ => none }
def FnExactMemoryValidWrongFalsely : Prop := fnExactMemoryValidRow.holds Try.pinned (OpenSpec.ofChange fnExactMemoryValidWrong)

/-- 'laws.FnExactWordSum': WHATEVER THE INPUT: true; the input reads as it did. -/
def fnExactWordSumSpec : ChangeSpec := { name := "fnExactWordSum", fn := fun _ => fun
  | [d] => { results := [.lit (.bool true)], args := [d] }
  | _ => none }
def fnExactWordSumRow : OpenClaim := { program := "ytmopkcfhplamhaa", sum := "ebb493ca2aa2e667e49e7204a5509744637025cfd2f046bde0e785b0e2eb2629", func := "loop.example/lanekernel/laws.FnExactWordSum", spec := "fnExactWordSum", apart := false }
def FnExactWordSumSaid : Prop := fnExactWordSumRow.holds Try.pinned (OpenSpec.ofChange fnExactWordSumSpec)

/-- ITS FALSE NEIGHBOUR: 'it returns false'. Refute it at one input. -/
def fnExactWordSumWrong : ChangeSpec := { name := "fnExactWordSum", fn := fun _ => fun
  | [d] => { results := [.lit (.bool false)], args := [d] }
  | _ => none }
def FnExactWordSumWrongFalsely : Prop := fnExactWordSumRow.holds Try.pinned (OpenSpec.ofChange fnExactWordSumWrong)

/-- 'laws.FnExactMaskOf': WHATEVER THE INPUT: true; the input reads as it did. -/
def fnExactMaskOfSpec : ChangeSpec := { name := "fnExactMaskOf", fn := fun _ => fun
  | [d1, d2] => { results := [.lit (.bool true)], args := [d1, d2] }
  | _ => none }
def fnExactMaskOfRow : OpenClaim := { program := "ytmopkcfhplamhaa", sum := "ebb493ca2aa2e667e49e7204a5509744637025cfd2f046bde0e785b0e2eb2629", func := "loop.example/lanekernel/laws.FnExactMaskOf", spec := "fnExactMaskOf", unfollowed := true, recurses := true, apart := false }
def FnExactMaskOfSaid : Prop := fnExactMaskOfRow.holds Try.pinned (OpenSpec.ofChange fnExactMaskOfSpec)

/-- ITS FALSE NEIGHBOUR: 'it returns false'. Refute it at one input. -/
def fnExactMaskOfWrong : ChangeSpec := { name := "fnExactMaskOf", fn := fun _ => fun
  | [d1, d2] => { results := [.lit (.bool false)], args := [d1, d2] }
  | _ => none }
def FnExactMaskOfWrongFalsely : Prop := fnExactMaskOfRow.holds Try.pinned (OpenSpec.ofChange fnExactMaskOfWrong)

/-- 'laws.FnExactNewLane': WHATEVER THE INPUT: true; the input reads as it did. -/
def fnExactNewLaneSpec : ChangeSpec := { name := "fnExactNewLane", fn := fun _ => fun
  | [] => { results := [.lit (.bool true)], args := [] }
  | _ => none }
def fnExactNewLaneRow : OpenClaim := { program := "ytmopkcfhplamhaa", sum := "ebb493ca2aa2e667e49e7204a5509744637025cfd2f046bde0e785b0e2eb2629", func := "loop.example/lanekernel/laws.FnExactNewLane", spec := "fnExactNewLane", apart := false }
def FnExactNewLaneSaid : Prop := fnExactNewLaneRow.holds Try.pinned (OpenSpec.ofChange fnExactNewLaneSpec)

/-- ITS FALSE NEIGHBOUR: 'it returns false'. Refute it at one input. -/
def fnExactNewLaneWrong : ChangeSpec := { name := "fnExactNewLane", fn := fun _ => fun
  | [] => { results := [.lit (.bool false)], args := [] }
  | _ => none }
def FnExactNewLaneWrongFalsely : Prop := fnExactNewLaneRow.holds Try.pinned (OpenSpec.ofChange fnExactNewLaneWrong)

/-- 'laws.FnExactMaskLanes': WHATEVER THE INPUT: true; the input reads as it did. -/
def fnExactMaskLanesSpec : ChangeSpec := { name := "fnExactMaskLanes", fn := fun _ => fun
  | [d1, d2] => { results := [.lit (.bool true)], args := [d1, d2] }
  | _ => none }
def fnExactMaskLanesRow : OpenClaim := { program := "ytmopkcfhplamhaa", sum := "ebb493ca2aa2e667e49e7204a5509744637025cfd2f046bde0e785b0e2eb2629", func := "loop.example/lanekernel/laws.FnExactMaskLanes", spec := "fnExactMaskLanes", apart := false }
def FnExactMaskLanesSaid : Prop := fnExactMaskLanesRow.holds Try.pinned (OpenSpec.ofChange fnExactMaskLanesSpec)

/-- ITS FALSE NEIGHBOUR: 'it returns false'. Refute it at one input. -/
def fnExactMaskLanesWrong : ChangeSpec := { name := "fnExactMaskLanes", fn := fun _ => fun
  | [d1, d2] => { results := [.lit (.bool false)], args := [d1, d2] }
  | _ => none }
def FnExactMaskLanesWrongFalsely : Prop := fnExactMaskLanesRow.holds Try.pinned (OpenSpec.ofChange fnExactMaskLanesWrong)

/-- 'laws.FnExactMaskMany': WHATEVER THE INPUT: true; the input reads as it did. -/
def fnExactMaskManySpec : ChangeSpec := { name := "fnExactMaskMany", fn := fun _ => fun
  | [d1, d2] => { results := [.lit (.bool true)], args := [d1, d2] }
  | _ => none }
def fnExactMaskManyRow : OpenClaim := { program := "ytmopkcfhplamhaa", sum := "ebb493ca2aa2e667e49e7204a5509744637025cfd2f046bde0e785b0e2eb2629", func := "loop.example/lanekernel/laws.FnExactMaskMany", spec := "fnExactMaskMany", apart := false }
def FnExactMaskManySaid : Prop := fnExactMaskManyRow.holds Try.pinned (OpenSpec.ofChange fnExactMaskManySpec)

/-- ITS FALSE NEIGHBOUR: 'it returns false'. Refute it at one input. -/
def fnExactMaskManyWrong : ChangeSpec := { name := "fnExactMaskMany", fn := fun _ => fun
  | [d1, d2] => { results := [.lit (.bool false)], args := [d1, d2] }
  | _ => none }
def FnExactMaskManyWrongFalsely : Prop := fnExactMaskManyRow.holds Try.pinned (OpenSpec.ofChange fnExactMaskManyWrong)

/- THE SECOND FORM. 'bulk': how many values and letters a reading holds, each counted each time it is reached (what is shared counts as often as it is met; a slice's spare places count too). A statement '..UptoSaid' is the law's where the arguments, and the package variables that the reading takes, are together of bulk at most 1048576: NARROWER than '..Said'. Prove '..Said' where nothing that the law and all that it calls make is longer than what came in: it says more and counts as full. Else prove '..UptoSaid'. A law counts once. -/
mutual
def uptoBulk {H : Type} : DataW H → Nat
  | .lit (.string bytes) => bytes.length + 1
  | .lit _ => 1
  | .nil => 1
  | .ptr d => uptoBulk d + 1
  | .slice elems spare => uptoBulkAll elems + uptoBulkAll spare + 1
  | .agg parts => uptoBulkAll parts + 1
  | .iface _ d => uptoBulk d + 1
  | .map entries => uptoBulkEntries entries + 1
  | .held _ => 1
def uptoBulkAll {H : Type} : List (DataW H) → Nat
  | [] => 0
  | d :: r => uptoBulk d + uptoBulkAll r
def uptoBulkEntries {H : Type} : List (Lit × DataW H) → Nat
  | [] => 0
  | x :: r => uptoBulkEntry x + uptoBulkEntries r
def uptoBulkEntry {H : Type} : Lit × DataW H → Nat
  | (.string bytes, d) => bytes.length + uptoBulk d + 1
  | (_, d) => uptoBulk d + 1
 end
def uptoSmall : (H : Type) → List (DataW H) → Bool := fun _ ds => decide (uptoBulkAll ds ≤ 1048576)
def OpenSpec.upto (s : _root_.Go.ChangeSpec) : _root_.Go.OpenSpec := { _root_.Go.OpenSpec.ofChange s with cond := some uptoSmall }

/-- 'laws.FnExactConstants', WHERE WHAT IT READS IS OF BULK AT MOST 1048576: true; the input reads as it did. -/
def fnExactConstantsUptoRow : OpenClaim := { program := "ytmopkcfhplamhaa", sum := "ebb493ca2aa2e667e49e7204a5509744637025cfd2f046bde0e785b0e2eb2629", func := "loop.example/lanekernel/laws.FnExactConstants", spec := "fnExactConstants", apart := false, narrowed := true }
def FnExactConstantsUptoSaid : Prop := fnExactConstantsUptoRow.holds Try.pinned (OpenSpec.upto fnExactConstantsSpec)

/-- 'laws.FnExactMaskValid', WHERE WHAT IT READS IS OF BULK AT MOST 1048576: true; the input reads as it did. -/
def fnExactMaskValidUptoRow : OpenClaim := { program := "ytmopkcfhplamhaa", sum := "ebb493ca2aa2e667e49e7204a5509744637025cfd2f046bde0e785b0e2eb2629", func := "loop.example/lanekernel/laws.FnExactMaskValid", spec := "fnExactMaskValid", apart := false, narrowed := true }
def FnExactMaskValidUptoSaid : Prop := fnExactMaskValidUptoRow.holds Try.pinned (OpenSpec.upto fnExactMaskValidSpec)

/-- 'laws.FnExactMaskAll', WHERE WHAT IT READS IS OF BULK AT MOST 1048576: true; the input reads as it did. -/
def fnExactMaskAllUptoRow : OpenClaim := { program := "ytmopkcfhplamhaa", sum := "ebb493ca2aa2e667e49e7204a5509744637025cfd2f046bde0e785b0e2eb2629", func := "loop.example/lanekernel/laws.FnExactMaskAll", spec := "fnExactMaskAll", apart := false, narrowed := true }
def FnExactMaskAllUptoSaid : Prop := fnExactMaskAllUptoRow.holds Try.pinned (OpenSpec.upto fnExactMaskAllSpec)

/-- 'laws.FnExactWordAdd', WHERE WHAT IT READS IS OF BULK AT MOST 1048576: true; the input reads as it did. -/
def fnExactWordAddUptoRow : OpenClaim := { program := "ytmopkcfhplamhaa", sum := "ebb493ca2aa2e667e49e7204a5509744637025cfd2f046bde0e785b0e2eb2629", func := "loop.example/lanekernel/laws.FnExactWordAdd", spec := "fnExactWordAdd", apart := false, narrowed := true }
def FnExactWordAddUptoSaid : Prop := fnExactWordAddUptoRow.holds Try.pinned (OpenSpec.upto fnExactWordAddSpec)

/-- 'laws.FnExactWordMul', WHERE WHAT IT READS IS OF BULK AT MOST 1048576: true; the input reads as it did. -/
def fnExactWordMulUptoRow : OpenClaim := { program := "ytmopkcfhplamhaa", sum := "ebb493ca2aa2e667e49e7204a5509744637025cfd2f046bde0e785b0e2eb2629", func := "loop.example/lanekernel/laws.FnExactWordMul", spec := "fnExactWordMul", apart := false, narrowed := true }
def FnExactWordMulUptoSaid : Prop := fnExactWordMulUptoRow.holds Try.pinned (OpenSpec.upto fnExactWordMulSpec)

/-- 'laws.FnExactWordLess', WHERE WHAT IT READS IS OF BULK AT MOST 1048576: true; the input reads as it did. -/
def fnExactWordLessUptoRow : OpenClaim := { program := "ytmopkcfhplamhaa", sum := "ebb493ca2aa2e667e49e7204a5509744637025cfd2f046bde0e785b0e2eb2629", func := "loop.example/lanekernel/laws.FnExactWordLess", spec := "fnExactWordLess", apart := false, narrowed := true }
def FnExactWordLessUptoSaid : Prop := fnExactWordLessUptoRow.holds Try.pinned (OpenSpec.upto fnExactWordLessSpec)

/-- 'laws.FnExactMemoryValid', WHERE WHAT IT READS IS OF BULK AT MOST 1048576: true; the input reads as it did. -/
def fnExactMemoryValidUptoRow : OpenClaim := { program := "ytmopkcfhplamhaa", sum := "ebb493ca2aa2e667e49e7204a5509744637025cfd2f046bde0e785b0e2eb2629", func := "loop.example/lanekernel/laws.FnExactMemoryValid", spec := "fnExactMemoryValid", unfollowed := true, recurses := true, apart := false, narrowed := true }
def FnExactMemoryValidUptoSaid : Prop := fnExactMemoryValidUptoRow.holds Try.pinned (OpenSpec.upto fnExactMemoryValidSpec)

/-- 'laws.FnExactWordSum', WHERE WHAT IT READS IS OF BULK AT MOST 1048576: true; the input reads as it did. -/
def fnExactWordSumUptoRow : OpenClaim := { program := "ytmopkcfhplamhaa", sum := "ebb493ca2aa2e667e49e7204a5509744637025cfd2f046bde0e785b0e2eb2629", func := "loop.example/lanekernel/laws.FnExactWordSum", spec := "fnExactWordSum", apart := false, narrowed := true }
def FnExactWordSumUptoSaid : Prop := fnExactWordSumUptoRow.holds Try.pinned (OpenSpec.upto fnExactWordSumSpec)

/-- 'laws.FnExactMaskOf', WHERE WHAT IT READS IS OF BULK AT MOST 1048576: true; the input reads as it did. -/
def fnExactMaskOfUptoRow : OpenClaim := { program := "ytmopkcfhplamhaa", sum := "ebb493ca2aa2e667e49e7204a5509744637025cfd2f046bde0e785b0e2eb2629", func := "loop.example/lanekernel/laws.FnExactMaskOf", spec := "fnExactMaskOf", unfollowed := true, recurses := true, apart := false, narrowed := true }
def FnExactMaskOfUptoSaid : Prop := fnExactMaskOfUptoRow.holds Try.pinned (OpenSpec.upto fnExactMaskOfSpec)

/-- 'laws.FnExactNewLane', WHERE WHAT IT READS IS OF BULK AT MOST 1048576: true; the input reads as it did. -/
def fnExactNewLaneUptoRow : OpenClaim := { program := "ytmopkcfhplamhaa", sum := "ebb493ca2aa2e667e49e7204a5509744637025cfd2f046bde0e785b0e2eb2629", func := "loop.example/lanekernel/laws.FnExactNewLane", spec := "fnExactNewLane", apart := false, narrowed := true }
def FnExactNewLaneUptoSaid : Prop := fnExactNewLaneUptoRow.holds Try.pinned (OpenSpec.upto fnExactNewLaneSpec)

/-- 'laws.FnExactMaskLanes', WHERE WHAT IT READS IS OF BULK AT MOST 1048576: true; the input reads as it did. -/
def fnExactMaskLanesUptoRow : OpenClaim := { program := "ytmopkcfhplamhaa", sum := "ebb493ca2aa2e667e49e7204a5509744637025cfd2f046bde0e785b0e2eb2629", func := "loop.example/lanekernel/laws.FnExactMaskLanes", spec := "fnExactMaskLanes", apart := false, narrowed := true }
def FnExactMaskLanesUptoSaid : Prop := fnExactMaskLanesUptoRow.holds Try.pinned (OpenSpec.upto fnExactMaskLanesSpec)

/-- 'laws.FnExactMaskMany', WHERE WHAT IT READS IS OF BULK AT MOST 1048576: true; the input reads as it did. -/
def fnExactMaskManyUptoRow : OpenClaim := { program := "ytmopkcfhplamhaa", sum := "ebb493ca2aa2e667e49e7204a5509744637025cfd2f046bde0e785b0e2eb2629", func := "loop.example/lanekernel/laws.FnExactMaskMany", spec := "fnExactMaskMany", apart := false, narrowed := true }
def FnExactMaskManyUptoSaid : Prop := fnExactMaskManyUptoRow.holds Try.pinned (OpenSpec.upto fnExactMaskManySpec)

end Rows
end Go.Proofs.Ytmopkcfhplamhaa
