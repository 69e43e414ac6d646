/-
  No cell of these rows narrows 'for every input' (looked for: loops, veiled, ifaces, maps, wideKeys, modest, calm, conditions, laid).
  DERIVED. THE GIVEN ROWS OF THIS SEAT. 12 by the template 'for every input the law returns true; each argument reads behind the call as it read before'; 0 by the template 'total and deterministic' (their statements: YtgmaffoljdmkpaaTotals.lean).
  GIVEN WITH THE SEED: the statements are not yours to turn. If you find one false, say at which input.
  Laid BY PROGRAM, IN A SANDBOX (cutbox-rows.mjs): the forced cells as the released guide's own fill.sh prints them over the translation 3e3cb5133640859d… (all of the seat's roots in one cut). By AI agents, Wed Nov 11 2026. No macro, syntax, notation, axiom, sorry.
-/
import Derived.Test.YtgmaffoljdmkpaaChecked
import GoSem.Claim
import GoSem.ClaimJoined
import GoSem.ClaimMapViews
import Derived.JoinedTies
import Derived.KernelRfl
namespace Go.Proofs.Ytgmaffoljdmkpaa
/- THE CELL 'sum', in the pinned program and in every row, IS THE sha256 OF THE DUMP (.gsa) THAT YtgmaffoljdmkpaaProg.lean LOADS. Nothing in Lean hashes anything: it is a label: what it is worth is what the hold of that sum in a sandbox is worth. -/
noncomputable def Try.pinned : Pinned := { name := "ytgmaffoljdmkpaa", sum := "3e3cb5133640859d90c7e1597db7c53056e5f6981784df038a9ab6f2ec50543b", checked := Try.checked }
namespace Rows
def none {H : Type} : Left H := { results := [], args := [] }

/-- 'laws.FnMaskValid': WHATEVER THE INPUT: true; the input reads as it did. -/
def fnMaskValidSpec : ChangeSpec := { name := "fnMaskValid", fn := fun _ => fun
  | [d] => { results := [.lit (.bool true)], args := [d] }
  | _ => none }
def fnMaskValidRow : OpenClaim := { program := "ytgmaffoljdmkpaa", sum := "3e3cb5133640859d90c7e1597db7c53056e5f6981784df038a9ab6f2ec50543b", func := "loop.example/lanekernel/laws.FnMaskValid", spec := "fnMaskValid", apart := false }
def FnMaskValidSaid : Prop := fnMaskValidRow.holds Try.pinned (OpenSpec.ofChange fnMaskValidSpec)

/-- ITS FALSE NEIGHBOUR: 'it returns false'. Refute it at one input. -/
def fnMaskValidWrong : ChangeSpec := { name := "fnMaskValid", fn := fun _ => fun
  | [d] => { results := [.lit (.bool false)], args := [d] }
  | _ => none }
def FnMaskValidWrongFalsely : Prop := fnMaskValidRow.holds Try.pinned (OpenSpec.ofChange fnMaskValidWrong)

/-- 'laws.FnWordAdd': WHATEVER THE INPUT: true; the input reads as it did. -/
def fnWordAddSpec : ChangeSpec := { name := "fnWordAdd", fn := fun _ => fun
  | [d] => { results := [.lit (.bool true)], args := [d] }
  | _ => none }
def fnWordAddRow : OpenClaim := { program := "ytgmaffoljdmkpaa", sum := "3e3cb5133640859d90c7e1597db7c53056e5f6981784df038a9ab6f2ec50543b", func := "loop.example/lanekernel/laws.FnWordAdd", spec := "fnWordAdd", apart := false }
def FnWordAddSaid : Prop := fnWordAddRow.holds Try.pinned (OpenSpec.ofChange fnWordAddSpec)

/-- ITS FALSE NEIGHBOUR: 'it returns false'. Refute it at one input. -/
def fnWordAddWrong : ChangeSpec := { name := "fnWordAdd", fn := fun _ => fun
  | [d] => { results := [.lit (.bool false)], args := [d] }
  | _ => none }
def FnWordAddWrongFalsely : Prop := fnWordAddRow.holds Try.pinned (OpenSpec.ofChange fnWordAddWrong)

/-- 'laws.FnWordLess': WHATEVER THE INPUT: true; the input reads as it did. -/
def fnWordLessSpec : ChangeSpec := { name := "fnWordLess", fn := fun _ => fun
  | [d] => { results := [.lit (.bool true)], args := [d] }
  | _ => none }
def fnWordLessRow : OpenClaim := { program := "ytgmaffoljdmkpaa", sum := "3e3cb5133640859d90c7e1597db7c53056e5f6981784df038a9ab6f2ec50543b", func := "loop.example/lanekernel/laws.FnWordLess", spec := "fnWordLess", apart := false }
def FnWordLessSaid : Prop := fnWordLessRow.holds Try.pinned (OpenSpec.ofChange fnWordLessSpec)

/-- ITS FALSE NEIGHBOUR: 'it returns false'. Refute it at one input. -/
def fnWordLessWrong : ChangeSpec := { name := "fnWordLess", fn := fun _ => fun
  | [d] => { results := [.lit (.bool false)], args := [d] }
  | _ => none }
def FnWordLessWrongFalsely : Prop := fnWordLessRow.holds Try.pinned (OpenSpec.ofChange fnWordLessWrong)

/-- 'laws.FnWordMul': WHATEVER THE INPUT: true; the input reads as it did. -/
def fnWordMulSpec : ChangeSpec := { name := "fnWordMul", fn := fun _ => fun
  | [d] => { results := [.lit (.bool true)], args := [d] }
  | _ => none }
def fnWordMulRow : OpenClaim := { program := "ytgmaffoljdmkpaa", sum := "3e3cb5133640859d90c7e1597db7c53056e5f6981784df038a9ab6f2ec50543b", func := "loop.example/lanekernel/laws.FnWordMul", spec := "fnWordMul", apart := false }
def FnWordMulSaid : Prop := fnWordMulRow.holds Try.pinned (OpenSpec.ofChange fnWordMulSpec)

/-- ITS FALSE NEIGHBOUR: 'it returns false'. Refute it at one input. -/
def fnWordMulWrong : ChangeSpec := { name := "fnWordMul", fn := fun _ => fun
  | [d] => { results := [.lit (.bool false)], args := [d] }
  | _ => none }
def FnWordMulWrongFalsely : Prop := fnWordMulRow.holds Try.pinned (OpenSpec.ofChange fnWordMulWrong)

/-- 'laws.FnWordRing': WHATEVER THE INPUT: true; the input reads as it did. -/
def fnWordRingSpec : ChangeSpec := { name := "fnWordRing", fn := fun _ => fun
  | [d1, d2] => { results := [.lit (.bool true)], args := [d1, d2] }
  | _ => none }
def fnWordRingRow : OpenClaim := { program := "ytgmaffoljdmkpaa", sum := "3e3cb5133640859d90c7e1597db7c53056e5f6981784df038a9ab6f2ec50543b", func := "loop.example/lanekernel/laws.FnWordRing", spec := "fnWordRing", apart := false }
def FnWordRingSaid : Prop := fnWordRingRow.holds Try.pinned (OpenSpec.ofChange fnWordRingSpec)

/-- ITS FALSE NEIGHBOUR: 'it returns false'. Refute it at one input. -/
def fnWordRingWrong : ChangeSpec := { name := "fnWordRing", fn := fun _ => fun
  | [d1, d2] => { results := [.lit (.bool false)], args := [d1, d2] }
  | _ => none }
def FnWordRingWrongFalsely : Prop := fnWordRingRow.holds Try.pinned (OpenSpec.ofChange fnWordRingWrong)

/-- 'laws.FnMemoryValid': WHATEVER THE INPUT: true; the input reads as it did. -/
def fnMemoryValidSpec : ChangeSpec := { name := "fnMemoryValid", fn := fun _ => fun
  | [d] => { results := [.lit (.bool true)], args := [d] }
  | _ => none }
def fnMemoryValidRow : OpenClaim := { program := "ytgmaffoljdmkpaa", sum := "3e3cb5133640859d90c7e1597db7c53056e5f6981784df038a9ab6f2ec50543b", func := "loop.example/lanekernel/laws.FnMemoryValid", spec := "fnMemoryValid", unfollowed := true, recurses := true, apart := false }
def FnMemoryValidSaid : Prop := fnMemoryValidRow.holds Try.pinned (OpenSpec.ofChange fnMemoryValidSpec)

/-- ITS FALSE NEIGHBOUR: 'it returns false'. Refute it at one input. -/
def fnMemoryValidWrong : ChangeSpec := { name := "fnMemoryValid", fn := fun _ => fun
  | [d] => { results := [.lit (.bool false)], args := [d] }
  | _ => none }
def FnMemoryValidWrongFalsely : Prop := fnMemoryValidRow.holds Try.pinned (OpenSpec.ofChange fnMemoryValidWrong)

/-- 'laws.FnMaskUnion': WHATEVER THE INPUT: true; the input reads as it did. -/
def fnMaskUnionSpec : ChangeSpec := { name := "fnMaskUnion", fn := fun _ => fun
  | [d1, d2] => { results := [.lit (.bool true)], args := [d1, d2] }
  | _ => none }
def fnMaskUnionRow : OpenClaim := { program := "ytgmaffoljdmkpaa", sum := "3e3cb5133640859d90c7e1597db7c53056e5f6981784df038a9ab6f2ec50543b", func := "loop.example/lanekernel/laws.FnMaskUnion", spec := "fnMaskUnion", unfollowed := true, recurses := true, apart := false }
def FnMaskUnionSaid : Prop := fnMaskUnionRow.holds Try.pinned (OpenSpec.ofChange fnMaskUnionSpec)

/-- ITS FALSE NEIGHBOUR: 'it returns false'. Refute it at one input. -/
def fnMaskUnionWrong : ChangeSpec := { name := "fnMaskUnion", fn := fun _ => fun
  | [d1, d2] => { results := [.lit (.bool false)], args := [d1, d2] }
  | _ => none }
def FnMaskUnionWrongFalsely : Prop := fnMaskUnionRow.holds Try.pinned (OpenSpec.ofChange fnMaskUnionWrong)

/-- 'laws.FnWordSum': WHATEVER THE INPUT: true; the input reads as it did. -/
def fnWordSumSpec : ChangeSpec := { name := "fnWordSum", fn := fun _ => fun
  | [d] => { results := [.lit (.bool true)], args := [d] }
  | _ => none }
def fnWordSumRow : OpenClaim := { program := "ytgmaffoljdmkpaa", sum := "3e3cb5133640859d90c7e1597db7c53056e5f6981784df038a9ab6f2ec50543b", func := "loop.example/lanekernel/laws.FnWordSum", spec := "fnWordSum", apart := false }
def FnWordSumSaid : Prop := fnWordSumRow.holds Try.pinned (OpenSpec.ofChange fnWordSumSpec)

/-- ITS FALSE NEIGHBOUR: 'it returns false'. Refute it at one input. -/
def fnWordSumWrong : ChangeSpec := { name := "fnWordSum", fn := fun _ => fun
  | [d] => { results := [.lit (.bool false)], args := [d] }
  | _ => none }
def FnWordSumWrongFalsely : Prop := fnWordSumRow.holds Try.pinned (OpenSpec.ofChange fnWordSumWrong)

/-- 'laws.FnMaskAll': WHATEVER THE INPUT: true; the input reads as it did. -/
def fnMaskAllSpec : ChangeSpec := { name := "fnMaskAll", fn := fun _ => fun
  | [d] => { results := [.lit (.bool true)], args := [d] }
  | _ => none }
def fnMaskAllRow : OpenClaim := { program := "ytgmaffoljdmkpaa", sum := "3e3cb5133640859d90c7e1597db7c53056e5f6981784df038a9ab6f2ec50543b", func := "loop.example/lanekernel/laws.FnMaskAll", spec := "fnMaskAll", apart := false }
def FnMaskAllSaid : Prop := fnMaskAllRow.holds Try.pinned (OpenSpec.ofChange fnMaskAllSpec)

/-- ITS FALSE NEIGHBOUR: 'it returns false'. Refute it at one input. -/
def fnMaskAllWrong : ChangeSpec := { name := "fnMaskAll", fn := fun _ => fun
  | [d] => { results := [.lit (.bool false)], args := [d] }
  | _ => none }
def FnMaskAllWrongFalsely : Prop := fnMaskAllRow.holds Try.pinned (OpenSpec.ofChange fnMaskAllWrong)

/-- 'laws.FnMaskOf': WHATEVER THE INPUT: true; the input reads as it did. -/
def fnMaskOfSpec : ChangeSpec := { name := "fnMaskOf", fn := fun _ => fun
  | [d] => { results := [.lit (.bool true)], args := [d] }
  | _ => none }
def fnMaskOfRow : OpenClaim := { program := "ytgmaffoljdmkpaa", sum := "3e3cb5133640859d90c7e1597db7c53056e5f6981784df038a9ab6f2ec50543b", func := "loop.example/lanekernel/laws.FnMaskOf", spec := "fnMaskOf", unfollowed := true, recurses := true, apart := false }
def FnMaskOfSaid : Prop := fnMaskOfRow.holds Try.pinned (OpenSpec.ofChange fnMaskOfSpec)

/-- ITS FALSE NEIGHBOUR: 'it returns false'. Refute it at one input. -/
def fnMaskOfWrong : ChangeSpec := { name := "fnMaskOf", fn := fun _ => fun
  | [d] => { results := [.lit (.bool false)], args := [d] }
  | _ => none }
def FnMaskOfWrongFalsely : Prop := fnMaskOfRow.holds Try.pinned (OpenSpec.ofChange fnMaskOfWrong)

/-- 'laws.FnMaskLanes': WHATEVER THE INPUT: true; the input reads as it did. -/
def fnMaskLanesSpec : ChangeSpec := { name := "fnMaskLanes", fn := fun _ => fun
  | [d] => { results := [.lit (.bool true)], args := [d] }
  | _ => none }
def fnMaskLanesRow : OpenClaim := { program := "ytgmaffoljdmkpaa", sum := "3e3cb5133640859d90c7e1597db7c53056e5f6981784df038a9ab6f2ec50543b", func := "loop.example/lanekernel/laws.FnMaskLanes", spec := "fnMaskLanes", unfollowed := true, recurses := true, apart := false }
def FnMaskLanesSaid : Prop := fnMaskLanesRow.holds Try.pinned (OpenSpec.ofChange fnMaskLanesSpec)

/-- ITS FALSE NEIGHBOUR: 'it returns false'. Refute it at one input. -/
def fnMaskLanesWrong : ChangeSpec := { name := "fnMaskLanes", fn := fun _ => fun
  | [d] => { results := [.lit (.bool false)], args := [d] }
  | _ => none }
def FnMaskLanesWrongFalsely : Prop := fnMaskLanesRow.holds Try.pinned (OpenSpec.ofChange fnMaskLanesWrong)

/-- 'laws.FnMaskMany': WHATEVER THE INPUT: true; the input reads as it did. -/
def fnMaskManySpec : ChangeSpec := { name := "fnMaskMany", fn := fun _ => fun
  | [d] => { results := [.lit (.bool true)], args := [d] }
  | _ => none }
def fnMaskManyRow : OpenClaim := { program := "ytgmaffoljdmkpaa", sum := "3e3cb5133640859d90c7e1597db7c53056e5f6981784df038a9ab6f2ec50543b", func := "loop.example/lanekernel/laws.FnMaskMany", spec := "fnMaskMany", apart := false }
def FnMaskManySaid : Prop := fnMaskManyRow.holds Try.pinned (OpenSpec.ofChange fnMaskManySpec)

/-- ITS FALSE NEIGHBOUR: 'it returns false'. Refute it at one input. -/
def fnMaskManyWrong : ChangeSpec := { name := "fnMaskMany", fn := fun _ => fun
  | [d] => { results := [.lit (.bool false)], args := [d] }
  | _ => none }
def FnMaskManyWrongFalsely : Prop := fnMaskManyRow.holds Try.pinned (OpenSpec.ofChange fnMaskManyWrong)

/- THE SECOND FORM. 'bulk': how many values and letters a reading holds, each counted each time it is reached (what is shared counts as often as it is met; a slice's spare places count too). A statement '..UptoSaid' is the law's where the arguments, and the package variables that the reading takes, are together of bulk at most 1048576: NARROWER than '..Said'. Prove '..Said' where nothing that the law and all that it calls make is longer than what came in: it says more and counts as full. Else prove '..UptoSaid'. A law counts once. -/
mutual
def uptoBulk {H : Type} : DataW H → Nat
  | .lit (.string bytes) => bytes.length + 1
  | .lit _ => 1
  | .nil => 1
  | .ptr d => uptoBulk d + 1
  | .slice elems spare => uptoBulkAll elems + uptoBulkAll spare + 1
  | .agg parts => uptoBulkAll parts + 1
  | .iface _ d => uptoBulk d + 1
  | .map entries => uptoBulkEntries entries + 1
  | .held _ => 1
def uptoBulkAll {H : Type} : List (DataW H) → Nat
  | [] => 0
  | d :: r => uptoBulk d + uptoBulkAll r
def uptoBulkEntries {H : Type} : List (Lit × DataW H) → Nat
  | [] => 0
  | x :: r => uptoBulkEntry x + uptoBulkEntries r
def uptoBulkEntry {H : Type} : Lit × DataW H → Nat
  | (.string bytes, d) => bytes.length + uptoBulk d + 1
  | (_, d) => uptoBulk d + 1
 end
def uptoSmall : (H : Type) → List (DataW H) → Bool := fun _ ds => decide (uptoBulkAll ds ≤ 1048576)
def OpenSpec.upto (s : _root_.Go.ChangeSpec) : _root_.Go.OpenSpec := { _root_.Go.OpenSpec.ofChange s with cond := some uptoSmall }

/-- 'laws.FnMaskValid', WHERE WHAT IT READS IS OF BULK AT MOST 1048576: true; the input reads as it did. -/
def fnMaskValidUptoRow : OpenClaim := { program := "ytgmaffoljdmkpaa", sum := "3e3cb5133640859d90c7e1597db7c53056e5f6981784df038a9ab6f2ec50543b", func := "loop.example/lanekernel/laws.FnMaskValid", spec := "fnMaskValid", apart := false, narrowed := true }
def FnMaskValidUptoSaid : Prop := fnMaskValidUptoRow.holds Try.pinned (OpenSpec.upto fnMaskValidSpec)

/-- 'laws.FnWordAdd', WHERE WHAT IT READS IS OF BULK AT MOST 1048576: true; the input reads as it did. -/
def fnWordAddUptoRow : OpenClaim := { program := "ytgmaffoljdmkpaa", sum := "3e3cb5133640859d90c7e1597db7c53056e5f6981784df038a9ab6f2ec50543b", func := "loop.example/lanekernel/laws.FnWordAdd", spec := "fnWordAdd", apart := false, narrowed := true }
def FnWordAddUptoSaid : Prop := fnWordAddUptoRow.holds Try.pinned (OpenSpec.upto fnWordAddSpec)

/-- 'laws.FnWordLess', WHERE WHAT IT READS IS OF BULK AT MOST 1048576: true; the input reads as it did. -/
def fnWordLessUptoRow : OpenClaim := { program := "ytgmaffoljdmkpaa", sum := "3e3cb5133640859d90c7e1597db7c53056e5f6981784df038a9ab6f2ec50543b", func := "loop.example/lanekernel/laws.FnWordLess", spec := "fnWordLess", apart := false, narrowed := true }
def FnWordLessUptoSaid : Prop := fnWordLessUptoRow.holds Try.pinned (OpenSpec.upto fnWordLessSpec)

/-- 'laws.FnWordMul', WHERE WHAT IT READS IS OF BULK AT MOST 1048576: true; the input reads as it did. -/
def fnWordMulUptoRow : OpenClaim := { program := "ytgmaffoljdmkpaa", sum := "3e3cb5133640859d90c7e1597db7c53056e5f6981784df038a9ab6f2ec50543b", func := "loop.example/lanekernel/laws.FnWordMul", spec := "fnWordMul", apart := false, narrowed := true }
def FnWordMulUptoSaid : Prop := fnWordMulUptoRow.holds Try.pinned (OpenSpec.upto fnWordMulSpec)

/-- 'laws.FnWordRing', WHERE WHAT IT READS IS OF BULK AT MOST 1048576: true; the input reads as it did. -/
def fnWordRingUptoRow : OpenClaim := { program := "ytgmaffoljdmkpaa", sum := "3e3cb5133640859d90c7e1597db7c53056e5f6981784df038a9ab6f2ec50543b", func := "loop.example/lanekernel/laws.FnWordRing", spec := "fnWordRing", apart := false, narrowed := true }
def FnWordRingUptoSaid : Prop := fnWordRingUptoRow.holds Try.pinned (OpenSpec.upto fnWordRingSpec)

/-- 'laws.FnMemoryValid', WHERE WHAT IT READS IS OF BULK AT MOST 1048576: true; the input reads as it did. -/
def fnMemoryValidUptoRow : OpenClaim := { program := "ytgmaffoljdmkpaa", sum := "3e3cb5133640859d90c7e1597db7c53056e5f6981784df038a9ab6f2ec50543b", func := "loop.example/lanekernel/laws.FnMemoryValid", spec := "fnMemoryValid", unfollowed := true, recurses := true, apart := false, narrowed := true }
def FnMemoryValidUptoSaid : Prop := fnMemoryValidUptoRow.holds Try.pinned (OpenSpec.upto fnMemoryValidSpec)

/-- 'laws.FnMaskUnion', WHERE WHAT IT READS IS OF BULK AT MOST 1048576: true; the input reads as it did. -/
def fnMaskUnionUptoRow : OpenClaim := { program := "ytgmaffoljdmkpaa", sum := "3e3cb5133640859d90c7e1597db7c53056e5f6981784df038a9ab6f2ec50543b", func := "loop.example/lanekernel/laws.FnMaskUnion", spec := "fnMaskUnion", unfollowed := true, recurses := true, apart := false, narrowed := true }
def FnMaskUnionUptoSaid : Prop := fnMaskUnionUptoRow.holds Try.pinned (OpenSpec.upto fnMaskUnionSpec)

/-- 'laws.FnWordSum', WHERE WHAT IT READS IS OF BULK AT MOST 1048576: true; the input reads as it did. -/
def fnWordSumUptoRow : OpenClaim := { program := "ytgmaffoljdmkpaa", sum := "3e3cb5133640859d90c7e1597db7c53056e5f6981784df038a9ab6f2ec50543b", func := "loop.example/lanekernel/laws.FnWordSum", spec := "fnWordSum", apart := false, narrowed := true }
def FnWordSumUptoSaid : Prop := fnWordSumUptoRow.holds Try.pinned (OpenSpec.upto fnWordSumSpec)

/-- 'laws.FnMaskAll', WHERE WHAT IT READS IS OF BULK AT MOST 1048576: true; the input reads as it did. -/
def fnMaskAllUptoRow : OpenClaim := { program := "ytgmaffoljdmkpaa", sum := "3e3cb5133640859d90c7e1597db7c53056e5f6981784df038a9ab6f2ec50543b", func := "loop.example/lanekernel/laws.FnMaskAll", spec := "fnMaskAll", apart := false, narrowed := true }
def FnMaskAllUptoSaid : Prop := fnMaskAllUptoRow.holds Try.pinned (OpenSpec.upto fnMaskAllSpec)

/-- 'laws.FnMaskOf', WHERE WHAT IT READS IS OF BULK AT MOST 1048576: true; the input reads as it did. -/
def fnMaskOfUptoRow : OpenClaim := { program := "ytgmaffoljdmkpaa", sum := "3e3cb5133640859d90c7e1597db7c53056e5f6981784df038a9ab6f2ec50543b", func := "loop.example/lanekernel/laws.FnMaskOf", spec := "fnMaskOf", unfollowed := true, recurses := true, apart := false, narrowed := true }
def FnMaskOfUptoSaid : Prop := fnMaskOfUptoRow.holds Try.pinned (OpenSpec.upto fnMaskOfSpec)

/-- 'laws.FnMaskLanes', WHERE WHAT IT READS IS OF BULK AT MOST 1048576: true; the input reads as it did. -/
def fnMaskLanesUptoRow : OpenClaim := { program := "ytgmaffoljdmkpaa", sum := "3e3cb5133640859d90c7e1597db7c53056e5f6981784df038a9ab6f2ec50543b", func := "loop.example/lanekernel/laws.FnMaskLanes", spec := "fnMaskLanes", unfollowed := true, recurses := true, apart := false, narrowed := true }
def FnMaskLanesUptoSaid : Prop := fnMaskLanesUptoRow.holds Try.pinned (OpenSpec.upto fnMaskLanesSpec)

/-- 'laws.FnMaskMany', WHERE WHAT IT READS IS OF BULK AT MOST 1048576: true; the input reads as it did. -/
def fnMaskManyUptoRow : OpenClaim := { program := "ytgmaffoljdmkpaa", sum := "3e3cb5133640859d90c7e1597db7c53056e5f6981784df038a9ab6f2ec50543b", func := "loop.example/lanekernel/laws.FnMaskMany", spec := "fnMaskMany", apart := false, narrowed := true }
def FnMaskManyUptoSaid : Prop := fnMaskManyUptoRow.holds Try.pinned (OpenSpec.upto fnMaskManySpec)

end Rows
end Go.Proofs.Ytgmaffoljdmkpaa
