/-
  No cell of these rows narrows 'for every input' (looked for: loops, veiled, ifaces, maps, wideKeys, modest, calm, conditions, laid).
  DERIVED. THE GIVEN ROWS OF THIS SEAT. 12 by the template 'for every input the law returns true; each argument reads behind the call as it read before'; 0 by the template 'total and deterministic' (their statements: YtjipalpachcamaaTotals.lean).
  GIVEN WITH THE SEED: the statements are not yours to turn. If you find one false, say at which input.
  Laid BY PROGRAM, IN A SANDBOX (cutbox-rows.mjs): the forced cells as the released guide's own fill.sh prints them over the translation 93e73d4950256b99… (all of the seat's roots in one cut). By AI agents, Wed Nov 11 2026. No macro, syntax, notation, axiom, sorry.
-/
import Derived.Test.YtjipalpachcamaaChecked
import GoSem.Claim
import GoSem.ClaimJoined
import GoSem.ClaimMapViews
import Derived.JoinedTies
import Derived.KernelRfl
namespace Go.Proofs.Ytjipalpachcamaa
/- THE CELL 'sum', in the pinned program and in every row, IS THE sha256 OF THE DUMP (.gsa) THAT YtjipalpachcamaaProg.lean LOADS. Nothing in Lean hashes anything: it is a label: what it is worth is what the hold of that sum in a sandbox is worth. -/
noncomputable def Try.pinned : Pinned := { name := "ytjipalpachcamaa", sum := "93e73d4950256b99f7b629d1a3b604e456ac00e8efd04ad41fd342f4ad759d2e", checked := Try.checked }
namespace Rows
def none {H : Type} : Left H := { results := [], args := [] }

/-- 'laws.FnCodeValid': WHATEVER THE INPUT: true; the input reads as it did. -/
def fnCodeValidSpec : ChangeSpec := { name := "fnCodeValid", fn := fun _ => fun
  | [d] => { results := [.lit (.bool true)], args := [d] }
  | _ => none }
def fnCodeValidRow : OpenClaim := { program := "ytjipalpachcamaa", sum := "93e73d4950256b99f7b629d1a3b604e456ac00e8efd04ad41fd342f4ad759d2e", func := "loop.example/lanekernel/laws.FnCodeValid", spec := "fnCodeValid", apart := false }
def FnCodeValidSaid : Prop := fnCodeValidRow.holds Try.pinned (OpenSpec.ofChange fnCodeValidSpec)

/-- ITS FALSE NEIGHBOUR: 'it returns false'. Refute it at one input. -/
def fnCodeValidWrong : ChangeSpec := { name := "fnCodeValid", fn := fun _ => fun
  | [d] => { results := [.lit (.bool false)], args := [d] }
  | _ => none }
def FnCodeValidWrongFalsely : Prop := fnCodeValidRow.holds Try.pinned (OpenSpec.ofChange fnCodeValidWrong)

/-- 'laws.FnCodeNumber': WHATEVER THE INPUT: true; the input reads as it did. -/
def fnCodeNumberSpec : ChangeSpec := { name := "fnCodeNumber", fn := fun _ => fun
  | [d] => { results := [.lit (.bool true)], args := [d] }
  | _ => none }
def fnCodeNumberRow : OpenClaim := { program := "ytjipalpachcamaa", sum := "93e73d4950256b99f7b629d1a3b604e456ac00e8efd04ad41fd342f4ad759d2e", func := "loop.example/lanekernel/laws.FnCodeNumber", spec := "fnCodeNumber", apart := false }
def FnCodeNumberSaid : Prop := fnCodeNumberRow.holds Try.pinned (OpenSpec.ofChange fnCodeNumberSpec)

/-- ITS FALSE NEIGHBOUR: 'it returns false'. Refute it at one input. -/
def fnCodeNumberWrong : ChangeSpec := { name := "fnCodeNumber", fn := fun _ => fun
  | [d] => { results := [.lit (.bool false)], args := [d] }
  | _ => none }
def FnCodeNumberWrongFalsely : Prop := fnCodeNumberRow.holds Try.pinned (OpenSpec.ofChange fnCodeNumberWrong)

/-- 'laws.FnCodeFrom': WHATEVER THE INPUT: true; the input reads as it did. -/
def fnCodeFromSpec : ChangeSpec := { name := "fnCodeFrom", fn := fun _ => fun
  | [d] => { results := [.lit (.bool true)], args := [d] }
  | _ => none }
def fnCodeFromRow : OpenClaim := { program := "ytjipalpachcamaa", sum := "93e73d4950256b99f7b629d1a3b604e456ac00e8efd04ad41fd342f4ad759d2e", func := "loop.example/lanekernel/laws.FnCodeFrom", spec := "fnCodeFrom", apart := false }
def FnCodeFromSaid : Prop := fnCodeFromRow.holds Try.pinned (OpenSpec.ofChange fnCodeFromSpec)

/-- ITS FALSE NEIGHBOUR: 'it returns false'. Refute it at one input. -/
def fnCodeFromWrong : ChangeSpec := { name := "fnCodeFrom", fn := fun _ => fun
  | [d] => { results := [.lit (.bool false)], args := [d] }
  | _ => none }
def FnCodeFromWrongFalsely : Prop := fnCodeFromRow.holds Try.pinned (OpenSpec.ofChange fnCodeFromWrong)

/-- 'laws.FnProgramValid': WHATEVER THE INPUT: true; the input reads as it did. -/
def fnProgramValidSpec : ChangeSpec := { name := "fnProgramValid", fn := fun _ => fun
  | [d] => { results := [.lit (.bool true)], args := [d] }
  | _ => none }
def fnProgramValidRow : OpenClaim := { program := "ytjipalpachcamaa", sum := "93e73d4950256b99f7b629d1a3b604e456ac00e8efd04ad41fd342f4ad759d2e", func := "loop.example/lanekernel/laws.FnProgramValid", spec := "fnProgramValid", recurses := true, apart := false }
def FnProgramValidSaid : Prop := fnProgramValidRow.holds Try.pinned (OpenSpec.ofChange fnProgramValidSpec)

/-- ITS FALSE NEIGHBOUR: 'it returns false'. Refute it at one input. -/
def fnProgramValidWrong : ChangeSpec := { name := "fnProgramValid", fn := fun _ => fun
  | [d] => { results := [.lit (.bool false)], args := [d] }
  | _ => none }
def FnProgramValidWrongFalsely : Prop := fnProgramValidRow.holds Try.pinned (OpenSpec.ofChange fnProgramValidWrong)

/-- 'laws.FnCountOps': WHATEVER THE INPUT: true; the input reads as it did. -/
def fnCountOpsSpec : ChangeSpec := { name := "fnCountOps", fn := fun _ => fun
  | [d] => { results := [.lit (.bool true)], args := [d] }
  | _ => none }
def fnCountOpsRow : OpenClaim := { program := "ytjipalpachcamaa", sum := "93e73d4950256b99f7b629d1a3b604e456ac00e8efd04ad41fd342f4ad759d2e", func := "loop.example/lanekernel/laws.FnCountOps", spec := "fnCountOps", recurses := true, apart := false }
def FnCountOpsSaid : Prop := fnCountOpsRow.holds Try.pinned (OpenSpec.ofChange fnCountOpsSpec)

/-- ITS FALSE NEIGHBOUR: 'it returns false'. Refute it at one input. -/
def fnCountOpsWrong : ChangeSpec := { name := "fnCountOps", fn := fun _ => fun
  | [d] => { results := [.lit (.bool false)], args := [d] }
  | _ => none }
def FnCountOpsWrongFalsely : Prop := fnCountOpsRow.holds Try.pinned (OpenSpec.ofChange fnCountOpsWrong)

/-- 'laws.FnCountJoin': WHATEVER THE INPUT: true; the input reads as it did. -/
def fnCountJoinSpec : ChangeSpec := { name := "fnCountJoin", fn := fun _ => fun
  | [d1, d2] => { results := [.lit (.bool true)], args := [d1, d2] }
  | _ => none }
def fnCountJoinRow : OpenClaim := { program := "ytjipalpachcamaa", sum := "93e73d4950256b99f7b629d1a3b604e456ac00e8efd04ad41fd342f4ad759d2e", func := "loop.example/lanekernel/laws.FnCountJoin", spec := "fnCountJoin", recurses := true, apart := false }
def FnCountJoinSaid : Prop := fnCountJoinRow.holds Try.pinned (OpenSpec.ofChange fnCountJoinSpec)

/-- ITS FALSE NEIGHBOUR: 'it returns false'. Refute it at one input. -/
def fnCountJoinWrong : ChangeSpec := { name := "fnCountJoin", fn := fun _ => fun
  | [d1, d2] => { results := [.lit (.bool false)], args := [d1, d2] }
  | _ => none }
def FnCountJoinWrongFalsely : Prop := fnCountJoinRow.holds Try.pinned (OpenSpec.ofChange fnCountJoinWrong)

/-- 'laws.FnDepthWrap': WHATEVER THE INPUT: true; the input reads as it did. -/
def fnDepthWrapSpec : ChangeSpec := { name := "fnDepthWrap", fn := fun _ => fun
  | [d] => { results := [.lit (.bool true)], args := [d] }
  | _ => none }
def fnDepthWrapRow : OpenClaim := { program := "ytjipalpachcamaa", sum := "93e73d4950256b99f7b629d1a3b604e456ac00e8efd04ad41fd342f4ad759d2e", func := "loop.example/lanekernel/laws.FnDepthWrap", spec := "fnDepthWrap", recurses := true, apart := false }
def FnDepthWrapSaid : Prop := fnDepthWrapRow.holds Try.pinned (OpenSpec.ofChange fnDepthWrapSpec)

/-- ITS FALSE NEIGHBOUR: 'it returns false'. Refute it at one input. -/
def fnDepthWrapWrong : ChangeSpec := { name := "fnDepthWrap", fn := fun _ => fun
  | [d] => { results := [.lit (.bool false)], args := [d] }
  | _ => none }
def FnDepthWrapWrongFalsely : Prop := fnDepthWrapRow.holds Try.pinned (OpenSpec.ofChange fnDepthWrapWrong)

/-- 'laws.FnNewLane': WHATEVER THE INPUT: true; the input reads as it did. -/
def fnNewLaneSpec : ChangeSpec := { name := "fnNewLane", fn := fun _ => fun
  | [d] => { results := [.lit (.bool true)], args := [d] }
  | _ => none }
def fnNewLaneRow : OpenClaim := { program := "ytjipalpachcamaa", sum := "93e73d4950256b99f7b629d1a3b604e456ac00e8efd04ad41fd342f4ad759d2e", func := "loop.example/lanekernel/laws.FnNewLane", spec := "fnNewLane", unfollowed := true, recurses := true, apart := false }
def FnNewLaneSaid : Prop := fnNewLaneRow.holds Try.pinned (OpenSpec.ofChange fnNewLaneSpec)

/-- ITS FALSE NEIGHBOUR: 'it returns false'. Refute it at one input. -/
def fnNewLaneWrong : ChangeSpec := { name := "fnNewLane", fn := fun _ => fun
  | [d] => { results := [.lit (.bool false)], args := [d] }
  | _ => none }
def FnNewLaneWrongFalsely : Prop := fnNewLaneRow.holds Try.pinned (OpenSpec.ofChange fnNewLaneWrong)

/-- 'laws.FnDepthAt': WHATEVER THE INPUT: true; the input reads as it did. -/
def fnDepthAtSpec : ChangeSpec := { name := "fnDepthAt", fn := fun _ => fun
  | [d] => { results := [.lit (.bool true)], args := [d] }
  | _ => none }
def fnDepthAtRow : OpenClaim := { program := "ytjipalpachcamaa", sum := "93e73d4950256b99f7b629d1a3b604e456ac00e8efd04ad41fd342f4ad759d2e", func := "loop.example/lanekernel/laws.FnDepthAt", spec := "fnDepthAt", recurses := true, apart := false }
def FnDepthAtSaid : Prop := fnDepthAtRow.holds Try.pinned (OpenSpec.ofChange fnDepthAtSpec)

/-- ITS FALSE NEIGHBOUR: 'it returns false'. Refute it at one input. -/
def fnDepthAtWrong : ChangeSpec := { name := "fnDepthAt", fn := fun _ => fun
  | [d] => { results := [.lit (.bool false)], args := [d] }
  | _ => none }
def FnDepthAtWrongFalsely : Prop := fnDepthAtRow.holds Try.pinned (OpenSpec.ofChange fnDepthAtWrong)

/-- 'laws.FnBlockEnd': WHATEVER THE INPUT: true; the input reads as it did. -/
def fnBlockEndSpec : ChangeSpec := { name := "fnBlockEnd", fn := fun _ => fun
  | [d] => { results := [.lit (.bool true)], args := [d] }
  | _ => none }
def fnBlockEndRow : OpenClaim := { program := "ytjipalpachcamaa", sum := "93e73d4950256b99f7b629d1a3b604e456ac00e8efd04ad41fd342f4ad759d2e", func := "loop.example/lanekernel/laws.FnBlockEnd", spec := "fnBlockEnd", recurses := true, apart := false }
def FnBlockEndSaid : Prop := fnBlockEndRow.holds Try.pinned (OpenSpec.ofChange fnBlockEndSpec)

/-- ITS FALSE NEIGHBOUR: 'it returns false'. Refute it at one input. -/
def fnBlockEndWrong : ChangeSpec := { name := "fnBlockEnd", fn := fun _ => fun
  | [d] => { results := [.lit (.bool false)], args := [d] }
  | _ => none }
def FnBlockEndWrongFalsely : Prop := fnBlockEndRow.holds Try.pinned (OpenSpec.ofChange fnBlockEndWrong)

/-- 'laws.FnBlockAround': WHATEVER THE INPUT: true; the input reads as it did. -/
def fnBlockAroundSpec : ChangeSpec := { name := "fnBlockAround", fn := fun _ => fun
  | [d] => { results := [.lit (.bool true)], args := [d] }
  | _ => none }
def fnBlockAroundRow : OpenClaim := { program := "ytjipalpachcamaa", sum := "93e73d4950256b99f7b629d1a3b604e456ac00e8efd04ad41fd342f4ad759d2e", func := "loop.example/lanekernel/laws.FnBlockAround", spec := "fnBlockAround", recurses := true, apart := false }
def FnBlockAroundSaid : Prop := fnBlockAroundRow.holds Try.pinned (OpenSpec.ofChange fnBlockAroundSpec)

/-- ITS FALSE NEIGHBOUR: 'it returns false'. Refute it at one input. -/
def fnBlockAroundWrong : ChangeSpec := { name := "fnBlockAround", fn := fun _ => fun
  | [d] => { results := [.lit (.bool false)], args := [d] }
  | _ => none }
def FnBlockAroundWrongFalsely : Prop := fnBlockAroundRow.holds Try.pinned (OpenSpec.ofChange fnBlockAroundWrong)

/-- 'laws.FnLaneValid': WHATEVER THE INPUT: true; the input reads as it did. -/
def fnLaneValidSpec : ChangeSpec := { name := "fnLaneValid", fn := fun _ => fun
  | [d] => { results := [.lit (.bool true)], args := [d] }
  | _ => none }
def fnLaneValidRow : OpenClaim := { program := "ytjipalpachcamaa", sum := "93e73d4950256b99f7b629d1a3b604e456ac00e8efd04ad41fd342f4ad759d2e", func := "loop.example/lanekernel/laws.FnLaneValid", spec := "fnLaneValid", unfollowed := true, recurses := true, apart := false }
def FnLaneValidSaid : Prop := fnLaneValidRow.holds Try.pinned (OpenSpec.ofChange fnLaneValidSpec)

/-- ITS FALSE NEIGHBOUR: 'it returns false'. Refute it at one input. -/
def fnLaneValidWrong : ChangeSpec := { name := "fnLaneValid", fn := fun _ => fun
  | [d] => { results := [.lit (.bool false)], args := [d] }
  | _ => none }
def FnLaneValidWrongFalsely : Prop := fnLaneValidRow.holds Try.pinned (OpenSpec.ofChange fnLaneValidWrong)

/- THE SECOND FORM. 'bulk': how many values and letters a reading holds, each counted each time it is reached (what is shared counts as often as it is met; a slice's spare places count too). A statement '..UptoSaid' is the law's where the arguments, and the package variables that the reading takes, are together of bulk at most 1048576: NARROWER than '..Said'. Prove '..Said' where nothing that the law and all that it calls make is longer than what came in: it says more and counts as full. Else prove '..UptoSaid'. A law counts once. -/
mutual
def uptoBulk {H : Type} : DataW H → Nat
  | .lit (.string bytes) => bytes.length + 1
  | .lit _ => 1
  | .nil => 1
  | .ptr d => uptoBulk d + 1
  | .slice elems spare => uptoBulkAll elems + uptoBulkAll spare + 1
  | .agg parts => uptoBulkAll parts + 1
  | .iface _ d => uptoBulk d + 1
  | .map entries => uptoBulkEntries entries + 1
  | .held _ => 1
def uptoBulkAll {H : Type} : List (DataW H) → Nat
  | [] => 0
  | d :: r => uptoBulk d + uptoBulkAll r
def uptoBulkEntries {H : Type} : List (Lit × DataW H) → Nat
  | [] => 0
  | x :: r => uptoBulkEntry x + uptoBulkEntries r
def uptoBulkEntry {H : Type} : Lit × DataW H → Nat
  | (.string bytes, d) => bytes.length + uptoBulk d + 1
  | (_, d) => uptoBulk d + 1
 end
def uptoSmall : (H : Type) → List (DataW H) → Bool := fun _ ds => decide (uptoBulkAll ds ≤ 1048576)
def OpenSpec.upto (s : _root_.Go.ChangeSpec) : _root_.Go.OpenSpec := { _root_.Go.OpenSpec.ofChange s with cond := some uptoSmall }

/-- 'laws.FnCodeValid', WHERE WHAT IT READS IS OF BULK AT MOST 1048576: true; the input reads as it did. -/
def fnCodeValidUptoRow : OpenClaim := { program := "ytjipalpachcamaa", sum := "93e73d4950256b99f7b629d1a3b604e456ac00e8efd04ad41fd342f4ad759d2e", func := "loop.example/lanekernel/laws.FnCodeValid", spec := "fnCodeValid", apart := false, narrowed := true }
def FnCodeValidUptoSaid : Prop := fnCodeValidUptoRow.holds Try.pinned (OpenSpec.upto fnCodeValidSpec)

/-- 'laws.FnCodeNumber', WHERE WHAT IT READS IS OF BULK AT MOST 1048576: true; the input reads as it did. -/
def fnCodeNumberUptoRow : OpenClaim := { program := "ytjipalpachcamaa", sum := "93e73d4950256b99f7b629d1a3b604e456ac00e8efd04ad41fd342f4ad759d2e", func := "loop.example/lanekernel/laws.FnCodeNumber", spec := "fnCodeNumber", apart := false, narrowed := true }
def FnCodeNumberUptoSaid : Prop := fnCodeNumberUptoRow.holds Try.pinned (OpenSpec.upto fnCodeNumberSpec)

/-- 'laws.FnCodeFrom', WHERE WHAT IT READS IS OF BULK AT MOST 1048576: true; the input reads as it did. -/
def fnCodeFromUptoRow : OpenClaim := { program := "ytjipalpachcamaa", sum := "93e73d4950256b99f7b629d1a3b604e456ac00e8efd04ad41fd342f4ad759d2e", func := "loop.example/lanekernel/laws.FnCodeFrom", spec := "fnCodeFrom", apart := false, narrowed := true }
def FnCodeFromUptoSaid : Prop := fnCodeFromUptoRow.holds Try.pinned (OpenSpec.upto fnCodeFromSpec)

/-- 'laws.FnProgramValid', WHERE WHAT IT READS IS OF BULK AT MOST 1048576: true; the input reads as it did. -/
def fnProgramValidUptoRow : OpenClaim := { program := "ytjipalpachcamaa", sum := "93e73d4950256b99f7b629d1a3b604e456ac00e8efd04ad41fd342f4ad759d2e", func := "loop.example/lanekernel/laws.FnProgramValid", spec := "fnProgramValid", recurses := true, apart := false, narrowed := true }
def FnProgramValidUptoSaid : Prop := fnProgramValidUptoRow.holds Try.pinned (OpenSpec.upto fnProgramValidSpec)

/-- 'laws.FnCountOps', WHERE WHAT IT READS IS OF BULK AT MOST 1048576: true; the input reads as it did. -/
def fnCountOpsUptoRow : OpenClaim := { program := "ytjipalpachcamaa", sum := "93e73d4950256b99f7b629d1a3b604e456ac00e8efd04ad41fd342f4ad759d2e", func := "loop.example/lanekernel/laws.FnCountOps", spec := "fnCountOps", recurses := true, apart := false, narrowed := true }
def FnCountOpsUptoSaid : Prop := fnCountOpsUptoRow.holds Try.pinned (OpenSpec.upto fnCountOpsSpec)

/-- 'laws.FnCountJoin', WHERE WHAT IT READS IS OF BULK AT MOST 1048576: true; the input reads as it did. -/
def fnCountJoinUptoRow : OpenClaim := { program := "ytjipalpachcamaa", sum := "93e73d4950256b99f7b629d1a3b604e456ac00e8efd04ad41fd342f4ad759d2e", func := "loop.example/lanekernel/laws.FnCountJoin", spec := "fnCountJoin", recurses := true, apart := false, narrowed := true }
def FnCountJoinUptoSaid : Prop := fnCountJoinUptoRow.holds Try.pinned (OpenSpec.upto fnCountJoinSpec)

/-- 'laws.FnDepthWrap', WHERE WHAT IT READS IS OF BULK AT MOST 1048576: true; the input reads as it did. -/
def fnDepthWrapUptoRow : OpenClaim := { program := "ytjipalpachcamaa", sum := "93e73d4950256b99f7b629d1a3b604e456ac00e8efd04ad41fd342f4ad759d2e", func := "loop.example/lanekernel/laws.FnDepthWrap", spec := "fnDepthWrap", recurses := true, apart := false, narrowed := true }
def FnDepthWrapUptoSaid : Prop := fnDepthWrapUptoRow.holds Try.pinned (OpenSpec.upto fnDepthWrapSpec)

/-- 'laws.FnNewLane', WHERE WHAT IT READS IS OF BULK AT MOST 1048576: true; the input reads as it did. -/
def fnNewLaneUptoRow : OpenClaim := { program := "ytjipalpachcamaa", sum := "93e73d4950256b99f7b629d1a3b604e456ac00e8efd04ad41fd342f4ad759d2e", func := "loop.example/lanekernel/laws.FnNewLane", spec := "fnNewLane", unfollowed := true, recurses := true, apart := false, narrowed := true }
def FnNewLaneUptoSaid : Prop := fnNewLaneUptoRow.holds Try.pinned (OpenSpec.upto fnNewLaneSpec)

/-- 'laws.FnDepthAt', WHERE WHAT IT READS IS OF BULK AT MOST 1048576: true; the input reads as it did. -/
def fnDepthAtUptoRow : OpenClaim := { program := "ytjipalpachcamaa", sum := "93e73d4950256b99f7b629d1a3b604e456ac00e8efd04ad41fd342f4ad759d2e", func := "loop.example/lanekernel/laws.FnDepthAt", spec := "fnDepthAt", recurses := true, apart := false, narrowed := true }
def FnDepthAtUptoSaid : Prop := fnDepthAtUptoRow.holds Try.pinned (OpenSpec.upto fnDepthAtSpec)

/-- 'laws.FnBlockEnd', WHERE WHAT IT READS IS OF BULK AT MOST 1048576: true; the input reads as it did. -/
def fnBlockEndUptoRow : OpenClaim := { program := "ytjipalpachcamaa", sum := "93e73d4950256b99f7b629d1a3b604e456ac00e8efd04ad41fd342f4ad759d2e", func := "loop.example/lanekernel/laws.FnBlockEnd", spec := "fnBlockEnd", recurses := true, apart := false, narrowed := true }
def FnBlockEndUptoSaid : Prop := fnBlockEndUptoRow.holds Try.pinned (OpenSpec.upto fnBlockEndSpec)

/-- 'laws.FnBlockAround', WHERE WHAT IT READS IS OF BULK AT MOST 1048576: true; the input reads as it did. -/
def fnBlockAroundUptoRow : OpenClaim := { program := "ytjipalpachcamaa", sum := "93e73d4950256b99f7b629d1a3b604e456ac00e8efd04ad41fd342f4ad759d2e", func := "loop.example/lanekernel/laws.FnBlockAround", spec := "fnBlockAround", recurses := true, apart := false, narrowed := true }
def FnBlockAroundUptoSaid : Prop := fnBlockAroundUptoRow.holds Try.pinned (OpenSpec.upto fnBlockAroundSpec)

/-- 'laws.FnLaneValid', WHERE WHAT IT READS IS OF BULK AT MOST 1048576: true; the input reads as it did. -/
def fnLaneValidUptoRow : OpenClaim := { program := "ytjipalpachcamaa", sum := "93e73d4950256b99f7b629d1a3b604e456ac00e8efd04ad41fd342f4ad759d2e", func := "loop.example/lanekernel/laws.FnLaneValid", spec := "fnLaneValid", unfollowed := true, recurses := true, apart := false, narrowed := true }
def FnLaneValidUptoSaid : Prop := fnLaneValidUptoRow.holds Try.pinned (OpenSpec.upto fnLaneValidSpec)

end Rows
end Go.Proofs.Ytjipalpachcamaa
