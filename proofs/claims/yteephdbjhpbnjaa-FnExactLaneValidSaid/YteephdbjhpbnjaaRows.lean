/-
  No cell of these rows narrows 'for every input' (looked for: loops, veiled, ifaces, maps, wideKeys, modest, calm, conditions, laid).
  DERIVED. THE GIVEN ROWS OF THIS SEAT. 11 by the template 'for every input the law returns true; each argument reads behind the call as it read before'; 0 by the template 'total and deterministic' (their statements: YteephdbjhpbnjaaTotals.lean).
  GIVEN WITH THE SEED: the statements are not yours to turn. If you find one false, say at which input.
  Laid BY PROGRAM, IN A SANDBOX (cutbox-rows.mjs): the forced cells as the released guide's own fill.sh prints them over the translation 3f376f32e0a0c98a… (all of the seat's roots in one cut). By AI agents, Wed Nov 11 2026. No macro, syntax, notation, axiom, sorry.
-/
import Derived.Test.YteephdbjhpbnjaaChecked
import GoSem.Claim
import GoSem.ClaimJoined
import GoSem.ClaimMapViews
import Derived.JoinedTies
import Derived.KernelRfl
namespace Go.Proofs.Yteephdbjhpbnjaa
/- THE CELL 'sum', in the pinned program and in every row, IS THE sha256 OF THE DUMP (.gsa) THAT YteephdbjhpbnjaaProg.lean LOADS. Nothing in Lean hashes anything: it is a label: what it is worth is what the hold of that sum in a sandbox is worth. -/
noncomputable def Try.pinned : Pinned := { name := "yteephdbjhpbnjaa", sum := "3f376f32e0a0c98a5eb5f543410e0695596a2c338fd8f4147ede5af4ff716b2a", checked := Try.checked }
namespace Rows
def none {H : Type} : Left H := { results := [], args := [] }

/-- 'laws.FnExactCodeValid': WHATEVER THE INPUT: true; the input reads as it did. -/
def fnExactCodeValidSpec : ChangeSpec := { name := "fnExactCodeValid", fn := fun _ => fun
  | [d] => { results := [.lit (.bool true)], args := [d] }
  | _ => none }
def fnExactCodeValidRow : OpenClaim := { program := "yteephdbjhpbnjaa", sum := "3f376f32e0a0c98a5eb5f543410e0695596a2c338fd8f4147ede5af4ff716b2a", func := "loop.example/lanekernel/laws.FnExactCodeValid", spec := "fnExactCodeValid", apart := false }
def FnExactCodeValidSaid : Prop := fnExactCodeValidRow.holds Try.pinned (OpenSpec.ofChange fnExactCodeValidSpec)

/-- ITS FALSE NEIGHBOUR: 'it returns false'. Refute it at one input. -/
def fnExactCodeValidWrong : ChangeSpec := { name := "fnExactCodeValid", fn := fun _ => fun
  | [d] => { results := [.lit (.bool false)], args := [d] }
  | _ => none }
def FnExactCodeValidWrongFalsely : Prop := fnExactCodeValidRow.holds Try.pinned (OpenSpec.ofChange fnExactCodeValidWrong)

/-- 'laws.FnExactCodeNumber': WHATEVER THE INPUT: true; the input reads as it did. -/
def fnExactCodeNumberSpec : ChangeSpec := { name := "fnExactCodeNumber", fn := fun _ => fun
  | [d] => { results := [.lit (.bool true)], args := [d] }
  | _ => none }
def fnExactCodeNumberRow : OpenClaim := { program := "yteephdbjhpbnjaa", sum := "3f376f32e0a0c98a5eb5f543410e0695596a2c338fd8f4147ede5af4ff716b2a", func := "loop.example/lanekernel/laws.FnExactCodeNumber", spec := "fnExactCodeNumber", apart := false }
def FnExactCodeNumberSaid : Prop := fnExactCodeNumberRow.holds Try.pinned (OpenSpec.ofChange fnExactCodeNumberSpec)

/-- ITS FALSE NEIGHBOUR: 'it returns false'. Refute it at one input. -/
def fnExactCodeNumberWrong : ChangeSpec := { name := "fnExactCodeNumber", fn := fun _ => fun
  | [d] => { results := [.lit (.bool false)], args := [d] }
  | _ => none }
def FnExactCodeNumberWrongFalsely : Prop := fnExactCodeNumberRow.holds Try.pinned (OpenSpec.ofChange fnExactCodeNumberWrong)

/-- 'laws.FnExactCodeWrites': WHATEVER THE INPUT: true; the input reads as it did. -/
def fnExactCodeWritesSpec : ChangeSpec := { name := "fnExactCodeWrites", fn := fun _ => fun
  | [d] => { results := [.lit (.bool true)], args := [d] }
  | _ => none }
def fnExactCodeWritesRow : OpenClaim := { program := "yteephdbjhpbnjaa", sum := "3f376f32e0a0c98a5eb5f543410e0695596a2c338fd8f4147ede5af4ff716b2a", func := "loop.example/lanekernel/laws.FnExactCodeWrites", spec := "fnExactCodeWrites", apart := false }
def FnExactCodeWritesSaid : Prop := fnExactCodeWritesRow.holds Try.pinned (OpenSpec.ofChange fnExactCodeWritesSpec)

/-- ITS FALSE NEIGHBOUR: 'it returns false'. Refute it at one input. -/
def fnExactCodeWritesWrong : ChangeSpec := { name := "fnExactCodeWrites", fn := fun _ => fun
  | [d] => { results := [.lit (.bool false)], args := [d] }
  | _ => none }
def FnExactCodeWritesWrongFalsely : Prop := fnExactCodeWritesRow.holds Try.pinned (OpenSpec.ofChange fnExactCodeWritesWrong)

/-- 'laws.FnExactCodeFrom': WHATEVER THE INPUT: true; the input reads as it did. -/
def fnExactCodeFromSpec : ChangeSpec := { name := "fnExactCodeFrom", fn := fun _ => fun
  | [d] => { results := [.lit (.bool true)], args := [d] }
  | _ => none }
def fnExactCodeFromRow : OpenClaim := { program := "yteephdbjhpbnjaa", sum := "3f376f32e0a0c98a5eb5f543410e0695596a2c338fd8f4147ede5af4ff716b2a", func := "loop.example/lanekernel/laws.FnExactCodeFrom", spec := "fnExactCodeFrom", apart := false }
def FnExactCodeFromSaid : Prop := fnExactCodeFromRow.holds Try.pinned (OpenSpec.ofChange fnExactCodeFromSpec)

/-- ITS FALSE NEIGHBOUR: 'it returns false'. Refute it at one input. -/
def fnExactCodeFromWrong : ChangeSpec := { name := "fnExactCodeFrom", fn := fun _ => fun
  | [d] => { results := [.lit (.bool false)], args := [d] }
  | _ => none }
def FnExactCodeFromWrongFalsely : Prop := fnExactCodeFromRow.holds Try.pinned (OpenSpec.ofChange fnExactCodeFromWrong)

/-- 'laws.FnExactCodeReads': WHATEVER THE INPUT: true; the input reads as it did. -/
def fnExactCodeReadsSpec : ChangeSpec := { name := "fnExactCodeReads", fn := fun _ => fun
  | [d] => { results := [.lit (.bool true)], args := [d] }
  | _ => none }
def fnExactCodeReadsRow : OpenClaim := { program := "yteephdbjhpbnjaa", sum := "3f376f32e0a0c98a5eb5f543410e0695596a2c338fd8f4147ede5af4ff716b2a", func := "loop.example/lanekernel/laws.FnExactCodeReads", spec := "fnExactCodeReads", apart := false }
def FnExactCodeReadsSaid : Prop := fnExactCodeReadsRow.holds Try.pinned (OpenSpec.ofChange fnExactCodeReadsSpec)

/-- ITS FALSE NEIGHBOUR: 'it returns false'. Refute it at one input. -/
def fnExactCodeReadsWrong : ChangeSpec := { name := "fnExactCodeReads", fn := fun _ => fun
  | [d] => { results := [.lit (.bool false)], args := [d] }
  | _ => none }
def FnExactCodeReadsWrongFalsely : Prop := fnExactCodeReadsRow.holds Try.pinned (OpenSpec.ofChange fnExactCodeReadsWrong)

/-- 'laws.FnExactProgramValid': WHATEVER THE INPUT: true; the input reads as it did. -/
def fnExactProgramValidSpec : ChangeSpec := { name := "fnExactProgramValid", fn := fun _ => fun
  | [d] => { results := [.lit (.bool true)], args := [d] }
  | _ => none }
def fnExactProgramValidRow : OpenClaim := { program := "yteephdbjhpbnjaa", sum := "3f376f32e0a0c98a5eb5f543410e0695596a2c338fd8f4147ede5af4ff716b2a", func := "loop.example/lanekernel/laws.FnExactProgramValid", spec := "fnExactProgramValid", apart := false }
def FnExactProgramValidSaid : Prop := fnExactProgramValidRow.holds Try.pinned (OpenSpec.ofChange fnExactProgramValidSpec)

/-- ITS FALSE NEIGHBOUR: 'it returns false'. Refute it at one input. -/
def fnExactProgramValidWrong : ChangeSpec := { name := "fnExactProgramValid", fn := fun _ => fun
  | [d] => { results := [.lit (.bool false)], args := [d] }
  | _ => none }
def FnExactProgramValidWrongFalsely : Prop := fnExactProgramValidRow.holds Try.pinned (OpenSpec.ofChange fnExactProgramValidWrong)

/-- 'laws.FnExactCountOps': WHATEVER THE INPUT: true; the input reads as it did. -/
def fnExactCountOpsSpec : ChangeSpec := { name := "fnExactCountOps", fn := fun _ => fun
  | [d1, d2] => { results := [.lit (.bool true)], args := [d1, d2] }
  | _ => none }
def fnExactCountOpsRow : OpenClaim := { program := "yteephdbjhpbnjaa", sum := "3f376f32e0a0c98a5eb5f543410e0695596a2c338fd8f4147ede5af4ff716b2a", func := "loop.example/lanekernel/laws.FnExactCountOps", spec := "fnExactCountOps", apart := false }
def FnExactCountOpsSaid : Prop := fnExactCountOpsRow.holds Try.pinned (OpenSpec.ofChange fnExactCountOpsSpec)

/-- ITS FALSE NEIGHBOUR: 'it returns false'. Refute it at one input. -/
def fnExactCountOpsWrong : ChangeSpec := { name := "fnExactCountOps", fn := fun _ => fun
  | [d1, d2] => { results := [.lit (.bool false)], args := [d1, d2] }
  | _ => none }
def FnExactCountOpsWrongFalsely : Prop := fnExactCountOpsRow.holds Try.pinned (OpenSpec.ofChange fnExactCountOpsWrong)

/-- 'laws.FnExactBlockAround': WHATEVER THE INPUT: true; the input reads as it did. -/
def fnExactBlockAroundSpec : ChangeSpec := { name := "fnExactBlockAround", fn := fun _ => fun
  | [d1, d2] => { results := [.lit (.bool true)], args := [d1, d2] }
  | _ => none }
def fnExactBlockAroundRow : OpenClaim := { program := "yteephdbjhpbnjaa", sum := "3f376f32e0a0c98a5eb5f543410e0695596a2c338fd8f4147ede5af4ff716b2a", func := "loop.example/lanekernel/laws.FnExactBlockAround", spec := "fnExactBlockAround", apart := false }
def FnExactBlockAroundSaid : Prop := fnExactBlockAroundRow.holds Try.pinned (OpenSpec.ofChange fnExactBlockAroundSpec)

/-- ITS FALSE NEIGHBOUR: 'it returns false'. Refute it at one input. -/
def fnExactBlockAroundWrong : ChangeSpec := { name := "fnExactBlockAround", fn := fun _ => fun
  | [d1, d2] => { results := [.lit (.bool false)], args := [d1, d2] }
  | _ => none }
def FnExactBlockAroundWrongFalsely : Prop := fnExactBlockAroundRow.holds Try.pinned (OpenSpec.ofChange fnExactBlockAroundWrong)

/-- 'laws.FnExactDepthAt': WHATEVER THE INPUT: true; the input reads as it did. -/
def fnExactDepthAtSpec : ChangeSpec := { name := "fnExactDepthAt", fn := fun _ => fun
  | [d1, d2] => { results := [.lit (.bool true)], args := [d1, d2] }
  | _ => none }
def fnExactDepthAtRow : OpenClaim := { program := "yteephdbjhpbnjaa", sum := "3f376f32e0a0c98a5eb5f543410e0695596a2c338fd8f4147ede5af4ff716b2a", func := "loop.example/lanekernel/laws.FnExactDepthAt", spec := "fnExactDepthAt", apart := false }
def FnExactDepthAtSaid : Prop := fnExactDepthAtRow.holds Try.pinned (OpenSpec.ofChange fnExactDepthAtSpec)

/-- ITS FALSE NEIGHBOUR: 'it returns false'. Refute it at one input. -/
def fnExactDepthAtWrong : ChangeSpec := { name := "fnExactDepthAt", fn := fun _ => fun
  | [d1, d2] => { results := [.lit (.bool false)], args := [d1, d2] }
  | _ => none }
def FnExactDepthAtWrongFalsely : Prop := fnExactDepthAtRow.holds Try.pinned (OpenSpec.ofChange fnExactDepthAtWrong)

/-- 'laws.FnExactBlockEnd': WHATEVER THE INPUT: true; the input reads as it did. -/
def fnExactBlockEndSpec : ChangeSpec := { name := "fnExactBlockEnd", fn := fun _ => fun
  | [d1, d2] => { results := [.lit (.bool true)], args := [d1, d2] }
  | _ => none }
def fnExactBlockEndRow : OpenClaim := { program := "yteephdbjhpbnjaa", sum := "3f376f32e0a0c98a5eb5f543410e0695596a2c338fd8f4147ede5af4ff716b2a", func := "loop.example/lanekernel/laws.FnExactBlockEnd", spec := "fnExactBlockEnd", apart := false }
def FnExactBlockEndSaid : Prop := fnExactBlockEndRow.holds Try.pinned (OpenSpec.ofChange fnExactBlockEndSpec)

/-- ITS FALSE NEIGHBOUR: 'it returns false'. Refute it at one input. -/
def fnExactBlockEndWrong : ChangeSpec := { name := "fnExactBlockEnd", fn := fun _ => fun
  | [d1, d2] => { results := [.lit (.bool false)], args := [d1, d2] }
  | _ => none }
def FnExactBlockEndWrongFalsely : Prop := fnExactBlockEndRow.holds Try.pinned (OpenSpec.ofChange fnExactBlockEndWrong)

/-- 'laws.FnExactLaneValid': WHATEVER THE INPUT: true; the input reads as it did. -/
def fnExactLaneValidSpec : ChangeSpec := { name := "fnExactLaneValid", fn := fun _ => fun
  | [d1, d2] => { results := [.lit (.bool true)], args := [d1, d2] }
  | _ => none }
def fnExactLaneValidRow : OpenClaim := { program := "yteephdbjhpbnjaa", sum := "3f376f32e0a0c98a5eb5f543410e0695596a2c338fd8f4147ede5af4ff716b2a", func := "loop.example/lanekernel/laws.FnExactLaneValid", spec := "fnExactLaneValid", unfollowed := true, recurses := true, apart := false }
def FnExactLaneValidSaid : Prop := fnExactLaneValidRow.holds Try.pinned (OpenSpec.ofChange fnExactLaneValidSpec)

/-- ITS FALSE NEIGHBOUR: 'it returns false'. Refute it at one input. -/
def fnExactLaneValidWrong : ChangeSpec := { name := "fnExactLaneValid", fn := fun _ => fun
  | [d1, d2] => { results := [.lit (.bool false)], args := [d1, d2] }
  | _ => none }
def FnExactLaneValidWrongFalsely : Prop := fnExactLaneValidRow.holds Try.pinned (OpenSpec.ofChange fnExactLaneValidWrong)

/- THE SECOND FORM. 'bulk': how many values and letters a reading holds, each counted each time it is reached (what is shared counts as often as it is met; a slice's spare places count too). A statement '..UptoSaid' is the law's where the arguments, and the package variables that the reading takes, are together of bulk at most 1048576: NARROWER than '..Said'. Prove '..Said' where nothing that the law and all that it calls make is longer than what came in: it says more and counts as full. Else prove '..UptoSaid'. A law counts once. -/
mutual
def uptoBulk {H : Type} : DataW H → Nat
  | .lit (.string bytes) => bytes.length + 1
  | .lit _ => 1
  | .nil => 1
  | .ptr d => uptoBulk d + 1
  | .slice elems spare => uptoBulkAll elems + uptoBulkAll spare + 1
  | .agg parts => uptoBulkAll parts + 1
  | .iface _ d => uptoBulk d + 1
  | .map entries => uptoBulkEntries entries + 1
  | .held _ => 1
def uptoBulkAll {H : Type} : List (DataW H) → Nat
  | [] => 0
  | d :: r => uptoBulk d + uptoBulkAll r
def uptoBulkEntries {H : Type} : List (Lit × DataW H) → Nat
  | [] => 0
  | x :: r => uptoBulkEntry x + uptoBulkEntries r
def uptoBulkEntry {H : Type} : Lit × DataW H → Nat
  | (.string bytes, d) => bytes.length + uptoBulk d + 1
  | (_, d) => uptoBulk d + 1
 end
def uptoSmall : (H : Type) → List (DataW H) → Bool := fun _ ds => decide (uptoBulkAll ds ≤ 1048576)
def OpenSpec.upto (s : _root_.Go.ChangeSpec) : _root_.Go.OpenSpec := { _root_.Go.OpenSpec.ofChange s with cond := some uptoSmall }

/-- 'laws.FnExactCodeValid', WHERE WHAT IT READS IS OF BULK AT MOST 1048576: true; the input reads as it did. -/
def fnExactCodeValidUptoRow : OpenClaim := { program := "yteephdbjhpbnjaa", sum := "3f376f32e0a0c98a5eb5f543410e0695596a2c338fd8f4147ede5af4ff716b2a", func := "loop.example/lanekernel/laws.FnExactCodeValid", spec := "fnExactCodeValid", apart := false, narrowed := true }
def FnExactCodeValidUptoSaid : Prop := fnExactCodeValidUptoRow.holds Try.pinned (OpenSpec.upto fnExactCodeValidSpec)

/-- 'laws.FnExactCodeNumber', WHERE WHAT IT READS IS OF BULK AT MOST 1048576: true; the input reads as it did. -/
def fnExactCodeNumberUptoRow : OpenClaim := { program := "yteephdbjhpbnjaa", sum := "3f376f32e0a0c98a5eb5f543410e0695596a2c338fd8f4147ede5af4ff716b2a", func := "loop.example/lanekernel/laws.FnExactCodeNumber", spec := "fnExactCodeNumber", apart := false, narrowed := true }
def FnExactCodeNumberUptoSaid : Prop := fnExactCodeNumberUptoRow.holds Try.pinned (OpenSpec.upto fnExactCodeNumberSpec)

/-- 'laws.FnExactCodeWrites', WHERE WHAT IT READS IS OF BULK AT MOST 1048576: true; the input reads as it did. -/
def fnExactCodeWritesUptoRow : OpenClaim := { program := "yteephdbjhpbnjaa", sum := "3f376f32e0a0c98a5eb5f543410e0695596a2c338fd8f4147ede5af4ff716b2a", func := "loop.example/lanekernel/laws.FnExactCodeWrites", spec := "fnExactCodeWrites", apart := false, narrowed := true }
def FnExactCodeWritesUptoSaid : Prop := fnExactCodeWritesUptoRow.holds Try.pinned (OpenSpec.upto fnExactCodeWritesSpec)

/-- 'laws.FnExactCodeFrom', WHERE WHAT IT READS IS OF BULK AT MOST 1048576: true; the input reads as it did. -/
def fnExactCodeFromUptoRow : OpenClaim := { program := "yteephdbjhpbnjaa", sum := "3f376f32e0a0c98a5eb5f543410e0695596a2c338fd8f4147ede5af4ff716b2a", func := "loop.example/lanekernel/laws.FnExactCodeFrom", spec := "fnExactCodeFrom", apart := false, narrowed := true }
def FnExactCodeFromUptoSaid : Prop := fnExactCodeFromUptoRow.holds Try.pinned (OpenSpec.upto fnExactCodeFromSpec)

/-- 'laws.FnExactCodeReads', WHERE WHAT IT READS IS OF BULK AT MOST 1048576: true; the input reads as it did. -/
def fnExactCodeReadsUptoRow : OpenClaim := { program := "yteephdbjhpbnjaa", sum := "3f376f32e0a0c98a5eb5f543410e0695596a2c338fd8f4147ede5af4ff716b2a", func := "loop.example/lanekernel/laws.FnExactCodeReads", spec := "fnExactCodeReads", apart := false, narrowed := true }
def FnExactCodeReadsUptoSaid : Prop := fnExactCodeReadsUptoRow.holds Try.pinned (OpenSpec.upto fnExactCodeReadsSpec)

/-- 'laws.FnExactProgramValid', WHERE WHAT IT READS IS OF BULK AT MOST 1048576: true; the input reads as it did. -/
def fnExactProgramValidUptoRow : OpenClaim := { program := "yteephdbjhpbnjaa", sum := "3f376f32e0a0c98a5eb5f543410e0695596a2c338fd8f4147ede5af4ff716b2a", func := "loop.example/lanekernel/laws.FnExactProgramValid", spec := "fnExactProgramValid", apart := false, narrowed := true }
def FnExactProgramValidUptoSaid : Prop := fnExactProgramValidUptoRow.holds Try.pinned (OpenSpec.upto fnExactProgramValidSpec)

/-- 'laws.FnExactCountOps', WHERE WHAT IT READS IS OF BULK AT MOST 1048576: true; the input reads as it did. -/
def fnExactCountOpsUptoRow : OpenClaim := { program := "yteephdbjhpbnjaa", sum := "3f376f32e0a0c98a5eb5f543410e0695596a2c338fd8f4147ede5af4ff716b2a", func := "loop.example/lanekernel/laws.FnExactCountOps", spec := "fnExactCountOps", apart := false, narrowed := true }
def FnExactCountOpsUptoSaid : Prop := fnExactCountOpsUptoRow.holds Try.pinned (OpenSpec.upto fnExactCountOpsSpec)

/-- 'laws.FnExactBlockAround', WHERE WHAT IT READS IS OF BULK AT MOST 1048576: true; the input reads as it did. -/
def fnExactBlockAroundUptoRow : OpenClaim := { program := "yteephdbjhpbnjaa", sum := "3f376f32e0a0c98a5eb5f543410e0695596a2c338fd8f4147ede5af4ff716b2a", func := "loop.example/lanekernel/laws.FnExactBlockAround", spec := "fnExactBlockAround", apart := false, narrowed := true }
def FnExactBlockAroundUptoSaid : Prop := fnExactBlockAroundUptoRow.holds Try.pinned (OpenSpec.upto fnExactBlockAroundSpec)

/-- 'laws.FnExactDepthAt', WHERE WHAT IT READS IS OF BULK AT MOST 1048576: true; the input reads as it did. -/
def fnExactDepthAtUptoRow : OpenClaim := { program := "yteephdbjhpbnjaa", sum := "3f376f32e0a0c98a5eb5f543410e0695596a2c338fd8f4147ede5af4ff716b2a", func := "loop.example/lanekernel/laws.FnExactDepthAt", spec := "fnExactDepthAt", apart := false, narrowed := true }
def FnExactDepthAtUptoSaid : Prop := fnExactDepthAtUptoRow.holds Try.pinned (OpenSpec.upto fnExactDepthAtSpec)

/-- 'laws.FnExactBlockEnd', WHERE WHAT IT READS IS OF BULK AT MOST 1048576: true; the input reads as it did. -/
def fnExactBlockEndUptoRow : OpenClaim := { program := "yteephdbjhpbnjaa", sum := "3f376f32e0a0c98a5eb5f543410e0695596a2c338fd8f4147ede5af4ff716b2a", func := "loop.example/lanekernel/laws.FnExactBlockEnd", spec := "fnExactBlockEnd", apart := false, narrowed := true }
def FnExactBlockEndUptoSaid : Prop := fnExactBlockEndUptoRow.holds Try.pinned (OpenSpec.upto fnExactBlockEndSpec)

/-- 'laws.FnExactLaneValid', WHERE WHAT IT READS IS OF BULK AT MOST 1048576: true; the input reads as it did. -/
def fnExactLaneValidUptoRow : OpenClaim := { program := "yteephdbjhpbnjaa", sum := "3f376f32e0a0c98a5eb5f543410e0695596a2c338fd8f4147ede5af4ff716b2a", func := "loop.example/lanekernel/laws.FnExactLaneValid", spec := "fnExactLaneValid", unfollowed := true, recurses := true, apart := false, narrowed := true }
def FnExactLaneValidUptoSaid : Prop := fnExactLaneValidUptoRow.holds Try.pinned (OpenSpec.upto fnExactLaneValidSpec)

end Rows
end Go.Proofs.Yteephdbjhpbnjaa
