/-
  No cell of these rows narrows 'for every input' (looked for: loops, veiled, ifaces, maps, wideKeys, modest, calm, conditions, laid).
  DERIVED. THE GIVEN ROWS OF THIS SEAT. 5 by the template 'for every input the law returns true; each argument reads behind the call as it read before'; 0 by the template 'total and deterministic' (their statements: YtmjkjdibolcblaaTotals.lean).
  GIVEN WITH THE SEED: the statements are not yours to turn. If you find one false, say at which input.
  Laid BY PROGRAM, IN A SANDBOX (cutbox-rows.mjs): the forced cells as the released guide's own fill.sh prints them over the translation 3c4cf0fe6cdaa398… (all of the seat's roots in one cut). By AI agents, Wed Nov 11 2026. No macro, syntax, notation, axiom, sorry.
-/
import Derived.Test.YtmjkjdibolcblaaChecked
import GoSem.Claim
import GoSem.ClaimJoined
import GoSem.ClaimMapViews
import Derived.JoinedTies
import Derived.KernelRfl
namespace Go.Proofs.Ytmjkjdibolcblaa
/- THE CELL 'sum', in the pinned program and in every row, IS THE sha256 OF THE DUMP (.gsa) THAT YtmjkjdibolcblaaProg.lean LOADS. Nothing in Lean hashes anything: it is a label: what it is worth is what the hold of that sum in a sandbox is worth. -/
noncomputable def Try.pinned : Pinned := { name := "ytmjkjdibolcblaa", sum := "3c4cf0fe6cdaa398d2b650e557e9e8d101da39689f014773252141b0269e9c6c", checked := Try.checked }
namespace Rows
def none {H : Type} : Left H := { results := [], args := [] }

/-- 'laws.FnCodeWrites': WHATEVER THE INPUT: true; the input reads as it did. -/
def fnCodeWritesSpec : ChangeSpec := { name := "fnCodeWrites", fn := fun _ => fun
  | [d] => { results := [.lit (.bool true)], args := [d] }
  | _ => none }
def fnCodeWritesRow : OpenClaim := { program := "ytmjkjdibolcblaa", sum := "3c4cf0fe6cdaa398d2b650e557e9e8d101da39689f014773252141b0269e9c6c", func := "loop.example/lanekernel/laws.FnCodeWrites", spec := "fnCodeWrites", unfollowed := true, recurses := true, apart := false }
def FnCodeWritesSaid : Prop := fnCodeWritesRow.holds Try.pinned (OpenSpec.ofChange fnCodeWritesSpec)

/-- ITS FALSE NEIGHBOUR: 'it returns false'. Refute it at one input. -/
def fnCodeWritesWrong : ChangeSpec := { name := "fnCodeWrites", fn := fun _ => fun
  | [d] => { results := [.lit (.bool false)], args := [d] }
  | _ => none }
def FnCodeWritesWrongFalsely : Prop := fnCodeWritesRow.holds Try.pinned (OpenSpec.ofChange fnCodeWritesWrong)

/-- 'laws.FnCodeReads': WHATEVER THE INPUT: true; the input reads as it did. -/
def fnCodeReadsSpec : ChangeSpec := { name := "fnCodeReads", fn := fun _ => fun
  | [d] => { results := [.lit (.bool true)], args := [d] }
  | _ => none }
def fnCodeReadsRow : OpenClaim := { program := "ytmjkjdibolcblaa", sum := "3c4cf0fe6cdaa398d2b650e557e9e8d101da39689f014773252141b0269e9c6c", func := "loop.example/lanekernel/laws.FnCodeReads", spec := "fnCodeReads", unfollowed := true, recurses := true, apart := false }
def FnCodeReadsSaid : Prop := fnCodeReadsRow.holds Try.pinned (OpenSpec.ofChange fnCodeReadsSpec)

/-- ITS FALSE NEIGHBOUR: 'it returns false'. Refute it at one input. -/
def fnCodeReadsWrong : ChangeSpec := { name := "fnCodeReads", fn := fun _ => fun
  | [d] => { results := [.lit (.bool false)], args := [d] }
  | _ => none }
def FnCodeReadsWrongFalsely : Prop := fnCodeReadsRow.holds Try.pinned (OpenSpec.ofChange fnCodeReadsWrong)

/-- 'laws.FnExactStepLane': WHATEVER THE INPUT: true; the input reads as it did. -/
def fnExactStepLaneSpec : ChangeSpec := { name := "fnExactStepLane", fn := fun _ => fun
  | [d1, d2, d3, d4] => { results := [.lit (.bool true)], args := [d1, d2, d3, d4] }
  | _ => none }
def fnExactStepLaneRow : OpenClaim := { program := "ytmjkjdibolcblaa", sum := "3c4cf0fe6cdaa398d2b650e557e9e8d101da39689f014773252141b0269e9c6c", func := "loop.example/lanekernel/laws.FnExactStepLane", spec := "fnExactStepLane", unfollowed := true, recurses := true, apart := false }
def FnExactStepLaneSaid : Prop := fnExactStepLaneRow.holds Try.pinned (OpenSpec.ofChange fnExactStepLaneSpec)

/-- ITS FALSE NEIGHBOUR: 'it returns false'. Refute it at one input. -/
def fnExactStepLaneWrong : ChangeSpec := { name := "fnExactStepLane", fn := fun _ => fun
  | [d1, d2, d3, d4] => { results := [.lit (.bool false)], args := [d1, d2, d3, d4] }
  | _ => none }
def FnExactStepLaneWrongFalsely : Prop := fnExactStepLaneRow.holds Try.pinned (OpenSpec.ofChange fnExactStepLaneWrong)

/-- 'laws.FnExactRunLane': WHATEVER THE INPUT: true; the input reads as it did. -/
def fnExactRunLaneSpec : ChangeSpec := { name := "fnExactRunLane", fn := fun _ => fun
  | [d1, d2, d3, d4] => { results := [.lit (.bool true)], args := [d1, d2, d3, d4] }
  | _ => none }
def fnExactRunLaneRow : OpenClaim := { program := "ytmjkjdibolcblaa", sum := "3c4cf0fe6cdaa398d2b650e557e9e8d101da39689f014773252141b0269e9c6c", func := "loop.example/lanekernel/laws.FnExactRunLane", spec := "fnExactRunLane", unfollowed := true, recurses := true, apart := false }
def FnExactRunLaneSaid : Prop := fnExactRunLaneRow.holds Try.pinned (OpenSpec.ofChange fnExactRunLaneSpec)

/-- ITS FALSE NEIGHBOUR: 'it returns false'. Refute it at one input. -/
def fnExactRunLaneWrong : ChangeSpec := { name := "fnExactRunLane", fn := fun _ => fun
  | [d1, d2, d3, d4] => { results := [.lit (.bool false)], args := [d1, d2, d3, d4] }
  | _ => none }
def FnExactRunLaneWrongFalsely : Prop := fnExactRunLaneRow.holds Try.pinned (OpenSpec.ofChange fnExactRunLaneWrong)

/-- 'laws.FnCodeSteps': WHATEVER THE INPUT: true; the input reads as it did. -/
def fnCodeStepsSpec : ChangeSpec := { name := "fnCodeSteps", fn := fun _ => fun
  | [d1, d2] => { results := [.lit (.bool true)], args := [d1, d2] }
  | _ => none }
def fnCodeStepsRow : OpenClaim := { program := "ytmjkjdibolcblaa", sum := "3c4cf0fe6cdaa398d2b650e557e9e8d101da39689f014773252141b0269e9c6c", func := "loop.example/lanekernel/laws.FnCodeSteps", spec := "fnCodeSteps", unfollowed := true, recurses := true, apart := false }
def FnCodeStepsSaid : Prop := fnCodeStepsRow.holds Try.pinned (OpenSpec.ofChange fnCodeStepsSpec)

/-- ITS FALSE NEIGHBOUR: 'it returns false'. Refute it at one input. -/
def fnCodeStepsWrong : ChangeSpec := { name := "fnCodeSteps", fn := fun _ => fun
  | [d1, d2] => { results := [.lit (.bool false)], args := [d1, d2] }
  | _ => none }
def FnCodeStepsWrongFalsely : Prop := fnCodeStepsRow.holds Try.pinned (OpenSpec.ofChange fnCodeStepsWrong)

/- THE SECOND FORM. 'bulk': how many values and letters a reading holds, each counted each time it is reached (what is shared counts as often as it is met; a slice's spare places count too). A statement '..UptoSaid' is the law's where the arguments, and the package variables that the reading takes, are together of bulk at most 1048576: NARROWER than '..Said'. Prove '..Said' where nothing that the law and all that it calls make is longer than what came in: it says more and counts as full. Else prove '..UptoSaid'. A law counts once. -/
mutual
def uptoBulk {H : Type} : DataW H → Nat
  | .lit (.string bytes) => bytes.length + 1
  | .lit _ => 1
  | .nil => 1
  | .ptr d => uptoBulk d + 1
  | .slice elems spare => uptoBulkAll elems + uptoBulkAll spare + 1
  | .agg parts => uptoBulkAll parts + 1
  | .iface _ d => uptoBulk d + 1
  | .map entries => uptoBulkEntries entries + 1
  | .held _ => 1
def uptoBulkAll {H : Type} : List (DataW H) → Nat
  | [] => 0
  | d :: r => uptoBulk d + uptoBulkAll r
def uptoBulkEntries {H : Type} : List (Lit × DataW H) → Nat
  | [] => 0
  | x :: r => uptoBulkEntry x + uptoBulkEntries r
def uptoBulkEntry {H : Type} : Lit × DataW H → Nat
  | (.string bytes, d) => bytes.length + uptoBulk d + 1
  | (_, d) => uptoBulk d + 1
 end
def uptoSmall : (H : Type) → List (DataW H) → Bool := fun _ ds => decide (uptoBulkAll ds ≤ 1048576)
def OpenSpec.upto (s : _root_.Go.ChangeSpec) : _root_.Go.OpenSpec := { _root_.Go.OpenSpec.ofChange s with cond := some uptoSmall }

/-- 'laws.FnCodeWrites', WHERE WHAT IT READS IS OF BULK AT MOST 1048576: true; the input reads as it did. -/
def fnCodeWritesUptoRow : OpenClaim := { program := "ytmjkjdibolcblaa", sum := "3c4cf0fe6cdaa398d2b650e557e9e8d101da39689f014773252141b0269e9c6c", func := "loop.example/lanekernel/laws.FnCodeWrites", spec := "fnCodeWrites", unfollowed := true, recurses := true, apart := false, narrowed := true }
def FnCodeWritesUptoSaid : Prop := fnCodeWritesUptoRow.holds Try.pinned (OpenSpec.upto fnCodeWritesSpec)

/-- 'laws.FnCodeReads', WHERE WHAT IT READS IS OF BULK AT MOST 1048576: true; the input reads as it did. -/
def fnCodeReadsUptoRow : OpenClaim := { program := "ytmjkjdibolcblaa", sum := "3c4cf0fe6cdaa398d2b650e557e9e8d101da39689f014773252141b0269e9c6c", func := "loop.example/lanekernel/laws.FnCodeReads", spec := "fnCodeReads", unfollowed := true, recurses := true, apart := false, narrowed := true }
def FnCodeReadsUptoSaid : Prop := fnCodeReadsUptoRow.holds Try.pinned (OpenSpec.upto fnCodeReadsSpec)

/-- 'laws.FnExactStepLane', WHERE WHAT IT READS IS OF BULK AT MOST 1048576: true; the input reads as it did. -/
def fnExactStepLaneUptoRow : OpenClaim := { program := "ytmjkjdibolcblaa", sum := "3c4cf0fe6cdaa398d2b650e557e9e8d101da39689f014773252141b0269e9c6c", func := "loop.example/lanekernel/laws.FnExactStepLane", spec := "fnExactStepLane", unfollowed := true, recurses := true, apart := false, narrowed := true }
def FnExactStepLaneUptoSaid : Prop := fnExactStepLaneUptoRow.holds Try.pinned (OpenSpec.upto fnExactStepLaneSpec)

/-- 'laws.FnExactRunLane', WHERE WHAT IT READS IS OF BULK AT MOST 1048576: true; the input reads as it did. -/
def fnExactRunLaneUptoRow : OpenClaim := { program := "ytmjkjdibolcblaa", sum := "3c4cf0fe6cdaa398d2b650e557e9e8d101da39689f014773252141b0269e9c6c", func := "loop.example/lanekernel/laws.FnExactRunLane", spec := "fnExactRunLane", unfollowed := true, recurses := true, apart := false, narrowed := true }
def FnExactRunLaneUptoSaid : Prop := fnExactRunLaneUptoRow.holds Try.pinned (OpenSpec.upto fnExactRunLaneSpec)

/-- 'laws.FnCodeSteps', WHERE WHAT IT READS IS OF BULK AT MOST 1048576: true; the input reads as it did. -/
def fnCodeStepsUptoRow : OpenClaim := { program := "ytmjkjdibolcblaa", sum := "3c4cf0fe6cdaa398d2b650e557e9e8d101da39689f014773252141b0269e9c6c", func := "loop.example/lanekernel/laws.FnCodeSteps", spec := "fnCodeSteps", unfollowed := true, recurses := true, apart := false, narrowed := true }
def FnCodeStepsUptoSaid : Prop := fnCodeStepsUptoRow.holds Try.pinned (OpenSpec.upto fnCodeStepsSpec)

end Rows
end Go.Proofs.Ytmjkjdibolcblaa
