/-
  DERIVED. GIVEN WITH THE SEED: THE CARDS: each row of YtidmjeehcmpjnaaDoorRows.lean that lists a variable, with what it lists TIED to the program's text (the seventh form; the later family's looks); each row that meets fmt, with fmt's text TOLD by the authors' own Lean function (tested against real Go, not proved from fmt's source: count such statements apart). THE CARD IS WHAT COUNTS. Prove the row's statement (the work); the ties are given (YtidmjeehcmpjnaaDoorTie.lean); close each card by the builder's one call (the guide's Derived/Test/ToyasCard.lean, 'card_holds'). Laid BY PROGRAM, IN A SANDBOX (cutbox-door.mjs). By AI agents, Wed Nov 11 2026. No macro, syntax, notation, axiom, sorry.
-/
import Derived.Test.YtidmjeehcmpjnaaDoorRows
import GoSem.ClaimSeven
namespace Go.Proofs.YtidmjeehcmpjnaaDoor
namespace Rows

/-- THE TIED CARD OF 'laws.FnExactReadProgram'. -/
def fnExactReadProgramCard : Claim7 := { stood := { row := fnExactReadProgramRow, standIns := [], harness := (true, "035660c64568d2cd316fd08c4cbc06c1be121de206d0751e4ebf56ec72942bdf"), looks := true }, kinds := [], alts := [], laidByText := true, laidKinds := [.data, .data, .data, .data, .sentinel, .sentinel, .widerDeep, .pinned], laidTests := true, laidLooks := .later }
def FnExactReadProgramCardSaid : Prop := Claim7.holds Tryd.pinned (.plain (OpenSpec.ofChange fnExactReadProgramSpec)) fnExactReadProgramCard

/-- THE TIED CARD OF 'laws.FnProgramText'. -/
def fnProgramTextCard : Claim7 := { stood := { row := fnProgramTextRow, standIns := [], harness := (true, "035660c64568d2cd316fd08c4cbc06c1be121de206d0751e4ebf56ec72942bdf"), looks := true }, kinds := [], alts := [], laidByText := true, laidKinds := [.data, .data, .data, .data, .sentinel, .sentinel, .widerDeep, .pinned], laidTests := true, laidLooks := .later }
def FnProgramTextCardSaid : Prop := Claim7.holds Tryd.pinned (.plain (OpenSpec.ofChange fnProgramTextSpec)) fnProgramTextCard

/-- THE TIED CARD OF 'laws.FnReadProgram'. -/
def fnReadProgramCard : Claim7 := { stood := { row := fnReadProgramRow, standIns := [], harness := (true, "035660c64568d2cd316fd08c4cbc06c1be121de206d0751e4ebf56ec72942bdf"), looks := true }, kinds := [], alts := [], laidByText := true, laidKinds := [.data, .data, .data, .data, .sentinel, .sentinel, .widerDeep, .pinned], laidTests := true, laidLooks := .later }
def FnReadProgramCardSaid : Prop := Claim7.holds Tryd.pinned (.plain (OpenSpec.ofChange fnReadProgramSpec)) fnReadProgramCard

/-- THE TIED CARD OF 'laws.FnExactCodeText'. -/
def fnExactCodeTextCard : Claim7 := { stood := { row := fnExactCodeTextRow, standIns := [], harness := (true, "035660c64568d2cd316fd08c4cbc06c1be121de206d0751e4ebf56ec72942bdf"), looks := true }, kinds := [], alts := [], laidByText := true, laidKinds := [.data, .data, .data, .widerDeep], laidTests := true, laidLooks := .later }
def FnExactCodeTextCardSaid : Prop := Claim7.holds Tryd.pinned (.plain (OpenSpec.ofChange fnExactCodeTextSpec)) fnExactCodeTextCard

/-- THE TIED CARD OF 'laws.FnCodePair'. -/
def fnCodePairCard : Claim7 := { stood := { row := fnCodePairRow, standIns := [], harness := (true, "035660c64568d2cd316fd08c4cbc06c1be121de206d0751e4ebf56ec72942bdf"), looks := true }, kinds := [], alts := [], laidByText := true, laidKinds := [.data, .data, .data, .widerDeep], laidTests := true, laidLooks := .later }
def FnCodePairCardSaid : Prop := Claim7.holds Tryd.pinned (.plain (OpenSpec.ofChange fnCodePairSpec)) fnCodePairCard

/-- THE TIED CARD OF 'laws.FnExactProgramText'. -/
def fnExactProgramTextCard : Claim7 := { stood := { row := fnExactProgramTextRow, standIns := [], harness := (true, "035660c64568d2cd316fd08c4cbc06c1be121de206d0751e4ebf56ec72942bdf"), looks := true }, kinds := [], alts := [], laidByText := true, laidKinds := [.data, .data, .data, .widerDeep], laidTests := true, laidLooks := .later }
def FnExactProgramTextCardSaid : Prop := Claim7.holds Tryd.pinned (.plain (OpenSpec.ofChange fnExactProgramTextSpec)) fnExactProgramTextCard

/-- THE TIED CARD OF 'laws.FnTextJoin'. -/
def fnTextJoinCard : Claim7 := { stood := { row := fnTextJoinRow, standIns := [], harness := (true, "035660c64568d2cd316fd08c4cbc06c1be121de206d0751e4ebf56ec72942bdf"), looks := true }, kinds := [], alts := [], laidByText := true, laidKinds := [.data, .data, .data, .widerDeep], laidTests := true, laidLooks := .later }
def FnTextJoinCardSaid : Prop := Claim7.holds Tryd.pinned (.plain (OpenSpec.ofChange fnTextJoinSpec)) fnTextJoinCard

/-- THE TIED CARD OF 'laws.FnExactReadCode'. -/
def fnExactReadCodeCard : Claim7 := { stood := { row := fnExactReadCodeRow, standIns := [], harness := (true, "035660c64568d2cd316fd08c4cbc06c1be121de206d0751e4ebf56ec72942bdf"), looks := true }, kinds := [], alts := [], laidByText := true, laidKinds := [.data, .data, .data, .data, .sentinel, .sentinel, .widerDeep, .pinned], laidTests := true, laidLooks := .later }
def FnExactReadCodeCardSaid : Prop := Claim7.holds Tryd.pinned (.plain (OpenSpec.ofChange fnExactReadCodeSpec)) fnExactReadCodeCard

/-- THE TIED CARD OF 'laws.FnCodeText'. -/
def fnCodeTextCard : Claim7 := { stood := { row := fnCodeTextRow, standIns := [], harness := (true, "035660c64568d2cd316fd08c4cbc06c1be121de206d0751e4ebf56ec72942bdf"), looks := true }, kinds := [], alts := [], laidByText := true, laidKinds := [.data, .data, .data, .data, .sentinel, .sentinel, .widerDeep, .pinned], laidTests := true, laidLooks := .later }
def FnCodeTextCardSaid : Prop := Claim7.holds Tryd.pinned (.plain (OpenSpec.ofChange fnCodeTextSpec)) fnCodeTextCard

/-- THE TIED CARD OF 'laws.FnReadCode'. -/
def fnReadCodeCard : Claim7 := { stood := { row := fnReadCodeRow, standIns := [], harness := (true, "035660c64568d2cd316fd08c4cbc06c1be121de206d0751e4ebf56ec72942bdf"), looks := true }, kinds := [], alts := [], laidByText := true, laidKinds := [.data, .data, .data, .data, .sentinel, .sentinel, .widerDeep, .pinned], laidTests := true, laidLooks := .later }
def FnReadCodeCardSaid : Prop := Claim7.holds Tryd.pinned (.plain (OpenSpec.ofChange fnReadCodeSpec)) fnReadCodeCard

/-- THE SECOND FORM's CARD OF 'laws.FnExactReadProgram'. -/
def fnExactReadProgramUptoCard : Claim7 := { stood := { row := fnExactReadProgramUptoRow, standIns := [], harness := (true, "035660c64568d2cd316fd08c4cbc06c1be121de206d0751e4ebf56ec72942bdf"), looks := true }, kinds := [], alts := [], laidByText := true, laidKinds := [.data, .data, .data, .data, .sentinel, .sentinel, .widerDeep, .pinned], laidTests := true, laidLooks := .later }
def FnExactReadProgramUptoCardSaid : Prop := Claim7.holds Tryd.pinned (.plain (OpenSpec.upto fnExactReadProgramSpec)) fnExactReadProgramUptoCard

/-- THE SECOND FORM's CARD OF 'laws.FnProgramText'. -/
def fnProgramTextUptoCard : Claim7 := { stood := { row := fnProgramTextUptoRow, standIns := [], harness := (true, "035660c64568d2cd316fd08c4cbc06c1be121de206d0751e4ebf56ec72942bdf"), looks := true }, kinds := [], alts := [], laidByText := true, laidKinds := [.data, .data, .data, .data, .sentinel, .sentinel, .widerDeep, .pinned], laidTests := true, laidLooks := .later }
def FnProgramTextUptoCardSaid : Prop := Claim7.holds Tryd.pinned (.plain (OpenSpec.upto fnProgramTextSpec)) fnProgramTextUptoCard

/-- THE SECOND FORM's CARD OF 'laws.FnReadProgram'. -/
def fnReadProgramUptoCard : Claim7 := { stood := { row := fnReadProgramUptoRow, standIns := [], harness := (true, "035660c64568d2cd316fd08c4cbc06c1be121de206d0751e4ebf56ec72942bdf"), looks := true }, kinds := [], alts := [], laidByText := true, laidKinds := [.data, .data, .data, .data, .sentinel, .sentinel, .widerDeep, .pinned], laidTests := true, laidLooks := .later }
def FnReadProgramUptoCardSaid : Prop := Claim7.holds Tryd.pinned (.plain (OpenSpec.upto fnReadProgramSpec)) fnReadProgramUptoCard

/-- THE SECOND FORM's CARD OF 'laws.FnExactCodeText'. -/
def fnExactCodeTextUptoCard : Claim7 := { stood := { row := fnExactCodeTextUptoRow, standIns := [], harness := (true, "035660c64568d2cd316fd08c4cbc06c1be121de206d0751e4ebf56ec72942bdf"), looks := true }, kinds := [], alts := [], laidByText := true, laidKinds := [.data, .data, .data, .widerDeep], laidTests := true, laidLooks := .later }
def FnExactCodeTextUptoCardSaid : Prop := Claim7.holds Tryd.pinned (.plain (OpenSpec.upto fnExactCodeTextSpec)) fnExactCodeTextUptoCard

/-- THE SECOND FORM's CARD OF 'laws.FnCodePair'. -/
def fnCodePairUptoCard : Claim7 := { stood := { row := fnCodePairUptoRow, standIns := [], harness := (true, "035660c64568d2cd316fd08c4cbc06c1be121de206d0751e4ebf56ec72942bdf"), looks := true }, kinds := [], alts := [], laidByText := true, laidKinds := [.data, .data, .data, .widerDeep], laidTests := true, laidLooks := .later }
def FnCodePairUptoCardSaid : Prop := Claim7.holds Tryd.pinned (.plain (OpenSpec.upto fnCodePairSpec)) fnCodePairUptoCard

/-- THE SECOND FORM's CARD OF 'laws.FnExactProgramText'. -/
def fnExactProgramTextUptoCard : Claim7 := { stood := { row := fnExactProgramTextUptoRow, standIns := [], harness := (true, "035660c64568d2cd316fd08c4cbc06c1be121de206d0751e4ebf56ec72942bdf"), looks := true }, kinds := [], alts := [], laidByText := true, laidKinds := [.data, .data, .data, .widerDeep], laidTests := true, laidLooks := .later }
def FnExactProgramTextUptoCardSaid : Prop := Claim7.holds Tryd.pinned (.plain (OpenSpec.upto fnExactProgramTextSpec)) fnExactProgramTextUptoCard

/-- THE SECOND FORM's CARD OF 'laws.FnTextJoin'. -/
def fnTextJoinUptoCard : Claim7 := { stood := { row := fnTextJoinUptoRow, standIns := [], harness := (true, "035660c64568d2cd316fd08c4cbc06c1be121de206d0751e4ebf56ec72942bdf"), looks := true }, kinds := [], alts := [], laidByText := true, laidKinds := [.data, .data, .data, .widerDeep], laidTests := true, laidLooks := .later }
def FnTextJoinUptoCardSaid : Prop := Claim7.holds Tryd.pinned (.plain (OpenSpec.upto fnTextJoinSpec)) fnTextJoinUptoCard

/-- THE SECOND FORM's CARD OF 'laws.FnExactReadCode'. -/
def fnExactReadCodeUptoCard : Claim7 := { stood := { row := fnExactReadCodeUptoRow, standIns := [], harness := (true, "035660c64568d2cd316fd08c4cbc06c1be121de206d0751e4ebf56ec72942bdf"), looks := true }, kinds := [], alts := [], laidByText := true, laidKinds := [.data, .data, .data, .data, .sentinel, .sentinel, .widerDeep, .pinned], laidTests := true, laidLooks := .later }
def FnExactReadCodeUptoCardSaid : Prop := Claim7.holds Tryd.pinned (.plain (OpenSpec.upto fnExactReadCodeSpec)) fnExactReadCodeUptoCard

/-- THE SECOND FORM's CARD OF 'laws.FnCodeText'. -/
def fnCodeTextUptoCard : Claim7 := { stood := { row := fnCodeTextUptoRow, standIns := [], harness := (true, "035660c64568d2cd316fd08c4cbc06c1be121de206d0751e4ebf56ec72942bdf"), looks := true }, kinds := [], alts := [], laidByText := true, laidKinds := [.data, .data, .data, .data, .sentinel, .sentinel, .widerDeep, .pinned], laidTests := true, laidLooks := .later }
def FnCodeTextUptoCardSaid : Prop := Claim7.holds Tryd.pinned (.plain (OpenSpec.upto fnCodeTextSpec)) fnCodeTextUptoCard

/-- THE SECOND FORM's CARD OF 'laws.FnReadCode'. -/
def fnReadCodeUptoCard : Claim7 := { stood := { row := fnReadCodeUptoRow, standIns := [], harness := (true, "035660c64568d2cd316fd08c4cbc06c1be121de206d0751e4ebf56ec72942bdf"), looks := true }, kinds := [], alts := [], laidByText := true, laidKinds := [.data, .data, .data, .data, .sentinel, .sentinel, .widerDeep, .pinned], laidTests := true, laidLooks := .later }
def FnReadCodeUptoCardSaid : Prop := Claim7.holds Tryd.pinned (.plain (OpenSpec.upto fnReadCodeSpec)) fnReadCodeUptoCard
end Rows
end Go.Proofs.YtidmjeehcmpjnaaDoor
