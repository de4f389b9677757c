/-
  DERIVED. GIVEN WITH THE SEED: THE CARDS: each row of YtiefbkjoldcebaaDoorRows.lean that lists a variable, with what it lists TIED to the program's text (the seventh form; the later family's looks); each row that meets fmt, with fmt's text TOLD by the authors' own Lean function (tested against real Go, not proved from fmt's source: count such statements apart). THE CARD IS WHAT COUNTS. Prove the row's statement (the work); the ties are given (YtiefbkjoldcebaaDoorTie.lean); close each card by the builder's one call (the guide's Derived/Test/ToyasCard.lean, 'card_holds'). Laid BY PROGRAM, IN A SANDBOX (cutbox-door.mjs). By AI agents, Wed Nov 11 2026. No macro, syntax, notation, axiom, sorry.
-/
import Derived.Test.YtiefbkjoldcebaaDoorRows
import GoSem.ClaimSeven
namespace Go.Proofs.YtiefbkjoldcebaaDoor
namespace Rows

/-- THE TIED CARD OF 'sortilegelaw15.NnfOdd'. -/
def nnfOddCard : Claim7 := { stood := { row := nnfOddRow, standIns := [], harness := (true, "a57d37af347f2c504e13fe5a6ef8185539817676ed65b7d28603b4dfce5779a1"), looks := true }, kinds := [], alts := [], laidByText := true, laidKinds := [.handle], laidTests := true, laidLooks := .later }
def NnfOddCardSaid : Prop := Claim7.holds Tryd.pinned (.plain (OpenSpec.ofChange nnfOddSpec)) nnfOddCard

/-- THE TIED CARD OF 'sortilegelaw15.NnfTwice'. -/
def nnfTwiceCard : Claim7 := { stood := { row := nnfTwiceRow, standIns := [], harness := (true, "a57d37af347f2c504e13fe5a6ef8185539817676ed65b7d28603b4dfce5779a1"), looks := true }, kinds := [], alts := [], laidByText := true, laidKinds := [.handle], laidTests := true, laidLooks := .later }
def NnfTwiceCardSaid : Prop := Claim7.holds Tryd.pinned (.plain (OpenSpec.ofChange nnfTwiceSpec)) nnfTwiceCard

/-- THE TIED CARD OF 'sortilegelaw28.ReportTurns'. -/
def reportTurnsCard : Claim7 := { stood := { row := reportTurnsRow, standIns := [], harness := (true, "a57d37af347f2c504e13fe5a6ef8185539817676ed65b7d28603b4dfce5779a1"), looks := true }, kinds := [], alts := [], laidByText := true, laidKinds := [.data, .data, .data], laidTests := true, laidLooks := .later }
def ReportTurnsCardSaid : Prop := Claim7.holds Tryd.pinned (.plain (OpenSpec.ofChange reportTurnsSpec)) reportTurnsCard

/-- THE TIED CARD OF 'sortilegelaw28.ReportLines'. -/
def reportLinesCard : Claim7 := { stood := { row := reportLinesRow, standIns := [], harness := (true, "a57d37af347f2c504e13fe5a6ef8185539817676ed65b7d28603b4dfce5779a1"), looks := true }, kinds := [], alts := [], laidByText := true, laidKinds := [.data, .data, .data], laidTests := true, laidLooks := .later }
def ReportLinesCardSaid : Prop := Claim7.holds Tryd.pinned (.plain (OpenSpec.ofChange reportLinesSpec)) reportLinesCard

/-- THE SECOND FORM's CARD OF 'sortilegelaw15.NnfOdd'. -/
def nnfOddUptoCard : Claim7 := { stood := { row := nnfOddUptoRow, standIns := [], harness := (true, "a57d37af347f2c504e13fe5a6ef8185539817676ed65b7d28603b4dfce5779a1"), looks := true }, kinds := [], alts := [], laidByText := true, laidKinds := [.handle], laidTests := true, laidLooks := .later }
def NnfOddUptoCardSaid : Prop := Claim7.holds Tryd.pinned (.plain (OpenSpec.upto nnfOddSpec)) nnfOddUptoCard

/-- THE SECOND FORM's CARD OF 'sortilegelaw15.NnfTwice'. -/
def nnfTwiceUptoCard : Claim7 := { stood := { row := nnfTwiceUptoRow, standIns := [], harness := (true, "a57d37af347f2c504e13fe5a6ef8185539817676ed65b7d28603b4dfce5779a1"), looks := true }, kinds := [], alts := [], laidByText := true, laidKinds := [.handle], laidTests := true, laidLooks := .later }
def NnfTwiceUptoCardSaid : Prop := Claim7.holds Tryd.pinned (.plain (OpenSpec.upto nnfTwiceSpec)) nnfTwiceUptoCard

/-- THE SECOND FORM's CARD OF 'sortilegelaw28.ReportTurns'. -/
def reportTurnsUptoCard : Claim7 := { stood := { row := reportTurnsUptoRow, standIns := [], harness := (true, "a57d37af347f2c504e13fe5a6ef8185539817676ed65b7d28603b4dfce5779a1"), looks := true }, kinds := [], alts := [], laidByText := true, laidKinds := [.data, .data, .data], laidTests := true, laidLooks := .later }
def ReportTurnsUptoCardSaid : Prop := Claim7.holds Tryd.pinned (.plain (OpenSpec.upto reportTurnsSpec)) reportTurnsUptoCard

/-- THE SECOND FORM's CARD OF 'sortilegelaw28.ReportLines'. -/
def reportLinesUptoCard : Claim7 := { stood := { row := reportLinesUptoRow, standIns := [], harness := (true, "a57d37af347f2c504e13fe5a6ef8185539817676ed65b7d28603b4dfce5779a1"), looks := true }, kinds := [], alts := [], laidByText := true, laidKinds := [.data, .data, .data], laidTests := true, laidLooks := .later }
def ReportLinesUptoCardSaid : Prop := Claim7.holds Tryd.pinned (.plain (OpenSpec.upto reportLinesSpec)) reportLinesUptoCard
end Rows
end Go.Proofs.YtiefbkjoldcebaaDoor
