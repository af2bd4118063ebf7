/-
  DERIVED. GIVEN WITH THE SEED: THE CARDS: each row of YtjmkgippihpkoaaGreatDoorRows.lean that lists a variable, with what it lists TIED to the program's text (the seventh form; the later family's looks); each row that meets fmt, with fmt's text TOLD by the authors' own Lean function (tested against real Go, not proved from fmt's source: count such statements apart). THE CARD IS WHAT COUNTS. Prove the row's statement (the work); the ties are given (YtjmkgippihpkoaaGreatDoorTie.lean); close each card by the builder's one call (the guide's Derived/Test/ToyasCard.lean, 'card_holds'). Laid BY PROGRAM, IN A SANDBOX (cutbox-door.mjs). By AI agents, Wed Nov 11 2026. No macro, syntax, notation, axiom, sorry.
-/
import Derived.Test.YtjmkgippihpkoaaGreatDoorRows
import GoSem.ClaimSeven
namespace Go.Proofs.YtjmkgippihpkoaaGreatDoor
namespace Rows

/-- THE TIED CARD OF 'pasternlaw9.ParseOnly'. -/
def parseOnlyCard : Claim7 := { stood := { row := parseOnlyRow, standIns := [], harness := (true, "74a59eb282605ffe2418211a5843ee8bab3a7311af255bdc5776a85df855bb51"), looks := true }, kinds := [], alts := [], laidByText := true, laidKinds := [.data, .data, .data, .data, .sentinel, .sentinel, .pinned], laidTests := true, laidLooks := .later }
def ParseOnlyCardSaid : Prop := Claim7.holds Tryz.pinned (.plain (OpenSpec.ofChange parseOnlySpec)) parseOnlyCard

/-- THE TIED CARD OF 'pasternlaw9.ParseDeep'. -/
def parseDeepCard : Claim7 := { stood := { row := parseDeepRow, standIns := [], harness := (true, "74a59eb282605ffe2418211a5843ee8bab3a7311af255bdc5776a85df855bb51"), looks := true }, kinds := [], alts := [], laidByText := true, laidKinds := [.data, .data, .data, .data, .sentinel, .sentinel, .pinned], laidTests := true, laidLooks := .later }
def ParseDeepCardSaid : Prop := Claim7.holds Tryz.pinned (.plain (OpenSpec.ofChange parseDeepSpec)) parseDeepCard

/-- THE TIED CARD OF 'pasternlaw9.ParseWrong'. -/
def parseWrongCard : Claim7 := { stood := { row := parseWrongRow, standIns := [], harness := (true, "74a59eb282605ffe2418211a5843ee8bab3a7311af255bdc5776a85df855bb51"), looks := true }, kinds := [], alts := [], laidByText := true, laidKinds := [.data, .data, .data, .data, .sentinel, .sentinel, .pinned], laidTests := true, laidLooks := .later }
def ParseWrongCardSaid : Prop := Claim7.holds Tryz.pinned (.plain (OpenSpec.ofChange parseWrongSpec)) parseWrongCard

/-- THE TIED CARD OF 'pasternlaw9.ParseTells'. -/
def parseTellsCard : Claim7 := { stood := { row := parseTellsRow, standIns := [], harness := (true, "74a59eb282605ffe2418211a5843ee8bab3a7311af255bdc5776a85df855bb51"), looks := true }, kinds := [], alts := [], laidByText := true, laidKinds := [.data, .data, .data, .data, .handle, .sentinel, .sentinel, .pinned], laidTests := true, laidLooks := .later }
def ParseTellsCardSaid : Prop := Claim7.holds Tryz.pinned (.plain (OpenSpec.ofChange parseTellsSpec)) parseTellsCard

/-- THE SECOND FORM's CARD OF 'pasternlaw9.ParseOnly'. -/
def parseOnlyUptoCard : Claim7 := { stood := { row := parseOnlyUptoRow, standIns := [], harness := (true, "74a59eb282605ffe2418211a5843ee8bab3a7311af255bdc5776a85df855bb51"), looks := true }, kinds := [], alts := [], laidByText := true, laidKinds := [.data, .data, .data, .data, .sentinel, .sentinel, .pinned], laidTests := true, laidLooks := .later }
def ParseOnlyUptoCardSaid : Prop := Claim7.holds Tryz.pinned (.plain (OpenSpec.upto parseOnlySpec)) parseOnlyUptoCard

/-- THE SECOND FORM's CARD OF 'pasternlaw9.ParseDeep'. -/
def parseDeepUptoCard : Claim7 := { stood := { row := parseDeepUptoRow, standIns := [], harness := (true, "74a59eb282605ffe2418211a5843ee8bab3a7311af255bdc5776a85df855bb51"), looks := true }, kinds := [], alts := [], laidByText := true, laidKinds := [.data, .data, .data, .data, .sentinel, .sentinel, .pinned], laidTests := true, laidLooks := .later }
def ParseDeepUptoCardSaid : Prop := Claim7.holds Tryz.pinned (.plain (OpenSpec.upto parseDeepSpec)) parseDeepUptoCard

/-- THE SECOND FORM's CARD OF 'pasternlaw9.ParseWrong'. -/
def parseWrongUptoCard : Claim7 := { stood := { row := parseWrongUptoRow, standIns := [], harness := (true, "74a59eb282605ffe2418211a5843ee8bab3a7311af255bdc5776a85df855bb51"), looks := true }, kinds := [], alts := [], laidByText := true, laidKinds := [.data, .data, .data, .data, .sentinel, .sentinel, .pinned], laidTests := true, laidLooks := .later }
def ParseWrongUptoCardSaid : Prop := Claim7.holds Tryz.pinned (.plain (OpenSpec.upto parseWrongSpec)) parseWrongUptoCard

/-- THE SECOND FORM's CARD OF 'pasternlaw9.ParseTells'. -/
def parseTellsUptoCard : Claim7 := { stood := { row := parseTellsUptoRow, standIns := [], harness := (true, "74a59eb282605ffe2418211a5843ee8bab3a7311af255bdc5776a85df855bb51"), looks := true }, kinds := [], alts := [], laidByText := true, laidKinds := [.data, .data, .data, .data, .handle, .sentinel, .sentinel, .pinned], laidTests := true, laidLooks := .later }
def ParseTellsUptoCardSaid : Prop := Claim7.holds Tryz.pinned (.plain (OpenSpec.upto parseTellsSpec)) parseTellsUptoCard
end Rows
end Go.Proofs.YtjmkgippihpkoaaGreatDoor
