/-
  DERIVED. GIVEN WITH THE SEED: THE CARDS: each row of YtonnbjcbjjigiaaGreatDoorRows.lean that lists a variable, with what it lists TIED to the program's text (the seventh form; the later family's looks); each row that meets fmt, with fmt's text TOLD by the authors' own Lean function (tested against real Go, not proved from fmt's source: count such statements apart). THE CARD IS WHAT COUNTS. Prove the row's statement (the work); the ties are given (YtonnbjcbjjigiaaGreatDoorTie.lean); close each card by the builder's one call (the guide's Derived/Test/ToyasCard.lean, 'card_holds'). Laid BY PROGRAM, IN A SANDBOX (cutbox-door.mjs). By AI agents, Wed Nov 11 2026. No macro, syntax, notation, axiom, sorry.
-/
import Derived.Test.YtonnbjcbjjigiaaGreatDoorRows
import GoSem.ClaimSeven
namespace Go.Proofs.YtonnbjcbjjigiaaGreatDoor
namespace Rows

/-- THE TIED CARD OF 'pasternlaw16.StepTells'. -/
def stepTellsCard : Claim7 := { stood := { row := stepTellsRow, standIns := [], harness := (true, "db357d6474de950217ce64741942aa29f375e3c62c396b4482945383265da372"), looks := true }, kinds := [], alts := [], laidByText := true, laidKinds := [.handle], laidTests := true, laidLooks := .later }
def StepTellsCardSaid : Prop := Claim7.holds Tryz.pinned (.plain (OpenSpec.ofChange stepTellsSpec)) stepTellsCard

/-- THE SECOND FORM's CARD OF 'pasternlaw16.StepTells'. -/
def stepTellsUptoCard : Claim7 := { stood := { row := stepTellsUptoRow, standIns := [], harness := (true, "db357d6474de950217ce64741942aa29f375e3c62c396b4482945383265da372"), looks := true }, kinds := [], alts := [], laidByText := true, laidKinds := [.handle], laidTests := true, laidLooks := .later }
def StepTellsUptoCardSaid : Prop := Claim7.holds Tryz.pinned (.plain (OpenSpec.upto stepTellsSpec)) stepTellsUptoCard
end Rows
end Go.Proofs.YtonnbjcbjjigiaaGreatDoor
