/-
  DERIVED. GIVEN WITH THE SEED: THE CARDS: each row of YtdkbdmfhidimmaaDoorRows.lean that lists a variable, with what it lists TIED to the program's text (the seventh form; the later family's looks); each row that meets fmt, with fmt's text TOLD by the authors' own Lean function (tested against real Go, not proved from fmt's source: count such statements apart). THE CARD IS WHAT COUNTS. Prove the row's statement (the work); the ties are given (YtdkbdmfhidimmaaDoorTie.lean); close each card by the builder's one call (the guide's Derived/Test/ToyasCard.lean, 'card_holds'). Laid BY PROGRAM, IN A SANDBOX (cutbox-door.mjs). By AI agents, Wed Nov 11 2026. No macro, syntax, notation, axiom, sorry.
-/
import Derived.Test.YtdkbdmfhidimmaaDoorRows
import GoSem.ClaimSeven
namespace Go.Proofs.YtdkbdmfhidimmaaDoor
namespace Rows

/-- THE TIED CARD OF 'pasternlaw7.WordBlanks'. -/
def wordBlanksCard : Claim7 := { stood := { row := wordBlanksRow, standIns := [], harness := (true, "7dde95e84878839a5f775e8de33dc84e51f4d6bb8651a7ef22947bc7c7d4f8ee"), looks := true }, kinds := [], alts := [], laidByText := true, laidKinds := [.data, .data, .data, .sentinel, .sentinel], laidTests := true, laidLooks := .later }
def WordBlanksCardSaid : Prop := Claim7.holds Tryd.pinned (.plain (OpenSpec.ofChange wordBlanksSpec)) wordBlanksCard

/-- THE TIED CARD OF 'pasternlaw7.WordNumbers'. -/
def wordNumbersCard : Claim7 := { stood := { row := wordNumbersRow, standIns := [], harness := (true, "7dde95e84878839a5f775e8de33dc84e51f4d6bb8651a7ef22947bc7c7d4f8ee"), looks := true }, kinds := [], alts := [], laidByText := true, laidKinds := [.data, .data, .data, .sentinel, .sentinel], laidTests := true, laidLooks := .later }
def WordNumbersCardSaid : Prop := Claim7.holds Tryd.pinned (.plain (OpenSpec.ofChange wordNumbersSpec)) wordNumbersCard

/-- THE TIED CARD OF 'pasternlaw7.WordTexts'. -/
def wordTextsCard : Claim7 := { stood := { row := wordTextsRow, standIns := [], harness := (true, "7dde95e84878839a5f775e8de33dc84e51f4d6bb8651a7ef22947bc7c7d4f8ee"), looks := true }, kinds := [], alts := [], laidByText := true, laidKinds := [.data, .data, .data, .sentinel, .sentinel], laidTests := true, laidLooks := .later }
def WordTextsCardSaid : Prop := Claim7.holds Tryd.pinned (.plain (OpenSpec.ofChange wordTextsSpec)) wordTextsCard

/-- THE TIED CARD OF 'pasternlaw7.WordSigns'. -/
def wordSignsCard : Claim7 := { stood := { row := wordSignsRow, standIns := [], harness := (true, "7dde95e84878839a5f775e8de33dc84e51f4d6bb8651a7ef22947bc7c7d4f8ee"), looks := true }, kinds := [], alts := [], laidByText := true, laidKinds := [.data, .data, .data, .sentinel, .sentinel], laidTests := true, laidLooks := .later }
def WordSignsCardSaid : Prop := Claim7.holds Tryd.pinned (.plain (OpenSpec.ofChange wordSignsSpec)) wordSignsCard

/-- THE TIED CARD OF 'pasternlaw7.WordMany'. -/
def wordManyCard : Claim7 := { stood := { row := wordManyRow, standIns := [], harness := (true, "7dde95e84878839a5f775e8de33dc84e51f4d6bb8651a7ef22947bc7c7d4f8ee"), looks := true }, kinds := [], alts := [], laidByText := true, laidKinds := [.data, .data, .data, .sentinel, .sentinel], laidTests := true, laidLooks := .later }
def WordManyCardSaid : Prop := Claim7.holds Tryd.pinned (.plain (OpenSpec.ofChange wordManySpec)) wordManyCard

/-- THE TIED CARD OF 'pasternlaw8.ShowTells'. -/
def showTellsCard : Claim7 := { stood := { row := showTellsRow, standIns := [], harness := (true, "7dde95e84878839a5f775e8de33dc84e51f4d6bb8651a7ef22947bc7c7d4f8ee"), looks := true }, kinds := [], alts := [], laidByText := true, laidKinds := [.data, .data, .data, .data, .pinned], laidTests := true, laidLooks := .later }
def ShowTellsCardSaid : Prop := Claim7.holds Tryd.pinned (.plain (OpenSpec.ofChange showTellsSpec)) showTellsCard

/-- THE TIED CARD OF 'pasternlaw8.ShowUnlike'. -/
def showUnlikeCard : Claim7 := { stood := { row := showUnlikeRow, standIns := [], harness := (true, "7dde95e84878839a5f775e8de33dc84e51f4d6bb8651a7ef22947bc7c7d4f8ee"), looks := true }, kinds := [], alts := [], laidByText := true, laidKinds := [.data, .data, .data, .data, .pinned], laidTests := true, laidLooks := .later }
def ShowUnlikeCardSaid : Prop := Claim7.holds Tryd.pinned (.plain (OpenSpec.ofChange showUnlikeSpec)) showUnlikeCard

/-- THE TIED CARD OF 'pasternlaw7.WordTells'. -/
def wordTellsCard : Claim7 := { stood := { row := wordTellsRow, standIns := [], harness := (true, "7dde95e84878839a5f775e8de33dc84e51f4d6bb8651a7ef22947bc7c7d4f8ee"), looks := true }, kinds := [], alts := [], laidByText := true, laidKinds := [.data, .data, .data, .handle, .sentinel, .sentinel], laidTests := true, laidLooks := .later }
def WordTellsCardSaid : Prop := Claim7.holds Tryd.pinned (.plain (OpenSpec.ofChange wordTellsSpec)) wordTellsCard

/-- THE SECOND FORM's CARD OF 'pasternlaw7.WordBlanks'. -/
def wordBlanksUptoCard : Claim7 := { stood := { row := wordBlanksUptoRow, standIns := [], harness := (true, "7dde95e84878839a5f775e8de33dc84e51f4d6bb8651a7ef22947bc7c7d4f8ee"), looks := true }, kinds := [], alts := [], laidByText := true, laidKinds := [.data, .data, .data, .sentinel, .sentinel], laidTests := true, laidLooks := .later }
def WordBlanksUptoCardSaid : Prop := Claim7.holds Tryd.pinned (.plain (OpenSpec.upto wordBlanksSpec)) wordBlanksUptoCard

/-- THE SECOND FORM's CARD OF 'pasternlaw7.WordNumbers'. -/
def wordNumbersUptoCard : Claim7 := { stood := { row := wordNumbersUptoRow, standIns := [], harness := (true, "7dde95e84878839a5f775e8de33dc84e51f4d6bb8651a7ef22947bc7c7d4f8ee"), looks := true }, kinds := [], alts := [], laidByText := true, laidKinds := [.data, .data, .data, .sentinel, .sentinel], laidTests := true, laidLooks := .later }
def WordNumbersUptoCardSaid : Prop := Claim7.holds Tryd.pinned (.plain (OpenSpec.upto wordNumbersSpec)) wordNumbersUptoCard

/-- THE SECOND FORM's CARD OF 'pasternlaw7.WordTexts'. -/
def wordTextsUptoCard : Claim7 := { stood := { row := wordTextsUptoRow, standIns := [], harness := (true, "7dde95e84878839a5f775e8de33dc84e51f4d6bb8651a7ef22947bc7c7d4f8ee"), looks := true }, kinds := [], alts := [], laidByText := true, laidKinds := [.data, .data, .data, .sentinel, .sentinel], laidTests := true, laidLooks := .later }
def WordTextsUptoCardSaid : Prop := Claim7.holds Tryd.pinned (.plain (OpenSpec.upto wordTextsSpec)) wordTextsUptoCard

/-- THE SECOND FORM's CARD OF 'pasternlaw7.WordSigns'. -/
def wordSignsUptoCard : Claim7 := { stood := { row := wordSignsUptoRow, standIns := [], harness := (true, "7dde95e84878839a5f775e8de33dc84e51f4d6bb8651a7ef22947bc7c7d4f8ee"), looks := true }, kinds := [], alts := [], laidByText := true, laidKinds := [.data, .data, .data, .sentinel, .sentinel], laidTests := true, laidLooks := .later }
def WordSignsUptoCardSaid : Prop := Claim7.holds Tryd.pinned (.plain (OpenSpec.upto wordSignsSpec)) wordSignsUptoCard

/-- THE SECOND FORM's CARD OF 'pasternlaw7.WordMany'. -/
def wordManyUptoCard : Claim7 := { stood := { row := wordManyUptoRow, standIns := [], harness := (true, "7dde95e84878839a5f775e8de33dc84e51f4d6bb8651a7ef22947bc7c7d4f8ee"), looks := true }, kinds := [], alts := [], laidByText := true, laidKinds := [.data, .data, .data, .sentinel, .sentinel], laidTests := true, laidLooks := .later }
def WordManyUptoCardSaid : Prop := Claim7.holds Tryd.pinned (.plain (OpenSpec.upto wordManySpec)) wordManyUptoCard

/-- THE SECOND FORM's CARD OF 'pasternlaw8.ShowTells'. -/
def showTellsUptoCard : Claim7 := { stood := { row := showTellsUptoRow, standIns := [], harness := (true, "7dde95e84878839a5f775e8de33dc84e51f4d6bb8651a7ef22947bc7c7d4f8ee"), looks := true }, kinds := [], alts := [], laidByText := true, laidKinds := [.data, .data, .data, .data, .pinned], laidTests := true, laidLooks := .later }
def ShowTellsUptoCardSaid : Prop := Claim7.holds Tryd.pinned (.plain (OpenSpec.upto showTellsSpec)) showTellsUptoCard

/-- THE SECOND FORM's CARD OF 'pasternlaw8.ShowUnlike'. -/
def showUnlikeUptoCard : Claim7 := { stood := { row := showUnlikeUptoRow, standIns := [], harness := (true, "7dde95e84878839a5f775e8de33dc84e51f4d6bb8651a7ef22947bc7c7d4f8ee"), looks := true }, kinds := [], alts := [], laidByText := true, laidKinds := [.data, .data, .data, .data, .pinned], laidTests := true, laidLooks := .later }
def ShowUnlikeUptoCardSaid : Prop := Claim7.holds Tryd.pinned (.plain (OpenSpec.upto showUnlikeSpec)) showUnlikeUptoCard

/-- THE SECOND FORM's CARD OF 'pasternlaw7.WordTells'. -/
def wordTellsUptoCard : Claim7 := { stood := { row := wordTellsUptoRow, standIns := [], harness := (true, "7dde95e84878839a5f775e8de33dc84e51f4d6bb8651a7ef22947bc7c7d4f8ee"), looks := true }, kinds := [], alts := [], laidByText := true, laidKinds := [.data, .data, .data, .handle, .sentinel, .sentinel], laidTests := true, laidLooks := .later }
def WordTellsUptoCardSaid : Prop := Claim7.holds Tryd.pinned (.plain (OpenSpec.upto wordTellsSpec)) wordTellsUptoCard
end Rows
end Go.Proofs.YtdkbdmfhidimmaaDoor
