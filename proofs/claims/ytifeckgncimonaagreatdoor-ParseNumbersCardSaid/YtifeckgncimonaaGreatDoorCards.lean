/-
  DERIVED. GIVEN WITH THE SEED: THE CARDS: each row of YtifeckgncimonaaGreatDoorRows.lean that lists a variable, with what it lists TIED to the program's text (the seventh form; the later family's looks); each row that meets fmt, with fmt's text TOLD by the authors' own Lean function (tested against real Go, not proved from fmt's source: count such statements apart). THE CARD IS WHAT COUNTS. Prove the row's statement (the work); the ties are given (YtifeckgncimonaaGreatDoorTie.lean); close each card by the builder's one call (the guide's Derived/Test/ToyasCard.lean, 'card_holds'). Laid BY PROGRAM, IN A SANDBOX (cutbox-door.mjs). By AI agents, Wed Nov 11 2026. No macro, syntax, notation, axiom, sorry.
-/
import Derived.Test.YtifeckgncimonaaGreatDoorRows
import GoSem.ClaimSeven
namespace Go.Proofs.YtifeckgncimonaaGreatDoor
namespace Rows

/-- THE TIED CARD OF 'hawserlaw6.ParseNumbers'. -/
def parseNumbersCard : Claim7 := { stood := { row := parseNumbersRow, standIns := [], harness := (true, "9acb03b10519dc4b7e820ce6a932c57f60c4a27ad8c192186d38599e8a23bec3"), looks := false }, kinds := [], alts := [], laidByText := true, laidKinds := [.listed, .data], laidTests := true, laidLooks := .later }
def ParseNumbersCardSaid : Prop := Claim7.holds Tryz.pinned (.plain (OpenSpec.ofChange parseNumbersSpec)) parseNumbersCard

/-- THE TIED CARD OF 'hawserlaw6.ParseTurned'. -/
def parseTurnedCard : Claim7 := { stood := { row := parseTurnedRow, standIns := [], harness := (true, "9acb03b10519dc4b7e820ce6a932c57f60c4a27ad8c192186d38599e8a23bec3"), looks := false }, kinds := [], alts := [], laidByText := true, laidKinds := [.listed, .data], laidTests := true, laidLooks := .later }
def ParseTurnedCardSaid : Prop := Claim7.holds Tryz.pinned (.plain (OpenSpec.ofChange parseTurnedSpec)) parseTurnedCard

/-- THE TIED CARD OF 'hawserlaw6.ParseBack'. -/
def parseBackCard : Claim7 := { stood := { row := parseBackRow, standIns := [], harness := (true, "9acb03b10519dc4b7e820ce6a932c57f60c4a27ad8c192186d38599e8a23bec3"), looks := false }, kinds := [], alts := [], laidByText := true, laidKinds := [.data, .data, .data, .listed, .data], laidTests := true, laidLooks := .later }
def ParseBackCardSaid : Prop := Claim7.holds Tryz.pinned (.plain (OpenSpec.ofChange parseBackSpec)) parseBackCard

/-- THE SECOND FORM's CARD OF 'hawserlaw6.ParseNumbers'. -/
def parseNumbersUptoCard : Claim7 := { stood := { row := parseNumbersUptoRow, standIns := [], harness := (true, "9acb03b10519dc4b7e820ce6a932c57f60c4a27ad8c192186d38599e8a23bec3"), looks := false }, kinds := [], alts := [], laidByText := true, laidKinds := [.listed, .data], laidTests := true, laidLooks := .later }
def ParseNumbersUptoCardSaid : Prop := Claim7.holds Tryz.pinned (.plain (OpenSpec.upto parseNumbersSpec)) parseNumbersUptoCard

/-- THE SECOND FORM's CARD OF 'hawserlaw6.ParseTurned'. -/
def parseTurnedUptoCard : Claim7 := { stood := { row := parseTurnedUptoRow, standIns := [], harness := (true, "9acb03b10519dc4b7e820ce6a932c57f60c4a27ad8c192186d38599e8a23bec3"), looks := false }, kinds := [], alts := [], laidByText := true, laidKinds := [.listed, .data], laidTests := true, laidLooks := .later }
def ParseTurnedUptoCardSaid : Prop := Claim7.holds Tryz.pinned (.plain (OpenSpec.upto parseTurnedSpec)) parseTurnedUptoCard

/-- THE SECOND FORM's CARD OF 'hawserlaw6.ParseBack'. -/
def parseBackUptoCard : Claim7 := { stood := { row := parseBackUptoRow, standIns := [], harness := (true, "9acb03b10519dc4b7e820ce6a932c57f60c4a27ad8c192186d38599e8a23bec3"), looks := false }, kinds := [], alts := [], laidByText := true, laidKinds := [.data, .data, .data, .listed, .data], laidTests := true, laidLooks := .later }
def ParseBackUptoCardSaid : Prop := Claim7.holds Tryz.pinned (.plain (OpenSpec.upto parseBackSpec)) parseBackUptoCard
end Rows
end Go.Proofs.YtifeckgncimonaaGreatDoor
