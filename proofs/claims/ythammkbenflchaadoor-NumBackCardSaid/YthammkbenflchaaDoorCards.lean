/-
  DERIVED. GIVEN WITH THE SEED: THE CARDS: each row of YthammkbenflchaaDoorRows.lean that lists a variable, with what it lists TIED to the program's text (the seventh form; the later family's looks); each row that meets fmt, with fmt's text TOLD by the authors' own Lean function (tested against real Go, not proved from fmt's source: count such statements apart). THE CARD IS WHAT COUNTS. Prove the row's statement (the work); the ties are given (YthammkbenflchaaDoorTie.lean); close each card by the builder's one call (the guide's Derived/Test/ToyasCard.lean, 'card_holds'). Laid BY PROGRAM, IN A SANDBOX (cutbox-door.mjs). By AI agents, Wed Nov 11 2026. No macro, syntax, notation, axiom, sorry.
-/
import Derived.Test.YthammkbenflchaaDoorRows
import GoSem.ClaimSeven
namespace Go.Proofs.YthammkbenflchaaDoor
namespace Rows

/-- THE TIED CARD OF 'hawserlaw2.NumReads'. -/
def numReadsCard : Claim7 := { stood := { row := numReadsRow, standIns := [], harness := (true, "3958cfb582d28e6b689f7aa28c600264f3bd95713f7216516387bf7e2b678f1f"), looks := false }, kinds := [], alts := [], laidByText := true, laidKinds := [.data, .data, .data], laidTests := true, laidLooks := .later }
def NumReadsCardSaid : Prop := Claim7.holds Tryd.pinned (.plain (OpenSpec.ofChange numReadsSpec)) numReadsCard

/-- THE TIED CARD OF 'hawserlaw2.NumBack'. -/
def numBackCard : Claim7 := { stood := { row := numBackRow, standIns := [], harness := (true, "3958cfb582d28e6b689f7aa28c600264f3bd95713f7216516387bf7e2b678f1f"), looks := false }, kinds := [], alts := [], laidByText := true, laidKinds := [.data, .data, .data], laidTests := true, laidLooks := .later }
def NumBackCardSaid : Prop := Claim7.holds Tryd.pinned (.plain (OpenSpec.ofChange numBackSpec)) numBackCard

/-- THE TIED CARD OF 'hawserlaw2.NumEdges'. -/
def numEdgesCard : Claim7 := { stood := { row := numEdgesRow, standIns := [], harness := (true, "3958cfb582d28e6b689f7aa28c600264f3bd95713f7216516387bf7e2b678f1f"), looks := false }, kinds := [], alts := [], laidByText := true, laidKinds := [.data, .data, .data], laidTests := true, laidLooks := .later }
def NumEdgesCardSaid : Prop := Claim7.holds Tryd.pinned (.plain (OpenSpec.ofChange numEdgesSpec)) numEdgesCard

/-- THE TIED CARD OF 'hawserlaw2.NumParts'. -/
def numPartsCard : Claim7 := { stood := { row := numPartsRow, standIns := [], harness := (true, "3958cfb582d28e6b689f7aa28c600264f3bd95713f7216516387bf7e2b678f1f"), looks := false }, kinds := [], alts := [], laidByText := true, laidKinds := [.data, .data, .data], laidTests := true, laidLooks := .later }
def NumPartsCardSaid : Prop := Claim7.holds Tryd.pinned (.plain (OpenSpec.ofChange numPartsSpec)) numPartsCard

/-- THE TIED CARD OF 'hawserlaw2.NumOrder'. -/
def numOrderCard : Claim7 := { stood := { row := numOrderRow, standIns := [], harness := (true, "3958cfb582d28e6b689f7aa28c600264f3bd95713f7216516387bf7e2b678f1f"), looks := false }, kinds := [], alts := [], laidByText := true, laidKinds := [.data, .data, .data], laidTests := true, laidLooks := .later }
def NumOrderCardSaid : Prop := Claim7.holds Tryd.pinned (.plain (OpenSpec.ofChange numOrderSpec)) numOrderCard

/-- THE TIED CARD OF 'hawserlaw2.NumNumbers'. -/
def numNumbersCard : Claim7 := { stood := { row := numNumbersRow, standIns := [], harness := (true, "3958cfb582d28e6b689f7aa28c600264f3bd95713f7216516387bf7e2b678f1f"), looks := false }, kinds := [], alts := [], laidByText := true, laidKinds := [.data, .data, .data], laidTests := true, laidLooks := .later }
def NumNumbersCardSaid : Prop := Claim7.holds Tryd.pinned (.plain (OpenSpec.ofChange numNumbersSpec)) numNumbersCard

/-- THE TIED CARD OF 'hawserlaw2.NumRules'. -/
def numRulesCard : Claim7 := { stood := { row := numRulesRow, standIns := [], harness := (true, "3958cfb582d28e6b689f7aa28c600264f3bd95713f7216516387bf7e2b678f1f"), looks := false }, kinds := [], alts := [], laidByText := true, laidKinds := [.data, .data, .data], laidTests := true, laidLooks := .later }
def NumRulesCardSaid : Prop := Claim7.holds Tryd.pinned (.plain (OpenSpec.ofChange numRulesSpec)) numRulesCard

/-- THE TIED CARD OF 'hawserlaw2.NumReckons'. -/
def numReckonsCard : Claim7 := { stood := { row := numReckonsRow, standIns := [], harness := (true, "3958cfb582d28e6b689f7aa28c600264f3bd95713f7216516387bf7e2b678f1f"), looks := false }, kinds := [], alts := [], laidByText := true, laidKinds := [.data, .data, .data], laidTests := true, laidLooks := .later }
def NumReckonsCardSaid : Prop := Claim7.holds Tryd.pinned (.plain (OpenSpec.ofChange numReckonsSpec)) numReckonsCard

/-- THE SECOND FORM's CARD OF 'hawserlaw2.NumReads'. -/
def numReadsUptoCard : Claim7 := { stood := { row := numReadsUptoRow, standIns := [], harness := (true, "3958cfb582d28e6b689f7aa28c600264f3bd95713f7216516387bf7e2b678f1f"), looks := false }, kinds := [], alts := [], laidByText := true, laidKinds := [.data, .data, .data], laidTests := true, laidLooks := .later }
def NumReadsUptoCardSaid : Prop := Claim7.holds Tryd.pinned (.plain (OpenSpec.upto numReadsSpec)) numReadsUptoCard

/-- THE SECOND FORM's CARD OF 'hawserlaw2.NumBack'. -/
def numBackUptoCard : Claim7 := { stood := { row := numBackUptoRow, standIns := [], harness := (true, "3958cfb582d28e6b689f7aa28c600264f3bd95713f7216516387bf7e2b678f1f"), looks := false }, kinds := [], alts := [], laidByText := true, laidKinds := [.data, .data, .data], laidTests := true, laidLooks := .later }
def NumBackUptoCardSaid : Prop := Claim7.holds Tryd.pinned (.plain (OpenSpec.upto numBackSpec)) numBackUptoCard

/-- THE SECOND FORM's CARD OF 'hawserlaw2.NumEdges'. -/
def numEdgesUptoCard : Claim7 := { stood := { row := numEdgesUptoRow, standIns := [], harness := (true, "3958cfb582d28e6b689f7aa28c600264f3bd95713f7216516387bf7e2b678f1f"), looks := false }, kinds := [], alts := [], laidByText := true, laidKinds := [.data, .data, .data], laidTests := true, laidLooks := .later }
def NumEdgesUptoCardSaid : Prop := Claim7.holds Tryd.pinned (.plain (OpenSpec.upto numEdgesSpec)) numEdgesUptoCard

/-- THE SECOND FORM's CARD OF 'hawserlaw2.NumParts'. -/
def numPartsUptoCard : Claim7 := { stood := { row := numPartsUptoRow, standIns := [], harness := (true, "3958cfb582d28e6b689f7aa28c600264f3bd95713f7216516387bf7e2b678f1f"), looks := false }, kinds := [], alts := [], laidByText := true, laidKinds := [.data, .data, .data], laidTests := true, laidLooks := .later }
def NumPartsUptoCardSaid : Prop := Claim7.holds Tryd.pinned (.plain (OpenSpec.upto numPartsSpec)) numPartsUptoCard

/-- THE SECOND FORM's CARD OF 'hawserlaw2.NumOrder'. -/
def numOrderUptoCard : Claim7 := { stood := { row := numOrderUptoRow, standIns := [], harness := (true, "3958cfb582d28e6b689f7aa28c600264f3bd95713f7216516387bf7e2b678f1f"), looks := false }, kinds := [], alts := [], laidByText := true, laidKinds := [.data, .data, .data], laidTests := true, laidLooks := .later }
def NumOrderUptoCardSaid : Prop := Claim7.holds Tryd.pinned (.plain (OpenSpec.upto numOrderSpec)) numOrderUptoCard

/-- THE SECOND FORM's CARD OF 'hawserlaw2.NumNumbers'. -/
def numNumbersUptoCard : Claim7 := { stood := { row := numNumbersUptoRow, standIns := [], harness := (true, "3958cfb582d28e6b689f7aa28c600264f3bd95713f7216516387bf7e2b678f1f"), looks := false }, kinds := [], alts := [], laidByText := true, laidKinds := [.data, .data, .data], laidTests := true, laidLooks := .later }
def NumNumbersUptoCardSaid : Prop := Claim7.holds Tryd.pinned (.plain (OpenSpec.upto numNumbersSpec)) numNumbersUptoCard

/-- THE SECOND FORM's CARD OF 'hawserlaw2.NumRules'. -/
def numRulesUptoCard : Claim7 := { stood := { row := numRulesUptoRow, standIns := [], harness := (true, "3958cfb582d28e6b689f7aa28c600264f3bd95713f7216516387bf7e2b678f1f"), looks := false }, kinds := [], alts := [], laidByText := true, laidKinds := [.data, .data, .data], laidTests := true, laidLooks := .later }
def NumRulesUptoCardSaid : Prop := Claim7.holds Tryd.pinned (.plain (OpenSpec.upto numRulesSpec)) numRulesUptoCard

/-- THE SECOND FORM's CARD OF 'hawserlaw2.NumReckons'. -/
def numReckonsUptoCard : Claim7 := { stood := { row := numReckonsUptoRow, standIns := [], harness := (true, "3958cfb582d28e6b689f7aa28c600264f3bd95713f7216516387bf7e2b678f1f"), looks := false }, kinds := [], alts := [], laidByText := true, laidKinds := [.data, .data, .data], laidTests := true, laidLooks := .later }
def NumReckonsUptoCardSaid : Prop := Claim7.holds Tryd.pinned (.plain (OpenSpec.upto numReckonsSpec)) numReckonsUptoCard
end Rows
end Go.Proofs.YthammkbenflchaaDoor
