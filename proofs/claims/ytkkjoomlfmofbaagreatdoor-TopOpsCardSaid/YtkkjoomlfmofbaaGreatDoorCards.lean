/-
  DERIVED. GIVEN WITH THE SEED: THE CARDS: each row of YtkkjoomlfmofbaaGreatDoorRows.lean that lists a variable, with what it lists TIED to the program's text (the seventh form; the later family's looks); each row that meets fmt, with fmt's text TOLD by the authors' own Lean function (tested against real Go, not proved from fmt's source: count such statements apart). THE CARD IS WHAT COUNTS. Prove the row's statement (the work); the ties are given (YtkkjoomlfmofbaaGreatDoorTie.lean); close each card by the builder's one call (the guide's Derived/Test/ToyasCard.lean, 'card_holds'). Laid BY PROGRAM, IN A SANDBOX (cutbox-door.mjs). By AI agents, Wed Nov 11 2026. No macro, syntax, notation, axiom, sorry.
-/
import Derived.Test.YtkkjoomlfmofbaaGreatDoorRows
import GoSem.ClaimSeven
namespace Go.Proofs.YtkkjoomlfmofbaaGreatDoor
namespace Rows

/-- THE TIED CARD OF 'hawsertop.TopFirst'. -/
def topFirstCard : Claim7 := { stood := { row := topFirstRow, standIns := [], harness := (true, "cc805e1a66c81131cf55e0730e1835d7aa069edddcc05141c4b7127cf49db3d4"), looks := true }, kinds := [], alts := [], laidByText := true, laidKinds := [.data, .listed, .data, .data, .data, .sentinel, .sentinel], laidTests := true, laidLooks := .later }
def TopFirstCardSaid : Prop := Claim7.holds Tryz.pinned (.plain (OpenSpec.ofChange topFirstSpec)) topFirstCard

/-- THE TIED CARD OF 'hawsertop.TopBranches'. -/
def topBranchesCard : Claim7 := { stood := { row := topBranchesRow, standIns := [], harness := (true, "cc805e1a66c81131cf55e0730e1835d7aa069edddcc05141c4b7127cf49db3d4"), looks := true }, kinds := [], alts := [], laidByText := true, laidKinds := [.data, .listed, .data, .data, .data, .sentinel, .sentinel], laidTests := true, laidLooks := .later }
def TopBranchesCardSaid : Prop := Claim7.holds Tryz.pinned (.plain (OpenSpec.ofChange topBranchesSpec)) topBranchesCard

/-- THE TIED CARD OF 'hawsertop.TopClosures'. -/
def topClosuresCard : Claim7 := { stood := { row := topClosuresRow, standIns := [], harness := (true, "cc805e1a66c81131cf55e0730e1835d7aa069edddcc05141c4b7127cf49db3d4"), looks := true }, kinds := [], alts := [], laidByText := true, laidKinds := [.data, .listed, .data, .data, .data, .sentinel, .sentinel], laidTests := true, laidLooks := .later }
def TopClosuresCardSaid : Prop := Claim7.holds Tryz.pinned (.plain (OpenSpec.ofChange topClosuresSpec)) topClosuresCard

/-- THE TIED CARD OF 'hawsertop.TopShadows'. -/
def topShadowsCard : Claim7 := { stood := { row := topShadowsRow, standIns := [], harness := (true, "cc805e1a66c81131cf55e0730e1835d7aa069edddcc05141c4b7127cf49db3d4"), looks := true }, kinds := [], alts := [], laidByText := true, laidKinds := [.data, .listed, .data, .data, .data, .sentinel, .sentinel], laidTests := true, laidLooks := .later }
def TopShadowsCardSaid : Prop := Claim7.holds Tryz.pinned (.plain (OpenSpec.ofChange topShadowsSpec)) topShadowsCard

/-- THE TIED CARD OF 'hawsertop.TopArms'. -/
def topArmsCard : Claim7 := { stood := { row := topArmsRow, standIns := [], harness := (true, "cc805e1a66c81131cf55e0730e1835d7aa069edddcc05141c4b7127cf49db3d4"), looks := true }, kinds := [], alts := [], laidByText := true, laidKinds := [.data, .listed, .data, .data, .data, .sentinel, .sentinel], laidTests := true, laidLooks := .later }
def TopArmsCardSaid : Prop := Claim7.holds Tryz.pinned (.plain (OpenSpec.ofChange topArmsSpec)) topArmsCard

/-- THE TIED CARD OF 'hawsertop.TopOps'. -/
def topOpsCard : Claim7 := { stood := { row := topOpsRow, standIns := [], harness := (true, "cc805e1a66c81131cf55e0730e1835d7aa069edddcc05141c4b7127cf49db3d4"), looks := true }, kinds := [], alts := [], laidByText := true, laidKinds := [.data, .listed, .data, .data, .data, .sentinel, .sentinel], laidTests := true, laidLooks := .later }
def TopOpsCardSaid : Prop := Claim7.holds Tryz.pinned (.plain (OpenSpec.ofChange topOpsSpec)) topOpsCard

/-- THE TIED CARD OF 'hawsertop.TopLess'. -/
def topLessCard : Claim7 := { stood := { row := topLessRow, standIns := [], harness := (true, "cc805e1a66c81131cf55e0730e1835d7aa069edddcc05141c4b7127cf49db3d4"), looks := true }, kinds := [], alts := [], laidByText := true, laidKinds := [.data, .listed, .data, .data, .data, .sentinel, .sentinel], laidTests := true, laidLooks := .later }
def TopLessCardSaid : Prop := Claim7.holds Tryz.pinned (.plain (OpenSpec.ofChange topLessSpec)) topLessCard

/-- THE SECOND FORM's CARD OF 'hawsertop.TopFirst'. -/
def topFirstUptoCard : Claim7 := { stood := { row := topFirstUptoRow, standIns := [], harness := (true, "cc805e1a66c81131cf55e0730e1835d7aa069edddcc05141c4b7127cf49db3d4"), looks := true }, kinds := [], alts := [], laidByText := true, laidKinds := [.data, .listed, .data, .data, .data, .sentinel, .sentinel], laidTests := true, laidLooks := .later }
def TopFirstUptoCardSaid : Prop := Claim7.holds Tryz.pinned (.plain (OpenSpec.upto topFirstSpec)) topFirstUptoCard

/-- THE SECOND FORM's CARD OF 'hawsertop.TopBranches'. -/
def topBranchesUptoCard : Claim7 := { stood := { row := topBranchesUptoRow, standIns := [], harness := (true, "cc805e1a66c81131cf55e0730e1835d7aa069edddcc05141c4b7127cf49db3d4"), looks := true }, kinds := [], alts := [], laidByText := true, laidKinds := [.data, .listed, .data, .data, .data, .sentinel, .sentinel], laidTests := true, laidLooks := .later }
def TopBranchesUptoCardSaid : Prop := Claim7.holds Tryz.pinned (.plain (OpenSpec.upto topBranchesSpec)) topBranchesUptoCard

/-- THE SECOND FORM's CARD OF 'hawsertop.TopClosures'. -/
def topClosuresUptoCard : Claim7 := { stood := { row := topClosuresUptoRow, standIns := [], harness := (true, "cc805e1a66c81131cf55e0730e1835d7aa069edddcc05141c4b7127cf49db3d4"), looks := true }, kinds := [], alts := [], laidByText := true, laidKinds := [.data, .listed, .data, .data, .data, .sentinel, .sentinel], laidTests := true, laidLooks := .later }
def TopClosuresUptoCardSaid : Prop := Claim7.holds Tryz.pinned (.plain (OpenSpec.upto topClosuresSpec)) topClosuresUptoCard

/-- THE SECOND FORM's CARD OF 'hawsertop.TopShadows'. -/
def topShadowsUptoCard : Claim7 := { stood := { row := topShadowsUptoRow, standIns := [], harness := (true, "cc805e1a66c81131cf55e0730e1835d7aa069edddcc05141c4b7127cf49db3d4"), looks := true }, kinds := [], alts := [], laidByText := true, laidKinds := [.data, .listed, .data, .data, .data, .sentinel, .sentinel], laidTests := true, laidLooks := .later }
def TopShadowsUptoCardSaid : Prop := Claim7.holds Tryz.pinned (.plain (OpenSpec.upto topShadowsSpec)) topShadowsUptoCard

/-- THE SECOND FORM's CARD OF 'hawsertop.TopArms'. -/
def topArmsUptoCard : Claim7 := { stood := { row := topArmsUptoRow, standIns := [], harness := (true, "cc805e1a66c81131cf55e0730e1835d7aa069edddcc05141c4b7127cf49db3d4"), looks := true }, kinds := [], alts := [], laidByText := true, laidKinds := [.data, .listed, .data, .data, .data, .sentinel, .sentinel], laidTests := true, laidLooks := .later }
def TopArmsUptoCardSaid : Prop := Claim7.holds Tryz.pinned (.plain (OpenSpec.upto topArmsSpec)) topArmsUptoCard

/-- THE SECOND FORM's CARD OF 'hawsertop.TopOps'. -/
def topOpsUptoCard : Claim7 := { stood := { row := topOpsUptoRow, standIns := [], harness := (true, "cc805e1a66c81131cf55e0730e1835d7aa069edddcc05141c4b7127cf49db3d4"), looks := true }, kinds := [], alts := [], laidByText := true, laidKinds := [.data, .listed, .data, .data, .data, .sentinel, .sentinel], laidTests := true, laidLooks := .later }
def TopOpsUptoCardSaid : Prop := Claim7.holds Tryz.pinned (.plain (OpenSpec.upto topOpsSpec)) topOpsUptoCard

/-- THE SECOND FORM's CARD OF 'hawsertop.TopLess'. -/
def topLessUptoCard : Claim7 := { stood := { row := topLessUptoRow, standIns := [], harness := (true, "cc805e1a66c81131cf55e0730e1835d7aa069edddcc05141c4b7127cf49db3d4"), looks := true }, kinds := [], alts := [], laidByText := true, laidKinds := [.data, .listed, .data, .data, .data, .sentinel, .sentinel], laidTests := true, laidLooks := .later }
def TopLessUptoCardSaid : Prop := Claim7.holds Tryz.pinned (.plain (OpenSpec.upto topLessSpec)) topLessUptoCard
end Rows
end Go.Proofs.YtkkjoomlfmofbaaGreatDoor
