/-
  DERIVED. GIVEN WITH THE SEED: THE CARDS: each row of YtncagcbdgimpfaaDoorRows.lean that lists a variable, with what it lists TIED to the program's text (the seventh form; the later family's looks); each row that meets fmt, with fmt's text TOLD by the authors' own Lean function (tested against real Go, not proved from fmt's source: count such statements apart). THE CARD IS WHAT COUNTS. Prove the row's statement (the work); the ties are given (YtncagcbdgimpfaaDoorTie.lean); close each card by the builder's one call (the guide's Derived/Test/ToyasCard.lean, 'card_holds'). Laid BY PROGRAM, IN A SANDBOX (cutbox-door.mjs). By AI agents, Wed Nov 11 2026. No macro, syntax, notation, axiom, sorry.
-/
import Derived.Test.YtncagcbdgimpfaaDoorRows
import GoSem.ClaimSeven
namespace Go.Proofs.YtncagcbdgimpfaaDoor
namespace Rows

/-- THE TIED CARD OF 'sacristanlaw15.PathParses'. -/
def pathParsesCard : Claim7 := { stood := { row := pathParsesRow, standIns := [], harness := (true, "1f5eb78aa74dd5b1028610dd0d2dfc2d7bb888832ccce53dc8469ced1246433b"), looks := false }, kinds := [], alts := [], laidByText := true, laidKinds := [.data, .pinned], laidTests := true, laidLooks := .later }
def PathParsesCardSaid : Prop := Claim7.holds Tryd.pinned (.plain (OpenSpec.ofChange pathParsesSpec)) pathParsesCard

/-- THE TIED CARD OF 'sacristanlaw15.PathLong'. -/
def pathLongCard : Claim7 := { stood := { row := pathLongRow, standIns := [], harness := (true, "1f5eb78aa74dd5b1028610dd0d2dfc2d7bb888832ccce53dc8469ced1246433b"), looks := false }, kinds := [], alts := [], laidByText := true, laidKinds := [.data, .pinned], laidTests := true, laidLooks := .later }
def PathLongCardSaid : Prop := Claim7.holds Tryd.pinned (.plain (OpenSpec.ofChange pathLongSpec)) pathLongCard

/-- THE TIED CARD OF 'sacristanlaw15.PathNames'. -/
def pathNamesCard : Claim7 := { stood := { row := pathNamesRow, standIns := [], harness := (true, "1f5eb78aa74dd5b1028610dd0d2dfc2d7bb888832ccce53dc8469ced1246433b"), looks := false }, kinds := [], alts := [], laidByText := true, laidKinds := [.data, .pinned], laidTests := true, laidLooks := .later }
def PathNamesCardSaid : Prop := Claim7.holds Tryd.pinned (.plain (OpenSpec.ofChange pathNamesSpec)) pathNamesCard

/-- THE TIED CARD OF 'sacristanlaw15.PathBack'. -/
def pathBackCard : Claim7 := { stood := { row := pathBackRow, standIns := [], harness := (true, "1f5eb78aa74dd5b1028610dd0d2dfc2d7bb888832ccce53dc8469ced1246433b"), looks := false }, kinds := [], alts := [], laidByText := true, laidKinds := [.data, .pinned], laidTests := true, laidLooks := .later }
def PathBackCardSaid : Prop := Claim7.holds Tryd.pinned (.plain (OpenSpec.ofChange pathBackSpec)) pathBackCard

/-- THE TIED CARD OF 'sacristanlaw15.PathJoins'. -/
def pathJoinsCard : Claim7 := { stood := { row := pathJoinsRow, standIns := [], harness := (true, "1f5eb78aa74dd5b1028610dd0d2dfc2d7bb888832ccce53dc8469ced1246433b"), looks := false }, kinds := [], alts := [], laidByText := true, laidKinds := [.data, .pinned], laidTests := true, laidLooks := .later }
def PathJoinsCardSaid : Prop := Claim7.holds Tryd.pinned (.plain (OpenSpec.ofChange pathJoinsSpec)) pathJoinsCard

/-- THE TIED CARD OF 'sacristanlaw15.PathTells'. -/
def pathTellsCard : Claim7 := { stood := { row := pathTellsRow, standIns := [], harness := (true, "1f5eb78aa74dd5b1028610dd0d2dfc2d7bb888832ccce53dc8469ced1246433b"), looks := false }, kinds := [], alts := [], laidByText := true, laidKinds := [.data, .pinned], laidTests := true, laidLooks := .later }
def PathTellsCardSaid : Prop := Claim7.holds Tryd.pinned (.plain (OpenSpec.ofChange pathTellsSpec)) pathTellsCard

/-- THE TIED CARD OF 'sacristanlaw15.PathLast'. -/
def pathLastCard : Claim7 := { stood := { row := pathLastRow, standIns := [], harness := (true, "1f5eb78aa74dd5b1028610dd0d2dfc2d7bb888832ccce53dc8469ced1246433b"), looks := false }, kinds := [], alts := [], laidByText := true, laidKinds := [.data, .pinned], laidTests := true, laidLooks := .later }
def PathLastCardSaid : Prop := Claim7.holds Tryd.pinned (.plain (OpenSpec.ofChange pathLastSpec)) pathLastCard

/-- THE SECOND FORM's CARD OF 'sacristanlaw15.PathParses'. -/
def pathParsesUptoCard : Claim7 := { stood := { row := pathParsesUptoRow, standIns := [], harness := (true, "1f5eb78aa74dd5b1028610dd0d2dfc2d7bb888832ccce53dc8469ced1246433b"), looks := false }, kinds := [], alts := [], laidByText := true, laidKinds := [.data, .pinned], laidTests := true, laidLooks := .later }
def PathParsesUptoCardSaid : Prop := Claim7.holds Tryd.pinned (.plain (OpenSpec.upto pathParsesSpec)) pathParsesUptoCard

/-- THE SECOND FORM's CARD OF 'sacristanlaw15.PathLong'. -/
def pathLongUptoCard : Claim7 := { stood := { row := pathLongUptoRow, standIns := [], harness := (true, "1f5eb78aa74dd5b1028610dd0d2dfc2d7bb888832ccce53dc8469ced1246433b"), looks := false }, kinds := [], alts := [], laidByText := true, laidKinds := [.data, .pinned], laidTests := true, laidLooks := .later }
def PathLongUptoCardSaid : Prop := Claim7.holds Tryd.pinned (.plain (OpenSpec.upto pathLongSpec)) pathLongUptoCard

/-- THE SECOND FORM's CARD OF 'sacristanlaw15.PathNames'. -/
def pathNamesUptoCard : Claim7 := { stood := { row := pathNamesUptoRow, standIns := [], harness := (true, "1f5eb78aa74dd5b1028610dd0d2dfc2d7bb888832ccce53dc8469ced1246433b"), looks := false }, kinds := [], alts := [], laidByText := true, laidKinds := [.data, .pinned], laidTests := true, laidLooks := .later }
def PathNamesUptoCardSaid : Prop := Claim7.holds Tryd.pinned (.plain (OpenSpec.upto pathNamesSpec)) pathNamesUptoCard

/-- THE SECOND FORM's CARD OF 'sacristanlaw15.PathBack'. -/
def pathBackUptoCard : Claim7 := { stood := { row := pathBackUptoRow, standIns := [], harness := (true, "1f5eb78aa74dd5b1028610dd0d2dfc2d7bb888832ccce53dc8469ced1246433b"), looks := false }, kinds := [], alts := [], laidByText := true, laidKinds := [.data, .pinned], laidTests := true, laidLooks := .later }
def PathBackUptoCardSaid : Prop := Claim7.holds Tryd.pinned (.plain (OpenSpec.upto pathBackSpec)) pathBackUptoCard

/-- THE SECOND FORM's CARD OF 'sacristanlaw15.PathJoins'. -/
def pathJoinsUptoCard : Claim7 := { stood := { row := pathJoinsUptoRow, standIns := [], harness := (true, "1f5eb78aa74dd5b1028610dd0d2dfc2d7bb888832ccce53dc8469ced1246433b"), looks := false }, kinds := [], alts := [], laidByText := true, laidKinds := [.data, .pinned], laidTests := true, laidLooks := .later }
def PathJoinsUptoCardSaid : Prop := Claim7.holds Tryd.pinned (.plain (OpenSpec.upto pathJoinsSpec)) pathJoinsUptoCard

/-- THE SECOND FORM's CARD OF 'sacristanlaw15.PathTells'. -/
def pathTellsUptoCard : Claim7 := { stood := { row := pathTellsUptoRow, standIns := [], harness := (true, "1f5eb78aa74dd5b1028610dd0d2dfc2d7bb888832ccce53dc8469ced1246433b"), looks := false }, kinds := [], alts := [], laidByText := true, laidKinds := [.data, .pinned], laidTests := true, laidLooks := .later }
def PathTellsUptoCardSaid : Prop := Claim7.holds Tryd.pinned (.plain (OpenSpec.upto pathTellsSpec)) pathTellsUptoCard

/-- THE SECOND FORM's CARD OF 'sacristanlaw15.PathLast'. -/
def pathLastUptoCard : Claim7 := { stood := { row := pathLastUptoRow, standIns := [], harness := (true, "1f5eb78aa74dd5b1028610dd0d2dfc2d7bb888832ccce53dc8469ced1246433b"), looks := false }, kinds := [], alts := [], laidByText := true, laidKinds := [.data, .pinned], laidTests := true, laidLooks := .later }
def PathLastUptoCardSaid : Prop := Claim7.holds Tryd.pinned (.plain (OpenSpec.upto pathLastSpec)) pathLastUptoCard
end Rows
end Go.Proofs.YtncagcbdgimpfaaDoor
