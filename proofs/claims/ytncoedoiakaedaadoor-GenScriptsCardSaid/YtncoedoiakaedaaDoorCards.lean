/-
  DERIVED. GIVEN WITH THE SEED: THE CARDS: each row of YtncoedoiakaedaaDoorRows.lean that lists a variable, with what it lists TIED to the program's text (the seventh form; the later family's looks); each row that meets fmt, with fmt's text TOLD by the authors' own Lean function (tested against real Go, not proved from fmt's source: count such statements apart). THE CARD IS WHAT COUNTS. Prove the row's statement (the work); the ties are given (YtncoedoiakaedaaDoorTie.lean); close each card by the builder's one call (the guide's Derived/Test/ToyasCard.lean, 'card_holds'). Laid BY PROGRAM, IN A SANDBOX (cutbox-door.mjs). By AI agents, Wed Nov 11 2026. No macro, syntax, notation, axiom, sorry.
-/
import Derived.Test.YtncoedoiakaedaaDoorRows
import GoSem.ClaimSeven
namespace Go.Proofs.YtncoedoiakaedaaDoor
namespace Rows

/-- THE TIED CARD OF 'cuecardlaw19.GenScripts'. -/
def genScriptsCard : Claim7 := { stood := { row := genScriptsRow, standIns := [], harness := (true, "aa2d360bb8c219668fa60a5f942e382df483779e2c1515b2947038235e529a4d"), looks := false }, kinds := [], alts := [], laidByText := true, laidKinds := [.data, .data, .data], laidTests := true, laidLooks := .later }
def GenScriptsCardSaid : Prop := Claim7.holds Tryd.pinned (.plain (OpenSpec.ofChange genScriptsSpec)) genScriptsCard

/-- THE TIED CARD OF 'cuecardlaw19.GenCuts'. -/
def genCutsCard : Claim7 := { stood := { row := genCutsRow, standIns := [], harness := (true, "aa2d360bb8c219668fa60a5f942e382df483779e2c1515b2947038235e529a4d"), looks := false }, kinds := [], alts := [], laidByText := true, laidKinds := [.data, .data, .data], laidTests := true, laidLooks := .later }
def GenCutsCardSaid : Prop := Claim7.holds Tryd.pinned (.plain (OpenSpec.ofChange genCutsSpec)) genCutsCard

/-- THE TIED CARD OF 'cuecardlaw19.GenTurns'. -/
def genTurnsCard : Claim7 := { stood := { row := genTurnsRow, standIns := [], harness := (true, "aa2d360bb8c219668fa60a5f942e382df483779e2c1515b2947038235e529a4d"), looks := false }, kinds := [], alts := [], laidByText := true, laidKinds := [.data, .data, .data], laidTests := true, laidLooks := .later }
def GenTurnsCardSaid : Prop := Claim7.holds Tryd.pinned (.plain (OpenSpec.ofChange genTurnsSpec)) genTurnsCard

/-- THE TIED CARD OF 'cuecardlaw19.GenMeans'. -/
def genMeansCard : Claim7 := { stood := { row := genMeansRow, standIns := [], harness := (true, "aa2d360bb8c219668fa60a5f942e382df483779e2c1515b2947038235e529a4d"), looks := false }, kinds := [], alts := [], laidByText := true, laidKinds := [.data, .data, .data], laidTests := true, laidLooks := .later }
def GenMeansCardSaid : Prop := Claim7.holds Tryd.pinned (.plain (OpenSpec.ofChange genMeansSpec)) genMeansCard

/-- THE TIED CARD OF 'cuecardlaw19.GenActions'. -/
def genActionsCard : Claim7 := { stood := { row := genActionsRow, standIns := [], harness := (true, "aa2d360bb8c219668fa60a5f942e382df483779e2c1515b2947038235e529a4d"), looks := false }, kinds := [], alts := [], laidByText := true, laidKinds := [.data, .data, .data], laidTests := true, laidLooks := .later }
def GenActionsCardSaid : Prop := Claim7.holds Tryd.pinned (.plain (OpenSpec.ofChange genActionsSpec)) genActionsCard

/-- THE TIED CARD OF 'cuecardlaw19.GenOne'. -/
def genOneCard : Claim7 := { stood := { row := genOneRow, standIns := [], harness := (true, "aa2d360bb8c219668fa60a5f942e382df483779e2c1515b2947038235e529a4d"), looks := false }, kinds := [], alts := [], laidByText := true, laidKinds := [.data, .data, .data], laidTests := true, laidLooks := .later }
def GenOneCardSaid : Prop := Claim7.holds Tryd.pinned (.plain (OpenSpec.ofChange genOneSpec)) genOneCard

/-- THE SECOND FORM's CARD OF 'cuecardlaw19.GenScripts'. -/
def genScriptsUptoCard : Claim7 := { stood := { row := genScriptsUptoRow, standIns := [], harness := (true, "aa2d360bb8c219668fa60a5f942e382df483779e2c1515b2947038235e529a4d"), looks := false }, kinds := [], alts := [], laidByText := true, laidKinds := [.data, .data, .data], laidTests := true, laidLooks := .later }
def GenScriptsUptoCardSaid : Prop := Claim7.holds Tryd.pinned (.plain (OpenSpec.upto genScriptsSpec)) genScriptsUptoCard

/-- THE SECOND FORM's CARD OF 'cuecardlaw19.GenCuts'. -/
def genCutsUptoCard : Claim7 := { stood := { row := genCutsUptoRow, standIns := [], harness := (true, "aa2d360bb8c219668fa60a5f942e382df483779e2c1515b2947038235e529a4d"), looks := false }, kinds := [], alts := [], laidByText := true, laidKinds := [.data, .data, .data], laidTests := true, laidLooks := .later }
def GenCutsUptoCardSaid : Prop := Claim7.holds Tryd.pinned (.plain (OpenSpec.upto genCutsSpec)) genCutsUptoCard

/-- THE SECOND FORM's CARD OF 'cuecardlaw19.GenTurns'. -/
def genTurnsUptoCard : Claim7 := { stood := { row := genTurnsUptoRow, standIns := [], harness := (true, "aa2d360bb8c219668fa60a5f942e382df483779e2c1515b2947038235e529a4d"), looks := false }, kinds := [], alts := [], laidByText := true, laidKinds := [.data, .data, .data], laidTests := true, laidLooks := .later }
def GenTurnsUptoCardSaid : Prop := Claim7.holds Tryd.pinned (.plain (OpenSpec.upto genTurnsSpec)) genTurnsUptoCard

/-- THE SECOND FORM's CARD OF 'cuecardlaw19.GenMeans'. -/
def genMeansUptoCard : Claim7 := { stood := { row := genMeansUptoRow, standIns := [], harness := (true, "aa2d360bb8c219668fa60a5f942e382df483779e2c1515b2947038235e529a4d"), looks := false }, kinds := [], alts := [], laidByText := true, laidKinds := [.data, .data, .data], laidTests := true, laidLooks := .later }
def GenMeansUptoCardSaid : Prop := Claim7.holds Tryd.pinned (.plain (OpenSpec.upto genMeansSpec)) genMeansUptoCard

/-- THE SECOND FORM's CARD OF 'cuecardlaw19.GenActions'. -/
def genActionsUptoCard : Claim7 := { stood := { row := genActionsUptoRow, standIns := [], harness := (true, "aa2d360bb8c219668fa60a5f942e382df483779e2c1515b2947038235e529a4d"), looks := false }, kinds := [], alts := [], laidByText := true, laidKinds := [.data, .data, .data], laidTests := true, laidLooks := .later }
def GenActionsUptoCardSaid : Prop := Claim7.holds Tryd.pinned (.plain (OpenSpec.upto genActionsSpec)) genActionsUptoCard

/-- THE SECOND FORM's CARD OF 'cuecardlaw19.GenOne'. -/
def genOneUptoCard : Claim7 := { stood := { row := genOneUptoRow, standIns := [], harness := (true, "aa2d360bb8c219668fa60a5f942e382df483779e2c1515b2947038235e529a4d"), looks := false }, kinds := [], alts := [], laidByText := true, laidKinds := [.data, .data, .data], laidTests := true, laidLooks := .later }
def GenOneUptoCardSaid : Prop := Claim7.holds Tryd.pinned (.plain (OpenSpec.upto genOneSpec)) genOneUptoCard
end Rows
end Go.Proofs.YtncoedoiakaedaaDoor
