/-
  DERIVED. GIVEN WITH THE SEED: THE CARDS: each row of YtmdandkoajocpaaDoorRows.lean that lists a variable, with what it lists TIED to the program's text (the seventh form; the later family's looks); each row that meets fmt, with fmt's text TOLD by the authors' own Lean function (tested against real Go, not proved from fmt's source: count such statements apart). THE CARD IS WHAT COUNTS. Prove the row's statement (the work); the ties are given (YtmdandkoajocpaaDoorTie.lean); close each card by the builder's one call (the guide's Derived/Test/ToyasCard.lean, 'card_holds'). Laid BY PROGRAM, IN A SANDBOX (cutbox-door.mjs). By AI agents, Wed Nov 11 2026. No macro, syntax, notation, axiom, sorry.
-/
import Derived.Test.YtmdandkoajocpaaDoorRows
import GoSem.ClaimSeven
namespace Go.Proofs.YtmdandkoajocpaaDoor
namespace Rows

/-- THE TIED CARD OF 'amphoralaw13.PackCuts'. -/
def packCutsCard : Claim7 := { stood := { row := packCutsRow, standIns := [], harness := (true, "ff9c1b535b059064925378ff92854631c6e1bfb8ebd97e5eb66cd33e24e02e97"), looks := true }, kinds := [], alts := [], laidByText := true, laidKinds := [.data, .data, .data, .data], laidTests := true, laidLooks := .later }
def PackCutsCardSaid : Prop := Claim7.holds Tryd.pinned (.plain (OpenSpec.ofChange packCutsSpec)) packCutsCard

/-- THE TIED CARD OF 'amphoralaw13.PackBack'. -/
def packBackCard : Claim7 := { stood := { row := packBackRow, standIns := [], harness := (true, "ff9c1b535b059064925378ff92854631c6e1bfb8ebd97e5eb66cd33e24e02e97"), looks := true }, kinds := [], alts := [], laidByText := true, laidKinds := [.data, .data, .data, .data], laidTests := true, laidLooks := .later }
def PackBackCardSaid : Prop := Claim7.holds Tryd.pinned (.plain (OpenSpec.ofChange packBackSpec)) packBackCard

/-- THE SECOND FORM's CARD OF 'amphoralaw13.PackCuts'. -/
def packCutsUptoCard : Claim7 := { stood := { row := packCutsUptoRow, standIns := [], harness := (true, "ff9c1b535b059064925378ff92854631c6e1bfb8ebd97e5eb66cd33e24e02e97"), looks := true }, kinds := [], alts := [], laidByText := true, laidKinds := [.data, .data, .data, .data], laidTests := true, laidLooks := .later }
def PackCutsUptoCardSaid : Prop := Claim7.holds Tryd.pinned (.plain (OpenSpec.upto packCutsSpec)) packCutsUptoCard

/-- THE SECOND FORM's CARD OF 'amphoralaw13.PackBack'. -/
def packBackUptoCard : Claim7 := { stood := { row := packBackUptoRow, standIns := [], harness := (true, "ff9c1b535b059064925378ff92854631c6e1bfb8ebd97e5eb66cd33e24e02e97"), looks := true }, kinds := [], alts := [], laidByText := true, laidKinds := [.data, .data, .data, .data], laidTests := true, laidLooks := .later }
def PackBackUptoCardSaid : Prop := Claim7.holds Tryd.pinned (.plain (OpenSpec.upto packBackSpec)) packBackUptoCard
end Rows
end Go.Proofs.YtmdandkoajocpaaDoor
