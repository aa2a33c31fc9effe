/-
  DERIVED. GIVEN WITH THE SEED: THE CARDS: each row of YtmdandkoajocpaaGreatDoorRows.lean that lists a variable, with what it lists TIED to the program's text (the seventh form; the later family's looks); each row that meets fmt, with fmt's text TOLD by the authors' own Lean function (tested against real Go, not proved from fmt's source: count such statements apart). THE CARD IS WHAT COUNTS. Prove the row's statement (the work); the ties are given (YtmdandkoajocpaaGreatDoorTie.lean); close each card by the builder's one call (the guide's Derived/Test/ToyasCard.lean, 'card_holds'). Laid BY PROGRAM, IN A SANDBOX (cutbox-door.mjs). By AI agents, Wed Nov 11 2026. No macro, syntax, notation, axiom, sorry.
-/
import Derived.Test.YtmdandkoajocpaaGreatDoorRows
import GoSem.ClaimSeven
namespace Go.Proofs.YtmdandkoajocpaaGreatDoor
namespace Rows

/-- THE TIED CARD OF 'amphoralaw13.PackBuilds'. -/
def packBuildsCard : Claim7 := { stood := { row := packBuildsRow, standIns := [], harness := (true, "e09152dd813c9511dd311ecc0495a846e84a89b5d2e70ad1a2283f0787b86e33"), looks := true }, kinds := [], alts := [], laidByText := true, laidKinds := [.data, .data, .data, .data], laidTests := true, laidLooks := .later }
def PackBuildsCardSaid : Prop := Claim7.holds Tryz.pinned (.plain (OpenSpec.ofChange packBuildsSpec)) packBuildsCard

/-- THE TIED CARD OF 'amphoralaw13.PackNames'. -/
def packNamesCard : Claim7 := { stood := { row := packNamesRow, standIns := [], harness := (true, "e09152dd813c9511dd311ecc0495a846e84a89b5d2e70ad1a2283f0787b86e33"), looks := true }, kinds := [], alts := [], laidByText := true, laidKinds := [.data, .data, .data, .data, .sentinel, .sentinel], laidTests := true, laidLooks := .later }
def PackNamesCardSaid : Prop := Claim7.holds Tryz.pinned (.plain (OpenSpec.ofChange packNamesSpec)) packNamesCard

/-- THE TIED CARD OF 'amphoralaw13.PackTears'. -/
def packTearsCard : Claim7 := { stood := { row := packTearsRow, standIns := [], harness := (true, "e09152dd813c9511dd311ecc0495a846e84a89b5d2e70ad1a2283f0787b86e33"), looks := true }, kinds := [], alts := [], laidByText := true, laidKinds := [.data, .data, .data, .data], laidTests := true, laidLooks := .later }
def PackTearsCardSaid : Prop := Claim7.holds Tryz.pinned (.plain (OpenSpec.ofChange packTearsSpec)) packTearsCard

/-- THE TIED CARD OF 'amphoralaw13.PackSaves'. -/
def packSavesCard : Claim7 := { stood := { row := packSavesRow, standIns := [], harness := (true, "e09152dd813c9511dd311ecc0495a846e84a89b5d2e70ad1a2283f0787b86e33"), looks := true }, kinds := [], alts := [], laidByText := true, laidKinds := [.data, .data, .data, .data], laidTests := true, laidLooks := .later }
def PackSavesCardSaid : Prop := Claim7.holds Tryz.pinned (.plain (OpenSpec.ofChange packSavesSpec)) packSavesCard

/-- THE SECOND FORM's CARD OF 'amphoralaw13.PackBuilds'. -/
def packBuildsUptoCard : Claim7 := { stood := { row := packBuildsUptoRow, standIns := [], harness := (true, "e09152dd813c9511dd311ecc0495a846e84a89b5d2e70ad1a2283f0787b86e33"), looks := true }, kinds := [], alts := [], laidByText := true, laidKinds := [.data, .data, .data, .data], laidTests := true, laidLooks := .later }
def PackBuildsUptoCardSaid : Prop := Claim7.holds Tryz.pinned (.plain (OpenSpec.upto packBuildsSpec)) packBuildsUptoCard

/-- THE SECOND FORM's CARD OF 'amphoralaw13.PackNames'. -/
def packNamesUptoCard : Claim7 := { stood := { row := packNamesUptoRow, standIns := [], harness := (true, "e09152dd813c9511dd311ecc0495a846e84a89b5d2e70ad1a2283f0787b86e33"), looks := true }, kinds := [], alts := [], laidByText := true, laidKinds := [.data, .data, .data, .data, .sentinel, .sentinel], laidTests := true, laidLooks := .later }
def PackNamesUptoCardSaid : Prop := Claim7.holds Tryz.pinned (.plain (OpenSpec.upto packNamesSpec)) packNamesUptoCard

/-- THE SECOND FORM's CARD OF 'amphoralaw13.PackTears'. -/
def packTearsUptoCard : Claim7 := { stood := { row := packTearsUptoRow, standIns := [], harness := (true, "e09152dd813c9511dd311ecc0495a846e84a89b5d2e70ad1a2283f0787b86e33"), looks := true }, kinds := [], alts := [], laidByText := true, laidKinds := [.data, .data, .data, .data], laidTests := true, laidLooks := .later }
def PackTearsUptoCardSaid : Prop := Claim7.holds Tryz.pinned (.plain (OpenSpec.upto packTearsSpec)) packTearsUptoCard

/-- THE SECOND FORM's CARD OF 'amphoralaw13.PackSaves'. -/
def packSavesUptoCard : Claim7 := { stood := { row := packSavesUptoRow, standIns := [], harness := (true, "e09152dd813c9511dd311ecc0495a846e84a89b5d2e70ad1a2283f0787b86e33"), looks := true }, kinds := [], alts := [], laidByText := true, laidKinds := [.data, .data, .data, .data], laidTests := true, laidLooks := .later }
def PackSavesUptoCardSaid : Prop := Claim7.holds Tryz.pinned (.plain (OpenSpec.upto packSavesSpec)) packSavesUptoCard
end Rows
end Go.Proofs.YtmdandkoajocpaaGreatDoor
