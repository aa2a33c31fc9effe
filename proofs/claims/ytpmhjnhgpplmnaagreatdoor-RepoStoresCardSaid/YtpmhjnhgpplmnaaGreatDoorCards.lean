/-
  DERIVED. GIVEN WITH THE SEED: THE CARDS: each row of YtpmhjnhgpplmnaaGreatDoorRows.lean that lists a variable, with what it lists TIED to the program's text (the seventh form; the later family's looks); each row that meets fmt, with fmt's text TOLD by the authors' own Lean function (tested against real Go, not proved from fmt's source: count such statements apart). THE CARD IS WHAT COUNTS. Prove the row's statement (the work); the ties are given (YtpmhjnhgpplmnaaGreatDoorTie.lean); close each card by the builder's one call (the guide's Derived/Test/ToyasCard.lean, 'card_holds'). Laid BY PROGRAM, IN A SANDBOX (cutbox-door.mjs). By AI agents, Wed Nov 11 2026. No macro, syntax, notation, axiom, sorry.
-/
import Derived.Test.YtpmhjnhgpplmnaaGreatDoorRows
import GoSem.ClaimSeven
namespace Go.Proofs.YtpmhjnhgpplmnaaGreatDoor
namespace Rows

/-- THE TIED CARD OF 'amphoralaw18.GcCuts'. -/
def gcCutsCard : Claim7 := { stood := { row := gcCutsRow, standIns := [], harness := (true, "14bf6e51caa61d7352e71dbf4262201fa290bd05a248db6f663f0538488572c5"), looks := true }, kinds := [], alts := [], laidByText := true, laidKinds := [.data, .data, .data, .data, .sentinel, .sentinel], laidTests := true, laidLooks := .later }
def GcCutsCardSaid : Prop := Claim7.holds Tryz.pinned (.plain (OpenSpec.ofChange gcCutsSpec)) gcCutsCard

/-- THE TIED CARD OF 'amphoralaw16.CatalogNames'. -/
def catalogNamesCard : Claim7 := { stood := { row := catalogNamesRow, standIns := [], harness := (true, "14bf6e51caa61d7352e71dbf4262201fa290bd05a248db6f663f0538488572c5"), looks := true }, kinds := [], alts := [], laidByText := true, laidKinds := [.data, .data, .data, .data, .sentinel, .sentinel], laidTests := true, laidLooks := .later }
def CatalogNamesCardSaid : Prop := Claim7.holds Tryz.pinned (.plain (OpenSpec.ofChange catalogNamesSpec)) catalogNamesCard

/-- THE TIED CARD OF 'amphoralaw16.CatalogForms'. -/
def catalogFormsCard : Claim7 := { stood := { row := catalogFormsRow, standIns := [], harness := (true, "14bf6e51caa61d7352e71dbf4262201fa290bd05a248db6f663f0538488572c5"), looks := true }, kinds := [], alts := [], laidByText := true, laidKinds := [.data, .data, .data, .data, .sentinel, .sentinel], laidTests := true, laidLooks := .later }
def CatalogFormsCardSaid : Prop := Claim7.holds Tryz.pinned (.plain (OpenSpec.ofChange catalogFormsSpec)) catalogFormsCard

/-- THE TIED CARD OF 'amphoralaw18.GcLeaves'. -/
def gcLeavesCard : Claim7 := { stood := { row := gcLeavesRow, standIns := [], harness := (true, "14bf6e51caa61d7352e71dbf4262201fa290bd05a248db6f663f0538488572c5"), looks := true }, kinds := [], alts := [], laidByText := true, laidKinds := [.data, .data, .data, .data, .sentinel, .sentinel], laidTests := true, laidLooks := .later }
def GcLeavesCardSaid : Prop := Claim7.holds Tryz.pinned (.plain (OpenSpec.ofChange gcLeavesSpec)) gcLeavesCard

/-- THE TIED CARD OF 'amphoralaw18.GcNone'. -/
def gcNoneCard : Claim7 := { stood := { row := gcNoneRow, standIns := [], harness := (true, "14bf6e51caa61d7352e71dbf4262201fa290bd05a248db6f663f0538488572c5"), looks := true }, kinds := [], alts := [], laidByText := true, laidKinds := [.data, .data, .data, .data, .sentinel, .sentinel], laidTests := true, laidLooks := .later }
def GcNoneCardSaid : Prop := Claim7.holds Tryz.pinned (.plain (OpenSpec.ofChange gcNoneSpec)) gcNoneCard

/-- THE TIED CARD OF 'amphoralaw17.RepoStores'. -/
def repoStoresCard : Claim7 := { stood := { row := repoStoresRow, standIns := [], harness := (true, "14bf6e51caa61d7352e71dbf4262201fa290bd05a248db6f663f0538488572c5"), looks := true }, kinds := [], alts := [], laidByText := true, laidKinds := [.data, .data, .data, .data, .sentinel, .sentinel], laidTests := true, laidLooks := .later }
def RepoStoresCardSaid : Prop := Claim7.holds Tryz.pinned (.plain (OpenSpec.ofChange repoStoresSpec)) repoStoresCard

/-- THE TIED CARD OF 'amphoralaw17.RepoNone'. -/
def repoNoneCard : Claim7 := { stood := { row := repoNoneRow, standIns := [], harness := (true, "14bf6e51caa61d7352e71dbf4262201fa290bd05a248db6f663f0538488572c5"), looks := true }, kinds := [], alts := [], laidByText := true, laidKinds := [.data, .data, .data, .data, .sentinel, .sentinel], laidTests := true, laidLooks := .later }
def RepoNoneCardSaid : Prop := Claim7.holds Tryz.pinned (.plain (OpenSpec.ofChange repoNoneSpec)) repoNoneCard

/-- THE TIED CARD OF 'amphoralaw17.RepoTwice'. -/
def repoTwiceCard : Claim7 := { stood := { row := repoTwiceRow, standIns := [], harness := (true, "14bf6e51caa61d7352e71dbf4262201fa290bd05a248db6f663f0538488572c5"), looks := true }, kinds := [], alts := [], laidByText := true, laidKinds := [.data, .data, .data, .data, .sentinel, .sentinel], laidTests := true, laidLooks := .later }
def RepoTwiceCardSaid : Prop := Claim7.holds Tryz.pinned (.plain (OpenSpec.ofChange repoTwiceSpec)) repoTwiceCard

/-- THE TIED CARD OF 'amphoralaw17.RepoCuts'. -/
def repoCutsCard : Claim7 := { stood := { row := repoCutsRow, standIns := [], harness := (true, "14bf6e51caa61d7352e71dbf4262201fa290bd05a248db6f663f0538488572c5"), looks := true }, kinds := [], alts := [], laidByText := true, laidKinds := [.data, .data, .data, .data, .sentinel, .sentinel], laidTests := true, laidLooks := .later }
def RepoCutsCardSaid : Prop := Claim7.holds Tryz.pinned (.plain (OpenSpec.ofChange repoCutsSpec)) repoCutsCard

/-- THE SECOND FORM's CARD OF 'amphoralaw18.GcCuts'. -/
def gcCutsUptoCard : Claim7 := { stood := { row := gcCutsUptoRow, standIns := [], harness := (true, "14bf6e51caa61d7352e71dbf4262201fa290bd05a248db6f663f0538488572c5"), looks := true }, kinds := [], alts := [], laidByText := true, laidKinds := [.data, .data, .data, .data, .sentinel, .sentinel], laidTests := true, laidLooks := .later }
def GcCutsUptoCardSaid : Prop := Claim7.holds Tryz.pinned (.plain (OpenSpec.upto gcCutsSpec)) gcCutsUptoCard

/-- THE SECOND FORM's CARD OF 'amphoralaw16.CatalogNames'. -/
def catalogNamesUptoCard : Claim7 := { stood := { row := catalogNamesUptoRow, standIns := [], harness := (true, "14bf6e51caa61d7352e71dbf4262201fa290bd05a248db6f663f0538488572c5"), looks := true }, kinds := [], alts := [], laidByText := true, laidKinds := [.data, .data, .data, .data, .sentinel, .sentinel], laidTests := true, laidLooks := .later }
def CatalogNamesUptoCardSaid : Prop := Claim7.holds Tryz.pinned (.plain (OpenSpec.upto catalogNamesSpec)) catalogNamesUptoCard

/-- THE SECOND FORM's CARD OF 'amphoralaw16.CatalogForms'. -/
def catalogFormsUptoCard : Claim7 := { stood := { row := catalogFormsUptoRow, standIns := [], harness := (true, "14bf6e51caa61d7352e71dbf4262201fa290bd05a248db6f663f0538488572c5"), looks := true }, kinds := [], alts := [], laidByText := true, laidKinds := [.data, .data, .data, .data, .sentinel, .sentinel], laidTests := true, laidLooks := .later }
def CatalogFormsUptoCardSaid : Prop := Claim7.holds Tryz.pinned (.plain (OpenSpec.upto catalogFormsSpec)) catalogFormsUptoCard

/-- THE SECOND FORM's CARD OF 'amphoralaw18.GcLeaves'. -/
def gcLeavesUptoCard : Claim7 := { stood := { row := gcLeavesUptoRow, standIns := [], harness := (true, "14bf6e51caa61d7352e71dbf4262201fa290bd05a248db6f663f0538488572c5"), looks := true }, kinds := [], alts := [], laidByText := true, laidKinds := [.data, .data, .data, .data, .sentinel, .sentinel], laidTests := true, laidLooks := .later }
def GcLeavesUptoCardSaid : Prop := Claim7.holds Tryz.pinned (.plain (OpenSpec.upto gcLeavesSpec)) gcLeavesUptoCard

/-- THE SECOND FORM's CARD OF 'amphoralaw18.GcNone'. -/
def gcNoneUptoCard : Claim7 := { stood := { row := gcNoneUptoRow, standIns := [], harness := (true, "14bf6e51caa61d7352e71dbf4262201fa290bd05a248db6f663f0538488572c5"), looks := true }, kinds := [], alts := [], laidByText := true, laidKinds := [.data, .data, .data, .data, .sentinel, .sentinel], laidTests := true, laidLooks := .later }
def GcNoneUptoCardSaid : Prop := Claim7.holds Tryz.pinned (.plain (OpenSpec.upto gcNoneSpec)) gcNoneUptoCard

/-- THE SECOND FORM's CARD OF 'amphoralaw17.RepoStores'. -/
def repoStoresUptoCard : Claim7 := { stood := { row := repoStoresUptoRow, standIns := [], harness := (true, "14bf6e51caa61d7352e71dbf4262201fa290bd05a248db6f663f0538488572c5"), looks := true }, kinds := [], alts := [], laidByText := true, laidKinds := [.data, .data, .data, .data, .sentinel, .sentinel], laidTests := true, laidLooks := .later }
def RepoStoresUptoCardSaid : Prop := Claim7.holds Tryz.pinned (.plain (OpenSpec.upto repoStoresSpec)) repoStoresUptoCard

/-- THE SECOND FORM's CARD OF 'amphoralaw17.RepoNone'. -/
def repoNoneUptoCard : Claim7 := { stood := { row := repoNoneUptoRow, standIns := [], harness := (true, "14bf6e51caa61d7352e71dbf4262201fa290bd05a248db6f663f0538488572c5"), looks := true }, kinds := [], alts := [], laidByText := true, laidKinds := [.data, .data, .data, .data, .sentinel, .sentinel], laidTests := true, laidLooks := .later }
def RepoNoneUptoCardSaid : Prop := Claim7.holds Tryz.pinned (.plain (OpenSpec.upto repoNoneSpec)) repoNoneUptoCard

/-- THE SECOND FORM's CARD OF 'amphoralaw17.RepoTwice'. -/
def repoTwiceUptoCard : Claim7 := { stood := { row := repoTwiceUptoRow, standIns := [], harness := (true, "14bf6e51caa61d7352e71dbf4262201fa290bd05a248db6f663f0538488572c5"), looks := true }, kinds := [], alts := [], laidByText := true, laidKinds := [.data, .data, .data, .data, .sentinel, .sentinel], laidTests := true, laidLooks := .later }
def RepoTwiceUptoCardSaid : Prop := Claim7.holds Tryz.pinned (.plain (OpenSpec.upto repoTwiceSpec)) repoTwiceUptoCard

/-- THE SECOND FORM's CARD OF 'amphoralaw17.RepoCuts'. -/
def repoCutsUptoCard : Claim7 := { stood := { row := repoCutsUptoRow, standIns := [], harness := (true, "14bf6e51caa61d7352e71dbf4262201fa290bd05a248db6f663f0538488572c5"), looks := true }, kinds := [], alts := [], laidByText := true, laidKinds := [.data, .data, .data, .data, .sentinel, .sentinel], laidTests := true, laidLooks := .later }
def RepoCutsUptoCardSaid : Prop := Claim7.holds Tryz.pinned (.plain (OpenSpec.upto repoCutsSpec)) repoCutsUptoCard
end Rows
end Go.Proofs.YtpmhjnhgpplmnaaGreatDoor
