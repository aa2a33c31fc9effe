/-
  DERIVED. GIVEN WITH THE SEED: THE CARDS: each row of YtefnlbgkfingfaaDoorRows.lean that lists a variable, with what it lists TIED to the program's text (the seventh form; the later family's looks); each row that meets fmt, with fmt's text TOLD by the authors' own Lean function (tested against real Go, not proved from fmt's source: count such statements apart). THE CARD IS WHAT COUNTS. Prove the row's statement (the work); the ties are given (YtefnlbgkfingfaaDoorTie.lean); close each card by the builder's one call (the guide's Derived/Test/ToyasCard.lean, 'card_holds'). Laid BY PROGRAM, IN A SANDBOX (cutbox-door.mjs). By AI agents, Wed Nov 11 2026. No macro, syntax, notation, axiom, sorry.
-/
import Derived.Test.YtefnlbgkfingfaaDoorRows
import GoSem.ClaimSeven
namespace Go.Proofs.YtefnlbgkfingfaaDoor
namespace Rows

/-- THE TIED CARD OF 'amphoralaw15.ManifestBuilds'. -/
def manifestBuildsCard : Claim7 := { stood := { row := manifestBuildsRow, standIns := [], harness := (true, "e4455d904cacac463c2537ae87cb80b913aaef268b383272f4cc470cb53630e6"), looks := true }, kinds := [], alts := [], laidByText := true, laidKinds := [.data], laidTests := true, laidLooks := .later }
def ManifestBuildsCardSaid : Prop := Claim7.holds Tryd.pinned (.plain (OpenSpec.ofChange manifestBuildsSpec)) manifestBuildsCard

/-- THE TIED CARD OF 'amphoralaw15.ManifestCounts'. -/
def manifestCountsCard : Claim7 := { stood := { row := manifestCountsRow, standIns := [], harness := (true, "e4455d904cacac463c2537ae87cb80b913aaef268b383272f4cc470cb53630e6"), looks := true }, kinds := [], alts := [], laidByText := true, laidKinds := [.data], laidTests := true, laidLooks := .later }
def ManifestCountsCardSaid : Prop := Claim7.holds Tryd.pinned (.plain (OpenSpec.ofChange manifestCountsSpec)) manifestCountsCard

/-- THE TIED CARD OF 'amphoralaw15.ManifestNodes'. -/
def manifestNodesCard : Claim7 := { stood := { row := manifestNodesRow, standIns := [], harness := (true, "e4455d904cacac463c2537ae87cb80b913aaef268b383272f4cc470cb53630e6"), looks := true }, kinds := [], alts := [], laidByText := true, laidKinds := [.data], laidTests := true, laidLooks := .later }
def ManifestNodesCardSaid : Prop := Claim7.holds Tryd.pinned (.plain (OpenSpec.ofChange manifestNodesSpec)) manifestNodesCard

/-- THE TIED CARD OF 'amphoralaw15.ManifestParses'. -/
def manifestParsesCard : Claim7 := { stood := { row := manifestParsesRow, standIns := [], harness := (true, "e4455d904cacac463c2537ae87cb80b913aaef268b383272f4cc470cb53630e6"), looks := true }, kinds := [], alts := [], laidByText := true, laidKinds := [.data], laidTests := true, laidLooks := .later }
def ManifestParsesCardSaid : Prop := Claim7.holds Tryd.pinned (.plain (OpenSpec.ofChange manifestParsesSpec)) manifestParsesCard

/-- THE TIED CARD OF 'amphoralaw15.ManifestWalks'. -/
def manifestWalksCard : Claim7 := { stood := { row := manifestWalksRow, standIns := [], harness := (true, "e4455d904cacac463c2537ae87cb80b913aaef268b383272f4cc470cb53630e6"), looks := true }, kinds := [], alts := [], laidByText := true, laidKinds := [.data], laidTests := true, laidLooks := .later }
def ManifestWalksCardSaid : Prop := Claim7.holds Tryd.pinned (.plain (OpenSpec.ofChange manifestWalksSpec)) manifestWalksCard

/-- THE SECOND FORM's CARD OF 'amphoralaw15.ManifestBuilds'. -/
def manifestBuildsUptoCard : Claim7 := { stood := { row := manifestBuildsUptoRow, standIns := [], harness := (true, "e4455d904cacac463c2537ae87cb80b913aaef268b383272f4cc470cb53630e6"), looks := true }, kinds := [], alts := [], laidByText := true, laidKinds := [.data], laidTests := true, laidLooks := .later }
def ManifestBuildsUptoCardSaid : Prop := Claim7.holds Tryd.pinned (.plain (OpenSpec.upto manifestBuildsSpec)) manifestBuildsUptoCard

/-- THE SECOND FORM's CARD OF 'amphoralaw15.ManifestCounts'. -/
def manifestCountsUptoCard : Claim7 := { stood := { row := manifestCountsUptoRow, standIns := [], harness := (true, "e4455d904cacac463c2537ae87cb80b913aaef268b383272f4cc470cb53630e6"), looks := true }, kinds := [], alts := [], laidByText := true, laidKinds := [.data], laidTests := true, laidLooks := .later }
def ManifestCountsUptoCardSaid : Prop := Claim7.holds Tryd.pinned (.plain (OpenSpec.upto manifestCountsSpec)) manifestCountsUptoCard

/-- THE SECOND FORM's CARD OF 'amphoralaw15.ManifestNodes'. -/
def manifestNodesUptoCard : Claim7 := { stood := { row := manifestNodesUptoRow, standIns := [], harness := (true, "e4455d904cacac463c2537ae87cb80b913aaef268b383272f4cc470cb53630e6"), looks := true }, kinds := [], alts := [], laidByText := true, laidKinds := [.data], laidTests := true, laidLooks := .later }
def ManifestNodesUptoCardSaid : Prop := Claim7.holds Tryd.pinned (.plain (OpenSpec.upto manifestNodesSpec)) manifestNodesUptoCard

/-- THE SECOND FORM's CARD OF 'amphoralaw15.ManifestParses'. -/
def manifestParsesUptoCard : Claim7 := { stood := { row := manifestParsesUptoRow, standIns := [], harness := (true, "e4455d904cacac463c2537ae87cb80b913aaef268b383272f4cc470cb53630e6"), looks := true }, kinds := [], alts := [], laidByText := true, laidKinds := [.data], laidTests := true, laidLooks := .later }
def ManifestParsesUptoCardSaid : Prop := Claim7.holds Tryd.pinned (.plain (OpenSpec.upto manifestParsesSpec)) manifestParsesUptoCard

/-- THE SECOND FORM's CARD OF 'amphoralaw15.ManifestWalks'. -/
def manifestWalksUptoCard : Claim7 := { stood := { row := manifestWalksUptoRow, standIns := [], harness := (true, "e4455d904cacac463c2537ae87cb80b913aaef268b383272f4cc470cb53630e6"), looks := true }, kinds := [], alts := [], laidByText := true, laidKinds := [.data], laidTests := true, laidLooks := .later }
def ManifestWalksUptoCardSaid : Prop := Claim7.holds Tryd.pinned (.plain (OpenSpec.upto manifestWalksSpec)) manifestWalksUptoCard
end Rows
end Go.Proofs.YtefnlbgkfingfaaDoor
