/-
  DERIVED. GIVEN WITH THE SEED: THE CARDS: each row of YtpodhfomjljfbaaDoorRows.lean that lists a variable, with what it lists TIED to the program's text (the seventh form; the later family's looks); each row that meets fmt, with fmt's text TOLD by the authors' own Lean function (tested against real Go, not proved from fmt's source: count such statements apart). THE CARD IS WHAT COUNTS. Prove the row's statement (the work); the ties are given (YtpodhfomjljfbaaDoorTie.lean); close each card by the builder's one call (the guide's Derived/Test/ToyasCard.lean, 'card_holds'). Laid BY PROGRAM, IN A SANDBOX (cutbox-door.mjs). By AI agents, Wed Nov 11 2026. No macro, syntax, notation, axiom, sorry.
-/
import Derived.Test.YtpodhfomjljfbaaDoorRows
import GoSem.ClaimSeven
namespace Go.Proofs.YtpodhfomjljfbaaDoor
namespace Rows

/-- THE TIED CARD OF 'amphoralaw02.ShaEquals'. -/
def shaEqualsCard : Claim7 := { stood := { row := shaEqualsRow, standIns := [], harness := (true, "63e18f5744e67cd174dbe07080701b6454d1dba72edcc939c8e1b03217542b29"), looks := true }, kinds := [], alts := [], laidByText := true, laidKinds := [.data], laidTests := true, laidLooks := .later }
def ShaEqualsCardSaid : Prop := Claim7.holds Tryd.pinned (.plain (OpenSpec.ofChange shaEqualsSpec)) shaEqualsCard

/-- THE TIED CARD OF 'amphoralaw02.ShaSums'. -/
def shaSumsCard : Claim7 := { stood := { row := shaSumsRow, standIns := [], harness := (true, "63e18f5744e67cd174dbe07080701b6454d1dba72edcc939c8e1b03217542b29"), looks := true }, kinds := [], alts := [], laidByText := true, laidKinds := [.data], laidTests := true, laidLooks := .later }
def ShaSumsCardSaid : Prop := Claim7.holds Tryd.pinned (.plain (OpenSpec.ofChange shaSumsSpec)) shaSumsCard

/-- THE TIED CARD OF 'amphoralaw02.ShaStreams'. -/
def shaStreamsCard : Claim7 := { stood := { row := shaStreamsRow, standIns := [], harness := (true, "63e18f5744e67cd174dbe07080701b6454d1dba72edcc939c8e1b03217542b29"), looks := true }, kinds := [], alts := [], laidByText := true, laidKinds := [.data], laidTests := true, laidLooks := .later }
def ShaStreamsCardSaid : Prop := Claim7.holds Tryd.pinned (.plain (OpenSpec.ofChange shaStreamsSpec)) shaStreamsCard

/-- THE TIED CARD OF 'amphoralaw02.ShaDerives'. -/
def shaDerivesCard : Claim7 := { stood := { row := shaDerivesRow, standIns := [], harness := (true, "63e18f5744e67cd174dbe07080701b6454d1dba72edcc939c8e1b03217542b29"), looks := true }, kinds := [], alts := [], laidByText := true, laidKinds := [.data], laidTests := true, laidLooks := .later }
def ShaDerivesCardSaid : Prop := Claim7.holds Tryd.pinned (.plain (OpenSpec.ofChange shaDerivesSpec)) shaDerivesCard

/-- THE TIED CARD OF 'amphoralaw02.ShaKeys'. -/
def shaKeysCard : Claim7 := { stood := { row := shaKeysRow, standIns := [], harness := (true, "63e18f5744e67cd174dbe07080701b6454d1dba72edcc939c8e1b03217542b29"), looks := true }, kinds := [], alts := [], laidByText := true, laidKinds := [.data], laidTests := true, laidLooks := .later }
def ShaKeysCardSaid : Prop := Claim7.holds Tryd.pinned (.plain (OpenSpec.ofChange shaKeysSpec)) shaKeysCard

/-- THE TIED CARD OF 'amphoralaw02.ShaNone'. -/
def shaNoneCard : Claim7 := { stood := { row := shaNoneRow, standIns := [], harness := (true, "63e18f5744e67cd174dbe07080701b6454d1dba72edcc939c8e1b03217542b29"), looks := true }, kinds := [], alts := [], laidByText := true, laidKinds := [.data], laidTests := true, laidLooks := .later }
def ShaNoneCardSaid : Prop := Claim7.holds Tryd.pinned (.plain (OpenSpec.ofChange shaNoneSpec)) shaNoneCard

/-- THE SECOND FORM's CARD OF 'amphoralaw02.ShaEquals'. -/
def shaEqualsUptoCard : Claim7 := { stood := { row := shaEqualsUptoRow, standIns := [], harness := (true, "63e18f5744e67cd174dbe07080701b6454d1dba72edcc939c8e1b03217542b29"), looks := true }, kinds := [], alts := [], laidByText := true, laidKinds := [.data], laidTests := true, laidLooks := .later }
def ShaEqualsUptoCardSaid : Prop := Claim7.holds Tryd.pinned (.plain (OpenSpec.upto shaEqualsSpec)) shaEqualsUptoCard

/-- THE SECOND FORM's CARD OF 'amphoralaw02.ShaSums'. -/
def shaSumsUptoCard : Claim7 := { stood := { row := shaSumsUptoRow, standIns := [], harness := (true, "63e18f5744e67cd174dbe07080701b6454d1dba72edcc939c8e1b03217542b29"), looks := true }, kinds := [], alts := [], laidByText := true, laidKinds := [.data], laidTests := true, laidLooks := .later }
def ShaSumsUptoCardSaid : Prop := Claim7.holds Tryd.pinned (.plain (OpenSpec.upto shaSumsSpec)) shaSumsUptoCard

/-- THE SECOND FORM's CARD OF 'amphoralaw02.ShaStreams'. -/
def shaStreamsUptoCard : Claim7 := { stood := { row := shaStreamsUptoRow, standIns := [], harness := (true, "63e18f5744e67cd174dbe07080701b6454d1dba72edcc939c8e1b03217542b29"), looks := true }, kinds := [], alts := [], laidByText := true, laidKinds := [.data], laidTests := true, laidLooks := .later }
def ShaStreamsUptoCardSaid : Prop := Claim7.holds Tryd.pinned (.plain (OpenSpec.upto shaStreamsSpec)) shaStreamsUptoCard

/-- THE SECOND FORM's CARD OF 'amphoralaw02.ShaDerives'. -/
def shaDerivesUptoCard : Claim7 := { stood := { row := shaDerivesUptoRow, standIns := [], harness := (true, "63e18f5744e67cd174dbe07080701b6454d1dba72edcc939c8e1b03217542b29"), looks := true }, kinds := [], alts := [], laidByText := true, laidKinds := [.data], laidTests := true, laidLooks := .later }
def ShaDerivesUptoCardSaid : Prop := Claim7.holds Tryd.pinned (.plain (OpenSpec.upto shaDerivesSpec)) shaDerivesUptoCard

/-- THE SECOND FORM's CARD OF 'amphoralaw02.ShaKeys'. -/
def shaKeysUptoCard : Claim7 := { stood := { row := shaKeysUptoRow, standIns := [], harness := (true, "63e18f5744e67cd174dbe07080701b6454d1dba72edcc939c8e1b03217542b29"), looks := true }, kinds := [], alts := [], laidByText := true, laidKinds := [.data], laidTests := true, laidLooks := .later }
def ShaKeysUptoCardSaid : Prop := Claim7.holds Tryd.pinned (.plain (OpenSpec.upto shaKeysSpec)) shaKeysUptoCard

/-- THE SECOND FORM's CARD OF 'amphoralaw02.ShaNone'. -/
def shaNoneUptoCard : Claim7 := { stood := { row := shaNoneUptoRow, standIns := [], harness := (true, "63e18f5744e67cd174dbe07080701b6454d1dba72edcc939c8e1b03217542b29"), looks := true }, kinds := [], alts := [], laidByText := true, laidKinds := [.data], laidTests := true, laidLooks := .later }
def ShaNoneUptoCardSaid : Prop := Claim7.holds Tryd.pinned (.plain (OpenSpec.upto shaNoneSpec)) shaNoneUptoCard
end Rows
end Go.Proofs.YtpodhfomjljfbaaDoor
