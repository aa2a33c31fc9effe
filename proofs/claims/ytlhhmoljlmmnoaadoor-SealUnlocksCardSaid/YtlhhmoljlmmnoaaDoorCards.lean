/-
  DERIVED. GIVEN WITH THE SEED: THE CARDS: each row of YtlhhmoljlmmnoaaDoorRows.lean that lists a variable, with what it lists TIED to the program's text (the seventh form; the later family's looks); each row that meets fmt, with fmt's text TOLD by the authors' own Lean function (tested against real Go, not proved from fmt's source: count such statements apart). THE CARD IS WHAT COUNTS. Prove the row's statement (the work); the ties are given (YtlhhmoljlmmnoaaDoorTie.lean); close each card by the builder's one call (the guide's Derived/Test/ToyasCard.lean, 'card_holds'). Laid BY PROGRAM, IN A SANDBOX (cutbox-door.mjs). By AI agents, Wed Nov 11 2026. No macro, syntax, notation, axiom, sorry.
-/
import Derived.Test.YtlhhmoljlmmnoaaDoorRows
import GoSem.ClaimSeven
namespace Go.Proofs.YtlhhmoljlmmnoaaDoor
namespace Rows

/-- THE TIED CARD OF 'amphoralaw05.SealTakes'. -/
def sealTakesCard : Claim7 := { stood := { row := sealTakesRow, standIns := [], harness := (true, "b4bea3ed05056a8dd00f9484f4fcc64e2c6b85de0f8115ce0dc6e91a46a42dbd"), looks := true }, kinds := [], alts := [], laidByText := true, laidKinds := [.data], laidTests := true, laidLooks := .later }
def SealTakesCardSaid : Prop := Claim7.holds Tryd.pinned (.plain (OpenSpec.ofChange sealTakesSpec)) sealTakesCard

/-- THE TIED CARD OF 'amphoralaw05.SealBack'. -/
def sealBackCard : Claim7 := { stood := { row := sealBackRow, standIns := [], harness := (true, "b4bea3ed05056a8dd00f9484f4fcc64e2c6b85de0f8115ce0dc6e91a46a42dbd"), looks := true }, kinds := [], alts := [], laidByText := true, laidKinds := [.data], laidTests := true, laidLooks := .later }
def SealBackCardSaid : Prop := Claim7.holds Tryd.pinned (.plain (OpenSpec.ofChange sealBackSpec)) sealBackCard

/-- THE TIED CARD OF 'amphoralaw05.SealOwns'. -/
def sealOwnsCard : Claim7 := { stood := { row := sealOwnsRow, standIns := [], harness := (true, "b4bea3ed05056a8dd00f9484f4fcc64e2c6b85de0f8115ce0dc6e91a46a42dbd"), looks := true }, kinds := [], alts := [], laidByText := true, laidKinds := [.data], laidTests := true, laidLooks := .later }
def SealOwnsCardSaid : Prop := Claim7.holds Tryd.pinned (.plain (OpenSpec.ofChange sealOwnsSpec)) sealOwnsCard

/-- THE TIED CARD OF 'amphoralaw05.SealWrites'. -/
def sealWritesCard : Claim7 := { stood := { row := sealWritesRow, standIns := [], harness := (true, "b4bea3ed05056a8dd00f9484f4fcc64e2c6b85de0f8115ce0dc6e91a46a42dbd"), looks := true }, kinds := [], alts := [], laidByText := true, laidKinds := [.data], laidTests := true, laidLooks := .later }
def SealWritesCardSaid : Prop := Claim7.holds Tryd.pinned (.plain (OpenSpec.ofChange sealWritesSpec)) sealWritesCard

/-- THE TIED CARD OF 'amphoralaw05.SealLocks'. -/
def sealLocksCard : Claim7 := { stood := { row := sealLocksRow, standIns := [], harness := (true, "b4bea3ed05056a8dd00f9484f4fcc64e2c6b85de0f8115ce0dc6e91a46a42dbd"), looks := true }, kinds := [], alts := [], laidByText := true, laidKinds := [.data], laidTests := true, laidLooks := .later }
def SealLocksCardSaid : Prop := Claim7.holds Tryd.pinned (.plain (OpenSpec.ofChange sealLocksSpec)) sealLocksCard

/-- THE TIED CARD OF 'amphoralaw05.SealUnlocks'. -/
def sealUnlocksCard : Claim7 := { stood := { row := sealUnlocksRow, standIns := [], harness := (true, "b4bea3ed05056a8dd00f9484f4fcc64e2c6b85de0f8115ce0dc6e91a46a42dbd"), looks := true }, kinds := [], alts := [], laidByText := true, laidKinds := [.data], laidTests := true, laidLooks := .later }
def SealUnlocksCardSaid : Prop := Claim7.holds Tryd.pinned (.plain (OpenSpec.ofChange sealUnlocksSpec)) sealUnlocksCard

/-- THE SECOND FORM's CARD OF 'amphoralaw05.SealTakes'. -/
def sealTakesUptoCard : Claim7 := { stood := { row := sealTakesUptoRow, standIns := [], harness := (true, "b4bea3ed05056a8dd00f9484f4fcc64e2c6b85de0f8115ce0dc6e91a46a42dbd"), looks := true }, kinds := [], alts := [], laidByText := true, laidKinds := [.data], laidTests := true, laidLooks := .later }
def SealTakesUptoCardSaid : Prop := Claim7.holds Tryd.pinned (.plain (OpenSpec.upto sealTakesSpec)) sealTakesUptoCard

/-- THE SECOND FORM's CARD OF 'amphoralaw05.SealBack'. -/
def sealBackUptoCard : Claim7 := { stood := { row := sealBackUptoRow, standIns := [], harness := (true, "b4bea3ed05056a8dd00f9484f4fcc64e2c6b85de0f8115ce0dc6e91a46a42dbd"), looks := true }, kinds := [], alts := [], laidByText := true, laidKinds := [.data], laidTests := true, laidLooks := .later }
def SealBackUptoCardSaid : Prop := Claim7.holds Tryd.pinned (.plain (OpenSpec.upto sealBackSpec)) sealBackUptoCard

/-- THE SECOND FORM's CARD OF 'amphoralaw05.SealOwns'. -/
def sealOwnsUptoCard : Claim7 := { stood := { row := sealOwnsUptoRow, standIns := [], harness := (true, "b4bea3ed05056a8dd00f9484f4fcc64e2c6b85de0f8115ce0dc6e91a46a42dbd"), looks := true }, kinds := [], alts := [], laidByText := true, laidKinds := [.data], laidTests := true, laidLooks := .later }
def SealOwnsUptoCardSaid : Prop := Claim7.holds Tryd.pinned (.plain (OpenSpec.upto sealOwnsSpec)) sealOwnsUptoCard

/-- THE SECOND FORM's CARD OF 'amphoralaw05.SealWrites'. -/
def sealWritesUptoCard : Claim7 := { stood := { row := sealWritesUptoRow, standIns := [], harness := (true, "b4bea3ed05056a8dd00f9484f4fcc64e2c6b85de0f8115ce0dc6e91a46a42dbd"), looks := true }, kinds := [], alts := [], laidByText := true, laidKinds := [.data], laidTests := true, laidLooks := .later }
def SealWritesUptoCardSaid : Prop := Claim7.holds Tryd.pinned (.plain (OpenSpec.upto sealWritesSpec)) sealWritesUptoCard

/-- THE SECOND FORM's CARD OF 'amphoralaw05.SealLocks'. -/
def sealLocksUptoCard : Claim7 := { stood := { row := sealLocksUptoRow, standIns := [], harness := (true, "b4bea3ed05056a8dd00f9484f4fcc64e2c6b85de0f8115ce0dc6e91a46a42dbd"), looks := true }, kinds := [], alts := [], laidByText := true, laidKinds := [.data], laidTests := true, laidLooks := .later }
def SealLocksUptoCardSaid : Prop := Claim7.holds Tryd.pinned (.plain (OpenSpec.upto sealLocksSpec)) sealLocksUptoCard

/-- THE SECOND FORM's CARD OF 'amphoralaw05.SealUnlocks'. -/
def sealUnlocksUptoCard : Claim7 := { stood := { row := sealUnlocksUptoRow, standIns := [], harness := (true, "b4bea3ed05056a8dd00f9484f4fcc64e2c6b85de0f8115ce0dc6e91a46a42dbd"), looks := true }, kinds := [], alts := [], laidByText := true, laidKinds := [.data], laidTests := true, laidLooks := .later }
def SealUnlocksUptoCardSaid : Prop := Claim7.holds Tryd.pinned (.plain (OpenSpec.upto sealUnlocksSpec)) sealUnlocksUptoCard
end Rows
end Go.Proofs.YtlhhmoljlmmnoaaDoor
