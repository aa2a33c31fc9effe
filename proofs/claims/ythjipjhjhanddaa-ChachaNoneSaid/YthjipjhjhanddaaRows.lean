/-
  No cell of these rows narrows 'for every input' (looked for: loops, veiled, ifaces, maps, wideKeys, modest, calm, conditions, laid).
  DERIVED. THE GIVEN ROWS OF THIS SEAT. 6 by the template 'for every input the law returns true; each argument reads behind the call as it read before'; 0 by the template 'total and deterministic' (their statements: YthjipjhjhanddaaTotals.lean).
  GIVEN WITH THE SEED: the statements are not yours to turn. If you find one false, say at which input.
  Laid BY PROGRAM, IN A SANDBOX (cutbox-rows.mjs): the forced cells as the released guide's own fill.sh prints them over the translation 1f0bfd8684e7cde7… (all of the seat's roots in one cut). By AI agents, Wed Nov 11 2026. No macro, syntax, notation, axiom, sorry.
-/
import Derived.Test.YthjipjhjhanddaaChecked
import GoSem.Claim
import GoSem.ClaimJoined
import GoSem.ClaimMapViews
import Derived.JoinedTies
import Derived.KernelRfl
namespace Go.Proofs.Ythjipjhjhanddaa
/- THE CELL 'sum', in the pinned program and in every row, IS THE sha256 OF THE DUMP (.gsa) THAT YthjipjhjhanddaaProg.lean LOADS. Nothing in Lean hashes anything: it is a label: what it is worth is what the hold of that sum in a sandbox is worth. -/
noncomputable def Try.pinned : Pinned := { name := "ythjipjhjhanddaa", sum := "1f0bfd8684e7cde79e2a92b2f362a13ead3b97d5bca885b0b7ae1efebb946fe3", checked := Try.checked }
namespace Rows
def none {H : Type} : Left H := { results := [], args := [] }

/-- 'amphoralaw03.ChachaBlocks': WHATEVER THE INPUT: true; the input reads as it did. -/
def chachaBlocksSpec : ChangeSpec := { name := "chachaBlocks", fn := fun _ => fun
  | [d1, d2, d3] => { results := [.lit (.bool true)], args := [d1, d2, d3] }
  | _ => none }
def chachaBlocksRow : OpenClaim := { program := "ythjipjhjhanddaa", sum := "1f0bfd8684e7cde79e2a92b2f362a13ead3b97d5bca885b0b7ae1efebb946fe3", func := "amphora/amphoralaw03.ChachaBlocks", spec := "chachaBlocks", apart := false }
def ChachaBlocksSaid : Prop := chachaBlocksRow.holds Try.pinned (OpenSpec.ofChange chachaBlocksSpec)

/-- ITS FALSE NEIGHBOUR: 'it returns false'. Refute it at one input. -/
def chachaBlocksWrong : ChangeSpec := { name := "chachaBlocks", fn := fun _ => fun
  | [d1, d2, d3] => { results := [.lit (.bool false)], args := [d1, d2, d3] }
  | _ => none }
def ChachaBlocksWrongFalsely : Prop := chachaBlocksRow.holds Try.pinned (OpenSpec.ofChange chachaBlocksWrong)

/-- 'amphoralaw03.ChachaStreams': WHATEVER THE INPUT: true; the input reads as it did. -/
def chachaStreamsSpec : ChangeSpec := { name := "chachaStreams", fn := fun _ => fun
  | [d] => { results := [.lit (.bool true)], args := [d] }
  | _ => none }
def chachaStreamsRow : OpenClaim := { program := "ythjipjhjhanddaa", sum := "1f0bfd8684e7cde79e2a92b2f362a13ead3b97d5bca885b0b7ae1efebb946fe3", func := "amphora/amphoralaw03.ChachaStreams", spec := "chachaStreams", apart := false }
def ChachaStreamsSaid : Prop := chachaStreamsRow.holds Try.pinned (OpenSpec.ofChange chachaStreamsSpec)

/-- ITS FALSE NEIGHBOUR: 'it returns false'. Refute it at one input. -/
def chachaStreamsWrong : ChangeSpec := { name := "chachaStreams", fn := fun _ => fun
  | [d] => { results := [.lit (.bool false)], args := [d] }
  | _ => none }
def ChachaStreamsWrongFalsely : Prop := chachaStreamsRow.holds Try.pinned (OpenSpec.ofChange chachaStreamsWrong)

/-- 'amphoralaw03.ChachaBack': WHATEVER THE INPUT: true; the input reads as it did. -/
def chachaBackSpec : ChangeSpec := { name := "chachaBack", fn := fun _ => fun
  | [d1, d2, d3] => { results := [.lit (.bool true)], args := [d1, d2, d3] }
  | _ => none }
def chachaBackRow : OpenClaim := { program := "ythjipjhjhanddaa", sum := "1f0bfd8684e7cde79e2a92b2f362a13ead3b97d5bca885b0b7ae1efebb946fe3", func := "amphora/amphoralaw03.ChachaBack", spec := "chachaBack", apart := false }
def ChachaBackSaid : Prop := chachaBackRow.holds Try.pinned (OpenSpec.ofChange chachaBackSpec)

/-- ITS FALSE NEIGHBOUR: 'it returns false'. Refute it at one input. -/
def chachaBackWrong : ChangeSpec := { name := "chachaBack", fn := fun _ => fun
  | [d1, d2, d3] => { results := [.lit (.bool false)], args := [d1, d2, d3] }
  | _ => none }
def ChachaBackWrongFalsely : Prop := chachaBackRow.holds Try.pinned (OpenSpec.ofChange chachaBackWrong)

/-- 'amphoralaw03.ChachaWords': WHATEVER THE INPUT: true; the input reads as it did. -/
def chachaWordsSpec : ChangeSpec := { name := "chachaWords", fn := fun _ => fun
  | [d1, d2] => { results := [.lit (.bool true)], args := [d1, d2] }
  | _ => none }
def chachaWordsRow : OpenClaim := { program := "ythjipjhjhanddaa", sum := "1f0bfd8684e7cde79e2a92b2f362a13ead3b97d5bca885b0b7ae1efebb946fe3", func := "amphora/amphoralaw03.ChachaWords", spec := "chachaWords", apart := false }
def ChachaWordsSaid : Prop := chachaWordsRow.holds Try.pinned (OpenSpec.ofChange chachaWordsSpec)

/-- ITS FALSE NEIGHBOUR: 'it returns false'. Refute it at one input. -/
def chachaWordsWrong : ChangeSpec := { name := "chachaWords", fn := fun _ => fun
  | [d1, d2] => { results := [.lit (.bool false)], args := [d1, d2] }
  | _ => none }
def ChachaWordsWrongFalsely : Prop := chachaWordsRow.holds Try.pinned (OpenSpec.ofChange chachaWordsWrong)

/-- 'amphoralaw03.ChachaSeeks': WHATEVER THE INPUT: true; the input reads as it did. -/
def chachaSeeksSpec : ChangeSpec := { name := "chachaSeeks", fn := fun _ => fun
  | [d1, d2, d3] => { results := [.lit (.bool true)], args := [d1, d2, d3] }
  | _ => none }
def chachaSeeksRow : OpenClaim := { program := "ythjipjhjhanddaa", sum := "1f0bfd8684e7cde79e2a92b2f362a13ead3b97d5bca885b0b7ae1efebb946fe3", func := "amphora/amphoralaw03.ChachaSeeks", spec := "chachaSeeks", apart := false }
def ChachaSeeksSaid : Prop := chachaSeeksRow.holds Try.pinned (OpenSpec.ofChange chachaSeeksSpec)

/-- ITS FALSE NEIGHBOUR: 'it returns false'. Refute it at one input. -/
def chachaSeeksWrong : ChangeSpec := { name := "chachaSeeks", fn := fun _ => fun
  | [d1, d2, d3] => { results := [.lit (.bool false)], args := [d1, d2, d3] }
  | _ => none }
def ChachaSeeksWrongFalsely : Prop := chachaSeeksRow.holds Try.pinned (OpenSpec.ofChange chachaSeeksWrong)

/-- 'amphoralaw03.ChachaNone': WHATEVER THE INPUT: true; the input reads as it did. -/
def chachaNoneSpec : ChangeSpec := { name := "chachaNone", fn := fun _ => fun
  | [d] => { results := [.lit (.bool true)], args := [d] }
  | _ => none }
def chachaNoneRow : OpenClaim := { program := "ythjipjhjhanddaa", sum := "1f0bfd8684e7cde79e2a92b2f362a13ead3b97d5bca885b0b7ae1efebb946fe3", func := "amphora/amphoralaw03.ChachaNone", spec := "chachaNone", apart := false }
def ChachaNoneSaid : Prop := chachaNoneRow.holds Try.pinned (OpenSpec.ofChange chachaNoneSpec)

/-- ITS FALSE NEIGHBOUR: 'it returns false'. Refute it at one input. -/
def chachaNoneWrong : ChangeSpec := { name := "chachaNone", fn := fun _ => fun
  | [d] => { results := [.lit (.bool false)], args := [d] }
  | _ => none }
def ChachaNoneWrongFalsely : Prop := chachaNoneRow.holds Try.pinned (OpenSpec.ofChange chachaNoneWrong)

/- THE SECOND FORM. 'bulk': how many values and letters a reading holds, each counted each time it is reached (what is shared counts as often as it is met; a slice's spare places count too). A statement '..UptoSaid' is the law's where the arguments, and the package variables that the reading takes, are together of bulk at most 1048576: NARROWER than '..Said'. Prove '..Said' where nothing that the law and all that it calls make is longer than what came in: it says more and counts as full. Else prove '..UptoSaid'. A law counts once. -/
mutual
def uptoBulk {H : Type} : DataW H → Nat
  | .lit (.string bytes) => bytes.length + 1
  | .lit _ => 1
  | .nil => 1
  | .ptr d => uptoBulk d + 1
  | .slice elems spare => uptoBulkAll elems + uptoBulkAll spare + 1
  | .agg parts => uptoBulkAll parts + 1
  | .iface _ d => uptoBulk d + 1
  | .map entries => uptoBulkEntries entries + 1
  | .held _ => 1
def uptoBulkAll {H : Type} : List (DataW H) → Nat
  | [] => 0
  | d :: r => uptoBulk d + uptoBulkAll r
def uptoBulkEntries {H : Type} : List (Lit × DataW H) → Nat
  | [] => 0
  | x :: r => uptoBulkEntry x + uptoBulkEntries r
def uptoBulkEntry {H : Type} : Lit × DataW H → Nat
  | (.string bytes, d) => bytes.length + uptoBulk d + 1
  | (_, d) => uptoBulk d + 1
 end
def uptoSmall : (H : Type) → List (DataW H) → Bool := fun _ ds => decide (uptoBulkAll ds ≤ 1048576)
def OpenSpec.upto (s : _root_.Go.ChangeSpec) : _root_.Go.OpenSpec := { _root_.Go.OpenSpec.ofChange s with cond := some uptoSmall }

/-- 'amphoralaw03.ChachaBlocks', WHERE WHAT IT READS IS OF BULK AT MOST 1048576: true; the input reads as it did. -/
def chachaBlocksUptoRow : OpenClaim := { program := "ythjipjhjhanddaa", sum := "1f0bfd8684e7cde79e2a92b2f362a13ead3b97d5bca885b0b7ae1efebb946fe3", func := "amphora/amphoralaw03.ChachaBlocks", spec := "chachaBlocks", apart := false, narrowed := true }
def ChachaBlocksUptoSaid : Prop := chachaBlocksUptoRow.holds Try.pinned (OpenSpec.upto chachaBlocksSpec)

/-- 'amphoralaw03.ChachaStreams', WHERE WHAT IT READS IS OF BULK AT MOST 1048576: true; the input reads as it did. -/
def chachaStreamsUptoRow : OpenClaim := { program := "ythjipjhjhanddaa", sum := "1f0bfd8684e7cde79e2a92b2f362a13ead3b97d5bca885b0b7ae1efebb946fe3", func := "amphora/amphoralaw03.ChachaStreams", spec := "chachaStreams", apart := false, narrowed := true }
def ChachaStreamsUptoSaid : Prop := chachaStreamsUptoRow.holds Try.pinned (OpenSpec.upto chachaStreamsSpec)

/-- 'amphoralaw03.ChachaBack', WHERE WHAT IT READS IS OF BULK AT MOST 1048576: true; the input reads as it did. -/
def chachaBackUptoRow : OpenClaim := { program := "ythjipjhjhanddaa", sum := "1f0bfd8684e7cde79e2a92b2f362a13ead3b97d5bca885b0b7ae1efebb946fe3", func := "amphora/amphoralaw03.ChachaBack", spec := "chachaBack", apart := false, narrowed := true }
def ChachaBackUptoSaid : Prop := chachaBackUptoRow.holds Try.pinned (OpenSpec.upto chachaBackSpec)

/-- 'amphoralaw03.ChachaWords', WHERE WHAT IT READS IS OF BULK AT MOST 1048576: true; the input reads as it did. -/
def chachaWordsUptoRow : OpenClaim := { program := "ythjipjhjhanddaa", sum := "1f0bfd8684e7cde79e2a92b2f362a13ead3b97d5bca885b0b7ae1efebb946fe3", func := "amphora/amphoralaw03.ChachaWords", spec := "chachaWords", apart := false, narrowed := true }
def ChachaWordsUptoSaid : Prop := chachaWordsUptoRow.holds Try.pinned (OpenSpec.upto chachaWordsSpec)

/-- 'amphoralaw03.ChachaSeeks', WHERE WHAT IT READS IS OF BULK AT MOST 1048576: true; the input reads as it did. -/
def chachaSeeksUptoRow : OpenClaim := { program := "ythjipjhjhanddaa", sum := "1f0bfd8684e7cde79e2a92b2f362a13ead3b97d5bca885b0b7ae1efebb946fe3", func := "amphora/amphoralaw03.ChachaSeeks", spec := "chachaSeeks", apart := false, narrowed := true }
def ChachaSeeksUptoSaid : Prop := chachaSeeksUptoRow.holds Try.pinned (OpenSpec.upto chachaSeeksSpec)

/-- 'amphoralaw03.ChachaNone', WHERE WHAT IT READS IS OF BULK AT MOST 1048576: true; the input reads as it did. -/
def chachaNoneUptoRow : OpenClaim := { program := "ythjipjhjhanddaa", sum := "1f0bfd8684e7cde79e2a92b2f362a13ead3b97d5bca885b0b7ae1efebb946fe3", func := "amphora/amphoralaw03.ChachaNone", spec := "chachaNone", apart := false, narrowed := true }
def ChachaNoneUptoSaid : Prop := chachaNoneUptoRow.holds Try.pinned (OpenSpec.upto chachaNoneSpec)

end Rows
end Go.Proofs.Ythjipjhjhanddaa
