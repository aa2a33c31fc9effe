/-
  No cell of these rows narrows 'for every input' (looked for: loops, veiled, ifaces, maps, wideKeys, modest, calm, conditions, laid).
  DERIVED. THE GIVEN ROWS OF THIS SEAT. 6 by the template 'for every input the law returns true; each argument reads behind the call as it read before'; 0 by the template 'total and deterministic' (their statements: YtoianikapjkekaaTotals.lean).
  GIVEN WITH THE SEED: the statements are not yours to turn. If you find one false, say at which input.
  Laid BY PROGRAM, IN A SANDBOX (cutbox-rows.mjs): the forced cells as the released guide's own fill.sh prints them over the translation 320bf765e2af4832… (all of the seat's roots in one cut). By AI agents, Wed Nov 11 2026. No macro, syntax, notation, axiom, sorry.
-/
import Derived.Test.YtoianikapjkekaaChecked
import GoSem.Claim
import GoSem.ClaimJoined
import GoSem.ClaimMapViews
import Derived.JoinedTies
import Derived.KernelRfl
namespace Go.Proofs.Ytoianikapjkekaa
/- THE CELL 'sum', in the pinned program and in every row, IS THE sha256 OF THE DUMP (.gsa) THAT YtoianikapjkekaaProg.lean LOADS. Nothing in Lean hashes anything: it is a label: what it is worth is what the hold of that sum in a sandbox is worth. -/
noncomputable def Try.pinned : Pinned := { name := "ytoianikapjkekaa", sum := "320bf765e2af4832421baadb66345d6b45782c89970d0019b1d6b0f877c84a38", checked := Try.checked }
namespace Rows
def none {H : Type} : Left H := { results := [], args := [] }

/-- 'amphoralaw14.IndexMerges': WHATEVER THE INPUT: true; the input reads as it did. -/
def indexMergesSpec : ChangeSpec := { name := "indexMerges", fn := fun _ => fun
  | [d] => { results := [.lit (.bool true)], args := [d] }
  | _ => none }
def indexMergesRow : OpenClaim := { program := "ytoianikapjkekaa", sum := "320bf765e2af4832421baadb66345d6b45782c89970d0019b1d6b0f877c84a38", func := "amphora/amphoralaw14.IndexMerges", spec := "indexMerges", inPlace := ["internal/bytealg.Compare"], unfollowed := true, recurses := true, plainKeys := false, apart := false }
def IndexMergesSaid : Prop := indexMergesRow.holds Try.pinned (OpenSpec.ofChange indexMergesSpec)

/-- ITS FALSE NEIGHBOUR: 'it returns false'. Refute it at one input. -/
def indexMergesWrong : ChangeSpec := { name := "indexMerges", fn := fun _ => fun
  | [d] => { results := [.lit (.bool false)], args := [d] }
  | _ => none }
def IndexMergesWrongFalsely : Prop := indexMergesRow.holds Try.pinned (OpenSpec.ofChange indexMergesWrong)

/-- 'amphoralaw14.IndexLaws': WHATEVER THE INPUT: true; the input reads as it did. -/
def indexLawsSpec : ChangeSpec := { name := "indexLaws", fn := fun _ => fun
  | [d1, d2, d3] => { results := [.lit (.bool true)], args := [d1, d2, d3] }
  | _ => none }
def indexLawsRow : OpenClaim := { program := "ytoianikapjkekaa", sum := "320bf765e2af4832421baadb66345d6b45782c89970d0019b1d6b0f877c84a38", func := "amphora/amphoralaw14.IndexLaws", spec := "indexLaws", inPlace := ["internal/bytealg.Compare"], unfollowed := true, recurses := true, plainKeys := false, apart := false }
def IndexLawsSaid : Prop := indexLawsRow.holds Try.pinned (OpenSpec.ofChange indexLawsSpec)

/-- ITS FALSE NEIGHBOUR: 'it returns false'. Refute it at one input. -/
def indexLawsWrong : ChangeSpec := { name := "indexLaws", fn := fun _ => fun
  | [d1, d2, d3] => { results := [.lit (.bool false)], args := [d1, d2, d3] }
  | _ => none }
def IndexLawsWrongFalsely : Prop := indexLawsRow.holds Try.pinned (OpenSpec.ofChange indexLawsWrong)

/-- 'amphoralaw14.IndexPlays': WHATEVER THE INPUT: true; the input reads as it did. -/
def indexPlaysSpec : ChangeSpec := { name := "indexPlays", fn := fun _ => fun
  | [d1, d2] => { results := [.lit (.bool true)], args := [d1, d2] }
  | _ => none }
def indexPlaysRow : OpenClaim := { program := "ytoianikapjkekaa", sum := "320bf765e2af4832421baadb66345d6b45782c89970d0019b1d6b0f877c84a38", func := "amphora/amphoralaw14.IndexPlays", spec := "indexPlays", inPlace := ["internal/bytealg.Compare"], unfollowed := true, recurses := true, plainKeys := false, apart := false }
def IndexPlaysSaid : Prop := indexPlaysRow.holds Try.pinned (OpenSpec.ofChange indexPlaysSpec)

/-- ITS FALSE NEIGHBOUR: 'it returns false'. Refute it at one input. -/
def indexPlaysWrong : ChangeSpec := { name := "indexPlays", fn := fun _ => fun
  | [d1, d2] => { results := [.lit (.bool false)], args := [d1, d2] }
  | _ => none }
def IndexPlaysWrongFalsely : Prop := indexPlaysRow.holds Try.pinned (OpenSpec.ofChange indexPlaysWrong)

/-- 'amphoralaw14.IndexNone': WHATEVER THE INPUT: true; the input reads as it did. -/
def indexNoneSpec : ChangeSpec := { name := "indexNone", fn := fun _ => fun
  | [d] => { results := [.lit (.bool true)], args := [d] }
  | _ => none }
def indexNoneRow : OpenClaim := { program := "ytoianikapjkekaa", sum := "320bf765e2af4832421baadb66345d6b45782c89970d0019b1d6b0f877c84a38", func := "amphora/amphoralaw14.IndexNone", spec := "indexNone", inPlace := ["internal/bytealg.Compare"], unfollowed := true, recurses := true, plainKeys := false, apart := false }
def IndexNoneSaid : Prop := indexNoneRow.holds Try.pinned (OpenSpec.ofChange indexNoneSpec)

/-- ITS FALSE NEIGHBOUR: 'it returns false'. Refute it at one input. -/
def indexNoneWrong : ChangeSpec := { name := "indexNone", fn := fun _ => fun
  | [d] => { results := [.lit (.bool false)], args := [d] }
  | _ => none }
def IndexNoneWrongFalsely : Prop := indexNoneRow.holds Try.pinned (OpenSpec.ofChange indexNoneWrong)

/-- 'amphoralaw14.IndexSegments': WHATEVER THE INPUT: true; the input reads as it did. -/
def indexSegmentsSpec : ChangeSpec := { name := "indexSegments", fn := fun _ => fun
  | [d1, d2, d3] => { results := [.lit (.bool true)], args := [d1, d2, d3] }
  | _ => none }
def indexSegmentsRow : OpenClaim := { program := "ytoianikapjkekaa", sum := "320bf765e2af4832421baadb66345d6b45782c89970d0019b1d6b0f877c84a38", func := "amphora/amphoralaw14.IndexSegments", spec := "indexSegments", inPlace := ["internal/bytealg.Compare"], unfollowed := true, recurses := true, plainKeys := false, apart := false }
def IndexSegmentsSaid : Prop := indexSegmentsRow.holds Try.pinned (OpenSpec.ofChange indexSegmentsSpec)

/-- ITS FALSE NEIGHBOUR: 'it returns false'. Refute it at one input. -/
def indexSegmentsWrong : ChangeSpec := { name := "indexSegments", fn := fun _ => fun
  | [d1, d2, d3] => { results := [.lit (.bool false)], args := [d1, d2, d3] }
  | _ => none }
def IndexSegmentsWrongFalsely : Prop := indexSegmentsRow.holds Try.pinned (OpenSpec.ofChange indexSegmentsWrong)

/-- 'amphoralaw14.IndexBytes': WHATEVER THE INPUT: true; the input reads as it did. -/
def indexBytesSpec : ChangeSpec := { name := "indexBytes", fn := fun _ => fun
  | [d1, d2] => { results := [.lit (.bool true)], args := [d1, d2] }
  | _ => none }
def indexBytesRow : OpenClaim := { program := "ytoianikapjkekaa", sum := "320bf765e2af4832421baadb66345d6b45782c89970d0019b1d6b0f877c84a38", func := "amphora/amphoralaw14.IndexBytes", spec := "indexBytes", inPlace := ["internal/bytealg.Compare"], unfollowed := true, recurses := true, plainKeys := false, apart := false }
def IndexBytesSaid : Prop := indexBytesRow.holds Try.pinned (OpenSpec.ofChange indexBytesSpec)

/-- ITS FALSE NEIGHBOUR: 'it returns false'. Refute it at one input. -/
def indexBytesWrong : ChangeSpec := { name := "indexBytes", fn := fun _ => fun
  | [d1, d2] => { results := [.lit (.bool false)], args := [d1, d2] }
  | _ => none }
def IndexBytesWrongFalsely : Prop := indexBytesRow.holds Try.pinned (OpenSpec.ofChange indexBytesWrong)

/- THE SECOND FORM. 'bulk': how many values and letters a reading holds, each counted each time it is reached (what is shared counts as often as it is met; a slice's spare places count too). A statement '..UptoSaid' is the law's where the arguments, and the package variables that the reading takes, are together of bulk at most 1048576: NARROWER than '..Said'. Prove '..Said' where nothing that the law and all that it calls make is longer than what came in: it says more and counts as full. Else prove '..UptoSaid'. A law counts once. -/
mutual
def uptoBulk {H : Type} : DataW H → Nat
  | .lit (.string bytes) => bytes.length + 1
  | .lit _ => 1
  | .nil => 1
  | .ptr d => uptoBulk d + 1
  | .slice elems spare => uptoBulkAll elems + uptoBulkAll spare + 1
  | .agg parts => uptoBulkAll parts + 1
  | .iface _ d => uptoBulk d + 1
  | .map entries => uptoBulkEntries entries + 1
  | .held _ => 1
def uptoBulkAll {H : Type} : List (DataW H) → Nat
  | [] => 0
  | d :: r => uptoBulk d + uptoBulkAll r
def uptoBulkEntries {H : Type} : List (Lit × DataW H) → Nat
  | [] => 0
  | x :: r => uptoBulkEntry x + uptoBulkEntries r
def uptoBulkEntry {H : Type} : Lit × DataW H → Nat
  | (.string bytes, d) => bytes.length + uptoBulk d + 1
  | (_, d) => uptoBulk d + 1
 end
def uptoSmall : (H : Type) → List (DataW H) → Bool := fun _ ds => decide (uptoBulkAll ds ≤ 1048576)
def OpenSpec.upto (s : _root_.Go.ChangeSpec) : _root_.Go.OpenSpec := { _root_.Go.OpenSpec.ofChange s with cond := some uptoSmall }

/-- 'amphoralaw14.IndexMerges', WHERE WHAT IT READS IS OF BULK AT MOST 1048576: true; the input reads as it did. -/
def indexMergesUptoRow : OpenClaim := { program := "ytoianikapjkekaa", sum := "320bf765e2af4832421baadb66345d6b45782c89970d0019b1d6b0f877c84a38", func := "amphora/amphoralaw14.IndexMerges", spec := "indexMerges", inPlace := ["internal/bytealg.Compare"], unfollowed := true, recurses := true, plainKeys := false, apart := false, narrowed := true }
def IndexMergesUptoSaid : Prop := indexMergesUptoRow.holds Try.pinned (OpenSpec.upto indexMergesSpec)

/-- 'amphoralaw14.IndexLaws', WHERE WHAT IT READS IS OF BULK AT MOST 1048576: true; the input reads as it did. -/
def indexLawsUptoRow : OpenClaim := { program := "ytoianikapjkekaa", sum := "320bf765e2af4832421baadb66345d6b45782c89970d0019b1d6b0f877c84a38", func := "amphora/amphoralaw14.IndexLaws", spec := "indexLaws", inPlace := ["internal/bytealg.Compare"], unfollowed := true, recurses := true, plainKeys := false, apart := false, narrowed := true }
def IndexLawsUptoSaid : Prop := indexLawsUptoRow.holds Try.pinned (OpenSpec.upto indexLawsSpec)

/-- 'amphoralaw14.IndexPlays', WHERE WHAT IT READS IS OF BULK AT MOST 1048576: true; the input reads as it did. -/
def indexPlaysUptoRow : OpenClaim := { program := "ytoianikapjkekaa", sum := "320bf765e2af4832421baadb66345d6b45782c89970d0019b1d6b0f877c84a38", func := "amphora/amphoralaw14.IndexPlays", spec := "indexPlays", inPlace := ["internal/bytealg.Compare"], unfollowed := true, recurses := true, plainKeys := false, apart := false, narrowed := true }
def IndexPlaysUptoSaid : Prop := indexPlaysUptoRow.holds Try.pinned (OpenSpec.upto indexPlaysSpec)

/-- 'amphoralaw14.IndexNone', WHERE WHAT IT READS IS OF BULK AT MOST 1048576: true; the input reads as it did. -/
def indexNoneUptoRow : OpenClaim := { program := "ytoianikapjkekaa", sum := "320bf765e2af4832421baadb66345d6b45782c89970d0019b1d6b0f877c84a38", func := "amphora/amphoralaw14.IndexNone", spec := "indexNone", inPlace := ["internal/bytealg.Compare"], unfollowed := true, recurses := true, plainKeys := false, apart := false, narrowed := true }
def IndexNoneUptoSaid : Prop := indexNoneUptoRow.holds Try.pinned (OpenSpec.upto indexNoneSpec)

/-- 'amphoralaw14.IndexSegments', WHERE WHAT IT READS IS OF BULK AT MOST 1048576: true; the input reads as it did. -/
def indexSegmentsUptoRow : OpenClaim := { program := "ytoianikapjkekaa", sum := "320bf765e2af4832421baadb66345d6b45782c89970d0019b1d6b0f877c84a38", func := "amphora/amphoralaw14.IndexSegments", spec := "indexSegments", inPlace := ["internal/bytealg.Compare"], unfollowed := true, recurses := true, plainKeys := false, apart := false, narrowed := true }
def IndexSegmentsUptoSaid : Prop := indexSegmentsUptoRow.holds Try.pinned (OpenSpec.upto indexSegmentsSpec)

/-- 'amphoralaw14.IndexBytes', WHERE WHAT IT READS IS OF BULK AT MOST 1048576: true; the input reads as it did. -/
def indexBytesUptoRow : OpenClaim := { program := "ytoianikapjkekaa", sum := "320bf765e2af4832421baadb66345d6b45782c89970d0019b1d6b0f877c84a38", func := "amphora/amphoralaw14.IndexBytes", spec := "indexBytes", inPlace := ["internal/bytealg.Compare"], unfollowed := true, recurses := true, plainKeys := false, apart := false, narrowed := true }
def IndexBytesUptoSaid : Prop := indexBytesUptoRow.holds Try.pinned (OpenSpec.upto indexBytesSpec)

end Rows
end Go.Proofs.Ytoianikapjkekaa
