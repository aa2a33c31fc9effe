/-
  No cell of these rows narrows 'for every input' (looked for: loops, veiled, ifaces, maps, wideKeys, modest, calm, conditions, laid).
  DERIVED. THE GIVEN ROWS OF THIS SEAT. 7 by the template 'for every input the law returns true; each argument reads behind the call as it read before'; 0 by the template 'total and deterministic' (their statements: YtpfjakmbokkkoaaTotals.lean).
  GIVEN WITH THE SEED: the statements are not yours to turn. If you find one false, say at which input.
  Laid BY PROGRAM, IN A SANDBOX (cutbox-rows.mjs): the forced cells as the released guide's own fill.sh prints them over the translation 176b90a6e90a3aec… (all of the seat's roots in one cut). By AI agents, Wed Nov 11 2026. No macro, syntax, notation, axiom, sorry.
-/
import Derived.Test.YtpfjakmbokkkoaaChecked
import GoSem.Claim
import GoSem.ClaimJoined
import GoSem.ClaimMapViews
import Derived.JoinedTies
import Derived.KernelRfl
namespace Go.Proofs.Ytpfjakmbokkkoaa
/- THE CELL 'sum', in the pinned program and in every row, IS THE sha256 OF THE DUMP (.gsa) THAT YtpfjakmbokkkoaaProg.lean LOADS. Nothing in Lean hashes anything: it is a label: what it is worth is what the hold of that sum in a sandbox is worth. -/
noncomputable def Try.pinned : Pinned := { name := "ytpfjakmbokkkoaa", sum := "176b90a6e90a3aec9fa83eaec6ef36f9ef0d5f348e855852d084ecb1eea1fdc0", checked := Try.checked }
namespace Rows
def none {H : Type} : Left H := { results := [], args := [] }

/-- 'amphoralaw04.WireNumbers': WHATEVER THE INPUT: true; the input reads as it did. -/
def wireNumbersSpec : ChangeSpec := { name := "wireNumbers", fn := fun _ => fun
  | [d1, d2] => { results := [.lit (.bool true)], args := [d1, d2] }
  | _ => none }
def wireNumbersRow : OpenClaim := { program := "ytpfjakmbokkkoaa", sum := "176b90a6e90a3aec9fa83eaec6ef36f9ef0d5f348e855852d084ecb1eea1fdc0", func := "amphora/amphoralaw04.WireNumbers", spec := "wireNumbers", apart := false }
def WireNumbersSaid : Prop := wireNumbersRow.holds Try.pinned (OpenSpec.ofChange wireNumbersSpec)

/-- ITS FALSE NEIGHBOUR: 'it returns false'. Refute it at one input. -/
def wireNumbersWrong : ChangeSpec := { name := "wireNumbers", fn := fun _ => fun
  | [d1, d2] => { results := [.lit (.bool false)], args := [d1, d2] }
  | _ => none }
def WireNumbersWrongFalsely : Prop := wireNumbersRow.holds Try.pinned (OpenSpec.ofChange wireNumbersWrong)

/-- 'amphoralaw04.WireFields': WHATEVER THE INPUT: true; the input reads as it did. -/
def wireFieldsSpec : ChangeSpec := { name := "wireFields", fn := fun _ => fun
  | [d1, d2, d3] => { results := [.lit (.bool true)], args := [d1, d2, d3] }
  | _ => none }
def wireFieldsRow : OpenClaim := { program := "ytpfjakmbokkkoaa", sum := "176b90a6e90a3aec9fa83eaec6ef36f9ef0d5f348e855852d084ecb1eea1fdc0", func := "amphora/amphoralaw04.WireFields", spec := "wireFields", apart := false }
def WireFieldsSaid : Prop := wireFieldsRow.holds Try.pinned (OpenSpec.ofChange wireFieldsSpec)

/-- ITS FALSE NEIGHBOUR: 'it returns false'. Refute it at one input. -/
def wireFieldsWrong : ChangeSpec := { name := "wireFields", fn := fun _ => fun
  | [d1, d2, d3] => { results := [.lit (.bool false)], args := [d1, d2, d3] }
  | _ => none }
def WireFieldsWrongFalsely : Prop := wireFieldsRow.holds Try.pinned (OpenSpec.ofChange wireFieldsWrong)

/-- 'amphoralaw04.WireFramed': WHATEVER THE INPUT: true; the input reads as it did. -/
def wireFramedSpec : ChangeSpec := { name := "wireFramed", fn := fun _ => fun
  | [d] => { results := [.lit (.bool true)], args := [d] }
  | _ => none }
def wireFramedRow : OpenClaim := { program := "ytpfjakmbokkkoaa", sum := "176b90a6e90a3aec9fa83eaec6ef36f9ef0d5f348e855852d084ecb1eea1fdc0", func := "amphora/amphoralaw04.WireFramed", spec := "wireFramed", apart := false }
def WireFramedSaid : Prop := wireFramedRow.holds Try.pinned (OpenSpec.ofChange wireFramedSpec)

/-- ITS FALSE NEIGHBOUR: 'it returns false'. Refute it at one input. -/
def wireFramedWrong : ChangeSpec := { name := "wireFramed", fn := fun _ => fun
  | [d] => { results := [.lit (.bool false)], args := [d] }
  | _ => none }
def WireFramedWrongFalsely : Prop := wireFramedRow.holds Try.pinned (OpenSpec.ofChange wireFramedWrong)

/-- 'amphoralaw04.WireNone': WHATEVER THE INPUT: true; the input reads as it did. -/
def wireNoneSpec : ChangeSpec := { name := "wireNone", fn := fun _ => fun
  | [d] => { results := [.lit (.bool true)], args := [d] }
  | _ => none }
def wireNoneRow : OpenClaim := { program := "ytpfjakmbokkkoaa", sum := "176b90a6e90a3aec9fa83eaec6ef36f9ef0d5f348e855852d084ecb1eea1fdc0", func := "amphora/amphoralaw04.WireNone", spec := "wireNone", apart := false }
def WireNoneSaid : Prop := wireNoneRow.holds Try.pinned (OpenSpec.ofChange wireNoneSpec)

/-- ITS FALSE NEIGHBOUR: 'it returns false'. Refute it at one input. -/
def wireNoneWrong : ChangeSpec := { name := "wireNone", fn := fun _ => fun
  | [d] => { results := [.lit (.bool false)], args := [d] }
  | _ => none }
def WireNoneWrongFalsely : Prop := wireNoneRow.holds Try.pinned (OpenSpec.ofChange wireNoneWrong)

/-- 'amphoralaw04.WireReads': WHATEVER THE INPUT: true; the input reads as it did. -/
def wireReadsSpec : ChangeSpec := { name := "wireReads", fn := fun _ => fun
  | [d1, d2] => { results := [.lit (.bool true)], args := [d1, d2] }
  | _ => none }
def wireReadsRow : OpenClaim := { program := "ytpfjakmbokkkoaa", sum := "176b90a6e90a3aec9fa83eaec6ef36f9ef0d5f348e855852d084ecb1eea1fdc0", func := "amphora/amphoralaw04.WireReads", spec := "wireReads", apart := false }
def WireReadsSaid : Prop := wireReadsRow.holds Try.pinned (OpenSpec.ofChange wireReadsSpec)

/-- ITS FALSE NEIGHBOUR: 'it returns false'. Refute it at one input. -/
def wireReadsWrong : ChangeSpec := { name := "wireReads", fn := fun _ => fun
  | [d1, d2] => { results := [.lit (.bool false)], args := [d1, d2] }
  | _ => none }
def WireReadsWrongFalsely : Prop := wireReadsRow.holds Try.pinned (OpenSpec.ofChange wireReadsWrong)

/-- 'amphoralaw04.WireCuts': WHATEVER THE INPUT: true; the input reads as it did. -/
def wireCutsSpec : ChangeSpec := { name := "wireCuts", fn := fun _ => fun
  | [d1, d2, d3] => { results := [.lit (.bool true)], args := [d1, d2, d3] }
  | _ => none }
def wireCutsRow : OpenClaim := { program := "ytpfjakmbokkkoaa", sum := "176b90a6e90a3aec9fa83eaec6ef36f9ef0d5f348e855852d084ecb1eea1fdc0", func := "amphora/amphoralaw04.WireCuts", spec := "wireCuts", apart := false }
def WireCutsSaid : Prop := wireCutsRow.holds Try.pinned (OpenSpec.ofChange wireCutsSpec)

/-- ITS FALSE NEIGHBOUR: 'it returns false'. Refute it at one input. -/
def wireCutsWrong : ChangeSpec := { name := "wireCuts", fn := fun _ => fun
  | [d1, d2, d3] => { results := [.lit (.bool false)], args := [d1, d2, d3] }
  | _ => none }
def WireCutsWrongFalsely : Prop := wireCutsRow.holds Try.pinned (OpenSpec.ofChange wireCutsWrong)

/-- 'amphoralaw04.WireBack': WHATEVER THE INPUT: true; the input reads as it did. -/
def wireBackSpec : ChangeSpec := { name := "wireBack", fn := fun _ => fun
  | [d1, d2, d3] => { results := [.lit (.bool true)], args := [d1, d2, d3] }
  | _ => none }
def wireBackRow : OpenClaim := { program := "ytpfjakmbokkkoaa", sum := "176b90a6e90a3aec9fa83eaec6ef36f9ef0d5f348e855852d084ecb1eea1fdc0", func := "amphora/amphoralaw04.WireBack", spec := "wireBack", apart := false }
def WireBackSaid : Prop := wireBackRow.holds Try.pinned (OpenSpec.ofChange wireBackSpec)

/-- ITS FALSE NEIGHBOUR: 'it returns false'. Refute it at one input. -/
def wireBackWrong : ChangeSpec := { name := "wireBack", fn := fun _ => fun
  | [d1, d2, d3] => { results := [.lit (.bool false)], args := [d1, d2, d3] }
  | _ => none }
def WireBackWrongFalsely : Prop := wireBackRow.holds Try.pinned (OpenSpec.ofChange wireBackWrong)

/- THE SECOND FORM. 'bulk': how many values and letters a reading holds, each counted each time it is reached (what is shared counts as often as it is met; a slice's spare places count too). A statement '..UptoSaid' is the law's where the arguments, and the package variables that the reading takes, are together of bulk at most 1048576: NARROWER than '..Said'. Prove '..Said' where nothing that the law and all that it calls make is longer than what came in: it says more and counts as full. Else prove '..UptoSaid'. A law counts once. -/
mutual
def uptoBulk {H : Type} : DataW H → Nat
  | .lit (.string bytes) => bytes.length + 1
  | .lit _ => 1
  | .nil => 1
  | .ptr d => uptoBulk d + 1
  | .slice elems spare => uptoBulkAll elems + uptoBulkAll spare + 1
  | .agg parts => uptoBulkAll parts + 1
  | .iface _ d => uptoBulk d + 1
  | .map entries => uptoBulkEntries entries + 1
  | .held _ => 1
def uptoBulkAll {H : Type} : List (DataW H) → Nat
  | [] => 0
  | d :: r => uptoBulk d + uptoBulkAll r
def uptoBulkEntries {H : Type} : List (Lit × DataW H) → Nat
  | [] => 0
  | x :: r => uptoBulkEntry x + uptoBulkEntries r
def uptoBulkEntry {H : Type} : Lit × DataW H → Nat
  | (.string bytes, d) => bytes.length + uptoBulk d + 1
  | (_, d) => uptoBulk d + 1
 end
def uptoSmall : (H : Type) → List (DataW H) → Bool := fun _ ds => decide (uptoBulkAll ds ≤ 1048576)
def OpenSpec.upto (s : _root_.Go.ChangeSpec) : _root_.Go.OpenSpec := { _root_.Go.OpenSpec.ofChange s with cond := some uptoSmall }

/-- 'amphoralaw04.WireNumbers', WHERE WHAT IT READS IS OF BULK AT MOST 1048576: true; the input reads as it did. -/
def wireNumbersUptoRow : OpenClaim := { program := "ytpfjakmbokkkoaa", sum := "176b90a6e90a3aec9fa83eaec6ef36f9ef0d5f348e855852d084ecb1eea1fdc0", func := "amphora/amphoralaw04.WireNumbers", spec := "wireNumbers", apart := false, narrowed := true }
def WireNumbersUptoSaid : Prop := wireNumbersUptoRow.holds Try.pinned (OpenSpec.upto wireNumbersSpec)

/-- 'amphoralaw04.WireFields', WHERE WHAT IT READS IS OF BULK AT MOST 1048576: true; the input reads as it did. -/
def wireFieldsUptoRow : OpenClaim := { program := "ytpfjakmbokkkoaa", sum := "176b90a6e90a3aec9fa83eaec6ef36f9ef0d5f348e855852d084ecb1eea1fdc0", func := "amphora/amphoralaw04.WireFields", spec := "wireFields", apart := false, narrowed := true }
def WireFieldsUptoSaid : Prop := wireFieldsUptoRow.holds Try.pinned (OpenSpec.upto wireFieldsSpec)

/-- 'amphoralaw04.WireFramed', WHERE WHAT IT READS IS OF BULK AT MOST 1048576: true; the input reads as it did. -/
def wireFramedUptoRow : OpenClaim := { program := "ytpfjakmbokkkoaa", sum := "176b90a6e90a3aec9fa83eaec6ef36f9ef0d5f348e855852d084ecb1eea1fdc0", func := "amphora/amphoralaw04.WireFramed", spec := "wireFramed", apart := false, narrowed := true }
def WireFramedUptoSaid : Prop := wireFramedUptoRow.holds Try.pinned (OpenSpec.upto wireFramedSpec)

/-- 'amphoralaw04.WireNone', WHERE WHAT IT READS IS OF BULK AT MOST 1048576: true; the input reads as it did. -/
def wireNoneUptoRow : OpenClaim := { program := "ytpfjakmbokkkoaa", sum := "176b90a6e90a3aec9fa83eaec6ef36f9ef0d5f348e855852d084ecb1eea1fdc0", func := "amphora/amphoralaw04.WireNone", spec := "wireNone", apart := false, narrowed := true }
def WireNoneUptoSaid : Prop := wireNoneUptoRow.holds Try.pinned (OpenSpec.upto wireNoneSpec)

/-- 'amphoralaw04.WireReads', WHERE WHAT IT READS IS OF BULK AT MOST 1048576: true; the input reads as it did. -/
def wireReadsUptoRow : OpenClaim := { program := "ytpfjakmbokkkoaa", sum := "176b90a6e90a3aec9fa83eaec6ef36f9ef0d5f348e855852d084ecb1eea1fdc0", func := "amphora/amphoralaw04.WireReads", spec := "wireReads", apart := false, narrowed := true }
def WireReadsUptoSaid : Prop := wireReadsUptoRow.holds Try.pinned (OpenSpec.upto wireReadsSpec)

/-- 'amphoralaw04.WireCuts', WHERE WHAT IT READS IS OF BULK AT MOST 1048576: true; the input reads as it did. -/
def wireCutsUptoRow : OpenClaim := { program := "ytpfjakmbokkkoaa", sum := "176b90a6e90a3aec9fa83eaec6ef36f9ef0d5f348e855852d084ecb1eea1fdc0", func := "amphora/amphoralaw04.WireCuts", spec := "wireCuts", apart := false, narrowed := true }
def WireCutsUptoSaid : Prop := wireCutsUptoRow.holds Try.pinned (OpenSpec.upto wireCutsSpec)

/-- 'amphoralaw04.WireBack', WHERE WHAT IT READS IS OF BULK AT MOST 1048576: true; the input reads as it did. -/
def wireBackUptoRow : OpenClaim := { program := "ytpfjakmbokkkoaa", sum := "176b90a6e90a3aec9fa83eaec6ef36f9ef0d5f348e855852d084ecb1eea1fdc0", func := "amphora/amphoralaw04.WireBack", spec := "wireBack", apart := false, narrowed := true }
def WireBackUptoSaid : Prop := wireBackUptoRow.holds Try.pinned (OpenSpec.upto wireBackSpec)

end Rows
end Go.Proofs.Ytpfjakmbokkkoaa
