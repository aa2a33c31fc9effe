/-
  No cell of these rows narrows 'for every input' (looked for: loops, veiled, ifaces, maps, wideKeys, modest, calm, conditions, laid).
  DERIVED. THE GIVEN ROWS OF THIS SEAT. 4 by the template 'for every input the law returns true; each argument reads behind the call as it read before'; 0 by the template 'total and deterministic' (their statements: YtdcgapabphjgbaaTotals.lean).
  GIVEN WITH THE SEED: the statements are not yours to turn. If you find one false, say at which input.
  Laid BY PROGRAM, IN A SANDBOX (cutbox-rows.mjs): the forced cells as the released guide's own fill.sh prints them over the translation 7c817d6dcff17733… (all of the seat's roots in one cut). By AI agents, Wed Nov 11 2026. No macro, syntax, notation, axiom, sorry.
-/
import Derived.Test.YtdcgapabphjgbaaChecked
import GoSem.Claim
import GoSem.ClaimJoined
import GoSem.ClaimMapViews
import Derived.JoinedTies
import Derived.KernelRfl
namespace Go.Proofs.Ytdcgapabphjgbaa
/- THE CELL 'sum', in the pinned program and in every row, IS THE sha256 OF THE DUMP (.gsa) THAT YtdcgapabphjgbaaProg.lean LOADS. Nothing in Lean hashes anything: it is a label: what it is worth is what the hold of that sum in a sandbox is worth. -/
noncomputable def Try.pinned : Pinned := { name := "ytdcgapabphjgbaa", sum := "7c817d6dcff177335a74e0afbbad2213c3c2ccc707486c254815f45ff2569f38", checked := Try.checked }
namespace Rows
def none {H : Type} : Left H := { results := [], args := [] }

/-- 'amphoralaw20.PruneKeeps': WHATEVER THE INPUT: true; the input reads as it did. -/
def pruneKeepsSpec : ChangeSpec := { name := "pruneKeeps", fn := fun _ => fun
  | [d1, d2] => { results := [.lit (.bool true)], args := [d1, d2] }
  | _ => none }
def pruneKeepsRow : OpenClaim := { program := "ytdcgapabphjgbaa", sum := "7c817d6dcff177335a74e0afbbad2213c3c2ccc707486c254815f45ff2569f38", func := "amphora/amphoralaw20.PruneKeeps", spec := "pruneKeeps", unfollowed := true, recurses := true, apart := false }
def PruneKeepsSaid : Prop := pruneKeepsRow.holds Try.pinned (OpenSpec.ofChange pruneKeepsSpec)

/-- ITS FALSE NEIGHBOUR: 'it returns false'. Refute it at one input. -/
def pruneKeepsWrong : ChangeSpec := { name := "pruneKeeps", fn := fun _ => fun
  | [d1, d2] => { results := [.lit (.bool false)], args := [d1, d2] }
  | _ => none }
def PruneKeepsWrongFalsely : Prop := pruneKeepsRow.holds Try.pinned (OpenSpec.ofChange pruneKeepsWrong)

/-- 'amphoralaw20.PruneCounts': WHATEVER THE INPUT: true; the input reads as it did. -/
def pruneCountsSpec : ChangeSpec := { name := "pruneCounts", fn := fun _ => fun
  | [d1, d2] => { results := [.lit (.bool true)], args := [d1, d2] }
  | _ => none }
def pruneCountsRow : OpenClaim := { program := "ytdcgapabphjgbaa", sum := "7c817d6dcff177335a74e0afbbad2213c3c2ccc707486c254815f45ff2569f38", func := "amphora/amphoralaw20.PruneCounts", spec := "pruneCounts", unfollowed := true, recurses := true, apart := false }
def PruneCountsSaid : Prop := pruneCountsRow.holds Try.pinned (OpenSpec.ofChange pruneCountsSpec)

/-- ITS FALSE NEIGHBOUR: 'it returns false'. Refute it at one input. -/
def pruneCountsWrong : ChangeSpec := { name := "pruneCounts", fn := fun _ => fun
  | [d1, d2] => { results := [.lit (.bool false)], args := [d1, d2] }
  | _ => none }
def PruneCountsWrongFalsely : Prop := pruneCountsRow.holds Try.pinned (OpenSpec.ofChange pruneCountsWrong)

/-- 'amphoralaw20.PruneGrows': WHATEVER THE INPUT: true; the input reads as it did. -/
def pruneGrowsSpec : ChangeSpec := { name := "pruneGrows", fn := fun _ => fun
  | [d1, d2, d3] => { results := [.lit (.bool true)], args := [d1, d2, d3] }
  | _ => none }
def pruneGrowsRow : OpenClaim := { program := "ytdcgapabphjgbaa", sum := "7c817d6dcff177335a74e0afbbad2213c3c2ccc707486c254815f45ff2569f38", func := "amphora/amphoralaw20.PruneGrows", spec := "pruneGrows", unfollowed := true, recurses := true, apart := false }
def PruneGrowsSaid : Prop := pruneGrowsRow.holds Try.pinned (OpenSpec.ofChange pruneGrowsSpec)

/-- ITS FALSE NEIGHBOUR: 'it returns false'. Refute it at one input. -/
def pruneGrowsWrong : ChangeSpec := { name := "pruneGrows", fn := fun _ => fun
  | [d1, d2, d3] => { results := [.lit (.bool false)], args := [d1, d2, d3] }
  | _ => none }
def PruneGrowsWrongFalsely : Prop := pruneGrowsRow.holds Try.pinned (OpenSpec.ofChange pruneGrowsWrong)

/-- 'amphoralaw20.PruneTwice': WHATEVER THE INPUT: true; the input reads as it did. -/
def pruneTwiceSpec : ChangeSpec := { name := "pruneTwice", fn := fun _ => fun
  | [d1, d2] => { results := [.lit (.bool true)], args := [d1, d2] }
  | _ => none }
def pruneTwiceRow : OpenClaim := { program := "ytdcgapabphjgbaa", sum := "7c817d6dcff177335a74e0afbbad2213c3c2ccc707486c254815f45ff2569f38", func := "amphora/amphoralaw20.PruneTwice", spec := "pruneTwice", unfollowed := true, recurses := true, apart := false }
def PruneTwiceSaid : Prop := pruneTwiceRow.holds Try.pinned (OpenSpec.ofChange pruneTwiceSpec)

/-- ITS FALSE NEIGHBOUR: 'it returns false'. Refute it at one input. -/
def pruneTwiceWrong : ChangeSpec := { name := "pruneTwice", fn := fun _ => fun
  | [d1, d2] => { results := [.lit (.bool false)], args := [d1, d2] }
  | _ => none }
def PruneTwiceWrongFalsely : Prop := pruneTwiceRow.holds Try.pinned (OpenSpec.ofChange pruneTwiceWrong)

/- THE SECOND FORM. 'bulk': how many values and letters a reading holds, each counted each time it is reached (what is shared counts as often as it is met; a slice's spare places count too). A statement '..UptoSaid' is the law's where the arguments, and the package variables that the reading takes, are together of bulk at most 1048576: NARROWER than '..Said'. Prove '..Said' where nothing that the law and all that it calls make is longer than what came in: it says more and counts as full. Else prove '..UptoSaid'. A law counts once. -/
mutual
def uptoBulk {H : Type} : DataW H → Nat
  | .lit (.string bytes) => bytes.length + 1
  | .lit _ => 1
  | .nil => 1
  | .ptr d => uptoBulk d + 1
  | .slice elems spare => uptoBulkAll elems + uptoBulkAll spare + 1
  | .agg parts => uptoBulkAll parts + 1
  | .iface _ d => uptoBulk d + 1
  | .map entries => uptoBulkEntries entries + 1
  | .held _ => 1
def uptoBulkAll {H : Type} : List (DataW H) → Nat
  | [] => 0
  | d :: r => uptoBulk d + uptoBulkAll r
def uptoBulkEntries {H : Type} : List (Lit × DataW H) → Nat
  | [] => 0
  | x :: r => uptoBulkEntry x + uptoBulkEntries r
def uptoBulkEntry {H : Type} : Lit × DataW H → Nat
  | (.string bytes, d) => bytes.length + uptoBulk d + 1
  | (_, d) => uptoBulk d + 1
 end
def uptoSmall : (H : Type) → List (DataW H) → Bool := fun _ ds => decide (uptoBulkAll ds ≤ 1048576)
def OpenSpec.upto (s : _root_.Go.ChangeSpec) : _root_.Go.OpenSpec := { _root_.Go.OpenSpec.ofChange s with cond := some uptoSmall }

/-- 'amphoralaw20.PruneKeeps', WHERE WHAT IT READS IS OF BULK AT MOST 1048576: true; the input reads as it did. -/
def pruneKeepsUptoRow : OpenClaim := { program := "ytdcgapabphjgbaa", sum := "7c817d6dcff177335a74e0afbbad2213c3c2ccc707486c254815f45ff2569f38", func := "amphora/amphoralaw20.PruneKeeps", spec := "pruneKeeps", unfollowed := true, recurses := true, apart := false, narrowed := true }
def PruneKeepsUptoSaid : Prop := pruneKeepsUptoRow.holds Try.pinned (OpenSpec.upto pruneKeepsSpec)

/-- 'amphoralaw20.PruneCounts', WHERE WHAT IT READS IS OF BULK AT MOST 1048576: true; the input reads as it did. -/
def pruneCountsUptoRow : OpenClaim := { program := "ytdcgapabphjgbaa", sum := "7c817d6dcff177335a74e0afbbad2213c3c2ccc707486c254815f45ff2569f38", func := "amphora/amphoralaw20.PruneCounts", spec := "pruneCounts", unfollowed := true, recurses := true, apart := false, narrowed := true }
def PruneCountsUptoSaid : Prop := pruneCountsUptoRow.holds Try.pinned (OpenSpec.upto pruneCountsSpec)

/-- 'amphoralaw20.PruneGrows', WHERE WHAT IT READS IS OF BULK AT MOST 1048576: true; the input reads as it did. -/
def pruneGrowsUptoRow : OpenClaim := { program := "ytdcgapabphjgbaa", sum := "7c817d6dcff177335a74e0afbbad2213c3c2ccc707486c254815f45ff2569f38", func := "amphora/amphoralaw20.PruneGrows", spec := "pruneGrows", unfollowed := true, recurses := true, apart := false, narrowed := true }
def PruneGrowsUptoSaid : Prop := pruneGrowsUptoRow.holds Try.pinned (OpenSpec.upto pruneGrowsSpec)

/-- 'amphoralaw20.PruneTwice', WHERE WHAT IT READS IS OF BULK AT MOST 1048576: true; the input reads as it did. -/
def pruneTwiceUptoRow : OpenClaim := { program := "ytdcgapabphjgbaa", sum := "7c817d6dcff177335a74e0afbbad2213c3c2ccc707486c254815f45ff2569f38", func := "amphora/amphoralaw20.PruneTwice", spec := "pruneTwice", unfollowed := true, recurses := true, apart := false, narrowed := true }
def PruneTwiceUptoSaid : Prop := pruneTwiceUptoRow.holds Try.pinned (OpenSpec.upto pruneTwiceSpec)

end Rows
end Go.Proofs.Ytdcgapabphjgbaa
