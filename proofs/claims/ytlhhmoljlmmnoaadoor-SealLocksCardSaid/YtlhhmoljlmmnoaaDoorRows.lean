/-
  NARROWER THAN 'FOR EVERY INPUT', by the rows' own cells (each row's printed sentence says how): SealTakes: laid · SealBack: laid · SealOwns: laid · SealWrites: laid · SealLocks: laid · SealUnlocks: laid.
  DERIVED. THE GIVEN ROWS OF THIS SEAT. 6 by the template 'for every input the law returns true; each argument reads behind the call as it read before'; 0 by the template 'total and deterministic' (their statements: YtlhhmoljlmmnoaaDoorTotals.lean).
  GIVEN WITH THE SEED: the statements are not yours to turn. If you find one false, say at which input.
  Laid BY PROGRAM, IN A SANDBOX (cutbox-rows.mjs): the forced cells as the released guide's own fill.sh prints them over the translation 7b32ef215a3d8bd9… (all of the seat's roots in one cut). By AI agents, Wed Nov 11 2026. No macro, syntax, notation, axiom, sorry.
-/
import Derived.Test.YtlhhmoljlmmnoaaDoorChecked
import GoSem.Claim
import GoSem.ClaimJoined
import GoSem.ClaimMapViews
import Derived.JoinedTies
import Derived.KernelRfl
namespace Go.Proofs.YtlhhmoljlmmnoaaDoor
/- THE CELL 'sum', in the pinned program and in every row, IS THE sha256 OF THE DUMP (.gsa) THAT YtlhhmoljlmmnoaaDoorProg.lean LOADS. Nothing in Lean hashes anything: it is a label: what it is worth is what the hold of that sum in a sandbox is worth. -/
noncomputable def Tryd.pinned : Pinned := { name := "ytlhhmoljlmmnoaadoor", sum := "7b32ef215a3d8bd9332f2211906b46e156380af356b8d3e81c496be60c540ca5", checked := Tryd.checked }
namespace Rows
def none {H : Type} : Left H := { results := [], args := [] }

/- WHAT THE LISTED PACKAGE-LEVEL VARIABLES READ AS WHEN THE CALL BEGINS. Each datum BY PROGRAM (the guide's laid-datum.mjs) off the statement by which the dump's own 'gosem.cut.vars' lays the variable. In a bare row this is a premise. The card (YtlhhmoljlmmnoaaDoorCards.lean) ties it to the program's text. -/
def laid_amphora_sha_k {H : Type} : DataW H := .agg [.lit (.int .u32 1116352408), .lit (.int .u32 1899447441), .lit (.int .u32 3049323471), .lit (.int .u32 3921009573), .lit (.int .u32 961987163), .lit (.int .u32 1508970993), .lit (.int .u32 2453635748), .lit (.int .u32 2870763221), .lit (.int .u32 3624381080), .lit (.int .u32 310598401), .lit (.int .u32 607225278), .lit (.int .u32 1426881987), .lit (.int .u32 1925078388), .lit (.int .u32 2162078206), .lit (.int .u32 2614888103), .lit (.int .u32 3248222580), .lit (.int .u32 3835390401), .lit (.int .u32 4022224774), .lit (.int .u32 264347078), .lit (.int .u32 604807628), .lit (.int .u32 770255983), .lit (.int .u32 1249150122), .lit (.int .u32 1555081692), .lit (.int .u32 1996064986), .lit (.int .u32 2554220882), .lit (.int .u32 2821834349), .lit (.int .u32 2952996808), .lit (.int .u32 3210313671), .lit (.int .u32 3336571891), .lit (.int .u32 3584528711), .lit (.int .u32 113926993), .lit (.int .u32 338241895), .lit (.int .u32 666307205), .lit (.int .u32 773529912), .lit (.int .u32 1294757372), .lit (.int .u32 1396182291), .lit (.int .u32 1695183700), .lit (.int .u32 1986661051), .lit (.int .u32 2177026350), .lit (.int .u32 2456956037), .lit (.int .u32 2730485921), .lit (.int .u32 2820302411), .lit (.int .u32 3259730800), .lit (.int .u32 3345764771), .lit (.int .u32 3516065817), .lit (.int .u32 3600352804), .lit (.int .u32 4094571909), .lit (.int .u32 275423344), .lit (.int .u32 430227734), .lit (.int .u32 506948616), .lit (.int .u32 659060556), .lit (.int .u32 883997877), .lit (.int .u32 958139571), .lit (.int .u32 1322822218), .lit (.int .u32 1537002063), .lit (.int .u32 1747873779), .lit (.int .u32 1955562222), .lit (.int .u32 2024104815), .lit (.int .u32 2227730452), .lit (.int .u32 2361852424), .lit (.int .u32 2428436474), .lit (.int .u32 2756734187), .lit (.int .u32 3204031479), .lit (.int .u32 3329325298)]

/-- 'amphoralaw05.SealTakes': WHATEVER THE INPUT: true; the input reads as it did. -/
def sealTakesSpec : ChangeSpec := { name := "sealTakes", fn := fun _ => fun
  | [d] => { results := [.lit (.bool true)], args := [d] }
  | _ => none }
def sealTakesRow : OpenClaim := { program := "ytlhhmoljlmmnoaadoor", sum := "7b32ef215a3d8bd9332f2211906b46e156380af356b8d3e81c496be60c540ca5", func := "amphora/amphoralaw05.SealTakes", spec := "sealTakes", named := ["amphora/sha.k"], apart := false, laid := [("amphora/sha.k", laid_amphora_sha_k)] }
def SealTakesSaid : Prop := sealTakesRow.holds Tryd.pinned (OpenSpec.ofChange sealTakesSpec)

/-- ITS FALSE NEIGHBOUR: 'it returns false'. Refute it at one input. -/
def sealTakesWrong : ChangeSpec := { name := "sealTakes", fn := fun _ => fun
  | [d] => { results := [.lit (.bool false)], args := [d] }
  | _ => none }
def SealTakesWrongFalsely : Prop := sealTakesRow.holds Tryd.pinned (OpenSpec.ofChange sealTakesWrong)

/-- 'amphoralaw05.SealBack': WHATEVER THE INPUT: true; the input reads as it did. -/
def sealBackSpec : ChangeSpec := { name := "sealBack", fn := fun _ => fun
  | [d1, d2, d3] => { results := [.lit (.bool true)], args := [d1, d2, d3] }
  | _ => none }
def sealBackRow : OpenClaim := { program := "ytlhhmoljlmmnoaadoor", sum := "7b32ef215a3d8bd9332f2211906b46e156380af356b8d3e81c496be60c540ca5", func := "amphora/amphoralaw05.SealBack", spec := "sealBack", named := ["amphora/sha.k"], apart := false, laid := [("amphora/sha.k", laid_amphora_sha_k)] }
def SealBackSaid : Prop := sealBackRow.holds Tryd.pinned (OpenSpec.ofChange sealBackSpec)

/-- ITS FALSE NEIGHBOUR: 'it returns false'. Refute it at one input. -/
def sealBackWrong : ChangeSpec := { name := "sealBack", fn := fun _ => fun
  | [d1, d2, d3] => { results := [.lit (.bool false)], args := [d1, d2, d3] }
  | _ => none }
def SealBackWrongFalsely : Prop := sealBackRow.holds Tryd.pinned (OpenSpec.ofChange sealBackWrong)

/-- 'amphoralaw05.SealOwns': WHATEVER THE INPUT: true; the input reads as it did. -/
def sealOwnsSpec : ChangeSpec := { name := "sealOwns", fn := fun _ => fun
  | [d] => { results := [.lit (.bool true)], args := [d] }
  | _ => none }
def sealOwnsRow : OpenClaim := { program := "ytlhhmoljlmmnoaadoor", sum := "7b32ef215a3d8bd9332f2211906b46e156380af356b8d3e81c496be60c540ca5", func := "amphora/amphoralaw05.SealOwns", spec := "sealOwns", named := ["amphora/sha.k"], apart := false, laid := [("amphora/sha.k", laid_amphora_sha_k)] }
def SealOwnsSaid : Prop := sealOwnsRow.holds Tryd.pinned (OpenSpec.ofChange sealOwnsSpec)

/-- ITS FALSE NEIGHBOUR: 'it returns false'. Refute it at one input. -/
def sealOwnsWrong : ChangeSpec := { name := "sealOwns", fn := fun _ => fun
  | [d] => { results := [.lit (.bool false)], args := [d] }
  | _ => none }
def SealOwnsWrongFalsely : Prop := sealOwnsRow.holds Tryd.pinned (OpenSpec.ofChange sealOwnsWrong)

/-- 'amphoralaw05.SealWrites': WHATEVER THE INPUT: true; the input reads as it did. -/
def sealWritesSpec : ChangeSpec := { name := "sealWrites", fn := fun _ => fun
  | [d] => { results := [.lit (.bool true)], args := [d] }
  | _ => none }
def sealWritesRow : OpenClaim := { program := "ytlhhmoljlmmnoaadoor", sum := "7b32ef215a3d8bd9332f2211906b46e156380af356b8d3e81c496be60c540ca5", func := "amphora/amphoralaw05.SealWrites", spec := "sealWrites", named := ["amphora/sha.k"], apart := false, laid := [("amphora/sha.k", laid_amphora_sha_k)] }
def SealWritesSaid : Prop := sealWritesRow.holds Tryd.pinned (OpenSpec.ofChange sealWritesSpec)

/-- ITS FALSE NEIGHBOUR: 'it returns false'. Refute it at one input. -/
def sealWritesWrong : ChangeSpec := { name := "sealWrites", fn := fun _ => fun
  | [d] => { results := [.lit (.bool false)], args := [d] }
  | _ => none }
def SealWritesWrongFalsely : Prop := sealWritesRow.holds Tryd.pinned (OpenSpec.ofChange sealWritesWrong)

/-- 'amphoralaw05.SealLocks': WHATEVER THE INPUT: true; the input reads as it did. -/
def sealLocksSpec : ChangeSpec := { name := "sealLocks", fn := fun _ => fun
  | [d] => { results := [.lit (.bool true)], args := [d] }
  | _ => none }
def sealLocksRow : OpenClaim := { program := "ytlhhmoljlmmnoaadoor", sum := "7b32ef215a3d8bd9332f2211906b46e156380af356b8d3e81c496be60c540ca5", func := "amphora/amphoralaw05.SealLocks", spec := "sealLocks", named := ["amphora/sha.k"], apart := false, laid := [("amphora/sha.k", laid_amphora_sha_k)] }
def SealLocksSaid : Prop := sealLocksRow.holds Tryd.pinned (OpenSpec.ofChange sealLocksSpec)

/-- ITS FALSE NEIGHBOUR: 'it returns false'. Refute it at one input. -/
def sealLocksWrong : ChangeSpec := { name := "sealLocks", fn := fun _ => fun
  | [d] => { results := [.lit (.bool false)], args := [d] }
  | _ => none }
def SealLocksWrongFalsely : Prop := sealLocksRow.holds Tryd.pinned (OpenSpec.ofChange sealLocksWrong)

/-- 'amphoralaw05.SealUnlocks': WHATEVER THE INPUT: true; the input reads as it did. -/
def sealUnlocksSpec : ChangeSpec := { name := "sealUnlocks", fn := fun _ => fun
  | [d1, d2] => { results := [.lit (.bool true)], args := [d1, d2] }
  | _ => none }
def sealUnlocksRow : OpenClaim := { program := "ytlhhmoljlmmnoaadoor", sum := "7b32ef215a3d8bd9332f2211906b46e156380af356b8d3e81c496be60c540ca5", func := "amphora/amphoralaw05.SealUnlocks", spec := "sealUnlocks", named := ["amphora/sha.k"], apart := false, laid := [("amphora/sha.k", laid_amphora_sha_k)] }
def SealUnlocksSaid : Prop := sealUnlocksRow.holds Tryd.pinned (OpenSpec.ofChange sealUnlocksSpec)

/-- ITS FALSE NEIGHBOUR: 'it returns false'. Refute it at one input. -/
def sealUnlocksWrong : ChangeSpec := { name := "sealUnlocks", fn := fun _ => fun
  | [d1, d2] => { results := [.lit (.bool false)], args := [d1, d2] }
  | _ => none }
def SealUnlocksWrongFalsely : Prop := sealUnlocksRow.holds Tryd.pinned (OpenSpec.ofChange sealUnlocksWrong)

/- THE SECOND FORM. 'bulk': how many values and letters a reading holds, each counted each time it is reached (what is shared counts as often as it is met; a slice's spare places count too). A statement '..UptoSaid' is the law's where the arguments, and the package variables that the reading takes, are together of bulk at most 1048576: NARROWER than '..Said'. Prove '..Said' where nothing that the law and all that it calls make is longer than what came in: it says more and counts as full. Else prove '..UptoSaid'. A law counts once. -/
mutual
def uptoBulk {H : Type} : DataW H → Nat
  | .lit (.string bytes) => bytes.length + 1
  | .lit _ => 1
  | .nil => 1
  | .ptr d => uptoBulk d + 1
  | .slice elems spare => uptoBulkAll elems + uptoBulkAll spare + 1
  | .agg parts => uptoBulkAll parts + 1
  | .iface _ d => uptoBulk d + 1
  | .map entries => uptoBulkEntries entries + 1
  | .held _ => 1
def uptoBulkAll {H : Type} : List (DataW H) → Nat
  | [] => 0
  | d :: r => uptoBulk d + uptoBulkAll r
def uptoBulkEntries {H : Type} : List (Lit × DataW H) → Nat
  | [] => 0
  | x :: r => uptoBulkEntry x + uptoBulkEntries r
def uptoBulkEntry {H : Type} : Lit × DataW H → Nat
  | (.string bytes, d) => bytes.length + uptoBulk d + 1
  | (_, d) => uptoBulk d + 1
 end
def uptoSmall : (H : Type) → List (DataW H) → Bool := fun _ ds => decide (uptoBulkAll ds ≤ 1048576)
def OpenSpec.upto (s : _root_.Go.ChangeSpec) : _root_.Go.OpenSpec := { _root_.Go.OpenSpec.ofChange s with cond := some uptoSmall }

/-- 'amphoralaw05.SealTakes', WHERE WHAT IT READS IS OF BULK AT MOST 1048576: true; the input reads as it did. -/
def sealTakesUptoRow : OpenClaim := { program := "ytlhhmoljlmmnoaadoor", sum := "7b32ef215a3d8bd9332f2211906b46e156380af356b8d3e81c496be60c540ca5", func := "amphora/amphoralaw05.SealTakes", spec := "sealTakes", named := ["amphora/sha.k"], apart := false, laid := [("amphora/sha.k", laid_amphora_sha_k)], narrowed := true }
def SealTakesUptoSaid : Prop := sealTakesUptoRow.holds Tryd.pinned (OpenSpec.upto sealTakesSpec)

/-- 'amphoralaw05.SealBack', WHERE WHAT IT READS IS OF BULK AT MOST 1048576: true; the input reads as it did. -/
def sealBackUptoRow : OpenClaim := { program := "ytlhhmoljlmmnoaadoor", sum := "7b32ef215a3d8bd9332f2211906b46e156380af356b8d3e81c496be60c540ca5", func := "amphora/amphoralaw05.SealBack", spec := "sealBack", named := ["amphora/sha.k"], apart := false, laid := [("amphora/sha.k", laid_amphora_sha_k)], narrowed := true }
def SealBackUptoSaid : Prop := sealBackUptoRow.holds Tryd.pinned (OpenSpec.upto sealBackSpec)

/-- 'amphoralaw05.SealOwns', WHERE WHAT IT READS IS OF BULK AT MOST 1048576: true; the input reads as it did. -/
def sealOwnsUptoRow : OpenClaim := { program := "ytlhhmoljlmmnoaadoor", sum := "7b32ef215a3d8bd9332f2211906b46e156380af356b8d3e81c496be60c540ca5", func := "amphora/amphoralaw05.SealOwns", spec := "sealOwns", named := ["amphora/sha.k"], apart := false, laid := [("amphora/sha.k", laid_amphora_sha_k)], narrowed := true }
def SealOwnsUptoSaid : Prop := sealOwnsUptoRow.holds Tryd.pinned (OpenSpec.upto sealOwnsSpec)

/-- 'amphoralaw05.SealWrites', WHERE WHAT IT READS IS OF BULK AT MOST 1048576: true; the input reads as it did. -/
def sealWritesUptoRow : OpenClaim := { program := "ytlhhmoljlmmnoaadoor", sum := "7b32ef215a3d8bd9332f2211906b46e156380af356b8d3e81c496be60c540ca5", func := "amphora/amphoralaw05.SealWrites", spec := "sealWrites", named := ["amphora/sha.k"], apart := false, laid := [("amphora/sha.k", laid_amphora_sha_k)], narrowed := true }
def SealWritesUptoSaid : Prop := sealWritesUptoRow.holds Tryd.pinned (OpenSpec.upto sealWritesSpec)

/-- 'amphoralaw05.SealLocks', WHERE WHAT IT READS IS OF BULK AT MOST 1048576: true; the input reads as it did. -/
def sealLocksUptoRow : OpenClaim := { program := "ytlhhmoljlmmnoaadoor", sum := "7b32ef215a3d8bd9332f2211906b46e156380af356b8d3e81c496be60c540ca5", func := "amphora/amphoralaw05.SealLocks", spec := "sealLocks", named := ["amphora/sha.k"], apart := false, laid := [("amphora/sha.k", laid_amphora_sha_k)], narrowed := true }
def SealLocksUptoSaid : Prop := sealLocksUptoRow.holds Tryd.pinned (OpenSpec.upto sealLocksSpec)

/-- 'amphoralaw05.SealUnlocks', WHERE WHAT IT READS IS OF BULK AT MOST 1048576: true; the input reads as it did. -/
def sealUnlocksUptoRow : OpenClaim := { program := "ytlhhmoljlmmnoaadoor", sum := "7b32ef215a3d8bd9332f2211906b46e156380af356b8d3e81c496be60c540ca5", func := "amphora/amphoralaw05.SealUnlocks", spec := "sealUnlocks", named := ["amphora/sha.k"], apart := false, laid := [("amphora/sha.k", laid_amphora_sha_k)], narrowed := true }
def SealUnlocksUptoSaid : Prop := sealUnlocksUptoRow.holds Tryd.pinned (OpenSpec.upto sealUnlocksSpec)

end Rows
end Go.Proofs.YtlhhmoljlmmnoaaDoor
