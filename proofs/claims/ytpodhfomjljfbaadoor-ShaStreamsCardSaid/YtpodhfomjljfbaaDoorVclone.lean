/- Verification conditions of functions, printed by the session's own program vc.py: out of each, Calls (conditions: none). -/
import Derived.Test.YtpodhfomjljfbaaDoorRows
import Derived.Test.YtpodhfomjljfbaaDoorSxRun
namespace Go.Proofs.YtpodhfomjljfbaaDoor
open Go Go.Proofs.YtpodhfomjljfbaaDoor.Sx

set_option maxRecDepth 100000 in
theorem slices_Clone_byte_byte_vc (a0a : Option Addr) (a0n : Nat) (a0c : Nat) (w : World) (R : Ending → World → Prop) (h :
  (a0a.isNone = true →
    (R (.returned (.slice none 0 0)) w)) ∧
  (a0a.isNone = false →
    (∃ (t5a : Option Addr) (t5n : Nat) (t5c : Nat) (w1 : World), (Instr.buildSlice 22 0 #[]).run Tryd.prog w = .ok (.slice t5a t5n t5c) w1 ∧
      (∃ (t7a : Option Addr) (t7n : Nat) (t7c : Nat) (w2 : World), (Builtin.append_ #[22, 22] 22 #[(.slice t5a t5n t5c), (.slice a0a a0n a0c)]).run Tryd.prog w1 = .ok (.slice t7a t7n t7c) w2 ∧
        (R (.returned (.slice t7a t7n t7c)) w2))))) : Calls Tryd.prog 38 #[(.slice a0a a0n a0c)] w R :=
  calls_of_ev (args := [(.slice a0a a0n a0c)])
    (tc := .seq (.reg (.op .p (.nil))) (.seq (.seq (.reg (.op .p (.op .p (.nil)))) (.cond (.seq (.reg (.op .p (.nil))) (.leaf)) (.leaf))) (.seq (.reg (.op (.r (.slice)) (.op .p (.op (.r (.slice)) (.op .p (.nil)))))) (.leaf))))
    (by kernel_rfl) Tryd.func38 (by kernel_rfl) (by kernel_rfl) (by kernel_rfl) (by kernel_rfl) h

end Go.Proofs.YtpodhfomjljfbaaDoor
