/- Verification conditions of functions, printed by the session's own program vc.py: out of each, Calls (conditions: none). -/
import Derived.Test.YtpodhfomjljfbaaDoorRows
import Derived.Test.YtpodhfomjljfbaaDoorSxRun
namespace Go.Proofs.YtpodhfomjljfbaaDoor
open Go Go.Proofs.YtpodhfomjljfbaaDoor.Sx

set_option maxRecDepth 100000 in
theorem bits_RotateLeft32_vc (a0 : Int) (a1 : Int) (w : World) (R : Ending → World → Prop) (h :
  0 ≤ (band .u64 (IntKind.wrap .u64 a1) (31 : Int)) ∧
  (0 ≤ (IntKind.wrap .u64 ((32 : Int) - (band .u64 (IntKind.wrap .u64 a1) (31 : Int)))) ∧
    (R (.returned (.int .u32 (bor .u32 (shlI .u32 a0 (band .u64 (IntKind.wrap .u64 a1) (31 : Int))) (shrI .u32 a0 (IntKind.wrap .u64 ((32 : Int) - (band .u64 (IntKind.wrap .u64 a1) (31 : Int)))))))) w))) : Calls Tryd.prog 42 #[(.int .u32 a0), (.int .i64 a1)] w R :=
  calls_of_ev (args := [(.int .u32 a0), (.int .i64 a1)])
    (tc := .seq (.reg (.op .p (.nil))) (.seq (.reg (.op .p (.op .p (.op .p (.op .p (.nil)))))) (.seq (.reg (.op .p (.op .p (.op .sc (.op .p (.op .p (.op .p (.op .sc (.op .p (.op .p (.nil))))))))))) (.leaf))))
    (by kernel_rfl) Tryd.func42 (by kernel_rfl) (by kernel_rfl) (by kernel_rfl) (by kernel_rfl) h

end Go.Proofs.YtpodhfomjljfbaaDoor
