/- Verification conditions of functions, printed by the session's own program vc.py: out of each, Calls (conditions: none). -/
import Derived.Test.YtdcgapabphjgbaaRows
import Derived.Test.YtdcgapabphjgbaaSxRun
namespace Go.Proofs.Ytdcgapabphjgbaa
open Go Go.Proofs.Ytdcgapabphjgbaa.Sx

set_option maxRecDepth 100000 in
theorem amphoranum_Num_vc_nil  (w : World) (R : Ending → World → Prop) (h :
  R (.returned (.int .i64 0)) w) : Calls Try.prog 16 #[.nilIface] w R :=
  calls_of_ev (args := [.nilIface])
    (tc := .seq (.reg (.op .p (.nil))) (.seq (.seq (.reg (.op .p (.op .p (.nil)))) (.ct (.seq (.reg (.op .p (.nil))) (.leaf)))) (.leaf)))
    (by kernel_rfl) Try.func16 (by kernel_rfl) (by kernel_rfl) (by kernel_rfl) (by kernel_rfl) h

set_option maxRecDepth 100000 in
theorem amphoranum_Num_vc_err (n0 : Int) (w : World) (R : Ending → World → Prop) (h :
  ((n0 == (0 : Int)) = true →
    (R (.returned (.int .i64 (-1))) w)) ∧
  ((n0 == (0 : Int)) = false →
    (R (.returned (.int .i64 n0)) w))) : Calls Try.prog 16 #[(.iface 59 (.int .i64 n0))] w R :=
  calls_of_ev (args := [(.iface 59 (.int .i64 n0))])
    (tc := .seq (.reg (.op .p (.nil))) (.seq (.seq (.reg (.op .p (.op .p (.nil)))) (.cf (.leaf))) (.seq (.reg (.op .p (.op .p (.op .p (.op .p (.op .p (.op .p (.op .p (.nil))))))))) (.seq (.seq (.reg (.op .p (.op .p (.op .p (.op .p (.op .p (.op .p (.nil)))))))) (.cond (.seq (.reg (.op .p (.nil))) (.leaf)) (.leaf))) (.seq (.reg (.op .p (.op .p (.nil)))) (.leaf))))))
    (by kernel_rfl) Try.func16 (by kernel_rfl) (by kernel_rfl) (by kernel_rfl) (by kernel_rfl) h

end Go.Proofs.Ytdcgapabphjgbaa
