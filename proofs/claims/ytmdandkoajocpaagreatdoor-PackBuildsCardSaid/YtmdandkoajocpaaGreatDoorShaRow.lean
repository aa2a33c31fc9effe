/- The table of the package sha, out of what a row says is laid (conditions: none). -/
import Derived.Test.YtmdandkoajocpaaGreatDoorRows
import Derived.Test.YtmdandkoajocpaaGreatDoorShaE
import Derived.LaidMore
import Derived.LaidHandle
import Derived.Lib.LaidTab
import Derived.Stop.Joined
namespace Go.Proofs.YtmdandkoajocpaaGreatDoor
open Go Sx
set_option maxRecDepth 8000

theorem laidK_eq : (Rows.laid_amphora_sha_k : DataW Unit) = Lib.tabData .u32 (kTab.map fun n : Nat => (n : Int)) := by kernel_rfl

theorem kTab_of_laid {W : World} {rest : List (String × DataW Unit)} (hp : ∀ w, laidMetH Tryz.prog (("amphora/sha.k", Rows.laid_amphora_sha_k) :: rest) w = laidMet Tryz.prog (("amphora/sha.k", Rows.laid_amphora_sha_k) :: rest) w) (h : laidMetH Tryz.prog (("amphora/sha.k", Rows.laid_amphora_sha_k) :: rest) W) : KTab W := by
  rw [hp, laidK_eq] at h
  have hg : Tryz.prog.globalNamed "amphora/sha.k" = some 5 := by kernel_rfl
  have hT := Lib.tabIs_of_head hg (by kernel_rfl) Tryz.underlying232 Tryz.underlying209 (by kernel_rfl) (by kernel_rfl) h
  intro j v hj
  have hjl : j < kTab.length := by have := (List.getElem?_eq_some_iff.1 hj).1; simpa using this
  rw [kv_get hjl, Option.some.injEq] at hj
  have := hT.cell hg j (by simpa using hjl)
  rw [Nat.zero_add, this, ← hj]
  congr 2
  simp [List.getD, hjl]

end Go.Proofs.YtmdandkoajocpaaGreatDoor
