/- The laws of chapter 5: alive, large; SealOwns answers true (conditions: the table lies where the program laid it). -/
import Derived.Test.YtmdandkoajocpaaGreatDoorSealB
import Derived.Test.YtmdandkoajocpaaGreatDoorSealG
import Derived.Test.YtmdandkoajocpaaGreatDoorNum
import Derived.Test.YtmdandkoajocpaaGreatDoorShaT
import Derived.Test.YtmdandkoajocpaaGreatDoorSum
import Derived.Test.YtmdandkoajocpaaGreatDoorApart
namespace Go.Proofs.YtmdandkoajocpaaGreatDoor
open Go Sx
set_option maxRecDepth 8000

theorem build_masL (w : World) : (Instr.build 22 #[(0, .int .u8 1), (1, .int .u8 2), (2, .int .u8 3)]).run Tryz.prog w = .ok (.agg (bv masL).toArray) w := by
  have := build_arr (P := Tryz.prog) (w := w) (T := 22) (d32Z w) Tryz.underlying22 (sB1 w) [.int .u8 1, .int .u8 2, .int .u8 3] (by simp [Value.oneCell']) (by simp)
  exact this

/-- The cells of a Case. -/
def caseL (m : List UInt8) (k : UInt8) (a1 : Option Addr) (n1 c1 : Nat) (a2 : Option Addr) (n2 c2 : Nat) : List Value := bv m ++ [.int .u8 (k.toNat : Int), .slice a1 n1 c1, .slice a2 n2 c2]

end Go.Proofs.YtmdandkoajocpaaGreatDoor
