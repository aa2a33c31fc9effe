/- Verification conditions of functions, printed by the session's own program vc.py: out of each, Calls (conditions: none). -/
import Derived.Test.YtmdandkoajocpaaDoorRows
import Derived.Test.YtmdandkoajocpaaDoorSxRun
namespace Go.Proofs.YtmdandkoajocpaaDoor
open Go Go.Proofs.YtmdandkoajocpaaDoor.Sx

set_option maxRecDepth 100000 in
theorem amphoraref13_Good_vc (a0 : Int) (w : World) (R : Ending → World → Prop) (h :
  R (.returned (.bool ((decide (a0 ≥ (0 : Int))) && (decide (a0 ≤ (1099511627776 : Int)))))) w) : Calls Tryd.prog 14 #[(.int .i64 a0)] w R :=
  calls_of_ev (args := [(.int .i64 a0)])
    (tc := .seq (.reg (.op .p (.nil))) (.seq (.reg (.op .p (.op .p (.op .p (.ap 2 (.op .p (.nil))))))) (.leaf)))
    (by kernel_rfl) Tryd.func14 (by kernel_rfl) (by kernel_rfl) (by kernel_rfl) (by kernel_rfl) h

set_option maxRecDepth 100000 in
theorem amphoraref13_Same_vc (a0a : Option Addr) (a0n : Nat) (a0c : Nat) (a1a : Option Addr) (a1n : Nat) (a1c : Nat) (w : World) (R : Ending → World → Prop) (h :
  ((((a0n : Nat) : Int) != ((a1n : Nat) : Int)) = true →
    (R (.returned (.bool false)) w)) ∧
  ((((a0n : Nat) : Int) != ((a1n : Nat) : Int)) = false →
    (∃ (I : Int → World → Prop) (μ : Int → World → Nat), I 0 w ∧
      (∀ (x5 : Int), ∀ w1 : World, I x5 w1 →
        (((decide (x5 < ((a0n : Nat) : Int))) = true →
            (∃ S : World → Prop, S w1.drew ∧
              (∃ (t19b t19o : Nat), a0a = some ⟨t19b, t19o, none⟩ ∧ 0 ≤ x5 ∧ x5 < ((a0n : Nat) : Int) ∧
                (∃ (t23b t23o : Nat), a1a = some ⟨t23b, t23o, none⟩ ∧ 0 ≤ x5 ∧ x5 < ((a1n : Nat) : Int) ∧
                  (∃ (t20 : Array Value), (∀ w' : World, S w' → (Instr.loadAt 26 (.pointer (some ⟨t19b, t19o + Int.toNat x5 * 35, none⟩))).run Tryd.prog w' = .ok (.agg t20) w') ∧
                    (∃ (t24 : Array Value), (∀ w' : World, S w' → (Instr.loadAt 26 (.pointer (some ⟨t23b, t23o + Int.toNat x5 * 35, none⟩))).run Tryd.prog w' = .ok (.agg t24) w') ∧
                      (∃ (t25 : Bool), (∀ w' : World, S w' → (eqlS .neq 26 (.tmp 20) (.tmp 24) (.agg t20) (.agg t24)).run Tryd.prog w' = .ok (.bool t25) w') ∧
                        ((t25 = true →
                            (R (.returned (.bool false)) w1.drew)) ∧
                          (t25 = false →
                            (I (IntKind.wrap .i64 (x5 + (1 : Int))) w1.drew ∧ μ (IntKind.wrap .i64 (x5 + (1 : Int))) w1.drew < μ x5 w1)))))))))) ∧
          ((decide (x5 < ((a0n : Nat) : Int))) = false →
            (R (.returned (.bool true)) w1))))))) : Calls Tryd.prog 16 #[(.slice a0a a0n a0c), (.slice a1a a1n a1c)] w R :=
  calls_of_ev (args := [(.slice a0a a0n a0c), (.slice a1a a1n a1c)])
    (tc := .seq (.reg (.op .p (.nil))) (.seq (.seq (.reg (.op .p (.op .p (.op .p (.op .p (.op .p (.nil))))))) (.cond (.seq (.reg (.op .p (.nil))) (.leaf)) (.leaf))) (.seq (.seq (.reg (.op .p (.nil))) (.blk (.loop [4, 5, 11, 12, 13, 14, 15, 16, 17, 18, 19, 20, 21, 22, 23, 24, 25] [5] [.int .i64] (.seq (.seq (.reg (.op .p (.op .p (.op .p (.op .p (.nil)))))) (.cond (.leaf) (.leaf))) (.seq (.blk (.seq (.drawS (.tk 0 .p (.tk 1 .p (.tk 2 .ix (.tk 4 .p (.tk 5 .p (.tk 6 .ix (.ts 3 (.agg) (.ts 7 (.agg) (.ts 8 (.bool) (.nil)))))))))) []) (.cond (.seq (.reg (.op .p (.nil))) (.leaf)) (.leaf)))) (.reg (.op .p (.op .p (.op .p (.nil)))))))))) (.seq (.reg (.op .p (.nil))) (.leaf)))))
    (by kernel_rfl) Tryd.func16 (by kernel_rfl) (by kernel_rfl) (by kernel_rfl) (by kernel_rfl) h

end Go.Proofs.YtmdandkoajocpaaDoor
