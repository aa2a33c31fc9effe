/- Verification conditions of functions, printed by the session's own program vc.py: out of each, Calls (conditions: none). -/
import Derived.Test.YtefnlbgkfingfaaDoorRows
import Derived.Test.YtefnlbgkfingfaaDoorSxRun
namespace Go.Proofs.YtefnlbgkfingfaaDoor
open Go Go.Proofs.YtefnlbgkfingfaaDoor.Sx

set_option maxRecDepth 100000 in
theorem seal_Id_vc (a0 : Array Value) (a1a : Option Addr) (a1n : Nat) (a1c : Nat) (w : World) (R : Ending → World → Prop) (h :
  ∃ (g2 : Nat) (w1 : World), (Instr.box 28 (.agg a0)).run Tryd.prog w = .ok (.pointer (some ⟨g2, 0, none⟩)) w1 ∧
  (∃ (g4 : Nat) (w2 : World), (Instr.alloc 33 true (.tuple #[])).run Tryd.prog w1 = .ok (.pointer (some ⟨g4, 0, none⟩)) w2 ∧
    (0 ≤ ((32 : Nat) : Int) ∧ ((32 : Nat) : Int) ≤ ((32 : Nat) : Int) ∧
      (∃ (t7a : Option Addr) (t7n : Nat) (t7c : Nat) (w3 : World), (Instr.buildSlice 23 5 #[(0, (.int .u8 99)), (1, (.int .u8 104)), (2, (.int .u8 117)), (3, (.int .u8 110)), (4, (.int .u8 107))]).run Tryd.prog w2.drew = .ok (.slice t7a t7n t7c) w3 ∧
        (∃ (t8a : Option Addr) (t8n : Nat) (t8c : Nat) (w4 : World), (convert 23 23 (.slice t7a t7n t7c)).run Tryd.prog w3 = .ok (.slice t8a t8n t8c) w4 ∧
          (∃ (t10a : Option Addr) (t10n : Nat) (t10c : Nat) (w5 : World), (Instr.buildSlice 32 2 #[(0, (.slice t8a t8n t8c)), (1, (.slice a1a a1n a1c))]).run Tryd.prog w4 = .ok (.slice t10a t10n t10c) w5 ∧
            (Calls Tryd.prog 39 #[(.slice t10a t10n t10c)] w5 fun (e11 : Ending) (w6 : World) => ∃ (t11a : Option Addr) (t11n : Nat) (t11c : Nat), e11 = .returned (.slice t11a t11n t11c) ∧
              (∃ (t12a : Option Addr) (t12n : Nat) (t12c : Nat) (w7 : World), (Instr.buildSlice 32 1 #[(0, (.slice t11a t11n t11c))]).run Tryd.prog w6 = .ok (.slice t12a t12n t12c) w7 ∧
                (Calls Tryd.prog 38 #[(.slice (some ⟨g2, 64, none⟩) (32) 32), (.slice t12a t12n t12c)] w7 fun (e13 : Ending) (w8 : World) => ∃ (t13 : Array Value), e13 = .returned (.agg t13) ∧
                  (∃ w9 : World, (Instr.storeAt 33 (.pointer (some ⟨g4, 0, none⟩)) (.agg t13)).run Tryd.prog w8 = .ok () w9 ∧
                    (∃ r4 : Value, (loadVar 33 ⟨g4, 0, none⟩).run Tryd.prog w9 = .ok r4 w9 ∧
                      (R (.returned r4) w9)))))))))))) : Calls Tryd.prog 26 #[(.agg a0), (.slice a1a a1n a1c)] w R :=
  calls_of_ev (args := [(.agg a0), (.slice a1a a1n a1c)])
    (tc := .seq (.reg (.op .bx (.op .bx (.nil)))) (.seq (.draw (.tk 0 .p (.tk 1 .sl (.tk 4 .p (.go 2 (.r (.slice)) (.go 3 (.r (.slice)) (.go 5 (.r (.slice)) (.go 6 (.cl [.slice]) (.go 7 (.r (.slice)) (.go 8 (.cl [.agg]) (.go 9 .u (.nil))))))))))) [0, 1, 2, 3, 4, 5, 6, 7, 8, 9]) (.leaf)))
    (by kernel_rfl) Tryd.func26 (by kernel_rfl) (by kernel_rfl) (by kernel_rfl) (by kernel_rfl) h

set_option maxRecDepth 100000 in
theorem amphoraref05_derived_vc (a0a : Option Addr) (a0n : Nat) (a0c : Nat) (a1a : Option Addr) (a1n : Nat) (a1c : Nat) (a2 : ByteArray) (w : World) (R : Ending → World → Prop) (h :
  ∃ (g6 : Nat) (w1 : World), (Instr.alloc 22 true (.tuple #[])).run Tryd.prog w = .ok (.pointer (some ⟨g6, 0, none⟩)) w1 ∧
  (∃ (t11 : Array Value), (Instr.build 22 #[]).run Tryd.prog w1 = .ok (.agg t11) w1 ∧
    (∃ (g7 : Nat) (w2 : World), (Instr.alloc 22 true (.tuple #[])).run Tryd.prog w1 = .ok (.pointer (some ⟨g7, 0, none⟩)) w2 ∧
      (∃ w3 : World, (Instr.storeAt 22 (.pointer (some ⟨g7, 0, none⟩)) (.agg t11)).run Tryd.prog w2 = .ok () w3 ∧
        (∃ (t16a : Option Addr) (t16n : Nat) (t16c : Nat) (w4 : World), (convert 9 23 (.string a2)).run Tryd.prog w3 = .ok (.slice t16a t16n t16c) w4 ∧
          (Calls Tryd.prog 42 #[(.slice a0a a0n a0c), (.slice a1a a1n a1c), (.slice t16a t16n t16c), (.int .i64 32)] w4 fun (e17 : Ending) (w5 : World) => ∃ (t17_0a : Option Addr) (t17_0n : Nat) (t17_0c : Nat) (t17_1 : Int), e17 = .returned (.tuple #[(.slice t17_0a t17_0n t17_0c), (.int .i64 t17_1)]) ∧
            (∃ (I : Int → World → Prop) (μ : Int → World → Nat), I 0 w5 ∧
              (∀ (x10 : Int), ∀ w6 : World, I x10 w6 →
                (((decide (x10 < (32 : Int))) = true →
                    (∃ (t27b t27o : Nat), t17_0a = some ⟨t27b, t27o, none⟩ ∧ 0 ≤ x10 ∧ x10 < ((t17_0n : Nat) : Int) ∧
                      (∃ (t28 : Int), (Instr.loadAt 5 (.pointer (some ⟨t27b, t27o + Int.toNat x10 * 1, none⟩))).run Tryd.prog w6 = .ok (.int .u8 t28) w6 ∧
                        (0 ≤ x10 ∧ x10 < (32 : Int) ∧
                          (∃ w7 : World, (Instr.storeAt 5 (.pointer (some ⟨g7, 0 + Int.toNat x10 * 1, none⟩)) (.int .u8 t28)).run Tryd.prog w6 = .ok () w7 ∧
                            (I (IntKind.wrap .i64 (x10 + (1 : Int))) w7 ∧ μ (IntKind.wrap .i64 (x10 + (1 : Int))) w7 < μ x10 w6)))))) ∧
                  ((decide (x10 < (32 : Int))) = false →
                    (∃ (t30 : Array Value), (Instr.loadAt 22 (.pointer (some ⟨g7, 0, none⟩))).run Tryd.prog w6 = .ok (.agg t30) w6 ∧
                      (∃ w8 : World, (Instr.storeAt 22 (.pointer (some ⟨g6, 0, none⟩)) (.agg t30)).run Tryd.prog w6 = .ok () w8 ∧
                        (∃ r6 : Value, (loadVar 22 ⟨g6, 0, none⟩).run Tryd.prog w8 = .ok r6 w8 ∧
                          (R (.returned r6) w8)))))))))))))) : Calls Tryd.prog 28 #[(.slice a0a a0n a0c), (.slice a1a a1n a1c), (.string a2)] w R :=
  calls_of_ev (args := [(.slice a0a a0n a0c), (.slice a1a a1n a1c), (.string a2)])
    (tc := .seq (.reg (.op .bx (.nil))) (.seq (.reg (.op (.ld (.agg)) (.op .bx (.op .u (.nil))))) (.seq (.reg (.op .p (.op .p (.op .p (.op (.r (.slice)) (.op (.cl [.slice, .int .i64]) (.op .p (.op .p (.op .p (.op .p (.op .p (.nil)))))))))))) (.seq (.seq (.reg (.op .p (.nil))) (.blk (.loop [10, 20, 21, 22, 23, 24, 25, 26, 27, 28, 29] [10] [.int .i64] (.seq (.seq (.reg (.op .p (.op .p (.nil)))) (.cond (.leaf) (.leaf))) (.seq (.blk (.reg (.op .p (.op .p (.op .p (.op .ix (.op (.ld (.int .u8)) (.op .ix (.op .u (.nil)))))))))) (.reg (.op .p (.op .p (.op .p (.nil)))))))))) (.seq (.reg (.op (.ld (.agg)) (.op .u (.nil)))) (.leaf))))))
    (by kernel_rfl) Tryd.func28 (by kernel_rfl) (by kernel_rfl) (by kernel_rfl) (by kernel_rfl) h

set_option maxRecDepth 100000 in
theorem amphoraref05_FromMaster_vc (a0 : Array Value) (w : World) (R : Ending → World → Prop) (h :
  ∃ (g1 : Nat) (w1 : World), (Instr.box 22 (.agg a0)).run Tryd.prog w = .ok (.pointer (some ⟨g1, 0, none⟩)) w1 ∧
  (∃ (g2 : Nat) (w2 : World), (Instr.alloc 28 true (.tuple #[])).run Tryd.prog w1 = .ok (.pointer (some ⟨g2, 0, none⟩)) w2 ∧
    (∃ (t4a : Option Addr) (t4n : Nat) (t4c : Nat) (w3 : World), (Instr.buildSlice 23 7 #[(0, (.int .u8 97)), (1, (.int .u8 109)), (2, (.int .u8 112)), (3, (.int .u8 104)), (4, (.int .u8 111)), (5, (.int .u8 114)), (6, (.int .u8 97))]).run Tryd.prog w2 = .ok (.slice t4a t4n t4c) w3 ∧
      (∃ (t5a : Option Addr) (t5n : Nat) (t5c : Nat) (w4 : World), (convert 23 23 (.slice t4a t4n t4c)).run Tryd.prog w3 = .ok (.slice t5a t5n t5c) w4 ∧
        (∃ S : World → Prop, S w4.drew ∧
          (0 ≤ ((32 : Nat) : Int) ∧ ((32 : Nat) : Int) ≤ ((32 : Nat) : Int) ∧
            (0 ≤ ((32 : Nat) : Int) ∧ ((32 : Nat) : Int) ≤ ((32 : Nat) : Int) ∧
              (0 ≤ ((32 : Nat) : Int) ∧ ((32 : Nat) : Int) ≤ ((32 : Nat) : Int) ∧
                (Calls Tryd.prog 28 #[(.slice t5a t5n t5c), (.slice (some ⟨g1, 0, none⟩) (32) 32), (.string (ByteArray.mk #[99, 105, 112, 104, 101, 114]))] w4.drew fun (e8 : Ending) (w5 : World) => ∃ (t8 : Array Value), e8 = .returned (.agg t8) ∧
                  (∃ S_1 : World → Prop, (∀ w' : World, S_1 w' → S w') ∧ S_1 w5 ∧
                    (Calls Tryd.prog 28 #[(.slice t5a t5n t5c), (.slice (some ⟨g1, 0, none⟩) (32) 32), (.string (ByteArray.mk #[109, 97, 99]))] w5 fun (e11 : Ending) (w6 : World) => ∃ (t11 : Array Value), e11 = .returned (.agg t11) ∧
                      (∃ S_2 : World → Prop, (∀ w' : World, S_2 w' → S_1 w') ∧ S_2 w6 ∧
                        (Calls Tryd.prog 28 #[(.slice t5a t5n t5c), (.slice (some ⟨g1, 0, none⟩) (32) 32), (.string (ByteArray.mk #[110, 97, 109, 101]))] w6 fun (e14 : Ending) (w7 : World) => ∃ (t14 : Array Value), e14 = .returned (.agg t14) ∧
                          (∃ S_3 : World → Prop, (∀ w' : World, S_3 w' → S_2 w') ∧ S_3 w7 ∧
                            (∃ (t15 : Array Value), (∀ w' : World, S_3 w' → (Instr.build 28 #[(0, (.agg t8)), (1, (.agg t11)), (2, (.agg t14))]).run Tryd.prog w' = .ok (.agg t15) w') ∧
                              (∃ w8 : World, (Instr.storeAt 28 (.pointer (some ⟨g2, 0, none⟩)) (.agg t15)).run Tryd.prog w7 = .ok () w8 ∧
                                (∃ r2 : Value, (loadVar 28 ⟨g2, 0, none⟩).run Tryd.prog w8 = .ok r2 w8 ∧
                                  (R (.returned r2) w8)))))))))))))))))) : Calls Tryd.prog 10 #[(.agg a0)] w R :=
  calls_of_ev (args := [(.agg a0)])
    (tc := .seq (.reg (.op .bx (.op .bx (.nil)))) (.seq (.reg (.op (.r (.slice)) (.op (.r (.slice)) (.op .p (.nil))))) (.seq (.drawS (.tk 0 .p (.tk 1 .sl (.tk 3 .p (.tk 4 .sl (.tk 6 .p (.tk 7 .sl (.go 2 (.cl [.agg]) (.go 5 (.cl [.agg]) (.go 8 (.cl [.agg]) (.ts 9 (.agg) (.go 10 .u (.nil)))))))))))) [10]) (.leaf))))
    (by kernel_rfl) Tryd.func10 (by kernel_rfl) (by kernel_rfl) (by kernel_rfl) (by kernel_rfl) h

set_option maxRecDepth 100000 in
theorem amphoraref05_Id_vc (a0 : Array Value) (a1a : Option Addr) (a1n : Nat) (a1c : Nat) (w : World) (R : Ending → World → Prop) (h :
  ∃ (g2 : Nat) (w1 : World), (Instr.box 28 (.agg a0)).run Tryd.prog w = .ok (.pointer (some ⟨g2, 0, none⟩)) w1 ∧
  (∃ (g4 : Nat) (w2 : World), (Instr.alloc 33 true (.tuple #[])).run Tryd.prog w1 = .ok (.pointer (some ⟨g4, 0, none⟩)) w2 ∧
    (0 ≤ ((32 : Nat) : Int) ∧ ((32 : Nat) : Int) ≤ ((32 : Nat) : Int) ∧
      (∃ (t7a : Option Addr) (t7n : Nat) (t7c : Nat) (w3 : World), (Instr.buildSlice 23 5 #[(0, (.int .u8 99)), (1, (.int .u8 104)), (2, (.int .u8 117)), (3, (.int .u8 110)), (4, (.int .u8 107))]).run Tryd.prog w2.drew = .ok (.slice t7a t7n t7c) w3 ∧
        (∃ (t8a : Option Addr) (t8n : Nat) (t8c : Nat) (w4 : World), (convert 23 23 (.slice t7a t7n t7c)).run Tryd.prog w3 = .ok (.slice t8a t8n t8c) w4 ∧
          (∃ (t10a : Option Addr) (t10n : Nat) (t10c : Nat) (w5 : World), (Instr.buildSlice 32 2 #[(0, (.slice t8a t8n t8c)), (1, (.slice a1a a1n a1c))]).run Tryd.prog w4 = .ok (.slice t10a t10n t10c) w5 ∧
            (Calls Tryd.prog 41 #[(.slice t10a t10n t10c)] w5 fun (e11 : Ending) (w6 : World) => ∃ (t11a : Option Addr) (t11n : Nat) (t11c : Nat), e11 = .returned (.slice t11a t11n t11c) ∧
              (∃ (t12a : Option Addr) (t12n : Nat) (t12c : Nat) (w7 : World), (Instr.buildSlice 32 1 #[(0, (.slice t11a t11n t11c))]).run Tryd.prog w6 = .ok (.slice t12a t12n t12c) w7 ∧
                (Calls Tryd.prog 40 #[(.slice (some ⟨g2, 64, none⟩) (32) 32), (.slice t12a t12n t12c)] w7 fun (e13 : Ending) (w8 : World) => ∃ (t13 : Array Value), e13 = .returned (.agg t13) ∧
                  (∃ w9 : World, (Instr.storeAt 33 (.pointer (some ⟨g4, 0, none⟩)) (.agg t13)).run Tryd.prog w8 = .ok () w9 ∧
                    (∃ r4 : Value, (loadVar 33 ⟨g4, 0, none⟩).run Tryd.prog w9 = .ok r4 w9 ∧
                      (R (.returned r4) w9)))))))))))) : Calls Tryd.prog 27 #[(.agg a0), (.slice a1a a1n a1c)] w R :=
  calls_of_ev (args := [(.agg a0), (.slice a1a a1n a1c)])
    (tc := .seq (.reg (.op .bx (.op .bx (.nil)))) (.seq (.draw (.tk 0 .p (.tk 1 .sl (.tk 4 .p (.go 2 (.r (.slice)) (.go 3 (.r (.slice)) (.go 5 (.r (.slice)) (.go 6 (.cl [.slice]) (.go 7 (.r (.slice)) (.go 8 (.cl [.agg]) (.go 9 .u (.nil))))))))))) [0, 1, 2, 3, 4, 5, 6, 7, 8, 9]) (.leaf)))
    (by kernel_rfl) Tryd.func27 (by kernel_rfl) (by kernel_rfl) (by kernel_rfl) (by kernel_rfl) h

end Go.Proofs.YtefnlbgkfingfaaDoor
