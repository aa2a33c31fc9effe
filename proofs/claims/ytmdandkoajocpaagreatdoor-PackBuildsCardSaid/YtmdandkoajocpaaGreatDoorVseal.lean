/- Verification conditions of functions, printed by the session's own program vc.py: out of each, Calls (conditions: none). -/
import Derived.Test.YtmdandkoajocpaaGreatDoorRows
import Derived.Test.YtmdandkoajocpaaGreatDoorSxRun
namespace Go.Proofs.YtmdandkoajocpaaGreatDoor
open Go Go.Proofs.YtmdandkoajocpaaGreatDoor.Sx

set_option maxRecDepth 100000 in
theorem seal_tag_vc (a0 : Array Value) (a1 : Int) (a2a : Option Addr) (a2n : Nat) (a2c : Nat) (a3a : Option Addr) (a3n : Nat) (a3c : Nat) (a4a : Option Addr) (a4n : Nat) (a4c : Nat) (w : World) (R : Ending → World → Prop) (h :
  ∃ (g5 : Nat) (w1 : World), (Instr.box 28 (.agg a0)).run Tryz.prog w = .ok (.pointer (some ⟨g5, 0, none⟩)) w1 ∧
  (∃ (g10 : Nat) (w2 : World), (Instr.alloc 22 true (.tuple #[])).run Tryz.prog w1 = .ok (.pointer (some ⟨g10, 0, none⟩)) w2 ∧
    (0 ≤ ((32 : Nat) : Int) ∧ ((32 : Nat) : Int) ≤ ((32 : Nat) : Int) ∧
      (∃ (t14a : Option Addr) (t14n : Nat) (t14c : Nat) (w3 : World), (Instr.buildSlice 33 1 #[(0, (.int .u8 a1))]).run Tryz.prog w2.drew = .ok (.slice t14a t14n t14c) w3 ∧
        (∃ (t18a : Option Addr) (t18n : Nat) (t18c : Nat) (w4 : World), (Instr.buildSlice 23 4 #[(0, (.slice t14a t14n t14c)), (1, (.slice a2a a2n a2c)), (2, (.slice a3a a3n a3c)), (3, (.slice a4a a4n a4c))]).run Tryz.prog w3 = .ok (.slice t18a t18n t18c) w4 ∧
          (Calls Tryz.prog 121 #[(.slice t18a t18n t18c)] w4 fun (e19 : Ending) (w5 : World) => ∃ (t19a : Option Addr) (t19n : Nat) (t19c : Nat), e19 = .returned (.slice t19a t19n t19c) ∧
            (∃ (t20a : Option Addr) (t20n : Nat) (t20c : Nat) (w6 : World), (Instr.buildSlice 23 1 #[(0, (.slice t19a t19n t19c))]).run Tryz.prog w5 = .ok (.slice t20a t20n t20c) w6 ∧
              (Calls Tryz.prog 120 #[(.slice (some ⟨g5, 32, none⟩) (32) 32), (.slice t20a t20n t20c)] w6 fun (e21 : Ending) (w7 : World) => ∃ (t21 : Array Value), e21 = .returned (.agg t21) ∧
                (∃ w8 : World, (Instr.storeAt 22 (.pointer (some ⟨g10, 0, none⟩)) (.agg t21)).run Tryz.prog w7 = .ok () w8 ∧
                  (∃ r10 : Value, (loadVar 22 ⟨g10, 0, none⟩).run Tryz.prog w8 = .ok r10 w8 ∧
                    (R (.returned r10) w8))))))))))) : Calls Tryz.prog 91 #[(.agg a0), (.int .u8 a1), (.slice a2a a2n a2c), (.slice a3a a3n a3c), (.slice a4a a4n a4c)] w R :=
  calls_of_ev (args := [(.agg a0), (.int .u8 a1), (.slice a2a a2n a2c), (.slice a3a a3n a3c), (.slice a4a a4n a4c)])
    (tc := .seq (.reg (.op .bx (.op .bx (.nil)))) (.seq (.draw (.tk 0 .p (.tk 1 .sl (.tk 2 .p (.tk 4 .p (.tk 5 .p (.tk 6 .p (.go 3 (.r (.slice)) (.go 7 (.r (.slice)) (.go 8 (.cl [.slice]) (.go 9 (.r (.slice)) (.go 10 (.cl [.agg]) (.go 11 .u (.nil))))))))))))) [0, 1, 2, 3, 4, 5, 6, 7, 8, 9, 10, 11]) (.leaf)))
    (by kernel_rfl) Tryz.func91 (by kernel_rfl) (by kernel_rfl) (by kernel_rfl) (by kernel_rfl) h

set_option maxRecDepth 100000 in
theorem seal_over_vc (a0 : Array Value) (a1a : Option Addr) (a1n : Nat) (a1c : Nat) (a2a : Option Addr) (a2n : Nat) (a2c : Nat) (w : World) (R : Ending → World → Prop) (h :
  ∃ (g3 : Nat) (w1 : World), (Instr.box 28 (.agg a0)).run Tryz.prog w = .ok (.pointer (some ⟨g3, 0, none⟩)) w1 ∧
  (∃ (g7 : Nat) (w2 : World), (Instr.alloc 187 true (.tuple #[])).run Tryz.prog w1 = .ok (.pointer (some ⟨g7, 0, none⟩)) w2 ∧
    (0 ≤ ((12 : Nat) : Int) ∧ ((12 : Nat) : Int) ≤ ((12 : Nat) : Int) ∧
      (∃ (t12 : Int) (w3 : World), (Builtin.copy_ #[33, 33] 3 #[(.slice (some ⟨g7, 0, none⟩) (12) 12), (.slice a1a a1n a1c)]).run Tryz.prog w2 = .ok (.int .i64 t12) w3 ∧
        (∃ (t15 : Array Value), (Instr.loadAt 22 (.pointer (some ⟨g3, 0, none⟩))).run Tryz.prog w3 = .ok (.agg t15) w3 ∧
          (∃ (t16 : Array Value), (Instr.loadAt 187 (.pointer (some ⟨g7, 0, none⟩))).run Tryz.prog w3 = .ok (.agg t16) w3 ∧
            (Calls Tryz.prog 122 #[(.agg t15), (.agg t16), (.int .i64 0), (.slice a2a a2n a2c)] w3 fun (e18 : Ending) (w4 : World) => ∃ (t18_0a : Option Addr) (t18_0n : Nat) (t18_0c : Nat) (t18_1 : Value), e18 = .returned (.tuple #[(.slice t18_0a t18_0n t18_0c), t18_1]) ∧
              (R (.returned (.slice t18_0a t18_0n t18_0c)) w4)))))))) : Calls Tryz.prog 93 #[(.agg a0), (.slice a1a a1n a1c), (.slice a2a a2n a2c)] w R :=
  calls_of_ev (args := [(.agg a0), (.slice a1a a1n a1c), (.slice a2a a2n a2c)])
    (tc := .seq (.reg (.op .bx (.op .p (.nil)))) (.seq (.reg (.op .bx (.nil))) (.seq (.reg (.op .sl (.op .p (.op (.r (.int .i64)) (.nil))))) (.seq (.reg (.op .p (.op (.ld (.agg)) (.op (.ld (.agg)) (.op .p (.op (.cl [.slice, .val]) (.op .p (.op .p (.op .p (.op .p (.op .p (.nil)))))))))))) (.seq (.reg (.op .p (.op .p (.nil)))) (.leaf))))))
    (by kernel_rfl) Tryz.func93 (by kernel_rfl) (by kernel_rfl) (by kernel_rfl) (by kernel_rfl) h

set_option maxRecDepth 100000 in
theorem seal_Seal_vc (a0 : Array Value) (a1 : Int) (a2a : Option Addr) (a2n : Nat) (a2c : Nat) (a3a : Option Addr) (a3n : Nat) (a3c : Nat) (w : World) (R : Ending → World → Prop) (h :
  ∃ (g4 : Nat) (w1 : World), (Instr.box 28 (.agg a0)).run Tryz.prog w = .ok (.pointer (some ⟨g4, 0, none⟩)) w1 ∧
  (0 ≤ ((32 : Nat) : Int) ∧ ((32 : Nat) : Int) ≤ ((32 : Nat) : Int) ∧
    ((∃ (t17a : Option Addr) (t17n : Nat) (t17c : Nat) (w2 : World), (Instr.buildSlice 33 1 #[(0, (.int .u8 a1))]).run Tryz.prog w1.drew = .ok (.slice t17a t17n t17c) w2 ∧
        ((∃ (t20a : Option Addr) (t20n : Nat) (t20c : Nat) (w3 : World), (Instr.buildSlice 23 3 #[(0, (.slice t17a t17n t17c)), (1, (.slice a2a a2n a2c)), (2, (.slice a3a a3n a3c))]).run Tryz.prog w2 = .ok (.slice t20a t20n t20c) w3 ∧
            ((Calls Tryz.prog 121 #[(.slice t20a t20n t20c)] w3 fun (e21 : Ending) (w4 : World) => ∃ (t21a : Option Addr) (t21n : Nat) (t21c : Nat), e21 = .returned (.slice t21a t21n t21c) ∧
                ((∃ (t22a : Option Addr) (t22n : Nat) (t22c : Nat) (w5 : World), (Instr.buildSlice 23 1 #[(0, (.slice t21a t21n t21c))]).run Tryz.prog w4 = .ok (.slice t22a t22n t22c) w5 ∧
                    ((Calls Tryz.prog 120 #[(.slice (some ⟨g4, 64, none⟩) (32) 32), (.slice t22a t22n t22c)] w5 fun (e23 : Ending) (w6 : World) => ∃ (t23 : Array Value), e23 = .returned (.agg t23) ∧
                        (∃ (g9 : Nat) (w7 : World), (Instr.alloc 22 true (.tuple #[])).run Tryz.prog w6 = .ok (.pointer (some ⟨g9, 0, none⟩)) w7 ∧
                          (∃ w8 : World, (Instr.storeAt 22 (.pointer (some ⟨g9, 0, none⟩)) (.agg t23)).run Tryz.prog w7 = .ok () w8 ∧
                            (0 ≤ (12 : Int) ∧ (12 : Int) ≤ ((32 : Nat) : Int) ∧
                              (∃ (t25 : Array Value), (Instr.loadAt 28 (.pointer (some ⟨g4, 0, none⟩))).run Tryz.prog w8 = .ok (.agg t25) w8 ∧
                                (Calls Tryz.prog 93 #[(.agg t25), (.slice (some ⟨g9, 0, none⟩) 12 32), (.slice a3a a3n a3c)] w8 fun (e28 : Ending) (w9 : World) => ∃ (t28a : Option Addr) (t28n : Nat) (t28c : Nat), e28 = .returned (.slice t28a t28n t28c) ∧
                                  (∃ (t29 : Array Value), (Instr.loadAt 28 (.pointer (some ⟨g4, 0, none⟩))).run Tryz.prog w9 = .ok (.agg t29) w9 ∧
                                    (Calls Tryz.prog 91 #[(.agg t29), (.int .u8 a1), (.slice a2a a2n a2c), (.slice (some ⟨g9, 0, none⟩) 12 32), (.slice t28a t28n t28c)] w9 fun (e34 : Ending) (w10 : World) => ∃ (t34 : Array Value), e34 = .returned (.agg t34) ∧
                                      (∃ (g12 : Nat) (w11 : World), (Instr.alloc 22 true (.tuple #[])).run Tryz.prog w10 = .ok (.pointer (some ⟨g12, 0, none⟩)) w11 ∧
                                        (∃ w12 : World, (Instr.storeAt 22 (.pointer (some ⟨g12, 0, none⟩)) (.agg t34)).run Tryz.prog w11 = .ok () w12 ∧
                                          (∃ (t38a : Option Addr) (t38n : Nat) (t38c : Nat) (w13 : World), (Instr.makeSlice 33 (.int .i64 0) (.int .i64 (IntKind.wrap .i64 ((45 : Int) + ((a3n : Nat) : Int))))).run Tryz.prog w12 = .ok (.slice t38a t38n t38c) w13 ∧
                                            (∃ (t40a : Option Addr) (t40n : Nat) (t40c : Nat) (w14 : World), (Instr.buildSlice 33 1 #[(0, (.int .u8 a1))]).run Tryz.prog w13 = .ok (.slice t40a t40n t40c) w14 ∧
                                              (∃ (t41a : Option Addr) (t41n : Nat) (t41c : Nat) (w15 : World), (Builtin.append_ #[33, 33] 33 #[(.slice t38a t38n t38c), (.slice t40a t40n t40c)]).run Tryz.prog w14 = .ok (.slice t41a t41n t41c) w15 ∧
                                                (∃ (t44a : Option Addr) (t44n : Nat) (t44c : Nat) (w16 : World), (Builtin.append_ #[33, 33] 33 #[(.slice t41a t41n t41c), (.slice (some ⟨g9, 0, none⟩) 12 32)]).run Tryz.prog w15 = .ok (.slice t44a t44n t44c) w16 ∧
                                                  (∃ (t47a : Option Addr) (t47n : Nat) (t47c : Nat) (w17 : World), (Builtin.append_ #[33, 33] 33 #[(.slice t44a t44n t44c), (.slice t28a t28n t28c)]).run Tryz.prog w16 = .ok (.slice t47a t47n t47c) w17 ∧
                                                    (0 ≤ ((32 : Nat) : Int) ∧ ((32 : Nat) : Int) ≤ ((32 : Nat) : Int) ∧
                                                      (∃ (t50a : Option Addr) (t50n : Nat) (t50c : Nat) (w18 : World), (Builtin.append_ #[33, 33] 33 #[(.slice t47a t47n t47c), (.slice (some ⟨g12, 0, none⟩) (32) 32)]).run Tryz.prog w17 = .ok (.slice t50a t50n t50c) w18 ∧
                                                        (R (.returned (.slice t50a t50n t50c)) w18)))))))))))))))))) ∧
                      (∃ (g9 : Nat) (w19 : World), (Instr.alloc 22 true (.tuple #[])).run Tryz.prog w5 = .ok (.pointer (some ⟨g9, 0, none⟩)) w19 ∧
                        (Calls Tryz.prog 120 #[(.slice (some ⟨g4, 64, none⟩) (32) 32), (.slice t22a t22n t22c)] w19 fun (e23 : Ending) (w20 : World) => ∃ (t23 : Array Value), e23 = .returned (.agg t23) ∧
                          (∃ w21 : World, (Instr.storeAt 22 (.pointer (some ⟨g9, 0, none⟩)) (.agg t23)).run Tryz.prog w20 = .ok () w21 ∧
                            (0 ≤ (12 : Int) ∧ (12 : Int) ≤ ((32 : Nat) : Int) ∧
                              (∃ (t25 : Array Value), (Instr.loadAt 28 (.pointer (some ⟨g4, 0, none⟩))).run Tryz.prog w21 = .ok (.agg t25) w21 ∧
                                (Calls Tryz.prog 93 #[(.agg t25), (.slice (some ⟨g9, 0, none⟩) 12 32), (.slice a3a a3n a3c)] w21 fun (e28 : Ending) (w22 : World) => ∃ (t28a : Option Addr) (t28n : Nat) (t28c : Nat), e28 = .returned (.slice t28a t28n t28c) ∧
                                  (∃ (t29 : Array Value), (Instr.loadAt 28 (.pointer (some ⟨g4, 0, none⟩))).run Tryz.prog w22 = .ok (.agg t29) w22 ∧
                                    (Calls Tryz.prog 91 #[(.agg t29), (.int .u8 a1), (.slice a2a a2n a2c), (.slice (some ⟨g9, 0, none⟩) 12 32), (.slice t28a t28n t28c)] w22 fun (e34 : Ending) (w23 : World) => ∃ (t34 : Array Value), e34 = .returned (.agg t34) ∧
                                      (∃ (g12 : Nat) (w24 : World), (Instr.alloc 22 true (.tuple #[])).run Tryz.prog w23 = .ok (.pointer (some ⟨g12, 0, none⟩)) w24 ∧
                                        (∃ w25 : World, (Instr.storeAt 22 (.pointer (some ⟨g12, 0, none⟩)) (.agg t34)).run Tryz.prog w24 = .ok () w25 ∧
                                          (∃ (t38a : Option Addr) (t38n : Nat) (t38c : Nat) (w26 : World), (Instr.makeSlice 33 (.int .i64 0) (.int .i64 (IntKind.wrap .i64 ((45 : Int) + ((a3n : Nat) : Int))))).run Tryz.prog w25 = .ok (.slice t38a t38n t38c) w26 ∧
                                            (∃ (t40a : Option Addr) (t40n : Nat) (t40c : Nat) (w27 : World), (Instr.buildSlice 33 1 #[(0, (.int .u8 a1))]).run Tryz.prog w26 = .ok (.slice t40a t40n t40c) w27 ∧
                                              (∃ (t41a : Option Addr) (t41n : Nat) (t41c : Nat) (w28 : World), (Builtin.append_ #[33, 33] 33 #[(.slice t38a t38n t38c), (.slice t40a t40n t40c)]).run Tryz.prog w27 = .ok (.slice t41a t41n t41c) w28 ∧
                                                (∃ (t44a : Option Addr) (t44n : Nat) (t44c : Nat) (w29 : World), (Builtin.append_ #[33, 33] 33 #[(.slice t41a t41n t41c), (.slice (some ⟨g9, 0, none⟩) 12 32)]).run Tryz.prog w28 = .ok (.slice t44a t44n t44c) w29 ∧
                                                  (∃ (t47a : Option Addr) (t47n : Nat) (t47c : Nat) (w30 : World), (Builtin.append_ #[33, 33] 33 #[(.slice t44a t44n t44c), (.slice t28a t28n t28c)]).run Tryz.prog w29 = .ok (.slice t47a t47n t47c) w30 ∧
                                                    (0 ≤ ((32 : Nat) : Int) ∧ ((32 : Nat) : Int) ≤ ((32 : Nat) : Int) ∧
                                                      (∃ (t50a : Option Addr) (t50n : Nat) (t50c : Nat) (w31 : World), (Builtin.append_ #[33, 33] 33 #[(.slice t47a t47n t47c), (.slice (some ⟨g12, 0, none⟩) (32) 32)]).run Tryz.prog w30 = .ok (.slice t50a t50n t50c) w31 ∧
                                                        (R (.returned (.slice t50a t50n t50c)) w31)))))))))))))))))))) ∧
                  (∃ (g9 : Nat) (w32 : World), (Instr.alloc 22 true (.tuple #[])).run Tryz.prog w4 = .ok (.pointer (some ⟨g9, 0, none⟩)) w32 ∧
                    (∃ (t22a : Option Addr) (t22n : Nat) (t22c : Nat) (w33 : World), (Instr.buildSlice 23 1 #[(0, (.slice t21a t21n t21c))]).run Tryz.prog w32 = .ok (.slice t22a t22n t22c) w33 ∧
                      (Calls Tryz.prog 120 #[(.slice (some ⟨g4, 64, none⟩) (32) 32), (.slice t22a t22n t22c)] w33 fun (e23 : Ending) (w34 : World) => ∃ (t23 : Array Value), e23 = .returned (.agg t23) ∧
                        (∃ w35 : World, (Instr.storeAt 22 (.pointer (some ⟨g9, 0, none⟩)) (.agg t23)).run Tryz.prog w34 = .ok () w35 ∧
                          (0 ≤ (12 : Int) ∧ (12 : Int) ≤ ((32 : Nat) : Int) ∧
                            (∃ (t25 : Array Value), (Instr.loadAt 28 (.pointer (some ⟨g4, 0, none⟩))).run Tryz.prog w35 = .ok (.agg t25) w35 ∧
                              (Calls Tryz.prog 93 #[(.agg t25), (.slice (some ⟨g9, 0, none⟩) 12 32), (.slice a3a a3n a3c)] w35 fun (e28 : Ending) (w36 : World) => ∃ (t28a : Option Addr) (t28n : Nat) (t28c : Nat), e28 = .returned (.slice t28a t28n t28c) ∧
                                (∃ (t29 : Array Value), (Instr.loadAt 28 (.pointer (some ⟨g4, 0, none⟩))).run Tryz.prog w36 = .ok (.agg t29) w36 ∧
                                  (Calls Tryz.prog 91 #[(.agg t29), (.int .u8 a1), (.slice a2a a2n a2c), (.slice (some ⟨g9, 0, none⟩) 12 32), (.slice t28a t28n t28c)] w36 fun (e34 : Ending) (w37 : World) => ∃ (t34 : Array Value), e34 = .returned (.agg t34) ∧
                                    (∃ (g12 : Nat) (w38 : World), (Instr.alloc 22 true (.tuple #[])).run Tryz.prog w37 = .ok (.pointer (some ⟨g12, 0, none⟩)) w38 ∧
                                      (∃ w39 : World, (Instr.storeAt 22 (.pointer (some ⟨g12, 0, none⟩)) (.agg t34)).run Tryz.prog w38 = .ok () w39 ∧
                                        (∃ (t38a : Option Addr) (t38n : Nat) (t38c : Nat) (w40 : World), (Instr.makeSlice 33 (.int .i64 0) (.int .i64 (IntKind.wrap .i64 ((45 : Int) + ((a3n : Nat) : Int))))).run Tryz.prog w39 = .ok (.slice t38a t38n t38c) w40 ∧
                                          (∃ (t40a : Option Addr) (t40n : Nat) (t40c : Nat) (w41 : World), (Instr.buildSlice 33 1 #[(0, (.int .u8 a1))]).run Tryz.prog w40 = .ok (.slice t40a t40n t40c) w41 ∧
                                            (∃ (t41a : Option Addr) (t41n : Nat) (t41c : Nat) (w42 : World), (Builtin.append_ #[33, 33] 33 #[(.slice t38a t38n t38c), (.slice t40a t40n t40c)]).run Tryz.prog w41 = .ok (.slice t41a t41n t41c) w42 ∧
                                              (∃ (t44a : Option Addr) (t44n : Nat) (t44c : Nat) (w43 : World), (Builtin.append_ #[33, 33] 33 #[(.slice t41a t41n t41c), (.slice (some ⟨g9, 0, none⟩) 12 32)]).run Tryz.prog w42 = .ok (.slice t44a t44n t44c) w43 ∧
                                                (∃ (t47a : Option Addr) (t47n : Nat) (t47c : Nat) (w44 : World), (Builtin.append_ #[33, 33] 33 #[(.slice t44a t44n t44c), (.slice t28a t28n t28c)]).run Tryz.prog w43 = .ok (.slice t47a t47n t47c) w44 ∧
                                                  (0 ≤ ((32 : Nat) : Int) ∧ ((32 : Nat) : Int) ≤ ((32 : Nat) : Int) ∧
                                                    (∃ (t50a : Option Addr) (t50n : Nat) (t50c : Nat) (w45 : World), (Builtin.append_ #[33, 33] 33 #[(.slice t47a t47n t47c), (.slice (some ⟨g12, 0, none⟩) (32) 32)]).run Tryz.prog w44 = .ok (.slice t50a t50n t50c) w45 ∧
                                                      (R (.returned (.slice t50a t50n t50c)) w45))))))))))))))))))))) ∧
              (∃ (g9 : Nat) (w46 : World), (Instr.alloc 22 true (.tuple #[])).run Tryz.prog w3 = .ok (.pointer (some ⟨g9, 0, none⟩)) w46 ∧
                (Calls Tryz.prog 121 #[(.slice t20a t20n t20c)] w46 fun (e21 : Ending) (w47 : World) => ∃ (t21a : Option Addr) (t21n : Nat) (t21c : Nat), e21 = .returned (.slice t21a t21n t21c) ∧
                  (∃ (t22a : Option Addr) (t22n : Nat) (t22c : Nat) (w48 : World), (Instr.buildSlice 23 1 #[(0, (.slice t21a t21n t21c))]).run Tryz.prog w47 = .ok (.slice t22a t22n t22c) w48 ∧
                    (Calls Tryz.prog 120 #[(.slice (some ⟨g4, 64, none⟩) (32) 32), (.slice t22a t22n t22c)] w48 fun (e23 : Ending) (w49 : World) => ∃ (t23 : Array Value), e23 = .returned (.agg t23) ∧
                      (∃ w50 : World, (Instr.storeAt 22 (.pointer (some ⟨g9, 0, none⟩)) (.agg t23)).run Tryz.prog w49 = .ok () w50 ∧
                        (0 ≤ (12 : Int) ∧ (12 : Int) ≤ ((32 : Nat) : Int) ∧
                          (∃ (t25 : Array Value), (Instr.loadAt 28 (.pointer (some ⟨g4, 0, none⟩))).run Tryz.prog w50 = .ok (.agg t25) w50 ∧
                            (Calls Tryz.prog 93 #[(.agg t25), (.slice (some ⟨g9, 0, none⟩) 12 32), (.slice a3a a3n a3c)] w50 fun (e28 : Ending) (w51 : World) => ∃ (t28a : Option Addr) (t28n : Nat) (t28c : Nat), e28 = .returned (.slice t28a t28n t28c) ∧
                              (∃ (t29 : Array Value), (Instr.loadAt 28 (.pointer (some ⟨g4, 0, none⟩))).run Tryz.prog w51 = .ok (.agg t29) w51 ∧
                                (Calls Tryz.prog 91 #[(.agg t29), (.int .u8 a1), (.slice a2a a2n a2c), (.slice (some ⟨g9, 0, none⟩) 12 32), (.slice t28a t28n t28c)] w51 fun (e34 : Ending) (w52 : World) => ∃ (t34 : Array Value), e34 = .returned (.agg t34) ∧
                                  (∃ (g12 : Nat) (w53 : World), (Instr.alloc 22 true (.tuple #[])).run Tryz.prog w52 = .ok (.pointer (some ⟨g12, 0, none⟩)) w53 ∧
                                    (∃ w54 : World, (Instr.storeAt 22 (.pointer (some ⟨g12, 0, none⟩)) (.agg t34)).run Tryz.prog w53 = .ok () w54 ∧
                                      (∃ (t38a : Option Addr) (t38n : Nat) (t38c : Nat) (w55 : World), (Instr.makeSlice 33 (.int .i64 0) (.int .i64 (IntKind.wrap .i64 ((45 : Int) + ((a3n : Nat) : Int))))).run Tryz.prog w54 = .ok (.slice t38a t38n t38c) w55 ∧
                                        (∃ (t40a : Option Addr) (t40n : Nat) (t40c : Nat) (w56 : World), (Instr.buildSlice 33 1 #[(0, (.int .u8 a1))]).run Tryz.prog w55 = .ok (.slice t40a t40n t40c) w56 ∧
                                          (∃ (t41a : Option Addr) (t41n : Nat) (t41c : Nat) (w57 : World), (Builtin.append_ #[33, 33] 33 #[(.slice t38a t38n t38c), (.slice t40a t40n t40c)]).run Tryz.prog w56 = .ok (.slice t41a t41n t41c) w57 ∧
                                            (∃ (t44a : Option Addr) (t44n : Nat) (t44c : Nat) (w58 : World), (Builtin.append_ #[33, 33] 33 #[(.slice t41a t41n t41c), (.slice (some ⟨g9, 0, none⟩) 12 32)]).run Tryz.prog w57 = .ok (.slice t44a t44n t44c) w58 ∧
                                              (∃ (t47a : Option Addr) (t47n : Nat) (t47c : Nat) (w59 : World), (Builtin.append_ #[33, 33] 33 #[(.slice t44a t44n t44c), (.slice t28a t28n t28c)]).run Tryz.prog w58 = .ok (.slice t47a t47n t47c) w59 ∧
                                                (0 ≤ ((32 : Nat) : Int) ∧ ((32 : Nat) : Int) ≤ ((32 : Nat) : Int) ∧
                                                  (∃ (t50a : Option Addr) (t50n : Nat) (t50c : Nat) (w60 : World), (Builtin.append_ #[33, 33] 33 #[(.slice t47a t47n t47c), (.slice (some ⟨g12, 0, none⟩) (32) 32)]).run Tryz.prog w59 = .ok (.slice t50a t50n t50c) w60 ∧
                                                    (R (.returned (.slice t50a t50n t50c)) w60)))))))))))))))))))))) ∧
          (∃ (g9 : Nat) (w61 : World), (Instr.alloc 22 true (.tuple #[])).run Tryz.prog w2 = .ok (.pointer (some ⟨g9, 0, none⟩)) w61 ∧
            (∃ (t20a : Option Addr) (t20n : Nat) (t20c : Nat) (w62 : World), (Instr.buildSlice 23 3 #[(0, (.slice t17a t17n t17c)), (1, (.slice a2a a2n a2c)), (2, (.slice a3a a3n a3c))]).run Tryz.prog w61 = .ok (.slice t20a t20n t20c) w62 ∧
              (Calls Tryz.prog 121 #[(.slice t20a t20n t20c)] w62 fun (e21 : Ending) (w63 : World) => ∃ (t21a : Option Addr) (t21n : Nat) (t21c : Nat), e21 = .returned (.slice t21a t21n t21c) ∧
                (∃ (t22a : Option Addr) (t22n : Nat) (t22c : Nat) (w64 : World), (Instr.buildSlice 23 1 #[(0, (.slice t21a t21n t21c))]).run Tryz.prog w63 = .ok (.slice t22a t22n t22c) w64 ∧
                  (Calls Tryz.prog 120 #[(.slice (some ⟨g4, 64, none⟩) (32) 32), (.slice t22a t22n t22c)] w64 fun (e23 : Ending) (w65 : World) => ∃ (t23 : Array Value), e23 = .returned (.agg t23) ∧
                    (∃ w66 : World, (Instr.storeAt 22 (.pointer (some ⟨g9, 0, none⟩)) (.agg t23)).run Tryz.prog w65 = .ok () w66 ∧
                      (0 ≤ (12 : Int) ∧ (12 : Int) ≤ ((32 : Nat) : Int) ∧
                        (∃ (t25 : Array Value), (Instr.loadAt 28 (.pointer (some ⟨g4, 0, none⟩))).run Tryz.prog w66 = .ok (.agg t25) w66 ∧
                          (Calls Tryz.prog 93 #[(.agg t25), (.slice (some ⟨g9, 0, none⟩) 12 32), (.slice a3a a3n a3c)] w66 fun (e28 : Ending) (w67 : World) => ∃ (t28a : Option Addr) (t28n : Nat) (t28c : Nat), e28 = .returned (.slice t28a t28n t28c) ∧
                            (∃ (t29 : Array Value), (Instr.loadAt 28 (.pointer (some ⟨g4, 0, none⟩))).run Tryz.prog w67 = .ok (.agg t29) w67 ∧
                              (Calls Tryz.prog 91 #[(.agg t29), (.int .u8 a1), (.slice a2a a2n a2c), (.slice (some ⟨g9, 0, none⟩) 12 32), (.slice t28a t28n t28c)] w67 fun (e34 : Ending) (w68 : World) => ∃ (t34 : Array Value), e34 = .returned (.agg t34) ∧
                                (∃ (g12 : Nat) (w69 : World), (Instr.alloc 22 true (.tuple #[])).run Tryz.prog w68 = .ok (.pointer (some ⟨g12, 0, none⟩)) w69 ∧
                                  (∃ w70 : World, (Instr.storeAt 22 (.pointer (some ⟨g12, 0, none⟩)) (.agg t34)).run Tryz.prog w69 = .ok () w70 ∧
                                    (∃ (t38a : Option Addr) (t38n : Nat) (t38c : Nat) (w71 : World), (Instr.makeSlice 33 (.int .i64 0) (.int .i64 (IntKind.wrap .i64 ((45 : Int) + ((a3n : Nat) : Int))))).run Tryz.prog w70 = .ok (.slice t38a t38n t38c) w71 ∧
                                      (∃ (t40a : Option Addr) (t40n : Nat) (t40c : Nat) (w72 : World), (Instr.buildSlice 33 1 #[(0, (.int .u8 a1))]).run Tryz.prog w71 = .ok (.slice t40a t40n t40c) w72 ∧
                                        (∃ (t41a : Option Addr) (t41n : Nat) (t41c : Nat) (w73 : World), (Builtin.append_ #[33, 33] 33 #[(.slice t38a t38n t38c), (.slice t40a t40n t40c)]).run Tryz.prog w72 = .ok (.slice t41a t41n t41c) w73 ∧
                                          (∃ (t44a : Option Addr) (t44n : Nat) (t44c : Nat) (w74 : World), (Builtin.append_ #[33, 33] 33 #[(.slice t41a t41n t41c), (.slice (some ⟨g9, 0, none⟩) 12 32)]).run Tryz.prog w73 = .ok (.slice t44a t44n t44c) w74 ∧
                                            (∃ (t47a : Option Addr) (t47n : Nat) (t47c : Nat) (w75 : World), (Builtin.append_ #[33, 33] 33 #[(.slice t44a t44n t44c), (.slice t28a t28n t28c)]).run Tryz.prog w74 = .ok (.slice t47a t47n t47c) w75 ∧
                                              (0 ≤ ((32 : Nat) : Int) ∧ ((32 : Nat) : Int) ≤ ((32 : Nat) : Int) ∧
                                                (∃ (t50a : Option Addr) (t50n : Nat) (t50c : Nat) (w76 : World), (Builtin.append_ #[33, 33] 33 #[(.slice t47a t47n t47c), (.slice (some ⟨g12, 0, none⟩) (32) 32)]).run Tryz.prog w75 = .ok (.slice t50a t50n t50c) w76 ∧
                                                  (R (.returned (.slice t50a t50n t50c)) w76))))))))))))))))))))))) ∧
      (∃ (g9 : Nat) (w77 : World), (Instr.alloc 22 true (.tuple #[])).run Tryz.prog w1.drew = .ok (.pointer (some ⟨g9, 0, none⟩)) w77 ∧
        (∃ (t17a : Option Addr) (t17n : Nat) (t17c : Nat) (w78 : World), (Instr.buildSlice 33 1 #[(0, (.int .u8 a1))]).run Tryz.prog w77 = .ok (.slice t17a t17n t17c) w78 ∧
          (∃ (t20a : Option Addr) (t20n : Nat) (t20c : Nat) (w79 : World), (Instr.buildSlice 23 3 #[(0, (.slice t17a t17n t17c)), (1, (.slice a2a a2n a2c)), (2, (.slice a3a a3n a3c))]).run Tryz.prog w78 = .ok (.slice t20a t20n t20c) w79 ∧
            (Calls Tryz.prog 121 #[(.slice t20a t20n t20c)] w79 fun (e21 : Ending) (w80 : World) => ∃ (t21a : Option Addr) (t21n : Nat) (t21c : Nat), e21 = .returned (.slice t21a t21n t21c) ∧
              (∃ (t22a : Option Addr) (t22n : Nat) (t22c : Nat) (w81 : World), (Instr.buildSlice 23 1 #[(0, (.slice t21a t21n t21c))]).run Tryz.prog w80 = .ok (.slice t22a t22n t22c) w81 ∧
                (Calls Tryz.prog 120 #[(.slice (some ⟨g4, 64, none⟩) (32) 32), (.slice t22a t22n t22c)] w81 fun (e23 : Ending) (w82 : World) => ∃ (t23 : Array Value), e23 = .returned (.agg t23) ∧
                  (∃ w83 : World, (Instr.storeAt 22 (.pointer (some ⟨g9, 0, none⟩)) (.agg t23)).run Tryz.prog w82 = .ok () w83 ∧
                    (0 ≤ (12 : Int) ∧ (12 : Int) ≤ ((32 : Nat) : Int) ∧
                      (∃ (t25 : Array Value), (Instr.loadAt 28 (.pointer (some ⟨g4, 0, none⟩))).run Tryz.prog w83 = .ok (.agg t25) w83 ∧
                        (Calls Tryz.prog 93 #[(.agg t25), (.slice (some ⟨g9, 0, none⟩) 12 32), (.slice a3a a3n a3c)] w83 fun (e28 : Ending) (w84 : World) => ∃ (t28a : Option Addr) (t28n : Nat) (t28c : Nat), e28 = .returned (.slice t28a t28n t28c) ∧
                          (∃ (t29 : Array Value), (Instr.loadAt 28 (.pointer (some ⟨g4, 0, none⟩))).run Tryz.prog w84 = .ok (.agg t29) w84 ∧
                            (Calls Tryz.prog 91 #[(.agg t29), (.int .u8 a1), (.slice a2a a2n a2c), (.slice (some ⟨g9, 0, none⟩) 12 32), (.slice t28a t28n t28c)] w84 fun (e34 : Ending) (w85 : World) => ∃ (t34 : Array Value), e34 = .returned (.agg t34) ∧
                              (∃ (g12 : Nat) (w86 : World), (Instr.alloc 22 true (.tuple #[])).run Tryz.prog w85 = .ok (.pointer (some ⟨g12, 0, none⟩)) w86 ∧
                                (∃ w87 : World, (Instr.storeAt 22 (.pointer (some ⟨g12, 0, none⟩)) (.agg t34)).run Tryz.prog w86 = .ok () w87 ∧
                                  (∃ (t38a : Option Addr) (t38n : Nat) (t38c : Nat) (w88 : World), (Instr.makeSlice 33 (.int .i64 0) (.int .i64 (IntKind.wrap .i64 ((45 : Int) + ((a3n : Nat) : Int))))).run Tryz.prog w87 = .ok (.slice t38a t38n t38c) w88 ∧
                                    (∃ (t40a : Option Addr) (t40n : Nat) (t40c : Nat) (w89 : World), (Instr.buildSlice 33 1 #[(0, (.int .u8 a1))]).run Tryz.prog w88 = .ok (.slice t40a t40n t40c) w89 ∧
                                      (∃ (t41a : Option Addr) (t41n : Nat) (t41c : Nat) (w90 : World), (Builtin.append_ #[33, 33] 33 #[(.slice t38a t38n t38c), (.slice t40a t40n t40c)]).run Tryz.prog w89 = .ok (.slice t41a t41n t41c) w90 ∧
                                        (∃ (t44a : Option Addr) (t44n : Nat) (t44c : Nat) (w91 : World), (Builtin.append_ #[33, 33] 33 #[(.slice t41a t41n t41c), (.slice (some ⟨g9, 0, none⟩) 12 32)]).run Tryz.prog w90 = .ok (.slice t44a t44n t44c) w91 ∧
                                          (∃ (t47a : Option Addr) (t47n : Nat) (t47c : Nat) (w92 : World), (Builtin.append_ #[33, 33] 33 #[(.slice t44a t44n t44c), (.slice t28a t28n t28c)]).run Tryz.prog w91 = .ok (.slice t47a t47n t47c) w92 ∧
                                            (0 ≤ ((32 : Nat) : Int) ∧ ((32 : Nat) : Int) ≤ ((32 : Nat) : Int) ∧
                                              (∃ (t50a : Option Addr) (t50n : Nat) (t50c : Nat) (w93 : World), (Builtin.append_ #[33, 33] 33 #[(.slice t47a t47n t47c), (.slice (some ⟨g12, 0, none⟩) (32) 32)]).run Tryz.prog w92 = .ok (.slice t50a t50n t50c) w93 ∧
                                                (R (.returned (.slice t50a t50n t50c)) w93))))))))))))))))))))))))) : Calls Tryz.prog 104 #[(.agg a0), (.int .u8 a1), (.slice a2a a2n a2c), (.slice a3a a3n a3c)] w R :=
  calls_of_ev (args := [(.agg a0), (.int .u8 a1), (.slice a2a a2n a2c), (.slice a3a a3n a3c)])
    (tc := .seq (.reg (.op .bx (.op .p (.nil)))) (.seq (.draw (.tk 0 .p (.tk 1 .sl (.tk 2 .p (.tk 4 .p (.tk 5 .p (.two 3 (.r (.slice)) (.two 6 (.r (.slice)) (.two 7 (.cl [.slice]) (.two 8 (.r (.slice)) (.two 9 (.cl [.agg]) (.go 10 .bx (.go 11 .u (.nil))) 10 .bx (.go 9 (.cl [.agg]) (.go 11 .u (.nil)))) 10 .bx (.go 8 (.r (.slice)) (.go 9 (.cl [.agg]) (.go 11 .u (.nil))))) 10 .bx (.go 7 (.cl [.slice]) (.go 8 (.r (.slice)) (.go 9 (.cl [.agg]) (.go 11 .u (.nil)))))) 10 .bx (.go 6 (.r (.slice)) (.go 7 (.cl [.slice]) (.go 8 (.r (.slice)) (.go 9 (.cl [.agg]) (.go 11 .u (.nil))))))) 10 .bx (.go 3 (.r (.slice)) (.go 6 (.r (.slice)) (.go 7 (.cl [.slice]) (.go 8 (.r (.slice)) (.go 9 (.cl [.agg]) (.go 11 .u (.nil))))))))))))) [0, 1, 2, 3, 4, 5, 6, 7, 8, 9, 10, 11]) (.seq (.reg (.op .sl (.op .p (.nil)))) (.seq (.reg (.op (.ld (.agg)) (.op .p (.op .p (.op (.cl [.slice]) (.op .p (.nil))))))) (.seq (.reg (.op (.ld (.agg)) (.op .p (.op .p (.op .p (.op .p (.op (.cl [.agg]) (.op .bx (.op .u (.nil)))))))))) (.seq (.reg (.op .p (.op .p (.op .p (.op (.r (.slice)) (.op .p (.op (.r (.slice)) (.op (.r (.slice)) (.op .p (.nil)))))))))) (.seq (.reg (.op .p (.op .p (.op (.r (.slice)) (.op .p (.nil)))))) (.seq (.reg (.op .p (.op .p (.op (.r (.slice)) (.op .p (.nil)))))) (.seq (.reg (.op .p (.op .sl (.op (.r (.slice)) (.op .p (.nil)))))) (.leaf))))))))))
    (by kernel_rfl) Tryz.func104 (by kernel_rfl) (by kernel_rfl) (by kernel_rfl) (by kernel_rfl) h

set_option maxRecDepth 100000 in
theorem seal_Open_vc (a0 : Array Value) (a1 : Int) (a2a : Option Addr) (a2n : Nat) (a2c : Nat) (a3a : Option Addr) (a3n : Nat) (a3c : Nat) (w : World) (R : Ending → World → Prop) (h :
  ∃ (g4 : Nat) (w1 : World), (Instr.box 28 (.agg a0)).run Tryz.prog w = .ok (.pointer (some ⟨g4, 0, none⟩)) w1 ∧
  (∃ J : Bool → World → Prop, (((decide (((a3n : Nat) : Int) < (45 : Int))) = true →
        (J true w1)) ∧
      ((decide (((a3n : Nat) : Int) < (45 : Int))) = false →
        (∃ (t19b t19o : Nat), a3a = some ⟨t19b, t19o, none⟩ ∧ 0 ≤ (0 : Int) ∧ (0 : Int) < ((a3n : Nat) : Int) ∧
          (∃ (t20 : Int), (Instr.loadAt 5 (.pointer (some ⟨t19b, t19o + Int.toNat (0 : Int) * 1, none⟩))).run Tryz.prog w1 = .ok (.int .u8 t20) w1 ∧
            (J (t20 != a1) w1))))) ∧
    (∀ (x23 : Bool), ∀ w2 : World, J x23 w2 →
      ((x23 = true →
          (R (.returned (.tuple #[(.slice none 0 0), (.iface 69 (.int .i64 10))])) w2)) ∧
        (x23 = false →
          (0 ≤ (1 : Int) ∧ (1 : Int) ≤ (13 : Int) ∧ (13 : Int) ≤ ((a3c : Nat) : Int) ∧ ∀ t29a : Option Addr, SubA 1 a3a 1 a3c t29a →
            (0 ≤ (13 : Int) ∧ (13 : Int) ≤ (IntKind.wrap .i64 (((a3n : Nat) : Int) - (32 : Int))) ∧ (IntKind.wrap .i64 (((a3n : Nat) : Int) - (32 : Int))) ≤ ((a3c : Nat) : Int) ∧ ∀ t32a : Option Addr, SubA 1 a3a 13 a3c t32a →
              (∃ (t33 : Array Value), (Instr.loadAt 28 (.pointer (some ⟨g4, 0, none⟩))).run Tryz.prog w2.drew = .ok (.agg t33) w2.drew ∧
                (Calls Tryz.prog 91 #[(.agg t33), (.int .u8 a1), (.slice a2a a2n a2c), (.slice t29a 12 (a3c - 1)), (.slice t32a ((Int.toNat (IntKind.wrap .i64 (((a3n : Nat) : Int) - (32 : Int)))) - 13) (a3c - 13))] w2.drew fun (e38 : Ending) (w3 : World) => ∃ (t38 : Array Value), e38 = .returned (.agg t38) ∧
                  (∃ (g13 : Nat) (w4 : World), (Instr.alloc 22 true (.tuple #[])).run Tryz.prog w3 = .ok (.pointer (some ⟨g13, 0, none⟩)) w4 ∧
                    (∃ w5 : World, (Instr.storeAt 22 (.pointer (some ⟨g13, 0, none⟩)) (.agg t38)).run Tryz.prog w4 = .ok () w5 ∧
                      (0 ≤ ((32 : Nat) : Int) ∧ ((32 : Nat) : Int) ≤ ((32 : Nat) : Int) ∧
                        (0 ≤ (IntKind.wrap .i64 (((a3n : Nat) : Int) - (32 : Int))) ∧ (IntKind.wrap .i64 (((a3n : Nat) : Int) - (32 : Int))) ≤ ((a3n : Nat) : Int) ∧ ((a3n : Nat) : Int) ≤ ((a3c : Nat) : Int) ∧ ∀ t42a : Option Addr, SubA 1 a3a (Int.toNat (IntKind.wrap .i64 (((a3n : Nat) : Int) - (32 : Int)))) a3c t42a →
                          (Calls Tryz.prog 92 #[(.slice (some ⟨g13, 0, none⟩) (32) 32), (.slice t42a ((a3n) - (Int.toNat (IntKind.wrap .i64 (((a3n : Nat) : Int) - (32 : Int))))) (a3c - (Int.toNat (IntKind.wrap .i64 (((a3n : Nat) : Int) - (32 : Int))))))] w5.drew fun (e43 : Ending) (w6 : World) => ∃ (t43 : Bool), e43 = .returned (.bool t43) ∧
                            (((!t43) = true →
                                (R (.returned (.tuple #[(.slice none 0 0), (.iface 69 (.int .i64 10))])) w6)) ∧
                              ((!t43) = false →
                                (∃ (t46 : Array Value), (Instr.loadAt 28 (.pointer (some ⟨g4, 0, none⟩))).run Tryz.prog w6 = .ok (.agg t46) w6 ∧
                                  (Calls Tryz.prog 93 #[(.agg t46), (.slice t29a 12 (a3c - 1)), (.slice t32a ((Int.toNat (IntKind.wrap .i64 (((a3n : Nat) : Int) - (32 : Int)))) - 13) (a3c - 13))] w6 fun (e49 : Ending) (w7 : World) => ∃ (t49a : Option Addr) (t49n : Nat) (t49c : Nat), e49 = .returned (.slice t49a t49n t49c) ∧
                                    (R (.returned (.tuple #[(.slice t49a t49n t49c), .nilIface])) w7))))))))))))))))))) : Calls Tryz.prog 57 #[(.agg a0), (.int .u8 a1), (.slice a2a a2n a2c), (.slice a3a a3n a3c)] w R :=
  calls_of_ev (args := [(.agg a0), (.int .u8 a1), (.slice a2a a2n a2c), (.slice a3a a3n a3c)])
    (tc := .seq (.reg (.op .bx (.op .p (.op .p (.nil))))) (.seq (.seq (.join [14, 15, 16, 17, 18, 19, 20, 21, 22, 23] [23] [.bool] (.reg (.op .p (.op .p (.op .p (.op .p (.sp 17 (.op .p (.op .p (.op .p (.op .p (.op .p (.op .p (.nil))))))) (.op .p (.op .ix (.op (.ld (.int .u8)) (.op .p (.op .p (.op .p (.nil)))))))))))))) (.cond (.seq (.reg (.op .p (.op .p (.op .p (.nil))))) (.leaf)) (.leaf))) (.seq (.reg (.op .p (.op .p (.op .p (.op .p (.nil)))))) (.seq (.draw (.tk 0 .p (.tk 1 .sl (.tk 2 .p (.tk 3 .p (.tk 4 .sl (.tk 5 .p (.tk 6 .p (.nil)))))))) [0, 1, 2, 3, 4, 5, 6]) (.seq (.reg (.op (.ld (.agg)) (.op .p (.op .p (.op .p (.op .p (.op (.cl [.agg]) (.op .bx (.op .u (.nil)))))))))) (.seq (.seq (.draw (.tk 0 .sl (.tk 1 .p (.tk 2 .p (.tk 3 .sl (.go 4 (.cl [.bool]) (.tk 5 .p (.nil))))))) [0, 1, 2, 3, 4, 5]) (.cond (.seq (.reg (.op .p (.op .p (.op .p (.nil))))) (.leaf)) (.leaf))) (.seq (.reg (.op (.ld (.agg)) (.op .p (.op .p (.op (.cl [.slice]) (.op .p (.op .p (.nil)))))))) (.leaf))))))))
    (by kernel_rfl) Tryz.func57 (by kernel_rfl) (by kernel_rfl) (by kernel_rfl) (by kernel_rfl) h

set_option maxRecDepth 100000 in
theorem amphoraref05_derived_vc (a0a : Option Addr) (a0n : Nat) (a0c : Nat) (a1a : Option Addr) (a1n : Nat) (a1c : Nat) (a2 : ByteArray) (w : World) (R : Ending → World → Prop) (h :
  ∃ (g6 : Nat) (w1 : World), (Instr.alloc 22 true (.tuple #[])).run Tryz.prog w = .ok (.pointer (some ⟨g6, 0, none⟩)) w1 ∧
  (∃ (t11 : Array Value), (Instr.build 22 #[]).run Tryz.prog w1 = .ok (.agg t11) w1 ∧
    (∃ (g7 : Nat) (w2 : World), (Instr.alloc 22 true (.tuple #[])).run Tryz.prog w1 = .ok (.pointer (some ⟨g7, 0, none⟩)) w2 ∧
      (∃ w3 : World, (Instr.storeAt 22 (.pointer (some ⟨g7, 0, none⟩)) (.agg t11)).run Tryz.prog w2 = .ok () w3 ∧
        (∃ (t16a : Option Addr) (t16n : Nat) (t16c : Nat) (w4 : World), (convert 9 33 (.string a2)).run Tryz.prog w3 = .ok (.slice t16a t16n t16c) w4 ∧
          (Calls Tryz.prog 69 #[(.slice a0a a0n a0c), (.slice a1a a1n a1c), (.slice t16a t16n t16c), (.int .i64 32)] w4 fun (e17 : Ending) (w5 : World) => ∃ (t17_0a : Option Addr) (t17_0n : Nat) (t17_0c : Nat) (t17_1 : Int), e17 = .returned (.tuple #[(.slice t17_0a t17_0n t17_0c), (.int .i64 t17_1)]) ∧
            (∃ (I : Int → World → Prop) (μ : Int → World → Nat), I 0 w5 ∧
              (∀ (x10 : Int), ∀ w6 : World, I x10 w6 →
                (((decide (x10 < (32 : Int))) = true →
                    (∃ (t27b t27o : Nat), t17_0a = some ⟨t27b, t27o, none⟩ ∧ 0 ≤ x10 ∧ x10 < ((t17_0n : Nat) : Int) ∧
                      (∃ (t28 : Int), (Instr.loadAt 5 (.pointer (some ⟨t27b, t27o + Int.toNat x10 * 1, none⟩))).run Tryz.prog w6 = .ok (.int .u8 t28) w6 ∧
                        (0 ≤ x10 ∧ x10 < (32 : Int) ∧
                          (∃ w7 : World, (Instr.storeAt 5 (.pointer (some ⟨g7, 0 + Int.toNat x10 * 1, none⟩)) (.int .u8 t28)).run Tryz.prog w6 = .ok () w7 ∧
                            (I (IntKind.wrap .i64 (x10 + (1 : Int))) w7 ∧ μ (IntKind.wrap .i64 (x10 + (1 : Int))) w7 < μ x10 w6)))))) ∧
                  ((decide (x10 < (32 : Int))) = false →
                    (∃ (t30 : Array Value), (Instr.loadAt 22 (.pointer (some ⟨g7, 0, none⟩))).run Tryz.prog w6 = .ok (.agg t30) w6 ∧
                      (∃ w8 : World, (Instr.storeAt 22 (.pointer (some ⟨g6, 0, none⟩)) (.agg t30)).run Tryz.prog w6 = .ok () w8 ∧
                        (∃ r6 : Value, (loadVar 22 ⟨g6, 0, none⟩).run Tryz.prog w8 = .ok r6 w8 ∧
                          (R (.returned r6) w8)))))))))))))) : Calls Tryz.prog 37 #[(.slice a0a a0n a0c), (.slice a1a a1n a1c), (.string a2)] w R :=
  calls_of_ev (args := [(.slice a0a a0n a0c), (.slice a1a a1n a1c), (.string a2)])
    (tc := .seq (.reg (.op .bx (.nil))) (.seq (.reg (.op (.ld (.agg)) (.op .bx (.op .u (.nil))))) (.seq (.reg (.op .p (.op .p (.op .p (.op (.r (.slice)) (.op (.cl [.slice, .int .i64]) (.op .p (.op .p (.op .p (.op .p (.op .p (.nil)))))))))))) (.seq (.seq (.reg (.op .p (.nil))) (.blk (.loop [10, 20, 21, 22, 23, 24, 25, 26, 27, 28, 29] [10] [.int .i64] (.seq (.seq (.reg (.op .p (.op .p (.nil)))) (.cond (.leaf) (.leaf))) (.seq (.blk (.reg (.op .p (.op .p (.op .p (.op .ix (.op (.ld (.int .u8)) (.op .ix (.op .u (.nil)))))))))) (.reg (.op .p (.op .p (.op .p (.nil)))))))))) (.seq (.reg (.op (.ld (.agg)) (.op .u (.nil)))) (.leaf))))))
    (by kernel_rfl) Tryz.func37 (by kernel_rfl) (by kernel_rfl) (by kernel_rfl) (by kernel_rfl) h

set_option maxRecDepth 100000 in
theorem amphoraref05_FromMaster_vc (a0 : Array Value) (w : World) (R : Ending → World → Prop) (h :
  ∃ (g1 : Nat) (w1 : World), (Instr.box 22 (.agg a0)).run Tryz.prog w = .ok (.pointer (some ⟨g1, 0, none⟩)) w1 ∧
  (∃ (g2 : Nat) (w2 : World), (Instr.alloc 28 true (.tuple #[])).run Tryz.prog w1 = .ok (.pointer (some ⟨g2, 0, none⟩)) w2 ∧
    (∃ (t4a : Option Addr) (t4n : Nat) (t4c : Nat) (w3 : World), (Instr.buildSlice 33 7 #[(0, (.int .u8 97)), (1, (.int .u8 109)), (2, (.int .u8 112)), (3, (.int .u8 104)), (4, (.int .u8 111)), (5, (.int .u8 114)), (6, (.int .u8 97))]).run Tryz.prog w2 = .ok (.slice t4a t4n t4c) w3 ∧
      (∃ (t5a : Option Addr) (t5n : Nat) (t5c : Nat) (w4 : World), (convert 33 33 (.slice t4a t4n t4c)).run Tryz.prog w3 = .ok (.slice t5a t5n t5c) w4 ∧
        (∃ S : World → Prop, S w4.drew ∧
          (0 ≤ ((32 : Nat) : Int) ∧ ((32 : Nat) : Int) ≤ ((32 : Nat) : Int) ∧
            (0 ≤ ((32 : Nat) : Int) ∧ ((32 : Nat) : Int) ≤ ((32 : Nat) : Int) ∧
              (0 ≤ ((32 : Nat) : Int) ∧ ((32 : Nat) : Int) ≤ ((32 : Nat) : Int) ∧
                (Calls Tryz.prog 37 #[(.slice t5a t5n t5c), (.slice (some ⟨g1, 0, none⟩) (32) 32), (.string (ByteArray.mk #[99, 105, 112, 104, 101, 114]))] w4.drew fun (e8 : Ending) (w5 : World) => ∃ (t8 : Array Value), e8 = .returned (.agg t8) ∧
                  (∃ S_1 : World → Prop, (∀ w' : World, S_1 w' → S w') ∧ S_1 w5 ∧
                    (Calls Tryz.prog 37 #[(.slice t5a t5n t5c), (.slice (some ⟨g1, 0, none⟩) (32) 32), (.string (ByteArray.mk #[109, 97, 99]))] w5 fun (e11 : Ending) (w6 : World) => ∃ (t11 : Array Value), e11 = .returned (.agg t11) ∧
                      (∃ S_2 : World → Prop, (∀ w' : World, S_2 w' → S_1 w') ∧ S_2 w6 ∧
                        (Calls Tryz.prog 37 #[(.slice t5a t5n t5c), (.slice (some ⟨g1, 0, none⟩) (32) 32), (.string (ByteArray.mk #[110, 97, 109, 101]))] w6 fun (e14 : Ending) (w7 : World) => ∃ (t14 : Array Value), e14 = .returned (.agg t14) ∧
                          (∃ S_3 : World → Prop, (∀ w' : World, S_3 w' → S_2 w') ∧ S_3 w7 ∧
                            (∃ (t15 : Array Value), (∀ w' : World, S_3 w' → (Instr.build 28 #[(0, (.agg t8)), (1, (.agg t11)), (2, (.agg t14))]).run Tryz.prog w' = .ok (.agg t15) w') ∧
                              (∃ w8 : World, (Instr.storeAt 28 (.pointer (some ⟨g2, 0, none⟩)) (.agg t15)).run Tryz.prog w7 = .ok () w8 ∧
                                (∃ r2 : Value, (loadVar 28 ⟨g2, 0, none⟩).run Tryz.prog w8 = .ok r2 w8 ∧
                                  (R (.returned r2) w8)))))))))))))))))) : Calls Tryz.prog 9 #[(.agg a0)] w R :=
  calls_of_ev (args := [(.agg a0)])
    (tc := .seq (.reg (.op .bx (.op .bx (.nil)))) (.seq (.reg (.op (.r (.slice)) (.op (.r (.slice)) (.op .p (.nil))))) (.seq (.drawS (.tk 0 .p (.tk 1 .sl (.tk 3 .p (.tk 4 .sl (.tk 6 .p (.tk 7 .sl (.go 2 (.cl [.agg]) (.go 5 (.cl [.agg]) (.go 8 (.cl [.agg]) (.ts 9 (.agg) (.go 10 .u (.nil)))))))))))) [10]) (.leaf))))
    (by kernel_rfl) Tryz.func9 (by kernel_rfl) (by kernel_rfl) (by kernel_rfl) (by kernel_rfl) h

set_option maxRecDepth 100000 in
theorem amphoraref05_Tag_vc (a0 : Array Value) (a1 : Int) (a2a : Option Addr) (a2n : Nat) (a2c : Nat) (a3a : Option Addr) (a3n : Nat) (a3c : Nat) (a4a : Option Addr) (a4n : Nat) (a4c : Nat) (w : World) (R : Ending → World → Prop) (h :
  ∃ (g5 : Nat) (w1 : World), (Instr.box 28 (.agg a0)).run Tryz.prog w = .ok (.pointer (some ⟨g5, 0, none⟩)) w1 ∧
  (∃ (g10 : Nat) (w2 : World), (Instr.alloc 22 true (.tuple #[])).run Tryz.prog w1 = .ok (.pointer (some ⟨g10, 0, none⟩)) w2 ∧
    (0 ≤ ((32 : Nat) : Int) ∧ ((32 : Nat) : Int) ≤ ((32 : Nat) : Int) ∧
      (∃ (t14a : Option Addr) (t14n : Nat) (t14c : Nat) (w3 : World), (Instr.buildSlice 33 1 #[(0, (.int .u8 a1))]).run Tryz.prog w2.drew = .ok (.slice t14a t14n t14c) w3 ∧
        (∃ (t18a : Option Addr) (t18n : Nat) (t18c : Nat) (w4 : World), (Instr.buildSlice 23 4 #[(0, (.slice t14a t14n t14c)), (1, (.slice a2a a2n a2c)), (2, (.slice a3a a3n a3c)), (3, (.slice a4a a4n a4c))]).run Tryz.prog w3 = .ok (.slice t18a t18n t18c) w4 ∧
          (Calls Tryz.prog 105 #[(.slice t18a t18n t18c)] w4 fun (e19 : Ending) (w5 : World) => ∃ (t19a : Option Addr) (t19n : Nat) (t19c : Nat), e19 = .returned (.slice t19a t19n t19c) ∧
            (∃ (t20a : Option Addr) (t20n : Nat) (t20c : Nat) (w6 : World), (Instr.buildSlice 23 1 #[(0, (.slice t19a t19n t19c))]).run Tryz.prog w5 = .ok (.slice t20a t20n t20c) w6 ∧
              (Calls Tryz.prog 101 #[(.slice (some ⟨g5, 32, none⟩) (32) 32), (.slice t20a t20n t20c)] w6 fun (e21 : Ending) (w7 : World) => ∃ (t21 : Array Value), e21 = .returned (.agg t21) ∧
                (∃ w8 : World, (Instr.storeAt 22 (.pointer (some ⟨g10, 0, none⟩)) (.agg t21)).run Tryz.prog w7 = .ok () w8 ∧
                  (∃ r10 : Value, (loadVar 22 ⟨g10, 0, none⟩).run Tryz.prog w8 = .ok r10 w8 ∧
                    (R (.returned r10) w8))))))))))) : Calls Tryz.prog 107 #[(.agg a0), (.int .u8 a1), (.slice a2a a2n a2c), (.slice a3a a3n a3c), (.slice a4a a4n a4c)] w R :=
  calls_of_ev (args := [(.agg a0), (.int .u8 a1), (.slice a2a a2n a2c), (.slice a3a a3n a3c), (.slice a4a a4n a4c)])
    (tc := .seq (.reg (.op .bx (.op .bx (.nil)))) (.seq (.draw (.tk 0 .p (.tk 1 .sl (.tk 2 .p (.tk 4 .p (.tk 5 .p (.tk 6 .p (.go 3 (.r (.slice)) (.go 7 (.r (.slice)) (.go 8 (.cl [.slice]) (.go 9 (.r (.slice)) (.go 10 (.cl [.agg]) (.go 11 .u (.nil))))))))))))) [0, 1, 2, 3, 4, 5, 6, 7, 8, 9, 10, 11]) (.leaf)))
    (by kernel_rfl) Tryz.func107 (by kernel_rfl) (by kernel_rfl) (by kernel_rfl) (by kernel_rfl) h

set_option maxRecDepth 100000 in
theorem amphoraref05_Seal_vc (a0 : Array Value) (a1 : Int) (a2a : Option Addr) (a2n : Nat) (a2c : Nat) (a3a : Option Addr) (a3n : Nat) (a3c : Nat) (w : World) (R : Ending → World → Prop) (h :
  ∃ (g4 : Nat) (w1 : World), (Instr.box 28 (.agg a0)).run Tryz.prog w = .ok (.pointer (some ⟨g4, 0, none⟩)) w1 ∧
  (∃ J : Nat → Nat → World → Prop, (0 ≤ ((32 : Nat) : Int) ∧ ((32 : Nat) : Int) ≤ ((32 : Nat) : Int) ∧
      ((∃ (t19a : Option Addr) (t19n : Nat) (t19c : Nat) (w2 : World), (Instr.buildSlice 33 1 #[(0, (.int .u8 a1))]).run Tryz.prog w1.drew = .ok (.slice t19a t19n t19c) w2 ∧
          ((∃ (t22a : Option Addr) (t22n : Nat) (t22c : Nat) (w3 : World), (Instr.buildSlice 23 3 #[(0, (.slice t19a t19n t19c)), (1, (.slice a2a a2n a2c)), (2, (.slice a3a a3n a3c))]).run Tryz.prog w2 = .ok (.slice t22a t22n t22c) w3 ∧
              ((Calls Tryz.prog 105 #[(.slice t22a t22n t22c)] w3 fun (e23 : Ending) (w4 : World) => ∃ (t23a : Option Addr) (t23n : Nat) (t23c : Nat), e23 = .returned (.slice t23a t23n t23c) ∧
                  ((∃ (t24a : Option Addr) (t24n : Nat) (t24c : Nat) (w5 : World), (Instr.buildSlice 23 1 #[(0, (.slice t23a t23n t23c))]).run Tryz.prog w4 = .ok (.slice t24a t24n t24c) w5 ∧
                      ((Calls Tryz.prog 101 #[(.slice (some ⟨g4, 64, none⟩) (32) 32), (.slice t24a t24n t24c)] w5 fun (e25 : Ending) (w6 : World) => ∃ (t25 : Array Value), e25 = .returned (.agg t25) ∧
                          (∃ (g9 : Nat) (w7 : World), (Instr.alloc 22 true (.tuple #[])).run Tryz.prog w6 = .ok (.pointer (some ⟨g9, 0, none⟩)) w7 ∧
                            (∃ w8 : World, (Instr.storeAt 22 (.pointer (some ⟨g9, 0, none⟩)) (.agg t25)).run Tryz.prog w7 = .ok () w8 ∧
                              (J g9 0 w8)))) ∧
                        (∃ (g9 : Nat) (w9 : World), (Instr.alloc 22 true (.tuple #[])).run Tryz.prog w5 = .ok (.pointer (some ⟨g9, 0, none⟩)) w9 ∧
                          (Calls Tryz.prog 101 #[(.slice (some ⟨g4, 64, none⟩) (32) 32), (.slice t24a t24n t24c)] w9 fun (e25 : Ending) (w10 : World) => ∃ (t25 : Array Value), e25 = .returned (.agg t25) ∧
                            (∃ w11 : World, (Instr.storeAt 22 (.pointer (some ⟨g9, 0, none⟩)) (.agg t25)).run Tryz.prog w10 = .ok () w11 ∧
                              (J g9 0 w11)))))) ∧
                    (∃ (g9 : Nat) (w12 : World), (Instr.alloc 22 true (.tuple #[])).run Tryz.prog w4 = .ok (.pointer (some ⟨g9, 0, none⟩)) w12 ∧
                      (∃ (t24a : Option Addr) (t24n : Nat) (t24c : Nat) (w13 : World), (Instr.buildSlice 23 1 #[(0, (.slice t23a t23n t23c))]).run Tryz.prog w12 = .ok (.slice t24a t24n t24c) w13 ∧
                        (Calls Tryz.prog 101 #[(.slice (some ⟨g4, 64, none⟩) (32) 32), (.slice t24a t24n t24c)] w13 fun (e25 : Ending) (w14 : World) => ∃ (t25 : Array Value), e25 = .returned (.agg t25) ∧
                          (∃ w15 : World, (Instr.storeAt 22 (.pointer (some ⟨g9, 0, none⟩)) (.agg t25)).run Tryz.prog w14 = .ok () w15 ∧
                            (J g9 0 w15))))))) ∧
                (∃ (g9 : Nat) (w16 : World), (Instr.alloc 22 true (.tuple #[])).run Tryz.prog w3 = .ok (.pointer (some ⟨g9, 0, none⟩)) w16 ∧
                  (Calls Tryz.prog 105 #[(.slice t22a t22n t22c)] w16 fun (e23 : Ending) (w17 : World) => ∃ (t23a : Option Addr) (t23n : Nat) (t23c : Nat), e23 = .returned (.slice t23a t23n t23c) ∧
                    (∃ (t24a : Option Addr) (t24n : Nat) (t24c : Nat) (w18 : World), (Instr.buildSlice 23 1 #[(0, (.slice t23a t23n t23c))]).run Tryz.prog w17 = .ok (.slice t24a t24n t24c) w18 ∧
                      (Calls Tryz.prog 101 #[(.slice (some ⟨g4, 64, none⟩) (32) 32), (.slice t24a t24n t24c)] w18 fun (e25 : Ending) (w19 : World) => ∃ (t25 : Array Value), e25 = .returned (.agg t25) ∧
                        (∃ w20 : World, (Instr.storeAt 22 (.pointer (some ⟨g9, 0, none⟩)) (.agg t25)).run Tryz.prog w19 = .ok () w20 ∧
                          (J g9 0 w20)))))))) ∧
            (∃ (g9 : Nat) (w21 : World), (Instr.alloc 22 true (.tuple #[])).run Tryz.prog w2 = .ok (.pointer (some ⟨g9, 0, none⟩)) w21 ∧
              (∃ (t22a : Option Addr) (t22n : Nat) (t22c : Nat) (w22 : World), (Instr.buildSlice 23 3 #[(0, (.slice t19a t19n t19c)), (1, (.slice a2a a2n a2c)), (2, (.slice a3a a3n a3c))]).run Tryz.prog w21 = .ok (.slice t22a t22n t22c) w22 ∧
                (Calls Tryz.prog 105 #[(.slice t22a t22n t22c)] w22 fun (e23 : Ending) (w23 : World) => ∃ (t23a : Option Addr) (t23n : Nat) (t23c : Nat), e23 = .returned (.slice t23a t23n t23c) ∧
                  (∃ (t24a : Option Addr) (t24n : Nat) (t24c : Nat) (w24 : World), (Instr.buildSlice 23 1 #[(0, (.slice t23a t23n t23c))]).run Tryz.prog w23 = .ok (.slice t24a t24n t24c) w24 ∧
                    (Calls Tryz.prog 101 #[(.slice (some ⟨g4, 64, none⟩) (32) 32), (.slice t24a t24n t24c)] w24 fun (e25 : Ending) (w25 : World) => ∃ (t25 : Array Value), e25 = .returned (.agg t25) ∧
                      (∃ w26 : World, (Instr.storeAt 22 (.pointer (some ⟨g9, 0, none⟩)) (.agg t25)).run Tryz.prog w25 = .ok () w26 ∧
                        (J g9 0 w26))))))))) ∧
        (∃ (g9 : Nat) (w27 : World), (Instr.alloc 22 true (.tuple #[])).run Tryz.prog w1.drew = .ok (.pointer (some ⟨g9, 0, none⟩)) w27 ∧
          (∃ (t19a : Option Addr) (t19n : Nat) (t19c : Nat) (w28 : World), (Instr.buildSlice 33 1 #[(0, (.int .u8 a1))]).run Tryz.prog w27 = .ok (.slice t19a t19n t19c) w28 ∧
            (∃ (t22a : Option Addr) (t22n : Nat) (t22c : Nat) (w29 : World), (Instr.buildSlice 23 3 #[(0, (.slice t19a t19n t19c)), (1, (.slice a2a a2n a2c)), (2, (.slice a3a a3n a3c))]).run Tryz.prog w28 = .ok (.slice t22a t22n t22c) w29 ∧
              (Calls Tryz.prog 105 #[(.slice t22a t22n t22c)] w29 fun (e23 : Ending) (w30 : World) => ∃ (t23a : Option Addr) (t23n : Nat) (t23c : Nat), e23 = .returned (.slice t23a t23n t23c) ∧
                (∃ (t24a : Option Addr) (t24n : Nat) (t24c : Nat) (w31 : World), (Instr.buildSlice 23 1 #[(0, (.slice t23a t23n t23c))]).run Tryz.prog w30 = .ok (.slice t24a t24n t24c) w31 ∧
                  (Calls Tryz.prog 101 #[(.slice (some ⟨g4, 64, none⟩) (32) 32), (.slice t24a t24n t24c)] w31 fun (e25 : Ending) (w32 : World) => ∃ (t25 : Array Value), e25 = .returned (.agg t25) ∧
                    (∃ w33 : World, (Instr.storeAt 22 (.pointer (some ⟨g9, 0, none⟩)) (.agg t25)).run Tryz.prog w32 = .ok () w33 ∧
                      (J g9 0 w33)))))))))) ∧
    (∀ (x9b : Nat) (x9o : Nat), ∀ w34 : World, J x9b x9o w34 →
      (∃ (t26 : Array Value), (Instr.build 187 #[]).run Tryz.prog w34 = .ok (.agg t26) w34 ∧
        (∃ (g10 : Nat) (w35 : World), (Instr.alloc 187 true (.tuple #[])).run Tryz.prog w34 = .ok (.pointer (some ⟨g10, 0, none⟩)) w35 ∧
          (∃ w36 : World, (Instr.storeAt 187 (.pointer (some ⟨g10, 0, none⟩)) (.agg t26)).run Tryz.prog w35 = .ok () w36 ∧
            (∃ (I : Int → World → Prop) (μ : Int → World → Nat), I 0 w36 ∧
              (∀ (x11 : Int), ∀ w37 : World, I x11 w37 →
                (((decide (x11 < (12 : Int))) = true →
                    (0 ≤ x11 ∧ x11 < (32 : Int) ∧
                      (∃ (t34 : Int), (Instr.loadAt 5 (.pointer (some ⟨x9b, x9o + Int.toNat x11 * 1, none⟩))).run Tryz.prog w37 = .ok (.int .u8 t34) w37 ∧
                        (0 ≤ x11 ∧ x11 < (12 : Int) ∧
                          (∃ w38 : World, (Instr.storeAt 5 (.pointer (some ⟨g10, 0 + Int.toNat x11 * 1, none⟩)) (.int .u8 t34)).run Tryz.prog w37 = .ok () w38 ∧
                            (I (IntKind.wrap .i64 (x11 + (1 : Int))) w38 ∧ μ (IntKind.wrap .i64 (x11 + (1 : Int))) w38 < μ x11 w37)))))) ∧
                  ((decide (x11 < (12 : Int))) = false →
                    (∃ (t38 : Array Value), (Instr.loadAt 22 (.pointer (some ⟨g4, 0, none⟩))).run Tryz.prog w37 = .ok (.agg t38) w37 ∧
                      (∃ (t39 : Array Value), (Instr.loadAt 187 (.pointer (some ⟨g10, 0, none⟩))).run Tryz.prog w37 = .ok (.agg t39) w37 ∧
                        (Calls Tryz.prog 106 #[(.agg t38), (.agg t39), (.int .i64 0), (.slice a3a a3n a3c)] w37 fun (e41 : Ending) (w39 : World) => ∃ (t41_0a : Option Addr) (t41_0n : Nat) (t41_0c : Nat) (t41_1 : Int), e41 = .returned (.tuple #[(.slice t41_0a t41_0n t41_0c), (.int .i64 t41_1)]) ∧
                          (∃ J_1 : Nat → Nat → World → Prop, (∃ S : World → Prop, S w39.drew ∧
                              (0 ≤ ((12 : Nat) : Int) ∧ ((12 : Nat) : Int) ≤ ((12 : Nat) : Int) ∧
                                (∃ (t44 : Array Value), (∀ w' : World, S w' → (Instr.loadAt 28 (.pointer (some ⟨g4, 0, none⟩))).run Tryz.prog w' = .ok (.agg t44) w') ∧
                                  ((Calls Tryz.prog 107 #[(.agg t44), (.int .u8 a1), (.slice a2a a2n a2c), (.slice (some ⟨g10, 0, none⟩) (12) 12), (.slice t41_0a t41_0n t41_0c)] w39.drew fun (e49 : Ending) (w40 : World) => ∃ (t49 : Array Value), e49 = .returned (.agg t49) ∧
                                      (∃ S_1 : World → Prop, (∀ w' : World, S_1 w' → S w') ∧ S_1 w40 ∧
                                        (∃ (g14 : Nat) (w41 : World), (Instr.alloc 22 true (.tuple #[])).run Tryz.prog w40 = .ok (.pointer (some ⟨g14, 0, none⟩)) w41 ∧
                                          (∃ S_2 : World → Prop, (∀ w' : World, S_2 w' → S_1 w') ∧ S_2 w41 ∧
                                            (∃ w42 : World, (Instr.storeAt 22 (.pointer (some ⟨g14, 0, none⟩)) (.agg t49)).run Tryz.prog w41 = .ok () w42 ∧
                                              (J_1 g14 0 w42)))))) ∧
                                    (∃ (g14 : Nat) (w43 : World), (Instr.alloc 22 true (.tuple #[])).run Tryz.prog w39.drew = .ok (.pointer (some ⟨g14, 0, none⟩)) w43 ∧
                                      (∃ S_1 : World → Prop, (∀ w' : World, S_1 w' → S w') ∧ S_1 w43 ∧
                                        (Calls Tryz.prog 107 #[(.agg t44), (.int .u8 a1), (.slice a2a a2n a2c), (.slice (some ⟨g10, 0, none⟩) (12) 12), (.slice t41_0a t41_0n t41_0c)] w43 fun (e49 : Ending) (w44 : World) => ∃ (t49 : Array Value), e49 = .returned (.agg t49) ∧
                                          (∃ S_2 : World → Prop, (∀ w' : World, S_2 w' → S_1 w') ∧ S_2 w44 ∧
                                            (∃ w45 : World, (Instr.storeAt 22 (.pointer (some ⟨g14, 0, none⟩)) (.agg t49)).run Tryz.prog w44 = .ok () w45 ∧
                                              (J_1 g14 0 w45)))))))))) ∧
                            (∀ (x14b : Nat) (x14o : Nat), ∀ w46 : World, J_1 x14b x14o w46 →
                              (∃ (t51a : Option Addr) (t51n : Nat) (t51c : Nat) (w47 : World), (Instr.buildSlice 33 1 #[(0, (.int .u8 a1))]).run Tryz.prog w46 = .ok (.slice t51a t51n t51c) w47 ∧
                                (0 ≤ ((12 : Nat) : Int) ∧ ((12 : Nat) : Int) ≤ ((12 : Nat) : Int) ∧
                                  (∃ (t53a : Option Addr) (t53n : Nat) (t53c : Nat) (w48 : World), (Builtin.append_ #[33, 33] 33 #[(.slice t51a t51n t51c), (.slice (some ⟨g10, 0, none⟩) (12) 12)]).run Tryz.prog w47 = .ok (.slice t53a t53n t53c) w48 ∧
                                    (∃ (t56a : Option Addr) (t56n : Nat) (t56c : Nat) (w49 : World), (Builtin.append_ #[33, 33] 33 #[(.slice t53a t53n t53c), (.slice t41_0a t41_0n t41_0c)]).run Tryz.prog w48 = .ok (.slice t56a t56n t56c) w49 ∧
                                      (0 ≤ ((32 : Nat) : Int) ∧ ((32 : Nat) : Int) ≤ ((32 : Nat) : Int) ∧
                                        (∃ (t59a : Option Addr) (t59n : Nat) (t59c : Nat) (w50 : World), (Builtin.append_ #[33, 33] 33 #[(.slice t56a t56n t56c), (.slice (some ⟨x14b, x14o, none⟩) (32) 32)]).run Tryz.prog w49 = .ok (.slice t59a t59n t59c) w50 ∧
                                          (R (.returned (.slice t59a t59n t59c)) w50)))))))))))))))))))))) : Calls Tryz.prog 76 #[(.agg a0), (.int .u8 a1), (.slice a2a a2n a2c), (.slice a3a a3n a3c)] w R :=
  calls_of_ev (args := [(.agg a0), (.int .u8 a1), (.slice a2a a2n a2c), (.slice a3a a3n a3c)])
    (tc := .seq (.reg (.op .bx (.op .p (.nil)))) (.seq (.join [9, 16, 17, 18, 19, 20, 21, 22, 23, 24, 25] [9] [.ptr] (.draw (.tk 0 .p (.tk 1 .sl (.tk 2 .p (.tk 4 .p (.tk 5 .p (.two 3 (.r (.slice)) (.two 6 (.r (.slice)) (.two 7 (.cl [.slice]) (.two 8 (.r (.slice)) (.two 9 (.cl [.agg]) (.go 10 .bx (.go 11 .u (.nil))) 10 .bx (.go 9 (.cl [.agg]) (.go 11 .u (.nil)))) 10 .bx (.go 8 (.r (.slice)) (.go 9 (.cl [.agg]) (.go 11 .u (.nil))))) 10 .bx (.go 7 (.cl [.slice]) (.go 8 (.r (.slice)) (.go 9 (.cl [.agg]) (.go 11 .u (.nil)))))) 10 .bx (.go 6 (.r (.slice)) (.go 7 (.cl [.slice]) (.go 8 (.r (.slice)) (.go 9 (.cl [.agg]) (.go 11 .u (.nil))))))) 10 .bx (.go 3 (.r (.slice)) (.go 6 (.r (.slice)) (.go 7 (.cl [.slice]) (.go 8 (.r (.slice)) (.go 9 (.cl [.agg]) (.go 11 .u (.nil))))))))))))) [0, 1, 2, 3, 4, 5, 6, 7, 8, 9, 10, 11])) (.seq (.reg (.op (.ld (.agg)) (.op .bx (.op .u (.nil))))) (.seq (.seq (.reg (.op .p (.nil))) (.blk (.loop [11, 27, 28, 29, 30, 31, 32, 33, 34, 35] [11] [.int .i64] (.seq (.seq (.reg (.op .p (.op .p (.nil)))) (.cond (.leaf) (.leaf))) (.seq (.blk (.reg (.op .p (.op .p (.op .ix (.op (.ld (.int .u8)) (.op .ix (.op .u (.nil))))))))) (.reg (.op .p (.op .p (.op .p (.nil)))))))))) (.seq (.reg (.op .p (.op (.ld (.agg)) (.op (.ld (.agg)) (.op .p (.op (.cl [.slice, .int .i64]) (.op .p (.op .p (.op .p (.op .p (.op .p (.nil)))))))))))) (.seq (.join [14, 44, 45, 46, 47, 48, 49] [14] [.ptr] (.drawS (.tk 1 .p (.tk 2 .p (.tk 3 .sl (.tk 4 .p (.ts 0 (.agg) (.two 5 (.cl [.agg]) (.go 6 .bx (.go 7 .u (.nil))) 6 .bx (.go 5 (.cl [.agg]) (.go 7 .u (.nil))))))))) [7])) (.seq (.reg (.op .p (.op (.r (.slice)) (.op .sl (.op (.r (.slice)) (.op .p (.nil))))))) (.seq (.reg (.op .p (.op .p (.op (.r (.slice)) (.op .p (.nil)))))) (.seq (.reg (.op .p (.op .sl (.op (.r (.slice)) (.op .p (.nil)))))) (.leaf))))))))))
    (by kernel_rfl) Tryz.func76 (by kernel_rfl) (by kernel_rfl) (by kernel_rfl) (by kernel_rfl) h

end Go.Proofs.YtmdandkoajocpaaGreatDoor
