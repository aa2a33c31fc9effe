/- Verification conditions of functions, printed by the session's own program vc.py: out of each, Calls (conditions: none). -/
import Derived.Test.YtlhhmoljlmmnoaaDoorRows
import Derived.Test.YtlhhmoljlmmnoaaDoorSxRun
namespace Go.Proofs.YtlhhmoljlmmnoaaDoor
open Go Go.Proofs.YtlhhmoljlmmnoaaDoor.Sx

set_option maxRecDepth 100000 in
theorem amphoralaw05_alive_vc  (w : World) (R : Ending → World → Prop) (h :
  ∃ (t7 : Array Value), (Instr.build 22 #[(0, (.int .u8 1)), (1, (.int .u8 2)), (2, (.int .u8 3))]).run Tryd.prog w = .ok (.agg t7) w ∧
  (Calls Tryd.prog 14 #[(.agg t7)] w fun (e8 : Ending) (w1 : World) => ∃ (t8 : Array Value), e8 = .returned (.agg t8) ∧
    (∃ (g1 : Nat) (w2 : World), (Instr.alloc 24 true (.tuple #[])).run Tryd.prog w1 = .ok (.pointer (some ⟨g1, 0, none⟩)) w2 ∧
      (∃ w3 : World, (Instr.storeAt 24 (.pointer (some ⟨g1, 0, none⟩)) (.agg t8)).run Tryd.prog w2 = .ok () w3 ∧
        (∃ (t9 : Array Value), (Instr.loadAt 24 (.pointer (some ⟨g1, 0, none⟩))).run Tryd.prog w3 = .ok (.agg t9) w3 ∧
          (∃ (t10a : Option Addr) (t10n : Nat) (t10c : Nat) (w4 : World), (Instr.buildSlice 25 1 #[(0, (.int .u8 99))]).run Tryd.prog w3 = .ok (.slice t10a t10n t10c) w4 ∧
            (∃ (t11a : Option Addr) (t11n : Nat) (t11c : Nat) (w5 : World), (convert 25 25 (.slice t10a t10n t10c)).run Tryd.prog w4 = .ok (.slice t11a t11n t11c) w5 ∧
              (∃ (t12a : Option Addr) (t12n : Nat) (t12c : Nat) (w6 : World), (Instr.buildSlice 25 5 #[(0, (.int .u8 104)), (1, (.int .u8 101)), (2, (.int .u8 108)), (3, (.int .u8 108)), (4, (.int .u8 111))]).run Tryd.prog w5 = .ok (.slice t12a t12n t12c) w6 ∧
                (∃ (t13a : Option Addr) (t13n : Nat) (t13c : Nat) (w7 : World), (convert 25 25 (.slice t12a t12n t12c)).run Tryd.prog w6 = .ok (.slice t13a t13n t13c) w7 ∧
                  (Calls Tryd.prog 12 #[(.agg t9), (.int .u8 2), (.slice t11a t11n t11c), (.slice t13a t13n t13c)] w7 fun (e14 : Ending) (w8 : World) => ∃ (t14a : Option Addr) (t14n : Nat) (t14c : Nat), e14 = .returned (.slice t14a t14n t14c) ∧
                    (∃ (t16 : Array Value), (Instr.loadAt 24 (.pointer (some ⟨g1, 0, none⟩))).run Tryd.prog w8 = .ok (.agg t16) w8 ∧
                      (∃ (t17a : Option Addr) (t17n : Nat) (t17c : Nat) (w9 : World), (Instr.buildSlice 25 1 #[(0, (.int .u8 99))]).run Tryd.prog w8 = .ok (.slice t17a t17n t17c) w9 ∧
                        (∃ (t18a : Option Addr) (t18n : Nat) (t18c : Nat) (w10 : World), (convert 25 25 (.slice t17a t17n t17c)).run Tryd.prog w9 = .ok (.slice t18a t18n t18c) w10 ∧
                          (Calls Tryd.prog 13 #[(.agg t16), (.int .u8 2), (.slice t18a t18n t18c), (.slice t14a t14n t14c)] w10 fun (e20 : Ending) (w11 : World) => ∃ (t20_0a : Option Addr) (t20_0n : Nat) (t20_0c : Nat) (t20_1 : Value), e20 = .returned (.tuple #[(.slice t20_0a t20_0n t20_0c), t20_1]) ∧
                            (∃ (t24 : Array Value), (Instr.loadAt 24 (.pointer (some ⟨g1, 0, none⟩))).run Tryd.prog w11 = .ok (.agg t24) w11 ∧
                              (∃ (t25a : Option Addr) (t25n : Nat) (t25c : Nat) (w12 : World), (Instr.buildSlice 25 1 #[(0, (.int .u8 99))]).run Tryd.prog w11 = .ok (.slice t25a t25n t25c) w12 ∧
                                (∃ (t26a : Option Addr) (t26n : Nat) (t26c : Nat) (w13 : World), (convert 25 25 (.slice t25a t25n t25c)).run Tryd.prog w12 = .ok (.slice t26a t26n t26c) w13 ∧
                                  (Calls Tryd.prog 13 #[(.agg t24), (.int .u8 3), (.slice t26a t26n t26c), (.slice t14a t14n t14c)] w13 fun (e28 : Ending) (w14 : World) => ∃ (t28_0a : Option Addr) (t28_0n : Nat) (t28_0c : Nat) (t28_1 : Value), e28 = .returned (.tuple #[(.slice t28_0a t28_0n t28_0c), t28_1]) ∧
                                    (((((t14n : Nat) : Int) == (50 : Int)) = true →
                                        (∃ (t36 : Bool), (eqlS .eql 36 (.tmp 35) (.const .nilIface) t20_1 .nilIface).run Tryd.prog w14 = .ok (.bool t36) w14 ∧
                                          ((t36 = true →
                                              (∃ (t40 : ByteArray), (convert 25 9 (.slice t20_0a t20_0n t20_0c)).run Tryd.prog w14 = .ok (.string t40) w14 ∧
                                                (((t40.toList == (ByteArray.mk #[104, 101, 108, 108, 111]).toList) = true →
                                                    (∃ (t46 : Bool), (eqlS .eql 36 (.tmp 44) (.tmp 45) t28_1 (.iface 39 (.int .i64 10))).run Tryd.prog w14 = .ok (.bool t46) w14 ∧
                                                      ((t46 = true →
                                                          (0 ≤ (13 : Int) ∧ (13 : Int) ≤ (18 : Int) ∧ (18 : Int) ≤ ((t14c : Nat) : Int) ∧ ∀ t50a : Option Addr, SubA 1 t14a 13 t14c t50a →
                                                            (∃ (t51 : ByteArray), (convert 25 9 (.slice t50a 5 (t14c - 13))).run Tryd.prog w14 = .ok (.string t51) w14 ∧
                                                              (R (.returned (.bool (!(t51.toList == (ByteArray.mk #[104, 101, 108, 108, 111]).toList)))) w14)))) ∧
                                                        (t46 = false →
                                                          (R (.returned (.bool false)) w14))))) ∧
                                                  ((t40.toList == (ByteArray.mk #[104, 101, 108, 108, 111]).toList) = false →
                                                    (R (.returned (.bool false)) w14))))) ∧
                                            (t36 = false →
                                              (R (.returned (.bool false)) w14))))) ∧
                                      ((((t14n : Nat) : Int) == (50 : Int)) = false →
                                        (R (.returned (.bool false)) w14))))))))))))))))))))) : Calls Tryd.prog 10 #[] w R :=
  calls_of_ev (args := [])
    (tc := .seq (.reg (.op .p (.nil))) (.seq (.reg (.op (.ld (.agg)) (.op (.cl [.agg]) (.op .bx (.op .u (.nil)))))) (.seq (.reg (.op (.ld (.agg)) (.op (.r (.slice)) (.op (.r (.slice)) (.op (.r (.slice)) (.op (.r (.slice)) (.op (.cl [.slice]) (.op .p (.nil))))))))) (.seq (.reg (.op (.ld (.agg)) (.op (.r (.slice)) (.op (.r (.slice)) (.op .p (.op (.cl [.slice, .val]) (.op .p (.op .p (.op .p (.op .p (.op .p (.nil)))))))))))) (.seq (.reg (.op (.ld (.agg)) (.op (.r (.slice)) (.op (.r (.slice)) (.op .p (.op (.cl [.slice, .val]) (.op .p (.op .p (.op .p (.op .p (.op .p (.nil)))))))))))) (.seq (.reg (.op .p (.op .p (.op .p (.op .p (.sp 34 (.op .p (.op (.ld (.bool)) (.op .p (.op .p (.sp 38 (.op .p (.op (.ld (.str)) (.op .p (.op .p (.op .p (.sp 43 (.op .p (.op .p (.op (.ld (.bool)) (.op .p (.op .p (.sp 48 (.op .p (.op .sl (.op (.ld (.str)) (.op .p (.op .p (.op .p (.nil))))))) (.op .p (.op .p (.op .p (.op .p (.op .p (.op .p (.nil))))))))))))) (.op .p (.op .p (.op .p (.op .p (.op .p (.op .p (.op .p (.op .p (.op .p (.op .p (.op .p (.nil)))))))))))))))))) (.op .p (.op .p (.op .p (.op .p (.op .p (.op .p (.op .p (.op .p (.op .p (.op .p (.op .p (.op .p (.op .p (.op .p (.op .p (.op .p (.nil)))))))))))))))))))))) (.op .p (.op .p (.op .p (.op .p (.op .p (.op .p (.op .p (.op .p (.op .p (.op .p (.op .p (.op .p (.op .p (.op .p (.op .p (.op .p (.op .p (.op .p (.op .p (.op .p (.nil))))))))))))))))))))))))))) (.leaf)))))))
    (by kernel_rfl) Tryd.func10 (by kernel_rfl) (by kernel_rfl) (by kernel_rfl) (by kernel_rfl) h

set_option maxRecDepth 100000 in
theorem amphoralaw05_large_vc (a0a : Option Addr) (a0n : Nat) (a0c : Nat) (w : World) (R : Ending → World → Prop) (h :
  Calls Tryd.prog 28 #[(.slice a0a a0n a0c), (.int .i64 1048576)] w fun (e4 : Ending) (w1 : World) => ∃ (t4 : Int), e4 = .returned (.int .i64 t4) ∧
  (R (.returned (.bool (decide (t4 > (8192 : Int))))) w1)) : Calls Tryd.prog 11 #[(.slice a0a a0n a0c)] w R :=
  calls_of_ev (args := [(.slice a0a a0n a0c)])
    (tc := .seq (.reg (.op .p (.nil))) (.seq (.reg (.op .p (.op (.cl [.int .i64]) (.op .p (.op .p (.nil)))))) (.leaf)))
    (by kernel_rfl) Tryd.func11 (by kernel_rfl) (by kernel_rfl) (by kernel_rfl) (by kernel_rfl) h

set_option maxRecDepth 100000 in
theorem amphoralaw05_opens_vc (a0 : Array Value) (a1 : Int) (a2a : Option Addr) (a2n : Nat) (a2c : Nat) (a3a : Option Addr) (a3n : Nat) (a3c : Nat) (w : World) (R : Ending → World → Prop) (h :
  ∃ (g4 : Nat) (w1 : World), (Instr.box 24 (.agg a0)).run Tryd.prog w = .ok (.pointer (some ⟨g4, 0, none⟩)) w1 ∧
  (Calls Tryd.prog 10 #[] w1 fun (e15 : Ending) (w2 : World) => ∃ (t15 : Bool), e15 = .returned (.bool t15) ∧
    (((!t15) = true →
        (R (.returned (.bool false)) w2)) ∧
      ((!t15) = false →
        (∃ (t19a : Option Addr) (t19n : Nat) (t19c : Nat) (w3 : World), (Instr.buildSlice 43 2 #[(0, (.slice a2a a2n a2c)), (1, (.slice a3a a3n a3c))]).run Tryd.prog w2 = .ok (.slice t19a t19n t19c) w3 ∧
          (Calls Tryd.prog 11 #[(.slice t19a t19n t19c)] w3 fun (e20 : Ending) (w4 : World) => ∃ (t20 : Bool), e20 = .returned (.bool t20) ∧
            ((t20 = true →
                (R (.returned (.bool true)) w4)) ∧
              (t20 = false →
                (Calls Tryd.prog 17 #[(.slice a2a a2n a2c)] w4 fun (e22 : Ending) (w5 : World) => ∃ (t22a : Option Addr) (t22n : Nat) (t22c : Nat), e22 = .returned (.slice t22a t22n t22c) ∧
                  (Calls Tryd.prog 17 #[(.slice a3a a3n a3c)] w5 fun (e24 : Ending) (w6 : World) => ∃ (t24a : Option Addr) (t24n : Nat) (t24c : Nat), e24 = .returned (.slice t24a t24n t24c) ∧
                    (∃ (t26 : Array Value), (Instr.loadAt 24 (.pointer (some ⟨g4, 0, none⟩))).run Tryd.prog w6 = .ok (.agg t26) w6 ∧
                      (Calls Tryd.prog 13 #[(.agg t26), (.int .u8 a1), (.slice t22a t22n t22c), (.slice t24a t24n t24c)] w6 fun (e30 : Ending) (w7 : World) => ∃ (t30_0a : Option Addr) (t30_0n : Nat) (t30_0c : Nat) (t30_1 : Value), e30 = .returned (.tuple #[(.slice t30_0a t30_0n t30_0c), t30_1]) ∧
                        (∃ (t34 : Array Value), (Instr.loadAt 24 (.pointer (some ⟨g4, 0, none⟩))).run Tryd.prog w7 = .ok (.agg t34) w7 ∧
                          (Calls Tryd.prog 27 #[(.agg t34), (.int .u8 a1), (.slice a2a a2n a2c), (.slice a3a a3n a3c)] w7 fun (e38 : Ending) (w8 : World) => ∃ (t38_0a : Option Addr) (t38_0n : Nat) (t38_0c : Nat) (t38_1 : Int), e38 = .returned (.tuple #[(.slice t38_0a t38_0n t38_0c), (.int .i64 t38_1)]) ∧
                            (∃ (t42 : ByteArray), (convert 25 9 (.slice t30_0a t30_0n t30_0c)).run Tryd.prog w8 = .ok (.string t42) w8 ∧
                              (∃ (t44 : ByteArray), (convert 25 9 (.slice t38_0a t38_0n t38_0c)).run Tryd.prog w8 = .ok (.string t44) w8 ∧
                                (((t42.toList == t44.toList) = true →
                                    (Calls Tryd.prog 26 #[t30_1] w8 fun (e48 : Ending) (w9 : World) => ∃ (t48 : Int), e48 = .returned (.int .i64 t48) ∧
                                      (((t48 == t38_1) = true →
                                          (Calls Tryd.prog 21 #[(.slice t22a t22n t22c), (.slice a2a a2n a2c)] w9 fun (e55 : Ending) (w10 : World) => ∃ (t55 : Bool), e55 = .returned (.bool t55) ∧
                                            ((t55 = true →
                                                (Calls Tryd.prog 21 #[(.slice t24a t24n t24c), (.slice a3a a3n a3c)] w10 fun (e60 : Ending) (w11 : World) => ∃ (t60 : Bool), e60 = .returned (.bool t60) ∧
                                                  (R (.returned (.bool t60)) w11))) ∧
                                              (t55 = false →
                                                (R (.returned (.bool false)) w10))))) ∧
                                        ((t48 == t38_1) = false →
                                          (R (.returned (.bool false)) w9))))) ∧
                                  ((t42.toList == t44.toList) = false →
                                    (R (.returned (.bool false)) w8))))))))))))))))))) : Calls Tryd.prog 9 #[(.agg a0), (.int .u8 a1), (.slice a2a a2n a2c), (.slice a3a a3n a3c)] w R :=
  calls_of_ev (args := [(.agg a0), (.int .u8 a1), (.slice a2a a2n a2c), (.slice a3a a3n a3c)])
    (tc := .seq (.reg (.op .bx (.op .p (.nil)))) (.seq (.seq (.reg (.op (.cl [.bool]) (.op .p (.nil)))) (.cond (.seq (.reg (.op .p (.nil))) (.leaf)) (.leaf))) (.seq (.seq (.reg (.op .p (.op .p (.op (.r (.slice)) (.op (.cl [.bool]) (.nil)))))) (.cond (.seq (.reg (.op .p (.nil))) (.leaf)) (.leaf))) (.seq (.reg (.op .p (.op (.cl [.slice]) (.op .p (.op (.cl [.slice]) (.op .p (.op .p (.nil)))))))) (.seq (.reg (.op (.ld (.agg)) (.op .p (.op .p (.op .p (.op (.cl [.slice, .val]) (.op .p (.op .p (.op .p (.op .p (.op .p (.nil)))))))))))) (.seq (.reg (.op (.ld (.agg)) (.op .p (.op .p (.op .p (.op (.cl [.slice, .int .i64]) (.op .p (.op .p (.op .p (.op .p (.op .p (.nil)))))))))))) (.seq (.reg (.op .p (.op (.ld (.str)) (.op .p (.op (.ld (.str)) (.op .p (.op .p (.sp 46 (.op .p (.op (.cl [.int .i64]) (.op .p (.op .p (.op .p (.op .p (.sp 52 (.op .p (.op .p (.op (.cl [.bool]) (.op .p (.op .p (.sp 57 (.op .p (.op .p (.op (.cl [.bool]) (.op .p (.op .p (.nil)))))) (.op .p (.op .p (.op .p (.op .p (.op .p (.nil)))))))))))) (.op .p (.op .p (.op .p (.op .p (.op .p (.op .p (.op .p (.op .p (.op .p (.op .p (.nil)))))))))))))))))) (.op .p (.op .p (.op .p (.op .p (.op .p (.op .p (.op .p (.op .p (.op .p (.op .p (.op .p (.op .p (.op .p (.op .p (.op .p (.op .p (.nil))))))))))))))))))))))))) (.leaf))))))))
    (by kernel_rfl) Tryd.func9 (by kernel_rfl) (by kernel_rfl) (by kernel_rfl) (by kernel_rfl) h

set_option maxRecDepth 100000 in
theorem amphoralaw05_SealTakes_vc (a0 : Array Value) (w : World) (R : Ending → World → Prop) (h :
  ∃ (g1 : Nat) (w1 : World), (Instr.box 27 (.agg a0)).run Tryd.prog w = .ok (.pointer (some ⟨g1, 0, none⟩)) w1 ∧
  (∃ (t4 : Array Value), (Instr.loadAt 24 (.pointer (some ⟨g1, 0, none⟩))).run Tryd.prog w1 = .ok (.agg t4) w1 ∧
    (∃ (t6 : Int), (Instr.loadAt 5 (.pointer (some ⟨g1, 96, none⟩))).run Tryd.prog w1 = .ok (.int .u8 t6) w1 ∧
      (∃ (t8a : Option Addr) (t8n : Nat) (t8c : Nat), (Instr.loadAt 25 (.pointer (some ⟨g1, 97, none⟩))).run Tryd.prog w1 = .ok (.slice t8a t8n t8c) w1 ∧
        (∃ (t10a : Option Addr) (t10n : Nat) (t10c : Nat), (Instr.loadAt 25 (.pointer (some ⟨g1, 98, none⟩))).run Tryd.prog w1 = .ok (.slice t10a t10n t10c) w1 ∧
          (Calls Tryd.prog 9 #[(.agg t4), (.int .u8 t6), (.slice t8a t8n t8c), (.slice t10a t10n t10c)] w1 fun (e11 : Ending) (w2 : World) => ∃ (t11 : Bool), e11 = .returned (.bool t11) ∧
            (R (.returned (.bool t11)) w2))))))) : Calls Tryd.prog 3 #[(.agg a0)] w R :=
  calls_of_ev (args := [(.agg a0)])
    (tc := .seq (.reg (.op .bx (.op .p (.nil)))) (.seq (.reg (.op .p (.op (.ld (.agg)) (.op .p (.op (.ld (.int .u8)) (.op .p (.op (.ld (.slice)) (.op .p (.op (.ld (.slice)) (.op (.cl [.bool]) (.op .p (.nil)))))))))))) (.leaf)))
    (by kernel_rfl) Tryd.func3 (by kernel_rfl) (by kernel_rfl) (by kernel_rfl) (by kernel_rfl) h

set_option maxRecDepth 100000 in
theorem amphoralaw05_SealBack_vc (a0 : Array Value) (a1 : Array Value) (a2a : Option Addr) (a2n : Nat) (a2c : Nat) (w : World) (R : Ending → World → Prop) (h :
  ∃ (g3 : Nat) (w1 : World), (Instr.box 24 (.agg a0)).run Tryd.prog w = .ok (.pointer (some ⟨g3, 0, none⟩)) w1 ∧
  (∃ (g4 : Nat) (w2 : World), (Instr.box 31 (.agg a1)).run Tryd.prog w1 = .ok (.pointer (some ⟨g4, 0, none⟩)) w2 ∧
    (Calls Tryd.prog 10 #[] w2 fun (e14 : Ending) (w3 : World) => ∃ (t14 : Bool), e14 = .returned (.bool t14) ∧
      (((!t14) = true →
          (R (.returned (.bool false)) w3)) ∧
        ((!t14) = false →
          (∃ (t17a : Option Addr) (t17n : Nat) (t17c : Nat), (Instr.loadAt 25 (.pointer (some ⟨g4, 33, none⟩))).run Tryd.prog w3 = .ok (.slice t17a t17n t17c) w3 ∧
            (∃ (t19a : Option Addr) (t19n : Nat) (t19c : Nat), (Instr.loadAt 25 (.pointer (some ⟨g4, 34, none⟩))).run Tryd.prog w3 = .ok (.slice t19a t19n t19c) w3 ∧
              (∃ (t21a : Option Addr) (t21n : Nat) (t21c : Nat) (w4 : World), (Instr.buildSlice 43 3 #[(0, (.slice t17a t17n t17c)), (1, (.slice t19a t19n t19c)), (2, (.slice a2a a2n a2c))]).run Tryd.prog w3 = .ok (.slice t21a t21n t21c) w4 ∧
                (Calls Tryd.prog 11 #[(.slice t21a t21n t21c)] w4 fun (e22 : Ending) (w5 : World) => ∃ (t22 : Bool), e22 = .returned (.bool t22) ∧
                  ((t22 = true →
                      (R (.returned (.bool true)) w5)) ∧
                    (t22 = false →
                      (∃ (t23 : Array Value), (Instr.loadAt 24 (.pointer (some ⟨g3, 0, none⟩))).run Tryd.prog w5 = .ok (.agg t23) w5 ∧
                        (∃ (t25 : Int), (Instr.loadAt 5 (.pointer (some ⟨g4, 32, none⟩))).run Tryd.prog w5 = .ok (.int .u8 t25) w5 ∧
                          (∃ (t27a : Option Addr) (t27n : Nat) (t27c : Nat), (Instr.loadAt 25 (.pointer (some ⟨g4, 33, none⟩))).run Tryd.prog w5 = .ok (.slice t27a t27n t27c) w5 ∧
                            (∃ (t29a : Option Addr) (t29n : Nat) (t29c : Nat), (Instr.loadAt 25 (.pointer (some ⟨g4, 34, none⟩))).run Tryd.prog w5 = .ok (.slice t29a t29n t29c) w5 ∧
                              (Calls Tryd.prog 12 #[(.agg t23), (.int .u8 t25), (.slice t27a t27n t27c), (.slice t29a t29n t29c)] w5 fun (e30 : Ending) (w6 : World) => ∃ (t30a : Option Addr) (t30n : Nat) (t30c : Nat), e30 = .returned (.slice t30a t30n t30c) ∧
                                (∃ (t32 : Array Value), (Instr.loadAt 24 (.pointer (some ⟨g3, 0, none⟩))).run Tryd.prog w6 = .ok (.agg t32) w6 ∧
                                  (∃ (t34 : Int), (Instr.loadAt 5 (.pointer (some ⟨g4, 32, none⟩))).run Tryd.prog w6 = .ok (.int .u8 t34) w6 ∧
                                    (∃ (t36a : Option Addr) (t36n : Nat) (t36c : Nat), (Instr.loadAt 25 (.pointer (some ⟨g4, 33, none⟩))).run Tryd.prog w6 = .ok (.slice t36a t36n t36c) w6 ∧
                                      (Calls Tryd.prog 13 #[(.agg t32), (.int .u8 t34), (.slice t36a t36n t36c), (.slice t30a t30n t30c)] w6 fun (e38 : Ending) (w7 : World) => ∃ (t38_0a : Option Addr) (t38_0n : Nat) (t38_0c : Nat) (t38_1 : Value), e38 = .returned (.tuple #[(.slice t38_0a t38_0n t38_0c), t38_1]) ∧
                                        (∃ (t42 : Array Value), (Instr.loadAt 24 (.pointer (some ⟨g3, 0, none⟩))).run Tryd.prog w7 = .ok (.agg t42) w7 ∧
                                          (∃ (t44 : Int), (Instr.loadAt 5 (.pointer (some ⟨g4, 32, none⟩))).run Tryd.prog w7 = .ok (.int .u8 t44) w7 ∧
                                            (∃ (t47a : Option Addr) (t47n : Nat) (t47c : Nat), (Instr.loadAt 25 (.pointer (some ⟨g4, 33, none⟩))).run Tryd.prog w7 = .ok (.slice t47a t47n t47c) w7 ∧
                                              (Calls Tryd.prog 13 #[(.agg t42), (.int .u8 (IntKind.wrap .u8 (t44 + (1 : Int)))), (.slice t47a t47n t47c), (.slice t30a t30n t30c)] w7 fun (e49 : Ending) (w8 : World) => ∃ (t49_0a : Option Addr) (t49_0n : Nat) (t49_0c : Nat) (t49_1 : Value), e49 = .returned (.tuple #[(.slice t49_0a t49_0n t49_0c), t49_1]) ∧
                                                (∃ J : Bool → World → Prop, (∃ S : World → Prop, S w8.drew ∧
                                                    (∃ (t55a : Option Addr) (t55n : Nat) (t55c : Nat), (∀ w' : World, S w' → (Instr.loadAt 25 (.pointer (some ⟨g4, 34, none⟩))).run Tryd.prog w' = .ok (.slice t55a t55n t55c) w') ∧
                                                      (((((t30n : Nat) : Int) != (IntKind.wrap .i64 (((t55n : Nat) : Int) + (45 : Int)))) = true →
                                                          (J true w8.drew)) ∧
                                                        ((((t30n : Nat) : Int) != (IntKind.wrap .i64 (((t55n : Nat) : Int) + (45 : Int)))) = false →
                                                          (∃ (t61b t61o : Nat), t30a = some ⟨t61b, t61o, none⟩ ∧ 0 ≤ (0 : Int) ∧ (0 : Int) < ((t30n : Nat) : Int) ∧
                                                            (∃ (t62 : Int), (∀ w' : World, S w' → (Instr.loadAt 5 (.pointer (some ⟨t61b, t61o + Int.toNat (0 : Int) * 1, none⟩))).run Tryd.prog w' = .ok (.int .u8 t62) w') ∧
                                                              (∃ (t64 : Int), (∀ w' : World, S w' → (Instr.loadAt 5 (.pointer (some ⟨g4, 32, none⟩))).run Tryd.prog w' = .ok (.int .u8 t64) w') ∧
                                                                (((t62 != t64) = true →
                                                                    (J true w8.drew)) ∧
                                                                  ((t62 != t64) = false →
                                                                    (∃ (t69 : Bool), (∀ w' : World, S w' → (eqlS .neq 36 (.tmp 68) (.const .nilIface) t38_1 .nilIface).run Tryd.prog w' = .ok (.bool t69) w') ∧
                                                                      ((t69 = true →
                                                                          (J true w8.drew)) ∧
                                                                        (t69 = false →
                                                                          (∃ (t73 : ByteArray), (∀ w' : World, S w' → (convert 25 9 (.slice t38_0a t38_0n t38_0c)).run Tryd.prog w' = .ok (.string t73) w') ∧
                                                                            (∃ (t75a : Option Addr) (t75n : Nat) (t75c : Nat), (∀ w' : World, S w' → (Instr.loadAt 25 (.pointer (some ⟨g4, 34, none⟩))).run Tryd.prog w' = .ok (.slice t75a t75n t75c) w') ∧
                                                                              (∃ (t76 : ByteArray), (∀ w' : World, S w' → (convert 25 9 (.slice t75a t75n t75c)).run Tryd.prog w' = .ok (.string t76) w') ∧
                                                                                (((!(t73.toList == t76.toList)) = true →
                                                                                (J true w8.drew)) ∧
                                                                                ((!(t73.toList == t76.toList)) = false →
                                                                                (∃ (t82 : Bool), (∀ w' : World, S w' → (eqlS .neq 36 (.tmp 80) (.tmp 81) t49_1 (.iface 39 (.int .i64 10))).run Tryd.prog w' = .ok (.bool t82) w') ∧
                                                                                (J t82 w8.drew))))))))))))))))))) ∧
                                                  (∀ (x83 : Bool), ∀ w9 : World, J x83 w9 →
                                                    ((x83 = true →
                                                        (R (.returned (.bool false)) w9)) ∧
                                                      (x83 = false →
                                                        (((decide (((a2n : Nat) : Int) < (45 : Int))) = true →
                                                            (∃ (t88 : Array Value), (Instr.loadAt 24 (.pointer (some ⟨g3, 0, none⟩))).run Tryd.prog w9 = .ok (.agg t88) w9 ∧
                                                              (∃ (t90 : Int), (Instr.loadAt 5 (.pointer (some ⟨g4, 32, none⟩))).run Tryd.prog w9 = .ok (.int .u8 t90) w9 ∧
                                                                (∃ (t92a : Option Addr) (t92n : Nat) (t92c : Nat), (Instr.loadAt 25 (.pointer (some ⟨g4, 33, none⟩))).run Tryd.prog w9 = .ok (.slice t92a t92n t92c) w9 ∧
                                                                  (Calls Tryd.prog 13 #[(.agg t88), (.int .u8 t90), (.slice t92a t92n t92c), (.slice a2a a2n a2c)] w9 fun (e94 : Ending) (w10 : World) => ∃ (t94_0a : Option Addr) (t94_0n : Nat) (t94_0c : Nat) (t94_1 : Value), e94 = .returned (.tuple #[(.slice t94_0a t94_0n t94_0c), t94_1]) ∧
                                                                    (∃ (t99 : Bool), (eqlS .eql 36 (.tmp 97) (.tmp 98) t94_1 (.iface 39 (.int .i64 10))).run Tryd.prog w10 = .ok (.bool t99) w10 ∧
                                                                      (R (.returned (.bool (t99 && (((t94_0n : Nat) : Int) == (0 : Int))))) w10))))))) ∧
                                                          ((decide (((a2n : Nat) : Int) < (45 : Int))) = false →
                                                            (R (.returned (.bool true)) w9))))))))))))))))))))))))))))))) : Calls Tryd.prog 4 #[(.agg a0), (.agg a1), (.slice a2a a2n a2c)] w R :=
  calls_of_ev (args := [(.agg a0), (.agg a1), (.slice a2a a2n a2c)])
    (tc := .seq (.reg (.op .bx (.op .bx (.op .p (.nil))))) (.seq (.seq (.reg (.op (.cl [.bool]) (.op .p (.nil)))) (.cond (.seq (.reg (.op .p (.nil))) (.leaf)) (.leaf))) (.seq (.seq (.reg (.op .p (.op (.ld (.slice)) (.op .p (.op (.ld (.slice)) (.op .p (.op (.r (.slice)) (.op (.cl [.bool]) (.nil))))))))) (.cond (.seq (.reg (.op .p (.nil))) (.leaf)) (.leaf))) (.seq (.reg (.op (.ld (.agg)) (.op .p (.op (.ld (.int .u8)) (.op .p (.op (.ld (.slice)) (.op .p (.op (.ld (.slice)) (.op (.cl [.slice]) (.op .p (.nil))))))))))) (.seq (.reg (.op (.ld (.agg)) (.op .p (.op (.ld (.int .u8)) (.op .p (.op (.ld (.slice)) (.op .p (.op (.cl [.slice, .val]) (.op .p (.op .p (.op .p (.op .p (.op .p (.nil)))))))))))))) (.seq (.reg (.op (.ld (.agg)) (.op .p (.op (.ld (.int .u8)) (.op .p (.op .p (.op (.ld (.slice)) (.op .p (.op (.cl [.slice, .val]) (.op .p (.op .p (.op .p (.op .p (.op .p (.nil))))))))))))))) (.seq (.seq (.join [52, 53, 54, 55, 56, 57, 58, 59, 60, 61, 62, 63, 64, 65, 66, 67, 68, 69, 70, 71, 72, 73, 74, 75, 76, 77, 78, 79, 80, 81, 82, 83] [83] [.bool] (.drawS (.tk 0 .p (.tk 1 .p (.tk 2 .p (.ts 3 (.slice) (.tk 4 .p (.tk 5 .p (.tk 6 .p (.tk 7 .p (.sp 59 (.tk 8 .p (.tk 9 .p (.tk 11 .p (.ts 10 .val (.ts 12 .val (.tk 13 .p (.tk 14 .p (.tk 15 .p (.tk 16 .p (.ts 17 .val (.tk 18 .p (.tk 19 .p (.tk 20 .p (.tk 22 .p (.ts 21 .val (.ts 23 .val (.ts 24 .val (.tk 25 .p (.tk 26 .p (.tk 27 .p (.tk 28 .p (.tk 29 .p (.ts 30 .val (.tk 31 .p (.nil))))))))))))))))))))))))) (.tk 8 .p (.tk 9 .ix (.tk 11 .p (.ts 10 (.int .u8) (.ts 12 (.int .u8) (.tk 13 .p (.tk 14 .p (.tk 15 .p (.sp 67 (.tk 16 .p (.ts 17 .val (.tk 18 .p (.tk 19 .p (.tk 20 .p (.tk 22 .p (.ts 21 .val (.ts 23 .val (.ts 24 .val (.tk 25 .p (.tk 26 .p (.tk 27 .p (.tk 28 .p (.tk 29 .p (.ts 30 .val (.tk 31 .p (.nil))))))))))))))))) (.tk 16 .p (.ts 17 (.bool) (.tk 18 .p (.tk 19 .p (.sp 71 (.tk 20 .p (.tk 22 .p (.ts 21 .val (.ts 23 .val (.ts 24 .val (.tk 25 .p (.tk 26 .p (.tk 27 .p (.tk 28 .p (.tk 29 .p (.ts 30 .val (.tk 31 .p (.nil))))))))))))) (.tk 20 .p (.tk 22 .p (.ts 21 (.str) (.ts 23 (.slice) (.ts 24 (.str) (.tk 25 .p (.tk 26 .p (.tk 27 .p (.sp 79 (.tk 28 .p (.tk 29 .p (.ts 30 .val (.tk 31 .p (.nil))))) (.tk 28 .p (.tk 29 .p (.ts 30 (.bool) (.tk 31 .p (.nil))))))))))))))))))))))))))))))))))))) [])) (.cond (.seq (.reg (.op .p (.nil))) (.leaf)) (.leaf))) (.seq (.seq (.reg (.op .p (.op .p (.op .p (.nil))))) (.cond (.seq (.reg (.op (.ld (.agg)) (.op .p (.op (.ld (.int .u8)) (.op .p (.op (.ld (.slice)) (.op .p (.op (.cl [.slice, .val]) (.op .p (.op .p (.op .p (.op .p (.op .p (.nil)))))))))))))) (.seq (.reg (.op .p (.op .p (.op (.ld (.bool)) (.op .p (.ap 3 (.op .p (.nil)))))))) (.leaf))) (.leaf))) (.seq (.reg (.op .p (.nil))) (.leaf))))))))))
    (by kernel_rfl) Tryd.func4 (by kernel_rfl) (by kernel_rfl) (by kernel_rfl) (by kernel_rfl) h

set_option maxRecDepth 100000 in
theorem amphoralaw05_SealOwns_vc (a0 : Array Value) (w : World) (R : Ending → World → Prop) (h :
  ∃ (g1 : Nat) (w1 : World), (Instr.box 31 (.agg a0)).run Tryd.prog w = .ok (.pointer (some ⟨g1, 0, none⟩)) w1 ∧
  (Calls Tryd.prog 10 #[] w1 fun (e10 : Ending) (w2 : World) => ∃ (t10 : Bool), e10 = .returned (.bool t10) ∧
    (((!t10) = true →
        (R (.returned (.bool false)) w2)) ∧
      ((!t10) = false →
        (∃ (t13a : Option Addr) (t13n : Nat) (t13c : Nat), (Instr.loadAt 25 (.pointer (some ⟨g1, 33, none⟩))).run Tryd.prog w2 = .ok (.slice t13a t13n t13c) w2 ∧
          (∃ (t15a : Option Addr) (t15n : Nat) (t15c : Nat), (Instr.loadAt 25 (.pointer (some ⟨g1, 34, none⟩))).run Tryd.prog w2 = .ok (.slice t15a t15n t15c) w2 ∧
            (∃ (t16a : Option Addr) (t16n : Nat) (t16c : Nat) (w3 : World), (Instr.buildSlice 43 2 #[(0, (.slice t13a t13n t13c)), (1, (.slice t15a t15n t15c))]).run Tryd.prog w2 = .ok (.slice t16a t16n t16c) w3 ∧
              (Calls Tryd.prog 11 #[(.slice t16a t16n t16c)] w3 fun (e17 : Ending) (w4 : World) => ∃ (t17 : Bool), e17 = .returned (.bool t17) ∧
                ((t17 = true →
                    (R (.returned (.bool true)) w4)) ∧
                  (t17 = false →
                    (∃ (t19 : Array Value), (Instr.loadAt 22 (.pointer (some ⟨g1, 0, none⟩))).run Tryd.prog w4 = .ok (.agg t19) w4 ∧
                      (Calls Tryd.prog 14 #[(.agg t19)] w4 fun (e20 : Ending) (w5 : World) => ∃ (t20 : Array Value), e20 = .returned (.agg t20) ∧
                        (∃ (g3 : Nat) (w6 : World), (Instr.alloc 24 true (.tuple #[])).run Tryd.prog w5 = .ok (.pointer (some ⟨g3, 0, none⟩)) w6 ∧
                          (∃ w7 : World, (Instr.storeAt 24 (.pointer (some ⟨g3, 0, none⟩)) (.agg t20)).run Tryd.prog w6 = .ok () w7 ∧
                            (∃ (t21 : Array Value), (Instr.loadAt 24 (.pointer (some ⟨g3, 0, none⟩))).run Tryd.prog w7 = .ok (.agg t21) w7 ∧
                              (∃ (t23 : Int), (Instr.loadAt 5 (.pointer (some ⟨g1, 32, none⟩))).run Tryd.prog w7 = .ok (.int .u8 t23) w7 ∧
                                (∃ (t25a : Option Addr) (t25n : Nat) (t25c : Nat), (Instr.loadAt 25 (.pointer (some ⟨g1, 33, none⟩))).run Tryd.prog w7 = .ok (.slice t25a t25n t25c) w7 ∧
                                  (∃ (t27a : Option Addr) (t27n : Nat) (t27c : Nat), (Instr.loadAt 25 (.pointer (some ⟨g1, 34, none⟩))).run Tryd.prog w7 = .ok (.slice t27a t27n t27c) w7 ∧
                                    (Calls Tryd.prog 12 #[(.agg t21), (.int .u8 t23), (.slice t25a t25n t25c), (.slice t27a t27n t27c)] w7 fun (e28 : Ending) (w8 : World) => ∃ (t28a : Option Addr) (t28n : Nat) (t28c : Nat), e28 = .returned (.slice t28a t28n t28c) ∧
                                      (∃ (t29 : Array Value), (Instr.loadAt 24 (.pointer (some ⟨g3, 0, none⟩))).run Tryd.prog w8 = .ok (.agg t29) w8 ∧
                                        (∃ (t31 : Int), (Instr.loadAt 5 (.pointer (some ⟨g1, 32, none⟩))).run Tryd.prog w8 = .ok (.int .u8 t31) w8 ∧
                                          (∃ (t33a : Option Addr) (t33n : Nat) (t33c : Nat), (Instr.loadAt 25 (.pointer (some ⟨g1, 33, none⟩))).run Tryd.prog w8 = .ok (.slice t33a t33n t33c) w8 ∧
                                            (∃ (t35a : Option Addr) (t35n : Nat) (t35c : Nat), (Instr.loadAt 25 (.pointer (some ⟨g1, 34, none⟩))).run Tryd.prog w8 = .ok (.slice t35a t35n t35c) w8 ∧
                                              (Calls Tryd.prog 12 #[(.agg t29), (.int .u8 t31), (.slice t33a t33n t33c), (.slice t35a t35n t35c)] w8 fun (e36 : Ending) (w9 : World) => ∃ (t36a : Option Addr) (t36n : Nat) (t36c : Nat), e36 = .returned (.slice t36a t36n t36c) ∧
                                                (∃ (t38 : Array Value), (Instr.loadAt 24 (.pointer (some ⟨g3, 0, none⟩))).run Tryd.prog w9 = .ok (.agg t38) w9 ∧
                                                  (∃ (t40 : Int), (Instr.loadAt 5 (.pointer (some ⟨g1, 32, none⟩))).run Tryd.prog w9 = .ok (.int .u8 t40) w9 ∧
                                                    (∃ (t42a : Option Addr) (t42n : Nat) (t42c : Nat), (Instr.loadAt 25 (.pointer (some ⟨g1, 33, none⟩))).run Tryd.prog w9 = .ok (.slice t42a t42n t42c) w9 ∧
                                                      (Calls Tryd.prog 13 #[(.agg t38), (.int .u8 t40), (.slice t42a t42n t42c), (.slice t28a t28n t28c)] w9 fun (e44 : Ending) (w10 : World) => ∃ (t44_0a : Option Addr) (t44_0n : Nat) (t44_0c : Nat) (t44_1 : Value), e44 = .returned (.tuple #[(.slice t44_0a t44_0n t44_0c), t44_1]) ∧
                                                        (∃ (t48 : Array Value), (Instr.loadAt 24 (.pointer (some ⟨g3, 0, none⟩))).run Tryd.prog w10 = .ok (.agg t48) w10 ∧
                                                          (∃ (t50 : Int), (Instr.loadAt 5 (.pointer (some ⟨g1, 32, none⟩))).run Tryd.prog w10 = .ok (.int .u8 t50) w10 ∧
                                                            (∃ (t52a : Option Addr) (t52n : Nat) (t52c : Nat), (Instr.loadAt 25 (.pointer (some ⟨g1, 33, none⟩))).run Tryd.prog w10 = .ok (.slice t52a t52n t52c) w10 ∧
                                                              (Calls Tryd.prog 13 #[(.agg t48), (.int .u8 t50), (.slice t52a t52n t52c), (.slice t28a t28n t28c)] w10 fun (e54 : Ending) (w11 : World) => ∃ (t54_0a : Option Addr) (t54_0n : Nat) (t54_0c : Nat) (t54_1 : Value), e54 = .returned (.tuple #[(.slice t54_0a t54_0n t54_0c), t54_1]) ∧
                                                                (∃ (t58 : ByteArray), (convert 25 9 (.slice t28a t28n t28c)).run Tryd.prog w11 = .ok (.string t58) w11 ∧
                                                                  (∃ (t60 : ByteArray), (convert 25 9 (.slice t36a t36n t36c)).run Tryd.prog w11 = .ok (.string t60) w11 ∧
                                                                    (((t58.toList == t60.toList) = true →
                                                                        (∃ (t64 : ByteArray), (convert 25 9 (.slice t44_0a t44_0n t44_0c)).run Tryd.prog w11 = .ok (.string t64) w11 ∧
                                                                          (∃ (t66 : ByteArray), (convert 25 9 (.slice t54_0a t54_0n t54_0c)).run Tryd.prog w11 = .ok (.string t66) w11 ∧
                                                                            (((t64.toList == t66.toList) = true →
                                                                                (∃ (t74a : Option Addr) (t74n : Nat) (t74c : Nat) (w12 : World), (Instr.buildSlice 43 4 #[(0, (.slice t28a t28n t28c)), (1, (.slice t36a t36n t36c)), (2, (.slice t44_0a t44_0n t44_0c)), (3, (.slice t54_0a t54_0n t54_0c))]).run Tryd.prog w11 = .ok (.slice t74a t74n t74c) w12 ∧
                                                                                (Calls Tryd.prog 15 #[(.slice t74a t74n t74c)] w12 fun (e75 : Ending) (w13 : World) => ∃ (t75 : Bool), e75 = .returned (.bool t75) ∧
                                                                                (R (.returned (.bool t75)) w13)))) ∧
                                                                              ((t64.toList == t66.toList) = false →
                                                                                (R (.returned (.bool false)) w11)))))) ∧
                                                                      ((t58.toList == t60.toList) = false →
                                                                        (R (.returned (.bool false)) w11))))))))))))))))))))))))))))))))))))) : Calls Tryd.prog 5 #[(.agg a0)] w R :=
  calls_of_ev (args := [(.agg a0)])
    (tc := .seq (.reg (.op .bx (.op .p (.nil)))) (.seq (.seq (.reg (.op (.cl [.bool]) (.op .p (.nil)))) (.cond (.seq (.reg (.op .p (.nil))) (.leaf)) (.leaf))) (.seq (.seq (.reg (.op .p (.op (.ld (.slice)) (.op .p (.op (.ld (.slice)) (.op (.r (.slice)) (.op (.cl [.bool]) (.nil)))))))) (.cond (.seq (.reg (.op .p (.nil))) (.leaf)) (.leaf))) (.seq (.reg (.op .p (.op (.ld (.agg)) (.op (.cl [.agg]) (.op .bx (.op .u (.nil))))))) (.seq (.reg (.op (.ld (.agg)) (.op .p (.op (.ld (.int .u8)) (.op .p (.op (.ld (.slice)) (.op .p (.op (.ld (.slice)) (.op (.cl [.slice]) (.op .p (.nil))))))))))) (.seq (.reg (.op (.ld (.agg)) (.op .p (.op (.ld (.int .u8)) (.op .p (.op (.ld (.slice)) (.op .p (.op (.ld (.slice)) (.op (.cl [.slice]) (.op .p (.nil))))))))))) (.seq (.reg (.op (.ld (.agg)) (.op .p (.op (.ld (.int .u8)) (.op .p (.op (.ld (.slice)) (.op .p (.op (.cl [.slice, .val]) (.op .p (.op .p (.op .p (.op .p (.op .p (.nil)))))))))))))) (.seq (.reg (.op (.ld (.agg)) (.op .p (.op (.ld (.int .u8)) (.op .p (.op (.ld (.slice)) (.op .p (.op (.cl [.slice, .val]) (.op .p (.op .p (.op .p (.op .p (.op .p (.nil)))))))))))))) (.seq (.reg (.op .p (.op (.ld (.str)) (.op .p (.op (.ld (.str)) (.op .p (.op .p (.sp 62 (.op .p (.op (.ld (.str)) (.op .p (.op (.ld (.str)) (.op .p (.op .p (.op .p (.sp 69 (.op .p (.op .p (.op .p (.op .p (.op (.r (.slice)) (.op (.cl [.bool]) (.op .p (.op .p (.nil))))))))) (.op .p (.op .p (.op .p (.op .p (.op .p (.op .p (.op .p (.op .p (.nil))))))))))))))))) (.op .p (.op .p (.op .p (.op .p (.op .p (.op .p (.op .p (.op .p (.op .p (.op .p (.op .p (.op .p (.op .p (.op .p (.op .p (.nil)))))))))))))))))))))))) (.leaf))))))))))
    (by kernel_rfl) Tryd.func5 (by kernel_rfl) (by kernel_rfl) (by kernel_rfl) (by kernel_rfl) h

set_option maxRecDepth 100000 in
theorem amphoralaw05_SealWrites_vc (a0 : Array Value) (w : World) (R : Ending → World → Prop) (h :
  ∃ (g1 : Nat) (w1 : World), (Instr.box 31 (.agg a0)).run Tryd.prog w = .ok (.pointer (some ⟨g1, 0, none⟩)) w1 ∧
  (Calls Tryd.prog 10 #[] w1 fun (e7 : Ending) (w2 : World) => ∃ (t7 : Bool), e7 = .returned (.bool t7) ∧
    (((!t7) = true →
        (R (.returned (.bool false)) w2)) ∧
      ((!t7) = false →
        (∃ (t10a : Option Addr) (t10n : Nat) (t10c : Nat), (Instr.loadAt 25 (.pointer (some ⟨g1, 33, none⟩))).run Tryd.prog w2 = .ok (.slice t10a t10n t10c) w2 ∧
          (∃ (t12a : Option Addr) (t12n : Nat) (t12c : Nat), (Instr.loadAt 25 (.pointer (some ⟨g1, 34, none⟩))).run Tryd.prog w2 = .ok (.slice t12a t12n t12c) w2 ∧
            (∃ (t13a : Option Addr) (t13n : Nat) (t13c : Nat) (w3 : World), (Instr.buildSlice 43 2 #[(0, (.slice t10a t10n t10c)), (1, (.slice t12a t12n t12c))]).run Tryd.prog w2 = .ok (.slice t13a t13n t13c) w3 ∧
              (Calls Tryd.prog 11 #[(.slice t13a t13n t13c)] w3 fun (e14 : Ending) (w4 : World) => ∃ (t14 : Bool), e14 = .returned (.bool t14) ∧
                ((t14 = true →
                    (R (.returned (.bool true)) w4)) ∧
                  (t14 = false →
                    (∃ (t16 : Array Value), (Instr.loadAt 22 (.pointer (some ⟨g1, 0, none⟩))).run Tryd.prog w4 = .ok (.agg t16) w4 ∧
                      (Calls Tryd.prog 14 #[(.agg t16)] w4 fun (e17 : Ending) (w5 : World) => ∃ (t17 : Array Value), e17 = .returned (.agg t17) ∧
                        (∃ (g3 : Nat) (w6 : World), (Instr.alloc 24 true (.tuple #[])).run Tryd.prog w5 = .ok (.pointer (some ⟨g3, 0, none⟩)) w6 ∧
                          (∃ w7 : World, (Instr.storeAt 24 (.pointer (some ⟨g3, 0, none⟩)) (.agg t17)).run Tryd.prog w6 = .ok () w7 ∧
                            (∃ S : World → Prop, S w7.drew ∧
                              (∃ (t18 : Array Value), (∀ w' : World, S w' → (Instr.loadAt 24 (.pointer (some ⟨g3, 0, none⟩))).run Tryd.prog w' = .ok (.agg t18) w') ∧
                                (∃ (t20 : Array Value), (∀ w' : World, S w' → (Instr.loadAt 22 (.pointer (some ⟨g1, 0, none⟩))).run Tryd.prog w' = .ok (.agg t20) w') ∧
                                  (Calls Tryd.prog 16 #[(.agg t20)] w7.drew fun (e21 : Ending) (w8 : World) => ∃ (t21 : Array Value), e21 = .returned (.agg t21) ∧
                                    (∃ S_1 : World → Prop, (∀ w' : World, S_1 w' → S w') ∧ S_1 w8 ∧
                                      (∃ (t22 : Bool), (∀ w' : World, S_1 w' → (eqlS .neq 24 (.tmp 18) (.tmp 21) (.agg t18) (.agg t21)).run Tryd.prog w' = .ok (.bool t22) w') ∧
                                        ((t22 = true →
                                            (R (.returned (.bool false)) w8)) ∧
                                          (t22 = false →
                                            (∃ S_2 : World → Prop, S_2 w8.drew ∧
                                              (∃ (t24a : Option Addr) (t24n : Nat) (t24c : Nat), (∀ w' : World, S_2 w' → (Instr.loadAt 25 (.pointer (some ⟨g1, 33, none⟩))).run Tryd.prog w' = .ok (.slice t24a t24n t24c) w') ∧
                                                (∃ (t27a : Option Addr) (t27n : Nat) (t27c : Nat), (∀ w' : World, S_2 w' → (Instr.loadAt 25 (.pointer (some ⟨g1, 34, none⟩))).run Tryd.prog w' = .ok (.slice t27a t27n t27c) w') ∧
                                                  (Calls Tryd.prog 17 #[(.slice t24a t24n t24c)] w8.drew fun (e25 : Ending) (w9 : World) => ∃ (t25a : Option Addr) (t25n : Nat) (t25c : Nat), e25 = .returned (.slice t25a t25n t25c) ∧
                                                    (∃ S_3 : World → Prop, (∀ w' : World, S_3 w' → S_2 w') ∧ S_3 w9 ∧
                                                      (Calls Tryd.prog 17 #[(.slice t27a t27n t27c)] w9 fun (e28 : Ending) (w10 : World) => ∃ (t28a : Option Addr) (t28n : Nat) (t28c : Nat), e28 = .returned (.slice t28a t28n t28c) ∧
                                                        (∃ S_4 : World → Prop, (∀ w' : World, S_4 w' → S_3 w') ∧ S_4 w10 ∧
                                                          (∃ (t29 : Array Value), (Instr.loadAt 24 (.pointer (some ⟨g3, 0, none⟩))).run Tryd.prog w10 = .ok (.agg t29) w10 ∧
                                                            (∃ (t31 : Int), (Instr.loadAt 5 (.pointer (some ⟨g1, 32, none⟩))).run Tryd.prog w10 = .ok (.int .u8 t31) w10 ∧
                                                              (Calls Tryd.prog 12 #[(.agg t29), (.int .u8 t31), (.slice t25a t25n t25c), (.slice t28a t28n t28c)] w10 fun (e34 : Ending) (w11 : World) => ∃ (t34a : Option Addr) (t34n : Nat) (t34c : Nat), e34 = .returned (.slice t34a t34n t34c) ∧
                                                                (∃ S_5 : World → Prop, S_5 w11.drew ∧
                                                                  (∃ (t36 : ByteArray), (∀ w' : World, S_5 w' → (convert 25 9 (.slice t34a t34n t34c)).run Tryd.prog w' = .ok (.string t36) w') ∧
                                                                    (∃ (t37 : Array Value), (∀ w' : World, S_5 w' → (Instr.loadAt 24 (.pointer (some ⟨g3, 0, none⟩))).run Tryd.prog w' = .ok (.agg t37) w') ∧
                                                                      (∃ (t39 : Int), (∀ w' : World, S_5 w' → (Instr.loadAt 5 (.pointer (some ⟨g1, 32, none⟩))).run Tryd.prog w' = .ok (.int .u8 t39) w') ∧
                                                                        (∃ (t41a : Option Addr) (t41n : Nat) (t41c : Nat), (∀ w' : World, S_5 w' → (Instr.loadAt 25 (.pointer (some ⟨g1, 33, none⟩))).run Tryd.prog w' = .ok (.slice t41a t41n t41c) w') ∧
                                                                          (∃ (t43a : Option Addr) (t43n : Nat) (t43c : Nat), (∀ w' : World, S_5 w' → (Instr.loadAt 25 (.pointer (some ⟨g1, 34, none⟩))).run Tryd.prog w' = .ok (.slice t43a t43n t43c) w') ∧
                                                                            (Calls Tryd.prog 18 #[(.agg t37), (.int .u8 t39), (.slice t41a t41n t41c), (.slice t43a t43n t43c)] w11.drew fun (e44 : Ending) (w12 : World) => ∃ (t44a : Option Addr) (t44n : Nat) (t44c : Nat), e44 = .returned (.slice t44a t44n t44c) ∧
                                                                              (∃ S_6 : World → Prop, (∀ w' : World, S_6 w' → S_5 w') ∧ S_6 w12 ∧
                                                                                (∃ (t45 : ByteArray), (∀ w' : World, S_6 w' → (convert 25 9 (.slice t44a t44n t44c)).run Tryd.prog w' = .ok (.string t45) w') ∧
                                                                                (((t36.toList == t45.toList) = true →
                                                                                (∃ (t48 : Array Value), (∀ w' : World, S_6 w' → (Instr.loadAt 24 (.pointer (some ⟨g3, 0, none⟩))).run Tryd.prog w' = .ok (.agg t48) w') ∧
                                                                                (∃ (t51 : Array Value), (∀ w' : World, S_6 w' → (Instr.loadAt 24 (.pointer (some ⟨g3, 0, none⟩))).run Tryd.prog w' = .ok (.agg t51) w') ∧
                                                                                (∃ (t53a : Option Addr) (t53n : Nat) (t53c : Nat), (∀ w' : World, S_6 w' → (Instr.loadAt 25 (.pointer (some ⟨g1, 34, none⟩))).run Tryd.prog w' = .ok (.slice t53a t53n t53c) w') ∧
                                                                                (Calls Tryd.prog 19 #[(.agg t48), (.slice t28a t28n t28c)] w12 fun (e50 : Ending) (w13 : World) => ∃ (t50 : Array Value), e50 = .returned (.agg t50) ∧
                                                                                (∃ S_7 : World → Prop, (∀ w' : World, S_7 w' → S_6 w') ∧ S_7 w13 ∧
                                                                                (Calls Tryd.prog 20 #[(.agg t51), (.slice t53a t53n t53c)] w13 fun (e54 : Ending) (w14 : World) => ∃ (t54 : Array Value), e54 = .returned (.agg t54) ∧
                                                                                (∃ S_8 : World → Prop, (∀ w' : World, S_8 w' → S_7 w') ∧ S_8 w14 ∧
                                                                                (∃ (t55 : Bool), (∀ w' : World, S_8 w' → (eqlS .eql 46 (.tmp 50) (.tmp 54) (.agg t50) (.agg t54)).run Tryd.prog w' = .ok (.bool t55) w') ∧
                                                                                ((t55 = true →
                                                                                (∃ (t60a : Option Addr) (t60n : Nat) (t60c : Nat), (∀ w' : World, S_8 w' → (Instr.loadAt 25 (.pointer (some ⟨g1, 33, none⟩))).run Tryd.prog w' = .ok (.slice t60a t60n t60c) w') ∧
                                                                                (Calls Tryd.prog 21 #[(.slice t25a t25n t25c), (.slice t60a t60n t60c)] w14 fun (e61 : Ending) (w15 : World) => ∃ (t61 : Bool), e61 = .returned (.bool t61) ∧
                                                                                (∃ S_9 : World → Prop, (∀ w' : World, S_9 w' → S_8 w') ∧ S_9 w15 ∧
                                                                                ((t61 = true →
                                                                                (∃ (t66a : Option Addr) (t66n : Nat) (t66c : Nat), (∀ w' : World, S_9 w' → (Instr.loadAt 25 (.pointer (some ⟨g1, 34, none⟩))).run Tryd.prog w' = .ok (.slice t66a t66n t66c) w') ∧
                                                                                (Calls Tryd.prog 21 #[(.slice t28a t28n t28c), (.slice t66a t66n t66c)] w15 fun (e67 : Ending) (w16 : World) => ∃ (t67 : Bool), e67 = .returned (.bool t67) ∧
                                                                                (∃ S_10 : World → Prop, (∀ w' : World, S_10 w' → S_9 w') ∧ S_10 w16 ∧
                                                                                (R (.returned (.bool t67)) w16))))) ∧
                                                                                (t61 = false →
                                                                                (S_9 w15 ∧
                                                                                (R (.returned (.bool false)) w15)))))))) ∧
                                                                                (t55 = false →
                                                                                (S_8 w14 ∧
                                                                                (S_8 w14 ∧
                                                                                (R (.returned (.bool false)) w14)))))))))))))) ∧
                                                                                ((t36.toList == t45.toList) = false →
                                                                                (S_6 w12 ∧
                                                                                (S_6 w12 ∧
                                                                                (S_6 w12 ∧
                                                                                (S_6 w12 ∧
                                                                                (R (.returned (.bool false)) w12)))))))))))))))))))))))))))))))))))))))))))))))) : Calls Tryd.prog 6 #[(.agg a0)] w R :=
  calls_of_ev (args := [(.agg a0)])
    (tc := .seq (.reg (.op .bx (.op .p (.nil)))) (.seq (.seq (.reg (.op (.cl [.bool]) (.op .p (.nil)))) (.cond (.seq (.reg (.op .p (.nil))) (.leaf)) (.leaf))) (.seq (.seq (.reg (.op .p (.op (.ld (.slice)) (.op .p (.op (.ld (.slice)) (.op (.r (.slice)) (.op (.cl [.bool]) (.nil)))))))) (.cond (.seq (.reg (.op .p (.nil))) (.leaf)) (.leaf))) (.seq (.reg (.op .p (.op (.ld (.agg)) (.op (.cl [.agg]) (.op .bx (.op .u (.nil))))))) (.seq (.seq (.drawS (.tk 1 .p (.ts 0 (.agg) (.ts 2 (.agg) (.go 3 (.cl [.agg]) (.ts 4 (.bool) (.nil)))))) []) (.cond (.seq (.reg (.op .p (.nil))) (.leaf)) (.leaf))) (.seq (.drawS (.tk 0 .p (.tk 3 .p (.ts 1 (.slice) (.ts 4 (.slice) (.go 2 (.cl [.slice]) (.go 5 (.cl [.slice]) (.tk 6 .p (.tk 7 .p (.nil))))))))) []) (.seq (.reg (.op (.ld (.agg)) (.op .p (.op (.ld (.int .u8)) (.op .p (.op .p (.op (.cl [.slice]) (.op .p (.nil))))))))) (.seq (.drawS (.tk 0 .p (.tk 3 .p (.tk 5 .p (.tk 7 .p (.ts 1 (.str) (.ts 2 (.agg) (.ts 4 (.int .u8) (.ts 6 (.slice) (.ts 8 (.slice) (.go 9 (.cl [.slice]) (.ts 10 (.str) (.tk 11 .p (.tk 12 .p (.sp 47 (.tk 14 .p (.tk 17 .p (.ts 13 (.agg) (.ts 16 (.agg) (.ts 18 (.slice) (.go 15 (.cl [.agg]) (.go 19 (.cl [.agg]) (.ts 20 (.bool) (.tk 21 .p (.tk 22 .p (.sp 57 (.tk 23 .p (.tk 24 .p (.ts 25 (.slice) (.go 26 (.cl [.bool]) (.tk 27 .p (.tk 28 .p (.sp 63 (.tk 29 .p (.tk 30 .p (.ts 31 (.slice) (.go 32 (.cl [.bool]) (.tk 33 .p (.tk 34 .p (.nil))))))) (.tk 29 .p (.tk 30 .p (.ts 31 .val (.go 32 .p (.tk 33 .p (.tk 34 .p (.nil)))))))))))))) (.tk 23 .p (.tk 24 .p (.ts 25 .val (.go 26 .p (.tk 27 .p (.tk 28 .p (.tk 29 .p (.tk 30 .p (.ts 31 .val (.go 32 .p (.tk 33 .p (.tk 34 .p (.nil)))))))))))))))))))))))) (.tk 14 .p (.tk 17 .p (.ts 13 .val (.ts 16 .val (.ts 18 .val (.go 15 .p (.go 19 .p (.ts 20 .val (.tk 21 .p (.tk 22 .p (.tk 23 .p (.tk 24 .p (.ts 25 .val (.go 26 .p (.tk 27 .p (.tk 28 .p (.tk 29 .p (.tk 30 .p (.ts 31 .val (.go 32 .p (.tk 33 .p (.tk 34 .p (.nil))))))))))))))))))))))))))))))))))))) []) (.leaf)))))))))
    (by kernel_rfl) Tryd.func6 (by kernel_rfl) (by kernel_rfl) (by kernel_rfl) (by kernel_rfl) h

set_option maxRecDepth 100000 in
theorem amphoralaw05_SealLocks_vc (a0 : Array Value) (w : World) (R : Ending → World → Prop) (h :
  ∃ (g1 : Nat) (w1 : World), (Instr.box 51 (.agg a0)).run Tryd.prog w = .ok (.pointer (some ⟨g1, 0, none⟩)) w1 ∧
  (Calls Tryd.prog 10 #[] w1 fun (e12 : Ending) (w2 : World) => ∃ (t12 : Bool), e12 = .returned (.bool t12) ∧
    (((!t12) = true →
        (R (.returned (.bool false)) w2)) ∧
      ((!t12) = false →
        (∃ J : Bool → World → Prop, (∃ (t15 : ByteArray), (Instr.loadAt 9 (.pointer (some ⟨g1, 0, none⟩))).run Tryd.prog w2 = .ok (.string t15) w2 ∧
            (((decide ((t15.size : Int) > (8192 : Int))) = true →
                (J true w2)) ∧
              ((decide ((t15.size : Int) > (8192 : Int))) = false →
                (∃ (t20a : Option Addr) (t20n : Nat) (t20c : Nat), (Instr.loadAt 25 (.pointer (some ⟨g1, 49, none⟩))).run Tryd.prog w2 = .ok (.slice t20a t20n t20c) w2 ∧
                  (∃ (t21a : Option Addr) (t21n : Nat) (t21c : Nat) (w3 : World), (Instr.buildSlice 43 1 #[(0, (.slice t20a t20n t20c))]).run Tryd.prog w2 = .ok (.slice t21a t21n t21c) w3 ∧
                    (Calls Tryd.prog 11 #[(.slice t21a t21n t21c)] w3 fun (e22 : Ending) (w4 : World) => ∃ (t22 : Bool), e22 = .returned (.bool t22) ∧
                      (J t22 w4))))))) ∧
          (∀ (x23 : Bool), ∀ w5 : World, J x23 w5 →
            ((x23 = true →
                (R (.returned (.bool true)) w5)) ∧
              (x23 = false →
                (∃ (t25a : Option Addr) (t25n : Nat) (t25c : Nat), (Instr.loadAt 25 (.pointer (some ⟨g1, 49, none⟩))).run Tryd.prog w5 = .ok (.slice t25a t25n t25c) w5 ∧
                  (Calls Tryd.prog 17 #[(.slice t25a t25n t25c)] w5 fun (e26 : Ending) (w6 : World) => ∃ (t26a : Option Addr) (t26n : Nat) (t26c : Nat), e26 = .returned (.slice t26a t26n t26c) ∧
                    (∃ (t29 : ByteArray), (Instr.loadAt 9 (.pointer (some ⟨g1, 0, none⟩))).run Tryd.prog w6 = .ok (.string t29) w6 ∧
                      (∃ (t31 : Array Value), (Instr.loadAt 49 (.pointer (some ⟨g1, 1, none⟩))).run Tryd.prog w6 = .ok (.agg t31) w6 ∧
                        (∃ (t33 : Array Value), (Instr.loadAt 22 (.pointer (some ⟨g1, 17, none⟩))).run Tryd.prog w6 = .ok (.agg t33) w6 ∧
                          (Calls Tryd.prog 22 #[(.string t29), (.agg t31), (.agg t33)] w6 fun (e34 : Ending) (w7 : World) => ∃ (t34_0a : Option Addr) (t34_0n : Nat) (t34_0c : Nat) (t34_1 : Value), e34 = .returned (.tuple #[(.slice t34_0a t34_0n t34_0c), t34_1]) ∧
                            (∃ (t39 : ByteArray), (Instr.loadAt 9 (.pointer (some ⟨g1, 0, none⟩))).run Tryd.prog w7 = .ok (.string t39) w7 ∧
                              (∃ (t41 : Array Value), (Instr.loadAt 49 (.pointer (some ⟨g1, 1, none⟩))).run Tryd.prog w7 = .ok (.agg t41) w7 ∧
                                (∃ (t43 : Array Value), (Instr.loadAt 22 (.pointer (some ⟨g1, 17, none⟩))).run Tryd.prog w7 = .ok (.agg t43) w7 ∧
                                  (Calls Tryd.prog 23 #[(.string t39), (.agg t41), (.agg t43)] w7 fun (e44 : Ending) (w8 : World) => ∃ (t44_0a : Option Addr) (t44_0n : Nat) (t44_0c : Nat) (t44_1 : Int), e44 = .returned (.tuple #[(.slice t44_0a t44_0n t44_0c), (.int .i64 t44_1)]) ∧
                                    (∃ (t49 : ByteArray), (Instr.loadAt 9 (.pointer (some ⟨g1, 0, none⟩))).run Tryd.prog w8 = .ok (.string t49) w8 ∧
                                      (Calls Tryd.prog 24 #[(.string t49), (.slice t26a t26n t26c)] w8 fun (e51 : Ending) (w9 : World) => ∃ (t51_0 : Array Value) (t51_1 : Value), e51 = .returned (.tuple #[(.agg t51_0), t51_1]) ∧
                                        (∃ (g8 : Nat) (w10 : World), (Instr.alloc 22 true (.tuple #[])).run Tryd.prog w9 = .ok (.pointer (some ⟨g8, 0, none⟩)) w10 ∧
                                          (∃ w11 : World, (Instr.storeAt 22 (.pointer (some ⟨g8, 0, none⟩)) (.agg t51_0)).run Tryd.prog w10 = .ok () w11 ∧
                                            (∃ (t56 : ByteArray), (Instr.loadAt 9 (.pointer (some ⟨g1, 0, none⟩))).run Tryd.prog w11 = .ok (.string t56) w11 ∧
                                              (∃ (t58a : Option Addr) (t58n : Nat) (t58c : Nat), (Instr.loadAt 25 (.pointer (some ⟨g1, 49, none⟩))).run Tryd.prog w11 = .ok (.slice t58a t58n t58c) w11 ∧
                                                (Calls Tryd.prog 25 #[(.string t56), (.slice t58a t58n t58c)] w11 fun (e59 : Ending) (w12 : World) => ∃ (t59_0 : Array Value) (t59_1 : Int), e59 = .returned (.tuple #[(.agg t59_0), (.int .i64 t59_1)]) ∧
                                                  (∃ (g10 : Nat) (w13 : World), (Instr.alloc 22 true (.tuple #[])).run Tryd.prog w12 = .ok (.pointer (some ⟨g10, 0, none⟩)) w13 ∧
                                                    (∃ w14 : World, (Instr.storeAt 22 (.pointer (some ⟨g10, 0, none⟩)) (.agg t59_0)).run Tryd.prog w13 = .ok () w14 ∧
                                                      (∃ (t63 : ByteArray), (convert 25 9 (.slice t34_0a t34_0n t34_0c)).run Tryd.prog w14 = .ok (.string t63) w14 ∧
                                                        (∃ (t65 : ByteArray), (convert 25 9 (.slice t44_0a t44_0n t44_0c)).run Tryd.prog w14 = .ok (.string t65) w14 ∧
                                                          (((t63.toList == t65.toList) = true →
                                                              (Calls Tryd.prog 26 #[t34_1] w14 fun (e69 : Ending) (w15 : World) => ∃ (t69 : Int), e69 = .returned (.int .i64 t69) ∧
                                                                (((t69 == t44_1) = true →
                                                                    (∃ (t74 : Array Value), (Instr.loadAt 22 (.pointer (some ⟨g8, 0, none⟩))).run Tryd.prog w15 = .ok (.agg t74) w15 ∧
                                                                      (∃ (t75 : Array Value), (Instr.loadAt 22 (.pointer (some ⟨g10, 0, none⟩))).run Tryd.prog w15 = .ok (.agg t75) w15 ∧
                                                                        (∃ (t76 : Bool), (eqlS .eql 22 (.tmp 74) (.tmp 75) (.agg t74) (.agg t75)).run Tryd.prog w15 = .ok (.bool t76) w15 ∧
                                                                          ((t76 = true →
                                                                              (Calls Tryd.prog 26 #[t51_1] w15 fun (e80 : Ending) (w16 : World) => ∃ (t80 : Int), e80 = .returned (.int .i64 t80) ∧
                                                                                (((t80 == t59_1) = true →
                                                                                (∃ (t87a : Option Addr) (t87n : Nat) (t87c : Nat), (Instr.loadAt 25 (.pointer (some ⟨g1, 49, none⟩))).run Tryd.prog w16 = .ok (.slice t87a t87n t87c) w16 ∧
                                                                                (Calls Tryd.prog 21 #[(.slice t26a t26n t26c), (.slice t87a t87n t87c)] w16 fun (e88 : Ending) (w17 : World) => ∃ (t88 : Bool), e88 = .returned (.bool t88) ∧
                                                                                (R (.returned (.bool t88)) w17)))) ∧
                                                                                ((t80 == t59_1) = false →
                                                                                (R (.returned (.bool false)) w16))))) ∧
                                                                            (t76 = false →
                                                                              (R (.returned (.bool false)) w15))))))) ∧
                                                                  ((t69 == t44_1) = false →
                                                                    (R (.returned (.bool false)) w15))))) ∧
                                                            ((t63.toList == t65.toList) = false →
                                                              (R (.returned (.bool false)) w14)))))))))))))))))))))))))))))))) : Calls Tryd.prog 7 #[(.agg a0)] w R :=
  calls_of_ev (args := [(.agg a0)])
    (tc := .seq (.reg (.op .bx (.op .p (.nil)))) (.seq (.seq (.reg (.op (.cl [.bool]) (.op .p (.nil)))) (.cond (.seq (.reg (.op .p (.nil))) (.leaf)) (.leaf))) (.seq (.seq (.join [14, 15, 16, 17, 18, 19, 20, 21, 22, 23] [23] [.bool] (.reg (.op .p (.op (.ld (.str)) (.op .p (.op .p (.op .p (.sp 18 (.op .p (.op .p (.op .p (.op .p (.op .p (.nil)))))) (.op .p (.op (.ld (.slice)) (.op (.r (.slice)) (.op (.cl [.bool]) (.op .p (.nil)))))))))))))) (.cond (.seq (.reg (.op .p (.nil))) (.leaf)) (.leaf))) (.seq (.reg (.op .p (.op (.ld (.slice)) (.op (.cl [.slice]) (.op .p (.nil)))))) (.seq (.reg (.op .p (.op (.ld (.str)) (.op .p (.op (.ld (.agg)) (.op .p (.op (.ld (.agg)) (.op (.cl [.slice, .val]) (.op .p (.op .p (.op .p (.op .p (.op .p (.nil)))))))))))))) (.seq (.reg (.op .p (.op (.ld (.str)) (.op .p (.op (.ld (.agg)) (.op .p (.op (.ld (.agg)) (.op (.cl [.slice, .int .i64]) (.op .p (.op .p (.op .p (.op .p (.op .p (.nil)))))))))))))) (.seq (.reg (.op .p (.op (.ld (.str)) (.op .p (.op (.cl [.agg, .val]) (.op .p (.op .p (.op .p (.op .bx (.op .u (.op .p (.nil)))))))))))) (.seq (.reg (.op .p (.op (.ld (.str)) (.op .p (.op (.ld (.slice)) (.op (.cl [.agg, .int .i64]) (.op .p (.op .p (.op .p (.op .bx (.op .u (.op .p (.nil))))))))))))) (.seq (.reg (.op .p (.op (.ld (.str)) (.op .p (.op (.ld (.str)) (.op .p (.op .p (.sp 67 (.op .p (.op (.cl [.int .i64]) (.op .p (.op .p (.op .p (.op .p (.sp 73 (.op (.ld (.agg)) (.op (.ld (.agg)) (.op (.ld (.bool)) (.op .p (.op .p (.sp 78 (.op .p (.op (.cl [.int .i64]) (.op .p (.op .p (.op .p (.op .p (.sp 84 (.op .p (.op .p (.op (.ld (.slice)) (.op (.cl [.bool]) (.op .p (.op .p (.nil))))))) (.op .p (.op .p (.op .p (.op .p (.op .p (.op .p (.nil)))))))))))))) (.op .p (.op .p (.op .p (.op .p (.op .p (.op .p (.op .p (.op .p (.op .p (.op .p (.op .p (.op .p (.nil))))))))))))))))))) (.op .p (.op .p (.op .p (.op .p (.op .p (.op .p (.op .p (.op .p (.op .p (.op .p (.op .p (.op .p (.op .p (.op .p (.op .p (.op .p (.op .p (.nil))))))))))))))))))))))))) (.op .p (.op .p (.op .p (.op .p (.op .p (.op .p (.op .p (.op .p (.op .p (.op .p (.op .p (.op .p (.op .p (.op .p (.op .p (.op .p (.op .p (.op .p (.op .p (.op .p (.op .p (.op .p (.op .p (.nil)))))))))))))))))))))))))))))))) (.leaf))))))))))
    (by kernel_rfl) Tryd.func7 (by kernel_rfl) (by kernel_rfl) (by kernel_rfl) (by kernel_rfl) h

set_option maxRecDepth 100000 in
theorem amphoralaw05_SealUnlocks_vc (a0 : Array Value) (a1 : Int) (w : World) (R : Ending → World → Prop) (h :
  ∃ (g2 : Nat) (w1 : World), (Instr.box 51 (.agg a0)).run Tryd.prog w = .ok (.pointer (some ⟨g2, 0, none⟩)) w1 ∧
  (Calls Tryd.prog 10 #[] w1 fun (e11 : Ending) (w2 : World) => ∃ (t11 : Bool), e11 = .returned (.bool t11) ∧
    (((!t11) = true →
        (R (.returned (.bool false)) w2)) ∧
      ((!t11) = false →
        (∃ (t15 : ByteArray), (Instr.loadAt 9 (.pointer (some ⟨g2, 0, none⟩))).run Tryd.prog w2 = .ok (.string t15) w2 ∧
          (∃ (t17 : Array Value), (Instr.loadAt 49 (.pointer (some ⟨g2, 1, none⟩))).run Tryd.prog w2 = .ok (.agg t17) w2 ∧
            (∃ (t19 : Array Value), (Instr.loadAt 22 (.pointer (some ⟨g2, 17, none⟩))).run Tryd.prog w2 = .ok (.agg t19) w2 ∧
              (Calls Tryd.prog 22 #[(.string t15), (.agg t17), (.agg t19)] w2 fun (e20 : Ending) (w3 : World) => ∃ (t20_0a : Option Addr) (t20_0n : Nat) (t20_0c : Nat) (t20_1 : Value), e20 = .returned (.tuple #[(.slice t20_0a t20_0n t20_0c), t20_1]) ∧
                (∃ J : Bool → World → Prop, (∃ (t24 : ByteArray), (Instr.loadAt 9 (.pointer (some ⟨g2, 0, none⟩))).run Tryd.prog w3 = .ok (.string t24) w3 ∧
                    (((decide ((t24.size : Int) < (1 : Int))) = true →
                        (J true w3)) ∧
                      ((decide ((t24.size : Int) < (1 : Int))) = false →
                        (∃ (t29 : ByteArray), (Instr.loadAt 9 (.pointer (some ⟨g2, 0, none⟩))).run Tryd.prog w3 = .ok (.string t29) w3 ∧
                          (J (decide ((t29.size : Int) > (1024 : Int))) w3))))) ∧
                  (∀ (x32 : Bool), ∀ w4 : World, J x32 w4 →
                    ((x32 = true →
                        (∃ (t35 : ByteArray), (Instr.loadAt 9 (.pointer (some ⟨g2, 0, none⟩))).run Tryd.prog w4 = .ok (.string t35) w4 ∧
                          (∃ (t37a : Option Addr) (t37n : Nat) (t37c : Nat), (Instr.loadAt 25 (.pointer (some ⟨g2, 49, none⟩))).run Tryd.prog w4 = .ok (.slice t37a t37n t37c) w4 ∧
                            (Calls Tryd.prog 24 #[(.string t35), (.slice t37a t37n t37c)] w4 fun (e38 : Ending) (w5 : World) => ∃ (t38_0 : Array Value) (t38_1 : Value), e38 = .returned (.tuple #[(.agg t38_0), t38_1]) ∧
                              (∃ (g7 : Nat) (w6 : World), (Instr.alloc 22 true (.tuple #[])).run Tryd.prog w5 = .ok (.pointer (some ⟨g7, 0, none⟩)) w6 ∧
                                (∃ w7 : World, (Instr.storeAt 22 (.pointer (some ⟨g7, 0, none⟩)) (.agg t38_0)).run Tryd.prog w6 = .ok () w7 ∧
                                  (∃ (t43 : Bool), (eqlS .eql 36 (.tmp 41) (.tmp 42) t20_1 (.iface 39 (.int .i64 28))).run Tryd.prog w7 = .ok (.bool t43) w7 ∧
                                    (((t43 && (((t20_0n : Nat) : Int) == (0 : Int))) = true →
                                        (∃ (t52 : Bool), (eqlS .eql 36 (.tmp 50) (.tmp 51) t38_1 (.iface 39 (.int .i64 28))).run Tryd.prog w7 = .ok (.bool t52) w7 ∧
                                          (R (.returned (.bool t52)) w7))) ∧
                                      ((t43 && (((t20_0n : Nat) : Int) == (0 : Int))) = false →
                                        (R (.returned (.bool false)) w7)))))))))) ∧
                      (x32 = false →
                        (∃ (t56 : ByteArray), (Instr.loadAt 9 (.pointer (some ⟨g2, 0, none⟩))).run Tryd.prog w4 = .ok (.string t56) w4 ∧
                          (Calls Tryd.prog 24 #[(.string t56), (.slice t20_0a t20_0n t20_0c)] w4 fun (e58 : Ending) (w8 : World) => ∃ (t58_0 : Array Value) (t58_1 : Value), e58 = .returned (.tuple #[(.agg t58_0), t58_1]) ∧
                            (∃ (g9 : Nat) (w9 : World), (Instr.alloc 22 true (.tuple #[])).run Tryd.prog w8 = .ok (.pointer (some ⟨g9, 0, none⟩)) w9 ∧
                              (∃ w10 : World, (Instr.storeAt 22 (.pointer (some ⟨g9, 0, none⟩)) (.agg t58_0)).run Tryd.prog w9 = .ok () w10 ∧
                                (∃ J_1 : Bool → World → Prop, (∃ (t62 : Bool), (eqlS .neq 36 (.tmp 61) (.const .nilIface) t20_1 .nilIface).run Tryd.prog w10 = .ok (.bool t62) w10 ∧
                                    ((t62 = true →
                                        (J_1 true w10)) ∧
                                      (t62 = false →
                                        (∃ (t65 : Bool), (eqlS .neq 36 (.tmp 64) (.const .nilIface) t58_1 .nilIface).run Tryd.prog w10 = .ok (.bool t65) w10 ∧
                                          ((t65 = true →
                                              (J_1 true w10)) ∧
                                            (t65 = false →
                                              (∃ (t68 : Array Value), (Instr.loadAt 22 (.pointer (some ⟨g9, 0, none⟩))).run Tryd.prog w10 = .ok (.agg t68) w10 ∧
                                                (∃ (t70 : Array Value), (Instr.loadAt 22 (.pointer (some ⟨g2, 17, none⟩))).run Tryd.prog w10 = .ok (.agg t70) w10 ∧
                                                  (∃ (t71 : Bool), (eqlS .neq 22 (.tmp 68) (.tmp 70) (.agg t68) (.agg t70)).run Tryd.prog w10 = .ok (.bool t71) w10 ∧
                                                    (J_1 (t71 || (((t20_0n : Nat) : Int) != (101 : Int))) w10)))))))))) ∧
                                  (∀ (x77 : Bool), ∀ w11 : World, J_1 x77 w11 →
                                    ((x77 = true →
                                        (R (.returned (.bool false)) w11)) ∧
                                      (x77 = false →
                                        ((((decide (a1 ≥ (0 : Int))) && (decide (a1 < ((t20_0n : Nat) : Int)))) = true →
                                            (∃ S : World → Prop, S w11.drew ∧
                                              (0 ≤ a1 ∧ a1 ≤ ((t20_0c : Nat) : Int) ∧
                                                (∃ (t88 : ByteArray), (∀ w' : World, S w' → (Instr.loadAt 9 (.pointer (some ⟨g2, 0, none⟩))).run Tryd.prog w' = .ok (.string t88) w') ∧
                                                  (Calls Tryd.prog 24 #[(.string t88), (.slice t20_0a (Int.toNat a1) t20_0c)] w11.drew fun (e92 : Ending) (w12 : World) => ∃ (t92_0 : Array Value) (t92_1 : Value), e92 = .returned (.tuple #[(.agg t92_0), t92_1]) ∧
                                                    (∃ S_1 : World → Prop, (∀ w' : World, S_1 w' → S w') ∧ S_1 w12 ∧
                                                      (∃ w13 : World, (Instr.storeAt 22 (.pointer (some ⟨g9, 0, none⟩)) (.agg t92_0)).run Tryd.prog w12 = .ok () w13 ∧
                                                        (∃ (t97 : Bool), (eqlS .eql 36 (.tmp 95) (.tmp 96) t92_1 (.iface 39 (.int .i64 10))).run Tryd.prog w13 = .ok (.bool t97) w13 ∧
                                                          ((t97 = true →
                                                              (∃ (t99 : Array Value), (Instr.loadAt 22 (.pointer (some ⟨g9, 0, none⟩))).run Tryd.prog w13 = .ok (.agg t99) w13 ∧
                                                                (∃ (t100 : Array Value), (Instr.build 22 #[]).run Tryd.prog w13 = .ok (.agg t100) w13 ∧
                                                                  (∃ (t101 : Bool), (eqlS .eql 22 (.tmp 99) (.tmp 100) (.agg t99) (.agg t100)).run Tryd.prog w13 = .ok (.bool t101) w13 ∧
                                                                    (R (.returned (.bool t101)) w13))))) ∧
                                                            (t97 = false →
                                                              (R (.returned (.bool false)) w13))))))))))) ∧
                                          (((decide (a1 ≥ (0 : Int))) && (decide (a1 < ((t20_0n : Nat) : Int)))) = false →
                                            (∃ S : World → Prop, S w11.drew ∧
                                              (∃ (t105 : ByteArray), (∀ w' : World, S w' → (Instr.loadAt 9 (.pointer (some ⟨g2, 0, none⟩))).run Tryd.prog w' = .ok (.string t105) w') ∧
                                                ((∃ (t106a : Option Addr) (t106n : Nat) (t106c : Nat) (w14 : World), (Instr.buildSlice 25 0 #[]).run Tryd.prog w11.drew = .ok (.slice t106a t106n t106c) w14 ∧
                                                    (∃ S_1 : World → Prop, (∀ w' : World, S_1 w' → S w') ∧ S_1 w14 ∧
                                                      ((∃ (t108a : Option Addr) (t108n : Nat) (t108c : Nat) (w15 : World), (Builtin.append_ #[25, 25] 25 #[(.slice t106a t106n t106c), (.slice t20_0a t20_0n t20_0c)]).run Tryd.prog w14 = .ok (.slice t108a t108n t108c) w15 ∧
                                                          (∃ S_2 : World → Prop, (∀ w' : World, S_2 w' → S_1 w') ∧ S_2 w15 ∧
                                                            (∃ (t109a : Option Addr) (t109n : Nat) (t109c : Nat) (w16 : World), (Instr.buildSlice 25 1 #[(0, (.int .u8 0))]).run Tryd.prog w15 = .ok (.slice t109a t109n t109c) w16 ∧
                                                              (∃ S_3 : World → Prop, (∀ w' : World, S_3 w' → S_2 w') ∧ S_3 w16 ∧
                                                                (∃ (t110a : Option Addr) (t110n : Nat) (t110c : Nat) (w17 : World), (Builtin.append_ #[25, 25] 25 #[(.slice t108a t108n t108c), (.slice t109a t109n t109c)]).run Tryd.prog w16 = .ok (.slice t110a t110n t110c) w17 ∧
                                                                  (∃ S_4 : World → Prop, (∀ w' : World, S_4 w' → S_3 w') ∧ S_4 w17 ∧
                                                                    (Calls Tryd.prog 24 #[(.string t105), (.slice t110a t110n t110c)] w17 fun (e111 : Ending) (w18 : World) => ∃ (t111_0 : Array Value) (t111_1 : Value), e111 = .returned (.tuple #[(.agg t111_0), t111_1]) ∧
                                                                      (∃ S_5 : World → Prop, (∀ w' : World, S_5 w' → S_4 w') ∧ S_5 w18 ∧
                                                                        (∃ (t116 : Bool), (eqlS .eql 36 (.tmp 114) (.tmp 115) t111_1 (.iface 39 (.int .i64 10))).run Tryd.prog w18 = .ok (.bool t116) w18 ∧
                                                                          (R (.returned (.bool t116)) w18)))))))))) ∧
                                                        (∃ (t109a : Option Addr) (t109n : Nat) (t109c : Nat) (w19 : World), (Instr.buildSlice 25 1 #[(0, (.int .u8 0))]).run Tryd.prog w14 = .ok (.slice t109a t109n t109c) w19 ∧
                                                          (∃ S_2 : World → Prop, (∀ w' : World, S_2 w' → S_1 w') ∧ S_2 w19 ∧
                                                            (∃ (t108a : Option Addr) (t108n : Nat) (t108c : Nat) (w20 : World), (Builtin.append_ #[25, 25] 25 #[(.slice t106a t106n t106c), (.slice t20_0a t20_0n t20_0c)]).run Tryd.prog w19 = .ok (.slice t108a t108n t108c) w20 ∧
                                                              (∃ S_3 : World → Prop, (∀ w' : World, S_3 w' → S_2 w') ∧ S_3 w20 ∧
                                                                (∃ (t110a : Option Addr) (t110n : Nat) (t110c : Nat) (w21 : World), (Builtin.append_ #[25, 25] 25 #[(.slice t108a t108n t108c), (.slice t109a t109n t109c)]).run Tryd.prog w20 = .ok (.slice t110a t110n t110c) w21 ∧
                                                                  (∃ S_4 : World → Prop, (∀ w' : World, S_4 w' → S_3 w') ∧ S_4 w21 ∧
                                                                    (Calls Tryd.prog 24 #[(.string t105), (.slice t110a t110n t110c)] w21 fun (e111 : Ending) (w22 : World) => ∃ (t111_0 : Array Value) (t111_1 : Value), e111 = .returned (.tuple #[(.agg t111_0), t111_1]) ∧
                                                                      (∃ S_5 : World → Prop, (∀ w' : World, S_5 w' → S_4 w') ∧ S_5 w22 ∧
                                                                        (∃ (t116 : Bool), (eqlS .eql 36 (.tmp 114) (.tmp 115) t111_1 (.iface 39 (.int .i64 10))).run Tryd.prog w22 = .ok (.bool t116) w22 ∧
                                                                          (R (.returned (.bool t116)) w22))))))))))))) ∧
                                                  (∃ (t109a : Option Addr) (t109n : Nat) (t109c : Nat) (w23 : World), (Instr.buildSlice 25 1 #[(0, (.int .u8 0))]).run Tryd.prog w11.drew = .ok (.slice t109a t109n t109c) w23 ∧
                                                    (∃ S_1 : World → Prop, (∀ w' : World, S_1 w' → S w') ∧ S_1 w23 ∧
                                                      (∃ (t106a : Option Addr) (t106n : Nat) (t106c : Nat) (w24 : World), (Instr.buildSlice 25 0 #[]).run Tryd.prog w23 = .ok (.slice t106a t106n t106c) w24 ∧
                                                        (∃ S_2 : World → Prop, (∀ w' : World, S_2 w' → S_1 w') ∧ S_2 w24 ∧
                                                          (∃ (t108a : Option Addr) (t108n : Nat) (t108c : Nat) (w25 : World), (Builtin.append_ #[25, 25] 25 #[(.slice t106a t106n t106c), (.slice t20_0a t20_0n t20_0c)]).run Tryd.prog w24 = .ok (.slice t108a t108n t108c) w25 ∧
                                                            (∃ S_3 : World → Prop, (∀ w' : World, S_3 w' → S_2 w') ∧ S_3 w25 ∧
                                                              (∃ (t110a : Option Addr) (t110n : Nat) (t110c : Nat) (w26 : World), (Builtin.append_ #[25, 25] 25 #[(.slice t108a t108n t108c), (.slice t109a t109n t109c)]).run Tryd.prog w25 = .ok (.slice t110a t110n t110c) w26 ∧
                                                                (∃ S_4 : World → Prop, (∀ w' : World, S_4 w' → S_3 w') ∧ S_4 w26 ∧
                                                                  (Calls Tryd.prog 24 #[(.string t105), (.slice t110a t110n t110c)] w26 fun (e111 : Ending) (w27 : World) => ∃ (t111_0 : Array Value) (t111_1 : Value), e111 = .returned (.tuple #[(.agg t111_0), t111_1]) ∧
                                                                    (∃ S_5 : World → Prop, (∀ w' : World, S_5 w' → S_4 w') ∧ S_5 w27 ∧
                                                                      (∃ (t116 : Bool), (eqlS .eql 36 (.tmp 114) (.tmp 115) t111_1 (.iface 39 (.int .i64 10))).run Tryd.prog w27 = .ok (.bool t116) w27 ∧
                                                                        (R (.returned (.bool t116)) w27))))))))))))))))))))))))))))))))))))) : Calls Tryd.prog 8 #[(.agg a0), (.int .i64 a1)] w R :=
  calls_of_ev (args := [(.agg a0), (.int .i64 a1)])
    (tc := .seq (.reg (.op .bx (.op .p (.nil)))) (.seq (.seq (.reg (.op (.cl [.bool]) (.op .p (.nil)))) (.cond (.seq (.reg (.op .p (.nil))) (.leaf)) (.leaf))) (.seq (.reg (.op .p (.op (.ld (.str)) (.op .p (.op (.ld (.agg)) (.op .p (.op (.ld (.agg)) (.op (.cl [.slice, .val]) (.op .p (.op .p (.op .p (.op .p (.op .p (.nil)))))))))))))) (.seq (.seq (.join [23, 24, 25, 26, 27, 28, 29, 30, 31, 32] [32] [.bool] (.reg (.op .p (.op (.ld (.str)) (.op .p (.op .p (.op .p (.sp 27 (.op .p (.op .p (.op .p (.op .p (.op .p (.nil)))))) (.op .p (.op (.ld (.str)) (.op .p (.op .p (.op .p (.nil)))))))))))))) (.cond (.seq (.reg (.op .p (.op (.ld (.str)) (.op .p (.op (.ld (.slice)) (.op (.cl [.agg, .val]) (.op .p (.op .p (.op .p (.op .bx (.op .u (.op .p (.nil))))))))))))) (.seq (.reg (.op .p (.op .p (.op (.ld (.bool)) (.op .p (.ap 3 (.op .p (.sp 49 (.op .p (.op .p (.op (.ld (.bool)) (.op .p (.op .p (.nil)))))) (.op .p (.op .p (.op .p (.op .p (.op .p (.nil)))))))))))))) (.leaf))) (.leaf))) (.seq (.reg (.op .p (.op (.ld (.str)) (.op .p (.op (.cl [.agg, .val]) (.op .p (.op .p (.op .p (.op .bx (.op .u (.op .p (.nil)))))))))))) (.seq (.seq (.join [61, 62, 63, 64, 65, 66, 67, 68, 69, 70, 71, 72, 73, 74, 75, 76, 77] [77] [.bool] (.reg (.op .p (.op (.ld (.bool)) (.op .p (.sp 63 (.op .p (.op .p (.op .p (.op .p (.op .p (.op .p (.op .p (.op .p (.op .p (.op .p (.op .p (.op .p (.op .p (.op .p (.nil))))))))))))))) (.op .p (.op (.ld (.bool)) (.op .p (.op .p (.sp 67 (.op .p (.op .p (.op .p (.op .p (.op .p (.op .p (.op .p (.op .p (.op .p (.op .p (.nil))))))))))) (.op (.ld (.agg)) (.op .p (.op (.ld (.agg)) (.op (.ld (.bool)) (.op .p (.op .p (.ap 3 (.nil))))))))))))))))))) (.cond (.seq (.reg (.op .p (.nil))) (.leaf)) (.leaf))) (.seq (.seq (.reg (.op .p (.op .p (.op .p (.ap 4 (.nil)))))) (.cond (.seq (.drawS (.tk 0 .p (.tk 2 .p (.tk 3 .p (.tk 4 .sl (.ts 1 (.str) (.go 5 (.cl [.agg, .val]) (.tk 6 .p (.tk 7 .p (.tk 8 .p (.go 9 .u (.tk 10 .p (.nil)))))))))))) [7, 8, 9, 10]) (.seq (.reg (.op .p (.op .p (.op (.ld (.bool)) (.op .p (.sp 98 (.op (.ld (.agg)) (.op (.ld (.agg)) (.op (.ld (.bool)) (.op .p (.op .p (.nil)))))) (.op .p (.op .p (.op .p (.op .p (.op .p (.nil)))))))))))) (.leaf))) (.leaf))) (.seq (.drawS (.tk 0 .p (.tk 3 .p (.ts 1 (.str) (.two 2 (.r (.slice)) (.two 4 (.r (.slice)) (.go 5 (.r (.slice)) (.go 6 (.r (.slice)) (.go 7 (.cl [.agg, .val]) (.tk 8 .p (.tk 9 .p (.tk 10 .p (.tk 11 .p (.nil)))))))) 5 (.r (.slice)) (.go 4 (.r (.slice)) (.go 6 (.r (.slice)) (.go 7 (.cl [.agg, .val]) (.tk 8 .p (.tk 9 .p (.tk 10 .p (.tk 11 .p (.nil))))))))) 5 (.r (.slice)) (.go 2 (.r (.slice)) (.go 4 (.r (.slice)) (.go 6 (.r (.slice)) (.go 7 (.cl [.agg, .val]) (.tk 8 .p (.tk 9 .p (.tk 10 .p (.tk 11 .p (.nil))))))))))))) []) (.seq (.reg (.op .p (.op .p (.op (.ld (.bool)) (.op .p (.nil)))))) (.leaf))))))))))
    (by kernel_rfl) Tryd.func8 (by kernel_rfl) (by kernel_rfl) (by kernel_rfl) (by kernel_rfl) h

end Go.Proofs.YtlhhmoljlmmnoaaDoor
