/- Verification conditions of functions, printed by the session's own program vc.py: out of each, Calls (conditions: none). -/
import Derived.Test.YtmdandkoajocpaaGreatDoorRows
import Derived.Test.YtmdandkoajocpaaGreatDoorSxRun
namespace Go.Proofs.YtmdandkoajocpaaGreatDoor
open Go Go.Proofs.YtmdandkoajocpaaGreatDoor.Sx

set_option maxRecDepth 100000 in
theorem amphoralaw13_alive_vc  (w : World) (R : Ending → World → Prop) (h :
  ∃ (t8 : Array Value), (Instr.build 22 #[(0, (.int .u8 9))]).run Tryz.prog w = .ok (.agg t8) w ∧
  (Calls Tryz.prog 9 #[(.agg t8)] w fun (e9 : Ending) (w1 : World) => ∃ (t9 : Array Value), e9 = .returned (.agg t9) ∧
    (∃ (g1 : Nat) (w2 : World), (Instr.alloc 28 true (.tuple #[])).run Tryz.prog w1 = .ok (.pointer (some ⟨g1, 0, none⟩)) w2 ∧
      (∃ w3 : World, (Instr.storeAt 28 (.pointer (some ⟨g1, 0, none⟩)) (.agg t9)).run Tryz.prog w2 = .ok () w3 ∧
        (∃ (t11 : Array Value), (Instr.loadAt 28 (.pointer (some ⟨g1, 0, none⟩))).run Tryz.prog w3 = .ok (.agg t11) w3 ∧
          (Calls Tryz.prog 11 #[(.agg t11), (.int .i64 5), (.slice none 0 0)] w3 fun (e12 : Ending) (w4 : World) => ∃ (t12_0a : Option Addr) (t12_0n : Nat) (t12_0c : Nat) (t12_1a : Option Addr) (t12_1n : Nat) (t12_1c : Nat) (t12_2 : Value), e12 = .returned (.tuple #[(.slice t12_0a t12_0n t12_0c), (.slice t12_1a t12_1n t12_1c), t12_2]) ∧
            (∃ (t17 : Bool), (eqlS .neq 36 (.tmp 16) (.const .nilIface) t12_2 .nilIface).run Tryz.prog w4 = .ok (.bool t17) w4 ∧
              ((((t17 || (((t12_1n : Nat) : Int) != (0 : Int))) || (((t12_0n : Nat) : Int) != (63 : Int))) = true →
                  (R (.returned (.bool false)) w4)) ∧
                (((t17 || (((t12_1n : Nat) : Int) != (0 : Int))) || (((t12_0n : Nat) : Int) != (63 : Int))) = false →
                  (∃ (t29 : Array Value), (Instr.loadAt 28 (.pointer (some ⟨g1, 0, none⟩))).run Tryz.prog w4 = .ok (.agg t29) w4 ∧
                    (Calls Tryz.prog 26 #[(.agg t29), (.int .i64 5), (.slice t12_0a t12_0n t12_0c)] w4 fun (e31 : Ending) (w5 : World) => ∃ (t31_0a : Option Addr) (t31_0n : Nat) (t31_0c : Nat) (t31_1 : Value), e31 = .returned (.tuple #[(.slice t31_0a t31_0n t31_0c), t31_1]) ∧
                      (∃ (t35 : Array Value), (Instr.loadAt 28 (.pointer (some ⟨g1, 0, none⟩))).run Tryz.prog w5 = .ok (.agg t35) w5 ∧
                        (Calls Tryz.prog 26 #[(.agg t35), (.int .i64 6), (.slice t12_0a t12_0n t12_0c)] w5 fun (e37 : Ending) (w6 : World) => ∃ (t37_0a : Option Addr) (t37_0n : Nat) (t37_0c : Nat) (t37_1 : Value), e37 = .returned (.tuple #[(.slice t37_0a t37_0n t37_0c), t37_1]) ∧
                          (∃ (t41 : Bool), (eqlS .eql 36 (.tmp 40) (.const .nilIface) t31_1 .nilIface).run Tryz.prog w6 = .ok (.bool t41) w6 ∧
                            (((t41 && (((t31_0n : Nat) : Int) == (0 : Int))) = true →
                                (∃ (t50 : Bool), (eqlS .eql 36 (.tmp 48) (.tmp 49) t37_1 (.iface 69 (.int .i64 17))).run Tryz.prog w6 = .ok (.bool t50) w6 ∧
                                  ((t50 = true →
                                      (Calls Tryz.prog 19 #[(.int .i64 5)] w6 fun (e53 : Ending) (w7 : World) => ∃ (t53 : ByteArray), e53 = .returned (.string t53) ∧
                                        (R (.returned (.bool (t53.toList == (ByteArray.mk #[112, 53]).toList))) w7))) ∧
                                    (t50 = false →
                                      (R (.returned (.bool false)) w6))))) ∧
                              ((t41 && (((t31_0n : Nat) : Int) == (0 : Int))) = false →
                                (R (.returned (.bool false)) w6))))))))))))))))) : Calls Tryz.prog 7 #[] w R :=
  calls_of_ev (args := [])
    (tc := .seq (.reg (.op .p (.nil))) (.seq (.reg (.op (.ld (.agg)) (.op (.cl [.agg]) (.op .bx (.op .u (.nil)))))) (.seq (.reg (.op (.ld (.agg)) (.op (.cl [.slice, .slice, .val]) (.op .p (.op .p (.op .p (.op .p (.op .p (.op .p (.op .p (.nil))))))))))) (.seq (.seq (.reg (.op .p (.op (.ld (.bool)) (.op .p (.ap 3 (.op .p (.ap 3 (.nil)))))))) (.cond (.seq (.reg (.op .p (.nil))) (.leaf)) (.leaf))) (.seq (.reg (.op (.ld (.agg)) (.op .p (.op (.cl [.slice, .val]) (.op .p (.op .p (.op .p (.op .p (.op .p (.nil)))))))))) (.seq (.reg (.op (.ld (.agg)) (.op .p (.op (.cl [.slice, .val]) (.op .p (.op .p (.op .p (.op .p (.op .p (.nil)))))))))) (.seq (.reg (.op .p (.op (.ld (.bool)) (.op .p (.ap 3 (.op .p (.sp 47 (.op .p (.op .p (.op (.ld (.bool)) (.op .p (.op .p (.sp 52 (.op (.cl [.str]) (.op .p (.op .p (.op .p (.nil))))) (.op .p (.op .p (.op .p (.op .p (.nil))))))))))) (.op .p (.op .p (.op .p (.op .p (.op .p (.op .p (.op .p (.op .p (.op .p (.nil))))))))))))))))) (.leaf))))))))
    (by kernel_rfl) Tryz.func7 (by kernel_rfl) (by kernel_rfl) (by kernel_rfl) (by kernel_rfl) h

set_option maxRecDepth 100000 in
theorem amphoralaw13_Case_items_vc (a0 : Array Value) (w : World) (R : Ending → World → Prop) (h :
  ∃ (g1 : Nat) (w1 : World), (Instr.box 25 (.agg a0)).run Tryz.prog w = .ok (.pointer (some ⟨g1, 0, none⟩)) w1 ∧
  (∃ (t10a : Option Addr) (t10n : Nat) (t10c : Nat) (w2 : World), (Instr.buildSlice 30 0 #[]).run Tryz.prog w1 = .ok (.slice t10a t10n t10c) w2 ∧
    (∃ (t11a : Option Addr) (t11n : Nat) (t11c : Nat) (w3 : World), (Instr.buildSlice 30 0 #[]).run Tryz.prog w2 = .ok (.slice t11a t11n t11c) w3 ∧
      (∃ (t13a : Option Addr) (t13n : Nat) (t13c : Nat), (Instr.loadAt 23 (.pointer (some ⟨g1, 34, none⟩))).run Tryz.prog w3 = .ok (.slice t13a t13n t13c) w3 ∧
        (∃ (I : Option Addr → Nat → Nat → Option Addr → Nat → Nat → Int → World → Prop) (μ : Option Addr → Nat → Nat → Option Addr → Nat → Nat → Int → World → Nat), I t10a t10n t10c t11a t11n t11c 0 w3 ∧
          (∀ (x4a : Option Addr) (x4n : Nat) (x4c : Nat) (x5a : Option Addr) (x5n : Nat) (x5c : Nat) (x15 : Int), ∀ w4 : World, I x4a x4n x4c x5a x5n x5c x15 w4 →
            (((decide (x15 < ((t13n : Nat) : Int))) = true →
                (∃ (t18b t18o : Nat), t13a = some ⟨t18b, t18o, none⟩ ∧ 0 ≤ x15 ∧ x15 < ((t13n : Nat) : Int) ∧
                  (∃ (t19a : Option Addr) (t19n : Nat) (t19c : Nat), (Instr.loadAt 33 (.pointer (some ⟨t18b, t18o + Int.toNat x15 * 1, none⟩))).run Tryz.prog w4 = .ok (.slice t19a t19n t19c) w4 ∧
                    (∃ (t20 : Array Value), (Instr.build 44 #[]).run Tryz.prog w4 = .ok (.agg t20) w4 ∧
                      (∃ (g8 : Nat) (w5 : World), (Instr.alloc 44 true (.tuple #[])).run Tryz.prog w4 = .ok (.pointer (some ⟨g8, 0, none⟩)) w5 ∧
                        (∃ w6 : World, (Instr.storeAt 44 (.pointer (some ⟨g8, 0, none⟩)) (.agg t20)).run Tryz.prog w5 = .ok () w6 ∧
                          (∃ (t23a : Option Addr) (t23n : Nat) (t23c : Nat), (Instr.loadAt 23 (.pointer (some ⟨g1, 33, none⟩))).run Tryz.prog w6 = .ok (.slice t23a t23n t23c) w6 ∧
                            (∃ J : World → Prop, (((decide (x15 < ((t23n : Nat) : Int))) = true →
                                  (∃ S : World → Prop, S w6.drew ∧
                                    (0 ≤ ((32 : Nat) : Int) ∧ ((32 : Nat) : Int) ≤ ((32 : Nat) : Int) ∧
                                      (∃ (t28a : Option Addr) (t28n : Nat) (t28c : Nat), (∀ w' : World, S w' → (Instr.loadAt 23 (.pointer (some ⟨g1, 33, none⟩))).run Tryz.prog w' = .ok (.slice t28a t28n t28c) w') ∧
                                        (∃ (t30b t30o : Nat), t28a = some ⟨t30b, t30o, none⟩ ∧ 0 ≤ x15 ∧ x15 < ((t28n : Nat) : Int) ∧
                                          (∃ (t31a : Option Addr) (t31n : Nat) (t31c : Nat), (∀ w' : World, S w' → (Instr.loadAt 33 (.pointer (some ⟨t30b, t30o + Int.toNat x15 * 1, none⟩))).run Tryz.prog w' = .ok (.slice t31a t31n t31c) w') ∧
                                            (∃ (t32 : Int) (w7 : World), (Builtin.copy_ #[33, 33] 3 #[(.slice (some ⟨g8, 0, none⟩) (32) 32), (.slice t31a t31n t31c)]).run Tryz.prog w6.drew = .ok (.int .i64 t32) w7 ∧
                                              (∃ S_1 : World → Prop, (∀ w' : World, S_1 w' → S w') ∧ S_1 w7 ∧
                                                (J  w7))))))))) ∧
                                ((decide (x15 < ((t23n : Nat) : Int))) = false →
                                  (J  w6))) ∧
                              (∀ w8 : World, J  w8 →
                                (∃ (t34 : Array Value), (Instr.loadAt 44 (.pointer (some ⟨g8, 0, none⟩))).run Tryz.prog w8 = .ok (.agg t34) w8 ∧
                                  (∃ (t36 : Array Value), (Instr.build 46 #[(0, (.agg t34)), (1, (.slice t19a t19n t19c))]).run Tryz.prog w8 = .ok (.agg t36) w8 ∧
                                    (∃ (t37a : Option Addr) (t37n : Nat) (t37c : Nat) (w9 : World), (Instr.buildSlice 30 1 #[(0, (.agg t36))]).run Tryz.prog w8 = .ok (.slice t37a t37n t37c) w9 ∧
                                      (∃ (t38a : Option Addr) (t38n : Nat) (t38c : Nat) (w10 : World), (Builtin.append_ #[30, 30] 30 #[(.slice x4a x4n x4c), (.slice t37a t37n t37c)]).run Tryz.prog w9 = .ok (.slice t38a t38n t38c) w10 ∧
                                        (Calls Tryz.prog 38 #[(.slice t19a t19n t19c)] w10 fun (e40 : Ending) (w11 : World) => ∃ (t40a : Option Addr) (t40n : Nat) (t40c : Nat), e40 = .returned (.slice t40a t40n t40c) ∧
                                          (∃ (t42 : Array Value), (Instr.loadAt 44 (.pointer (some ⟨g8, 0, none⟩))).run Tryz.prog w11 = .ok (.agg t42) w11 ∧
                                            (∃ (t44 : Array Value), (Instr.build 46 #[(0, (.agg t42)), (1, (.slice t40a t40n t40c))]).run Tryz.prog w11 = .ok (.agg t44) w11 ∧
                                              (∃ (t45a : Option Addr) (t45n : Nat) (t45c : Nat) (w12 : World), (Instr.buildSlice 30 1 #[(0, (.agg t44))]).run Tryz.prog w11 = .ok (.slice t45a t45n t45c) w12 ∧
                                                (∃ (t46a : Option Addr) (t46n : Nat) (t46c : Nat) (w13 : World), (Builtin.append_ #[30, 30] 30 #[(.slice x5a x5n x5c), (.slice t45a t45n t45c)]).run Tryz.prog w12 = .ok (.slice t46a t46n t46c) w13 ∧
                                                  (I t38a t38n t38c t46a t46n t46c (IntKind.wrap .i64 (x15 + (1 : Int))) w13 ∧ μ t38a t38n t38c t46a t46n t46c (IntKind.wrap .i64 (x15 + (1 : Int))) w13 < μ x4a x4n x4c x5a x5n x5c x15 w4))))))))))))))))))) ∧
              ((decide (x15 < ((t13n : Nat) : Int))) = false →
                (R (.returned (.tuple #[(.slice x4a x4n x4c), (.slice x5a x5n x5c)])) w4))))))))) : Calls Tryz.prog 10 #[(.agg a0)] w R :=
  calls_of_ev (args := [(.agg a0)])
    (tc := .seq (.reg (.op .bx (.op .p (.op .p (.nil))))) (.seq (.reg (.op (.r (.slice)) (.op .p (.nil)))) (.seq (.reg (.op (.r (.slice)) (.op .p (.nil)))) (.seq (.seq (.reg (.op .p (.op (.ld (.slice)) (.op .p (.op .p (.nil)))))) (.blk (.loop [4, 5, 6, 7, 8, 9, 15, 16, 17, 18, 19, 20, 21, 22, 23, 24, 25, 26, 27, 28, 29, 30, 31, 32, 33, 34, 35, 36, 37, 38, 39, 40, 41, 42, 43, 44, 45, 46, 47] [4, 5, 15] [.slice, .slice, .int .i64] (.seq (.reg (.op .p (.nil))) (.seq (.cond (.leaf) (.leaf)) (.seq (.blk (.seq (.reg (.op .p (.op .ix (.op (.ld (.slice)) (.op .p (.op .p (.nil))))))) (.seq (.reg (.op (.ld (.agg)) (.op .bx (.op .u (.nil))))) (.seq (.seq (.reg (.op .p (.op .p (.op (.ld (.slice)) (.op .p (.op .p (.nil))))))) (.join [26, 27, 28, 29, 30, 31, 32] [] [] (.cond (.drawS (.tk 0 .sl (.tk 1 .p (.tk 3 .p (.ts 2 (.slice) (.tk 4 .ix (.ts 5 (.slice) (.go 6 (.r (.int .i64)) (.nil)))))))) []) (.leaf)))) (.seq (.reg (.op .p (.op (.ld (.agg)) (.op .p (.op (.ld (.agg)) (.op (.r (.slice)) (.op (.r (.slice)) (.op .p (.nil))))))))) (.seq (.reg (.op .p (.op (.cl [.slice]) (.op .p (.nil))))) (.reg (.op .p (.op (.ld (.agg)) (.op .p (.op (.ld (.agg)) (.op (.r (.slice)) (.op (.r (.slice)) (.op .p (.nil))))))))))))))) (.reg (.op .p (.op .p (.nil)))))))))) (.seq (.reg (.op .p (.op .p (.op .p (.op .p (.nil)))))) (.leaf))))))
    (by kernel_rfl) Tryz.func10 (by kernel_rfl) (by kernel_rfl) (by kernel_rfl) (by kernel_rfl) h

set_option maxRecDepth 100000 in
theorem amphoralaw13_Case_large_vc (a0 : Array Value) (w : World) (R : Ending → World → Prop) (h :
  ∃ (g1 : Nat) (w1 : World), (Instr.box 25 (.agg a0)).run Tryz.prog w = .ok (.pointer (some ⟨g1, 0, none⟩)) w1 ∧
  (∃ (t4a : Option Addr) (t4n : Nat) (t4c : Nat), (Instr.loadAt 23 (.pointer (some ⟨g1, 34, none⟩))).run Tryz.prog w1 = .ok (.slice t4a t4n t4c) w1 ∧
    (((decide (((t4n : Nat) : Int) > (100 : Int))) = true →
        (R (.returned (.bool true)) w1)) ∧
      ((decide (((t4n : Nat) : Int) > (100 : Int))) = false →
        (∃ (t9a : Option Addr) (t9n : Nat) (t9c : Nat), (Instr.loadAt 23 (.pointer (some ⟨g1, 34, none⟩))).run Tryz.prog w1 = .ok (.slice t9a t9n t9c) w1 ∧
          (Calls Tryz.prog 36 #[(.slice t9a t9n t9c), (.int .i64 1048576)] w1 fun (e10 : Ending) (w2 : World) => ∃ (t10 : Int), e10 = .returned (.int .i64 t10) ∧
            (R (.returned (.bool (decide (t10 > (16384 : Int))))) w2))))))) : Calls Tryz.prog 8 #[(.agg a0)] w R :=
  calls_of_ev (args := [(.agg a0)])
    (tc := .seq (.reg (.op .bx (.op .p (.nil)))) (.seq (.reg (.op .p (.op (.ld (.slice)) (.op .p (.op .p (.op .p (.sp 7 (.op .p (.op .p (.op .p (.op .p (.op .p (.op .p (.nil))))))) (.op .p (.op (.ld (.slice)) (.op (.cl [.int .i64]) (.op .p (.op .p (.op .p (.nil)))))))))))))) (.leaf)))
    (by kernel_rfl) Tryz.func8 (by kernel_rfl) (by kernel_rfl) (by kernel_rfl) (by kernel_rfl) h

set_option maxRecDepth 100000 in
theorem amphoralaw13_PackBuilds_vc (a0 : Array Value) (w : World) (R : Ending → World → Prop) (h :
  ∃ (g1 : Nat) (w1 : World), (Instr.box 25 (.agg a0)).run Tryz.prog w = .ok (.pointer (some ⟨g1, 0, none⟩)) w1 ∧
  (Calls Tryz.prog 7 #[] w1 fun (e13 : Ending) (w2 : World) => ∃ (t13 : Bool), e13 = .returned (.bool t13) ∧
    (((!t13) = true →
        (R (.returned (.bool false)) w2)) ∧
      ((!t13) = false →
        (∃ (t15 : Array Value), (Instr.loadAt 25 (.pointer (some ⟨g1, 0, none⟩))).run Tryz.prog w2 = .ok (.agg t15) w2 ∧
          (Calls Tryz.prog 8 #[(.agg t15)] w2 fun (e16 : Ending) (w3 : World) => ∃ (t16 : Bool), e16 = .returned (.bool t16) ∧
            ((t16 = true →
                (R (.returned (.bool true)) w3)) ∧
              (t16 = false →
                (∃ (t18 : Array Value), (Instr.loadAt 22 (.pointer (some ⟨g1, 0, none⟩))).run Tryz.prog w3 = .ok (.agg t18) w3 ∧
                  (Calls Tryz.prog 9 #[(.agg t18)] w3 fun (e19 : Ending) (w4 : World) => ∃ (t19 : Array Value), e19 = .returned (.agg t19) ∧
                    (∃ (g3 : Nat) (w5 : World), (Instr.alloc 28 true (.tuple #[])).run Tryz.prog w4 = .ok (.pointer (some ⟨g3, 0, none⟩)) w5 ∧
                      (∃ w6 : World, (Instr.storeAt 28 (.pointer (some ⟨g3, 0, none⟩)) (.agg t19)).run Tryz.prog w5 = .ok () w6 ∧
                        (∃ (t21 : Array Value), (Instr.loadAt 25 (.pointer (some ⟨g1, 0, none⟩))).run Tryz.prog w6 = .ok (.agg t21) w6 ∧
                          (Calls Tryz.prog 10 #[(.agg t21)] w6 fun (e22 : Ending) (w7 : World) => ∃ (t22_0a : Option Addr) (t22_0n : Nat) (t22_0c : Nat) (t22_1a : Option Addr) (t22_1n : Nat) (t22_1c : Nat), e22 = .returned (.tuple #[(.slice t22_0a t22_0n t22_0c), (.slice t22_1a t22_1n t22_1c)]) ∧
                            (∃ (t26 : Array Value), (Instr.loadAt 28 (.pointer (some ⟨g3, 0, none⟩))).run Tryz.prog w7 = .ok (.agg t26) w7 ∧
                              (∃ (t28 : Int), (Instr.loadAt 3 (.pointer (some ⟨g1, 32, none⟩))).run Tryz.prog w7 = .ok (.int .i64 t28) w7 ∧
                                (Calls Tryz.prog 11 #[(.agg t26), (.int .i64 t28), (.slice t22_1a t22_1n t22_1c)] w7 fun (e30 : Ending) (w8 : World) => ∃ (t30_0a : Option Addr) (t30_0n : Nat) (t30_0c : Nat) (t30_1a : Option Addr) (t30_1n : Nat) (t30_1c : Nat) (t30_2 : Value), e30 = .returned (.tuple #[(.slice t30_0a t30_0n t30_0c), (.slice t30_1a t30_1n t30_1c), t30_2]) ∧
                                  (∃ (t35 : Array Value), (Instr.loadAt 28 (.pointer (some ⟨g3, 0, none⟩))).run Tryz.prog w8 = .ok (.agg t35) w8 ∧
                                    (∃ (t37 : Int), (Instr.loadAt 3 (.pointer (some ⟨g1, 32, none⟩))).run Tryz.prog w8 = .ok (.int .i64 t37) w8 ∧
                                      (Calls Tryz.prog 12 #[(.agg t35), (.int .i64 t37), (.slice t22_0a t22_0n t22_0c)] w8 fun (e39 : Ending) (w9 : World) => ∃ (t39_0a : Option Addr) (t39_0n : Nat) (t39_0c : Nat) (t39_1a : Option Addr) (t39_1n : Nat) (t39_1c : Nat) (t39_2 : Int), e39 = .returned (.tuple #[(.slice t39_0a t39_0n t39_0c), (.slice t39_1a t39_1n t39_1c), (.int .i64 t39_2)]) ∧
                                        (∃ J : Bool → World → Prop, (∃ (t44 : ByteArray), (convert 33 9 (.slice t30_0a t30_0n t30_0c)).run Tryz.prog w9 = .ok (.string t44) w9 ∧
                                            (∃ (t46 : ByteArray), (convert 33 9 (.slice t39_0a t39_0n t39_0c)).run Tryz.prog w9 = .ok (.string t46) w9 ∧
                                              (((!(t44.toList == t46.toList)) = true →
                                                  (J true w9)) ∧
                                                ((!(t44.toList == t46.toList)) = false →
                                                  (Calls Tryz.prog 13 #[(.slice t30_1a t30_1n t30_1c), (.slice t39_1a t39_1n t39_1c)] w9 fun (e51 : Ending) (w10 : World) => ∃ (t51 : Bool), e51 = .returned (.bool t51) ∧
                                                    (((!t51) = true →
                                                        (J true w10)) ∧
                                                      ((!t51) = false →
                                                        (Calls Tryz.prog 14 #[t30_2] w10 fun (e56 : Ending) (w11 : World) => ∃ (t56 : Int), e56 = .returned (.int .i64 t56) ∧
                                                          (J (t56 != t39_2) w11))))))))) ∧
                                          (∀ (x59 : Bool), ∀ w12 : World, J x59 w12 →
                                            ((x59 = true →
                                                (R (.returned (.bool false)) w12)) ∧
                                              (x59 = false →
                                                (∃ (I : Int → World → Prop) (μ : Int → World → Nat), I 0 w12 ∧
                                                  (∀ (x62 : Int), ∀ w13 : World, I x62 w13 →
                                                    (((decide (x62 < ((t22_0n : Nat) : Int))) = true →
                                                        (∃ J_1 : Bool → World → Prop, (∃ S : World → Prop, S w13.drew ∧
                                                            (∃ (t67b t67o : Nat), t22_1a = some ⟨t67b, t67o, none⟩ ∧ 0 ≤ x62 ∧ x62 < ((t22_1n : Nat) : Int) ∧
                                                              (∃ (t72b t72o : Nat), t22_0a = some ⟨t72b, t72o, none⟩ ∧ 0 ≤ x62 ∧ x62 < ((t22_0n : Nat) : Int) ∧
                                                                (∃ (t69a : Option Addr) (t69n : Nat) (t69c : Nat), (∀ w' : World, S w' → (Instr.loadAt 33 (.pointer (some ⟨t67b, t67o + Int.toNat x62 * 33 + 32, none⟩))).run Tryz.prog w' = .ok (.slice t69a t69n t69c) w') ∧
                                                                  (∃ (t74a : Option Addr) (t74n : Nat) (t74c : Nat), (∀ w' : World, S w' → (Instr.loadAt 33 (.pointer (some ⟨t72b, t72o + Int.toNat x62 * 33 + 32, none⟩))).run Tryz.prog w' = .ok (.slice t74a t74n t74c) w') ∧
                                                                    (Calls Tryz.prog 15 #[(.slice t69a t69n t69c), (.slice t74a t74n t74c)] w13.drew fun (e75 : Ending) (w14 : World) => ∃ (t75 : Bool), e75 = .returned (.bool t75) ∧
                                                                      (∃ S_1 : World → Prop, (∀ w' : World, S_1 w' → S w') ∧ S_1 w14 ∧
                                                                        (((!t75) = true →
                                                                            (J_1 true w14)) ∧
                                                                          ((!t75) = false →
                                                                            (∃ (t80b t80o : Nat), t22_1a = some ⟨t80b, t80o, none⟩ ∧ 0 ≤ x62 ∧ x62 < ((t22_1n : Nat) : Int) ∧
                                                                              (∃ (t85b t85o : Nat), t22_0a = some ⟨t85b, t85o, none⟩ ∧ 0 ≤ x62 ∧ x62 < ((t22_0n : Nat) : Int) ∧
                                                                                (∃ (t82 : Array Value), (∀ w' : World, S_1 w' → (Instr.loadAt 44 (.pointer (some ⟨t80b, t80o + Int.toNat x62 * 33, none⟩))).run Tryz.prog w' = .ok (.agg t82) w') ∧
                                                                                (∃ (t87 : Array Value), (∀ w' : World, S_1 w' → (Instr.loadAt 44 (.pointer (some ⟨t85b, t85o + Int.toNat x62 * 33, none⟩))).run Tryz.prog w' = .ok (.agg t87) w') ∧
                                                                                (∃ (t88 : Bool), (∀ w' : World, S_1 w' → (eqlS .neq 44 (.tmp 82) (.tmp 87) (.agg t82) (.agg t87)).run Tryz.prog w' = .ok (.bool t88) w') ∧
                                                                                (J_1 t88 w14))))))))))))))) ∧
                                                          (∀ (x89 : Bool), ∀ w15 : World, J_1 x89 w15 →
                                                            ((x89 = true →
                                                                (R (.returned (.bool false)) w15)) ∧
                                                              (x89 = false →
                                                                (I (IntKind.wrap .i64 (x62 + (1 : Int))) w15 ∧ μ (IntKind.wrap .i64 (x62 + (1 : Int))) w15 < μ x62 w13)))))) ∧
                                                      ((decide (x62 < ((t22_0n : Nat) : Int))) = false →
                                                        (R (.returned (.bool true)) w13))))))))))))))))))))))))))))) : Calls Tryz.prog 3 #[(.agg a0)] w R :=
  calls_of_ev (args := [(.agg a0)])
    (tc := .seq (.reg (.op .bx (.op .p (.nil)))) (.seq (.seq (.reg (.op (.cl [.bool]) (.op .p (.nil)))) (.cond (.seq (.reg (.op .p (.nil))) (.leaf)) (.leaf))) (.seq (.seq (.reg (.op (.ld (.agg)) (.op (.cl [.bool]) (.nil)))) (.cond (.seq (.reg (.op .p (.nil))) (.leaf)) (.leaf))) (.seq (.reg (.op .p (.op (.ld (.agg)) (.op (.cl [.agg]) (.op .bx (.op .u (.nil))))))) (.seq (.reg (.op (.ld (.agg)) (.op (.cl [.slice, .slice]) (.op .p (.op .p (.op .p (.op .p (.op .p (.nil))))))))) (.seq (.reg (.op (.ld (.agg)) (.op .p (.op (.ld (.int .i64)) (.op .p (.op (.cl [.slice, .slice, .val]) (.op .p (.op .p (.op .p (.op .p (.op .p (.op .p (.op .p (.nil)))))))))))))) (.seq (.reg (.op (.ld (.agg)) (.op .p (.op (.ld (.int .i64)) (.op .p (.op (.cl [.slice, .slice, .int .i64]) (.op .p (.op .p (.op .p (.op .p (.op .p (.op .p (.op .p (.nil)))))))))))))) (.seq (.seq (.join [43, 44, 45, 46, 47, 48, 49, 50, 51, 52, 53, 54, 55, 56, 57, 58, 59] [59] [.bool] (.reg (.op .p (.op (.ld (.str)) (.op .p (.op (.ld (.str)) (.op .p (.op .p (.sp 48 (.op .p (.op .p (.op .p (.op .p (.op .p (.op .p (.op .p (.op .p (.op .p (.op .p (.op .p (.nil)))))))))))) (.op .p (.op .p (.op (.cl [.bool]) (.op .p (.op .p (.op .p (.sp 54 (.op .p (.op .p (.op .p (.op .p (.op .p (.nil)))))) (.op .p (.op (.cl [.int .i64]) (.op .p (.op .p (.op .p (.nil)))))))))))))))))))))) (.cond (.seq (.reg (.op .p (.nil))) (.leaf)) (.leaf))) (.seq (.seq (.reg (.op .p (.op .p (.op .p (.nil))))) (.blk (.loop [2, 12, 62, 63, 64, 65, 66, 67, 68, 69, 70, 71, 72, 73, 74, 75, 76, 77, 78, 79, 80, 81, 82, 83, 84, 85, 86, 87, 88, 89, 90] [62] [.int .i64] (.seq (.reg (.op .p (.nil))) (.seq (.cond (.leaf) (.leaf)) (.seq (.blk (.seq (.reg (.op .p (.op .p (.nil)))) (.seq (.join [65, 66, 67, 68, 69, 70, 71, 72, 73, 74, 75, 76, 77, 78, 79, 80, 81, 82, 83, 84, 85, 86, 87, 88, 89] [89] [.bool] (.drawS (.tk 0 .p (.tk 1 .p (.tk 2 .ix (.tk 3 .p (.tk 5 .p (.tk 6 .p (.tk 7 .ix (.tk 8 .p (.ts 4 (.slice) (.ts 9 (.slice) (.go 10 (.cl [.bool]) (.tk 11 .p (.tk 12 .p (.sp 77 (.tk 13 .p (.tk 14 .p (.tk 15 .p (.tk 16 .p (.tk 18 .p (.tk 19 .p (.tk 20 .p (.tk 21 .p (.ts 17 .val (.ts 22 .val (.ts 23 .val (.tk 24 .p (.nil))))))))))))) (.tk 13 .p (.tk 14 .p (.tk 15 .ix (.tk 16 .p (.tk 18 .p (.tk 19 .p (.tk 20 .ix (.tk 21 .p (.ts 17 (.agg) (.ts 22 (.agg) (.ts 23 (.bool) (.tk 24 .p (.nil))))))))))))))))))))))))))) [])) (.cond (.seq (.reg (.op .p (.nil))) (.leaf)) (.leaf))))) (.reg (.op .p (.op .p (.nil)))))))))) (.seq (.reg (.op .p (.nil))) (.leaf)))))))))))
    (by kernel_rfl) Tryz.func3 (by kernel_rfl) (by kernel_rfl) (by kernel_rfl) (by kernel_rfl) h

set_option maxRecDepth 100000 in
theorem amphoralaw13_PackNames_vc (a0 : Int) (a1 : ByteArray) (w : World) (R : Ending → World → Prop) (h :
  Calls Tryz.prog 7 #[] w fun (e9 : Ending) (w1 : World) => ∃ (t9 : Bool), e9 = .returned (.bool t9) ∧
  (((!t9) = true →
      (R (.returned (.bool false)) w1)) ∧
    ((!t9) = false →
      (Calls Tryz.prog 16 #[(.string a1)] w1 fun (e13 : Ending) (w2 : World) => ∃ (t13_0 : Int) (t13_1 : Bool), e13 = .returned (.tuple #[(.int .i64 t13_0), (.bool t13_1)]) ∧
        (Calls Tryz.prog 17 #[(.string a1)] w2 fun (e18 : Ending) (w3 : World) => ∃ (t18_0 : Int) (t18_1 : Bool), e18 = .returned (.tuple #[(.int .i64 t18_0), (.bool t18_1)]) ∧
          ((((t13_0 != t18_0) || (!(t13_1 == t18_1))) = true →
              (R (.returned (.bool false)) w3)) ∧
            (((t13_0 != t18_0) || (!(t13_1 == t18_1))) = false →
              (Calls Tryz.prog 18 #[(.int .i64 a0)] w3 fun (e30 : Ending) (w4 : World) => ∃ (t30 : Bool), e30 = .returned (.bool t30) ∧
                (((!t30) = true →
                    (Calls Tryz.prog 19 #[(.int .i64 a0)] w4 fun (e33 : Ending) (w5 : World) => ∃ (t33 : ByteArray), e33 = .returned (.string t33) ∧
                      (R (.returned (.bool (t33.toList == (ByteArray.mk #[]).toList))) w5))) ∧
                  ((!t30) = false →
                    (Calls Tryz.prog 19 #[(.int .i64 a0)] w4 fun (e37 : Ending) (w6 : World) => ∃ (t37 : ByteArray), e37 = .returned (.string t37) ∧
                      (Calls Tryz.prog 16 #[(.string t37)] w6 fun (e38 : Ending) (w7 : World) => ∃ (t38_0 : Int) (t38_1 : Bool), e38 = .returned (.tuple #[(.int .i64 t38_0), (.bool t38_1)]) ∧
                        (Calls Tryz.prog 19 #[(.int .i64 a0)] w7 fun (e42 : Ending) (w8 : World) => ∃ (t42 : ByteArray), e42 = .returned (.string t42) ∧
                          (Calls Tryz.prog 20 #[(.int .i64 a0)] w8 fun (e44 : Ending) (w9 : World) => ∃ (t44 : ByteArray), e44 = .returned (.string t44) ∧
                            (R (.returned (.bool (((t42.toList == t44.toList) && t38_1) && (t38_0 == a0)))) w9))))))))))))))) : Calls Tryz.prog 4 #[(.int .i64 a0), (.string a1)] w R :=
  calls_of_ev (args := [(.int .i64 a0), (.string a1)])
    (tc := .seq (.reg (.op .p (.nil))) (.seq (.seq (.reg (.op (.cl [.bool]) (.op .p (.nil)))) (.cond (.seq (.reg (.op .p (.nil))) (.leaf)) (.leaf))) (.seq (.reg (.op .p (.op (.cl [.int .i64, .bool]) (.op .p (.op .p (.op .p (.op .p (.op .p (.nil))))))))) (.seq (.reg (.op .p (.op (.cl [.int .i64, .bool]) (.op .p (.op .p (.op .p (.op .p (.op .p (.nil))))))))) (.seq (.seq (.reg (.op .p (.op .p (.op .p (.op .p (.ap 3 (.nil))))))) (.cond (.seq (.reg (.op .p (.nil))) (.leaf)) (.leaf))) (.seq (.seq (.reg (.op .p (.op (.cl [.bool]) (.op .p (.nil))))) (.cond (.seq (.reg (.op .p (.op (.cl [.str]) (.op .p (.op .p (.nil)))))) (.leaf)) (.leaf))) (.seq (.reg (.op .p (.op (.cl [.str]) (.op (.cl [.int .i64, .bool]) (.op .p (.op .p (.op .p (.op .p (.op .p (.nil)))))))))) (.seq (.reg (.op .p (.op (.cl [.str]) (.op .p (.op (.cl [.str]) (.op .p (.op .p (.ap 1 (.op .p (.ap 3 (.op .p (.nil)))))))))))) (.leaf)))))))))
    (by kernel_rfl) Tryz.func4 (by kernel_rfl) (by kernel_rfl) (by kernel_rfl) (by kernel_rfl) h

set_option maxRecDepth 100000 in
theorem amphoralaw13_PackTears_vc (a0 : Array Value) (w : World) (R : Ending → World → Prop) (h :
  ∃ (g1 : Nat) (w1 : World), (Instr.box 57 (.agg a0)).run Tryz.prog w = .ok (.pointer (some ⟨g1, 0, none⟩)) w1 ∧
  (Calls Tryz.prog 7 #[] w1 fun (e19 : Ending) (w2 : World) => ∃ (t19 : Bool), e19 = .returned (.bool t19) ∧
    (((!t19) = true →
        (R (.returned (.bool false)) w2)) ∧
      ((!t19) = false →
        (∃ J : Bool → World → Prop, (∃ (t22 : Array Value), (Instr.loadAt 25 (.pointer (some ⟨g1, 0, none⟩))).run Tryz.prog w2 = .ok (.agg t22) w2 ∧
            (Calls Tryz.prog 8 #[(.agg t22)] w2 fun (e23 : Ending) (w3 : World) => ∃ (t23 : Bool), e23 = .returned (.bool t23) ∧
              ((t23 = true →
                  (J true w3)) ∧
                (t23 = false →
                  (∃ (t27 : Int), (Instr.loadAt 3 (.pointer (some ⟨g1, 32, none⟩))).run Tryz.prog w3 = .ok (.int .i64 t27) w3 ∧
                    (Calls Tryz.prog 18 #[(.int .i64 t27)] w3 fun (e28 : Ending) (w4 : World) => ∃ (t28 : Bool), e28 = .returned (.bool t28) ∧
                      (J (!t28) w4))))))) ∧
          (∀ (x30 : Bool), ∀ w5 : World, J x30 w5 →
            ((x30 = true →
                (R (.returned (.bool true)) w5)) ∧
              (x30 = false →
                (Calls Tryz.prog 21 #[(.int .i64 1048576)] w5 fun (e32 : Ending) (w6 : World) => ∃ (t32_0 : Value) (t32_1 : Value), e32 = .returned (.tuple #[t32_0, t32_1]) ∧
                  (∃ J_1 : Bool → World → Prop, (∃ (t36 : Bool), (eqlS .neq 36 (.tmp 35) (.const .nilIface) t32_1 .nilIface).run Tryz.prog w6 = .ok (.bool t36) w6 ∧
                      ((t36 = true →
                          (J_1 true w6)) ∧
                        (t36 = false →
                          (∃ (t39 : Bool), (eqlS .eql 58 (.tmp 38) (.const (.pointer none)) t32_0 (.pointer none)).run Tryz.prog w6 = .ok (.bool t39) w6 ∧
                            ((t39 = true →
                                (J_1 true w6)) ∧
                              (t39 = false →
                                (∃ (t43 : Int), (Instr.loadAt 3 (.pointer (some ⟨g1, 35, none⟩))).run Tryz.prog w6 = .ok (.int .i64 t43) w6 ∧
                                  (((decide (t43 ≥ (0 : Int))) = true →
                                      (∃ (t48 : Int), (Instr.loadAt 3 (.pointer (some ⟨g1, 35, none⟩))).run Tryz.prog w6 = .ok (.int .i64 t48) w6 ∧
                                        (Calls Tryz.prog 22 #[t32_0, (.int .i64 t48)] w6 fun (e49 : Ending) (w7 : World) => ∃ (t49 : Value), e49 = .returned t49 ∧
                                          (∃ (t50 : Bool), (eqlS .neq 36 (.tmp 49) (.const .nilIface) t49 .nilIface).run Tryz.prog w7 = .ok (.bool t50) w7 ∧
                                            (J_1 t50 w7))))) ∧
                                    ((decide (t43 ≥ (0 : Int))) = false →
                                      (J_1 false w6)))))))))) ∧
                    (∀ (x52 : Bool), ∀ w8 : World, J_1 x52 w8 →
                      ((x52 = true →
                          (R (.returned (.bool false)) w8)) ∧
                        (x52 = false →
                          (∃ (t55 : Array Value), (Instr.loadAt 22 (.pointer (some ⟨g1, 0, none⟩))).run Tryz.prog w8 = .ok (.agg t55) w8 ∧
                            (Calls Tryz.prog 9 #[(.agg t55)] w8 fun (e56 : Ending) (w9 : World) => ∃ (t56 : Array Value), e56 = .returned (.agg t56) ∧
                              (∃ (g5 : Nat) (w10 : World), (Instr.alloc 28 true (.tuple #[])).run Tryz.prog w9 = .ok (.pointer (some ⟨g5, 0, none⟩)) w10 ∧
                                (∃ w11 : World, (Instr.storeAt 28 (.pointer (some ⟨g5, 0, none⟩)) (.agg t56)).run Tryz.prog w10 = .ok () w11 ∧
                                  (∃ (t59 : Array Value), (Instr.loadAt 25 (.pointer (some ⟨g1, 0, none⟩))).run Tryz.prog w11 = .ok (.agg t59) w11 ∧
                                    (Calls Tryz.prog 10 #[(.agg t59)] w11 fun (e60 : Ending) (w12 : World) => ∃ (t60_0a : Option Addr) (t60_0n : Nat) (t60_0c : Nat) (t60_1a : Option Addr) (t60_1n : Nat) (t60_1c : Nat), e60 = .returned (.tuple #[(.slice t60_0a t60_0n t60_0c), (.slice t60_1a t60_1n t60_1c)]) ∧
                                      (∃ (t64 : Array Value), (Instr.loadAt 28 (.pointer (some ⟨g5, 0, none⟩))).run Tryz.prog w12 = .ok (.agg t64) w12 ∧
                                        (∃ (t67 : Int), (Instr.loadAt 3 (.pointer (some ⟨g1, 32, none⟩))).run Tryz.prog w12 = .ok (.int .i64 t67) w12 ∧
                                          (Calls Tryz.prog 11 #[(.agg t64), (.int .i64 t67), (.slice t60_0a t60_0n t60_0c)] w12 fun (e69 : Ending) (w13 : World) => ∃ (t69_0a : Option Addr) (t69_0n : Nat) (t69_0c : Nat) (t69_1a : Option Addr) (t69_1n : Nat) (t69_1c : Nat) (t69_2 : Value), e69 = .returned (.tuple #[(.slice t69_0a t69_0n t69_0c), (.slice t69_1a t69_1n t69_1c), t69_2]) ∧
                                            (∃ (t75 : Array Value), (Instr.loadAt 28 (.pointer (some ⟨g5, 0, none⟩))).run Tryz.prog w13 = .ok (.agg t75) w13 ∧
                                              (∃ (t78 : Int), (Instr.loadAt 3 (.pointer (some ⟨g1, 32, none⟩))).run Tryz.prog w13 = .ok (.int .i64 t78) w13 ∧
                                                (Calls Tryz.prog 23 #[t32_0, (.agg t75), (.int .i64 t78), (.slice t60_0a t60_0n t60_0c)] w13 fun (e80 : Ending) (w14 : World) => ∃ (t80_0a : Option Addr) (t80_0n : Nat) (t80_0c : Nat) (t80_1 : Array Value) (t80_2 : Value), e80 = .returned (.tuple #[(.slice t80_0a t80_0n t80_0c), (.agg t80_1), t80_2]) ∧
                                                  (∃ (t86 : Array Value), (Instr.loadAt 55 (.pointer (some ⟨g1, 36, none⟩))).run Tryz.prog w14 = .ok (.agg t86) w14 ∧
                                                    (Calls Tryz.prog 24 #[t32_0, (.agg t86)] w14 fun (e87 : Ending) (w15 : World) => e87 = .returned (.tuple #[]) ∧
                                                      (∃ (t92 : Int), (Instr.loadAt 3 (.pointer (some ⟨g1, 32, none⟩))).run Tryz.prog w15 = .ok (.int .i64 t92) w15 ∧
                                                        (Calls Tryz.prog 19 #[(.int .i64 t92)] w15 fun (e93 : Ending) (w16 : World) => ∃ (t93 : ByteArray), e93 = .returned (.string t93) ∧
                                                          (Calls Tryz.prog 25 #[t32_0, (.string t93)] w16 fun (e94 : Ending) (w17 : World) => ∃ (t94_0a : Option Addr) (t94_0n : Nat) (t94_0c : Nat) (t94_1 : Value), e94 = .returned (.tuple #[(.slice t94_0a t94_0n t94_0c), t94_1]) ∧
                                                            (∃ J_2 : Bool → World → Prop, (∃ (t98 : Bool), (eqlS .neq 36 (.tmp 97) (.const .nilIface) t69_2 .nilIface).run Tryz.prog w17 = .ok (.bool t98) w17 ∧
                                                                ((t98 = true →
                                                                    (J_2 true w17)) ∧
                                                                  (t98 = false →
                                                                    (∃ (t101 : Bool), (eqlS .neq 36 (.tmp 100) (.const .nilIface) t80_2 .nilIface).run Tryz.prog w17 = .ok (.bool t101) w17 ∧
                                                                      ((t101 = true →
                                                                          (∃ (t105 : Bool), (eqlS .neq 36 (.tmp 103) (.tmp 104) t80_2 (.iface 69 (.int .i64 1))).run Tryz.prog w17 = .ok (.bool t105) w17 ∧
                                                                            (J_2 t105 w17))) ∧
                                                                        (t101 = false →
                                                                          (J_2 false w17))))))) ∧
                                                              (∀ (x107 : Bool), ∀ w18 : World, J_2 x107 w18 →
                                                                ((x107 = true →
                                                                    (R (.returned (.bool false)) w18)) ∧
                                                                  (x107 = false →
                                                                    (∃ (t109 : Bool), (eqlS .neq 36 (.tmp 108) (.const .nilIface) t94_1 .nilIface).run Tryz.prog w18 = .ok (.bool t109) w18 ∧
                                                                      ((t109 = true →
                                                                          (∃ (t112 : Bool), (eqlS .eql 36 (.tmp 110) (.tmp 111) t94_1 (.iface 69 (.int .i64 5))).run Tryz.prog w18 = .ok (.bool t112) w18 ∧
                                                                            (R (.returned (.bool t112)) w18))) ∧
                                                                        (t109 = false →
                                                                          (∃ J_3 : Bool → World → Prop, (∃ S : World → Prop, S w18.drew ∧
                                                                              (((decide (((t94_0n : Nat) : Int) > ((t69_0n : Nat) : Int))) = true →
                                                                                (J_3 true w18.drew)) ∧
                                                                                ((decide (((t94_0n : Nat) : Int) > ((t69_0n : Nat) : Int))) = false →
                                                                                (0 ≤ ((t94_0n : Nat) : Int) ∧ ((t94_0n : Nat) : Int) ≤ ((t69_0c : Nat) : Int) ∧
                                                                                (∃ (t120 : ByteArray), (∀ w' : World, S w' → (convert 33 9 (.slice t94_0a t94_0n t94_0c)).run Tryz.prog w' = .ok (.string t120) w') ∧
                                                                                (∃ (t125 : ByteArray), (∀ w' : World, S w' → (convert 33 9 (.slice t69_0a (t94_0n) t69_0c)).run Tryz.prog w' = .ok (.string t125) w') ∧
                                                                                (((!(t120.toList == t125.toList)) = true →
                                                                                (J_3 true w18.drew)) ∧
                                                                                ((!(t120.toList == t125.toList)) = false →
                                                                                (∃ (t130 : Bool), (∀ w' : World, S w' → (eqlS .eql 36 (.tmp 129) (.const .nilIface) t80_2 .nilIface).run Tryz.prog w' = .ok (.bool t130) w') ∧
                                                                                ((t130 = true →
                                                                                (J_3 (((t94_0n : Nat) : Int) != ((t69_0n : Nat) : Int)) w18.drew)) ∧
                                                                                (t130 = false →
                                                                                (J_3 false w18.drew)))))))))))) ∧
                                                                            (∀ (x138 : Bool), ∀ w19 : World, J_3 x138 w19 →
                                                                              ((x138 = true →
                                                                                (R (.returned (.bool false)) w19)) ∧
                                                                                (x138 = false →
                                                                                (∃ (t140 : Array Value), (Instr.loadAt 28 (.pointer (some ⟨g5, 0, none⟩))).run Tryz.prog w19 = .ok (.agg t140) w19 ∧
                                                                                (∃ (t143 : Int), (Instr.loadAt 3 (.pointer (some ⟨g1, 32, none⟩))).run Tryz.prog w19 = .ok (.int .i64 t143) w19 ∧
                                                                                (Calls Tryz.prog 26 #[(.agg t140), (.int .i64 t143), (.slice t94_0a t94_0n t94_0c)] w19 fun (e145 : Ending) (w20 : World) => ∃ (t145_0a : Option Addr) (t145_0n : Nat) (t145_0c : Nat) (t145_1 : Value), e145 = .returned (.tuple #[(.slice t145_0a t145_0n t145_0c), t145_1]) ∧
                                                                                (∃ J_4 : Bool → World → Prop, (∃ (t149 : Bool), (eqlS .eql 36 (.tmp 148) (.const .nilIface) t145_1 .nilIface).run Tryz.prog w20 = .ok (.bool t149) w20 ∧
                                                                                (((!(t149 == (((t94_0n : Nat) : Int) == ((t69_0n : Nat) : Int)))) = true →
                                                                                (J_4 true w20)) ∧
                                                                                ((!(t149 == (((t94_0n : Nat) : Int) == ((t69_0n : Nat) : Int)))) = false →
                                                                                (∃ (t158 : Bool), (eqlS .eql 36 (.tmp 157) (.const .nilIface) t145_1 .nilIface).run Tryz.prog w20 = .ok (.bool t158) w20 ∧
                                                                                ((t158 = true →
                                                                                (Calls Tryz.prog 13 #[(.slice t145_0a t145_0n t145_0c), (.slice t69_1a t69_1n t69_1c)] w20 fun (e162 : Ending) (w21 : World) => ∃ (t162 : Bool), e162 = .returned (.bool t162) ∧
                                                                                (J_4 (!t162) w21))) ∧
                                                                                (t158 = false →
                                                                                (J_4 false w20))))))) ∧
                                                                                (∀ (x165 : Bool), ∀ w22 : World, J_4 x165 w22 →
                                                                                ((x165 = true →
                                                                                (R (.returned (.bool false)) w22)) ∧
                                                                                (x165 = false →
                                                                                (Calls Tryz.prog 27 #[(.slice t94_0a t94_0n t94_0c)] w22 fun (e168 : Ending) (w23 : World) => ∃ (t168_0 : Int) (t168_1a : Option Addr) (t168_1n : Nat) (t168_1c : Nat) (t168_2 : Int) (t168_3 : Value), e168 = .returned (.tuple #[(.int .i64 t168_0), (.slice t168_1a t168_1n t168_1c), (.int .i64 t168_2), t168_3]) ∧
                                                                                (((decide (((t94_0n : Nat) : Int) < (16 : Int))) = true →
                                                                                (∃ (t178 : Bool), (eqlS .eql 36 (.tmp 176) (.tmp 177) t168_3 (.iface 69 (.int .i64 17))).run Tryz.prog w23 = .ok (.bool t178) w23 ∧
                                                                                (R (.returned (.bool t178)) w23))) ∧
                                                                                ((decide (((t94_0n : Nat) : Int) < (16 : Int))) = false →
                                                                                (∃ S_1 : World → Prop, S_1 w23.drew ∧
                                                                                (∃ (t180 : Bool), (∀ w' : World, S_1 w' → (eqlS .eql 36 (.tmp 179) (.const .nilIface) t168_3 .nilIface).run Tryz.prog w' = .ok (.bool t180) w') ∧
                                                                                ((t180 = true →
                                                                                (∃ (t185 : Int), (∀ w' : World, S_1 w' → (Instr.loadAt 3 (.pointer (some ⟨g1, 32, none⟩))).run Tryz.prog w' = .ok (.int .i64 t185) w') ∧
                                                                                (((t168_0 == t185) = true →
                                                                                (((decide (((t168_1n : Nat) : Int) ≤ ((t69_1n : Nat) : Int))) = true →
                                                                                (0 ≤ ((t168_1n : Nat) : Int) ∧ ((t168_1n : Nat) : Int) ≤ ((t69_1c : Nat) : Int) ∧
                                                                                (Calls Tryz.prog 13 #[(.slice t168_1a t168_1n t168_1c), (.slice t69_1a (t168_1n) t69_1c)] w23.drew fun (e201 : Ending) (w24 : World) => ∃ (t201 : Bool), e201 = .returned (.bool t201) ∧
                                                                                (∃ S_2 : World → Prop, (∀ w' : World, S_2 w' → S_1 w') ∧ S_2 w24 ∧
                                                                                ((t201 = true →
                                                                                (((((t168_1n : Nat) : Int) == ((t69_1n : Nat) : Int)) = true →
                                                                                (R (.returned (.bool true)) w24)) ∧
                                                                                ((((t168_1n : Nat) : Int) == ((t69_1n : Nat) : Int)) = false →
                                                                                (∃ (t213b t213o : Nat), t69_1a = some ⟨t213b, t213o, none⟩ ∧ 0 ≤ ((t168_1n : Nat) : Int) ∧ ((t168_1n : Nat) : Int) < ((t69_1n : Nat) : Int) ∧
                                                                                (∃ (t219b t219o : Nat), t69_1a = some ⟨t219b, t219o, none⟩ ∧ 0 ≤ ((t168_1n : Nat) : Int) ∧ ((t168_1n : Nat) : Int) < ((t69_1n : Nat) : Int) ∧
                                                                                (∃ (t215 : Int), (∀ w' : World, S_2 w' → (Instr.loadAt 3 (.pointer (some ⟨t213b, t213o + Int.toNat ((t168_1n : Nat) : Int) * 35 + 33, none⟩))).run Tryz.prog w' = .ok (.int .i64 t215) w') ∧
                                                                                (∃ (t221 : Int), (∀ w' : World, S_2 w' → (Instr.loadAt 3 (.pointer (some ⟨t219b, t219o + Int.toNat ((t168_1n : Nat) : Int) * 35 + 34, none⟩))).run Tryz.prog w' = .ok (.int .i64 t221) w') ∧
                                                                                (R (.returned (.bool (decide ((IntKind.wrap .i64 (t215 + t221)) > ((t94_0n : Nat) : Int))))) w24)))))))) ∧
                                                                                (t201 = false →
                                                                                (R (.returned (.bool false)) w24))))))) ∧
                                                                                ((decide (((t168_1n : Nat) : Int) ≤ ((t69_1n : Nat) : Int))) = false →
                                                                                (S_1 w23.drew ∧
                                                                                (R (.returned (.bool false)) w23.drew))))) ∧
                                                                                ((t168_0 == t185) = false →
                                                                                (S_1 w23.drew ∧
                                                                                (R (.returned (.bool false)) w23.drew)))))) ∧
                                                                                (t180 = false →
                                                                                (S_1 w23.drew ∧
                                                                                (R (.returned (.bool false)) w23.drew))))))))))))))))))))))))))))))))))))))))))))))))))))))))) : Calls Tryz.prog 5 #[(.agg a0)] w R :=
  calls_of_ev (args := [(.agg a0)])
    (tc := .seq (.reg (.op .bx (.op .p (.nil)))) (.seq (.seq (.reg (.op (.cl [.bool]) (.op .p (.nil)))) (.cond (.seq (.reg (.op .p (.nil))) (.leaf)) (.leaf))) (.seq (.seq (.join [21, 22, 23, 24, 25, 26, 27, 28, 29, 30] [30] [.bool] (.reg (.op .p (.op (.ld (.agg)) (.op (.cl [.bool]) (.op .p (.sp 24 (.op .p (.op .p (.op .p (.op .p (.op .p (.op .p (.nil))))))) (.op .p (.op .p (.op (.ld (.int .i64)) (.op (.cl [.bool]) (.op .p (.op .p (.nil)))))))))))))) (.cond (.seq (.reg (.op .p (.nil))) (.leaf)) (.leaf))) (.seq (.reg (.op (.cl [.val, .val]) (.op .p (.op .p (.op .p (.op .p (.op .p (.nil)))))))) (.seq (.seq (.join [35, 36, 37, 38, 39, 40, 41, 42, 43, 44, 45, 46, 47, 48, 49, 50, 51, 52] [52] [.bool] (.reg (.op .p (.op (.ld (.bool)) (.op .p (.sp 37 (.op .p (.op .p (.op .p (.op .p (.op .p (.op .p (.op .p (.op .p (.op .p (.op .p (.op .p (.op .p (.op .p (.op .p (.op .p (.nil)))))))))))))))) (.op .p (.op (.ld (.bool)) (.op .p (.op .p (.sp 41 (.op .p (.op .p (.op .p (.op .p (.op .p (.op .p (.op .p (.op .p (.op .p (.op .p (.op .p (.nil)))))))))))) (.op .p (.op (.ld (.int .i64)) (.op .p (.op .p (.sp 45 (.op .p (.op .p (.op (.ld (.int .i64)) (.op (.cl [.val]) (.op (.ld (.bool)) (.op .p (.op .p (.nil)))))))) (.op .p (.op .p (.op .p (.op .p (.op .p (.op .p (.op .p (.nil)))))))))))))))))))))))) (.cond (.seq (.reg (.op .p (.nil))) (.leaf)) (.leaf))) (.seq (.reg (.op .p (.op .p (.op (.ld (.agg)) (.op (.cl [.agg]) (.op .bx (.op .u (.nil)))))))) (.seq (.reg (.op .p (.op (.ld (.agg)) (.op (.cl [.slice, .slice]) (.op .p (.op .p (.op .p (.op .p (.op .p (.nil)))))))))) (.seq (.reg (.op (.ld (.agg)) (.op .p (.op .p (.op (.ld (.int .i64)) (.op .p (.op (.cl [.slice, .slice, .val]) (.op .p (.op .p (.op .p (.op .p (.op .p (.op .p (.op .p (.nil))))))))))))))) (.seq (.reg (.op .p (.op (.ld (.agg)) (.op .p (.op .p (.op (.ld (.int .i64)) (.op .p (.op (.cl [.slice, .agg, .val]) (.op .p (.op .p (.op .p (.op .p (.op .p (.nil)))))))))))))) (.seq (.reg (.op .p (.op .p (.op (.ld (.agg)) (.op (.cl []) (.nil)))))) (.seq (.reg (.op .p (.op .p (.op .p (.op (.ld (.int .i64)) (.op (.cl [.str]) (.op (.cl [.slice, .val]) (.op .p (.op .p (.op .p (.op .p (.op .p (.nil))))))))))))) (.seq (.seq (.join [97, 98, 99, 100, 101, 102, 103, 104, 105, 106, 107] [107] [.bool] (.reg (.op .p (.op (.ld (.bool)) (.op .p (.sp 99 (.op .p (.op .p (.op .p (.op .p (.op .p (.op .p (.op .p (.op .p (.nil))))))))) (.op .p (.op (.ld (.bool)) (.op .p (.sp 102 (.op .p (.op .p (.op (.ld (.bool)) (.op .p (.op .p (.nil)))))) (.op .p (.op .p (.op .p (.op .p (.op .p (.nil)))))))))))))))) (.cond (.seq (.reg (.op .p (.nil))) (.leaf)) (.leaf))) (.seq (.seq (.reg (.op .p (.op (.ld (.bool)) (.nil)))) (.cond (.seq (.reg (.op .p (.op .p (.op (.ld (.bool)) (.op .p (.nil)))))) (.leaf)) (.leaf))) (.seq (.seq (.join [113, 114, 115, 116, 117, 118, 119, 120, 121, 122, 123, 124, 125, 126, 127, 128, 129, 130, 131, 132, 133, 134, 135, 136, 137, 138] [138] [.bool] (.drawS (.tk 0 .p (.tk 1 .p (.tk 2 .p (.tk 3 .p (.tk 4 .p (.tk 5 .p (.sp 118 (.tk 6 .p (.tk 8 .p (.tk 9 .p (.tk 10 .p (.tk 11 .p (.ts 7 .val (.ts 12 .val (.tk 13 .p (.tk 14 .p (.tk 15 .p (.tk 16 .p (.ts 17 .val (.tk 18 .p (.tk 19 .p (.tk 20 .p (.tk 21 .p (.tk 22 .p (.tk 23 .p (.tk 24 .p (.tk 25 .p (.nil))))))))))))))))))))) (.tk 6 .p (.tk 8 .p (.tk 9 .p (.tk 10 .p (.tk 11 .sl (.ts 7 (.str) (.ts 12 (.str) (.tk 13 .p (.tk 14 .p (.tk 15 .p (.sp 128 (.tk 16 .p (.ts 17 .val (.tk 18 .p (.tk 19 .p (.tk 20 .p (.tk 21 .p (.tk 22 .p (.tk 23 .p (.tk 24 .p (.tk 25 .p (.nil))))))))))) (.tk 16 .p (.ts 17 (.bool) (.tk 18 .p (.sp 131 (.tk 19 .p (.tk 20 .p (.tk 21 .p (.tk 22 .p (.tk 23 .p (.tk 24 .p (.tk 25 .p (.nil)))))))) (.tk 19 .p (.tk 20 .p (.tk 21 .p (.tk 22 .p (.tk 23 .p (.tk 24 .p (.tk 25 .p (.nil)))))))))))))))))))))))))))))) [])) (.cond (.seq (.reg (.op .p (.nil))) (.leaf)) (.leaf))) (.seq (.reg (.op (.ld (.agg)) (.op .p (.op .p (.op (.ld (.int .i64)) (.op .p (.op (.cl [.slice, .val]) (.op .p (.op .p (.op .p (.op .p (.op .p (.nil))))))))))))) (.seq (.seq (.join [148, 149, 150, 151, 152, 153, 154, 155, 156, 157, 158, 159, 160, 161, 162, 163, 164, 165] [165] [.bool] (.reg (.op .p (.op (.ld (.bool)) (.op .p (.op .p (.op .p (.op .p (.op .p (.op .p (.op .p (.sp 156 (.op .p (.op .p (.op .p (.op .p (.op .p (.op .p (.op .p (.op .p (.op .p (.nil)))))))))) (.op .p (.op (.ld (.bool)) (.op .p (.sp 159 (.op .p (.op .p (.op (.cl [.bool]) (.op .p (.op .p (.op .p (.nil))))))) (.op .p (.op .p (.op .p (.op .p (.op .p (.op .p (.nil))))))))))))))))))))))) (.cond (.seq (.reg (.op .p (.nil))) (.leaf)) (.leaf))) (.seq (.reg (.op .p (.op (.cl [.int .i64, .slice, .int .i64, .val]) (.op .p (.op .p (.op .p (.op .p (.op .p (.op .p (.op .p (.op .p (.op .p (.nil))))))))))))) (.seq (.seq (.reg (.op .p (.op .p (.op .p (.nil))))) (.cond (.seq (.reg (.op .p (.op .p (.op (.ld (.bool)) (.op .p (.nil)))))) (.leaf)) (.leaf))) (.seq (.drawS (.tk 0 .p (.ts 1 (.bool) (.tk 2 .p (.sp 181 (.tk 3 .p (.tk 4 .p (.tk 5 .p (.ts 6 (.int .i64) (.tk 7 .p (.tk 8 .p (.tk 9 .p (.sp 188 (.tk 10 .p (.tk 11 .p (.tk 12 .p (.tk 13 .p (.tk 14 .p (.tk 15 .p (.tk 16 .p (.sp 195 (.tk 17 .p (.tk 18 .p (.tk 19 .p (.tk 20 .p (.tk 21 .sl (.go 22 (.cl [.bool]) (.tk 23 .p (.tk 24 .p (.sp 203 (.tk 25 .p (.tk 26 .p (.tk 27 .p (.tk 28 .p (.tk 29 .p (.tk 30 .p (.sp 209 (.tk 31 .p (.tk 32 .p (.tk 33 .p (.tk 34 .p (.tk 35 .p (.tk 37 .p (.tk 38 .p (.tk 39 .p (.tk 40 .p (.tk 41 .p (.tk 44 .p (.tk 45 .p (.ts 36 .val (.ts 42 .val (.tk 43 .p (.tk 46 .p (.tk 47 .p (.tk 48 .p (.tk 49 .p (.nil)))))))))))))))))))) (.tk 31 .p (.tk 32 .p (.tk 33 .p (.tk 34 .ix (.tk 35 .p (.tk 37 .p (.tk 38 .p (.tk 39 .p (.tk 40 .ix (.tk 41 .p (.tk 44 .p (.tk 45 .p (.ts 36 (.int .i64) (.ts 42 (.int .i64) (.tk 43 .p (.tk 46 .p (.tk 47 .p (.tk 48 .p (.tk 49 .p (.nil))))))))))))))))))))))))))) (.tk 25 .p (.tk 26 .p (.tk 27 .p (.tk 28 .p (.tk 29 .p (.tk 30 .p (.tk 31 .p (.tk 32 .p (.tk 33 .p (.tk 34 .p (.tk 35 .p (.tk 37 .p (.tk 38 .p (.tk 39 .p (.tk 40 .p (.tk 41 .p (.tk 44 .p (.tk 45 .p (.ts 36 .val (.ts 42 .val (.tk 43 .p (.tk 46 .p (.tk 47 .p (.tk 48 .p (.tk 49 .p (.nil))))))))))))))))))))))))))))))))))) (.tk 17 .p (.tk 18 .p (.tk 19 .p (.tk 20 .p (.tk 21 .p (.go 22 .p (.tk 23 .p (.tk 24 .p (.tk 25 .p (.tk 26 .p (.tk 27 .p (.tk 28 .p (.tk 29 .p (.tk 30 .p (.tk 31 .p (.tk 32 .p (.tk 33 .p (.tk 34 .p (.tk 35 .p (.tk 37 .p (.tk 38 .p (.tk 39 .p (.tk 40 .p (.tk 41 .p (.tk 44 .p (.tk 45 .p (.ts 36 .val (.ts 42 .val (.tk 43 .p (.tk 46 .p (.tk 47 .p (.tk 48 .p (.tk 49 .p (.nil)))))))))))))))))))))))))))))))))))))))))) (.tk 10 .p (.tk 11 .p (.tk 12 .p (.tk 13 .p (.tk 14 .p (.tk 15 .p (.tk 16 .p (.tk 17 .p (.tk 18 .p (.tk 19 .p (.tk 20 .p (.tk 21 .p (.go 22 .p (.tk 23 .p (.tk 24 .p (.tk 25 .p (.tk 26 .p (.tk 27 .p (.tk 28 .p (.tk 29 .p (.tk 30 .p (.tk 31 .p (.tk 32 .p (.tk 33 .p (.tk 34 .p (.tk 35 .p (.tk 37 .p (.tk 38 .p (.tk 39 .p (.tk 40 .p (.tk 41 .p (.tk 44 .p (.tk 45 .p (.ts 36 .val (.ts 42 .val (.tk 43 .p (.tk 46 .p (.tk 47 .p (.tk 48 .p (.tk 49 .p (.nil))))))))))))))))))))))))))))))))))))))))))))))))) (.tk 3 .p (.tk 4 .p (.tk 5 .p (.ts 6 .val (.tk 7 .p (.tk 8 .p (.tk 9 .p (.tk 10 .p (.tk 11 .p (.tk 12 .p (.tk 13 .p (.tk 14 .p (.tk 15 .p (.tk 16 .p (.tk 17 .p (.tk 18 .p (.tk 19 .p (.tk 20 .p (.tk 21 .p (.go 22 .p (.tk 23 .p (.tk 24 .p (.tk 25 .p (.tk 26 .p (.tk 27 .p (.tk 28 .p (.tk 29 .p (.tk 30 .p (.tk 31 .p (.tk 32 .p (.tk 33 .p (.tk 34 .p (.tk 35 .p (.tk 37 .p (.tk 38 .p (.tk 39 .p (.tk 40 .p (.tk 41 .p (.tk 44 .p (.tk 45 .p (.ts 36 .val (.ts 42 .val (.tk 43 .p (.tk 46 .p (.tk 47 .p (.tk 48 .p (.tk 49 .p (.nil)))))))))))))))))))))))))))))))))))))))))))))))))))) []) (.leaf))))))))))))))))))))
    (by kernel_rfl) Tryz.func5 (by kernel_rfl) (by kernel_rfl) (by kernel_rfl) (by kernel_rfl) h

set_option maxRecDepth 100000 in
theorem amphoralaw13_PackSaves_vc (a0 : Array Value) (w : World) (R : Ending → World → Prop) (h :
  ∃ (g1 : Nat) (w1 : World), (Instr.box 78 (.agg a0)).run Tryz.prog w = .ok (.pointer (some ⟨g1, 0, none⟩)) w1 ∧
  (Calls Tryz.prog 7 #[] w1 fun (e17 : Ending) (w2 : World) => ∃ (t17 : Bool), e17 = .returned (.bool t17) ∧
    (((!t17) = true →
        (R (.returned (.bool false)) w2)) ∧
      ((!t17) = false →
        (∃ (t20 : Array Value), (Instr.loadAt 25 (.pointer (some ⟨g1, 0, none⟩))).run Tryz.prog w2 = .ok (.agg t20) w2 ∧
          (Calls Tryz.prog 8 #[(.agg t20)] w2 fun (e21 : Ending) (w3 : World) => ∃ (t21 : Bool), e21 = .returned (.bool t21) ∧
            ((t21 = true →
                (R (.returned (.bool true)) w3)) ∧
              (t21 = false →
                (∃ (t24 : Int), (Instr.loadAt 3 (.pointer (some ⟨g1, 35, none⟩))).run Tryz.prog w3 = .ok (.int .i64 t24) w3 ∧
                  (Calls Tryz.prog 21 #[(.int .i64 t24)] w3 fun (e25 : Ending) (w4 : World) => ∃ (t25_0 : Value) (t25_1 : Value), e25 = .returned (.tuple #[t25_0, t25_1]) ∧
                    (∃ (t30 : Int), (Instr.loadAt 3 (.pointer (some ⟨g1, 35, none⟩))).run Tryz.prog w4 = .ok (.int .i64 t30) w4 ∧
                      (Calls Tryz.prog 28 #[(.int .i64 t30)] w4 fun (e31 : Ending) (w5 : World) => ∃ (t31_0 : Value) (t31_1 : Int), e31 = .returned (.tuple #[t31_0, (.int .i64 t31_1)]) ∧
                        (∃ J : Bool → World → Prop, (∃ (t35 : Bool), (eqlS .neq 36 (.tmp 34) (.const .nilIface) t25_1 .nilIface).run Tryz.prog w5 = .ok (.bool t35) w5 ∧
                            ((t35 = true →
                                (J true w5)) ∧
                              (t35 = false →
                                (∃ (t38 : Bool), (eqlS .eql 58 (.tmp 37) (.const (.pointer none)) t25_0 (.pointer none)).run Tryz.prog w5 = .ok (.bool t38) w5 ∧
                                  (J (t38 || (t31_1 != (0 : Int))) w5))))) ∧
                          (∀ (x43 : Bool), ∀ w6 : World, J x43 w6 →
                            ((x43 = true →
                                (((t31_1 != (0 : Int)) = true →
                                    (∃ (t48 : Bool), (eqlS .neq 36 (.tmp 47) (.const .nilIface) t25_1 .nilIface).run Tryz.prog w6 = .ok (.bool t48) w6 ∧
                                      (R (.returned (.bool t48)) w6))) ∧
                                  ((t31_1 != (0 : Int)) = false →
                                    (R (.returned (.bool false)) w6)))) ∧
                              (x43 = false →
                                (∃ (t51 : Int), (Instr.loadAt 3 (.pointer (some ⟨g1, 36, none⟩))).run Tryz.prog w6 = .ok (.int .i64 t51) w6 ∧
                                  (∃ J_1 : World → Prop, (((decide (t51 ≥ (0 : Int))) = true →
                                        (∃ (t55 : Int), (Instr.loadAt 3 (.pointer (some ⟨g1, 36, none⟩))).run Tryz.prog w6 = .ok (.int .i64 t55) w6 ∧
                                          (∃ (t56b t56o : Nat), t31_0 = .pointer (some ⟨t56b, t56o, none⟩) ∧
                                            (∃ w7 : World, (Instr.storeAt 3 (.pointer (some ⟨t56b, t56o + 7, none⟩)) (.int .i64 t55)).run Tryz.prog w6 = .ok () w7 ∧
                                              (∃ (t60 : Int), (Instr.loadAt 3 (.pointer (some ⟨g1, 36, none⟩))).run Tryz.prog w7 = .ok (.int .i64 t60) w7 ∧
                                                (Calls Tryz.prog 22 #[t25_0, (.int .i64 t60)] w7 fun (e61 : Ending) (w8 : World) => ∃ (t61 : Value), e61 = .returned t61 ∧
                                                  (J_1  w8))))))) ∧
                                      ((decide (t51 ≥ (0 : Int))) = false →
                                        (J_1  w6))) ∧
                                    (∀ w9 : World, J_1  w9 →
                                      (∃ (t63 : Int), (Instr.loadAt 3 (.pointer (some ⟨g1, 37, none⟩))).run Tryz.prog w9 = .ok (.int .i64 t63) w9 ∧
                                        (∃ J_2 : World → Prop, (((decide (t63 ≥ (0 : Int))) = true →
                                              (∃ (t67 : Int), (Instr.loadAt 3 (.pointer (some ⟨g1, 37, none⟩))).run Tryz.prog w9 = .ok (.int .i64 t67) w9 ∧
                                                (∃ (t68a : Option Addr) (t68n : Nat) (t68c : Nat) (w10 : World), (Instr.buildSlice 53 2 #[(0, (.int .i64 t67)), (1, (.int .i64 3))]).run Tryz.prog w9 = .ok (.slice t68a t68n t68c) w10 ∧
                                                  (∃ (t69b t69o : Nat), t31_0 = .pointer (some ⟨t69b, t69o, none⟩) ∧
                                                    (∃ w11 : World, (Instr.storeAt 53 (.pointer (some ⟨t69b, t69o + 8, none⟩)) (.slice t68a t68n t68c)).run Tryz.prog w10 = .ok () w11 ∧
                                                      (∃ (t73 : Int), (Instr.loadAt 3 (.pointer (some ⟨g1, 37, none⟩))).run Tryz.prog w11 = .ok (.int .i64 t73) w11 ∧
                                                        (∃ (t74a : Option Addr) (t74n : Nat) (t74c : Nat) (w12 : World), (Instr.buildSlice 53 2 #[(0, (.int .i64 t73)), (1, (.int .i64 3))]).run Tryz.prog w11 = .ok (.slice t74a t74n t74c) w12 ∧
                                                          (Calls Tryz.prog 29 #[t25_0, (.slice t74a t74n t74c)] w12 fun (e75 : Ending) (w13 : World) => ∃ (t75 : Value), e75 = .returned t75 ∧
                                                            (J_2  w13))))))))) ∧
                                            ((decide (t63 ≥ (0 : Int))) = false →
                                              (J_2  w9))) ∧
                                          (∀ w14 : World, J_2  w14 →
                                            (∃ (t78 : Array Value), (Instr.loadAt 22 (.pointer (some ⟨g1, 0, none⟩))).run Tryz.prog w14 = .ok (.agg t78) w14 ∧
                                              (Calls Tryz.prog 9 #[(.agg t78)] w14 fun (e79 : Ending) (w15 : World) => ∃ (t79 : Array Value), e79 = .returned (.agg t79) ∧
                                                (∃ (g7 : Nat) (w16 : World), (Instr.alloc 28 true (.tuple #[])).run Tryz.prog w15 = .ok (.pointer (some ⟨g7, 0, none⟩)) w16 ∧
                                                  (∃ w17 : World, (Instr.storeAt 28 (.pointer (some ⟨g7, 0, none⟩)) (.agg t79)).run Tryz.prog w16 = .ok () w17 ∧
                                                    (∃ (t82 : Array Value), (Instr.loadAt 25 (.pointer (some ⟨g1, 0, none⟩))).run Tryz.prog w17 = .ok (.agg t82) w17 ∧
                                                      (Calls Tryz.prog 10 #[(.agg t82)] w17 fun (e83 : Ending) (w18 : World) => ∃ (t83_0a : Option Addr) (t83_0n : Nat) (t83_0c : Nat) (t83_1a : Option Addr) (t83_1n : Nat) (t83_1c : Nat), e83 = .returned (.tuple #[(.slice t83_0a t83_0n t83_0c), (.slice t83_1a t83_1n t83_1c)]) ∧
                                                        (∃ (I : Int → World → Prop) (μ : Int → World → Nat), I 0 w18 ∧
                                                          (∀ (x10 : Int), ∀ w19 : World, I x10 w19 →
                                                            (((decide (x10 < (2 : Int))) = true →
                                                                (∃ (t92 : Array Value), (Instr.loadAt 28 (.pointer (some ⟨g7, 0, none⟩))).run Tryz.prog w19 = .ok (.agg t92) w19 ∧
                                                                  (∃ (t95 : Int), (Instr.loadAt 3 (.pointer (some ⟨g1, 32, none⟩))).run Tryz.prog w19 = .ok (.int .i64 t95) w19 ∧
                                                                    (Calls Tryz.prog 23 #[t25_0, (.agg t92), (.int .i64 t95), (.slice t83_1a t83_1n t83_1c)] w19 fun (e97 : Ending) (w20 : World) => ∃ (t97_0a : Option Addr) (t97_0n : Nat) (t97_0c : Nat) (t97_1 : Array Value) (t97_2 : Value), e97 = .returned (.tuple #[(.slice t97_0a t97_0n t97_0c), (.agg t97_1), t97_2]) ∧
                                                                      (∃ (g12 : Nat) (w21 : World), (Instr.alloc 63 true (.tuple #[])).run Tryz.prog w20 = .ok (.pointer (some ⟨g12, 0, none⟩)) w21 ∧
                                                                        (∃ w22 : World, (Instr.storeAt 63 (.pointer (some ⟨g12, 0, none⟩)) (.agg t97_1)).run Tryz.prog w21 = .ok () w22 ∧
                                                                          (∃ (t103 : Array Value), (Instr.loadAt 28 (.pointer (some ⟨g7, 0, none⟩))).run Tryz.prog w22 = .ok (.agg t103) w22 ∧
                                                                            (∃ (t106 : Int), (Instr.loadAt 3 (.pointer (some ⟨g1, 32, none⟩))).run Tryz.prog w22 = .ok (.int .i64 t106) w22 ∧
                                                                              (Calls Tryz.prog 30 #[t31_0, (.agg t103), (.int .i64 t106), (.slice t83_0a t83_0n t83_0c)] w22 fun (e108 : Ending) (w23 : World) => ∃ (t108_0a : Option Addr) (t108_0n : Nat) (t108_0c : Nat) (t108_1 : Array Value) (t108_2 : Int), e108 = .returned (.tuple #[(.slice t108_0a t108_0n t108_0c), (.agg t108_1), (.int .i64 t108_2)]) ∧
                                                                                (∃ (g15 : Nat) (w24 : World), (Instr.alloc 63 true (.tuple #[])).run Tryz.prog w23 = .ok (.pointer (some ⟨g15, 0, none⟩)) w24 ∧
                                                                                (∃ w25 : World, (Instr.storeAt 63 (.pointer (some ⟨g15, 0, none⟩)) (.agg t108_1)).run Tryz.prog w24 = .ok () w25 ∧
                                                                                (∃ J_3 : Bool → World → Prop, (∃ S : World → Prop, S w25.drew ∧
                                                                                (Calls Tryz.prog 13 #[(.slice t97_0a t97_0n t97_0c), (.slice t108_0a t108_0n t108_0c)] w25.drew fun (e114 : Ending) (w26 : World) => ∃ (t114 : Bool), e114 = .returned (.bool t114) ∧
                                                                                (∃ S_1 : World → Prop, (∀ w' : World, S_1 w' → S w') ∧ S_1 w26 ∧
                                                                                (((!t114) = true →
                                                                                (S_1 w26 ∧
                                                                                (S_1 w26 ∧
                                                                                (S_1 w26 ∧
                                                                                (S_1 w26 ∧
                                                                                (S_1 w26 ∧
                                                                                (J_3 true w26))))))) ∧
                                                                                ((!t114) = false →
                                                                                (∃ (t117 : Array Value), (∀ w' : World, S_1 w' → (Instr.loadAt 63 (.pointer (some ⟨g12, 0, none⟩))).run Tryz.prog w' = .ok (.agg t117) w') ∧
                                                                                (∃ (t118 : Array Value), (∀ w' : World, S_1 w' → (Instr.loadAt 63 (.pointer (some ⟨g15, 0, none⟩))).run Tryz.prog w' = .ok (.agg t118) w') ∧
                                                                                (∃ (t119 : Bool), (∀ w' : World, S_1 w' → (eqlS .neq 63 (.tmp 117) (.tmp 118) (.agg t117) (.agg t118)).run Tryz.prog w' = .ok (.bool t119) w') ∧
                                                                                ((t119 = true →
                                                                                (S_1 w26 ∧
                                                                                (S_1 w26 ∧
                                                                                (S_1 w26 ∧
                                                                                (S_1 w26 ∧
                                                                                (S_1 w26 ∧
                                                                                (J_3 true w26))))))) ∧
                                                                                (t119 = false →
                                                                                (Calls Tryz.prog 14 #[t97_2] w26 fun (e123 : Ending) (w27 : World) => ∃ (t123 : Int), e123 = .returned (.int .i64 t123) ∧
                                                                                (∃ S_2 : World → Prop, (∀ w' : World, S_2 w' → S_1 w') ∧ S_2 w27 ∧
                                                                                (((t123 != t108_2) = true →
                                                                                (S_2 w27 ∧
                                                                                (S_2 w27 ∧
                                                                                (S_2 w27 ∧
                                                                                (S_2 w27 ∧
                                                                                (J_3 true w27)))))) ∧
                                                                                ((t123 != t108_2) = false →
                                                                                (Calls Tryz.prog 32 #[t25_0] w27 fun (e129 : Ending) (w28 : World) => ∃ (t129a : Option Addr) (t129n : Nat) (t129c : Nat), e129 = .returned (.slice t129a t129n t129c) ∧
                                                                                (∃ S_3 : World → Prop, (∀ w' : World, S_3 w' → S_2 w') ∧ S_3 w28 ∧
                                                                                (Calls Tryz.prog 33 #[t31_0] w28 fun (e131 : Ending) (w29 : World) => ∃ (t131a : Option Addr) (t131n : Nat) (t131c : Nat), e131 = .returned (.slice t131a t131n t131c) ∧
                                                                                (∃ S_4 : World → Prop, (∀ w' : World, S_4 w' → S_3 w') ∧ S_4 w29 ∧
                                                                                (Calls Tryz.prog 31 #[(.slice t129a t129n t129c), (.slice t131a t131n t131c)] w29 fun (e132 : Ending) (w30 : World) => ∃ (t132 : Bool), e132 = .returned (.bool t132) ∧
                                                                                (∃ S_5 : World → Prop, (∀ w' : World, S_5 w' → S_4 w') ∧ S_5 w30 ∧
                                                                                (((!t132) = true →
                                                                                (S_5 w30 ∧
                                                                                (J_3 true w30))) ∧
                                                                                ((!t132) = false →
                                                                                (∃ (t139b t139o : Nat), t31_0 = .pointer (some ⟨t139b, t139o, none⟩) ∧
                                                                                (∃ (t141 : Int), (∀ w' : World, S_5 w' → (Instr.loadAt 3 (.pointer (some ⟨t139b, t139o + 5, none⟩))).run Tryz.prog w' = .ok (.int .i64 t141) w') ∧
                                                                                (Calls Tryz.prog 34 #[t25_0] w30 fun (e137 : Ending) (w31 : World) => ∃ (t137 : Int), e137 = .returned (.int .i64 t137) ∧
                                                                                (∃ S_6 : World → Prop, (∀ w' : World, S_6 w' → S_5 w') ∧ S_6 w31 ∧
                                                                                (J_3 (t137 != t141) w31))))))))))))))))))))))))))) ∧
                                                                                (∀ (x143 : Bool), ∀ w32 : World, J_3 x143 w32 →
                                                                                ((x143 = true →
                                                                                (R (.returned (.bool false)) w32)) ∧
                                                                                (x143 = false →
                                                                                (I (IntKind.wrap .i64 (x10 + (1 : Int))) w32 ∧ μ (IntKind.wrap .i64 (x10 + (1 : Int))) w32 < μ x10 w19)))))))))))))))) ∧
                                                              ((decide (x10 < (2 : Int))) = false →
                                                                (∃ (t145 : Array Value), (Instr.build 55 #[(0, (.int .i64 1))]).run Tryz.prog w19 = .ok (.agg t145) w19 ∧
                                                                  (Calls Tryz.prog 24 #[t25_0, (.agg t145)] w19 fun (e146 : Ending) (w33 : World) => e146 = .returned (.tuple #[]) ∧
                                                                    (∃ (t148 : Array Value), (Instr.build 55 #[(0, (.int .i64 1))]).run Tryz.prog w33 = .ok (.agg t148) w33 ∧
                                                                      (Calls Tryz.prog 35 #[t31_0, (.agg t148)] w33 fun (e149 : Ending) (w34 : World) => e149 = .returned (.tuple #[]) ∧
                                                                        (Calls Tryz.prog 32 #[t25_0] w34 fun (e151 : Ending) (w35 : World) => ∃ (t151a : Option Addr) (t151n : Nat) (t151c : Nat), e151 = .returned (.slice t151a t151n t151c) ∧
                                                                          (Calls Tryz.prog 33 #[t31_0] w35 fun (e153 : Ending) (w36 : World) => ∃ (t153a : Option Addr) (t153n : Nat) (t153c : Nat), e153 = .returned (.slice t153a t153n t153c) ∧
                                                                            (Calls Tryz.prog 31 #[(.slice t151a t151n t151c), (.slice t153a t153n t153c)] w36 fun (e154 : Ending) (w37 : World) => ∃ (t154 : Bool), e154 = .returned (.bool t154) ∧
                                                                              (R (.returned (.bool t154)) w37)))))))))))))))))))))))))))))))))))))))) : Calls Tryz.prog 6 #[(.agg a0)] w R :=
  calls_of_ev (args := [(.agg a0)])
    (tc := .seq (.reg (.op .bx (.op .p (.nil)))) (.seq (.seq (.reg (.op (.cl [.bool]) (.op .p (.nil)))) (.cond (.seq (.reg (.op .p (.nil))) (.leaf)) (.leaf))) (.seq (.seq (.reg (.op .p (.op (.ld (.agg)) (.op (.cl [.bool]) (.nil))))) (.cond (.seq (.reg (.op .p (.nil))) (.leaf)) (.leaf))) (.seq (.reg (.op .p (.op (.ld (.int .i64)) (.op (.cl [.val, .val]) (.op .p (.op .p (.op .p (.op .p (.op .p (.nil)))))))))) (.seq (.reg (.op .p (.op (.ld (.int .i64)) (.op (.cl [.val, .int .i64]) (.op .p (.op .p (.op .p (.op .p (.op .p (.nil)))))))))) (.seq (.seq (.join [34, 35, 36, 37, 38, 39, 40, 41, 42, 43] [43] [.bool] (.reg (.op .p (.op (.ld (.bool)) (.op .p (.sp 36 (.op .p (.op .p (.op .p (.op .p (.op .p (.op .p (.op .p (.nil)))))))) (.op .p (.op (.ld (.bool)) (.op .p (.op .p (.ap 2 (.nil)))))))))))) (.cond (.seq (.reg (.op .p (.op .p (.op .p (.sp 46 (.op .p (.op (.ld (.bool)) (.op .p (.op .p (.nil))))) (.op .p (.op .p (.op .p (.op .p (.nil)))))))))) (.leaf)) (.leaf))) (.seq (.seq (.reg (.op .p (.op (.ld (.int .i64)) (.op .p (.nil))))) (.join [53, 54, 55, 56, 57, 58, 59, 60, 61] [] [] (.cond (.seq (.reg (.op .p (.op .p (.op (.ld (.int .i64)) (.op .nc (.op .p (.op .u (.nil)))))))) (.reg (.op .p (.op .p (.op (.ld (.int .i64)) (.op (.cl [.val]) (.nil))))))) (.leaf)))) (.seq (.seq (.reg (.op .p (.op (.ld (.int .i64)) (.op .p (.nil))))) (.join [65, 66, 67, 68, 69, 70, 71, 72, 73, 74, 75] [] [] (.cond (.seq (.reg (.op .p (.op .p (.op (.ld (.int .i64)) (.op (.r (.slice)) (.op .nc (.op .p (.op .u (.nil))))))))) (.reg (.op .p (.op .p (.op (.ld (.int .i64)) (.op (.r (.slice)) (.op (.cl [.val]) (.nil)))))))) (.leaf)))) (.seq (.reg (.op .p (.op .p (.op (.ld (.agg)) (.op (.cl [.agg]) (.op .bx (.op .u (.nil)))))))) (.seq (.reg (.op .p (.op (.ld (.agg)) (.op (.cl [.slice, .slice]) (.op .p (.op .p (.op .p (.op .p (.op .p (.nil)))))))))) (.seq (.seq (.reg (.op .p (.nil))) (.blk (.loop [2, 10, 11, 12, 13, 14, 15, 16, 86, 87, 88, 89, 90, 91, 92, 93, 94, 95, 96, 97, 98, 99, 100, 101, 102, 103, 104, 105, 106, 107, 108, 109, 110, 111, 112, 113, 114, 115, 116, 117, 118, 119, 120, 121, 122, 123, 124, 125, 126, 127, 128, 129, 130, 131, 132, 133, 134, 135, 136, 137, 138, 139, 140, 141, 142, 143] [10] [.int .i64] (.seq (.seq (.reg (.op .p (.op .p (.nil)))) (.cond (.leaf) (.leaf))) (.seq (.blk (.seq (.reg (.op .p (.op (.ld (.agg)) (.op .p (.op .p (.op (.ld (.int .i64)) (.op .p (.op (.cl [.slice, .agg, .val]) (.op .p (.op .p (.op .p (.op .p (.op .bx (.op .p (.op .u (.op .p (.nil))))))))))))))))) (.seq (.reg (.op .p (.op (.ld (.agg)) (.op .p (.op .p (.op (.ld (.int .i64)) (.op .p (.op (.cl [.slice, .agg, .int .i64]) (.op .p (.op .p (.op .p (.op .p (.op .bx (.op .p (.op .u (.op .p (.nil))))))))))))))))) (.seq (.join [112, 113, 114, 115, 116, 117, 118, 119, 120, 121, 122, 123, 124, 125, 126, 127, 128, 129, 130, 131, 132, 133, 134, 135, 136, 137, 138, 139, 140, 141, 142, 143] [143] [.bool] (.drawS (.tk 0 .p (.tk 1 .p (.go 2 (.cl [.bool]) (.tk 3 .p (.tk 4 .p (.sp 116 (.ts 5 .val (.ts 6 .val (.ts 7 .val (.tk 8 .p (.tk 9 .p (.tk 10 .p (.tk 12 .p (.go 11 .p (.tk 13 .p (.tk 14 .p (.tk 15 .p (.tk 16 .p (.tk 18 .p (.go 17 .p (.go 19 .p (.go 20 .p (.tk 21 .p (.tk 22 .p (.tk 23 .p (.tk 24 .p (.tk 26 .p (.tk 27 .p (.tk 28 .p (.ts 29 .val (.go 25 .p (.tk 30 .p (.tk 31 .p (.nil)))))))))))))))))))))))))))) (.ts 5 (.agg) (.ts 6 (.agg) (.ts 7 (.bool) (.tk 8 .p (.tk 9 .p (.sp 121 (.tk 10 .p (.tk 12 .p (.go 11 .p (.tk 13 .p (.tk 14 .p (.tk 15 .p (.tk 16 .p (.tk 18 .p (.go 17 .p (.go 19 .p (.go 20 .p (.tk 21 .p (.tk 22 .p (.tk 23 .p (.tk 24 .p (.tk 26 .p (.tk 27 .p (.tk 28 .p (.ts 29 .val (.go 25 .p (.tk 30 .p (.tk 31 .p (.nil))))))))))))))))))))))) (.tk 10 .p (.tk 12 .p (.go 11 (.cl [.int .i64]) (.tk 13 .p (.tk 14 .p (.tk 15 .p (.sp 127 (.tk 16 .p (.tk 18 .p (.go 17 .p (.go 19 .p (.go 20 .p (.tk 21 .p (.tk 22 .p (.tk 23 .p (.tk 24 .p (.tk 26 .p (.tk 27 .p (.tk 28 .p (.ts 29 .val (.go 25 .p (.tk 30 .p (.tk 31 .p (.nil))))))))))))))))) (.tk 16 .p (.tk 18 .p (.go 17 (.cl [.slice]) (.go 19 (.cl [.slice]) (.go 20 (.cl [.bool]) (.tk 21 .p (.tk 22 .p (.tk 23 .p (.sp 135 (.tk 24 .p (.tk 26 .p (.tk 27 .p (.tk 28 .p (.ts 29 .val (.go 25 .p (.tk 30 .p (.tk 31 .p (.nil))))))))) (.tk 24 .p (.tk 26 .p (.tk 27 .nc (.tk 28 .p (.ts 29 (.int .i64) (.go 25 (.cl [.int .i64]) (.tk 30 .p (.tk 31 .p (.nil))))))))))))))))))))))))))))))))))))) [])) (.cond (.seq (.reg (.op .p (.nil))) (.leaf)) (.leaf)))))) (.reg (.op .p (.op .p (.op .p (.nil)))))))))) (.seq (.reg (.op .p (.op (.ld (.agg)) (.op (.cl []) (.nil))))) (.seq (.reg (.op .p (.op (.ld (.agg)) (.op (.cl []) (.nil))))) (.seq (.reg (.op .p (.op (.cl [.slice]) (.op .p (.op (.cl [.slice]) (.op (.cl [.bool]) (.op .p (.nil)))))))) (.leaf)))))))))))))))
    (by kernel_rfl) Tryz.func6 (by kernel_rfl) (by kernel_rfl) (by kernel_rfl) (by kernel_rfl) h

end Go.Proofs.YtmdandkoajocpaaGreatDoor
