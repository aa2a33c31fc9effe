/- Verification conditions of functions, printed by the session's own program vc.py: out of each, Calls (conditions: none). -/
import Derived.Test.YthjipjhjhanddaaRows
import Derived.Test.YthjipjhjhanddaaSxRun
namespace Go.Proofs.Ythjipjhjhanddaa
open Go Go.Proofs.Ythjipjhjhanddaa.Sx

set_option maxRecDepth 100000 in
theorem amphoralaw03_alive_vc  (w : World) (R : Ending → World → Prop) (h :
  ∃ (t4 : Array Value), (Instr.build 22 #[]).run Try.prog w = .ok (.agg t4) w ∧
  (∃ (g1 : Nat) (w1 : World), (Instr.alloc 22 true (.tuple #[])).run Try.prog w = .ok (.pointer (some ⟨g1, 0, none⟩)) w1 ∧
    (∃ w2 : World, (Instr.storeAt 22 (.pointer (some ⟨g1, 0, none⟩)) (.agg t4)).run Try.prog w1 = .ok () w2 ∧
      (∃ (I : Int → World → Prop) (μ : Int → World → Nat), I 0 w2 ∧
        (∀ (x5 : Int), ∀ w3 : World, I x5 w3 →
          (((decide (x5 < (32 : Int))) = true →
              (0 ≤ x5 ∧ x5 < (32 : Int) ∧
                (∃ w4 : World, (Instr.storeAt 5 (.pointer (some ⟨g1, 0 + Int.toNat x5 * 1, none⟩)) (.int .u8 (IntKind.wrap .u8 x5))).run Try.prog w3 = .ok () w4 ∧
                  (I (IntKind.wrap .i64 (x5 + (1 : Int))) w4 ∧ μ (IntKind.wrap .i64 (x5 + (1 : Int))) w4 < μ x5 w3)))) ∧
            ((decide (x5 < (32 : Int))) = false →
              (∃ (t13 : Array Value), (Instr.loadAt 22 (.pointer (some ⟨g1, 0, none⟩))).run Try.prog w3 = .ok (.agg t13) w3 ∧
                (∃ (t14 : Array Value), (Instr.build 24 #[(0, (.int .u8 0)), (1, (.int .u8 0)), (2, (.int .u8 0)), (3, (.int .u8 9)), (4, (.int .u8 0)), (5, (.int .u8 0)), (6, (.int .u8 0)), (7, (.int .u8 74))]).run Try.prog w3 = .ok (.agg t14) w3 ∧
                  (Calls Try.prog 10 #[(.agg t13), (.int .u32 1), (.agg t14)] w3 fun (e15 : Ending) (w5 : World) => ∃ (t15 : Array Value), e15 = .returned (.agg t15) ∧
                    (∃ (g3 : Nat) (w6 : World), (Instr.alloc 26 true (.tuple #[])).run Try.prog w5 = .ok (.pointer (some ⟨g3, 0, none⟩)) w6 ∧
                      (∃ w7 : World, (Instr.storeAt 26 (.pointer (some ⟨g3, 0, none⟩)) (.agg t15)).run Try.prog w6 = .ok () w7 ∧
                        (∃ (t17 : Int), (Instr.loadAt 5 (.pointer (some ⟨g3, 0, none⟩))).run Try.prog w7 = .ok (.int .u8 t17) w7 ∧
                          (((t17 == (16 : Int)) = true →
                              (∃ (t21 : Int), (Instr.loadAt 5 (.pointer (some ⟨g3, 1, none⟩))).run Try.prog w7 = .ok (.int .u8 t21) w7 ∧
                                (((t21 == (241 : Int)) = true →
                                    (∃ (t26 : Int), (Instr.loadAt 5 (.pointer (some ⟨g3, 2, none⟩))).run Try.prog w7 = .ok (.int .u8 t26) w7 ∧
                                      (((t26 == (231 : Int)) = true →
                                          (∃ (t31 : Int), (Instr.loadAt 5 (.pointer (some ⟨g3, 3, none⟩))).run Try.prog w7 = .ok (.int .u8 t31) w7 ∧
                                            (((t31 == (228 : Int)) = true →
                                                (∃ (t36 : Int), (Instr.loadAt 5 (.pointer (some ⟨g3, 15, none⟩))).run Try.prog w7 = .ok (.int .u8 t36) w7 ∧
                                                  (R (.returned (.bool (t36 == (196 : Int)))) w7))) ∧
                                              ((t31 == (228 : Int)) = false →
                                                (R (.returned (.bool false)) w7))))) ∧
                                        ((t26 == (231 : Int)) = false →
                                          (R (.returned (.bool false)) w7))))) ∧
                                  ((t21 == (241 : Int)) = false →
                                    (R (.returned (.bool false)) w7))))) ∧
                            ((t17 == (16 : Int)) = false →
                              (R (.returned (.bool false)) w7)))))))))))))))) : Calls Try.prog 9 #[] w R :=
  calls_of_ev (args := [])
    (tc := .seq (.reg (.op .p (.nil))) (.seq (.reg (.op (.ld (.agg)) (.op .bx (.op .u (.nil))))) (.seq (.seq (.reg (.op .p (.nil))) (.blk (.loop [2, 5, 6, 7, 8, 9, 10, 11, 12] [5] [.int .i64] (.seq (.reg (.op .p (.nil))) (.seq (.cond (.leaf) (.leaf)) (.seq (.blk (.seq (.reg (.op .p (.op .p (.nil)))) (.reg (.op .p (.op .p (.op .p (.op .ix (.op .u (.nil))))))))) (.reg (.op .p (.op .p (.nil)))))))))) (.seq (.reg (.op (.ld (.agg)) (.op (.ld (.agg)) (.op (.cl [.agg]) (.op .bx (.op .u (.nil))))))) (.seq (.reg (.op .p (.op (.ld (.int .u8)) (.op .p (.op .p (.sp 19 (.op .p (.op (.ld (.int .u8)) (.op .p (.op .p (.op .p (.sp 24 (.op .p (.op (.ld (.int .u8)) (.op .p (.op .p (.op .p (.sp 29 (.op .p (.op (.ld (.int .u8)) (.op .p (.op .p (.op .p (.sp 34 (.op .p (.op (.ld (.int .u8)) (.op .p (.op .p (.op .p (.nil)))))) (.op .p (.op .p (.op .p (.op .p (.op .p (.nil)))))))))))) (.op .p (.op .p (.op .p (.op .p (.op .p (.op .p (.op .p (.op .p (.op .p (.op .p (.nil))))))))))))))))) (.op .p (.op .p (.op .p (.op .p (.op .p (.op .p (.op .p (.op .p (.op .p (.op .p (.op .p (.op .p (.op .p (.op .p (.op .p (.nil)))))))))))))))))))))) (.op .p (.op .p (.op .p (.op .p (.op .p (.op .p (.op .p (.op .p (.op .p (.op .p (.op .p (.op .p (.op .p (.op .p (.op .p (.op .p (.op .p (.op .p (.op .p (.op .p (.nil))))))))))))))))))))))))))) (.leaf))))))
    (by kernel_rfl) Try.func9 (by kernel_rfl) (by kernel_rfl) (by kernel_rfl) (by kernel_rfl) h

set_option maxRecDepth 100000 in
theorem amphoralaw03_ChachaBlocks_vc (a0 : Array Value) (a1 : Int) (a2 : Array Value) (w : World) (R : Ending → World → Prop) (h :
  ∃ (g3 : Nat) (w1 : World), (Instr.box 22 (.agg a0)).run Try.prog w = .ok (.pointer (some ⟨g3, 0, none⟩)) w1 ∧
  (∃ (g5 : Nat) (w2 : World), (Instr.box 24 (.agg a2)).run Try.prog w1 = .ok (.pointer (some ⟨g5, 0, none⟩)) w2 ∧
    (∃ S : World → Prop, S w2.drew ∧
      (Calls Try.prog 9 #[] w2.drew fun (e7 : Ending) (w3 : World) => ∃ (t7 : Bool), e7 = .returned (.bool t7) ∧
        (∃ S_1 : World → Prop, (∀ w' : World, S_1 w' → S w') ∧ S_1 w3 ∧
          ((t7 = true →
              (∃ (t9 : Array Value), (∀ w' : World, S_1 w' → (Instr.loadAt 22 (.pointer (some ⟨g3, 0, none⟩))).run Try.prog w' = .ok (.agg t9) w') ∧
                (∃ (t11 : Array Value), (∀ w' : World, S_1 w' → (Instr.loadAt 24 (.pointer (some ⟨g5, 0, none⟩))).run Try.prog w' = .ok (.agg t11) w') ∧
                  (∃ (t13 : Array Value), (∀ w' : World, S_1 w' → (Instr.loadAt 22 (.pointer (some ⟨g3, 0, none⟩))).run Try.prog w' = .ok (.agg t13) w') ∧
                    (∃ (t15 : Array Value), (∀ w' : World, S_1 w' → (Instr.loadAt 24 (.pointer (some ⟨g5, 0, none⟩))).run Try.prog w' = .ok (.agg t15) w') ∧
                      (Calls Try.prog 10 #[(.agg t9), (.int .u32 a1), (.agg t11)] w3 fun (e12 : Ending) (w4 : World) => ∃ (t12 : Array Value), e12 = .returned (.agg t12) ∧
                        (∃ S_2 : World → Prop, (∀ w' : World, S_2 w' → S_1 w') ∧ S_2 w4 ∧
                          (Calls Try.prog 11 #[(.agg t13), (.int .u32 a1), (.agg t15)] w4 fun (e16 : Ending) (w5 : World) => ∃ (t16 : Array Value), e16 = .returned (.agg t16) ∧
                            (∃ S_3 : World → Prop, (∀ w' : World, S_3 w' → S_2 w') ∧ S_3 w5 ∧
                              (∃ (t17 : Bool), (∀ w' : World, S_3 w' → (eqlS .eql 26 (.tmp 12) (.tmp 16) (.agg t12) (.agg t16)).run Try.prog w' = .ok (.bool t17) w') ∧
                                (R (.returned (.bool t17)) w5))))))))))) ∧
            (t7 = false →
              (S_1 w3 ∧
                (S_1 w3 ∧
                  (R (.returned (.bool false)) w3)))))))))) : Calls Try.prog 3 #[(.agg a0), (.int .u32 a1), (.agg a2)] w R :=
  calls_of_ev (args := [(.agg a0), (.int .u32 a1), (.agg a2)])
    (tc := .seq (.reg (.op .bx (.op .bx (.op .p (.nil))))) (.seq (.drawS (.go 0 (.cl [.bool]) (.tk 1 .p (.sp 8 (.tk 3 .p (.tk 7 .p (.ts 2 (.agg) (.ts 4 (.agg) (.ts 6 (.agg) (.ts 8 (.agg) (.go 5 (.cl [.agg]) (.go 9 (.cl [.agg]) (.ts 10 (.bool) (.tk 11 .p (.tk 12 .p (.nil)))))))))))) (.tk 3 .p (.tk 7 .p (.ts 2 .val (.ts 4 .val (.ts 6 .val (.ts 8 .val (.go 5 .p (.go 9 .p (.ts 10 .val (.tk 11 .p (.tk 12 .p (.nil))))))))))))))) []) (.leaf)))
    (by kernel_rfl) Try.func3 (by kernel_rfl) (by kernel_rfl) (by kernel_rfl) (by kernel_rfl) h

set_option maxRecDepth 100000 in
theorem amphoralaw03_ChachaStreams_vc (a0 : Array Value) (w : World) (R : Ending → World → Prop) (h :
  ∃ (g1 : Nat) (w1 : World), (Instr.box 31 (.agg a0)).run Try.prog w = .ok (.pointer (some ⟨g1, 0, none⟩)) w1 ∧
  (Calls Try.prog 9 #[] w1 fun (e8 : Ending) (w2 : World) => ∃ (t8 : Bool), e8 = .returned (.bool t8) ∧
    (((!t8) = true →
        (R (.returned (.bool false)) w2)) ∧
      ((!t8) = false →
        (∃ (t11a : Option Addr) (t11n : Nat) (t11c : Nat), (Instr.loadAt 29 (.pointer (some ⟨g1, 45, none⟩))).run Try.prog w2 = .ok (.slice t11a t11n t11c) w2 ∧
          (((decide (((t11n : Nat) : Int) > (16384 : Int))) = true →
              (R (.returned (.bool true)) w2)) ∧
            ((decide (((t11n : Nat) : Int) > (16384 : Int))) = false →
              (∃ (t15a : Option Addr) (t15n : Nat) (t15c : Nat), (Instr.loadAt 29 (.pointer (some ⟨g1, 45, none⟩))).run Try.prog w2 = .ok (.slice t15a t15n t15c) w2 ∧
                (Calls Try.prog 12 #[(.slice t15a t15n t15c)] w2 fun (e16 : Ending) (w3 : World) => ∃ (t16a : Option Addr) (t16n : Nat) (t16c : Nat), e16 = .returned (.slice t16a t16n t16c) ∧
                  (∃ (t19 : Array Value), (Instr.loadAt 22 (.pointer (some ⟨g1, 0, none⟩))).run Try.prog w3 = .ok (.agg t19) w3 ∧
                    (∃ (t21 : Array Value), (Instr.loadAt 24 (.pointer (some ⟨g1, 32, none⟩))).run Try.prog w3 = .ok (.agg t21) w3 ∧
                      (∃ (t23 : Int), (Instr.loadAt 3 (.pointer (some ⟨g1, 44, none⟩))).run Try.prog w3 = .ok (.int .i64 t23) w3 ∧
                        (Calls Try.prog 13 #[(.agg t19), (.agg t21), (.int .i64 t23), (.slice t16a t16n t16c)] w3 fun (e25 : Ending) (w4 : World) => ∃ (t25_0a : Option Addr) (t25_0n : Nat) (t25_0c : Nat) (t25_1 : Value), e25 = .returned (.tuple #[(.slice t25_0a t25_0n t25_0c), t25_1]) ∧
                          (∃ (t30 : Array Value), (Instr.loadAt 22 (.pointer (some ⟨g1, 0, none⟩))).run Try.prog w4 = .ok (.agg t30) w4 ∧
                            (∃ (t32 : Array Value), (Instr.loadAt 24 (.pointer (some ⟨g1, 32, none⟩))).run Try.prog w4 = .ok (.agg t32) w4 ∧
                              (∃ (t34 : Int), (Instr.loadAt 3 (.pointer (some ⟨g1, 44, none⟩))).run Try.prog w4 = .ok (.int .i64 t34) w4 ∧
                                (∃ (t36a : Option Addr) (t36n : Nat) (t36c : Nat), (Instr.loadAt 29 (.pointer (some ⟨g1, 45, none⟩))).run Try.prog w4 = .ok (.slice t36a t36n t36c) w4 ∧
                                  (Calls Try.prog 14 #[(.agg t30), (.agg t32), (.int .i64 t34), (.slice t36a t36n t36c)] w4 fun (e37 : Ending) (w5 : World) => ∃ (t37_0a : Option Addr) (t37_0n : Nat) (t37_0c : Nat) (t37_1 : Int), e37 = .returned (.tuple #[(.slice t37_0a t37_0n t37_0c), (.int .i64 t37_1)]) ∧
                                    (∃ (t41 : ByteArray), (convert 29 9 (.slice t25_0a t25_0n t25_0c)).run Try.prog w5 = .ok (.string t41) w5 ∧
                                      (∃ (t43 : ByteArray), (convert 29 9 (.slice t37_0a t37_0n t37_0c)).run Try.prog w5 = .ok (.string t43) w5 ∧
                                        (((t41.toList == t43.toList) = true →
                                            (Calls Try.prog 15 #[t25_1] w5 fun (e47 : Ending) (w6 : World) => ∃ (t47 : Int), e47 = .returned (.int .i64 t47) ∧
                                              (((t47 == t37_1) = true →
                                                  (∃ (t54a : Option Addr) (t54n : Nat) (t54c : Nat), (Instr.loadAt 29 (.pointer (some ⟨g1, 45, none⟩))).run Try.prog w6 = .ok (.slice t54a t54n t54c) w6 ∧
                                                    (Calls Try.prog 16 #[(.slice t16a t16n t16c), (.slice t54a t54n t54c)] w6 fun (e55 : Ending) (w7 : World) => ∃ (t55 : Bool), e55 = .returned (.bool t55) ∧
                                                      (R (.returned (.bool t55)) w7)))) ∧
                                                ((t47 == t37_1) = false →
                                                  (R (.returned (.bool false)) w6))))) ∧
                                          ((t41.toList == t43.toList) = false →
                                            (R (.returned (.bool false)) w5))))))))))))))))))))))) : Calls Try.prog 4 #[(.agg a0)] w R :=
  calls_of_ev (args := [(.agg a0)])
    (tc := .seq (.reg (.op .bx (.op .p (.nil)))) (.seq (.seq (.reg (.op (.cl [.bool]) (.op .p (.nil)))) (.cond (.seq (.reg (.op .p (.nil))) (.leaf)) (.leaf))) (.seq (.seq (.reg (.op .p (.op (.ld (.slice)) (.op .p (.op .p (.nil)))))) (.cond (.seq (.reg (.op .p (.nil))) (.leaf)) (.leaf))) (.seq (.reg (.op .p (.op (.ld (.slice)) (.op (.cl [.slice]) (.op .p (.nil)))))) (.seq (.reg (.op .p (.op (.ld (.agg)) (.op .p (.op (.ld (.agg)) (.op .p (.op (.ld (.int .i64)) (.op .p (.op (.cl [.slice, .val]) (.op .p (.op .p (.op .p (.op .p (.op .p (.nil))))))))))))))) (.seq (.reg (.op .p (.op (.ld (.agg)) (.op .p (.op (.ld (.agg)) (.op .p (.op (.ld (.int .i64)) (.op .p (.op (.ld (.slice)) (.op (.cl [.slice, .int .i64]) (.op .p (.op .p (.op .p (.op .p (.op .p (.nil)))))))))))))))) (.seq (.reg (.op .p (.op (.ld (.str)) (.op .p (.op (.ld (.str)) (.op .p (.op .p (.sp 45 (.op .p (.op (.cl [.int .i64]) (.op .p (.op .p (.op .p (.op .p (.sp 51 (.op .p (.op .p (.op (.ld (.slice)) (.op (.cl [.bool]) (.op .p (.op .p (.nil))))))) (.op .p (.op .p (.op .p (.op .p (.op .p (.op .p (.nil)))))))))))))) (.op .p (.op .p (.op .p (.op .p (.op .p (.op .p (.op .p (.op .p (.op .p (.op .p (.op .p (.op .p (.nil))))))))))))))))))))) (.leaf))))))))
    (by kernel_rfl) Try.func4 (by kernel_rfl) (by kernel_rfl) (by kernel_rfl) (by kernel_rfl) h

set_option maxRecDepth 100000 in
theorem amphoralaw03_ChachaBack_vc (a0 : Array Value) (a1 : Int) (a2 : Int) (w : World) (R : Ending → World → Prop) (h :
  ∃ (g3 : Nat) (w1 : World), (Instr.box 31 (.agg a0)).run Try.prog w = .ok (.pointer (some ⟨g3, 0, none⟩)) w1 ∧
  (Calls Try.prog 9 #[] w1 fun (e11 : Ending) (w2 : World) => ∃ (t11 : Bool), e11 = .returned (.bool t11) ∧
    (((!t11) = true →
        (R (.returned (.bool false)) w2)) ∧
      ((!t11) = false →
        (∃ (t14a : Option Addr) (t14n : Nat) (t14c : Nat), (Instr.loadAt 29 (.pointer (some ⟨g3, 45, none⟩))).run Try.prog w2 = .ok (.slice t14a t14n t14c) w2 ∧
          (((decide (((t14n : Nat) : Int) > (65536 : Int))) = true →
              (R (.returned (.bool true)) w2)) ∧
            ((decide (((t14n : Nat) : Int) > (65536 : Int))) = false →
              (∃ (t19 : Array Value), (Instr.loadAt 22 (.pointer (some ⟨g3, 0, none⟩))).run Try.prog w2 = .ok (.agg t19) w2 ∧
                (∃ (t21 : Array Value), (Instr.loadAt 24 (.pointer (some ⟨g3, 32, none⟩))).run Try.prog w2 = .ok (.agg t21) w2 ∧
                  (∃ (t23 : Int), (Instr.loadAt 3 (.pointer (some ⟨g3, 44, none⟩))).run Try.prog w2 = .ok (.int .i64 t23) w2 ∧
                    (∃ (t25a : Option Addr) (t25n : Nat) (t25c : Nat), (Instr.loadAt 29 (.pointer (some ⟨g3, 45, none⟩))).run Try.prog w2 = .ok (.slice t25a t25n t25c) w2 ∧
                      (Calls Try.prog 13 #[(.agg t19), (.agg t21), (.int .i64 t23), (.slice t25a t25n t25c)] w2 fun (e26 : Ending) (w3 : World) => ∃ (t26_0a : Option Addr) (t26_0n : Nat) (t26_0c : Nat) (t26_1 : Value), e26 = .returned (.tuple #[(.slice t26_0a t26_0n t26_0c), t26_1]) ∧
                        (∃ (t30 : Bool), (eqlS .neq 34 (.tmp 29) (.const .nilIface) t26_1 .nilIface).run Try.prog w3 = .ok (.bool t30) w3 ∧
                          ((t30 = true →
                              (((((t26_0n : Nat) : Int) == (0 : Int)) = true →
                                  (∃ (t36 : Int), (Instr.loadAt 3 (.pointer (some ⟨g3, 44, none⟩))).run Try.prog w3 = .ok (.int .i64 t36) w3 ∧
                                    (((decide (t36 < (0 : Int))) = true →
                                        (R (.returned (.bool true)) w3)) ∧
                                      ((decide (t36 < (0 : Int))) = false →
                                        (∃ (t40 : Int), (Instr.loadAt 3 (.pointer (some ⟨g3, 44, none⟩))).run Try.prog w3 = .ok (.int .i64 t40) w3 ∧
                                          (∃ (t42a : Option Addr) (t42n : Nat) (t42c : Nat), (Instr.loadAt 29 (.pointer (some ⟨g3, 45, none⟩))).run Try.prog w3 = .ok (.slice t42a t42n t42c) w3 ∧
                                            (R (.returned (.bool (decide (t40 > (IntKind.wrap .i64 ((274877906944 : Int) - ((t42n : Nat) : Int))))))) w3))))))) ∧
                                ((((t26_0n : Nat) : Int) == (0 : Int)) = false →
                                  (R (.returned (.bool false)) w3)))) ∧
                            (t30 = false →
                              (∃ (t50 : Array Value), (Instr.loadAt 22 (.pointer (some ⟨g3, 0, none⟩))).run Try.prog w3 = .ok (.agg t50) w3 ∧
                                (∃ (t52 : Array Value), (Instr.loadAt 24 (.pointer (some ⟨g3, 32, none⟩))).run Try.prog w3 = .ok (.agg t52) w3 ∧
                                  (∃ (t54 : Int), (Instr.loadAt 3 (.pointer (some ⟨g3, 44, none⟩))).run Try.prog w3 = .ok (.int .i64 t54) w3 ∧
                                    (Calls Try.prog 13 #[(.agg t50), (.agg t52), (.int .i64 t54), (.slice t26_0a t26_0n t26_0c)] w3 fun (e56 : Ending) (w4 : World) => ∃ (t56_0a : Option Addr) (t56_0n : Nat) (t56_0c : Nat) (t56_1 : Value), e56 = .returned (.tuple #[(.slice t56_0a t56_0n t56_0c), t56_1]) ∧
                                      (∃ J : Bool → World → Prop, (∃ (t60 : Bool), (eqlS .neq 34 (.tmp 59) (.const .nilIface) t56_1 .nilIface).run Try.prog w4 = .ok (.bool t60) w4 ∧
                                          ((t60 = true →
                                              (J true w4)) ∧
                                            (t60 = false →
                                              (∃ (t63 : ByteArray), (convert 29 9 (.slice t56_0a t56_0n t56_0c)).run Try.prog w4 = .ok (.string t63) w4 ∧
                                                (∃ (t65a : Option Addr) (t65n : Nat) (t65c : Nat), (Instr.loadAt 29 (.pointer (some ⟨g3, 45, none⟩))).run Try.prog w4 = .ok (.slice t65a t65n t65c) w4 ∧
                                                  (∃ (t66 : ByteArray), (convert 29 9 (.slice t65a t65n t65c)).run Try.prog w4 = .ok (.string t66) w4 ∧
                                                    (J (!(t63.toList == t66.toList)) w4))))))) ∧
                                        (∀ (x68 : Bool), ∀ w5 : World, J x68 w5 →
                                          ((x68 = true →
                                              (R (.returned (.bool false)) w5)) ∧
                                            (x68 = false →
                                              (∃ J_1 : Bool → World → Prop, ((((decide (a1 < (0 : Int))) || (decide (a2 < a1))) = true →
                                                    (J_1 true w5)) ∧
                                                  (((decide (a1 < (0 : Int))) || (decide (a2 < a1))) = false →
                                                    (∃ (t79a : Option Addr) (t79n : Nat) (t79c : Nat), (Instr.loadAt 29 (.pointer (some ⟨g3, 45, none⟩))).run Try.prog w5 = .ok (.slice t79a t79n t79c) w5 ∧
                                                      (J_1 (decide (a2 > ((t79n : Nat) : Int))) w5)))) ∧
                                                (∀ (x82 : Bool), ∀ w6 : World, J_1 x82 w6 →
                                                  ((x82 = true →
                                                      (R (.returned (.bool true)) w6)) ∧
                                                    (x82 = false →
                                                      (∃ S : World → Prop, S w6.drew ∧
                                                        (∃ (t85 : Array Value), (∀ w' : World, S w' → (Instr.loadAt 22 (.pointer (some ⟨g3, 0, none⟩))).run Try.prog w' = .ok (.agg t85) w') ∧
                                                          (∃ (t87 : Array Value), (∀ w' : World, S w' → (Instr.loadAt 24 (.pointer (some ⟨g3, 32, none⟩))).run Try.prog w' = .ok (.agg t87) w') ∧
                                                            (∃ (t89 : Int), (∀ w' : World, S w' → (Instr.loadAt 3 (.pointer (some ⟨g3, 44, none⟩))).run Try.prog w' = .ok (.int .i64 t89) w') ∧
                                                              (∃ (t93a : Option Addr) (t93n : Nat) (t93c : Nat), (∀ w' : World, S w' → (Instr.loadAt 29 (.pointer (some ⟨g3, 45, none⟩))).run Try.prog w' = .ok (.slice t93a t93n t93c) w') ∧
                                                                (0 ≤ a1 ∧ a1 ≤ a2 ∧ a2 ≤ ((t93c : Nat) : Int) ∧ ∀ t96a : Option Addr, SubA 1 t93a (Int.toNat a1) t93c t96a →
                                                                  (Calls Try.prog 13 #[(.agg t85), (.agg t87), (.int .i64 (IntKind.wrap .i64 (t89 + a1))), (.slice t96a ((Int.toNat a2) - (Int.toNat a1)) (t93c - (Int.toNat a1)))] w6.drew fun (e97 : Ending) (w7 : World) => ∃ (t97_0a : Option Addr) (t97_0n : Nat) (t97_0c : Nat) (t97_1 : Value), e97 = .returned (.tuple #[(.slice t97_0a t97_0n t97_0c), t97_1]) ∧
                                                                    (∃ S_1 : World → Prop, (∀ w' : World, S_1 w' → S w') ∧ S_1 w7 ∧
                                                                      (∃ S_2 : World → Prop, S_2 w7.drew ∧
                                                                        (∃ (t101 : Bool), (∀ w' : World, S_2 w' → (eqlS .eql 34 (.tmp 100) (.const .nilIface) t97_1 .nilIface).run Try.prog w' = .ok (.bool t101) w') ∧
                                                                          ((t101 = true →
                                                                              (0 ≤ a1 ∧ a1 ≤ a2 ∧ a2 ≤ ((t26_0c : Nat) : Int) ∧ ∀ t108a : Option Addr, SubA 1 t26_0a (Int.toNat a1) t26_0c t108a →
                                                                                (∃ (t104 : ByteArray), (∀ w' : World, S_2 w' → (convert 29 9 (.slice t97_0a t97_0n t97_0c)).run Try.prog w' = .ok (.string t104) w') ∧
                                                                                (∃ (t109 : ByteArray), (∀ w' : World, S_2 w' → (convert 29 9 (.slice t108a ((Int.toNat a2) - (Int.toNat a1)) (t26_0c - (Int.toNat a1)))).run Try.prog w' = .ok (.string t109) w') ∧
                                                                                (R (.returned (.bool (t104.toList == t109.toList))) w7.drew))))) ∧
                                                                            (t101 = false →
                                                                              (R (.returned (.bool false)) w7.drew)))))))))))))))))))))))))))))))))))))))) : Calls Try.prog 5 #[(.agg a0), (.int .i64 a1), (.int .i64 a2)] w R :=
  calls_of_ev (args := [(.agg a0), (.int .i64 a1), (.int .i64 a2)])
    (tc := .seq (.reg (.op .bx (.op .p (.nil)))) (.seq (.seq (.reg (.op (.cl [.bool]) (.op .p (.nil)))) (.cond (.seq (.reg (.op .p (.nil))) (.leaf)) (.leaf))) (.seq (.seq (.reg (.op .p (.op (.ld (.slice)) (.op .p (.op .p (.nil)))))) (.cond (.seq (.reg (.op .p (.nil))) (.leaf)) (.leaf))) (.seq (.reg (.op .p (.op (.ld (.agg)) (.op .p (.op (.ld (.agg)) (.op .p (.op (.ld (.int .i64)) (.op .p (.op (.ld (.slice)) (.op (.cl [.slice, .val]) (.op .p (.op .p (.op .p (.op .p (.op .p (.nil)))))))))))))))) (.seq (.seq (.reg (.op .p (.op (.ld (.bool)) (.nil)))) (.cond (.seq (.reg (.op .p (.op .p (.op .p (.op .p (.sp 34 (.op .p (.op (.ld (.int .i64)) (.op .p (.op .p (.sp 38 (.op .p (.op .p (.op .p (.op .p (.op .p (.op .p (.op .p (.op .p (.op .p (.op .p (.nil))))))))))) (.op .p (.op (.ld (.int .i64)) (.op .p (.op (.ld (.slice)) (.op .p (.op .p (.op .p (.op .p (.op .p (.op .p (.nil)))))))))))))))) (.op .p (.op .p (.op .p (.op .p (.op .p (.op .p (.op .p (.op .p (.op .p (.op .p (.op .p (.op .p (.op .p (.op .p (.nil))))))))))))))))))))) (.leaf)) (.leaf))) (.seq (.reg (.op .p (.op (.ld (.agg)) (.op .p (.op (.ld (.agg)) (.op .p (.op (.ld (.int .i64)) (.op .p (.op (.cl [.slice, .val]) (.op .p (.op .p (.op .p (.op .p (.op .p (.nil))))))))))))))) (.seq (.seq (.join [59, 60, 61, 62, 63, 64, 65, 66, 67, 68] [68] [.bool] (.reg (.op .p (.op (.ld (.bool)) (.op .p (.sp 61 (.op .p (.op .p (.op .p (.op .p (.op .p (.op .p (.op .p (.nil)))))))) (.op .p (.op (.ld (.str)) (.op .p (.op (.ld (.slice)) (.op (.ld (.str)) (.op .p (.op .p (.nil)))))))))))))) (.cond (.seq (.reg (.op .p (.nil))) (.leaf)) (.leaf))) (.seq (.seq (.join [69, 70, 71, 72, 73, 74, 75, 76, 77, 78, 79, 80, 81, 82] [82] [.bool] (.reg (.op .p (.op .p (.op .p (.ap 3 (.op .p (.sp 76 (.op .p (.op .p (.op .p (.op .p (.op .p (.op .p (.nil))))))) (.op .p (.op .p (.op (.ld (.slice)) (.op .p (.op .p (.op .p (.nil))))))))))))))) (.cond (.seq (.reg (.op .p (.nil))) (.leaf)) (.leaf))) (.seq (.drawS (.tk 0 .p (.tk 2 .p (.tk 4 .p (.tk 6 .p (.tk 8 .p (.tk 10 .p (.tk 11 .p (.ts 1 (.agg) (.ts 3 (.agg) (.ts 5 (.int .i64) (.tk 7 .p (.ts 9 (.slice) (.tk 12 .sl (.go 13 (.cl [.slice, .val]) (.tk 14 .p (.tk 15 .p (.tk 16 .p (.tk 17 .p (.tk 18 .p (.nil)))))))))))))))))))) []) (.seq (.drawS (.tk 0 .p (.ts 1 (.bool) (.tk 2 .p (.sp 102 (.tk 3 .p (.tk 5 .p (.tk 6 .p (.tk 7 .p (.tk 8 .sl (.ts 4 (.str) (.ts 9 (.str) (.tk 10 .p (.tk 11 .p (.tk 12 .p (.nil))))))))))) (.tk 3 .p (.tk 5 .p (.tk 6 .p (.tk 7 .p (.tk 8 .p (.ts 4 .val (.ts 9 .val (.tk 10 .p (.tk 11 .p (.tk 12 .p (.nil))))))))))))))) []) (.leaf)))))))))))
    (by kernel_rfl) Try.func5 (by kernel_rfl) (by kernel_rfl) (by kernel_rfl) (by kernel_rfl) h

set_option maxRecDepth 100000 in
theorem amphoralaw03_ChachaSeeks_vc (a0 : Array Value) (a1 : Array Value) (a2a : Option Addr) (a2n : Nat) (a2c : Nat) (w : World) (R : Ending → World → Prop) (h :
  ∃ (g3 : Nat) (w1 : World), (Instr.box 22 (.agg a0)).run Try.prog w = .ok (.pointer (some ⟨g3, 0, none⟩)) w1 ∧
  (∃ (g4 : Nat) (w2 : World), (Instr.box 24 (.agg a1)).run Try.prog w1 = .ok (.pointer (some ⟨g4, 0, none⟩)) w2 ∧
    (Calls Try.prog 9 #[] w2 fun (e17 : Ending) (w3 : World) => ∃ (t17 : Bool), e17 = .returned (.bool t17) ∧
      (((!t17) = true →
          (R (.returned (.bool false)) w3)) ∧
        ((!t17) = false →
          (∃ (t19 : Array Value), (Instr.loadAt 22 (.pointer (some ⟨g3, 0, none⟩))).run Try.prog w3 = .ok (.agg t19) w3 ∧
            (∃ (t20 : Array Value), (Instr.loadAt 24 (.pointer (some ⟨g4, 0, none⟩))).run Try.prog w3 = .ok (.agg t20) w3 ∧
              (Calls Try.prog 17 #[(.agg t19), (.agg t20)] w3 fun (e21 : Ending) (w4 : World) => ∃ (t21b : Nat) (t21o : Nat), e21 = .returned (.pointer (some ⟨t21b, t21o, none⟩)) ∧
                (((decide (((a2n : Nat) : Int) > (100 : Int))) = true →
                    (R (.returned (.bool true)) w4)) ∧
                  ((decide (((a2n : Nat) : Int) > (100 : Int))) = false →
                    (∃ (I : Int → Int → World → Prop) (μ : Int → Int → World → Nat), I 0 0 w4 ∧
                      (∀ (x8 : Int) (x33 : Int), ∀ w5 : World, I x8 x33 w5 →
                        (((decide (x33 < ((a2n : Nat) : Int))) = true →
                            (∃ (t35b t35o : Nat), a2a = some ⟨t35b, t35o, none⟩ ∧ 0 ≤ x33 ∧ x33 < ((a2n : Nat) : Int) ∧
                              (∃ (t36 : Array Value), (Instr.loadAt 48 (.pointer (some ⟨t35b, t35o + Int.toNat x33 * 3, none⟩))).run Try.prog w5 = .ok (.agg t36) w5 ∧
                                (∃ (g10 : Nat) (w6 : World), (Instr.alloc 48 true (.tuple #[])).run Try.prog w5 = .ok (.pointer (some ⟨g10, 0, none⟩)) w6 ∧
                                  (∃ w7 : World, (Instr.storeAt 48 (.pointer (some ⟨g10, 0, none⟩)) (.agg t36)).run Try.prog w6 = .ok () w7 ∧
                                    (∃ (t38a : Option Addr) (t38n : Nat) (t38c : Nat), (Instr.loadAt 29 (.pointer (some ⟨g10, 2, none⟩))).run Try.prog w7 = .ok (.slice t38a t38n t38c) w7 ∧
                                      (((decide (((t38n : Nat) : Int) > (4096 : Int))) = true →
                                          (R (.returned (.bool true)) w7)) ∧
                                        ((decide (((t38n : Nat) : Int) > (4096 : Int))) = false →
                                          (∃ (t42 : Int), (Instr.loadAt 3 (.pointer (some ⟨g10, 0, none⟩))).run Try.prog w7 = .ok (.int .i64 t42) w7 ∧
                                            (((t42 == (1 : Int)) = true →
                                                (∃ (t46 : Int), (Instr.loadAt 3 (.pointer (some ⟨g10, 1, none⟩))).run Try.prog w7 = .ok (.int .i64 t46) w7 ∧
                                                  (Calls Try.prog 18 #[(.pointer (some ⟨t21b, t21o, none⟩)), (.int .i64 t46)] w7 fun (e47 : Ending) (w8 : World) => ∃ (t47 : Value), e47 = .returned t47 ∧
                                                    (∃ J : Bool → World → Prop, (∃ (t49 : Int), (Instr.loadAt 3 (.pointer (some ⟨g10, 1, none⟩))).run Try.prog w8 = .ok (.int .i64 t49) w8 ∧
                                                        (((decide (t49 ≥ (0 : Int))) = true →
                                                            (∃ (t53 : Int), (Instr.loadAt 3 (.pointer (some ⟨g10, 1, none⟩))).run Try.prog w8 = .ok (.int .i64 t53) w8 ∧
                                                              (J (decide (t53 ≤ (274877906944 : Int))) w8))) ∧
                                                          ((decide (t49 ≥ (0 : Int))) = false →
                                                            (J false w8)))) ∧
                                                      (∀ (x55 : Bool), ∀ w9 : World, J x55 w9 →
                                                        (∃ J_1 : Int → World → Prop, ((x55 = true →
                                                              (∃ (t57 : Int), (Instr.loadAt 3 (.pointer (some ⟨g10, 1, none⟩))).run Try.prog w9 = .ok (.int .i64 t57) w9 ∧
                                                                (J_1 t57 w9))) ∧
                                                            (x55 = false →
                                                              (J_1 x8 w9))) ∧
                                                          (∀ (x8_1 : Int), ∀ w10 : World, J_1 x8_1 w10 →
                                                            (∃ J_2 : Bool → World → Prop, (∃ S : World → Prop, S w10.drew ∧
                                                                (∃ (t59 : Bool), (∀ w' : World, S w' → (eqlS .eql 34 (.tmp 58) (.const .nilIface) t47 .nilIface).run Try.prog w' = .ok (.bool t59) w') ∧
                                                                  (∃ (t61 : Int), (∀ w' : World, S w' → (Instr.loadAt 3 (.pointer (some ⟨g10, 1, none⟩))).run Try.prog w' = .ok (.int .i64 t61) w') ∧
                                                                    (((decide (t61 ≥ (0 : Int))) = true →
                                                                        (∃ (t65 : Int), (∀ w' : World, S w' → (Instr.loadAt 3 (.pointer (some ⟨g10, 1, none⟩))).run Try.prog w' = .ok (.int .i64 t65) w') ∧
                                                                          (((!(t59 == (decide (t65 ≤ (274877906944 : Int))))) = true →
                                                                              (S w10.drew ∧
                                                                                (S w10.drew ∧
                                                                                (S w10.drew ∧
                                                                                (J_2 true w10.drew))))) ∧
                                                                            ((!(t59 == (decide (t65 ≤ (274877906944 : Int))))) = false →
                                                                              (Calls Try.prog 15 #[t47] w10.drew fun (e71 : Ending) (w11 : World) => ∃ (t71 : Int), e71 = .returned (.int .i64 t71) ∧
                                                                                (∃ S_1 : World → Prop, (∀ w' : World, S_1 w' → S w') ∧ S_1 w11 ∧
                                                                                (((t71 != (0 : Int)) = true →
                                                                                (Calls Try.prog 15 #[t47] w11 fun (e75 : Ending) (w12 : World) => ∃ (t75 : Int), e75 = .returned (.int .i64 t75) ∧
                                                                                (∃ S_2 : World → Prop, (∀ w' : World, S_2 w' → S_1 w') ∧ S_2 w12 ∧
                                                                                (((t75 != (8 : Int)) = true →
                                                                                (S_2 w12 ∧
                                                                                (J_2 true w12))) ∧
                                                                                ((t75 != (8 : Int)) = false →
                                                                                (Calls Try.prog 19 #[(.pointer (some ⟨t21b, t21o, none⟩))] w12 fun (e81 : Ending) (w13 : World) => ∃ (t81 : Int), e81 = .returned (.int .i64 t81) ∧
                                                                                (∃ S_3 : World → Prop, (∀ w' : World, S_3 w' → S_2 w') ∧ S_3 w13 ∧
                                                                                (J_2 (t81 != x8_1) w13)))))))) ∧
                                                                                ((t71 != (0 : Int)) = false →
                                                                                (S_1 w11 ∧
                                                                                (Calls Try.prog 19 #[(.pointer (some ⟨t21b, t21o, none⟩))] w11 fun (e81 : Ending) (w14 : World) => ∃ (t81 : Int), e81 = .returned (.int .i64 t81) ∧
                                                                                (∃ S_2 : World → Prop, (∀ w' : World, S_2 w' → S_1 w') ∧ S_2 w14 ∧
                                                                                (J_2 (t81 != x8_1) w14)))))))))))) ∧
                                                                      ((decide (t61 ≥ (0 : Int))) = false →
                                                                        (((!(t59 == false)) = true →
                                                                            (S w10.drew ∧
                                                                              (S w10.drew ∧
                                                                                (S w10.drew ∧
                                                                                (J_2 true w10.drew))))) ∧
                                                                          ((!(t59 == false)) = false →
                                                                            (Calls Try.prog 15 #[t47] w10.drew fun (e71 : Ending) (w15 : World) => ∃ (t71 : Int), e71 = .returned (.int .i64 t71) ∧
                                                                              (∃ S_1 : World → Prop, (∀ w' : World, S_1 w' → S w') ∧ S_1 w15 ∧
                                                                                (((t71 != (0 : Int)) = true →
                                                                                (Calls Try.prog 15 #[t47] w15 fun (e75 : Ending) (w16 : World) => ∃ (t75 : Int), e75 = .returned (.int .i64 t75) ∧
                                                                                (∃ S_2 : World → Prop, (∀ w' : World, S_2 w' → S_1 w') ∧ S_2 w16 ∧
                                                                                (((t75 != (8 : Int)) = true →
                                                                                (S_2 w16 ∧
                                                                                (J_2 true w16))) ∧
                                                                                ((t75 != (8 : Int)) = false →
                                                                                (Calls Try.prog 19 #[(.pointer (some ⟨t21b, t21o, none⟩))] w16 fun (e81 : Ending) (w17 : World) => ∃ (t81 : Int), e81 = .returned (.int .i64 t81) ∧
                                                                                (∃ S_3 : World → Prop, (∀ w' : World, S_3 w' → S_2 w') ∧ S_3 w17 ∧
                                                                                (J_2 (t81 != x8_1) w17)))))))) ∧
                                                                                ((t71 != (0 : Int)) = false →
                                                                                (S_1 w15 ∧
                                                                                (Calls Try.prog 19 #[(.pointer (some ⟨t21b, t21o, none⟩))] w15 fun (e81 : Ending) (w18 : World) => ∃ (t81 : Int), e81 = .returned (.int .i64 t81) ∧
                                                                                (∃ S_2 : World → Prop, (∀ w' : World, S_2 w' → S_1 w') ∧ S_2 w18 ∧
                                                                                (J_2 (t81 != x8_1) w18))))))))))))))) ∧
                                                              (∀ (x84 : Bool), ∀ w19 : World, J_2 x84 w19 →
                                                                ((x84 = true →
                                                                    (R (.returned (.bool false)) w19)) ∧
                                                                  (x84 = false →
                                                                    (I x8_1 (IntKind.wrap .i64 (x33 + (1 : Int))) w19 ∧ μ x8_1 (IntKind.wrap .i64 (x33 + (1 : Int))) w19 < μ x8 x33 w5)))))))))))) ∧
                                              ((t42 == (1 : Int)) = false →
                                                (∃ (t86 : Int), (Instr.loadAt 3 (.pointer (some ⟨g10, 1, none⟩))).run Try.prog w7 = .ok (.int .i64 t86) w7 ∧
                                                  (∃ (t89a : Option Addr) (t89n : Nat) (t89c : Nat), (Instr.loadAt 29 (.pointer (some ⟨g10, 2, none⟩))).run Try.prog w7 = .ok (.slice t89a t89n t89c) w7 ∧
                                                    (∃ S : World → Prop, S w7.drew ∧
                                                      (∃ (t95a : Option Addr) (t95n : Nat) (t95c : Nat), (∀ w' : World, S w' → (Instr.loadAt 29 (.pointer (some ⟨g10, 2, none⟩))).run Try.prog w' = .ok (.slice t95a t95n t95c) w') ∧
                                                        (0 ≤ (if ((t89n : Nat) : Int) < (if t86 < (0 : Int) then (0 : Int) else t86) then ((t89n : Nat) : Int) else (if t86 < (0 : Int) then (0 : Int) else t86)) ∧ (if ((t89n : Nat) : Int) < (if t86 < (0 : Int) then (0 : Int) else t86) then ((t89n : Nat) : Int) else (if t86 < (0 : Int) then (0 : Int) else t86)) ≤ ((t95c : Nat) : Int) ∧
                                                          (∃ (t99a : Option Addr) (t99n : Nat) (t99c : Nat), (∀ w' : World, S w' → (Instr.loadAt 29 (.pointer (some ⟨g10, 2, none⟩))).run Try.prog w' = .ok (.slice t99a t99n t99c) w') ∧
                                                            (0 ≤ (if ((t89n : Nat) : Int) < (if t86 < (0 : Int) then (0 : Int) else t86) then ((t89n : Nat) : Int) else (if t86 < (0 : Int) then (0 : Int) else t86)) ∧ (if ((t89n : Nat) : Int) < (if t86 < (0 : Int) then (0 : Int) else t86) then ((t89n : Nat) : Int) else (if t86 < (0 : Int) then (0 : Int) else t86)) ≤ ((t99n : Nat) : Int) ∧ ((t99n : Nat) : Int) ≤ ((t99c : Nat) : Int) ∧ ∀ t101a : Option Addr, SubA 1 t99a (Int.toNat (if ((t89n : Nat) : Int) < (if t86 < (0 : Int) then (0 : Int) else t86) then ((t89n : Nat) : Int) else (if t86 < (0 : Int) then (0 : Int) else t86))) t99c t101a →
                                                              (∃ (t102a : Option Addr) (t102n : Nat) (t102c : Nat) (w20 : World), (Instr.buildSlice 54 2 #[(0, (.slice t95a (Int.toNat (if ((t89n : Nat) : Int) < (if t86 < (0 : Int) then (0 : Int) else t86) then ((t89n : Nat) : Int) else (if t86 < (0 : Int) then (0 : Int) else t86))) t95c)), (1, (.slice t101a ((t99n) - (Int.toNat (if ((t89n : Nat) : Int) < (if t86 < (0 : Int) then (0 : Int) else t86) then ((t89n : Nat) : Int) else (if t86 < (0 : Int) then (0 : Int) else t86)))) (t99c - (Int.toNat (if ((t89n : Nat) : Int) < (if t86 < (0 : Int) then (0 : Int) else t86) then ((t89n : Nat) : Int) else (if t86 < (0 : Int) then (0 : Int) else t86))))))]).run Try.prog w7.drew = .ok (.slice t102a t102n t102c) w20 ∧
                                                                (∃ S_1 : World → Prop, (∀ w' : World, S_1 w' → S w') ∧ S_1 w20 ∧
                                                                  (Calls Try.prog 20 #[(.pointer (some ⟨t21b, t21o, none⟩)), (.slice t102a t102n t102c)] w20 fun (e103 : Ending) (w21 : World) => ∃ (t103_0a : Option Addr) (t103_0n : Nat) (t103_0c : Nat) (t103_1 : Value), e103 = .returned (.tuple #[(.slice t103_0a t103_0n t103_0c), t103_1]) ∧
                                                                    (∃ S_2 : World → Prop, (∀ w' : World, S_2 w' → S_1 w') ∧ S_2 w21 ∧
                                                                      (∃ (t107 : Array Value), (Instr.loadAt 22 (.pointer (some ⟨g3, 0, none⟩))).run Try.prog w21 = .ok (.agg t107) w21 ∧
                                                                        (∃ (t108 : Array Value), (Instr.loadAt 24 (.pointer (some ⟨g4, 0, none⟩))).run Try.prog w21 = .ok (.agg t108) w21 ∧
                                                                          (∃ (t111a : Option Addr) (t111n : Nat) (t111c : Nat), (Instr.loadAt 29 (.pointer (some ⟨g10, 2, none⟩))).run Try.prog w21 = .ok (.slice t111a t111n t111c) w21 ∧
                                                                            (Calls Try.prog 14 #[(.agg t107), (.agg t108), (.int .i64 x8), (.slice t111a t111n t111c)] w21 fun (e112 : Ending) (w22 : World) => ∃ (t112_0a : Option Addr) (t112_0n : Nat) (t112_0c : Nat) (t112_1 : Int), e112 = .returned (.tuple #[(.slice t112_0a t112_0n t112_0c), (.int .i64 t112_1)]) ∧
                                                                              (∃ J : Int → World → Prop, (((t112_1 == (0 : Int)) = true →
                                                                                (∃ (t119a : Option Addr) (t119n : Nat) (t119c : Nat), (Instr.loadAt 29 (.pointer (some ⟨g10, 2, none⟩))).run Try.prog w22 = .ok (.slice t119a t119n t119c) w22 ∧
                                                                                (J (IntKind.wrap .i64 (x8 + ((t119n : Nat) : Int))) w22))) ∧
                                                                                ((t112_1 == (0 : Int)) = false →
                                                                                (J x8 w22))) ∧
                                                                                (∀ (x8_1 : Int), ∀ w23 : World, J x8_1 w23 →
                                                                                (∃ J_1 : Bool → World → Prop, (∃ (t123 : ByteArray), (convert 29 9 (.slice t103_0a t103_0n t103_0c)).run Try.prog w23 = .ok (.string t123) w23 ∧
                                                                                (∃ (t125 : ByteArray), (convert 29 9 (.slice t112_0a t112_0n t112_0c)).run Try.prog w23 = .ok (.string t125) w23 ∧
                                                                                (((!(t123.toList == t125.toList)) = true →
                                                                                (J_1 true w23)) ∧
                                                                                ((!(t123.toList == t125.toList)) = false →
                                                                                (Calls Try.prog 15 #[t103_1] w23 fun (e129 : Ending) (w24 : World) => ∃ (t129 : Int), e129 = .returned (.int .i64 t129) ∧
                                                                                (((t129 != t112_1) = true →
                                                                                (J_1 true w24)) ∧
                                                                                ((t129 != t112_1) = false →
                                                                                (Calls Try.prog 19 #[(.pointer (some ⟨t21b, t21o, none⟩))] w24 fun (e135 : Ending) (w25 : World) => ∃ (t135 : Int), e135 = .returned (.int .i64 t135) ∧
                                                                                (J_1 (t135 != x8_1) w25))))))))) ∧
                                                                                (∀ (x138 : Bool), ∀ w26 : World, J_1 x138 w26 →
                                                                                ((x138 = true →
                                                                                (R (.returned (.bool false)) w26)) ∧
                                                                                (x138 = false →
                                                                                (I x8_1 (IntKind.wrap .i64 (x33 + (1 : Int))) w26 ∧ μ x8_1 (IntKind.wrap .i64 (x33 + (1 : Int))) w26 < μ x8 x33 w5))))))))))))))))))))))))))))))))) ∧
                          ((decide (x33 < ((a2n : Nat) : Int))) = false →
                            (R (.returned (.bool true)) w5))))))))))))))) : Calls Try.prog 7 #[(.agg a0), (.agg a1), (.slice a2a a2n a2c)] w R :=
  calls_of_ev (args := [(.agg a0), (.agg a1), (.slice a2a a2n a2c)])
    (tc := .seq (.reg (.op .bx (.op .bx (.op .p (.nil))))) (.seq (.seq (.reg (.op (.cl [.bool]) (.op .p (.nil)))) (.cond (.seq (.reg (.op .p (.nil))) (.leaf)) (.leaf))) (.seq (.reg (.op (.ld (.agg)) (.op (.ld (.agg)) (.op (.cl [.ptr]) (.op .p (.nil)))))) (.seq (.seq (.reg (.op .p (.op .p (.op .p (.op .p (.op .p (.op .p (.op .p (.nil))))))))) (.cond (.seq (.reg (.op .p (.op .p (.op .p (.nil))))) (.leaf)) (.leaf))) (.seq (.reg (.op .p (.nil))) (.seq (.seq (.reg (.op .p (.op .p (.op .p (.nil))))) (.blk (.loop [6, 8, 10, 11, 12, 13, 14, 15, 16, 33, 34, 35, 36, 37, 38, 39, 40, 41, 42, 43, 44, 45, 46, 47, 48, 49, 50, 51, 52, 53, 54, 55, 56, 57, 58, 59, 60, 61, 62, 63, 64, 65, 66, 67, 68, 69, 70, 71, 72, 73, 74, 75, 76, 77, 78, 79, 80, 81, 82, 83, 84, 85, 86, 87, 88, 89, 90, 91, 92, 93, 94, 95, 96, 97, 98, 99, 100, 101, 102, 103, 104, 105, 106, 107, 108, 109, 110, 111, 112, 113, 114, 115, 116, 117, 118, 119, 120, 121, 122, 123, 124, 125, 126, 127, 128, 129, 130, 131, 132, 133, 134, 135, 136, 137, 138, 139] [8, 33] [.int .i64, .int .i64] (.seq (.reg (.op .p (.nil))) (.seq (.cond (.leaf) (.leaf)) (.seq (.blk (.seq (.reg (.op .ix (.op (.ld (.agg)) (.op .bx (.op .u (.nil)))))) (.seq (.seq (.reg (.op .p (.op (.ld (.slice)) (.op .p (.op .p (.nil)))))) (.cond (.seq (.reg (.op .p (.nil))) (.leaf)) (.leaf))) (.seq (.seq (.reg (.op .p (.op (.ld (.int .i64)) (.op .p (.nil))))) (.cond (.seq (.reg (.op .p (.op .p (.op (.ld (.int .i64)) (.op (.cl [.val]) (.op .p (.nil))))))) (.seq (.seq (.join [48, 49, 50, 51, 52, 53, 54, 55] [55] [.bool] (.reg (.op .p (.op (.ld (.int .i64)) (.op .p (.op .p (.sp 51 (.op .p (.op (.ld (.int .i64)) (.op .p (.op .p (.nil))))) (.op .p (.op .p (.op .p (.op .p (.nil)))))))))))) (.join [8, 56, 57] [8] [.int .i64] (.cond (.reg (.op .p (.op (.ld (.int .i64)) (.op .p (.nil))))) (.leaf)))) (.seq (.seq (.join [58, 59, 60, 61, 62, 63, 64, 65, 66, 67, 68, 69, 70, 71, 72, 73, 74, 75, 76, 77, 78, 79, 80, 81, 82, 83, 84] [84] [.bool] (.drawS (.tk 0 .p (.tk 2 .p (.ts 1 (.bool) (.ts 3 (.int .i64) (.tk 4 .p (.tk 5 .p (.sp 63 (.tk 6 .p (.ts 7 (.int .i64) (.tk 8 .p (.tk 9 .p (.tk 10 .p (.tk 11 .p (.sp 69 (.tk 12 .p (.go 13 .p (.tk 14 .p (.tk 15 .p (.tk 16 .p (.go 17 .p (.tk 18 .p (.tk 19 .p (.tk 20 .p (.tk 21 .p (.tk 22 .p (.tk 24 .p (.go 23 .p (.tk 25 .p (.tk 26 .p (.nil)))))))))))))))) (.tk 12 .p (.go 13 (.cl [.int .i64]) (.tk 14 .p (.tk 15 .p (.sp 73 (.tk 16 .p (.go 17 (.cl [.int .i64]) (.tk 18 .p (.tk 19 .p (.tk 20 .p (.tk 21 .p (.sp 79 (.tk 22 .p (.tk 24 .p (.go 23 .p (.tk 25 .p (.tk 26 .p (.nil)))))) (.tk 22 .p (.tk 24 .p (.go 23 (.cl [.int .i64]) (.tk 25 .p (.tk 26 .p (.nil))))))))))))) (.tk 16 .p (.go 17 .p (.tk 18 .p (.tk 19 .p (.tk 20 .p (.tk 21 .p (.tk 22 .p (.tk 24 .p (.go 23 (.cl [.int .i64]) (.tk 25 .p (.tk 26 .p (.nil)))))))))))))))))))))))) (.tk 6 .p (.ts 7 .val (.tk 8 .p (.tk 9 .p (.tk 10 .p (.tk 11 .p (.sp 69 (.tk 12 .p (.go 13 .p (.tk 14 .p (.tk 15 .p (.tk 16 .p (.go 17 .p (.tk 18 .p (.tk 19 .p (.tk 20 .p (.tk 21 .p (.tk 22 .p (.tk 24 .p (.go 23 .p (.tk 25 .p (.tk 26 .p (.nil)))))))))))))))) (.tk 12 .p (.go 13 (.cl [.int .i64]) (.tk 14 .p (.tk 15 .p (.sp 73 (.tk 16 .p (.go 17 (.cl [.int .i64]) (.tk 18 .p (.tk 19 .p (.tk 20 .p (.tk 21 .p (.sp 79 (.tk 22 .p (.tk 24 .p (.go 23 .p (.tk 25 .p (.tk 26 .p (.nil)))))) (.tk 22 .p (.tk 24 .p (.go 23 (.cl [.int .i64]) (.tk 25 .p (.tk 26 .p (.nil))))))))))))) (.tk 16 .p (.go 17 .p (.tk 18 .p (.tk 19 .p (.tk 20 .p (.tk 21 .p (.tk 22 .p (.tk 24 .p (.go 23 (.cl [.int .i64]) (.tk 25 .p (.tk 26 .p (.nil))))))))))))))))))))))))))))))) [])) (.cond (.seq (.reg (.op .p (.nil))) (.leaf)) (.leaf))) (.leaf)))) (.leaf))) (.seq (.reg (.op .p (.op (.ld (.int .i64)) (.op .p (.op .p (.op (.ld (.slice)) (.op .p (.op .p (.op .p (.nil)))))))))) (.seq (.drawS (.tk 0 .p (.tk 1 .p (.tk 3 .p (.tk 5 .p (.tk 7 .p (.ts 2 (.slice) (.tk 4 .sl (.ts 6 (.slice) (.tk 8 .sl (.go 9 (.r (.slice)) (.go 10 (.cl [.slice, .val]) (.tk 11 .p (.tk 12 .p (.tk 13 .p (.tk 14 .p (.tk 15 .p (.nil))))))))))))))))) []) (.seq (.reg (.op (.ld (.agg)) (.op (.ld (.agg)) (.op .p (.op .p (.op (.ld (.slice)) (.op (.cl [.slice, .int .i64]) (.op .p (.op .p (.op .p (.op .p (.op .p (.nil))))))))))))) (.seq (.seq (.reg (.op .p (.op .p (.nil)))) (.join [8, 117, 118, 119, 120, 121] [8] [.int .i64] (.cond (.reg (.op .p (.op .p (.op (.ld (.slice)) (.op .p (.op .p (.op .p (.nil)))))))) (.leaf)))) (.seq (.join [122, 123, 124, 125, 126, 127, 128, 129, 130, 131, 132, 133, 134, 135, 136, 137, 138] [138] [.bool] (.reg (.op .p (.op (.ld (.str)) (.op .p (.op (.ld (.str)) (.op .p (.op .p (.sp 127 (.op .p (.op .p (.op .p (.op .p (.op .p (.op .p (.op .p (.op .p (.op .p (.op .p (.op .p (.nil)))))))))))) (.op .p (.op (.cl [.int .i64]) (.op .p (.op .p (.op .p (.op .p (.sp 133 (.op .p (.op .p (.op .p (.op .p (.op .p (.nil)))))) (.op .p (.op (.cl [.int .i64]) (.op .p (.op .p (.op .p (.nil)))))))))))))))))))))) (.cond (.seq (.reg (.op .p (.nil))) (.leaf)) (.leaf))))))))))) (.reg (.op .p (.op .p (.nil)))))))))) (.seq (.reg (.op .p (.nil))) (.leaf))))))))
    (by kernel_rfl) Try.func7 (by kernel_rfl) (by kernel_rfl) (by kernel_rfl) (by kernel_rfl) h

set_option maxRecDepth 100000 in
theorem amphoralaw03_ChachaWords_vc (a0 : Array Value) (a1 : Int) (w : World) (R : Ending → World → Prop) (h :
  ∃ (g2 : Nat) (w1 : World), (Instr.box 31 (.agg a0)).run Try.prog w = .ok (.pointer (some ⟨g2, 0, none⟩)) w1 ∧
  (Calls Try.prog 9 #[] w1 fun (e10 : Ending) (w2 : World) => ∃ (t10 : Bool), e10 = .returned (.bool t10) ∧
    (((!t10) = true →
        (R (.returned (.bool false)) w2)) ∧
      ((!t10) = false →
        (∃ (t13 : Array Value), (Instr.loadAt 22 (.pointer (some ⟨g2, 0, none⟩))).run Try.prog w2 = .ok (.agg t13) w2 ∧
          (∃ (t16 : Array Value), (Instr.loadAt 24 (.pointer (some ⟨g2, 32, none⟩))).run Try.prog w2 = .ok (.agg t16) w2 ∧
            (Calls Try.prog 10 #[(.agg t13), (.int .u32 a1), (.agg t16)] w2 fun (e17 : Ending) (w3 : World) => ∃ (t17 : Array Value), e17 = .returned (.agg t17) ∧
              (∃ (g5 : Nat) (w4 : World), (Instr.alloc 26 true (.tuple #[])).run Try.prog w3 = .ok (.pointer (some ⟨g5, 0, none⟩)) w4 ∧
                (∃ w5 : World, (Instr.storeAt 26 (.pointer (some ⟨g5, 0, none⟩)) (.agg t17)).run Try.prog w4 = .ok () w5 ∧
                  (∃ S : World → Prop, S w5.drew ∧
                    (∃ (t20 : Array Value), (∀ w' : World, S w' → (Instr.loadAt 22 (.pointer (some ⟨g2, 0, none⟩))).run Try.prog w' = .ok (.agg t20) w') ∧
                      (∃ (t22 : Array Value), (∀ w' : World, S w' → (Instr.loadAt 24 (.pointer (some ⟨g2, 32, none⟩))).run Try.prog w' = .ok (.agg t22) w') ∧
                        (∃ (t26a : Option Addr) (t26n : Nat) (t26c : Nat) (w6 : World), (Instr.makeSlice 29 (.int .i64 64) (.int .i64 64)).run Try.prog w5.drew = .ok (.slice t26a t26n t26c) w6 ∧
                          (∃ S_1 : World → Prop, (∀ w' : World, S_1 w' → S w') ∧ S_1 w6 ∧
                            (Calls Try.prog 13 #[(.agg t20), (.agg t22), (.int .i64 (IntKind.wrap .i64 ((64 : Int) * (IntKind.wrap .i64 a1)))), (.slice t26a t26n t26c)] w6 fun (e27 : Ending) (w7 : World) => ∃ (t27_0a : Option Addr) (t27_0n : Nat) (t27_0c : Nat) (t27_1 : Value), e27 = .returned (.tuple #[(.slice t27_0a t27_0n t27_0c), t27_1]) ∧
                              (∃ S_2 : World → Prop, (∀ w' : World, S_2 w' → S_1 w') ∧ S_2 w7 ∧
                                (∃ S_3 : World → Prop, S_3 w7.drew ∧
                                  (∃ (t32 : Array Value), (∀ w' : World, S_3 w' → (Instr.loadAt 22 (.pointer (some ⟨g2, 0, none⟩))).run Try.prog w' = .ok (.agg t32) w') ∧
                                    (∃ (t34 : Array Value), (∀ w' : World, S_3 w' → (Instr.loadAt 24 (.pointer (some ⟨g2, 32, none⟩))).run Try.prog w' = .ok (.agg t34) w') ∧
                                      (∃ (t39a : Option Addr) (t39n : Nat) (t39c : Nat) (w8 : World), (Instr.makeSlice 29 (.int .i64 1) (.int .i64 1)).run Try.prog w7.drew = .ok (.slice t39a t39n t39c) w8 ∧
                                        (∃ S_4 : World → Prop, (∀ w' : World, S_4 w' → S_3 w') ∧ S_4 w8 ∧
                                          (Calls Try.prog 13 #[(.agg t32), (.agg t34), (.int .i64 (IntKind.wrap .i64 ((IntKind.wrap .i64 ((64 : Int) * (IntKind.wrap .i64 a1))) + (17 : Int)))), (.slice t39a t39n t39c)] w8 fun (e40 : Ending) (w9 : World) => ∃ (t40_0a : Option Addr) (t40_0n : Nat) (t40_0c : Nat) (t40_1 : Value), e40 = .returned (.tuple #[(.slice t40_0a t40_0n t40_0c), t40_1]) ∧
                                            (∃ S_5 : World → Prop, (∀ w' : World, S_5 w' → S_4 w') ∧ S_5 w9 ∧
                                              (∃ S_6 : World → Prop, S_6 w9.drew ∧
                                                (∃ (t44 : Bool), (∀ w' : World, S_6 w' → (eqlS .eql 34 (.tmp 43) (.const .nilIface) t27_1 .nilIface).run Try.prog w' = .ok (.bool t44) w') ∧
                                                  ((t44 = true →
                                                      (∃ (t47 : Bool), (∀ w' : World, S_6 w' → (eqlS .eql 34 (.tmp 46) (.const .nilIface) t40_1 .nilIface).run Try.prog w' = .ok (.bool t47) w') ∧
                                                        ((t47 = true →
                                                            (0 ≤ ((64 : Nat) : Int) ∧ ((64 : Nat) : Int) ≤ ((64 : Nat) : Int) ∧
                                                              (∃ (t51 : ByteArray), (∀ w' : World, S_6 w' → (convert 29 9 (.slice t27_0a t27_0n t27_0c)).run Try.prog w' = .ok (.string t51) w') ∧
                                                                (∃ (t53 : ByteArray), (∀ w' : World, S_6 w' → (convert 29 9 (.slice (some ⟨g5, 0, none⟩) (64) 64)).run Try.prog w' = .ok (.string t53) w') ∧
                                                                  (((t51.toList == t53.toList) = true →
                                                                      (((((t40_0n : Nat) : Int) == (1 : Int)) = true →
                                                                          (∃ (t63b t63o : Nat), t40_0a = some ⟨t63b, t63o, none⟩ ∧ 0 ≤ (0 : Int) ∧ (0 : Int) < ((t40_0n : Nat) : Int) ∧
                                                                            (∃ (t64 : Int), (∀ w' : World, S_6 w' → (Instr.loadAt 5 (.pointer (some ⟨t63b, t63o + Int.toNat (0 : Int) * 1, none⟩))).run Try.prog w' = .ok (.int .u8 t64) w') ∧
                                                                              (∃ (t66 : Int), (∀ w' : World, S_6 w' → (Instr.loadAt 5 (.pointer (some ⟨g5, 17, none⟩))).run Try.prog w' = .ok (.int .u8 t66) w') ∧
                                                                                (R (.returned (.bool (t64 == t66))) w9.drew))))) ∧
                                                                        ((((t40_0n : Nat) : Int) == (1 : Int)) = false →
                                                                          (R (.returned (.bool false)) w9.drew)))) ∧
                                                                    ((t51.toList == t53.toList) = false →
                                                                      (R (.returned (.bool false)) w9.drew))))))) ∧
                                                          (t47 = false →
                                                            (R (.returned (.bool false)) w9.drew))))) ∧
                                                    (t44 = false →
                                                      (R (.returned (.bool false)) w9.drew)))))))))))))))))))))))))))) : Calls Try.prog 6 #[(.agg a0), (.int .u32 a1)] w R :=
  calls_of_ev (args := [(.agg a0), (.int .u32 a1)])
    (tc := .seq (.reg (.op .bx (.op .p (.nil)))) (.seq (.seq (.reg (.op (.cl [.bool]) (.op .p (.nil)))) (.cond (.seq (.reg (.op .p (.nil))) (.leaf)) (.leaf))) (.seq (.reg (.op .p (.op (.ld (.agg)) (.op .p (.op .p (.op (.ld (.agg)) (.op (.cl [.agg]) (.op .bx (.op .u (.nil)))))))))) (.seq (.drawS (.tk 0 .p (.tk 2 .p (.tk 4 .p (.tk 5 .p (.tk 6 .p (.ts 1 (.agg) (.ts 3 (.agg) (.go 7 (.r (.slice)) (.go 8 (.cl [.slice, .val]) (.tk 9 .p (.tk 10 .p (.tk 11 .p (.tk 12 .p (.tk 13 .p (.nil))))))))))))))) []) (.seq (.drawS (.tk 0 .p (.tk 2 .p (.tk 4 .p (.tk 5 .p (.tk 6 .p (.tk 7 .p (.ts 1 (.agg) (.ts 3 (.agg) (.go 8 (.r (.slice)) (.go 9 (.cl [.slice, .val]) (.tk 10 .p (.tk 11 .p (.tk 12 .p (.tk 13 .p (.tk 14 .p (.nil)))))))))))))))) []) (.seq (.drawS (.tk 0 .p (.ts 1 (.bool) (.tk 2 .p (.sp 45 (.tk 3 .p (.ts 4 (.bool) (.tk 5 .p (.tk 6 .p (.sp 49 (.tk 7 .p (.tk 9 .sl (.ts 8 (.str) (.ts 10 (.str) (.tk 11 .p (.tk 12 .p (.tk 13 .p (.sp 56 (.tk 14 .p (.tk 15 .p (.tk 16 .p (.tk 17 .p (.tk 18 .p (.sp 61 (.tk 19 .p (.tk 20 .ix (.tk 22 .p (.ts 21 (.int .u8) (.ts 23 (.int .u8) (.tk 24 .p (.tk 25 .p (.tk 26 .p (.nil))))))))) (.tk 19 .p (.tk 20 .p (.tk 22 .p (.ts 21 .val (.ts 23 .val (.tk 24 .p (.tk 25 .p (.tk 26 .p (.nil))))))))))))))) (.tk 14 .p (.tk 15 .p (.tk 16 .p (.tk 17 .p (.tk 18 .p (.tk 19 .p (.tk 20 .p (.tk 22 .p (.ts 21 .val (.ts 23 .val (.tk 24 .p (.tk 25 .p (.tk 26 .p (.nil)))))))))))))))))))))) (.tk 7 .p (.tk 9 .p (.ts 8 .val (.ts 10 .val (.tk 11 .p (.tk 12 .p (.tk 13 .p (.tk 14 .p (.tk 15 .p (.tk 16 .p (.tk 17 .p (.tk 18 .p (.tk 19 .p (.tk 20 .p (.tk 22 .p (.ts 21 .val (.ts 23 .val (.tk 24 .p (.tk 25 .p (.tk 26 .p (.nil)))))))))))))))))))))))))) (.tk 3 .p (.ts 4 .val (.tk 5 .p (.tk 6 .p (.tk 7 .p (.tk 9 .p (.ts 8 .val (.ts 10 .val (.tk 11 .p (.tk 12 .p (.tk 13 .p (.tk 14 .p (.tk 15 .p (.tk 16 .p (.tk 17 .p (.tk 18 .p (.tk 19 .p (.tk 20 .p (.tk 22 .p (.ts 21 .val (.ts 23 .val (.tk 24 .p (.tk 25 .p (.tk 26 .p (.nil))))))))))))))))))))))))))))) []) (.leaf)))))))
    (by kernel_rfl) Try.func6 (by kernel_rfl) (by kernel_rfl) (by kernel_rfl) (by kernel_rfl) h

set_option maxRecDepth 100000 in
theorem amphoralaw03_ChachaNone_vc (a0 : Array Value) (w : World) (R : Ending → World → Prop) (h :
  ∃ (g1 : Nat) (w1 : World), (Instr.box 31 (.agg a0)).run Try.prog w = .ok (.pointer (some ⟨g1, 0, none⟩)) w1 ∧
  (Calls Try.prog 9 #[] w1 fun (e14 : Ending) (w2 : World) => ∃ (t14 : Bool), e14 = .returned (.bool t14) ∧
    (((!t14) = true →
        (R (.returned (.bool false)) w2)) ∧
      ((!t14) = false →
        (∃ (t17a : Option Addr) (t17n : Nat) (t17c : Nat), (Instr.loadAt 29 (.pointer (some ⟨g1, 45, none⟩))).run Try.prog w2 = .ok (.slice t17a t17n t17c) w2 ∧
          (((decide (((t17n : Nat) : Int) > (4096 : Int))) = true →
              (R (.returned (.bool true)) w2)) ∧
            ((decide (((t17n : Nat) : Int) > (4096 : Int))) = false →
              (∃ (t23a : Option Addr) (t23n : Nat) (t23c : Nat), (Instr.loadAt 29 (.pointer (some ⟨g1, 45, none⟩))).run Try.prog w2 = .ok (.slice t23a t23n t23c) w2 ∧
                (∃ (t24a : Option Addr) (t24n : Nat) (t24c : Nat) (w3 : World), (Instr.buildSlice 54 1 #[(0, (.slice t23a t23n t23c))]).run Try.prog w2 = .ok (.slice t24a t24n t24c) w3 ∧
                  (Calls Try.prog 20 #[(.pointer none), (.slice t24a t24n t24c)] w3 fun (e25 : Ending) (w4 : World) => ∃ (t25_0a : Option Addr) (t25_0n : Nat) (t25_0c : Nat) (t25_1 : Value), e25 = .returned (.tuple #[(.slice t25_0a t25_0n t25_0c), t25_1]) ∧
                    (∃ J : Bool → World → Prop, (Calls Try.prog 15 #[t25_1] w4 fun (e29 : Ending) (w5 : World) => ∃ (t29 : Int), e29 = .returned (.int .i64 t29) ∧
                        (((t29 != (8 : Int)) = true →
                            (J true w5)) ∧
                          ((t29 != (8 : Int)) = false →
                            (∃ (t34 : Int), (Instr.loadAt 3 (.pointer (some ⟨g1, 44, none⟩))).run Try.prog w5 = .ok (.int .i64 t34) w5 ∧
                              (Calls Try.prog 18 #[(.pointer none), (.int .i64 t34)] w5 fun (e35 : Ending) (w6 : World) => ∃ (t35 : Value), e35 = .returned t35 ∧
                                (Calls Try.prog 15 #[t35] w6 fun (e36 : Ending) (w7 : World) => ∃ (t36 : Int), e36 = .returned (.int .i64 t36) ∧
                                  (((t36 != (8 : Int)) = true →
                                      (J true w7)) ∧
                                    ((t36 != (8 : Int)) = false →
                                      (Calls Try.prog 19 #[(.pointer none)] w7 fun (e41 : Ending) (w8 : World) => ∃ (t41 : Int), e41 = .returned (.int .i64 t41) ∧
                                        (J (t41 != (0 : Int)) w8)))))))))) ∧
                      (∀ (x43 : Bool), ∀ w9 : World, J x43 w9 →
                        ((x43 = true →
                            (R (.returned (.bool false)) w9)) ∧
                          (x43 = false →
                            (∃ (t45a : Option Addr) (t45n : Nat) (t45c : Nat), (Instr.loadAt 29 (.pointer (some ⟨g1, 45, none⟩))).run Try.prog w9 = .ok (.slice t45a t45n t45c) w9 ∧
                              (Calls Try.prog 12 #[(.slice t45a t45n t45c)] w9 fun (e46 : Ending) (w10 : World) => ∃ (t46a : Option Addr) (t46n : Nat) (t46c : Nat), e46 = .returned (.slice t46a t46n t46c) ∧
                                (∃ (t49 : Array Value), (Instr.loadAt 22 (.pointer (some ⟨g1, 0, none⟩))).run Try.prog w10 = .ok (.agg t49) w10 ∧
                                  (∃ (t51 : Array Value), (Instr.loadAt 24 (.pointer (some ⟨g1, 32, none⟩))).run Try.prog w10 = .ok (.agg t51) w10 ∧
                                    (Calls Try.prog 13 #[(.agg t49), (.agg t51), (.int .i64 5), (.slice t46a t46n t46c)] w10 fun (e53 : Ending) (w11 : World) => ∃ (t53_0a : Option Addr) (t53_0n : Nat) (t53_0c : Nat) (t53_1 : Value), e53 = .returned (.tuple #[(.slice t53_0a t53_0n t53_0c), t53_1]) ∧
                                      (∃ (t58 : Array Value), (Instr.loadAt 22 (.pointer (some ⟨g1, 0, none⟩))).run Try.prog w11 = .ok (.agg t58) w11 ∧
                                        (∃ (t60 : Array Value), (Instr.loadAt 24 (.pointer (some ⟨g1, 32, none⟩))).run Try.prog w11 = .ok (.agg t60) w11 ∧
                                          (Calls Try.prog 17 #[(.agg t58), (.agg t60)] w11 fun (e61 : Ending) (w12 : World) => ∃ (t61b : Nat) (t61o : Nat), e61 = .returned (.pointer (some ⟨t61b, t61o, none⟩)) ∧
                                            (∃ (t63a : Option Addr) (t63n : Nat) (t63c : Nat) (w13 : World), (Instr.buildSlice 54 1 #[(0, (.slice t46a t46n t46c))]).run Try.prog w12 = .ok (.slice t63a t63n t63c) w13 ∧
                                              (Calls Try.prog 20 #[(.pointer (some ⟨t61b, t61o, none⟩)), (.slice t63a t63n t63c)] w13 fun (e64 : Ending) (w14 : World) => ∃ (t64_0a : Option Addr) (t64_0n : Nat) (t64_0c : Nat) (t64_1 : Value), e64 = .returned (.tuple #[(.slice t64_0a t64_0n t64_0c), t64_1]) ∧
                                                (∃ (t69 : Array Value), (Instr.loadAt 22 (.pointer (some ⟨g1, 0, none⟩))).run Try.prog w14 = .ok (.agg t69) w14 ∧
                                                  (∃ (t71 : Array Value), (Instr.loadAt 24 (.pointer (some ⟨g1, 32, none⟩))).run Try.prog w14 = .ok (.agg t71) w14 ∧
                                                    (Calls Try.prog 17 #[(.agg t69), (.agg t71)] w14 fun (e72 : Ending) (w15 : World) => ∃ (t72b : Nat) (t72o : Nat), e72 = .returned (.pointer (some ⟨t72b, t72o, none⟩)) ∧
                                                      (∃ (t74a : Option Addr) (t74n : Nat) (t74c : Nat) (w16 : World), (Instr.buildSlice 54 2 #[(0, (.slice t46a t46n t46c)), (1, (.slice none 0 0))]).run Try.prog w15 = .ok (.slice t74a t74n t74c) w16 ∧
                                                        (Calls Try.prog 20 #[(.pointer (some ⟨t72b, t72o, none⟩)), (.slice t74a t74n t74c)] w16 fun (e75 : Ending) (w17 : World) => ∃ (t75_0a : Option Addr) (t75_0n : Nat) (t75_0c : Nat) (t75_1 : Value), e75 = .returned (.tuple #[(.slice t75_0a t75_0n t75_0c), t75_1]) ∧
                                                          (∃ (t81a : Option Addr) (t81n : Nat) (t81c : Nat) (w18 : World), (Instr.buildSlice 54 3 #[(0, (.slice t53_0a t53_0n t53_0c)), (1, (.slice t64_0a t64_0n t64_0c)), (2, (.slice t75_0a t75_0n t75_0c))]).run Try.prog w17 = .ok (.slice t81a t81n t81c) w18 ∧
                                                            (Calls Try.prog 21 #[(.slice t81a t81n t81c)] w18 fun (e82 : Ending) (w19 : World) => ∃ (t82 : Bool), e82 = .returned (.bool t82) ∧
                                                              ((t82 = true →
                                                                  (∃ (t87a : Option Addr) (t87n : Nat) (t87c : Nat), (Instr.loadAt 29 (.pointer (some ⟨g1, 45, none⟩))).run Try.prog w19 = .ok (.slice t87a t87n t87c) w19 ∧
                                                                    (Calls Try.prog 16 #[(.slice t46a t46n t46c), (.slice t87a t87n t87c)] w19 fun (e88 : Ending) (w20 : World) => ∃ (t88 : Bool), e88 = .returned (.bool t88) ∧
                                                                      (R (.returned (.bool t88)) w20)))) ∧
                                                                (t82 = false →
                                                                  (R (.returned (.bool false)) w19)))))))))))))))))))))))))))))))))) : Calls Try.prog 8 #[(.agg a0)] w R :=
  calls_of_ev (args := [(.agg a0)])
    (tc := .seq (.reg (.op .bx (.op .p (.nil)))) (.seq (.seq (.reg (.op (.cl [.bool]) (.op .p (.nil)))) (.cond (.seq (.reg (.op .p (.nil))) (.leaf)) (.leaf))) (.seq (.seq (.reg (.op .p (.op (.ld (.slice)) (.op .p (.op .p (.nil)))))) (.cond (.seq (.reg (.op .p (.nil))) (.leaf)) (.leaf))) (.seq (.reg (.op .p (.nil))) (.seq (.reg (.op .p (.op .p (.op (.ld (.slice)) (.op (.r (.slice)) (.op (.cl [.slice, .val]) (.op .p (.op .p (.op .p (.op .p (.op .p (.nil)))))))))))) (.seq (.seq (.join [28, 29, 30, 31, 32, 33, 34, 35, 36, 37, 38, 39, 40, 41, 42, 43] [43] [.bool] (.reg (.op .p (.op (.cl [.int .i64]) (.op .p (.op .p (.sp 31 (.op .p (.op .p (.op .p (.op .p (.op .p (.op .p (.op .p (.op .p (.op .p (.op .p (.op .p (.op .p (.nil))))))))))))) (.op .p (.op .p (.op (.ld (.int .i64)) (.op (.cl [.val]) (.op (.cl [.int .i64]) (.op .p (.op .p (.op .p (.sp 39 (.op .p (.op .p (.op .p (.op .p (.nil))))) (.op .p (.op (.cl [.int .i64]) (.op .p (.op .p (.nil))))))))))))))))))))) (.cond (.seq (.reg (.op .p (.nil))) (.leaf)) (.leaf))) (.seq (.reg (.op .p (.op (.ld (.slice)) (.op (.cl [.slice]) (.op .p (.nil)))))) (.seq (.reg (.op .p (.op (.ld (.agg)) (.op .p (.op (.ld (.agg)) (.op .p (.op (.cl [.slice, .val]) (.op .p (.op .p (.op .p (.op .p (.op .p (.nil))))))))))))) (.seq (.reg (.op .p (.op (.ld (.agg)) (.op .p (.op (.ld (.agg)) (.op (.cl [.ptr]) (.op .p (.op (.r (.slice)) (.op (.cl [.slice, .val]) (.op .p (.op .p (.op .p (.op .p (.op .p (.nil))))))))))))))) (.seq (.reg (.op .p (.op (.ld (.agg)) (.op .p (.op (.ld (.agg)) (.op (.cl [.ptr]) (.op .p (.op (.r (.slice)) (.op (.cl [.slice, .val]) (.op .p (.op .p (.op .p (.op .p (.op .p (.nil))))))))))))))) (.seq (.reg (.op .p (.op .p (.op .p (.op (.r (.slice)) (.op (.cl [.bool]) (.op .p (.nil)))))))) (.seq (.reg (.op .p (.op .p (.sp 84 (.op .p (.op .p (.op (.ld (.slice)) (.op (.cl [.bool]) (.op .p (.op .p (.nil))))))) (.op .p (.op .p (.op .p (.op .p (.op .p (.op .p (.nil))))))))))) (.leaf)))))))))))))
    (by kernel_rfl) Try.func8 (by kernel_rfl) (by kernel_rfl) (by kernel_rfl) (by kernel_rfl) h

end Go.Proofs.Ythjipjhjhanddaa
