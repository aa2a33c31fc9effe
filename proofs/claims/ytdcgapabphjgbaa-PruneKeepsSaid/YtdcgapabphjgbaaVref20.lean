/- Verification conditions of functions, printed by the session's own program vc.py: out of each, Calls (conditions: none). -/
import Derived.Test.YtdcgapabphjgbaaRows
import Derived.Test.YtdcgapabphjgbaaSxRun
namespace Go.Proofs.Ytdcgapabphjgbaa
open Go Go.Proofs.Ytdcgapabphjgbaa.Sx

set_option maxRecDepth 100000 in
theorem amphoraref20_Numbers_vc (a0 : Array Value) (w : World) (R : Ending → World → Prop) (h :
  ∃ (g1 : Nat) (w1 : World), (Instr.box 23 (.agg a0)).run Try.prog w = .ok (.pointer (some ⟨g1, 0, none⟩)) w1 ∧
  (∃ (t4 : Int), (Instr.loadAt 3 (.pointer (some ⟨g1, 0, none⟩))).run Try.prog w1 = .ok (.int .i64 t4) w1 ∧
    (∃ (t6 : Int), (Instr.loadAt 3 (.pointer (some ⟨g1, 1, none⟩))).run Try.prog w1 = .ok (.int .i64 t6) w1 ∧
      (∃ (t8 : Int), (Instr.loadAt 3 (.pointer (some ⟨g1, 2, none⟩))).run Try.prog w1 = .ok (.int .i64 t8) w1 ∧
        (∃ (t10 : Int), (Instr.loadAt 3 (.pointer (some ⟨g1, 3, none⟩))).run Try.prog w1 = .ok (.int .i64 t10) w1 ∧
          (∃ (t12 : Int), (Instr.loadAt 3 (.pointer (some ⟨g1, 4, none⟩))).run Try.prog w1 = .ok (.int .i64 t12) w1 ∧
            (∃ (t14 : Int), (Instr.loadAt 3 (.pointer (some ⟨g1, 5, none⟩))).run Try.prog w1 = .ok (.int .i64 t14) w1 ∧
              (∃ (t15a : Option Addr) (t15n : Nat) (t15c : Nat) (w2 : World), (Instr.buildSlice 32 6 #[(0, (.int .i64 t4)), (1, (.int .i64 t6)), (2, (.int .i64 t8)), (3, (.int .i64 t10)), (4, (.int .i64 t12)), (5, (.int .i64 t14))]).run Try.prog w1 = .ok (.slice t15a t15n t15c) w2 ∧
                (R (.returned (.slice t15a t15n t15c)) w2))))))))) : Calls Try.prog 20 #[(.agg a0)] w R :=
  calls_of_ev (args := [(.agg a0)])
    (tc := .seq (.reg (.op .bx (.op .p (.nil)))) (.seq (.reg (.op .p (.op (.ld (.int .i64)) (.op .p (.op (.ld (.int .i64)) (.op .p (.op (.ld (.int .i64)) (.op .p (.op (.ld (.int .i64)) (.op .p (.op (.ld (.int .i64)) (.op .p (.op (.ld (.int .i64)) (.op (.r (.slice)) (.op .p (.nil)))))))))))))))) (.leaf)))
    (by kernel_rfl) Try.func20 (by kernel_rfl) (by kernel_rfl) (by kernel_rfl) (by kernel_rfl) h

set_option maxRecDepth 100000 in
theorem amphoraref20_Check_vc (a0 : Array Value) (w : World) (R : Ending → World → Prop) (h :
  ∃ (g1 : Nat) (w1 : World), (Instr.box 23 (.agg a0)).run Try.prog w = .ok (.pointer (some ⟨g1, 0, none⟩)) w1 ∧
  (∃ (t6 : Array Value), (Instr.loadAt 23 (.pointer (some ⟨g1, 0, none⟩))).run Try.prog w1 = .ok (.agg t6) w1 ∧
    (Calls Try.prog 20 #[(.agg t6)] w1 fun (e7 : Ending) (w2 : World) => ∃ (t7a : Option Addr) (t7n : Nat) (t7c : Nat), e7 = .returned (.slice t7a t7n t7c) ∧
      (∃ (I : Bool → Int → World → Prop) (μ : Bool → Int → World → Nat), I false 0 w2 ∧
        (∀ (x4 : Bool) (x5 : Int), ∀ w3 : World, I x4 x5 w3 →
          (((decide (x5 < ((t7n : Nat) : Int))) = true →
              (∃ J : Bool → World → Prop, (∃ (t16b t16o : Nat), t7a = some ⟨t16b, t16o, none⟩ ∧ 0 ≤ x5 ∧ x5 < ((t7n : Nat) : Int) ∧
                  (∃ (t17 : Int), (Instr.loadAt 3 (.pointer (some ⟨t16b, t16o + Int.toNat x5 * 1, none⟩))).run Try.prog w3 = .ok (.int .i64 t17) w3 ∧
                    (((decide (t17 < (0 : Int))) = true →
                        (J true w3)) ∧
                      ((decide (t17 < (0 : Int))) = false →
                        (∃ (t22b t22o : Nat), t7a = some ⟨t22b, t22o, none⟩ ∧ 0 ≤ x5 ∧ x5 < ((t7n : Nat) : Int) ∧
                          (∃ (t23 : Int), (Instr.loadAt 3 (.pointer (some ⟨t22b, t22o + Int.toNat x5 * 1, none⟩))).run Try.prog w3 = .ok (.int .i64 t23) w3 ∧
                            (J (decide (t23 > (1048576 : Int))) w3))))))) ∧
                (∀ (x25 : Bool), ∀ w4 : World, J x25 w4 →
                  ((x25 = true →
                      (R (.returned (.int .i64 23)) w4)) ∧
                    (x25 = false →
                      (∃ J_1 : Bool → World → Prop, ((x4 = true →
                            (J_1 true w4)) ∧
                          (x4 = false →
                            (∃ (t30b t30o : Nat), t7a = some ⟨t30b, t30o, none⟩ ∧ 0 ≤ x5 ∧ x5 < ((t7n : Nat) : Int) ∧
                              (∃ (t31 : Int), (Instr.loadAt 3 (.pointer (some ⟨t30b, t30o + Int.toNat x5 * 1, none⟩))).run Try.prog w4 = .ok (.int .i64 t31) w4 ∧
                                (J_1 (decide (t31 > (0 : Int))) w4))))) ∧
                        (∀ (x4_1 : Bool), ∀ w5 : World, J_1 x4_1 w5 →
                          (I x4_1 (IntKind.wrap .i64 (x5 + (1 : Int))) w5 ∧ μ x4_1 (IntKind.wrap .i64 (x5 + (1 : Int))) w5 < μ x4 x5 w3)))))))) ∧
            ((decide (x5 < ((t7n : Nat) : Int))) = false →
              (((!x4) = true →
                  (R (.returned (.int .i64 23)) w3)) ∧
                ((!x4) = false →
                  (R (.returned (.int .i64 0)) w3)))))))))) : Calls Try.prog 19 #[(.agg a0)] w R :=
  calls_of_ev (args := [(.agg a0)])
    (tc := .seq (.reg (.op .bx (.op .p (.nil)))) (.seq (.reg (.op (.ld (.agg)) (.op (.cl [.slice]) (.op .p (.nil))))) (.seq (.reg (.op .p (.nil))) (.seq (.seq (.reg (.op .p (.nil))) (.blk (.loop [2, 4, 5, 8, 9, 10, 11, 12, 13, 14, 15, 16, 17, 18, 19, 20, 21, 22, 23, 24, 25, 26, 27, 28, 29, 30, 31, 32, 33] [4, 5] [.bool, .int .i64] (.seq (.seq (.reg (.op .p (.op .p (.op .p (.op .p (.nil)))))) (.cond (.leaf) (.leaf))) (.seq (.blk (.seq (.seq (.join [14, 15, 16, 17, 18, 19, 20, 21, 22, 23, 24, 25] [25] [.bool] (.reg (.op .p (.op .p (.op .ix (.op (.ld (.int .i64)) (.op .p (.op .p (.sp 19 (.op .p (.op .p (.op .p (.op .p (.op .p (.op .p (.nil))))))) (.op .p (.op .p (.op .ix (.op (.ld (.int .i64)) (.op .p (.op .p (.nil)))))))))))))))) (.cond (.seq (.reg (.op .p (.nil))) (.leaf)) (.leaf))) (.join [4, 26, 27, 28, 29, 30, 31, 32, 33] [4] [.bool] (.reg (.op .p (.op .p (.sp 27 (.op .p (.op .p (.op .p (.op .p (.op .p (.op .p (.op .p (.nil)))))))) (.op .p (.op .p (.op .ix (.op (.ld (.int .i64)) (.op .p (.op .p (.op .p (.nil))))))))))))))) (.reg (.op .p (.op .p (.op .p (.nil)))))))))) (.seq (.seq (.reg (.op .p (.op .p (.nil)))) (.cond (.seq (.reg (.op .p (.nil))) (.leaf)) (.leaf))) (.seq (.reg (.op .p (.nil))) (.leaf)))))))
    (by kernel_rfl) Try.func19 (by kernel_rfl) (by kernel_rfl) (by kernel_rfl) (by kernel_rfl) h

set_option maxRecDepth 100000 in
theorem amphoraref20_newer_vc (a0a : Option Addr) (a0n : Nat) (a0c : Nat) (a1 : Int) (a2 : Int) (w : World) (R : Ending → World → Prop) (h :
  ∃ S : World → Prop, S w.drew ∧
  (∃ (t9b t9o : Nat), a0a = some ⟨t9b, t9o, none⟩ ∧ 0 ≤ a1 ∧ a1 < ((a0n : Nat) : Int) ∧
    (∃ (t14b t14o : Nat), a0a = some ⟨t14b, t14o, none⟩ ∧ 0 ≤ a2 ∧ a2 < ((a0n : Nat) : Int) ∧
      (∃ (t11 : Int), (∀ w' : World, S w' → (Instr.loadAt 3 (.pointer (some ⟨t9b, t9o + Int.toNat a1 * 36 + 1, none⟩))).run Try.prog w' = .ok (.int .i64 t11) w') ∧
        (∃ (t16 : Int), (∀ w' : World, S w' → (Instr.loadAt 3 (.pointer (some ⟨t14b, t14o + Int.toNat a2 * 36 + 1, none⟩))).run Try.prog w' = .ok (.int .i64 t16) w') ∧
          (((t11 != t16) = true →
              (∃ S_1 : World → Prop, S_1 w.drew.drew ∧
                (∃ (t20b t20o : Nat), a0a = some ⟨t20b, t20o, none⟩ ∧ 0 ≤ a1 ∧ a1 < ((a0n : Nat) : Int) ∧
                  (∃ (t25b t25o : Nat), a0a = some ⟨t25b, t25o, none⟩ ∧ 0 ≤ a2 ∧ a2 < ((a0n : Nat) : Int) ∧
                    (∃ (t22 : Int), (∀ w' : World, S_1 w' → (Instr.loadAt 3 (.pointer (some ⟨t20b, t20o + Int.toNat a1 * 36 + 1, none⟩))).run Try.prog w' = .ok (.int .i64 t22) w') ∧
                      (∃ (t27 : Int), (∀ w' : World, S_1 w' → (Instr.loadAt 3 (.pointer (some ⟨t25b, t25o + Int.toNat a2 * 36 + 1, none⟩))).run Try.prog w' = .ok (.int .i64 t27) w') ∧
                        (R (.returned (.bool (decide (t22 > t27)))) w.drew.drew))))))) ∧
            ((t11 != t16) = false →
              (∃ S_1 : World → Prop, S_1 w.drew.drew ∧
                (∃ (t31b t31o : Nat), a0a = some ⟨t31b, t31o, none⟩ ∧ 0 ≤ a1 ∧ a1 < ((a0n : Nat) : Int) ∧
                  (∃ (t36b t36o : Nat), a0a = some ⟨t36b, t36o, none⟩ ∧ 0 ≤ a2 ∧ a2 < ((a0n : Nat) : Int) ∧
                    (∃ (t33 : ByteArray), (∀ w' : World, S_1 w' → (Instr.loadAt 9 (.pointer (some ⟨t31b, t31o + Int.toNat a1 * 36, none⟩))).run Try.prog w' = .ok (.string t33) w') ∧
                      (∃ (t38 : ByteArray), (∀ w' : World, S_1 w' → (Instr.loadAt 9 (.pointer (some ⟨t36b, t36o + Int.toNat a2 * 36, none⟩))).run Try.prog w' = .ok (.string t38) w') ∧
                        (((!(t33.toList == t38.toList)) = true →
                            (∃ S_2 : World → Prop, S_2 w.drew.drew.drew ∧
                              (∃ (t42b t42o : Nat), a0a = some ⟨t42b, t42o, none⟩ ∧ 0 ≤ a1 ∧ a1 < ((a0n : Nat) : Int) ∧
                                (∃ (t47b t47o : Nat), a0a = some ⟨t47b, t47o, none⟩ ∧ 0 ≤ a2 ∧ a2 < ((a0n : Nat) : Int) ∧
                                  (∃ (t44 : ByteArray), (∀ w' : World, S_2 w' → (Instr.loadAt 9 (.pointer (some ⟨t42b, t42o + Int.toNat a1 * 36, none⟩))).run Try.prog w' = .ok (.string t44) w') ∧
                                    (∃ (t49 : ByteArray), (∀ w' : World, S_2 w' → (Instr.loadAt 9 (.pointer (some ⟨t47b, t47o + Int.toNat a2 * 36, none⟩))).run Try.prog w' = .ok (.string t49) w') ∧
                                      (∃ (t50 : Bool), (∀ w' : World, S_2 w' → (eqlS .gtr 9 (.tmp 44) (.tmp 49) (.string t44) (.string t49)).run Try.prog w' = .ok (.bool t50) w') ∧
                                        (R (.returned (.bool t50)) w.drew.drew.drew)))))))) ∧
                          ((!(t33.toList == t38.toList)) = false →
                            (R (.returned (.bool (decide (a1 > a2)))) w.drew.drew))))))))))))))) : Calls Try.prog 44 #[(.slice a0a a0n a0c), (.int .i64 a1), (.int .i64 a2)] w R :=
  calls_of_ev (args := [(.slice a0a a0n a0c), (.int .i64 a1), (.int .i64 a2)])
    (tc := .seq (.reg (.op .p (.nil))) (.seq (.seq (.drawS (.tk 0 .p (.tk 1 .p (.tk 2 .ix (.tk 3 .p (.tk 5 .p (.tk 6 .p (.tk 7 .ix (.tk 8 .p (.ts 4 (.int .i64) (.ts 9 (.int .i64) (.tk 10 .p (.nil)))))))))))) []) (.cond (.seq (.drawS (.tk 0 .p (.tk 1 .p (.tk 2 .ix (.tk 3 .p (.tk 5 .p (.tk 6 .p (.tk 7 .ix (.tk 8 .p (.ts 4 (.int .i64) (.ts 9 (.int .i64) (.tk 10 .p (.tk 11 .p (.nil))))))))))))) []) (.leaf)) (.leaf))) (.seq (.seq (.drawS (.tk 0 .p (.tk 1 .p (.tk 2 .ix (.tk 3 .p (.tk 5 .p (.tk 6 .p (.tk 7 .ix (.tk 8 .p (.ts 4 (.str) (.ts 9 (.str) (.tk 10 .p (.nil)))))))))))) []) (.cond (.seq (.drawS (.tk 0 .p (.tk 1 .p (.tk 2 .ix (.tk 3 .p (.tk 5 .p (.tk 6 .p (.tk 7 .ix (.tk 8 .p (.ts 4 (.str) (.ts 9 (.str) (.ts 10 (.bool) (.tk 11 .p (.nil))))))))))))) []) (.leaf)) (.leaf))) (.seq (.reg (.op .p (.op .p (.op .p (.op .p (.nil)))))) (.leaf)))))
    (by kernel_rfl) Try.func44 (by kernel_rfl) (by kernel_rfl) (by kernel_rfl) (by kernel_rfl) h

set_option maxRecDepth 100000 in
theorem amphoraref20_Order_vc (a0a : Option Addr) (a0n : Nat) (a0c : Nat) (w : World) (R : Ending → World → Prop) (h :
  ∃ (t9a : Option Addr) (t9n : Nat) (t9c : Nat) (w1 : World), (Instr.makeSlice 32 (.int .i64 ((a0n : Nat) : Int)) (.int .i64 ((a0n : Nat) : Int))).run Try.prog w = .ok (.slice t9a t9n t9c) w1 ∧
  (∃ (I : Int → World → Prop) (μ : Int → World → Nat), I 0 w1 ∧
    (∀ (x4 : Int), ∀ w2 : World, I x4 w2 →
      (((decide (x4 < ((a0n : Nat) : Int))) = true →
          (∃ (I_1 : Int → Int → World → Prop) (μ_1 : Int → Int → World → Nat), I_1 0 0 w2 ∧
            (∀ (x5 : Int) (x6 : Int), ∀ w3 : World, I_1 x5 x6 w3 →
              (((decide (x6 < ((a0n : Nat) : Int))) = true →
                  (∃ J : Bool → World → Prop, (((x6 != x4) = true →
                        (Calls Try.prog 44 #[(.slice a0a a0n a0c), (.int .i64 x6), (.int .i64 x4)] w3 fun (e29 : Ending) (w4 : World) => ∃ (t29 : Bool), e29 = .returned (.bool t29) ∧
                          (J t29 w4))) ∧
                      ((x6 != x4) = false →
                        (J false w3))) ∧
                    (∀ (x30 : Bool), ∀ w5 : World, J x30 w5 →
                      (∃ J_1 : Int → World → Prop, ((x30 = true →
                            (J_1 (IntKind.wrap .i64 (x5 + (1 : Int))) w5)) ∧
                          (x30 = false →
                            (J_1 x5 w5))) ∧
                        (∀ (x5_1 : Int), ∀ w6 : World, J_1 x5_1 w6 →
                          (I_1 x5_1 (IntKind.wrap .i64 (x6 + (1 : Int))) w6 ∧ μ_1 x5_1 (IntKind.wrap .i64 (x6 + (1 : Int))) w6 < μ_1 x5 x6 w3)))))) ∧
                ((decide (x6 < ((a0n : Nat) : Int))) = false →
                  (∃ (t36b t36o : Nat), t9a = some ⟨t36b, t36o, none⟩ ∧ 0 ≤ x5 ∧ x5 < ((t9n : Nat) : Int) ∧
                    (∃ w7 : World, (Instr.storeAt 3 (.pointer (some ⟨t36b, t36o + Int.toNat x5 * 1, none⟩)) (.int .i64 x4)).run Try.prog w3 = .ok () w7 ∧
                      (I (IntKind.wrap .i64 (x4 + (1 : Int))) w7 ∧ μ (IntKind.wrap .i64 (x4 + (1 : Int))) w7 < μ x4 w2)))))))) ∧
        ((decide (x4 < ((a0n : Nat) : Int))) = false →
          (R (.returned (.slice t9a t9n t9c)) w2)))))) : Calls Try.prog 29 #[(.slice a0a a0n a0c)] w R :=
  calls_of_ev (args := [(.slice a0a a0n a0c)])
    (tc := .seq (.reg (.op .p (.nil))) (.seq (.reg (.op .p (.op .p (.op (.r (.slice)) (.op .p (.nil)))))) (.seq (.seq (.reg (.op .p (.nil))) (.blk (.loop [4, 5, 6, 10, 11, 12, 13, 14, 15, 16, 17, 18, 19, 20, 21, 22, 23, 24, 25, 26, 27, 28, 29, 30, 31, 32, 33, 34, 35, 36] [4] [.int .i64] (.seq (.seq (.reg (.op .p (.op .p (.op .p (.op .p (.nil)))))) (.cond (.leaf) (.leaf))) (.seq (.blk (.seq (.reg (.op .p (.nil))) (.seq (.seq (.reg (.op .p (.nil))) (.blk (.loop [5, 6, 16, 17, 18, 19, 20, 21, 22, 23, 24, 25, 26, 27, 28, 29, 30, 31, 32] [5, 6] [.int .i64, .int .i64] (.seq (.seq (.reg (.op .p (.op .p (.op .p (.op .p (.nil)))))) (.cond (.leaf) (.leaf))) (.seq (.blk (.seq (.join [22, 23, 24, 25, 26, 27, 28, 29, 30] [30] [.bool] (.reg (.op .p (.op .p (.op .p (.op .p (.sp 25 (.op .p (.op .p (.op .p (.op (.cl [.bool]) (.op .p (.nil)))))) (.op .p (.op .p (.op .p (.op .p (.op .p (.nil))))))))))))) (.join [5, 31, 32] [5] [.int .i64] (.cond (.reg (.op .p (.op .p (.op .p (.nil))))) (.leaf))))) (.reg (.op .p (.op .p (.op .p (.nil)))))))))) (.reg (.op .p (.op .p (.op .p (.op .ix (.op .u (.nil)))))))))) (.reg (.op .p (.op .p (.op .p (.nil)))))))))) (.seq (.reg (.op .p (.op .p (.nil)))) (.leaf)))))
    (by kernel_rfl) Try.func29 (by kernel_rfl) (by kernel_rfl) (by kernel_rfl) (by kernel_rfl) h

set_option maxRecDepth 100000 in
theorem amphoraref20_Why_vc (a0 : Array Value) (a1a : Option Addr) (a1n : Nat) (a1c : Nat) (w : World) (R : Ending → World → Prop) (h :
  ∃ (g2 : Nat) (w1 : World), (Instr.box 23 (.agg a0)).run Try.prog w = .ok (.pointer (some ⟨g2, 0, none⟩)) w1 ∧
  (∃ (t19 : Array Value), (Instr.loadAt 23 (.pointer (some ⟨g2, 0, none⟩))).run Try.prog w1 = .ok (.agg t19) w1 ∧
    (Calls Try.prog 19 #[(.agg t19)] w1 fun (e20 : Ending) (w2 : World) => ∃ (t20 : Int), e20 = .returned (.int .i64 t20) ∧
      (((t20 != (0 : Int)) = true →
          (R (.returned (.tuple #[(.slice none 0 0), (.int .i64 t20)])) w2)) ∧
        ((t20 != (0 : Int)) = false →
          (∃ (I : Int → World → Prop) (μ : Int → World → Nat), I 0 w2 ∧
            (∀ (x7 : Int), ∀ w3 : World, I x7 w3 →
              (((decide (x7 < ((a1n : Nat) : Int))) = true →
                  (∃ (t33b t33o : Nat), a1a = some ⟨t33b, t33o, none⟩ ∧ 0 ≤ x7 ∧ x7 < ((a1n : Nat) : Int) ∧
                    (∃ (t35 : Int), (Instr.loadAt 3 (.pointer (some ⟨t33b, t33o + Int.toNat x7 * 36 + 1, none⟩))).run Try.prog w3 = .ok (.int .i64 t35) w3 ∧
                      (Calls Try.prog 28 #[(.int .i64 1), (.int .i64 t35)] w3 fun (e36 : Ending) (w4 : World) => ∃ (t36_0 : Int) (t36_1 : Int), e36 = .returned (.tuple #[(.int .i64 t36_0), (.int .i64 t36_1)]) ∧
                        (((t36_1 != (0 : Int)) = true →
                            (R (.returned (.tuple #[(.slice none 0 0), (.int .i64 t36_1)])) w4)) ∧
                          ((t36_1 != (0 : Int)) = false →
                            (I (IntKind.wrap .i64 (x7 + (1 : Int))) w4 ∧ μ (IntKind.wrap .i64 (x7 + (1 : Int))) w4 < μ x7 w3))))))) ∧
                ((decide (x7 < ((a1n : Nat) : Int))) = false →
                  (∃ (t44a : Option Addr) (t44n : Nat) (t44c : Nat) (w5 : World), (Instr.makeSlice 32 (.int .i64 ((a1n : Nat) : Int)) (.int .i64 ((a1n : Nat) : Int))).run Try.prog w3 = .ok (.slice t44a t44n t44c) w5 ∧
                    (∃ (t45 : Array Value), (Instr.loadAt 23 (.pointer (some ⟨g2, 0, none⟩))).run Try.prog w5 = .ok (.agg t45) w5 ∧
                      (Calls Try.prog 20 #[(.agg t45)] w5 fun (e46 : Ending) (w6 : World) => ∃ (t46a : Option Addr) (t46n : Nat) (t46c : Nat), e46 = .returned (.slice t46a t46n t46c) ∧
                        (Calls Try.prog 29 #[(.slice a1a a1n a1c)] w6 fun (e48 : Ending) (w7 : World) => ∃ (t48a : Option Addr) (t48n : Nat) (t48c : Nat), e48 = .returned (.slice t48a t48n t48c) ∧
                          (∃ (I_1 : Int → Int → World → Prop) (μ_1 : Int → Int → World → Nat), I_1 1 0 w7 ∧
                            (∀ (x11 : Int) (x12 : Int), ∀ w8 : World, I_1 x11 x12 w8 →
                              (((decide (x12 < (6 : Int))) = true →
                                  (∃ (I_2 : Option Addr → Nat → Nat → Int → World → Prop) (μ_2 : Option Addr → Nat → Nat → Int → World → Nat), I_2 none 0 0 0 w8 ∧
                                    (∀ (x13a : Option Addr) (x13n : Nat) (x13c : Nat) (x14 : Int), ∀ w9 : World, I_2 x13a x13n x13c x14 w9 →
                                      (((decide (x14 < ((t48n : Nat) : Int))) = true →
                                          (∃ (t63b t63o : Nat), t46a = some ⟨t63b, t63o, none⟩ ∧ 0 ≤ x12 ∧ x12 < ((t46n : Nat) : Int) ∧
                                            (∃ (t64 : Int), (Instr.loadAt 3 (.pointer (some ⟨t63b, t63o + Int.toNat x12 * 1, none⟩))).run Try.prog w9 = .ok (.int .i64 t64) w9 ∧
                                              (((decide (((x13n : Nat) : Int) ≥ t64)) = true →
                                                  (I_1 (IntKind.wrap .i64 ((2 : Int) * x11)) (IntKind.wrap .i64 (x12 + (1 : Int))) w9 ∧ μ_1 (IntKind.wrap .i64 ((2 : Int) * x11)) (IntKind.wrap .i64 (x12 + (1 : Int))) w9 < μ_1 x11 x12 w8)) ∧
                                                ((decide (((x13n : Nat) : Int) ≥ t64)) = false →
                                                  (∃ J : World → Prop, ((((decide (x12 > (0 : Int))) && (decide (((x13n : Nat) : Int) > (0 : Int)))) = true →
                                                        (∃ (t80b t80o : Nat), x13a = some ⟨t80b, t80o, none⟩ ∧ 0 ≤ (IntKind.wrap .i64 (((x13n : Nat) : Int) - (1 : Int))) ∧ (IntKind.wrap .i64 (((x13n : Nat) : Int) - (1 : Int))) < ((x13n : Nat) : Int) ∧
                                                          (∃ (t81 : Int), (Instr.loadAt 3 (.pointer (some ⟨t80b, t80o + Int.toNat (IntKind.wrap .i64 (((x13n : Nat) : Int) - (1 : Int))) * 1, none⟩))).run Try.prog w9 = .ok (.int .i64 t81) w9 ∧
                                                            (∃ (t82b t82o : Nat), a1a = some ⟨t82b, t82o, none⟩ ∧ 0 ≤ t81 ∧ t81 < ((a1n : Nat) : Int) ∧
                                                              (∃ (t84 : Int), (Instr.loadAt 3 (.pointer (some ⟨t82b, t82o + Int.toNat t81 * 36 + 1, none⟩))).run Try.prog w9 = .ok (.int .i64 t84) w9 ∧
                                                                (Calls Try.prog 28 #[(.int .i64 x12), (.int .i64 t84)] w9 fun (e85 : Ending) (w10 : World) => ∃ (t85_0 : Int) (t85_1 : Int), e85 = .returned (.tuple #[(.int .i64 t85_0), (.int .i64 t85_1)]) ∧
                                                                  (∃ (t93b t93o : Nat), t48a = some ⟨t93b, t93o, none⟩ ∧ 0 ≤ x14 ∧ x14 < ((t48n : Nat) : Int) ∧
                                                                    (∃ (t94 : Int), (Instr.loadAt 3 (.pointer (some ⟨t93b, t93o + Int.toNat x14 * 1, none⟩))).run Try.prog w10 = .ok (.int .i64 t94) w10 ∧
                                                                      (∃ (t95b t95o : Nat), a1a = some ⟨t95b, t95o, none⟩ ∧ 0 ≤ t94 ∧ t94 < ((a1n : Nat) : Int) ∧
                                                                        (∃ (t97 : Int), (Instr.loadAt 3 (.pointer (some ⟨t95b, t95o + Int.toNat t94 * 36 + 1, none⟩))).run Try.prog w10 = .ok (.int .i64 t97) w10 ∧
                                                                          (Calls Try.prog 28 #[(.int .i64 x12), (.int .i64 t97)] w10 fun (e98 : Ending) (w11 : World) => ∃ (t98_0 : Int) (t98_1 : Int), e98 = .returned (.tuple #[(.int .i64 t98_0), (.int .i64 t98_1)]) ∧
                                                                            (((t85_0 == t98_0) = true →
                                                                                (I_2 x13a x13n x13c (IntKind.wrap .i64 (x14 + (1 : Int))) w11 ∧ μ_2 x13a x13n x13c (IntKind.wrap .i64 (x14 + (1 : Int))) w11 < μ_2 x13a x13n x13c x14 w9)) ∧
                                                                              ((t85_0 == t98_0) = false →
                                                                                (J  w11)))))))))))))) ∧
                                                      (((decide (x12 > (0 : Int))) && (decide (((x13n : Nat) : Int) > (0 : Int)))) = false →
                                                        (J  w9))) ∧
                                                    (∀ w12 : World, J  w12 →
                                                      (∃ (t107b t107o : Nat), t48a = some ⟨t107b, t107o, none⟩ ∧ 0 ≤ x14 ∧ x14 < ((t48n : Nat) : Int) ∧
                                                        (∃ (t108 : Int), (Instr.loadAt 3 (.pointer (some ⟨t107b, t107o + Int.toNat x14 * 1, none⟩))).run Try.prog w12 = .ok (.int .i64 t108) w12 ∧
                                                          (∃ (t109a : Option Addr) (t109n : Nat) (t109c : Nat) (w13 : World), (Instr.buildSlice 32 1 #[(0, (.int .i64 t108))]).run Try.prog w12 = .ok (.slice t109a t109n t109c) w13 ∧
                                                            (∃ (t110a : Option Addr) (t110n : Nat) (t110c : Nat) (w14 : World), (Builtin.append_ #[32, 32] 32 #[(.slice x13a x13n x13c), (.slice t109a t109n t109c)]).run Try.prog w13 = .ok (.slice t110a t110n t110c) w14 ∧
                                                              (∃ S : World → Prop, S w14.drew ∧
                                                                (∃ (t114b t114o : Nat), t48a = some ⟨t114b, t114o, none⟩ ∧ 0 ≤ x14 ∧ x14 < ((t48n : Nat) : Int) ∧
                                                                  (∃ (t119b t119o : Nat), t48a = some ⟨t119b, t119o, none⟩ ∧ 0 ≤ x14 ∧ x14 < ((t48n : Nat) : Int) ∧
                                                                    (∃ (t115 : Int), (∀ w' : World, S w' → (Instr.loadAt 3 (.pointer (some ⟨t114b, t114o + Int.toNat x14 * 1, none⟩))).run Try.prog w' = .ok (.int .i64 t115) w') ∧
                                                                      (∃ (t120 : Int), (∀ w' : World, S w' → (Instr.loadAt 3 (.pointer (some ⟨t119b, t119o + Int.toNat x14 * 1, none⟩))).run Try.prog w' = .ok (.int .i64 t120) w') ∧
                                                                        (∃ (t121b t121o : Nat), t44a = some ⟨t121b, t121o, none⟩ ∧ 0 ≤ t120 ∧ t120 < ((t44n : Nat) : Int) ∧
                                                                          (∃ (t122 : Int), (∀ w' : World, S w' → (Instr.loadAt 3 (.pointer (some ⟨t121b, t121o + Int.toNat t120 * 1, none⟩))).run Try.prog w' = .ok (.int .i64 t122) w') ∧
                                                                            (∃ (t125b t125o : Nat), t44a = some ⟨t125b, t125o, none⟩ ∧ 0 ≤ t115 ∧ t115 < ((t44n : Nat) : Int) ∧
                                                                              (∃ w15 : World, (Instr.storeAt 3 (.pointer (some ⟨t125b, t125o + Int.toNat t115 * 1, none⟩)) (.int .i64 (IntKind.wrap .i64 (t122 + x11)))).run Try.prog w14.drew = .ok () w15 ∧
                                                                                (I_2 t110a t110n t110c (IntKind.wrap .i64 (x14 + (1 : Int))) w15 ∧ μ_2 t110a t110n t110c (IntKind.wrap .i64 (x14 + (1 : Int))) w15 < μ_2 x13a x13n x13c x14 w9))))))))))))))))))))) ∧
                                        ((decide (x14 < ((t48n : Nat) : Int))) = false →
                                          (I_1 (IntKind.wrap .i64 ((2 : Int) * x11)) (IntKind.wrap .i64 (x12 + (1 : Int))) w9 ∧ μ_1 (IntKind.wrap .i64 ((2 : Int) * x11)) (IntKind.wrap .i64 (x12 + (1 : Int))) w9 < μ_1 x11 x12 w8)))))) ∧
                                ((decide (x12 < (6 : Int))) = false →
                                  (R (.returned (.tuple #[(.slice t44a t44n t44c), (.int .i64 0)])) w8)))))))))))))))))) : Calls Try.prog 11 #[(.agg a0), (.slice a1a a1n a1c)] w R :=
  calls_of_ev (args := [(.agg a0), (.slice a1a a1n a1c)])
    (tc := .seq (.reg (.op .bx (.op .p (.op .p (.nil))))) (.seq (.reg (.op (.ld (.agg)) (.op (.cl [.int .i64]) (.op .p (.nil))))) (.seq (.seq (.reg (.op .p (.op .p (.nil)))) (.cond (.seq (.reg (.op .p (.op .p (.op .p (.nil))))) (.leaf)) (.leaf))) (.seq (.seq (.reg (.op .p (.nil))) (.blk (.loop [4, 5, 6, 7, 24, 25, 26, 27, 28, 29, 30, 31, 32, 33, 34, 35, 36, 37, 38, 39, 40, 41] [7] [.int .i64] (.seq (.seq (.reg (.op .p (.op .p (.op .p (.op .p (.nil)))))) (.cond (.leaf) (.leaf))) (.seq (.blk (.seq (.reg (.op .p (.op .p (.op .ix (.op .p (.op (.ld (.int .i64)) (.op (.cl [.int .i64, .int .i64]) (.op .p (.op .p (.op .p (.op .p (.nil)))))))))))) (.seq (.reg (.op .p (.op .p (.nil)))) (.cond (.seq (.reg (.op .p (.op .p (.op .p (.nil))))) (.leaf)) (.leaf))))) (.reg (.op .p (.op .p (.op .p (.nil)))))))))) (.seq (.reg (.op .p (.op .p (.op (.r (.slice)) (.op .p (.nil)))))) (.seq (.reg (.op (.ld (.agg)) (.op (.cl [.slice]) (.op .p (.nil))))) (.seq (.reg (.op .p (.op (.cl [.slice]) (.op .p (.nil))))) (.seq (.reg (.op .p (.nil))) (.seq (.seq (.reg (.op .p (.nil))) (.blk (.loop [11, 12, 13, 14, 15, 16, 17, 18, 49, 50, 51, 52, 53, 54, 55, 56, 57, 58, 59, 60, 61, 62, 63, 64, 65, 66, 67, 68, 69, 70, 71, 72, 73, 74, 75, 76, 77, 78, 79, 80, 81, 82, 83, 84, 85, 86, 87, 88, 89, 90, 91, 92, 93, 94, 95, 96, 97, 98, 99, 100, 101, 102, 103, 104, 105, 106, 107, 108, 109, 110, 111, 112, 113, 114, 115, 116, 117, 118, 119, 120, 121, 122, 123, 124, 125, 126, 127] [11, 12] [.int .i64, .int .i64] (.seq (.seq (.reg (.op .p (.op .p (.nil)))) (.cond (.leaf) (.leaf))) (.seq (.blk (.seq (.reg (.op .p (.nil))) (.seq (.seq (.reg (.op .p (.nil))) (.blk (.loop [13, 14, 15, 16, 17, 18, 53, 54, 55, 56, 57, 58, 59, 60, 61, 62, 63, 64, 65, 66, 67, 68, 69, 70, 71, 72, 73, 74, 75, 76, 77, 78, 79, 80, 81, 82, 83, 84, 85, 86, 87, 88, 89, 90, 91, 92, 93, 94, 95, 96, 97, 98, 99, 100, 101, 102, 103, 104, 105, 106, 107, 108, 109, 110, 111, 112, 113, 114, 115, 116, 117, 118, 119, 120, 121, 122, 123, 124, 125] [13, 14] [.slice, .int .i64] (.seq (.seq (.reg (.op .p (.op .p (.op .p (.op .p (.nil)))))) (.cond (.leaf) (.leaf))) (.seq (.blk (.seq (.seq (.reg (.op .p (.op .p (.op .p (.op .p (.op .ix (.op (.ld (.int .i64)) (.op .p (.nil))))))))) (.cond (.leaf) (.leaf))) (.seq (.seq (.reg (.op .p (.op .p (.op .p (.ap 3 (.nil)))))) (.join [15, 16, 17, 18, 73, 74, 75, 76, 77, 78, 79, 80, 81, 82, 83, 84, 85, 86, 87, 88, 89, 90, 91, 92, 93, 94, 95, 96, 97, 98, 99, 100, 101, 102, 103] [] [] (.cond (.seq (.reg (.op .p (.op .p (.op .p (.op .p (.op .p (.op .p (.op .ix (.op (.ld (.int .i64)) (.op .ix (.op .p (.op (.ld (.int .i64)) (.op (.cl [.int .i64, .int .i64]) (.op .p (.op .p (.op .p (.op .p (.op .p (.nil))))))))))))))))))) (.seq (.reg (.op .p (.op .p (.op .p (.op .p (.op .ix (.op (.ld (.int .i64)) (.op .ix (.op .p (.op (.ld (.int .i64)) (.op (.cl [.int .i64, .int .i64]) (.op .p (.op .p (.op .p (.op .p (.op .p (.nil))))))))))))))))) (.seq (.reg (.op .p (.op .p (.op .p (.nil))))) (.cond (.leaf) (.leaf))))) (.leaf)))) (.seq (.reg (.op .p (.op .p (.op .p (.op .ix (.op (.ld (.int .i64)) (.op (.r (.slice)) (.op (.r (.slice)) (.op .p (.nil)))))))))) (.drawS (.tk 0 .p (.tk 1 .p (.tk 2 .p (.tk 3 .ix (.tk 5 .p (.tk 6 .p (.tk 7 .p (.tk 8 .ix (.tk 12 .p (.ts 4 (.int .i64) (.ts 9 (.int .i64) (.tk 10 .ix (.ts 11 (.int .i64) (.tk 13 .p (.tk 14 .ix (.go 15 .u (.nil))))))))))))))))) [15]))))) (.reg (.op .p (.op .p (.op .p (.nil)))))))))) (.reg (.op .p (.op .p (.op .p (.nil)))))))) (.reg (.op .p (.op .p (.op .p (.nil)))))))))) (.seq (.reg (.op .p (.op .p (.op .p (.nil))))) (.leaf)))))))))))
    (by kernel_rfl) Try.func11 (by kernel_rfl) (by kernel_rfl) (by kernel_rfl) (by kernel_rfl) h

set_option maxRecDepth 100000 in
theorem amphoraref20_Gone_vc (a0 : Array Value) (a1a : Option Addr) (a1n : Nat) (a1c : Nat) (w : World) (R : Ending → World → Prop) (h :
  ∃ (g2 : Nat) (w1 : World), (Instr.box 23 (.agg a0)).run Try.prog w = .ok (.pointer (some ⟨g2, 0, none⟩)) w1 ∧
  (∃ (t11 : Array Value), (Instr.loadAt 23 (.pointer (some ⟨g2, 0, none⟩))).run Try.prog w1 = .ok (.agg t11) w1 ∧
    (Calls Try.prog 11 #[(.agg t11), (.slice a1a a1n a1c)] w1 fun (e13 : Ending) (w2 : World) => ∃ (t13_0a : Option Addr) (t13_0n : Nat) (t13_0c : Nat) (t13_1 : Int), e13 = .returned (.tuple #[(.slice t13_0a t13_0n t13_0c), (.int .i64 t13_1)]) ∧
      (((t13_1 != (0 : Int)) = true →
          (R (.returned (.tuple #[(.slice none 0 0), (.int .i64 t13_1)])) w2)) ∧
        ((t13_1 != (0 : Int)) = false →
          (∃ (I : Option Addr → Nat → Nat → Int → World → Prop) (μ : Option Addr → Nat → Nat → Int → World → Nat), I none 0 0 0 w2 ∧
            (∀ (x8a : Option Addr) (x8n : Nat) (x8c : Nat) (x9 : Int), ∀ w3 : World, I x8a x8n x8c x9 w3 →
              (((decide (x9 < ((a1n : Nat) : Int))) = true →
                  (∃ (t27b t27o : Nat), t13_0a = some ⟨t27b, t27o, none⟩ ∧ 0 ≤ x9 ∧ x9 < ((t13_0n : Nat) : Int) ∧
                    (∃ (t28 : Int), (Instr.loadAt 3 (.pointer (some ⟨t27b, t27o + Int.toNat x9 * 1, none⟩))).run Try.prog w3 = .ok (.int .i64 t28) w3 ∧
                      (∃ J : Option Addr → Nat → Nat → World → Prop, (((t28 == (0 : Int)) = true →
                            (∃ (t33b t33o : Nat), a1a = some ⟨t33b, t33o, none⟩ ∧ 0 ≤ x9 ∧ x9 < ((a1n : Nat) : Int) ∧
                              (∃ (t35 : ByteArray), (Instr.loadAt 9 (.pointer (some ⟨t33b, t33o + Int.toNat x9 * 36, none⟩))).run Try.prog w3 = .ok (.string t35) w3 ∧
                                (Calls Try.prog 31 #[(.slice x8a x8n x8c), (.string t35)] w3 fun (e36 : Ending) (w4 : World) => ∃ (t36a : Option Addr) (t36n : Nat) (t36c : Nat), e36 = .returned (.slice t36a t36n t36c) ∧
                                  (J t36a t36n t36c w4))))) ∧
                          ((t28 == (0 : Int)) = false →
                            (J x8a x8n x8c w3))) ∧
                        (∀ (x8a_1 : Option Addr) (x8n_1 : Nat) (x8c_1 : Nat), ∀ w5 : World, J x8a_1 x8n_1 x8c_1 w5 →
                          (I x8a_1 x8n_1 x8c_1 (IntKind.wrap .i64 (x9 + (1 : Int))) w5 ∧ μ x8a_1 x8n_1 x8c_1 (IntKind.wrap .i64 (x9 + (1 : Int))) w5 < μ x8a x8n x8c x9 w3)))))) ∧
                ((decide (x9 < ((a1n : Nat) : Int))) = false →
                  (R (.returned (.tuple #[(.slice x8a x8n x8c), (.int .i64 0)])) w3)))))))))) : Calls Try.prog 13 #[(.agg a0), (.slice a1a a1n a1c)] w R :=
  calls_of_ev (args := [(.agg a0), (.slice a1a a1n a1c)])
    (tc := .seq (.reg (.op .bx (.op .p (.op .p (.nil))))) (.seq (.reg (.op (.ld (.agg)) (.op .p (.op (.cl [.slice, .int .i64]) (.op .p (.op .p (.op .p (.op .p (.op .p (.nil)))))))))) (.seq (.seq (.reg (.op .p (.op .p (.nil)))) (.cond (.seq (.reg (.op .p (.op .p (.op .p (.nil))))) (.leaf)) (.leaf))) (.seq (.reg (.op .p (.nil))) (.seq (.seq (.reg (.op .p (.nil))) (.blk (.loop [8, 9, 19, 20, 21, 22, 23, 24, 25, 26, 27, 28, 29, 30, 31, 32, 33, 34, 35, 36] [8, 9] [.slice, .int .i64] (.seq (.seq (.reg (.op .p (.op .p (.op .p (.op .p (.nil)))))) (.cond (.leaf) (.leaf))) (.seq (.blk (.seq (.reg (.op .p (.op .p (.op .ix (.op (.ld (.int .i64)) (.op .p (.nil))))))) (.join [8, 30, 31, 32, 33, 34, 35, 36] [8] [.slice] (.cond (.reg (.op .p (.op .p (.op .p (.op .ix (.op .p (.op (.ld (.str)) (.op (.cl [.slice]) (.op .p (.nil)))))))))) (.leaf))))) (.reg (.op .p (.op .p (.op .p (.nil)))))))))) (.seq (.reg (.op .p (.op .p (.op .p (.nil))))) (.leaf)))))))
    (by kernel_rfl) Try.func13 (by kernel_rfl) (by kernel_rfl) (by kernel_rfl) (by kernel_rfl) h

set_option maxRecDepth 100000 in
theorem amphoraref20_with_vc (a0a : Option Addr) (a0n : Nat) (a0c : Nat) (a1 : ByteArray) (w : World) (R : Ending → World → Prop) (h :
  ∃ (I : Option Addr → Nat → Nat → Bool → Int → World → Prop) (μ : Option Addr → Nat → Nat → Bool → Int → World → Nat), I none 0 0 false 0 w ∧
  (∀ (x5a : Option Addr) (x5n : Nat) (x5c : Nat) (x6 : Bool) (x7 : Int), ∀ w1 : World, I x5a x5n x5c x6 x7 w1 →
    (((decide (x7 < ((a0n : Nat) : Int))) = true →
        (∃ J : Bool → World → Prop, (((!x6) = true →
              (∃ (t20b t20o : Nat), a0a = some ⟨t20b, t20o, none⟩ ∧ 0 ≤ x7 ∧ x7 < ((a0n : Nat) : Int) ∧
                (∃ (t21 : ByteArray), (Instr.loadAt 9 (.pointer (some ⟨t20b, t20o + Int.toNat x7 * 1, none⟩))).run Try.prog w1 = .ok (.string t21) w1 ∧
                  (∃ (t22 : Bool), (eqlS .lss 9 (.tmp 17) (.tmp 21) (.string a1) (.string t21)).run Try.prog w1 = .ok (.bool t22) w1 ∧
                    (J t22 w1))))) ∧
            ((!x6) = false →
              (J false w1))) ∧
          (∀ (x23 : Bool), ∀ w2 : World, J x23 w2 →
            (∃ J_1 : Option Addr → Nat → Nat → Bool → World → Prop, ((x23 = true →
                  (∃ (t26a : Option Addr) (t26n : Nat) (t26c : Nat) (w3 : World), (Instr.buildSlice 39 1 #[(0, (.string a1))]).run Try.prog w2 = .ok (.slice t26a t26n t26c) w3 ∧
                    (∃ (t27a : Option Addr) (t27n : Nat) (t27c : Nat) (w4 : World), (Builtin.append_ #[39, 39] 39 #[(.slice x5a x5n x5c), (.slice t26a t26n t26c)]).run Try.prog w3 = .ok (.slice t27a t27n t27c) w4 ∧
                      (J_1 t27a t27n t27c true w4)))) ∧
                (x23 = false →
                  (J_1 x5a x5n x5c x6 w2))) ∧
              (∀ (x5a_1 : Option Addr) (x5n_1 : Nat) (x5c_1 : Nat) (x6_1 : Bool), ∀ w5 : World, J_1 x5a_1 x5n_1 x5c_1 x6_1 w5 →
                (∃ (t31b t31o : Nat), a0a = some ⟨t31b, t31o, none⟩ ∧ 0 ≤ x7 ∧ x7 < ((a0n : Nat) : Int) ∧
                  (∃ (t32 : ByteArray), (Instr.loadAt 9 (.pointer (some ⟨t31b, t31o + Int.toNat x7 * 1, none⟩))).run Try.prog w5 = .ok (.string t32) w5 ∧
                    (∃ (t33a : Option Addr) (t33n : Nat) (t33c : Nat) (w6 : World), (Instr.buildSlice 39 1 #[(0, (.string t32))]).run Try.prog w5 = .ok (.slice t33a t33n t33c) w6 ∧
                      (∃ (t34a : Option Addr) (t34n : Nat) (t34c : Nat) (w7 : World), (Builtin.append_ #[39, 39] 39 #[(.slice x5a_1 x5n_1 x5c_1), (.slice t33a t33n t33c)]).run Try.prog w6 = .ok (.slice t34a t34n t34c) w7 ∧
                        (I t34a t34n t34c x6_1 (IntKind.wrap .i64 (x7 + (1 : Int))) w7 ∧ μ t34a t34n t34c x6_1 (IntKind.wrap .i64 (x7 + (1 : Int))) w7 < μ x5a x5n x5c x6 x7 w1)))))))))) ∧
      ((decide (x7 < ((a0n : Nat) : Int))) = false →
        (∃ J : Option Addr → Nat → Nat → World → Prop, (((!x6) = true →
              (∃ (t39a : Option Addr) (t39n : Nat) (t39c : Nat) (w8 : World), (Instr.buildSlice 39 1 #[(0, (.string a1))]).run Try.prog w1 = .ok (.slice t39a t39n t39c) w8 ∧
                (∃ (t40a : Option Addr) (t40n : Nat) (t40c : Nat) (w9 : World), (Builtin.append_ #[39, 39] 39 #[(.slice x5a x5n x5c), (.slice t39a t39n t39c)]).run Try.prog w8 = .ok (.slice t40a t40n t40c) w9 ∧
                  (J t40a t40n t40c w9)))) ∧
            ((!x6) = false →
              (J x5a x5n x5c w1))) ∧
          (∀ (x5a_1 : Option Addr) (x5n_1 : Nat) (x5c_1 : Nat), ∀ w10 : World, J x5a_1 x5n_1 x5c_1 w10 →
            (R (.returned (.slice x5a_1 x5n_1 x5c_1)) w10))))))) : Calls Try.prog 31 #[(.slice a0a a0n a0c), (.string a1)] w R :=
  calls_of_ev (args := [(.slice a0a a0n a0c), (.string a1)])
    (tc := .seq (.reg (.op .p (.nil))) (.seq (.reg (.op .p (.nil))) (.seq (.reg (.op .p (.nil))) (.seq (.seq (.reg (.op .p (.nil))) (.blk (.loop [5, 6, 7, 8, 9, 10, 11, 12, 13, 14, 15, 16, 17, 18, 19, 20, 21, 22, 23, 24, 25, 26, 27, 28, 29, 30, 31, 32, 33, 34] [5, 6, 7] [.slice, .bool, .int .i64] (.seq (.seq (.reg (.op .p (.op .p (.op .p (.op .p (.nil)))))) (.cond (.leaf) (.leaf))) (.seq (.blk (.seq (.seq (.join [14, 15, 16, 17, 18, 19, 20, 21, 22, 23] [23] [.bool] (.reg (.op .p (.op .p (.op .p (.sp 16 (.op .p (.op .p (.op .p (.op .ix (.op (.ld (.str)) (.op (.ld (.bool)) (.op .p (.nil)))))))) (.op .p (.op .p (.op .p (.op .p (.op .p (.op .p (.op .p (.nil)))))))))))))) (.join [5, 6, 24, 25, 26, 27] [5, 6] [.slice, .bool] (.cond (.seq (.reg (.op .p (.op .p (.op (.r (.slice)) (.op (.r (.slice)) (.op .p (.nil))))))) (.reg (.op .p (.nil)))) (.leaf)))) (.reg (.op .p (.op .p (.op .p (.op .ix (.op (.ld (.str)) (.op (.r (.slice)) (.op (.r (.slice)) (.op .p (.nil)))))))))))) (.reg (.op .p (.op .p (.op .p (.nil)))))))))) (.seq (.seq (.reg (.op .p (.op .p (.nil)))) (.join [5, 37, 38, 39, 40] [5] [.slice] (.cond (.reg (.op .p (.op .p (.op (.r (.slice)) (.op (.r (.slice)) (.op .p (.nil))))))) (.leaf)))) (.seq (.reg (.op .p (.op .p (.nil)))) (.leaf)))))))
    (by kernel_rfl) Try.func31 (by kernel_rfl) (by kernel_rfl) (by kernel_rfl) (by kernel_rfl) h

set_option maxRecDepth 100000 in
theorem amphoraref19_Bucket_vc (a0 : Int) (a1 : Int) (w : World) (R : Ending → World → Prop) (h :
  (((((decide (a1 < ((-1099511627776) : Int))) || (decide (a1 > (1099511627776 : Int)))) || (decide (a0 < (1 : Int)))) || (decide (a0 > (5 : Int)))) = true →
    (R (.returned (.tuple #[(.int .i64 0), (.int .i64 24)])) w)) ∧
  (((((decide (a1 < ((-1099511627776) : Int))) || (decide (a1 > (1099511627776 : Int)))) || (decide (a0 < (1 : Int)))) || (decide (a0 > (5 : Int)))) = false →
    (Calls Try.prog 41 #[(.int .i64 a1), (.int .i64 86400)] w fun (e27 : Ending) (w1 : World) => ∃ (t27 : Int), e27 = .returned (.int .i64 t27) ∧
      (Calls Try.prog 42 #[(.int .i64 t27)] w1 fun (e30 : Ending) (w2 : World) => ∃ (t30_0 : Array Value) (t30_1 : Int), e30 = .returned (.tuple #[(.agg t30_0), (.int .i64 t30_1)]) ∧
        (∃ (g7 : Nat) (w3 : World), (Instr.alloc 75 true (.tuple #[])).run Try.prog w2 = .ok (.pointer (some ⟨g7, 0, none⟩)) w3 ∧
          (∃ w4 : World, (Instr.storeAt 75 (.pointer (some ⟨g7, 0, none⟩)) (.agg t30_0)).run Try.prog w3 = .ok () w4 ∧
            (((a0 == (1 : Int)) = true →
                (Calls Try.prog 41 #[(.int .i64 a1), (.int .i64 3600)] w4 fun (e37 : Ending) (w5 : World) => ∃ (t37 : Int), e37 = .returned (.int .i64 t37) ∧
                  (R (.returned (.tuple #[(.int .i64 t37), (.int .i64 0)])) w5))) ∧
              ((a0 == (1 : Int)) = false →
                (((a0 == (2 : Int)) = true →
                    (R (.returned (.tuple #[(.int .i64 t27), (.int .i64 0)])) w4)) ∧
                  ((a0 == (2 : Int)) = false →
                    (((a0 == (3 : Int)) = true →
                        (Calls Try.prog 43 #[(.int .i64 t27)] w4 fun (e45 : Ending) (w6 : World) => ∃ (t45_0 : Int) (t45_1 : Int) (t45_2 : Int), e45 = .returned (.tuple #[(.int .i64 t45_0), (.int .i64 t45_1), (.int .i64 t45_2)]) ∧
                          (R (.returned (.tuple #[(.int .i64 (IntKind.wrap .i64 ((IntKind.wrap .i64 ((100 : Int) * t45_0)) + t45_1))), (.int .i64 0)])) w6))) ∧
                      ((a0 == (3 : Int)) = false →
                        (((a0 == (4 : Int)) = true →
                            (∃ (t56 : Int), (Instr.loadAt 3 (.pointer (some ⟨g7, 0, none⟩))).run Try.prog w4 = .ok (.int .i64 t56) w4 ∧
                              (∃ (t59 : Int), (Instr.loadAt 3 (.pointer (some ⟨g7, 1, none⟩))).run Try.prog w4 = .ok (.int .i64 t59) w4 ∧
                                (R (.returned (.tuple #[(.int .i64 (IntKind.wrap .i64 ((IntKind.wrap .i64 ((100 : Int) * t56)) + t59))), (.int .i64 0)])) w4)))) ∧
                          ((a0 == (4 : Int)) = false →
                            (∃ (t62 : Int), (Instr.loadAt 3 (.pointer (some ⟨g7, 0, none⟩))).run Try.prog w4 = .ok (.int .i64 t62) w4 ∧
                              (R (.returned (.tuple #[(.int .i64 t62), (.int .i64 0)])) w4)))))))))))))))) : Calls Try.prog 28 #[(.int .i64 a0), (.int .i64 a1)] w R :=
  calls_of_ev (args := [(.int .i64 a0), (.int .i64 a1)])
    (tc := .seq (.reg (.op .p (.op .p (.nil)))) (.seq (.seq (.reg (.op .p (.op .p (.op .p (.ap 2 (.op .p (.ap 2 (.op .p (.ap 2 (.nil)))))))))) (.cond (.seq (.reg (.op .p (.op .p (.nil)))) (.leaf)) (.leaf))) (.seq (.reg (.op .p (.op (.cl [.int .i64]) (.op .p (.nil))))) (.seq (.reg (.op .p (.op (.cl [.agg, .int .i64]) (.op .p (.op .p (.op .p (.op .bx (.op .u (.op .p (.nil)))))))))) (.seq (.seq (.reg (.op .p (.nil))) (.blk (.seq (.reg (.op .p (.op .p (.nil)))) (.cond (.seq (.reg (.op .p (.op (.cl [.int .i64]) (.op .p (.op .p (.nil)))))) (.leaf)) (.seq (.reg (.op .p (.op .p (.nil)))) (.cond (.seq (.reg (.op .p (.op .p (.op .p (.nil))))) (.leaf)) (.seq (.reg (.op .p (.op .p (.nil)))) (.cond (.seq (.reg (.op .p (.op (.cl [.int .i64, .int .i64, .int .i64]) (.op .p (.op .p (.op .p (.op .p (.op .p (.op .p (.op .p (.nil))))))))))) (.seq (.reg (.op .p (.op .p (.op .p (.op .p (.op .p (.op .p (.nil)))))))) (.leaf))) (.seq (.reg (.op .p (.op .p (.nil)))) (.cond (.seq (.reg (.op .p (.op (.ld (.int .i64)) (.op .p (.op .p (.op (.ld (.int .i64)) (.op .p (.op .p (.op .p (.nil)))))))))) (.leaf)) (.leaf))))))))))) (.seq (.reg (.op .p (.op (.ld (.int .i64)) (.op .p (.op .p (.nil)))))) (.leaf)))))))
    (by kernel_rfl) Try.func28 (by kernel_rfl) (by kernel_rfl) (by kernel_rfl) (by kernel_rfl) h

set_option maxRecDepth 100000 in
theorem amphoraref19_Floor_vc (a0 : Int) (a1 : Int) (w : World) (R : Ending → World → Prop) (h :
  a1 ≠ 0 ∧
  (∃ J : Int → World → Prop, (((decide ((IntKind.wrap .i64 ((IntKind.wrap .i64 (Int.tdiv a0 a1)) * a1)) > a0)) = true →
        (J (IntKind.wrap .i64 ((IntKind.wrap .i64 (Int.tdiv a0 a1)) - (1 : Int))) w)) ∧
      ((decide ((IntKind.wrap .i64 ((IntKind.wrap .i64 (Int.tdiv a0 a1)) * a1)) > a0)) = false →
        (J (IntKind.wrap .i64 (Int.tdiv a0 a1)) w))) ∧
    (∀ (x5 : Int), ∀ w1 : World, J x5 w1 →
      (R (.returned (.int .i64 x5)) w1)))) : Calls Try.prog 41 #[(.int .i64 a0), (.int .i64 a1)] w R :=
  calls_of_ev (args := [(.int .i64 a0), (.int .i64 a1)])
    (tc := .seq (.reg (.op .p (.nil))) (.seq (.reg (.op .p (.op .p (.op .sc (.op .p (.nil)))))) (.seq (.seq (.reg (.op .p (.op .p (.op .p (.op .p (.op .p (.nil))))))) (.join [5, 14, 15] [5] [.int .i64] (.cond (.reg (.op .p (.op .p (.op .p (.nil))))) (.leaf)))) (.seq (.reg (.op .p (.op .p (.nil)))) (.leaf)))))
    (by kernel_rfl) Try.func41 (by kernel_rfl) (by kernel_rfl) (by kernel_rfl) (by kernel_rfl) h

set_option maxRecDepth 100000 in
theorem amphoraref19_Date_vc (a0 : Int) (w : World) (R : Ending → World → Prop) (h :
  ∃ (g2 : Nat) (w1 : World), (Instr.alloc 75 true (.tuple #[])).run Try.prog w = .ok (.pointer (some ⟨g2, 0, none⟩)) w1 ∧
  ((((decide (a0 > (20000000 : Int))) || (decide (a0 < ((-20000000) : Int)))) = true →
      (∃ (t12 : Array Value), (Instr.build 75 #[]).run Try.prog w1 = .ok (.agg t12) w1 ∧
        (∃ w2 : World, (Instr.storeAt 75 (.pointer (some ⟨g2, 0, none⟩)) (.agg t12)).run Try.prog w1 = .ok () w2 ∧
          (∃ r2 : Value, (loadVar 75 ⟨g2, 0, none⟩).run Try.prog w2 = .ok r2 w2 ∧
            (R (.returned (.tuple #[r2, (.int .i64 24)])) w2))))) ∧
    (((decide (a0 > (20000000 : Int))) || (decide (a0 < ((-20000000) : Int)))) = false →
      (∃ (I : Int → Int → World → Prop) (μ : Int → Int → World → Nat), I a0 1970 w1 ∧
        (∀ (x0 : Int) (x4 : Int), ∀ w3 : World, I x0 x4 w3 →
          (((decide (x0 < (0 : Int))) = true →
              (I (IntKind.wrap .i64 (x0 + (146097 : Int))) (IntKind.wrap .i64 (x4 - (400 : Int))) w3 ∧ μ (IntKind.wrap .i64 (x0 + (146097 : Int))) (IntKind.wrap .i64 (x4 - (400 : Int))) w3 < μ x0 x4 w3)) ∧
            ((decide (x0 < (0 : Int))) = false →
              (∃ (I_1 : Int → Int → World → Prop) (μ_1 : Int → Int → World → Nat), I_1 x0 x4 w3 ∧
                (∀ (x0_1 : Int) (x4_1 : Int), ∀ w4 : World, I_1 x0_1 x4_1 w4 →
                  (((decide (x0_1 ≥ (146097 : Int))) = true →
                      (I_1 (IntKind.wrap .i64 (x0_1 - (146097 : Int))) (IntKind.wrap .i64 (x4_1 + (400 : Int))) w4 ∧ μ_1 (IntKind.wrap .i64 (x0_1 - (146097 : Int))) (IntKind.wrap .i64 (x4_1 + (400 : Int))) w4 < μ_1 x0_1 x4_1 w4)) ∧
                    ((decide (x0_1 ≥ (146097 : Int))) = false →
                      (∃ (I_2 : Int → Int → World → Prop) (μ_2 : Int → Int → World → Nat), I_2 x0_1 x4_1 w4 ∧
                        (∀ (x0_2 : Int) (x4_2 : Int), ∀ w5 : World, I_2 x0_2 x4_2 w5 →
                          (Calls Try.prog 54 #[(.int .i64 x4_2)] w5 fun (e27 : Ending) (w6 : World) => ∃ (t27 : Int), e27 = .returned (.int .i64 t27) ∧
                            (((decide (x0_2 ≥ t27)) = true →
                                (Calls Try.prog 54 #[(.int .i64 x4_2)] w6 fun (e31 : Ending) (w7 : World) => ∃ (t31 : Int), e31 = .returned (.int .i64 t31) ∧
                                  (I_2 (IntKind.wrap .i64 (x0_2 - t31)) (IntKind.wrap .i64 (x4_2 + (1 : Int))) w7 ∧ μ_2 (IntKind.wrap .i64 (x0_2 - t31)) (IntKind.wrap .i64 (x4_2 + (1 : Int))) w7 < μ_2 x0_2 x4_2 w5))) ∧
                              ((decide (x0_2 ≥ t27)) = false →
                                (∃ (I_3 : Int → Int → World → Prop) (μ_3 : Int → Int → World → Nat), I_3 x0_2 1 w6 ∧
                                  (∀ (x0_3 : Int) (x5 : Int), ∀ w8 : World, I_3 x0_3 x5 w8 →
                                    (Calls Try.prog 55 #[(.int .i64 x4_2), (.int .i64 x5)] w8 fun (e38 : Ending) (w9 : World) => ∃ (t38 : Int), e38 = .returned (.int .i64 t38) ∧
                                      (((decide (x0_3 ≥ t38)) = true →
                                          (Calls Try.prog 55 #[(.int .i64 x4_2), (.int .i64 x5)] w9 fun (e43 : Ending) (w10 : World) => ∃ (t43 : Int), e43 = .returned (.int .i64 t43) ∧
                                            (I_3 (IntKind.wrap .i64 (x0_3 - t43)) (IntKind.wrap .i64 (x5 + (1 : Int))) w10 ∧ μ_3 (IntKind.wrap .i64 (x0_3 - t43)) (IntKind.wrap .i64 (x5 + (1 : Int))) w10 < μ_3 x0_3 x5 w8))) ∧
                                        ((decide (x0_3 ≥ t38)) = false →
                                          ((((decide (x4_2 < ((-40000) : Int))) || (decide (x4_2 > (40000 : Int)))) = true →
                                              (∃ (t53 : Array Value), (Instr.build 75 #[]).run Try.prog w9 = .ok (.agg t53) w9 ∧
                                                (∃ w11 : World, (Instr.storeAt 75 (.pointer (some ⟨g2, 0, none⟩)) (.agg t53)).run Try.prog w9 = .ok () w11 ∧
                                                  (∃ r2 : Value, (loadVar 75 ⟨g2, 0, none⟩).run Try.prog w11 = .ok r2 w11 ∧
                                                    (R (.returned (.tuple #[r2, (.int .i64 24)])) w11))))) ∧
                                            (((decide (x4_2 < ((-40000) : Int))) || (decide (x4_2 > (40000 : Int)))) = false →
                                              (∃ (t58 : Array Value), (Instr.build 75 #[(0, (.int .i64 x4_2)), (1, (.int .i64 x5)), (2, (.int .i64 (IntKind.wrap .i64 (x0_3 + (1 : Int)))))]).run Try.prog w9 = .ok (.agg t58) w9 ∧
                                                (∃ w12 : World, (Instr.storeAt 75 (.pointer (some ⟨g2, 0, none⟩)) (.agg t58)).run Try.prog w9 = .ok () w12 ∧
                                                  (∃ r2 : Value, (loadVar 75 ⟨g2, 0, none⟩).run Try.prog w12 = .ok r2 w12 ∧
                                                    (R (.returned (.tuple #[r2, (.int .i64 0)])) w12))))))))))))))))))))))))))) : Calls Try.prog 42 #[(.int .i64 a0)] w R :=
  calls_of_ev (args := [(.int .i64 a0)])
    (tc := .seq (.reg (.op .bx (.op .p (.nil)))) (.seq (.seq (.reg (.op .p (.op .p (.op .p (.ap 2 (.nil)))))) (.cond (.seq (.reg (.op (.ld (.agg)) (.op .u (.op .p (.nil))))) (.leaf)) (.leaf))) (.seq (.reg (.op .p (.nil))) (.seq (.blk (.loop [0, 4, 13, 14, 15, 16, 17, 18] [0, 4] [.int .i64, .int .i64] (.seq (.seq (.reg (.op .p (.op .p (.nil)))) (.cond (.leaf) (.leaf))) (.blk (.seq (.reg (.op .p (.op .p (.op .p (.nil))))) (.reg (.op .p (.op .p (.op .p (.nil)))))))))) (.seq (.blk (.loop [0, 4, 19, 20, 21, 22, 23, 24] [0, 4] [.int .i64, .int .i64] (.seq (.seq (.reg (.op .p (.op .p (.nil)))) (.cond (.leaf) (.leaf))) (.blk (.seq (.reg (.op .p (.op .p (.op .p (.nil))))) (.reg (.op .p (.op .p (.op .p (.nil)))))))))) (.seq (.blk (.loop [0, 4, 25, 26, 27, 28, 29, 30, 31, 32, 33, 34] [0, 4] [.int .i64, .int .i64] (.seq (.seq (.reg (.op .p (.op .p (.op (.cl [.int .i64]) (.op .p (.nil)))))) (.cond (.leaf) (.leaf))) (.blk (.seq (.reg (.op .p (.op .p (.op (.cl [.int .i64]) (.op .p (.op .p (.nil))))))) (.reg (.op .p (.op .p (.op .p (.nil)))))))))) (.seq (.reg (.op .p (.nil))) (.seq (.blk (.loop [0, 5, 35, 36, 37, 38, 39, 40, 41, 42, 43, 44, 45, 46] [0, 5] [.int .i64, .int .i64] (.seq (.seq (.reg (.op .p (.op .p (.op .p (.op (.cl [.int .i64]) (.op .p (.nil))))))) (.cond (.leaf) (.leaf))) (.blk (.seq (.reg (.op .p (.op .p (.op .p (.op (.cl [.int .i64]) (.op .p (.op .p (.nil)))))))) (.reg (.op .p (.op .p (.op .p (.nil)))))))))) (.seq (.seq (.reg (.op .p (.op .p (.op .p (.ap 2 (.nil)))))) (.cond (.seq (.reg (.op (.ld (.agg)) (.op .u (.op .p (.nil))))) (.leaf)) (.leaf))) (.seq (.reg (.op .p (.op .p (.op .p (.op .p (.op (.ld (.agg)) (.op .u (.op .p (.nil))))))))) (.leaf)))))))))))
    (by kernel_rfl) Try.func42 (by kernel_rfl) (by kernel_rfl) (by kernel_rfl) (by kernel_rfl) h

set_option maxRecDepth 100000 in
theorem amphoraref19_Week_vc (a0 : Int) (w : World) (R : Ending → World → Prop) (h :
  Calls Try.prog 42 #[(.int .i64 a0)] w fun (e10 : Ending) (w1 : World) => ∃ (t10_0 : Array Value) (t10_1 : Int), e10 = .returned (.tuple #[(.agg t10_0), (.int .i64 t10_1)]) ∧
  (∃ (g5 : Nat) (w2 : World), (Instr.alloc 75 true (.tuple #[])).run Try.prog w1 = .ok (.pointer (some ⟨g5, 0, none⟩)) w2 ∧
    (∃ w3 : World, (Instr.storeAt 75 (.pointer (some ⟨g5, 0, none⟩)) (.agg t10_0)).run Try.prog w2 = .ok () w3 ∧
      (((t10_1 != (0 : Int)) = true →
          (R (.returned (.tuple #[(.int .i64 0), (.int .i64 0), (.int .i64 t10_1)])) w3)) ∧
        ((t10_1 != (0 : Int)) = false →
          (∃ (t17 : Int), (Instr.loadAt 3 (.pointer (some ⟨g5, 0, none⟩))).run Try.prog w3 = .ok (.int .i64 t17) w3 ∧
            (∃ (I : Int → World → Prop) (μ : Int → World → Nat), I (IntKind.wrap .i64 (t17 + (1 : Int))) w3 ∧
              (∀ (x7 : Int), ∀ w4 : World, I x7 w4 →
                (Calls Try.prog 56 #[(.int .i64 x7)] w4 fun (e21 : Ending) (w5 : World) => ∃ (t21 : Int), e21 = .returned (.int .i64 t21) ∧
                  (((decide (a0 < t21)) = true →
                      (I (IntKind.wrap .i64 (x7 - (1 : Int))) w5 ∧ μ (IntKind.wrap .i64 (x7 - (1 : Int))) w5 < μ x7 w4)) ∧
                    ((decide (a0 < t21)) = false →
                      (Calls Try.prog 56 #[(.int .i64 x7)] w5 fun (e28 : Ending) (w6 : World) => ∃ (t28 : Int), e28 = .returned (.int .i64 t28) ∧
                        (R (.returned (.tuple #[(.int .i64 x7), (.int .i64 (IntKind.wrap .i64 ((IntKind.wrap .i64 (Int.tdiv (IntKind.wrap .i64 (a0 - t28)) (7 : Int))) + (1 : Int)))), (.int .i64 0)])) w6))))))))))))) : Calls Try.prog 43 #[(.int .i64 a0)] w R :=
  calls_of_ev (args := [(.int .i64 a0)])
    (tc := .seq (.reg (.op .p (.op .p (.op .p (.nil))))) (.seq (.reg (.op .p (.op (.cl [.agg, .int .i64]) (.op .p (.op .p (.op .p (.op .bx (.op .u (.op .p (.nil)))))))))) (.seq (.seq (.reg (.op .p (.op .p (.nil)))) (.cond (.seq (.reg (.op .p (.op .p (.op .p (.op .p (.nil)))))) (.leaf)) (.leaf))) (.seq (.reg (.op .p (.op (.ld (.int .i64)) (.op .p (.op .p (.nil)))))) (.seq (.blk (.loop [7, 19, 20, 21, 22, 23, 24] [7] [.int .i64] (.seq (.seq (.reg (.op .p (.op .p (.op (.cl [.int .i64]) (.op .p (.nil)))))) (.cond (.leaf) (.leaf))) (.blk (.reg (.op .p (.op .p (.op .p (.nil))))))))) (.seq (.reg (.op .p (.op .p (.op .p (.op (.cl [.int .i64]) (.op .p (.op .p (.op .p (.op .p (.op .p (.op .p (.nil)))))))))))) (.leaf)))))))
    (by kernel_rfl) Try.func43 (by kernel_rfl) (by kernel_rfl) (by kernel_rfl) (by kernel_rfl) h

set_option maxRecDepth 100000 in
theorem amphoraref19_of_vc (a0 : Int) (w : World) (R : Ending → World → Prop) (h :
  Calls Try.prog 76 #[(.int .i64 a0)] w fun (e4 : Ending) (w1 : World) => ∃ (t4 : Bool), e4 = .returned (.bool t4) ∧
  ((t4 = true →
      (R (.returned (.int .i64 366)) w1)) ∧
    (t4 = false →
      (R (.returned (.int .i64 365)) w1)))) : Calls Try.prog 54 #[(.int .i64 a0)] w R :=
  calls_of_ev (args := [(.int .i64 a0)])
    (tc := .seq (.reg (.op .p (.nil))) (.seq (.seq (.reg (.op .p (.op (.cl [.bool]) (.nil)))) (.cond (.seq (.reg (.op .p (.nil))) (.leaf)) (.leaf))) (.seq (.reg (.op .p (.nil))) (.leaf))))
    (by kernel_rfl) Try.func54 (by kernel_rfl) (by kernel_rfl) (by kernel_rfl) (by kernel_rfl) h

set_option maxRecDepth 100000 in
theorem amphoraref19_Length_vc (a0 : Int) (a1 : Int) (w : World) (R : Ending → World → Prop) (h :
  (((decide (a1 < (1 : Int))) || (decide (a1 > (12 : Int)))) = true →
    (R (.returned (.int .i64 0)) w)) ∧
  (((decide (a1 < (1 : Int))) || (decide (a1 > (12 : Int)))) = false →
    (∃ (t14 : Int), (Instr.index 9 (.string (ByteArray.mk #[31, 28, 31, 30, 31, 30, 31, 31, 30, 31, 30, 31])) (.int .i64 (IntKind.wrap .i64 (a1 - (1 : Int))))).run Try.prog w = .ok (.int .u8 t14) w ∧
      (∃ J : Bool → World → Prop, (((a1 == (2 : Int)) = true →
            (Calls Try.prog 76 #[(.int .i64 a0)] w fun (e20 : Ending) (w1 : World) => ∃ (t20 : Bool), e20 = .returned (.bool t20) ∧
              (J t20 w1))) ∧
          ((a1 == (2 : Int)) = false →
            (J false w))) ∧
        (∀ (x21 : Bool), ∀ w2 : World, J x21 w2 →
          (∃ J_1 : Int → World → Prop, ((x21 = true →
                (J_1 (IntKind.wrap .i64 ((IntKind.wrap .i64 t14) + (1 : Int))) w2)) ∧
              (x21 = false →
                (J_1 (IntKind.wrap .i64 t14) w2))) ∧
            (∀ (x5 : Int), ∀ w3 : World, J_1 x5 w3 →
              (R (.returned (.int .i64 x5)) w3)))))))) : Calls Try.prog 55 #[(.int .i64 a0), (.int .i64 a1)] w R :=
  calls_of_ev (args := [(.int .i64 a0), (.int .i64 a1)])
    (tc := .seq (.reg (.op .p (.nil))) (.seq (.seq (.reg (.op .p (.op .p (.op .p (.ap 2 (.nil)))))) (.cond (.seq (.reg (.op .p (.nil))) (.leaf)) (.leaf))) (.seq (.reg (.op .p (.op .p (.op (.ld (.int .u8)) (.op .p (.op .p (.nil))))))) (.seq (.seq (.join [16, 17, 18, 19, 20, 21] [21] [.bool] (.reg (.op .p (.op .p (.op .p (.sp 18 (.op .p (.op (.cl [.bool]) (.op .p (.nil)))) (.op .p (.op .p (.op .p (.nil)))))))))) (.join [5, 22, 23] [5] [.int .i64] (.cond (.reg (.op .p (.op .p (.op .p (.nil))))) (.leaf)))) (.seq (.reg (.op .p (.op .p (.nil)))) (.leaf))))))
    (by kernel_rfl) Try.func55 (by kernel_rfl) (by kernel_rfl) (by kernel_rfl) (by kernel_rfl) h

set_option maxRecDepth 100000 in
theorem amphoraref19_first_vc (a0 : Int) (w : World) (R : Ending → World → Prop) (h :
  ∃ (I : Int → Int → World → Prop) (μ : Int → Int → World → Nat), I a0 0 w ∧
  (∀ (x3 : Int) (x4 : Int), ∀ w1 : World, I x3 x4 w1 →
    (((decide (x3 > (40000 : Int))) = true →
        (I (IntKind.wrap .i64 (x3 - (400 : Int))) (IntKind.wrap .i64 (x4 + (146097 : Int))) w1 ∧ μ (IntKind.wrap .i64 (x3 - (400 : Int))) (IntKind.wrap .i64 (x4 + (146097 : Int))) w1 < μ x3 x4 w1)) ∧
      ((decide (x3 > (40000 : Int))) = false →
        (∃ (I_1 : Int → Int → World → Prop) (μ_1 : Int → Int → World → Nat), I_1 x3 x4 w1 ∧
          (∀ (x3_1 : Int) (x4_1 : Int), ∀ w2 : World, I_1 x3_1 x4_1 w2 →
            (((decide (x3_1 < ((-40000) : Int))) = true →
                (I_1 (IntKind.wrap .i64 (x3_1 + (400 : Int))) (IntKind.wrap .i64 (x4_1 - (146097 : Int))) w2 ∧ μ_1 (IntKind.wrap .i64 (x3_1 + (400 : Int))) (IntKind.wrap .i64 (x4_1 - (146097 : Int))) w2 < μ_1 x3_1 x4_1 w2)) ∧
              ((decide (x3_1 < ((-40000) : Int))) = false →
                (∃ (t22 : Array Value), (Instr.build 75 #[(0, (.int .i64 x3_1)), (1, (.int .i64 1)), (2, (.int .i64 4))]).run Try.prog w2 = .ok (.agg t22) w2 ∧
                  (Calls Try.prog 77 #[(.agg t22)] w2 fun (e23 : Ending) (w3 : World) => ∃ (t23_0 : Int) (t23_1 : Int), e23 = .returned (.tuple #[(.int .i64 t23_0), (.int .i64 t23_1)]) ∧
                    (Calls Try.prog 78 #[(.int .i64 (IntKind.wrap .i64 (x4_1 + t23_0)))] w3 fun (e31 : Ending) (w4 : World) => ∃ (t31 : Int), e31 = .returned (.int .i64 t31) ∧
                      (R (.returned (.int .i64 (IntKind.wrap .i64 ((IntKind.wrap .i64 ((IntKind.wrap .i64 (x4_1 + t23_0)) - t31)) + (1 : Int))))) w4)))))))))))) : Calls Try.prog 56 #[(.int .i64 a0)] w R :=
  calls_of_ev (args := [(.int .i64 a0)])
    (tc := .seq (.reg (.op .p (.nil))) (.seq (.reg (.op .p (.op .p (.nil)))) (.seq (.reg (.op .p (.nil))) (.seq (.blk (.loop [3, 4, 8, 9, 10, 11, 12, 13] [3, 4] [.int .i64, .int .i64] (.seq (.seq (.reg (.op .p (.op .p (.nil)))) (.cond (.leaf) (.leaf))) (.blk (.seq (.reg (.op .p (.op .p (.op .p (.nil))))) (.reg (.op .p (.op .p (.op .p (.nil)))))))))) (.seq (.blk (.loop [3, 4, 14, 15, 16, 17, 18, 19] [3, 4] [.int .i64, .int .i64] (.seq (.seq (.reg (.op .p (.op .p (.nil)))) (.cond (.leaf) (.leaf))) (.blk (.seq (.reg (.op .p (.op .p (.op .p (.nil))))) (.reg (.op .p (.op .p (.op .p (.nil)))))))))) (.seq (.reg (.op .p (.op (.ld (.agg)) (.op (.cl [.int .i64, .int .i64]) (.op .p (.op .p (.op .p (.op .p (.op .p (.nil)))))))))) (.seq (.reg (.op .p (.op .p (.op .p (.op .p (.nil)))))) (.seq (.reg (.op .p (.op .p (.op (.cl [.int .i64]) (.op .p (.op .p (.op .p (.nil)))))))) (.leaf)))))))))
    (by kernel_rfl) Try.func56 (by kernel_rfl) (by kernel_rfl) (by kernel_rfl) (by kernel_rfl) h

set_option maxRecDepth 100000 in
theorem amphoraref19_Leap_vc (a0 : Int) (w : World) (R : Ending → World → Prop) (h :
  (((Int.tmod a0 (400 : Int)) == (0 : Int)) = true →
    (R (.returned (.bool true)) w)) ∧
  (((Int.tmod a0 (400 : Int)) == (0 : Int)) = false →
    ((((Int.tmod a0 (4 : Int)) == (0 : Int)) = true →
        (R (.returned (.bool ((Int.tmod a0 (100 : Int)) != (0 : Int)))) w)) ∧
      (((Int.tmod a0 (4 : Int)) == (0 : Int)) = false →
        (R (.returned (.bool false)) w))))) : Calls Try.prog 76 #[(.int .i64 a0)] w R :=
  calls_of_ev (args := [(.int .i64 a0)])
    (tc := .seq (.reg (.op .p (.nil))) (.seq (.reg (.op .p (.op .p (.op .p (.op .p (.sp 6 (.op .p (.op .p (.op .p (.op .p (.op .p (.op .p (.op .p (.op .p (.op .p (.op .p (.nil))))))))))) (.op .p (.op .p (.op .p (.op .p (.sp 10 (.op .p (.op .p (.op .p (.op .p (.op .p (.op .p (.nil))))))) (.op .p (.op .p (.op .p (.op .p (.op .p (.op .p (.nil)))))))))))))))))) (.leaf)))
    (by kernel_rfl) Try.func76 (by kernel_rfl) (by kernel_rfl) (by kernel_rfl) (by kernel_rfl) h

set_option maxRecDepth 100000 in
theorem amphoraref19_Days_vc (a0 : Array Value) (w : World) (R : Ending → World → Prop) (h :
  ∃ (g1 : Nat) (w1 : World), (Instr.box 75 (.agg a0)).run Try.prog w = .ok (.pointer (some ⟨g1, 0, none⟩)) w1 ∧
  (∃ J : Bool → World → Prop, (∃ S : World → Prop, S w1.drew ∧
      (∃ (t9 : Int), (∀ w' : World, S w' → (Instr.loadAt 3 (.pointer (some ⟨g1, 0, none⟩))).run Try.prog w' = .ok (.int .i64 t9) w') ∧
        (((decide (t9 < ((-40000) : Int))) = true →
            (S w1.drew ∧
              (J true w1.drew))) ∧
          ((decide (t9 < ((-40000) : Int))) = false →
            (∃ (t13 : Int), (∀ w' : World, S w' → (Instr.loadAt 3 (.pointer (some ⟨g1, 0, none⟩))).run Try.prog w' = .ok (.int .i64 t13) w') ∧
              (((decide (t13 > (40000 : Int))) = true →
                  (S w1.drew ∧
                    (J true w1.drew))) ∧
                ((decide (t13 > (40000 : Int))) = false →
                  (∃ (t18 : Int), (∀ w' : World, S w' → (Instr.loadAt 3 (.pointer (some ⟨g1, 2, none⟩))).run Try.prog w' = .ok (.int .i64 t18) w') ∧
                    (((decide (t18 < (1 : Int))) = true →
                        (S w1.drew ∧
                          (J true w1.drew))) ∧
                      ((decide (t18 < (1 : Int))) = false →
                        (∃ (t23 : Int), (∀ w' : World, S w' → (Instr.loadAt 3 (.pointer (some ⟨g1, 2, none⟩))).run Try.prog w' = .ok (.int .i64 t23) w') ∧
                          (∃ (t25 : Int), (∀ w' : World, S w' → (Instr.loadAt 3 (.pointer (some ⟨g1, 0, none⟩))).run Try.prog w' = .ok (.int .i64 t25) w') ∧
                            (∃ (t27 : Int), (∀ w' : World, S w' → (Instr.loadAt 3 (.pointer (some ⟨g1, 1, none⟩))).run Try.prog w' = .ok (.int .i64 t27) w') ∧
                              (Calls Try.prog 55 #[(.int .i64 t25), (.int .i64 t27)] w1.drew fun (e28 : Ending) (w2 : World) => ∃ (t28 : Int), e28 = .returned (.int .i64 t28) ∧
                                (∃ S_1 : World → Prop, (∀ w' : World, S_1 w' → S w') ∧ S_1 w2 ∧
                                  (J (decide (t23 > t28)) w2)))))))))))))))) ∧
    (∀ (x30 : Bool), ∀ w3 : World, J x30 w3 →
      ((x30 = true →
          (R (.returned (.tuple #[(.int .i64 0), (.int .i64 24)])) w3)) ∧
        (x30 = false →
          (∃ (t32 : Int), (Instr.loadAt 3 (.pointer (some ⟨g1, 0, none⟩))).run Try.prog w3 = .ok (.int .i64 t32) w3 ∧
            (∃ (I : Int → Int → World → Prop) (μ : Int → Int → World → Nat), I 0 t32 w3 ∧
              (∀ (x4 : Int) (x5 : Int), ∀ w4 : World, I x4 x5 w4 →
                (((decide (x5 < (1970 : Int))) = true →
                    (I (IntKind.wrap .i64 (x4 - (146097 : Int))) (IntKind.wrap .i64 (x5 + (400 : Int))) w4 ∧ μ (IntKind.wrap .i64 (x4 - (146097 : Int))) (IntKind.wrap .i64 (x5 + (400 : Int))) w4 < μ x4 x5 w4)) ∧
                  ((decide (x5 < (1970 : Int))) = false →
                    (∃ (I_1 : Int → Int → World → Prop) (μ_1 : Int → Int → World → Nat), I_1 x4 x5 w4 ∧
                      (∀ (x4_1 : Int) (x5_1 : Int), ∀ w5 : World, I_1 x4_1 x5_1 w5 →
                        (((decide (x5_1 ≥ (2370 : Int))) = true →
                            (I_1 (IntKind.wrap .i64 (x4_1 + (146097 : Int))) (IntKind.wrap .i64 (x5_1 - (400 : Int))) w5 ∧ μ_1 (IntKind.wrap .i64 (x4_1 + (146097 : Int))) (IntKind.wrap .i64 (x5_1 - (400 : Int))) w5 < μ_1 x4_1 x5_1 w5)) ∧
                          ((decide (x5_1 ≥ (2370 : Int))) = false →
                            (∃ (I_2 : Int → Int → World → Prop) (μ_2 : Int → Int → World → Nat), I_2 x4_1 1970 w5 ∧
                              (∀ (x4_2 : Int) (x6 : Int), ∀ w6 : World, I_2 x4_2 x6 w6 →
                                (((decide (x6 < x5_1)) = true →
                                    (Calls Try.prog 54 #[(.int .i64 x6)] w6 fun (e52 : Ending) (w7 : World) => ∃ (t52 : Int), e52 = .returned (.int .i64 t52) ∧
                                      (I_2 (IntKind.wrap .i64 (x4_2 + t52)) (IntKind.wrap .i64 (x6 + (1 : Int))) w7 ∧ μ_2 (IntKind.wrap .i64 (x4_2 + t52)) (IntKind.wrap .i64 (x6 + (1 : Int))) w7 < μ_2 x4_2 x6 w6))) ∧
                                  ((decide (x6 < x5_1)) = false →
                                    (∃ (I_3 : Int → Int → World → Prop) (μ_3 : Int → Int → World → Nat), I_3 x4_2 1 w6 ∧
                                      (∀ (x4_3 : Int) (x7 : Int), ∀ w8 : World, I_3 x4_3 x7 w8 →
                                        (∃ (t56 : Int), (Instr.loadAt 3 (.pointer (some ⟨g1, 1, none⟩))).run Try.prog w8 = .ok (.int .i64 t56) w8 ∧
                                          (((decide (x7 < t56)) = true →
                                              (Calls Try.prog 55 #[(.int .i64 x5_1), (.int .i64 x7)] w8 fun (e63 : Ending) (w9 : World) => ∃ (t63 : Int), e63 = .returned (.int .i64 t63) ∧
                                                (I_3 (IntKind.wrap .i64 (x4_3 + t63)) (IntKind.wrap .i64 (x7 + (1 : Int))) w9 ∧ μ_3 (IntKind.wrap .i64 (x4_3 + t63)) (IntKind.wrap .i64 (x7 + (1 : Int))) w9 < μ_3 x4_3 x7 w8))) ∧
                                            ((decide (x7 < t56)) = false →
                                              (∃ (t67 : Int), (Instr.loadAt 3 (.pointer (some ⟨g1, 2, none⟩))).run Try.prog w8 = .ok (.int .i64 t67) w8 ∧
                                                (R (.returned (.tuple #[(.int .i64 (IntKind.wrap .i64 ((IntKind.wrap .i64 (x4_3 + t67)) - (1 : Int)))), (.int .i64 0)])) w8))))))))))))))))))))))))) : Calls Try.prog 77 #[(.agg a0)] w R :=
  calls_of_ev (args := [(.agg a0)])
    (tc := .seq (.reg (.op .bx (.op .p (.op .p (.nil))))) (.seq (.seq (.join [8, 9, 10, 11, 12, 13, 14, 15, 16, 17, 18, 19, 20, 21, 22, 23, 24, 25, 26, 27, 28, 29, 30] [30] [.bool] (.drawS (.tk 0 .p (.ts 1 (.int .i64) (.tk 2 .p (.tk 3 .p (.sp 11 (.tk 4 .p (.ts 5 .val (.tk 6 .p (.tk 7 .p (.tk 8 .p (.tk 9 .p (.ts 10 .val (.tk 11 .p (.tk 12 .p (.tk 13 .p (.tk 14 .p (.tk 16 .p (.tk 18 .p (.ts 15 .val (.ts 17 .val (.ts 19 .val (.go 20 .p (.tk 21 .p (.tk 22 .p (.nil)))))))))))))))))))) (.tk 4 .p (.ts 5 (.int .i64) (.tk 6 .p (.tk 7 .p (.tk 8 .p (.sp 16 (.tk 9 .p (.ts 10 .val (.tk 11 .p (.tk 12 .p (.tk 13 .p (.tk 14 .p (.tk 16 .p (.tk 18 .p (.ts 15 .val (.ts 17 .val (.ts 19 .val (.go 20 .p (.tk 21 .p (.tk 22 .p (.nil))))))))))))))) (.tk 9 .p (.ts 10 (.int .i64) (.tk 11 .p (.tk 12 .p (.tk 13 .p (.sp 21 (.tk 14 .p (.tk 16 .p (.tk 18 .p (.ts 15 .val (.ts 17 .val (.ts 19 .val (.go 20 .p (.tk 21 .p (.tk 22 .p (.nil)))))))))) (.tk 14 .p (.tk 16 .p (.tk 18 .p (.ts 15 (.int .i64) (.ts 17 (.int .i64) (.ts 19 (.int .i64) (.go 20 (.cl [.int .i64]) (.tk 21 .p (.tk 22 .p (.nil))))))))))))))))))))))))))) [])) (.cond (.seq (.reg (.op .p (.op .p (.nil)))) (.leaf)) (.leaf))) (.seq (.reg (.op .p (.nil))) (.seq (.reg (.op .p (.op (.ld (.int .i64)) (.op .p (.nil))))) (.seq (.blk (.loop [4, 5, 33, 34, 35, 36, 37, 38] [4, 5] [.int .i64, .int .i64] (.seq (.seq (.reg (.op .p (.op .p (.nil)))) (.cond (.leaf) (.leaf))) (.blk (.seq (.reg (.op .p (.op .p (.op .p (.nil))))) (.reg (.op .p (.op .p (.op .p (.nil)))))))))) (.seq (.blk (.loop [4, 5, 39, 40, 41, 42, 43, 44] [4, 5] [.int .i64, .int .i64] (.seq (.seq (.reg (.op .p (.op .p (.nil)))) (.cond (.leaf) (.leaf))) (.blk (.seq (.reg (.op .p (.op .p (.op .p (.nil))))) (.reg (.op .p (.op .p (.op .p (.nil)))))))))) (.seq (.seq (.reg (.op .p (.nil))) (.blk (.loop [4, 6, 45, 46, 47, 48, 49, 50, 51, 52, 53] [4, 6] [.int .i64, .int .i64] (.seq (.seq (.reg (.op .p (.op .p (.op .p (.nil))))) (.cond (.leaf) (.leaf))) (.seq (.blk (.reg (.op .p (.op .p (.op (.cl [.int .i64]) (.op .p (.op .p (.nil)))))))) (.reg (.op .p (.op .p (.op .p (.nil)))))))))) (.seq (.seq (.reg (.op .p (.nil))) (.blk (.loop [4, 7, 54, 55, 56, 57, 58, 59, 60, 61, 62, 63, 64] [4, 7] [.int .i64, .int .i64] (.seq (.seq (.reg (.op .p (.op .p (.op (.ld (.int .i64)) (.op .p (.nil)))))) (.cond (.leaf) (.leaf))) (.seq (.blk (.reg (.op .p (.op .p (.op .p (.op (.cl [.int .i64]) (.op .p (.op .p (.nil))))))))) (.reg (.op .p (.op .p (.op .p (.nil)))))))))) (.seq (.reg (.op .p (.op .p (.op (.ld (.int .i64)) (.op .p (.op .p (.op .p (.op .p (.nil))))))))) (.leaf))))))))))
    (by kernel_rfl) Try.func77 (by kernel_rfl) (by kernel_rfl) (by kernel_rfl) (by kernel_rfl) h

set_option maxRecDepth 100000 in
theorem amphoraref19_Weekday_vc (a0 : Int) (w : World) (R : Ending → World → Prop) (h :
  ∃ J : Int → World → Prop, (((decide ((Int.tmod a0 (7 : Int)) < (0 : Int))) = true →
      (J (IntKind.wrap .i64 ((Int.tmod a0 (7 : Int)) + (7 : Int))) w)) ∧
    ((decide ((Int.tmod a0 (7 : Int)) < (0 : Int))) = false →
      (J (Int.tmod a0 (7 : Int)) w))) ∧
  (∀ (x3 : Int), ∀ w1 : World, J x3 w1 →
    (∃ J_1 : Int → World → Prop, (((decide ((IntKind.wrap .i64 (x3 + (4 : Int))) > (7 : Int))) = true →
          (J_1 (IntKind.wrap .i64 ((IntKind.wrap .i64 (x3 + (4 : Int))) - (7 : Int))) w1)) ∧
        ((decide ((IntKind.wrap .i64 (x3 + (4 : Int))) > (7 : Int))) = false →
          (J_1 (IntKind.wrap .i64 (x3 + (4 : Int))) w1))) ∧
      (∀ (x3_1 : Int), ∀ w2 : World, J_1 x3_1 w2 →
        (R (.returned (.int .i64 x3_1)) w2))))) : Calls Try.prog 78 #[(.int .i64 a0)] w R :=
  calls_of_ev (args := [(.int .i64 a0)])
    (tc := .seq (.reg (.op .p (.nil))) (.seq (.reg (.op .p (.op .p (.op .p (.nil))))) (.seq (.seq (.reg (.op .p (.op .p (.nil)))) (.join [3, 8, 9] [3] [.int .i64] (.cond (.reg (.op .p (.op .p (.op .p (.nil))))) (.leaf)))) (.seq (.reg (.op .p (.op .p (.op .p (.nil))))) (.seq (.seq (.reg (.op .p (.op .p (.nil)))) (.join [3, 14, 15] [3] [.int .i64] (.cond (.reg (.op .p (.op .p (.op .p (.nil))))) (.leaf)))) (.seq (.reg (.op .p (.op .p (.nil)))) (.leaf)))))))
    (by kernel_rfl) Try.func78 (by kernel_rfl) (by kernel_rfl) (by kernel_rfl) (by kernel_rfl) h

set_option maxRecDepth 100000 in
theorem amphoranum_Ints_vc (a0a : Option Addr) (a0n : Nat) (a0c : Nat) (a1a : Option Addr) (a1n : Nat) (a1c : Nat) (w : World) (R : Ending → World → Prop) (h :
  ((((a0n : Nat) : Int) != ((a1n : Nat) : Int)) = true →
    (R (.returned (.bool false)) w)) ∧
  ((((a0n : Nat) : Int) != ((a1n : Nat) : Int)) = false →
    (∃ (I : Int → World → Prop) (μ : Int → World → Nat), I 0 w ∧
      (∀ (x13 : Int), ∀ w1 : World, I x13 w1 →
        (((decide (x13 < ((a0n : Nat) : Int))) = true →
            (∃ S : World → Prop, S w1.drew ∧
              (∃ (t18b t18o : Nat), a0a = some ⟨t18b, t18o, none⟩ ∧ 0 ≤ x13 ∧ x13 < ((a0n : Nat) : Int) ∧
                (∃ (t22b t22o : Nat), a1a = some ⟨t22b, t22o, none⟩ ∧ 0 ≤ x13 ∧ x13 < ((a1n : Nat) : Int) ∧
                  (∃ (t19 : Int), (∀ w' : World, S w' → (Instr.loadAt 3 (.pointer (some ⟨t18b, t18o + Int.toNat x13 * 1, none⟩))).run Try.prog w' = .ok (.int .i64 t19) w') ∧
                    (∃ (t23 : Int), (∀ w' : World, S w' → (Instr.loadAt 3 (.pointer (some ⟨t22b, t22o + Int.toNat x13 * 1, none⟩))).run Try.prog w' = .ok (.int .i64 t23) w') ∧
                      (((t19 != t23) = true →
                          (R (.returned (.bool false)) w1.drew)) ∧
                        ((t19 != t23) = false →
                          (I (IntKind.wrap .i64 (x13 + (1 : Int))) w1.drew ∧ μ (IntKind.wrap .i64 (x13 + (1 : Int))) w1.drew < μ x13 w1))))))))) ∧
          ((decide (x13 < ((a0n : Nat) : Int))) = false →
            (R (.returned (.bool true)) w1))))))) : Calls Try.prog 15 #[(.slice a0a a0n a0c), (.slice a1a a1n a1c)] w R :=
  calls_of_ev (args := [(.slice a0a a0n a0c), (.slice a1a a1n a1c)])
    (tc := .seq (.reg (.op .p (.nil))) (.seq (.seq (.reg (.op .p (.op .p (.op .p (.op .p (.op .p (.nil))))))) (.cond (.seq (.reg (.op .p (.nil))) (.leaf)) (.leaf))) (.seq (.seq (.reg (.op .p (.op .p (.op .p (.nil))))) (.blk (.loop [4, 5, 13, 14, 15, 16, 17, 18, 19, 20, 21, 22, 23, 24, 25] [13] [.int .i64] (.seq (.reg (.op .p (.nil))) (.seq (.cond (.leaf) (.leaf)) (.seq (.blk (.seq (.reg (.op .p (.op .p (.nil)))) (.seq (.drawS (.tk 0 .p (.tk 1 .p (.tk 2 .ix (.tk 4 .p (.tk 5 .p (.tk 6 .ix (.ts 3 (.int .i64) (.ts 7 (.int .i64) (.tk 8 .p (.nil)))))))))) []) (.cond (.seq (.reg (.op .p (.nil))) (.leaf)) (.leaf))))) (.reg (.op .p (.op .p (.nil)))))))))) (.seq (.reg (.op .p (.nil))) (.leaf)))))
    (by kernel_rfl) Try.func15 (by kernel_rfl) (by kernel_rfl) (by kernel_rfl) (by kernel_rfl) h

set_option maxRecDepth 100000 in
theorem amphoranum_Texts_vc (a0a : Option Addr) (a0n : Nat) (a0c : Nat) (a1a : Option Addr) (a1n : Nat) (a1c : Nat) (w : World) (R : Ending → World → Prop) (h :
  ((((a0n : Nat) : Int) != ((a1n : Nat) : Int)) = true →
    (R (.returned (.bool false)) w)) ∧
  ((((a0n : Nat) : Int) != ((a1n : Nat) : Int)) = false →
    (∃ (I : Int → World → Prop) (μ : Int → World → Nat), I 0 w ∧
      (∀ (x13 : Int), ∀ w1 : World, I x13 w1 →
        (((decide (x13 < ((a0n : Nat) : Int))) = true →
            (∃ S : World → Prop, S w1.drew ∧
              (∃ (t18b t18o : Nat), a0a = some ⟨t18b, t18o, none⟩ ∧ 0 ≤ x13 ∧ x13 < ((a0n : Nat) : Int) ∧
                (∃ (t22b t22o : Nat), a1a = some ⟨t22b, t22o, none⟩ ∧ 0 ≤ x13 ∧ x13 < ((a1n : Nat) : Int) ∧
                  (∃ (t19 : ByteArray), (∀ w' : World, S w' → (Instr.loadAt 9 (.pointer (some ⟨t18b, t18o + Int.toNat x13 * 1, none⟩))).run Try.prog w' = .ok (.string t19) w') ∧
                    (∃ (t23 : ByteArray), (∀ w' : World, S w' → (Instr.loadAt 9 (.pointer (some ⟨t22b, t22o + Int.toNat x13 * 1, none⟩))).run Try.prog w' = .ok (.string t23) w') ∧
                      (((!(t19.toList == t23.toList)) = true →
                          (R (.returned (.bool false)) w1.drew)) ∧
                        ((!(t19.toList == t23.toList)) = false →
                          (I (IntKind.wrap .i64 (x13 + (1 : Int))) w1.drew ∧ μ (IntKind.wrap .i64 (x13 + (1 : Int))) w1.drew < μ x13 w1))))))))) ∧
          ((decide (x13 < ((a0n : Nat) : Int))) = false →
            (R (.returned (.bool true)) w1))))))) : Calls Try.prog 17 #[(.slice a0a a0n a0c), (.slice a1a a1n a1c)] w R :=
  calls_of_ev (args := [(.slice a0a a0n a0c), (.slice a1a a1n a1c)])
    (tc := .seq (.reg (.op .p (.nil))) (.seq (.seq (.reg (.op .p (.op .p (.op .p (.op .p (.op .p (.nil))))))) (.cond (.seq (.reg (.op .p (.nil))) (.leaf)) (.leaf))) (.seq (.seq (.reg (.op .p (.op .p (.op .p (.nil))))) (.blk (.loop [4, 5, 13, 14, 15, 16, 17, 18, 19, 20, 21, 22, 23, 24, 25] [13] [.int .i64] (.seq (.reg (.op .p (.nil))) (.seq (.cond (.leaf) (.leaf)) (.seq (.blk (.seq (.reg (.op .p (.op .p (.nil)))) (.seq (.drawS (.tk 0 .p (.tk 1 .p (.tk 2 .ix (.tk 4 .p (.tk 5 .p (.tk 6 .ix (.ts 3 (.str) (.ts 7 (.str) (.tk 8 .p (.nil)))))))))) []) (.cond (.seq (.reg (.op .p (.nil))) (.leaf)) (.leaf))))) (.reg (.op .p (.op .p (.nil)))))))))) (.seq (.reg (.op .p (.nil))) (.leaf)))))
    (by kernel_rfl) Try.func17 (by kernel_rfl) (by kernel_rfl) (by kernel_rfl) (by kernel_rfl) h

end Go.Proofs.Ytdcgapabphjgbaa
