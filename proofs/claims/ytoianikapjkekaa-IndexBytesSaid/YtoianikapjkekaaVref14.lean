/- Verification conditions of functions, printed by the session's own program vc.py: out of each, Calls (conditions: none). -/
import Derived.Test.YtoianikapjkekaaRows
import Derived.Test.YtoianikapjkekaaSxRun
namespace Go.Proofs.Ytoianikapjkekaa
open Go Go.Proofs.Ytoianikapjkekaa.Sx

set_option maxRecDepth 100000 in
theorem amphoraref14_good_vc (a0 : Array Value) (w : World) (R : Ending → World → Prop) (h :
  ∃ (g1 : Nat) (w1 : World), (Instr.box 52 (.agg a0)).run Try.prog w = .ok (.pointer (some ⟨g1, 0, none⟩)) w1 ∧
  (∃ (t4 : Int), (Instr.loadAt 3 (.pointer (some ⟨g1, 32, none⟩))).run Try.prog w1 = .ok (.int .i64 t4) w1 ∧
    (((decide (t4 ≥ (0 : Int))) = true →
        (∃ (t8 : Int), (Instr.loadAt 3 (.pointer (some ⟨g1, 32, none⟩))).run Try.prog w1 = .ok (.int .i64 t8) w1 ∧
          (((decide (t8 ≤ (1099511627776 : Int))) = true →
              (∃ (t13 : Int), (Instr.loadAt 3 (.pointer (some ⟨g1, 33, none⟩))).run Try.prog w1 = .ok (.int .i64 t13) w1 ∧
                (((decide (t13 ≥ (0 : Int))) = true →
                    (∃ (t18 : Int), (Instr.loadAt 3 (.pointer (some ⟨g1, 34, none⟩))).run Try.prog w1 = .ok (.int .i64 t18) w1 ∧
                      (R (.returned (.bool (decide (t18 ≥ (0 : Int))))) w1))) ∧
                  ((decide (t13 ≥ (0 : Int))) = false →
                    (R (.returned (.bool false)) w1))))) ∧
            ((decide (t8 ≤ (1099511627776 : Int))) = false →
              (R (.returned (.bool false)) w1))))) ∧
      ((decide (t4 ≥ (0 : Int))) = false →
        (R (.returned (.bool false)) w1))))) : Calls Try.prog 40 #[(.agg a0)] w R :=
  calls_of_ev (args := [(.agg a0)])
    (tc := .seq (.reg (.op .bx (.op .p (.nil)))) (.seq (.reg (.op .p (.op (.ld (.int .i64)) (.op .p (.op .p (.sp 6 (.op .p (.op (.ld (.int .i64)) (.op .p (.op .p (.op .p (.sp 11 (.op .p (.op (.ld (.int .i64)) (.op .p (.op .p (.op .p (.sp 16 (.op .p (.op (.ld (.int .i64)) (.op .p (.op .p (.op .p (.nil)))))) (.op .p (.op .p (.op .p (.op .p (.op .p (.nil)))))))))))) (.op .p (.op .p (.op .p (.op .p (.op .p (.op .p (.op .p (.op .p (.op .p (.op .p (.nil))))))))))))))))) (.op .p (.op .p (.op .p (.op .p (.op .p (.op .p (.op .p (.op .p (.op .p (.op .p (.op .p (.op .p (.op .p (.op .p (.op .p (.nil)))))))))))))))))))))) (.leaf)))
    (by kernel_rfl) Try.func40 (by kernel_rfl) (by kernel_rfl) (by kernel_rfl) (by kernel_rfl) h

set_option maxRecDepth 100000 in
theorem amphoraref14_Less_vc (a0 : Array Value) (a1 : Array Value) (w : World) (R : Ending → World → Prop) (h :
  ∃ (g2 : Nat) (w1 : World), (Instr.box 40 (.agg a0)).run Try.prog w = .ok (.pointer (some ⟨g2, 0, none⟩)) w1 ∧
  (∃ (g3 : Nat) (w2 : World), (Instr.box 40 (.agg a1)).run Try.prog w1 = .ok (.pointer (some ⟨g3, 0, none⟩)) w2 ∧
    (∃ (I : Int → World → Prop) (μ : Int → World → Nat), I 0 w2 ∧
      (∀ (x5 : Int), ∀ w3 : World, I x5 w3 →
        (((decide (x5 < (32 : Int))) = true →
            (∃ S : World → Prop, S w3.drew ∧
              (0 ≤ x5 ∧ x5 < (32 : Int) ∧
                (0 ≤ x5 ∧ x5 < (32 : Int) ∧
                  (∃ (t12 : Int), (∀ w' : World, S w' → (Instr.loadAt 5 (.pointer (some ⟨g2, 0 + Int.toNat x5 * 1, none⟩))).run Try.prog w' = .ok (.int .u8 t12) w') ∧
                    (∃ (t15 : Int), (∀ w' : World, S w' → (Instr.loadAt 5 (.pointer (some ⟨g3, 0 + Int.toNat x5 * 1, none⟩))).run Try.prog w' = .ok (.int .u8 t15) w') ∧
                      (((t12 != t15) = true →
                          (∃ S_1 : World → Prop, S_1 w3.drew.drew ∧
                            (0 ≤ x5 ∧ x5 < (32 : Int) ∧
                              (0 ≤ x5 ∧ x5 < (32 : Int) ∧
                                (∃ (t19 : Int), (∀ w' : World, S_1 w' → (Instr.loadAt 5 (.pointer (some ⟨g2, 0 + Int.toNat x5 * 1, none⟩))).run Try.prog w' = .ok (.int .u8 t19) w') ∧
                                  (∃ (t22 : Int), (∀ w' : World, S_1 w' → (Instr.loadAt 5 (.pointer (some ⟨g3, 0 + Int.toNat x5 * 1, none⟩))).run Try.prog w' = .ok (.int .u8 t22) w') ∧
                                    (R (.returned (.bool (decide (t19 < t22)))) w3.drew.drew))))))) ∧
                        ((t12 != t15) = false →
                          (I (IntKind.wrap .i64 (x5 + (1 : Int))) w3.drew ∧ μ (IntKind.wrap .i64 (x5 + (1 : Int))) w3.drew < μ x5 w3))))))))) ∧
          ((decide (x5 < (32 : Int))) = false →
            (R (.returned (.bool false)) w3))))))) : Calls Try.prog 45 #[(.agg a0), (.agg a1)] w R :=
  calls_of_ev (args := [(.agg a0), (.agg a1)])
    (tc := .seq (.reg (.op .bx (.op .bx (.op .p (.nil))))) (.seq (.seq (.reg (.op .p (.nil))) (.blk (.loop [4, 5, 6, 7, 8, 9, 10, 11, 12, 13, 14, 15, 16, 17, 18, 19, 20, 21, 22, 23] [5] [.int .i64] (.seq (.seq (.reg (.op .p (.op .p (.nil)))) (.cond (.leaf) (.leaf))) (.seq (.blk (.seq (.drawS (.tk 0 .p (.tk 1 .ix (.tk 3 .p (.tk 4 .ix (.ts 2 (.int .u8) (.ts 5 (.int .u8) (.tk 6 .p (.nil)))))))) []) (.cond (.seq (.drawS (.tk 0 .p (.tk 1 .ix (.tk 3 .p (.tk 4 .ix (.ts 2 (.int .u8) (.ts 5 (.int .u8) (.tk 6 .p (.tk 7 .p (.nil))))))))) []) (.leaf)) (.leaf)))) (.reg (.op .p (.op .p (.op .p (.nil)))))))))) (.seq (.reg (.op .p (.nil))) (.leaf))))
    (by kernel_rfl) Try.func45 (by kernel_rfl) (by kernel_rfl) (by kernel_rfl) (by kernel_rfl) h

set_option maxRecDepth 100000 in
theorem amphoraref14_Check_vc (a0a : Option Addr) (a0n : Nat) (a0c : Nat) (w : World) (R : Ending → World → Prop) (h :
  ∃ (I : Int → World → Prop) (μ : Int → World → Nat), I 0 w ∧
  (∀ (x3 : Int), ∀ w1 : World, I x3 w1 →
    (((decide (x3 < ((a0n : Nat) : Int))) = true →
        (∃ J : Bool → World → Prop, (∃ S : World → Prop, S w1.drew ∧
            (∃ (t12b t12o : Nat), a0a = some ⟨t12b, t12o, none⟩ ∧ 0 ≤ x3 ∧ x3 < ((a0n : Nat) : Int) ∧
              (∃ (t13 : Array Value), (∀ w' : World, S w' → (Instr.loadAt 52 (.pointer (some ⟨t12b, t12o + Int.toNat x3 * 35, none⟩))).run Try.prog w' = .ok (.agg t13) w') ∧
                (Calls Try.prog 40 #[(.agg t13)] w1.drew fun (e14 : Ending) (w2 : World) => ∃ (t14 : Bool), e14 = .returned (.bool t14) ∧
                  (∃ S_1 : World → Prop, (∀ w' : World, S_1 w' → S w') ∧ S_1 w2 ∧
                    (((!t14) = true →
                        (S_1 w2 ∧
                          (J true w2))) ∧
                      ((!t14) = false →
                        (((decide (x3 > (0 : Int))) = true →
                            (∃ (t23b t23o : Nat), a0a = some ⟨t23b, t23o, none⟩ ∧ 0 ≤ (IntKind.wrap .i64 (x3 - (1 : Int))) ∧ (IntKind.wrap .i64 (x3 - (1 : Int))) < ((a0n : Nat) : Int) ∧
                              (∃ (t28b t28o : Nat), a0a = some ⟨t28b, t28o, none⟩ ∧ 0 ≤ x3 ∧ x3 < ((a0n : Nat) : Int) ∧
                                (∃ (t25 : Array Value), (∀ w' : World, S_1 w' → (Instr.loadAt 40 (.pointer (some ⟨t23b, t23o + Int.toNat (IntKind.wrap .i64 (x3 - (1 : Int))) * 35, none⟩))).run Try.prog w' = .ok (.agg t25) w') ∧
                                  (∃ (t30 : Array Value), (∀ w' : World, S_1 w' → (Instr.loadAt 40 (.pointer (some ⟨t28b, t28o + Int.toNat x3 * 35, none⟩))).run Try.prog w' = .ok (.agg t30) w') ∧
                                    (Calls Try.prog 45 #[(.agg t25), (.agg t30)] w2 fun (e31 : Ending) (w3 : World) => ∃ (t31 : Bool), e31 = .returned (.bool t31) ∧
                                      (∃ S_2 : World → Prop, (∀ w' : World, S_2 w' → S_1 w') ∧ S_2 w3 ∧
                                        (J (!t31) w3)))))))) ∧
                          ((decide (x3 > (0 : Int))) = false →
                            (S_1 w2 ∧
                              (J false w2))))))))))) ∧
          (∀ (x34 : Bool), ∀ w4 : World, J x34 w4 →
            ((x34 = true →
                (R (.returned (.int .i64 28)) w4)) ∧
              (x34 = false →
                (I (IntKind.wrap .i64 (x3 + (1 : Int))) w4 ∧ μ (IntKind.wrap .i64 (x3 + (1 : Int))) w4 < μ x3 w1)))))) ∧
      ((decide (x3 < ((a0n : Nat) : Int))) = false →
        (R (.returned (.int .i64 0)) w1))))) : Calls Try.prog 27 #[(.slice a0a a0n a0c)] w R :=
  calls_of_ev (args := [(.slice a0a a0n a0c)])
    (tc := .seq (.reg (.op .p (.nil))) (.seq (.seq (.reg (.op .p (.nil))) (.blk (.loop [2, 3, 4, 5, 6, 7, 8, 9, 10, 11, 12, 13, 14, 15, 16, 17, 18, 19, 20, 21, 22, 23, 24, 25, 26, 27, 28, 29, 30, 31, 32, 33, 34] [3] [.int .i64] (.seq (.seq (.reg (.op .p (.op .p (.op .p (.op .p (.nil)))))) (.cond (.leaf) (.leaf))) (.seq (.blk (.seq (.join [10, 11, 12, 13, 14, 15, 16, 17, 18, 19, 20, 21, 22, 23, 24, 25, 26, 27, 28, 29, 30, 31, 32, 33, 34] [34] [.bool] (.drawS (.tk 0 .p (.tk 1 .p (.tk 2 .ix (.ts 3 (.agg) (.go 4 (.cl [.bool]) (.tk 5 .p (.tk 6 .p (.sp 16 (.tk 7 .p (.tk 8 .p (.tk 9 .p (.tk 10 .p (.tk 11 .p (.tk 12 .p (.tk 13 .p (.tk 14 .p (.tk 16 .p (.tk 17 .p (.tk 18 .p (.tk 19 .p (.ts 15 .val (.ts 20 .val (.go 21 .p (.tk 22 .p (.tk 23 .p (.tk 24 .p (.nil))))))))))))))))))) (.tk 7 .p (.tk 8 .p (.tk 9 .p (.sp 19 (.tk 10 .p (.tk 11 .p (.tk 12 .p (.tk 13 .ix (.tk 14 .p (.tk 16 .p (.tk 17 .p (.tk 18 .ix (.tk 19 .p (.ts 15 (.agg) (.ts 20 (.agg) (.go 21 (.cl [.bool]) (.tk 22 .p (.tk 23 .p (.tk 24 .p (.nil)))))))))))))))) (.tk 10 .p (.tk 11 .p (.tk 12 .p (.tk 13 .p (.tk 14 .p (.tk 16 .p (.tk 17 .p (.tk 18 .p (.tk 19 .p (.ts 15 .val (.ts 20 .val (.go 21 .p (.tk 22 .p (.tk 23 .p (.tk 24 .p (.nil)))))))))))))))))))))))))))) [])) (.cond (.seq (.reg (.op .p (.nil))) (.leaf)) (.leaf)))) (.reg (.op .p (.op .p (.op .p (.nil)))))))))) (.seq (.reg (.op .p (.nil))) (.leaf))))
    (by kernel_rfl) Try.func27 (by kernel_rfl) (by kernel_rfl) (by kernel_rfl) (by kernel_rfl) h

set_option maxRecDepth 100000 in
theorem amphoraref14_With_vc (a0a : Option Addr) (a0n : Nat) (a0c : Nat) (a1 : Array Value) (w : World) (R : Ending → World → Prop) (h :
  ∃ (g3 : Nat) (w1 : World), (Instr.box 52 (.agg a1)).run Try.prog w = .ok (.pointer (some ⟨g3, 0, none⟩)) w1 ∧
  (∃ (I : Option Addr → Nat → Nat → Bool → Int → World → Prop) (μ : Option Addr → Nat → Nat → Bool → Int → World → Nat), I none 0 0 false 0 w1 ∧
    (∀ (x5a : Option Addr) (x5n : Nat) (x5c : Nat) (x6 : Bool) (x7 : Int), ∀ w2 : World, I x5a x5n x5c x6 x7 w2 →
      (((decide (x7 < ((a0n : Nat) : Int))) = true →
          (∃ J : Bool → World → Prop, (∃ S : World → Prop, S w2.drew ∧
              (((!x6) = true →
                  (∃ (t19b t19o : Nat), a0a = some ⟨t19b, t19o, none⟩ ∧ 0 ≤ x7 ∧ x7 < ((a0n : Nat) : Int) ∧
                    (∃ (t21 : Array Value), (∀ w' : World, S w' → (Instr.loadAt 40 (.pointer (some ⟨t19b, t19o + Int.toNat x7 * 35, none⟩))).run Try.prog w' = .ok (.agg t21) w') ∧
                      (∃ (t23 : Array Value), (∀ w' : World, S w' → (Instr.loadAt 40 (.pointer (some ⟨g3, 0, none⟩))).run Try.prog w' = .ok (.agg t23) w') ∧
                        (Calls Try.prog 45 #[(.agg t21), (.agg t23)] w2.drew fun (e24 : Ending) (w3 : World) => ∃ (t24 : Bool), e24 = .returned (.bool t24) ∧
                          (∃ S_1 : World → Prop, (∀ w' : World, S_1 w' → S w') ∧ S_1 w3 ∧
                            (J (!t24) w3))))))) ∧
                ((!x6) = false →
                  (S w2.drew ∧
                    (J false w2.drew))))) ∧
            (∀ (x26 : Bool), ∀ w4 : World, J x26 w4 →
              (∃ J_1 : Option Addr → Nat → Nat → Bool → World → Prop, ((x26 = true →
                    (∃ (t28 : Array Value), (Instr.loadAt 52 (.pointer (some ⟨g3, 0, none⟩))).run Try.prog w4 = .ok (.agg t28) w4 ∧
                      (∃ (t29a : Option Addr) (t29n : Nat) (t29c : Nat) (w5 : World), (Instr.buildSlice 24 1 #[(0, (.agg t28))]).run Try.prog w4 = .ok (.slice t29a t29n t29c) w5 ∧
                        (∃ (t30a : Option Addr) (t30n : Nat) (t30c : Nat) (w6 : World), (Builtin.append_ #[24, 24] 24 #[(.slice x5a x5n x5c), (.slice t29a t29n t29c)]).run Try.prog w5 = .ok (.slice t30a t30n t30c) w6 ∧
                          (J_1 t30a t30n t30c true w6))))) ∧
                  (x26 = false →
                    (J_1 x5a x5n x5c x6 w4))) ∧
                (∀ (x5a_1 : Option Addr) (x5n_1 : Nat) (x5c_1 : Nat) (x6_1 : Bool), ∀ w7 : World, J_1 x5a_1 x5n_1 x5c_1 x6_1 w7 →
                  (∃ S_1 : World → Prop, S_1 w7.drew ∧
                    (∃ (t33b t33o : Nat), a0a = some ⟨t33b, t33o, none⟩ ∧ 0 ≤ x7 ∧ x7 < ((a0n : Nat) : Int) ∧
                      (∃ (t35 : Array Value), (∀ w' : World, S_1 w' → (Instr.loadAt 40 (.pointer (some ⟨t33b, t33o + Int.toNat x7 * 35, none⟩))).run Try.prog w' = .ok (.agg t35) w') ∧
                        (∃ (t37 : Array Value), (∀ w' : World, S_1 w' → (Instr.loadAt 40 (.pointer (some ⟨g3, 0, none⟩))).run Try.prog w' = .ok (.agg t37) w') ∧
                          (∃ (t38 : Bool), (∀ w' : World, S_1 w' → (eqlS .neq 40 (.tmp 35) (.tmp 37) (.agg t35) (.agg t37)).run Try.prog w' = .ok (.bool t38) w') ∧
                            (∃ J_2 : Option Addr → Nat → Nat → World → Prop, ((t38 = true →
                                  (∃ (t42b t42o : Nat), a0a = some ⟨t42b, t42o, none⟩ ∧ 0 ≤ x7 ∧ x7 < ((a0n : Nat) : Int) ∧
                                    (∃ (t43 : Array Value), (Instr.loadAt 52 (.pointer (some ⟨t42b, t42o + Int.toNat x7 * 35, none⟩))).run Try.prog w7.drew = .ok (.agg t43) w7.drew ∧
                                      (∃ (t44a : Option Addr) (t44n : Nat) (t44c : Nat) (w8 : World), (Instr.buildSlice 24 1 #[(0, (.agg t43))]).run Try.prog w7.drew = .ok (.slice t44a t44n t44c) w8 ∧
                                        (∃ (t45a : Option Addr) (t45n : Nat) (t45c : Nat) (w9 : World), (Builtin.append_ #[24, 24] 24 #[(.slice x5a_1 x5n_1 x5c_1), (.slice t44a t44n t44c)]).run Try.prog w8 = .ok (.slice t45a t45n t45c) w9 ∧
                                          (J_2 t45a t45n t45c w9)))))) ∧
                                (t38 = false →
                                  (J_2 x5a_1 x5n_1 x5c_1 w7.drew))) ∧
                              (∀ (x5a_2 : Option Addr) (x5n_2 : Nat) (x5c_2 : Nat), ∀ w10 : World, J_2 x5a_2 x5n_2 x5c_2 w10 →
                                (I x5a_2 x5n_2 x5c_2 x6_1 (IntKind.wrap .i64 (x7 + (1 : Int))) w10 ∧ μ x5a_2 x5n_2 x5c_2 x6_1 (IntKind.wrap .i64 (x7 + (1 : Int))) w10 < μ x5a x5n x5c x6 x7 w2))))))))))))) ∧
        ((decide (x7 < ((a0n : Nat) : Int))) = false →
          (∃ J : Option Addr → Nat → Nat → World → Prop, (((!x6) = true →
                (∃ (t49 : Array Value), (Instr.loadAt 52 (.pointer (some ⟨g3, 0, none⟩))).run Try.prog w2 = .ok (.agg t49) w2 ∧
                  (∃ (t50a : Option Addr) (t50n : Nat) (t50c : Nat) (w11 : World), (Instr.buildSlice 24 1 #[(0, (.agg t49))]).run Try.prog w2 = .ok (.slice t50a t50n t50c) w11 ∧
                    (∃ (t51a : Option Addr) (t51n : Nat) (t51c : Nat) (w12 : World), (Builtin.append_ #[24, 24] 24 #[(.slice x5a x5n x5c), (.slice t50a t50n t50c)]).run Try.prog w11 = .ok (.slice t51a t51n t51c) w12 ∧
                      (J t51a t51n t51c w12))))) ∧
              ((!x6) = false →
                (J x5a x5n x5c w2))) ∧
            (∀ (x5a_1 : Option Addr) (x5n_1 : Nat) (x5c_1 : Nat), ∀ w13 : World, J x5a_1 x5n_1 x5c_1 w13 →
              (R (.returned (.slice x5a_1 x5n_1 x5c_1)) w13)))))))) : Calls Try.prog 41 #[(.slice a0a a0n a0c), (.agg a1)] w R :=
  calls_of_ev (args := [(.slice a0a a0n a0c), (.agg a1)])
    (tc := .seq (.reg (.op .bx (.op .p (.nil)))) (.seq (.reg (.op .p (.nil))) (.seq (.reg (.op .p (.nil))) (.seq (.seq (.reg (.op .p (.nil))) (.blk (.loop [5, 6, 7, 8, 9, 10, 11, 12, 13, 14, 15, 16, 17, 18, 19, 20, 21, 22, 23, 24, 25, 26, 27, 28, 29, 30, 31, 32, 33, 34, 35, 36, 37, 38, 39, 40, 41, 42, 43, 44, 45] [5, 6, 7] [.slice, .bool, .int .i64] (.seq (.seq (.reg (.op .p (.op .p (.op .p (.op .p (.nil)))))) (.cond (.leaf) (.leaf))) (.seq (.blk (.seq (.seq (.join [14, 15, 16, 17, 18, 19, 20, 21, 22, 23, 24, 25, 26] [26] [.bool] (.drawS (.tk 0 .p (.tk 1 .p (.tk 2 .p (.sp 16 (.tk 3 .p (.tk 4 .p (.tk 5 .ix (.tk 6 .p (.tk 8 .p (.ts 7 (.agg) (.ts 9 (.agg) (.go 10 (.cl [.bool]) (.tk 11 .p (.tk 12 .p (.nil))))))))))) (.tk 3 .p (.tk 4 .p (.tk 5 .p (.tk 6 .p (.tk 8 .p (.ts 7 .val (.ts 9 .val (.go 10 .p (.tk 11 .p (.tk 12 .p (.nil))))))))))))))) [])) (.join [5, 6, 27, 28, 29, 30] [5, 6] [.slice, .bool] (.cond (.seq (.reg (.op .p (.op (.ld (.agg)) (.op (.r (.slice)) (.op (.r (.slice)) (.op .p (.nil))))))) (.reg (.op .p (.nil)))) (.leaf)))) (.seq (.drawS (.tk 0 .p (.tk 1 .p (.tk 2 .ix (.tk 3 .p (.tk 5 .p (.ts 4 (.agg) (.ts 6 (.agg) (.ts 7 (.bool) (.nil))))))))) []) (.join [5, 39, 40, 41, 42, 43, 44, 45] [5] [.slice] (.cond (.reg (.op .p (.op .p (.op .p (.op .ix (.op (.ld (.agg)) (.op (.r (.slice)) (.op (.r (.slice)) (.op .p (.nil)))))))))) (.leaf)))))) (.reg (.op .p (.op .p (.op .p (.nil)))))))))) (.seq (.seq (.reg (.op .p (.op .p (.nil)))) (.join [5, 48, 49, 50, 51] [5] [.slice] (.cond (.reg (.op .p (.op (.ld (.agg)) (.op (.r (.slice)) (.op (.r (.slice)) (.op .p (.nil))))))) (.leaf)))) (.seq (.reg (.op .p (.op .p (.nil)))) (.leaf)))))))
    (by kernel_rfl) Try.func41 (by kernel_rfl) (by kernel_rfl) (by kernel_rfl) (by kernel_rfl) h

set_option maxRecDepth 100000 in
theorem amphoraref14_Add_vc (a0a : Option Addr) (a0n : Nat) (a0c : Nat) (a1a : Option Addr) (a1n : Nat) (a1c : Nat) (w : World) (R : Ending → World → Prop) (h :
  ∃ (I : Int → World → Prop) (μ : Int → World → Nat), I 0 w ∧
  (∀ (x6 : Int), ∀ w1 : World, I x6 w1 →
    (((decide (x6 < ((a1n : Nat) : Int))) = true →
        (∃ (t16b t16o : Nat), a1a = some ⟨t16b, t16o, none⟩ ∧ 0 ≤ x6 ∧ x6 < ((a1n : Nat) : Int) ∧
          (∃ (t17 : Array Value), (Instr.loadAt 52 (.pointer (some ⟨t16b, t16o + Int.toNat x6 * 35, none⟩))).run Try.prog w1 = .ok (.agg t17) w1 ∧
            (Calls Try.prog 40 #[(.agg t17)] w1 fun (e18 : Ending) (w2 : World) => ∃ (t18 : Bool), e18 = .returned (.bool t18) ∧
              (((!t18) = true →
                  (R (.returned (.tuple #[(.slice none 0 0), (.int .i64 28)])) w2)) ∧
                ((!t18) = false →
                  (I (IntKind.wrap .i64 (x6 + (1 : Int))) w2 ∧ μ (IntKind.wrap .i64 (x6 + (1 : Int))) w2 < μ x6 w1))))))) ∧
      ((decide (x6 < ((a1n : Nat) : Int))) = false →
        (∃ (I_1 : Option Addr → Nat → Nat → Int → World → Prop) (μ_1 : Option Addr → Nat → Nat → Int → World → Nat), I_1 a0a a0n a0c 0 w1 ∧
          (∀ (x0a : Option Addr) (x0n : Nat) (x0c : Nat) (x7 : Int), ∀ w3 : World, I_1 x0a x0n x0c x7 w3 →
            (((decide (x7 < ((a1n : Nat) : Int))) = true →
                (∃ (t29b t29o : Nat), a1a = some ⟨t29b, t29o, none⟩ ∧ 0 ≤ x7 ∧ x7 < ((a1n : Nat) : Int) ∧
                  (∃ (t30 : Array Value), (Instr.loadAt 52 (.pointer (some ⟨t29b, t29o + Int.toNat x7 * 35, none⟩))).run Try.prog w3 = .ok (.agg t30) w3 ∧
                    (Calls Try.prog 41 #[(.slice x0a x0n x0c), (.agg t30)] w3 fun (e31 : Ending) (w4 : World) => ∃ (t31a : Option Addr) (t31n : Nat) (t31c : Nat), e31 = .returned (.slice t31a t31n t31c) ∧
                      (I_1 t31a t31n t31c (IntKind.wrap .i64 (x7 + (1 : Int))) w4 ∧ μ_1 t31a t31n t31c (IntKind.wrap .i64 (x7 + (1 : Int))) w4 < μ_1 x0a x0n x0c x7 w3))))) ∧
              ((decide (x7 < ((a1n : Nat) : Int))) = false →
                (R (.returned (.tuple #[(.slice x0a x0n x0c), (.int .i64 0)])) w3))))))))) : Calls Try.prog 20 #[(.slice a0a a0n a0c), (.slice a1a a1n a1c)] w R :=
  calls_of_ev (args := [(.slice a0a a0n a0c), (.slice a1a a1n a1c)])
    (tc := .seq (.reg (.op .p (.op .p (.nil)))) (.seq (.seq (.reg (.op .p (.nil))) (.blk (.loop [4, 5, 6, 8, 9, 10, 11, 12, 13, 14, 15, 16, 17, 18, 19] [6] [.int .i64] (.seq (.seq (.reg (.op .p (.op .p (.op .p (.op .p (.nil)))))) (.cond (.leaf) (.leaf))) (.seq (.blk (.seq (.reg (.op .p (.op .p (.op .ix (.op (.ld (.agg)) (.op (.cl [.bool]) (.op .p (.nil)))))))) (.cond (.seq (.reg (.op .p (.op .p (.nil)))) (.leaf)) (.leaf)))) (.reg (.op .p (.op .p (.op .p (.nil)))))))))) (.seq (.seq (.reg (.op .p (.nil))) (.blk (.loop [0, 7, 20, 21, 22, 23, 24, 25, 26, 27, 28, 29, 30, 31] [0, 7] [.slice, .int .i64] (.seq (.seq (.reg (.op .p (.op .p (.op .p (.op .p (.nil)))))) (.cond (.leaf) (.leaf))) (.seq (.blk (.reg (.op .p (.op .p (.op .p (.op .ix (.op (.ld (.agg)) (.op (.cl [.slice]) (.op .p (.nil)))))))))) (.reg (.op .p (.op .p (.op .p (.nil)))))))))) (.seq (.reg (.op .p (.op .p (.op .p (.nil))))) (.leaf)))))
    (by kernel_rfl) Try.func20 (by kernel_rfl) (by kernel_rfl) (by kernel_rfl) (by kernel_rfl) h

set_option maxRecDepth 100000 in
theorem amphoraref14_Merge_vc (a0a : Option Addr) (a0n : Nat) (a0c : Nat) (w : World) (R : Ending → World → Prop) (h :
  ∃ (I : Option Addr → Nat → Nat → Int → World → Prop) (μ : Option Addr → Nat → Nat → Int → World → Nat), I none 0 0 0 w ∧
  (∀ (x4a : Option Addr) (x4n : Nat) (x4c : Nat) (x5 : Int), ∀ w1 : World, I x4a x4n x4c x5 w1 →
    (((decide (x5 < ((a0n : Nat) : Int))) = true →
        (∃ (t14b t14o : Nat), a0a = some ⟨t14b, t14o, none⟩ ∧ 0 ≤ x5 ∧ x5 < ((a0n : Nat) : Int) ∧
          (∃ (t15a : Option Addr) (t15n : Nat) (t15c : Nat), (Instr.loadAt 24 (.pointer (some ⟨t14b, t14o + Int.toNat x5 * 1, none⟩))).run Try.prog w1 = .ok (.slice t15a t15n t15c) w1 ∧
            (Calls Try.prog 27 #[(.slice t15a t15n t15c)] w1 fun (e16 : Ending) (w2 : World) => ∃ (t16 : Int), e16 = .returned (.int .i64 t16) ∧
              (((t16 != (0 : Int)) = true →
                  (R (.returned (.tuple #[(.slice none 0 0), (.int .i64 28)])) w2)) ∧
                ((t16 != (0 : Int)) = false →
                  (∃ (t22b t22o : Nat), a0a = some ⟨t22b, t22o, none⟩ ∧ 0 ≤ x5 ∧ x5 < ((a0n : Nat) : Int) ∧
                    (∃ (t23a : Option Addr) (t23n : Nat) (t23c : Nat), (Instr.loadAt 24 (.pointer (some ⟨t22b, t22o + Int.toNat x5 * 1, none⟩))).run Try.prog w2 = .ok (.slice t23a t23n t23c) w2 ∧
                      (Calls Try.prog 20 #[(.slice x4a x4n x4c), (.slice t23a t23n t23c)] w2 fun (e24 : Ending) (w3 : World) => ∃ (t24_0a : Option Addr) (t24_0n : Nat) (t24_0c : Nat) (t24_1 : Int), e24 = .returned (.tuple #[(.slice t24_0a t24_0n t24_0c), (.int .i64 t24_1)]) ∧
                        (I t24_0a t24_0n t24_0c (IntKind.wrap .i64 (x5 + (1 : Int))) w3 ∧ μ t24_0a t24_0n t24_0c (IntKind.wrap .i64 (x5 + (1 : Int))) w3 < μ x4a x4n x4c x5 w1)))))))))) ∧
      ((decide (x5 < ((a0n : Nat) : Int))) = false →
        (R (.returned (.tuple #[(.slice x4a x4n x4c), (.int .i64 0)])) w1))))) : Calls Try.prog 12 #[(.slice a0a a0n a0c)] w R :=
  calls_of_ev (args := [(.slice a0a a0n a0c)])
    (tc := .seq (.reg (.op .p (.op .p (.nil)))) (.seq (.reg (.op .p (.nil))) (.seq (.seq (.reg (.op .p (.nil))) (.blk (.loop [2, 3, 4, 5, 6, 7, 8, 9, 10, 11, 12, 13, 14, 15, 16, 17, 18, 19, 20, 21, 22, 23, 24, 25, 26] [4, 5] [.slice, .int .i64] (.seq (.seq (.reg (.op .p (.op .p (.op .p (.op .p (.nil)))))) (.cond (.leaf) (.leaf))) (.seq (.blk (.seq (.seq (.reg (.op .p (.op .p (.op .ix (.op (.ld (.slice)) (.op (.cl [.int .i64]) (.op .p (.nil)))))))) (.cond (.seq (.reg (.op .p (.op .p (.nil)))) (.leaf)) (.leaf))) (.reg (.op .p (.op .p (.op .p (.op .ix (.op (.ld (.slice)) (.op (.cl [.slice, .int .i64]) (.op .p (.op .p (.op .p (.op .p (.nil)))))))))))))) (.reg (.op .p (.op .p (.op .p (.nil)))))))))) (.seq (.reg (.op .p (.op .p (.op .p (.nil))))) (.leaf)))))
    (by kernel_rfl) Try.func12 (by kernel_rfl) (by kernel_rfl) (by kernel_rfl) (by kernel_rfl) h

set_option maxRecDepth 100000 in
theorem amphoraref14_Find_vc (a0a : Option Addr) (a0n : Nat) (a0c : Nat) (a1 : Array Value) (w : World) (R : Ending → World → Prop) (h :
  ∃ (g3 : Nat) (w1 : World), (Instr.box 40 (.agg a1)).run Try.prog w = .ok (.pointer (some ⟨g3, 0, none⟩)) w1 ∧
  (∃ (g4 : Nat) (w2 : World), (Instr.alloc 52 true (.tuple #[])).run Try.prog w1 = .ok (.pointer (some ⟨g4, 0, none⟩)) w2 ∧
    (∃ (I : Int → World → Prop) (μ : Int → World → Nat), I 0 w2 ∧
      (∀ (x6 : Int), ∀ w3 : World, I x6 w3 →
        (((decide (x6 < ((a0n : Nat) : Int))) = true →
            (∃ S : World → Prop, S w3.drew ∧
              (∃ (t15b t15o : Nat), a0a = some ⟨t15b, t15o, none⟩ ∧ 0 ≤ x6 ∧ x6 < ((a0n : Nat) : Int) ∧
                (∃ (t17 : Array Value), (∀ w' : World, S w' → (Instr.loadAt 40 (.pointer (some ⟨t15b, t15o + Int.toNat x6 * 35, none⟩))).run Try.prog w' = .ok (.agg t17) w') ∧
                  (∃ (t18 : Array Value), (∀ w' : World, S w' → (Instr.loadAt 40 (.pointer (some ⟨g3, 0, none⟩))).run Try.prog w' = .ok (.agg t18) w') ∧
                    (∃ (t19 : Bool), (∀ w' : World, S w' → (eqlS .eql 40 (.tmp 17) (.tmp 18) (.agg t17) (.agg t18)).run Try.prog w' = .ok (.bool t19) w') ∧
                      ((t19 = true →
                          (∃ (t22b t22o : Nat), a0a = some ⟨t22b, t22o, none⟩ ∧ 0 ≤ x6 ∧ x6 < ((a0n : Nat) : Int) ∧
                            (∃ (t23 : Array Value), (Instr.loadAt 52 (.pointer (some ⟨t22b, t22o + Int.toNat x6 * 35, none⟩))).run Try.prog w3.drew = .ok (.agg t23) w3.drew ∧
                              (∃ w4 : World, (Instr.storeAt 52 (.pointer (some ⟨g4, 0, none⟩)) (.agg t23)).run Try.prog w3.drew = .ok () w4 ∧
                                (∃ r4 : Value, (loadVar 52 ⟨g4, 0, none⟩).run Try.prog w4 = .ok r4 w4 ∧
                                  (R (.returned (.tuple #[r4, (.bool true)])) w4)))))) ∧
                        (t19 = false →
                          (I (IntKind.wrap .i64 (x6 + (1 : Int))) w3.drew ∧ μ (IntKind.wrap .i64 (x6 + (1 : Int))) w3.drew < μ x6 w3))))))))) ∧
          ((decide (x6 < ((a0n : Nat) : Int))) = false →
            (∃ (t24 : Array Value), (Instr.build 52 #[]).run Try.prog w3 = .ok (.agg t24) w3 ∧
              (∃ w5 : World, (Instr.storeAt 52 (.pointer (some ⟨g4, 0, none⟩)) (.agg t24)).run Try.prog w3 = .ok () w5 ∧
                (∃ r4 : Value, (loadVar 52 ⟨g4, 0, none⟩).run Try.prog w5 = .ok r4 w5 ∧
                  (R (.returned (.tuple #[r4, (.bool false)])) w5)))))))))) : Calls Try.prog 25 #[(.slice a0a a0n a0c), (.agg a1)] w R :=
  calls_of_ev (args := [(.slice a0a a0n a0c), (.agg a1)])
    (tc := .seq (.reg (.op .bx (.op .bx (.op .p (.nil))))) (.seq (.seq (.reg (.op .p (.nil))) (.blk (.loop [5, 6, 7, 8, 9, 10, 11, 12, 13, 14, 15, 16, 17, 18, 19, 20, 21, 22, 23] [6] [.int .i64] (.seq (.seq (.reg (.op .p (.op .p (.op .p (.op .p (.nil)))))) (.cond (.leaf) (.leaf))) (.seq (.blk (.seq (.drawS (.tk 0 .p (.tk 1 .p (.tk 2 .ix (.tk 3 .p (.ts 4 (.agg) (.ts 5 (.agg) (.ts 6 (.bool) (.nil)))))))) []) (.cond (.seq (.reg (.op .p (.op .p (.op .ix (.op (.ld (.agg)) (.op .u (.op .p (.nil)))))))) (.leaf)) (.leaf)))) (.reg (.op .p (.op .p (.op .p (.nil)))))))))) (.seq (.reg (.op (.ld (.agg)) (.op .u (.op .p (.nil))))) (.leaf))))
    (by kernel_rfl) Try.func25 (by kernel_rfl) (by kernel_rfl) (by kernel_rfl) (by kernel_rfl) h

set_option maxRecDepth 100000 in
theorem amphoraref14_Without_vc (a0a : Option Addr) (a0n : Nat) (a0c : Nat) (a1a : Option Addr) (a1n : Nat) (a1c : Nat) (w : World) (R : Ending → World → Prop) (h :
  ∃ (I : Option Addr → Nat → Nat → Int → World → Prop) (μ : Option Addr → Nat → Nat → Int → World → Nat), I none 0 0 0 w ∧
  (∀ (x5a : Option Addr) (x5n : Nat) (x5c : Nat) (x6 : Int), ∀ w1 : World, I x5a x5n x5c x6 w1 →
    (((decide (x6 < ((a0n : Nat) : Int))) = true →
        (∃ (I_1 : Bool → Int → World → Prop) (μ_1 : Bool → Int → World → Nat), I_1 false 0 w1 ∧
          (∀ (x7 : Bool) (x8 : Int), ∀ w2 : World, I_1 x7 x8 w2 →
            (((decide (x8 < ((a1n : Nat) : Int))) = true →
                (∃ J : Bool → World → Prop, (∃ S : World → Prop, S w2.drew ∧
                    ((x7 = true →
                        (J true w2.drew)) ∧
                      (x7 = false →
                        (∃ (t25b t25o : Nat), a1a = some ⟨t25b, t25o, none⟩ ∧ 0 ≤ x8 ∧ x8 < ((a1n : Nat) : Int) ∧
                          (∃ (t29b t29o : Nat), a0a = some ⟨t29b, t29o, none⟩ ∧ 0 ≤ x6 ∧ x6 < ((a0n : Nat) : Int) ∧
                            (∃ (t26 : Int), (∀ w' : World, S w' → (Instr.loadAt 3 (.pointer (some ⟨t25b, t25o + Int.toNat x8 * 1, none⟩))).run Try.prog w' = .ok (.int .i64 t26) w') ∧
                              (∃ (t31 : Int), (∀ w' : World, S w' → (Instr.loadAt 3 (.pointer (some ⟨t29b, t29o + Int.toNat x6 * 35 + 32, none⟩))).run Try.prog w' = .ok (.int .i64 t31) w') ∧
                                (J (t26 == t31) w2.drew)))))))) ∧
                  (∀ (x7_1 : Bool), ∀ w3 : World, J x7_1 w3 →
                    (I_1 x7_1 (IntKind.wrap .i64 (x8 + (1 : Int))) w3 ∧ μ_1 x7_1 (IntKind.wrap .i64 (x8 + (1 : Int))) w3 < μ_1 x7 x8 w2)))) ∧
              ((decide (x8 < ((a1n : Nat) : Int))) = false →
                (∃ J : Option Addr → Nat → Nat → World → Prop, (((!x7) = true →
                      (∃ (t39b t39o : Nat), a0a = some ⟨t39b, t39o, none⟩ ∧ 0 ≤ x6 ∧ x6 < ((a0n : Nat) : Int) ∧
                        (∃ (t40 : Array Value), (Instr.loadAt 52 (.pointer (some ⟨t39b, t39o + Int.toNat x6 * 35, none⟩))).run Try.prog w2 = .ok (.agg t40) w2 ∧
                          (∃ (t41a : Option Addr) (t41n : Nat) (t41c : Nat) (w4 : World), (Instr.buildSlice 24 1 #[(0, (.agg t40))]).run Try.prog w2 = .ok (.slice t41a t41n t41c) w4 ∧
                            (∃ (t42a : Option Addr) (t42n : Nat) (t42c : Nat) (w5 : World), (Builtin.append_ #[24, 24] 24 #[(.slice x5a x5n x5c), (.slice t41a t41n t41c)]).run Try.prog w4 = .ok (.slice t42a t42n t42c) w5 ∧
                              (J t42a t42n t42c w5)))))) ∧
                    ((!x7) = false →
                      (J x5a x5n x5c w2))) ∧
                  (∀ (x5a_1 : Option Addr) (x5n_1 : Nat) (x5c_1 : Nat), ∀ w6 : World, J x5a_1 x5n_1 x5c_1 w6 →
                    (I x5a_1 x5n_1 x5c_1 (IntKind.wrap .i64 (x6 + (1 : Int))) w6 ∧ μ x5a_1 x5n_1 x5c_1 (IntKind.wrap .i64 (x6 + (1 : Int))) w6 < μ x5a x5n x5c x6 w1)))))))) ∧
      ((decide (x6 < ((a0n : Nat) : Int))) = false →
        (R (.returned (.slice x5a x5n x5c)) w1))))) : Calls Try.prog 22 #[(.slice a0a a0n a0c), (.slice a1a a1n a1c)] w R :=
  calls_of_ev (args := [(.slice a0a a0n a0c), (.slice a1a a1n a1c)])
    (tc := .seq (.reg (.op .p (.nil))) (.seq (.reg (.op .p (.nil))) (.seq (.seq (.reg (.op .p (.nil))) (.blk (.loop [5, 6, 7, 8, 9, 10, 11, 12, 13, 14, 15, 16, 17, 18, 19, 20, 21, 22, 23, 24, 25, 26, 27, 28, 29, 30, 31, 32, 33, 34, 35, 36, 37, 38, 39, 40, 41, 42] [5, 6] [.slice, .int .i64] (.seq (.seq (.reg (.op .p (.op .p (.op .p (.op .p (.nil)))))) (.cond (.leaf) (.leaf))) (.seq (.blk (.seq (.reg (.op .p (.nil))) (.seq (.seq (.reg (.op .p (.nil))) (.blk (.loop [7, 8, 15, 16, 17, 18, 19, 20, 21, 22, 23, 24, 25, 26, 27, 28, 29, 30, 31, 32, 33] [7, 8] [.bool, .int .i64] (.seq (.seq (.reg (.op .p (.op .p (.op .p (.op .p (.nil)))))) (.cond (.leaf) (.leaf))) (.seq (.blk (.join [7, 21, 22, 23, 24, 25, 26, 27, 28, 29, 30, 31, 32, 33] [7] [.bool] (.drawS (.tk 0 .p (.tk 1 .p (.sp 22 (.tk 2 .p (.tk 3 .p (.tk 4 .p (.tk 6 .p (.tk 7 .p (.tk 8 .p (.tk 9 .p (.ts 5 .val (.ts 10 .val (.tk 11 .p (.tk 12 .p (.tk 13 .p (.nil))))))))))))) (.tk 2 .p (.tk 3 .p (.tk 4 .ix (.tk 6 .p (.tk 7 .p (.tk 8 .ix (.tk 9 .p (.ts 5 (.int .i64) (.ts 10 (.int .i64) (.tk 11 .p (.tk 12 .p (.tk 13 .p (.nil)))))))))))))))) []))) (.reg (.op .p (.op .p (.op .p (.nil)))))))))) (.seq (.reg (.op .p (.op .p (.nil)))) (.join [5, 36, 37, 38, 39, 40, 41, 42] [5] [.slice] (.cond (.reg (.op .p (.op .p (.op .p (.op .ix (.op (.ld (.agg)) (.op (.r (.slice)) (.op (.r (.slice)) (.op .p (.nil)))))))))) (.leaf))))))) (.reg (.op .p (.op .p (.op .p (.nil)))))))))) (.seq (.reg (.op .p (.op .p (.nil)))) (.leaf)))))
    (by kernel_rfl) Try.func22 (by kernel_rfl) (by kernel_rfl) (by kernel_rfl) (by kernel_rfl) h

set_option maxRecDepth 100000 in
theorem amphoraref14_Encode_vc (a0a : Option Addr) (a0n : Nat) (a0c : Nat) (w : World) (R : Ending → World → Prop) (h :
  Calls Try.prog 27 #[(.slice a0a a0n a0c)] w fun (e8 : Ending) (w1 : World) => ∃ (t8 : Int), e8 = .returned (.int .i64 t8) ∧
  (((t8 != (0 : Int)) = true →
      (R (.returned (.tuple #[(.slice none 0 0), (.int .i64 t8)])) w1)) ∧
    ((t8 != (0 : Int)) = false →
      (∃ (I : Option Addr → Nat → Nat → Int → World → Prop) (μ : Option Addr → Nat → Nat → Int → World → Nat), I none 0 0 0 w1 ∧
        (∀ (x5a : Option Addr) (x5n : Nat) (x5c : Nat) (x6 : Int), ∀ w2 : World, I x5a x5n x5c x6 w2 →
          (((decide (x6 < ((a0n : Nat) : Int))) = true →
              (∃ (t21b t21o : Nat), a0a = some ⟨t21b, t21o, none⟩ ∧ 0 ≤ x6 ∧ x6 < ((a0n : Nat) : Int) ∧
                (0 ≤ ((32 : Nat) : Int) ∧ ((32 : Nat) : Int) ≤ ((32 : Nat) : Int) ∧
                  (∃ (t24a : Option Addr) (t24n : Nat) (t24c : Nat) (w3 : World), (Builtin.append_ #[63, 63] 63 #[(.slice x5a x5n x5c), (.slice (some ⟨t21b, t21o + Int.toNat x6 * 35, none⟩) (32) 32)]).run Try.prog w2 = .ok (.slice t24a t24n t24c) w3 ∧
                    (∃ (t28b t28o : Nat), a0a = some ⟨t28b, t28o, none⟩ ∧ 0 ≤ x6 ∧ x6 < ((a0n : Nat) : Int) ∧
                      (∃ (t30 : Int), (Instr.loadAt 3 (.pointer (some ⟨t28b, t28o + Int.toNat x6 * 35 + 32, none⟩))).run Try.prog w3 = .ok (.int .i64 t30) w3 ∧
                        (Calls Try.prog 48 #[(.int .i64 t30)] w3 fun (e31 : Ending) (w4 : World) => ∃ (t31a : Option Addr) (t31n : Nat) (t31c : Nat), e31 = .returned (.slice t31a t31n t31c) ∧
                          (∃ (t32a : Option Addr) (t32n : Nat) (t32c : Nat) (w5 : World), (Builtin.append_ #[63, 63] 63 #[(.slice t24a t24n t24c), (.slice t31a t31n t31c)]).run Try.prog w4 = .ok (.slice t32a t32n t32c) w5 ∧
                            (∃ (t36b t36o : Nat), a0a = some ⟨t36b, t36o, none⟩ ∧ 0 ≤ x6 ∧ x6 < ((a0n : Nat) : Int) ∧
                              (∃ (t38 : Int), (Instr.loadAt 3 (.pointer (some ⟨t36b, t36o + Int.toNat x6 * 35 + 33, none⟩))).run Try.prog w5 = .ok (.int .i64 t38) w5 ∧
                                (Calls Try.prog 48 #[(.int .i64 t38)] w5 fun (e39 : Ending) (w6 : World) => ∃ (t39a : Option Addr) (t39n : Nat) (t39c : Nat), e39 = .returned (.slice t39a t39n t39c) ∧
                                  (∃ (t40a : Option Addr) (t40n : Nat) (t40c : Nat) (w7 : World), (Builtin.append_ #[63, 63] 63 #[(.slice t32a t32n t32c), (.slice t39a t39n t39c)]).run Try.prog w6 = .ok (.slice t40a t40n t40c) w7 ∧
                                    (∃ (t44b t44o : Nat), a0a = some ⟨t44b, t44o, none⟩ ∧ 0 ≤ x6 ∧ x6 < ((a0n : Nat) : Int) ∧
                                      (∃ (t46 : Int), (Instr.loadAt 3 (.pointer (some ⟨t44b, t44o + Int.toNat x6 * 35 + 34, none⟩))).run Try.prog w7 = .ok (.int .i64 t46) w7 ∧
                                        (Calls Try.prog 48 #[(.int .i64 t46)] w7 fun (e47 : Ending) (w8 : World) => ∃ (t47a : Option Addr) (t47n : Nat) (t47c : Nat), e47 = .returned (.slice t47a t47n t47c) ∧
                                          (∃ (t48a : Option Addr) (t48n : Nat) (t48c : Nat) (w9 : World), (Builtin.append_ #[63, 63] 63 #[(.slice t40a t40n t40c), (.slice t47a t47n t47c)]).run Try.prog w8 = .ok (.slice t48a t48n t48c) w9 ∧
                                            (I t48a t48n t48c (IntKind.wrap .i64 (x6 + (1 : Int))) w9 ∧ μ t48a t48n t48c (IntKind.wrap .i64 (x6 + (1 : Int))) w9 < μ x5a x5n x5c x6 w2))))))))))))))))) ∧
            ((decide (x6 < ((a0n : Nat) : Int))) = false →
              (R (.returned (.tuple #[(.slice x5a x5n x5c), (.int .i64 0)])) w2)))))))) : Calls Try.prog 31 #[(.slice a0a a0n a0c)] w R :=
  calls_of_ev (args := [(.slice a0a a0n a0c)])
    (tc := .seq (.reg (.op .p (.op .p (.nil)))) (.seq (.reg (.op .p (.op (.cl [.int .i64]) (.op .p (.nil))))) (.seq (.seq (.reg (.op .p (.op .p (.nil)))) (.cond (.seq (.reg (.op .p (.op .p (.op .p (.nil))))) (.leaf)) (.leaf))) (.seq (.reg (.op .p (.nil))) (.seq (.seq (.reg (.op .p (.nil))) (.blk (.loop [5, 6, 12, 13, 14, 15, 16, 17, 18, 19, 20, 21, 22, 23, 24, 25, 26, 27, 28, 29, 30, 31, 32, 33, 34, 35, 36, 37, 38, 39, 40, 41, 42, 43, 44, 45, 46, 47, 48] [5, 6] [.slice, .int .i64] (.seq (.seq (.reg (.op .p (.op .p (.op .p (.op .p (.nil)))))) (.cond (.leaf) (.leaf))) (.seq (.blk (.seq (.reg (.op .p (.op .p (.op .p (.op .ix (.op .p (.op .sl (.op (.r (.slice)) (.op .p (.nil)))))))))) (.seq (.reg (.op .p (.op .p (.op .p (.op .ix (.op .p (.op (.ld (.int .i64)) (.op (.cl [.slice]) (.op (.r (.slice)) (.op .p (.nil))))))))))) (.seq (.reg (.op .p (.op .p (.op .p (.op .ix (.op .p (.op (.ld (.int .i64)) (.op (.cl [.slice]) (.op (.r (.slice)) (.op .p (.nil))))))))))) (.reg (.op .p (.op .p (.op .p (.op .ix (.op .p (.op (.ld (.int .i64)) (.op (.cl [.slice]) (.op (.r (.slice)) (.op .p (.nil))))))))))))))) (.reg (.op .p (.op .p (.op .p (.nil)))))))))) (.seq (.reg (.op .p (.op .p (.op .p (.nil))))) (.leaf)))))))
    (by kernel_rfl) Try.func31 (by kernel_rfl) (by kernel_rfl) (by kernel_rfl) (by kernel_rfl) h

set_option maxRecDepth 100000 in
theorem amphoraref14_Decode_vc (a0a : Option Addr) (a0n : Nat) (a0c : Nat) (w : World) (R : Ending → World → Prop) (h :
  ∃ (t9a : Option Addr) (t9n : Nat) (t9c : Nat) (w1 : World), (Instr.buildSlice 63 0 #[]).run Try.prog w = .ok (.slice t9a t9n t9c) w1 ∧
  (∃ (t11a : Option Addr) (t11n : Nat) (t11c : Nat) (w2 : World), (Builtin.append_ #[63, 63] 63 #[(.slice t9a t9n t9c), (.slice a0a a0n a0c)]).run Try.prog w1 = .ok (.slice t11a t11n t11c) w2 ∧
    (∃ (t12 : Array Value), (Instr.build 93 #[(0, (.slice t11a t11n t11c))]).run Try.prog w2 = .ok (.agg t12) w2 ∧
      (∃ (g13 : Nat) (w3 : World), (Instr.box 93 (.agg t12)).run Try.prog w2 = .ok (.pointer (some ⟨g13, 0, none⟩)) w3 ∧
        (∃ (I : Option Addr → Nat → Nat → World → Prop) (μ : Option Addr → Nat → Nat → World → Nat), I none 0 0 w3 ∧
          (∀ (x4a : Option Addr) (x4n : Nat) (x4c : Nat), ∀ w4 : World, I x4a x4n x4c w4 →
            (∃ (t17a : Option Addr) (t17n : Nat) (t17c : Nat), (Instr.loadAt 63 (.pointer (some ⟨g13, 0, none⟩))).run Try.prog w4 = .ok (.slice t17a t17n t17c) w4 ∧
              (((decide (((t17n : Nat) : Int) > (0 : Int))) = true →
                  (∃ (t20 : Array Value), (Instr.build 52 #[]).run Try.prog w4 = .ok (.agg t20) w4 ∧
                    (∃ (g6 : Nat) (w5 : World), (Instr.alloc 52 true (.tuple #[])).run Try.prog w4 = .ok (.pointer (some ⟨g6, 0, none⟩)) w5 ∧
                      (∃ w6 : World, (Instr.storeAt 52 (.pointer (some ⟨g6, 0, none⟩)) (.agg t20)).run Try.prog w5 = .ok () w6 ∧
                        (Calls Try.prog 54 #[(.pointer (some ⟨g13, 0, none⟩)), (.int .i64 32)] w6 fun (e22 : Ending) (w7 : World) => ∃ (t22a : Option Addr) (t22n : Nat) (t22c : Nat), e22 = .returned (.slice t22a t22n t22c) ∧
                          (∃ (I_1 : Int → World → Prop) (μ_1 : Int → World → Nat), I_1 0 w7 ∧
                            (∀ (x8 : Int), ∀ w8 : World, I_1 x8 w8 →
                              (((decide (x8 < ((t22n : Nat) : Int))) = true →
                                  (∃ (t32b t32o : Nat), t22a = some ⟨t32b, t32o, none⟩ ∧ 0 ≤ x8 ∧ x8 < ((t22n : Nat) : Int) ∧
                                    (∃ (t33 : Int), (Instr.loadAt 5 (.pointer (some ⟨t32b, t32o + Int.toNat x8 * 1, none⟩))).run Try.prog w8 = .ok (.int .u8 t33) w8 ∧
                                      (0 ≤ x8 ∧ x8 < (32 : Int) ∧
                                        (∃ w9 : World, (Instr.storeAt 5 (.pointer (some ⟨g6, 0 + Int.toNat x8 * 1, none⟩)) (.int .u8 t33)).run Try.prog w8 = .ok () w9 ∧
                                          (I_1 (IntKind.wrap .i64 (x8 + (1 : Int))) w9 ∧ μ_1 (IntKind.wrap .i64 (x8 + (1 : Int))) w9 < μ_1 x8 w8)))))) ∧
                                ((decide (x8 < ((t22n : Nat) : Int))) = false →
                                  (Calls Try.prog 55 #[(.pointer (some ⟨g13, 0, none⟩))] w8 fun (e37 : Ending) (w10 : World) => ∃ (t37 : Int), e37 = .returned (.int .i64 t37) ∧
                                    (∃ w11 : World, (Instr.storeAt 3 (.pointer (some ⟨g6, 32, none⟩)) (.int .i64 t37)).run Try.prog w10 = .ok () w11 ∧
                                      (Calls Try.prog 55 #[(.pointer (some ⟨g13, 0, none⟩))] w11 fun (e40 : Ending) (w12 : World) => ∃ (t40 : Int), e40 = .returned (.int .i64 t40) ∧
                                        (∃ w13 : World, (Instr.storeAt 3 (.pointer (some ⟨g6, 33, none⟩)) (.int .i64 t40)).run Try.prog w12 = .ok () w13 ∧
                                          (Calls Try.prog 55 #[(.pointer (some ⟨g13, 0, none⟩))] w13 fun (e43 : Ending) (w14 : World) => ∃ (t43 : Int), e43 = .returned (.int .i64 t43) ∧
                                            (∃ w15 : World, (Instr.storeAt 3 (.pointer (some ⟨g6, 34, none⟩)) (.int .i64 t43)).run Try.prog w14 = .ok () w15 ∧
                                              (∃ (t46 : Array Value), (Instr.loadAt 52 (.pointer (some ⟨g6, 0, none⟩))).run Try.prog w15 = .ok (.agg t46) w15 ∧
                                                (∃ (t47a : Option Addr) (t47n : Nat) (t47c : Nat) (w16 : World), (Instr.buildSlice 24 1 #[(0, (.agg t46))]).run Try.prog w15 = .ok (.slice t47a t47n t47c) w16 ∧
                                                  (∃ (t48a : Option Addr) (t48n : Nat) (t48c : Nat) (w17 : World), (Builtin.append_ #[24, 24] 24 #[(.slice x4a x4n x4c), (.slice t47a t47n t47c)]).run Try.prog w16 = .ok (.slice t48a t48n t48c) w17 ∧
                                                    (I t48a t48n t48c w17 ∧ μ t48a t48n t48c w17 < μ x4a x4n x4c w4))))))))))))))))))) ∧
                ((decide (((t17n : Nat) : Int) > (0 : Int))) = false →
                  (∃ J : Bool → World → Prop, (∃ (t52 : Bool), (Instr.loadAt 4 (.pointer (some ⟨g13, 1, none⟩))).run Try.prog w4 = .ok (.bool t52) w4 ∧
                      ((t52 = true →
                          (J true w4)) ∧
                        (t52 = false →
                          (Calls Try.prog 27 #[(.slice x4a x4n x4c)] w4 fun (e55 : Ending) (w18 : World) => ∃ (t55 : Int), e55 = .returned (.int .i64 t55) ∧
                            (J (t55 != (0 : Int)) w18))))) ∧
                    (∀ (x57 : Bool), ∀ w19 : World, J x57 w19 →
                      ((x57 = true →
                          (R (.returned (.tuple #[(.slice none 0 0), (.int .i64 9)])) w19)) ∧
                        (x57 = false →
                          (R (.returned (.tuple #[(.slice x4a x4n x4c), (.int .i64 0)])) w19)))))))))))))) : Calls Try.prog 34 #[(.slice a0a a0n a0c)] w R :=
  calls_of_ev (args := [(.slice a0a a0n a0c)])
    (tc := .seq (.reg (.op .p (.op .p (.nil)))) (.seq (.reg (.op .p (.nil))) (.seq (.reg (.op (.r (.slice)) (.op .p (.op (.r (.slice)) (.op (.ld (.agg)) (.op .bx (.op .p (.nil)))))))) (.seq (.blk (.loop [4, 6, 7, 8, 14, 15, 16, 17, 18, 19, 20, 21, 22, 23, 24, 25, 26, 27, 28, 29, 30, 31, 32, 33, 34, 35, 36, 37, 38, 39, 40, 41, 42, 43, 44, 45, 46, 47, 48] [4] [.slice] (.seq (.seq (.reg (.op .p (.op .p (.op .p (.op (.ld (.slice)) (.op .p (.op .p (.nil)))))))) (.cond (.leaf) (.leaf))) (.blk (.seq (.reg (.op (.ld (.agg)) (.op .bx (.op .u (.nil))))) (.seq (.reg (.op .p (.op (.cl [.slice]) (.op .p (.nil))))) (.seq (.seq (.reg (.op .p (.nil))) (.blk (.loop [8, 23, 24, 25, 26, 27, 28, 29, 30, 31, 32, 33, 34, 35] [8] [.int .i64] (.seq (.seq (.reg (.op .p (.op .p (.op .p (.op .p (.nil)))))) (.cond (.leaf) (.leaf))) (.seq (.blk (.reg (.op .p (.op .p (.op .p (.op .ix (.op (.ld (.int .u8)) (.op .p (.op .ix (.op .u (.nil))))))))))) (.reg (.op .p (.op .p (.op .p (.nil)))))))))) (.seq (.reg (.op .p (.op (.cl [.int .i64]) (.op .p (.op .u (.nil)))))) (.seq (.reg (.op .p (.op (.cl [.int .i64]) (.op .p (.op .u (.nil)))))) (.seq (.reg (.op .p (.op (.cl [.int .i64]) (.op .p (.op .u (.nil)))))) (.reg (.op .p (.op (.ld (.agg)) (.op (.r (.slice)) (.op (.r (.slice)) (.op .p (.nil))))))))))))))))) (.seq (.seq (.join [49, 50, 51, 52, 53, 54, 55, 56, 57] [57] [.bool] (.reg (.op .p (.op .p (.op .p (.op (.ld (.bool)) (.op .p (.sp 53 (.op .p (.op .p (.op .p (.op .p (.nil))))) (.op .p (.op (.cl [.int .i64]) (.op .p (.op .p (.nil))))))))))))) (.cond (.seq (.reg (.op .p (.op .p (.nil)))) (.leaf)) (.leaf))) (.seq (.reg (.op .p (.op .p (.op .p (.nil))))) (.leaf)))))))
    (by kernel_rfl) Try.func34 (by kernel_rfl) (by kernel_rfl) (by kernel_rfl) (by kernel_rfl) h

set_option maxRecDepth 100000 in
theorem amphoraref13_Same_vc (a0a : Option Addr) (a0n : Nat) (a0c : Nat) (a1a : Option Addr) (a1n : Nat) (a1c : Nat) (w : World) (R : Ending → World → Prop) (h :
  ((((a0n : Nat) : Int) != ((a1n : Nat) : Int)) = true →
    (R (.returned (.bool false)) w)) ∧
  ((((a0n : Nat) : Int) != ((a1n : Nat) : Int)) = false →
    (∃ (I : Int → World → Prop) (μ : Int → World → Nat), I 0 w ∧
      (∀ (x5 : Int), ∀ w1 : World, I x5 w1 →
        (((decide (x5 < ((a0n : Nat) : Int))) = true →
            (∃ S : World → Prop, S w1.drew ∧
              (∃ (t19b t19o : Nat), a0a = some ⟨t19b, t19o, none⟩ ∧ 0 ≤ x5 ∧ x5 < ((a0n : Nat) : Int) ∧
                (∃ (t23b t23o : Nat), a1a = some ⟨t23b, t23o, none⟩ ∧ 0 ≤ x5 ∧ x5 < ((a1n : Nat) : Int) ∧
                  (∃ (t20 : Array Value), (∀ w' : World, S w' → (Instr.loadAt 52 (.pointer (some ⟨t19b, t19o + Int.toNat x5 * 35, none⟩))).run Try.prog w' = .ok (.agg t20) w') ∧
                    (∃ (t24 : Array Value), (∀ w' : World, S w' → (Instr.loadAt 52 (.pointer (some ⟨t23b, t23o + Int.toNat x5 * 35, none⟩))).run Try.prog w' = .ok (.agg t24) w') ∧
                      (∃ (t25 : Bool), (∀ w' : World, S w' → (eqlS .neq 52 (.tmp 20) (.tmp 24) (.agg t20) (.agg t24)).run Try.prog w' = .ok (.bool t25) w') ∧
                        ((t25 = true →
                            (R (.returned (.bool false)) w1.drew)) ∧
                          (t25 = false →
                            (I (IntKind.wrap .i64 (x5 + (1 : Int))) w1.drew ∧ μ (IntKind.wrap .i64 (x5 + (1 : Int))) w1.drew < μ x5 w1)))))))))) ∧
          ((decide (x5 < ((a0n : Nat) : Int))) = false →
            (R (.returned (.bool true)) w1))))))) : Calls Try.prog 14 #[(.slice a0a a0n a0c), (.slice a1a a1n a1c)] w R :=
  calls_of_ev (args := [(.slice a0a a0n a0c), (.slice a1a a1n a1c)])
    (tc := .seq (.reg (.op .p (.nil))) (.seq (.seq (.reg (.op .p (.op .p (.op .p (.op .p (.op .p (.nil))))))) (.cond (.seq (.reg (.op .p (.nil))) (.leaf)) (.leaf))) (.seq (.seq (.reg (.op .p (.nil))) (.blk (.loop [4, 5, 11, 12, 13, 14, 15, 16, 17, 18, 19, 20, 21, 22, 23, 24, 25] [5] [.int .i64] (.seq (.seq (.reg (.op .p (.op .p (.op .p (.op .p (.nil)))))) (.cond (.leaf) (.leaf))) (.seq (.blk (.seq (.drawS (.tk 0 .p (.tk 1 .p (.tk 2 .ix (.tk 4 .p (.tk 5 .p (.tk 6 .ix (.ts 3 (.agg) (.ts 7 (.agg) (.ts 8 (.bool) (.nil)))))))))) []) (.cond (.seq (.reg (.op .p (.nil))) (.leaf)) (.leaf)))) (.reg (.op .p (.op .p (.op .p (.nil)))))))))) (.seq (.reg (.op .p (.nil))) (.leaf)))))
    (by kernel_rfl) Try.func14 (by kernel_rfl) (by kernel_rfl) (by kernel_rfl) (by kernel_rfl) h

end Go.Proofs.Ytoianikapjkekaa
