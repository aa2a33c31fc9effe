/- Verification conditions of functions, printed by the session's own program vc.py: out of each, Calls (conditions: none). -/
import Derived.Test.YtoianikapjkekaaRows
import Derived.Test.YtoianikapjkekaaSxRun
namespace Go.Proofs.Ytoianikapjkekaa
open Go Go.Proofs.Ytoianikapjkekaa.Sx

set_option maxRecDepth 100000 in
theorem amphoralaw14_alive_vc  (w : World) (R : Ending → World → Prop) (h :
  ∃ (t4 : Array Value), (Instr.build 40 #[(0, (.int .u8 2))]).run Try.prog w = .ok (.agg t4) w ∧
  (∃ (t5 : Array Value), (Instr.build 52 #[(0, (.agg t4)), (1, (.int .i64 1))]).run Try.prog w = .ok (.agg t5) w ∧
    (∃ (t6 : Array Value), (Instr.build 40 #[(0, (.int .u8 1))]).run Try.prog w = .ok (.agg t6) w ∧
      (∃ (t7 : Array Value), (Instr.build 52 #[(0, (.agg t6)), (1, (.int .i64 1))]).run Try.prog w = .ok (.agg t7) w ∧
        (∃ (t8 : Array Value), (Instr.build 40 #[(0, (.int .u8 2))]).run Try.prog w = .ok (.agg t8) w ∧
          (∃ (t9 : Array Value), (Instr.build 52 #[(0, (.agg t8)), (1, (.int .i64 3))]).run Try.prog w = .ok (.agg t9) w ∧
            (∃ (t10a : Option Addr) (t10n : Nat) (t10c : Nat) (w1 : World), (Instr.buildSlice 24 3 #[(0, (.agg t5)), (1, (.agg t7)), (2, (.agg t9))]).run Try.prog w = .ok (.slice t10a t10n t10c) w1 ∧
              (Calls Try.prog 16 #[(.slice t10a t10n t10c)] w1 fun (e11 : Ending) (w2 : World) => ∃ (t11_0a : Option Addr) (t11_0n : Nat) (t11_0c : Nat) (t11_1 : Value), e11 = .returned (.tuple #[(.slice t11_0a t11_0n t11_0c), t11_1]) ∧
                (∃ (t15 : Bool), (eqlS .eql 27 (.tmp 14) (.const .nilIface) t11_1 .nilIface).run Try.prog w2 = .ok (.bool t15) w2 ∧
                  (((t15 && (((t11_0n : Nat) : Int) == (2 : Int))) = true →
                      (∃ (t23b t23o : Nat), t11_0a = some ⟨t23b, t23o, none⟩ ∧ 0 ≤ (0 : Int) ∧ (0 : Int) < ((t11_0n : Nat) : Int) ∧
                        (∃ (t25 : Array Value), (Instr.loadAt 40 (.pointer (some ⟨t23b, t23o + Int.toNat (0 : Int) * 35, none⟩))).run Try.prog w2 = .ok (.agg t25) w2 ∧
                          (∃ (t26 : Array Value), (Instr.build 40 #[(0, (.int .u8 1))]).run Try.prog w2 = .ok (.agg t26) w2 ∧
                            (∃ (t27 : Bool), (eqlS .eql 40 (.tmp 25) (.tmp 26) (.agg t25) (.agg t26)).run Try.prog w2 = .ok (.bool t27) w2 ∧
                              ((t27 = true →
                                  (∃ (t31b t31o : Nat), t11_0a = some ⟨t31b, t31o, none⟩ ∧ 0 ≤ (1 : Int) ∧ (1 : Int) < ((t11_0n : Nat) : Int) ∧
                                    (∃ (t33 : Int), (Instr.loadAt 3 (.pointer (some ⟨t31b, t31o + Int.toNat (1 : Int) * 35 + 32, none⟩))).run Try.prog w2 = .ok (.int .i64 t33) w2 ∧
                                      (R (.returned (.bool (t33 == (3 : Int)))) w2)))) ∧
                                (t27 = false →
                                  (R (.returned (.bool false)) w2)))))))) ∧
                    ((t15 && (((t11_0n : Nat) : Int) == (2 : Int))) = false →
                      (R (.returned (.bool false)) w2)))))))))))) : Calls Try.prog 9 #[] w R :=
  calls_of_ev (args := [])
    (tc := .seq (.reg (.op .p (.nil))) (.seq (.reg (.op (.ld (.agg)) (.op (.ld (.agg)) (.op (.ld (.agg)) (.op (.ld (.agg)) (.op (.ld (.agg)) (.op (.ld (.agg)) (.op (.r (.slice)) (.op (.cl [.slice, .val]) (.op .p (.op .p (.op .p (.op .p (.op .p (.nil))))))))))))))) (.seq (.reg (.op .p (.op (.ld (.bool)) (.op .p (.ap 3 (.op .p (.sp 21 (.op .p (.op .ix (.op .p (.op (.ld (.agg)) (.op (.ld (.agg)) (.op (.ld (.bool)) (.op .p (.op .p (.sp 29 (.op .p (.op .ix (.op .p (.op (.ld (.int .i64)) (.op .p (.op .p (.op .p (.nil)))))))) (.op .p (.op .p (.op .p (.op .p (.op .p (.op .p (.op .p (.nil))))))))))))))))) (.op .p (.op .p (.op .p (.op .p (.op .p (.op .p (.op .p (.op .p (.op .p (.op .p (.op .p (.op .p (.op .p (.op .p (.op .p (.nil))))))))))))))))))))))) (.leaf))))
    (by kernel_rfl) Try.func9 (by kernel_rfl) (by kernel_rfl) (by kernel_rfl) (by kernel_rfl) h

set_option maxRecDepth 100000 in
theorem amphoralaw14_mine_vc (a0a : Option Addr) (a0n : Nat) (a0c : Nat) (w : World) (R : Ending → World → Prop) (h :
  ∃ (t6a : Option Addr) (t6n : Nat) (t6c : Nat) (w1 : World), (Instr.makeSlice 24 (.int .i64 0) (.int .i64 (IntKind.wrap .i64 (((a0n : Nat) : Int) + (1 : Int))))).run Try.prog w = .ok (.slice t6a t6n t6c) w1 ∧
  (∃ (t8a : Option Addr) (t8n : Nat) (t8c : Nat) (w2 : World), (Builtin.append_ #[24, 24] 24 #[(.slice t6a t6n t6c), (.slice a0a a0n a0c)]).run Try.prog w1 = .ok (.slice t8a t8n t8c) w2 ∧
    (∃ (t9 : Array Value), (Instr.build 52 #[(1, (.int .i64 (-9)))]).run Try.prog w2 = .ok (.agg t9) w2 ∧
      (∃ (t10a : Option Addr) (t10n : Nat) (t10c : Nat) (w3 : World), (Instr.buildSlice 24 1 #[(0, (.agg t9))]).run Try.prog w2 = .ok (.slice t10a t10n t10c) w3 ∧
        (∃ (t11a : Option Addr) (t11n : Nat) (t11c : Nat) (w4 : World), (Builtin.append_ #[24, 24] 24 #[(.slice t8a t8n t8c), (.slice t10a t10n t10c)]).run Try.prog w3 = .ok (.slice t11a t11n t11c) w4 ∧
          (0 ≤ ((a0n : Nat) : Int) ∧ ((a0n : Nat) : Int) ≤ ((t11c : Nat) : Int) ∧
            (R (.returned (.slice t11a (a0n) t11c)) w4))))))) : Calls Try.prog 10 #[(.slice a0a a0n a0c)] w R :=
  calls_of_ev (args := [(.slice a0a a0n a0c)])
    (tc := .seq (.reg (.op .p (.nil))) (.seq (.reg (.op .p (.op .p (.op .p (.op (.r (.slice)) (.op .p (.op (.r (.slice)) (.op (.ld (.agg)) (.op (.r (.slice)) (.op (.r (.slice)) (.op .p (.op .p (.op .sl (.op .p (.nil))))))))))))))) (.leaf)))
    (by kernel_rfl) Try.func10 (by kernel_rfl) (by kernel_rfl) (by kernel_rfl) (by kernel_rfl) h

set_option maxRecDepth 100000 in
theorem amphoralaw14_kept_vc (a0a : Option Addr) (a0n : Nat) (a0c : Nat) (a1a : Option Addr) (a1n : Nat) (a1c : Nat) (w : World) (R : Ending → World → Prop) (h :
  Calls Try.prog 14 #[(.slice a0a a0n a0c), (.slice a1a a1n a1c)] w fun (e7 : Ending) (w1 : World) => ∃ (t7 : Bool), e7 = .returned (.bool t7) ∧
  ((t7 = true →
      (0 ≤ (IntKind.wrap .i64 (((a1n : Nat) : Int) + (1 : Int))) ∧ (IntKind.wrap .i64 (((a1n : Nat) : Int) + (1 : Int))) ≤ ((a0c : Nat) : Int) ∧
        (∃ (t16b t16o : Nat), a0a = some ⟨t16b, t16o, none⟩ ∧ 0 ≤ ((a1n : Nat) : Int) ∧ ((a1n : Nat) : Int) < (((Int.toNat (IntKind.wrap .i64 (((a1n : Nat) : Int) + (1 : Int)))) : Nat) : Int) ∧
          (∃ (t18 : Int), (Instr.loadAt 3 (.pointer (some ⟨t16b, t16o + Int.toNat ((a1n : Nat) : Int) * 35 + 32, none⟩))).run Try.prog w1 = .ok (.int .i64 t18) w1 ∧
            (R (.returned (.bool (t18 == ((-9) : Int)))) w1))))) ∧
    (t7 = false →
      (R (.returned (.bool false)) w1)))) : Calls Try.prog 13 #[(.slice a0a a0n a0c), (.slice a1a a1n a1c)] w R :=
  calls_of_ev (args := [(.slice a0a a0n a0c), (.slice a1a a1n a1c)])
    (tc := .seq (.reg (.op .p (.nil))) (.seq (.reg (.op .p (.op .p (.op (.cl [.bool]) (.op .p (.sp 8 (.op .p (.op .p (.op .p (.op .p (.op .sl (.op .p (.op .p (.op .ix (.op .p (.op (.ld (.int .i64)) (.op .p (.op .p (.op .p (.nil)))))))))))))) (.op .p (.op .p (.op .p (.op .p (.op .p (.op .p (.op .p (.op .p (.op .p (.op .p (.op .p (.op .p (.op .p (.nil)))))))))))))))))))) (.leaf)))
    (by kernel_rfl) Try.func13 (by kernel_rfl) (by kernel_rfl) (by kernel_rfl) (by kernel_rfl) h

set_option maxRecDepth 100000 in
theorem amphoralaw14_IndexMerges_vc (a0a : Option Addr) (a0n : Nat) (a0c : Nat) (w : World) (R : Ending → World → Prop) (h :
  Calls Try.prog 9 #[] w fun (e12 : Ending) (w1 : World) => ∃ (t12 : Bool), e12 = .returned (.bool t12) ∧
  (((!t12) = true →
      (R (.returned (.bool false)) w1)) ∧
    ((!t12) = false →
      (((decide (((a0n : Nat) : Int) > (30 : Int))) = true →
          (R (.returned (.bool true)) w1)) ∧
        ((decide (((a0n : Nat) : Int) > (30 : Int))) = false →
          (∃ (t17a : Option Addr) (t17n : Nat) (t17c : Nat) (w2 : World), (Instr.buildSlice 22 0 #[]).run Try.prog w1 = .ok (.slice t17a t17n t17c) w2 ∧
            (∃ (I : Option Addr → Nat → Nat → Int → World → Prop) (μ : Option Addr → Nat → Nat → Int → World → Nat), I t17a t17n t17c 0 w2 ∧
              (∀ (x3a : Option Addr) (x3n : Nat) (x3c : Nat) (x20 : Int), ∀ w3 : World, I x3a x3n x3c x20 w3 →
                (((decide (x20 < ((a0n : Nat) : Int))) = true →
                    (∃ (t22b t22o : Nat), a0a = some ⟨t22b, t22o, none⟩ ∧ 0 ≤ x20 ∧ x20 < ((a0n : Nat) : Int) ∧
                      (∃ (t23a : Option Addr) (t23n : Nat) (t23c : Nat), (Instr.loadAt 24 (.pointer (some ⟨t22b, t22o + Int.toNat x20 * 1, none⟩))).run Try.prog w3 = .ok (.slice t23a t23n t23c) w3 ∧
                        (((decide (((t23n : Nat) : Int) > (100 : Int))) = true →
                            (R (.returned (.bool true)) w3)) ∧
                          ((decide (((t23n : Nat) : Int) > (100 : Int))) = false →
                            (Calls Try.prog 10 #[(.slice t23a t23n t23c)] w3 fun (e28 : Ending) (w4 : World) => ∃ (t28a : Option Addr) (t28n : Nat) (t28c : Nat), e28 = .returned (.slice t28a t28n t28c) ∧
                              (∃ (t31a : Option Addr) (t31n : Nat) (t31c : Nat) (w5 : World), (Instr.buildSlice 22 1 #[(0, (.slice t28a t28n t28c))]).run Try.prog w4 = .ok (.slice t31a t31n t31c) w5 ∧
                                (∃ (t32a : Option Addr) (t32n : Nat) (t32c : Nat) (w6 : World), (Builtin.append_ #[22, 22] 22 #[(.slice x3a x3n x3c), (.slice t31a t31n t31c)]).run Try.prog w5 = .ok (.slice t32a t32n t32c) w6 ∧
                                  (I t32a t32n t32c (IntKind.wrap .i64 (x20 + (1 : Int))) w6 ∧ μ t32a t32n t32c (IntKind.wrap .i64 (x20 + (1 : Int))) w6 < μ x3a x3n x3c x20 w3))))))))) ∧
                  ((decide (x20 < ((a0n : Nat) : Int))) = false →
                    (Calls Try.prog 11 #[(.slice x3a x3n x3c)] w3 fun (e36 : Ending) (w7 : World) => ∃ (t36_0a : Option Addr) (t36_0n : Nat) (t36_0c : Nat) (t36_1 : Value), e36 = .returned (.tuple #[(.slice t36_0a t36_0n t36_0c), t36_1]) ∧
                      (Calls Try.prog 12 #[(.slice a0a a0n a0c)] w7 fun (e41 : Ending) (w8 : World) => ∃ (t41_0a : Option Addr) (t41_0n : Nat) (t41_0c : Nat) (t41_1 : Int), e41 = .returned (.tuple #[(.slice t41_0a t41_0n t41_0c), (.int .i64 t41_1)]) ∧
                        (∃ (I_1 : Int → World → Prop) (μ_1 : Int → World → Nat), I_1 0 w8 ∧
                          (∀ (x46 : Int), ∀ w9 : World, I_1 x46 w9 →
                            (((decide (x46 < ((a0n : Nat) : Int))) = true →
                                (∃ S : World → Prop, S w9.drew ∧
                                  (∃ (t51b t51o : Nat), x3a = some ⟨t51b, t51o, none⟩ ∧ 0 ≤ x46 ∧ x46 < ((x3n : Nat) : Int) ∧
                                    (∃ (t55b t55o : Nat), a0a = some ⟨t55b, t55o, none⟩ ∧ 0 ≤ x46 ∧ x46 < ((a0n : Nat) : Int) ∧
                                      (∃ (t52a : Option Addr) (t52n : Nat) (t52c : Nat), (∀ w' : World, S w' → (Instr.loadAt 24 (.pointer (some ⟨t51b, t51o + Int.toNat x46 * 1, none⟩))).run Try.prog w' = .ok (.slice t52a t52n t52c) w') ∧
                                        (∃ (t56a : Option Addr) (t56n : Nat) (t56c : Nat), (∀ w' : World, S w' → (Instr.loadAt 24 (.pointer (some ⟨t55b, t55o + Int.toNat x46 * 1, none⟩))).run Try.prog w' = .ok (.slice t56a t56n t56c) w') ∧
                                          (Calls Try.prog 13 #[(.slice t52a t52n t52c), (.slice t56a t56n t56c)] w9.drew fun (e57 : Ending) (w10 : World) => ∃ (t57 : Bool), e57 = .returned (.bool t57) ∧
                                            (∃ S_1 : World → Prop, (∀ w' : World, S_1 w' → S w') ∧ S_1 w10 ∧
                                              (((!t57) = true →
                                                  (R (.returned (.bool false)) w10)) ∧
                                                ((!t57) = false →
                                                  (I_1 (IntKind.wrap .i64 (x46 + (1 : Int))) w10 ∧ μ_1 (IntKind.wrap .i64 (x46 + (1 : Int))) w10 < μ_1 x46 w9))))))))))) ∧
                              ((decide (x46 < ((a0n : Nat) : Int))) = false →
                                (Calls Try.prog 14 #[(.slice t36_0a t36_0n t36_0c), (.slice t41_0a t41_0n t41_0c)] w9 fun (e62 : Ending) (w11 : World) => ∃ (t62 : Bool), e62 = .returned (.bool t62) ∧
                                  ((t62 = true →
                                      (Calls Try.prog 15 #[t36_1] w11 fun (e65 : Ending) (w12 : World) => ∃ (t65 : Int), e65 = .returned (.int .i64 t65) ∧
                                        (R (.returned (.bool (t65 == t41_1))) w12))) ∧
                                    (t62 = false →
                                      (R (.returned (.bool false)) w11)))))))))))))))))))) : Calls Try.prog 3 #[(.slice a0a a0n a0c)] w R :=
  calls_of_ev (args := [(.slice a0a a0n a0c)])
    (tc := .seq (.reg (.op .p (.nil))) (.seq (.seq (.reg (.op (.cl [.bool]) (.op .p (.nil)))) (.cond (.seq (.reg (.op .p (.nil))) (.leaf)) (.leaf))) (.seq (.seq (.reg (.op .p (.op .p (.op .p (.nil))))) (.cond (.seq (.reg (.op .p (.nil))) (.leaf)) (.leaf))) (.seq (.reg (.op (.r (.slice)) (.op .p (.nil)))) (.seq (.seq (.reg (.op .p (.op .p (.op .p (.nil))))) (.blk (.loop [2, 3, 5, 6, 20, 21, 22, 23, 24, 25, 26, 27, 28, 29, 30, 31, 32, 33] [3, 20] [.slice, .int .i64] (.seq (.reg (.op .p (.nil))) (.seq (.cond (.leaf) (.leaf)) (.seq (.blk (.seq (.reg (.op .ix (.op (.ld (.slice)) (.op .p (.nil))))) (.seq (.seq (.reg (.op .p (.op .p (.op .p (.nil))))) (.cond (.seq (.reg (.op .p (.nil))) (.leaf)) (.leaf))) (.seq (.reg (.op .p (.op (.cl [.slice]) (.op .p (.nil))))) (.reg (.op .p (.op .p (.op (.r (.slice)) (.op (.r (.slice)) (.op .p (.nil))))))))))) (.reg (.op .p (.op .p (.nil)))))))))) (.seq (.reg (.op .p (.op (.cl [.slice, .val]) (.op .p (.op .p (.op .p (.op .p (.op .p (.nil))))))))) (.seq (.reg (.op .p (.op (.cl [.slice, .int .i64]) (.op .p (.op .p (.op .p (.op .p (.op .p (.nil))))))))) (.seq (.seq (.reg (.op .p (.op .p (.op .p (.nil))))) (.blk (.loop [2, 11, 46, 47, 48, 49, 50, 51, 52, 53, 54, 55, 56, 57, 58, 59] [46] [.int .i64] (.seq (.reg (.op .p (.nil))) (.seq (.cond (.leaf) (.leaf)) (.seq (.blk (.seq (.reg (.op .p (.op .p (.nil)))) (.seq (.drawS (.tk 0 .p (.tk 1 .p (.tk 2 .ix (.tk 4 .p (.tk 5 .p (.tk 6 .ix (.ts 3 (.slice) (.ts 7 (.slice) (.go 8 (.cl [.bool]) (.tk 9 .p (.nil))))))))))) []) (.cond (.seq (.reg (.op .p (.nil))) (.leaf)) (.leaf))))) (.reg (.op .p (.op .p (.nil)))))))))) (.seq (.reg (.op .p (.op .p (.op (.cl [.bool]) (.op .p (.sp 63 (.op .p (.op (.cl [.int .i64]) (.op .p (.op .p (.op .p (.op .p (.nil))))))) (.op .p (.op .p (.op .p (.op .p (.op .p (.op .p (.nil))))))))))))) (.leaf))))))))))
    (by kernel_rfl) Try.func3 (by kernel_rfl) (by kernel_rfl) (by kernel_rfl) (by kernel_rfl) h

set_option maxRecDepth 100000 in
theorem amphoralaw14_IndexLaws_vc (a0a : Option Addr) (a0n : Nat) (a0c : Nat) (a1a : Option Addr) (a1n : Nat) (a1c : Nat) (a2a : Option Addr) (a2n : Nat) (a2c : Nat) (w : World) (R : Ending → World → Prop) (h :
  Calls Try.prog 9 #[] w fun (e25 : Ending) (w1 : World) => ∃ (t25 : Bool), e25 = .returned (.bool t25) ∧
  (((!t25) = true →
      (R (.returned (.bool false)) w1)) ∧
    ((!t25) = false →
      (((((decide (((a0n : Nat) : Int) > (300 : Int))) || (decide (((a1n : Nat) : Int) > (300 : Int)))) || (decide (((a2n : Nat) : Int) > (300 : Int)))) = true →
          (R (.returned (.bool true)) w1)) ∧
        ((((decide (((a0n : Nat) : Int) > (300 : Int))) || (decide (((a1n : Nat) : Int) > (300 : Int)))) || (decide (((a2n : Nat) : Int) > (300 : Int)))) = false →
          (Calls Try.prog 16 #[(.slice a0a a0n a0c)] w1 fun (e42 : Ending) (w2 : World) => ∃ (t42_0a : Option Addr) (t42_0n : Nat) (t42_0c : Nat) (t42_1 : Value), e42 = .returned (.tuple #[(.slice t42_0a t42_0n t42_0c), t42_1]) ∧
            (Calls Try.prog 16 #[(.slice a1a a1n a1c)] w2 fun (e47 : Ending) (w3 : World) => ∃ (t47_0a : Option Addr) (t47_0n : Nat) (t47_0c : Nat) (t47_1 : Value), e47 = .returned (.tuple #[(.slice t47_0a t47_0n t47_0c), t47_1]) ∧
              (Calls Try.prog 16 #[(.slice a2a a2n a2c)] w3 fun (e52 : Ending) (w4 : World) => ∃ (t52_0a : Option Addr) (t52_0n : Nat) (t52_0c : Nat) (t52_1 : Value), e52 = .returned (.tuple #[(.slice t52_0a t52_0n t52_0c), t52_1]) ∧
                (∃ J : Bool → World → Prop, (∃ (t56 : Bool), (eqlS .neq 27 (.tmp 55) (.const .nilIface) t42_1 .nilIface).run Try.prog w4 = .ok (.bool t56) w4 ∧
                    ((t56 = true →
                        (J true w4)) ∧
                      (t56 = false →
                        (∃ (t59 : Bool), (eqlS .neq 27 (.tmp 58) (.const .nilIface) t47_1 .nilIface).run Try.prog w4 = .ok (.bool t59) w4 ∧
                          ((t59 = true →
                              (J true w4)) ∧
                            (t59 = false →
                              (∃ (t63 : Bool), (eqlS .neq 27 (.tmp 62) (.const .nilIface) t52_1 .nilIface).run Try.prog w4 = .ok (.bool t63) w4 ∧
                                (J t63 w4)))))))) ∧
                  (∀ (x64 : Bool), ∀ w5 : World, J x64 w5 →
                    ((x64 = true →
                        (R (.returned (.bool true)) w5)) ∧
                      (x64 = false →
                        (∃ (t68a : Option Addr) (t68n : Nat) (t68c : Nat) (w6 : World), (Instr.buildSlice 22 2 #[(0, (.slice t42_0a t42_0n t42_0c)), (1, (.slice t47_0a t47_0n t47_0c))]).run Try.prog w5 = .ok (.slice t68a t68n t68c) w6 ∧
                          (Calls Try.prog 11 #[(.slice t68a t68n t68c)] w6 fun (e69 : Ending) (w7 : World) => ∃ (t69_0a : Option Addr) (t69_0n : Nat) (t69_0c : Nat) (t69_1 : Value), e69 = .returned (.tuple #[(.slice t69_0a t69_0n t69_0c), t69_1]) ∧
                            (∃ (t75a : Option Addr) (t75n : Nat) (t75c : Nat) (w8 : World), (Instr.buildSlice 22 2 #[(0, (.slice t47_0a t47_0n t47_0c)), (1, (.slice t52_0a t52_0n t52_0c))]).run Try.prog w7 = .ok (.slice t75a t75n t75c) w8 ∧
                              (Calls Try.prog 11 #[(.slice t75a t75n t75c)] w8 fun (e76 : Ending) (w9 : World) => ∃ (t76_0a : Option Addr) (t76_0n : Nat) (t76_0c : Nat) (t76_1 : Value), e76 = .returned (.tuple #[(.slice t76_0a t76_0n t76_0c), t76_1]) ∧
                                (∃ (t82a : Option Addr) (t82n : Nat) (t82c : Nat) (w10 : World), (Instr.buildSlice 22 2 #[(0, (.slice t69_0a t69_0n t69_0c)), (1, (.slice t52_0a t52_0n t52_0c))]).run Try.prog w9 = .ok (.slice t82a t82n t82c) w10 ∧
                                  (Calls Try.prog 11 #[(.slice t82a t82n t82c)] w10 fun (e83 : Ending) (w11 : World) => ∃ (t83_0a : Option Addr) (t83_0n : Nat) (t83_0c : Nat) (t83_1 : Value), e83 = .returned (.tuple #[(.slice t83_0a t83_0n t83_0c), t83_1]) ∧
                                    (∃ (t89a : Option Addr) (t89n : Nat) (t89c : Nat) (w12 : World), (Instr.buildSlice 22 2 #[(0, (.slice t42_0a t42_0n t42_0c)), (1, (.slice t76_0a t76_0n t76_0c))]).run Try.prog w11 = .ok (.slice t89a t89n t89c) w12 ∧
                                      (Calls Try.prog 11 #[(.slice t89a t89n t89c)] w12 fun (e90 : Ending) (w13 : World) => ∃ (t90_0a : Option Addr) (t90_0n : Nat) (t90_0c : Nat) (t90_1 : Value), e90 = .returned (.tuple #[(.slice t90_0a t90_0n t90_0c), t90_1]) ∧
                                        (∃ (t97a : Option Addr) (t97n : Nat) (t97c : Nat) (w14 : World), (Instr.buildSlice 22 3 #[(0, (.slice t42_0a t42_0n t42_0c)), (1, (.slice t47_0a t47_0n t47_0c)), (2, (.slice t52_0a t52_0n t52_0c))]).run Try.prog w13 = .ok (.slice t97a t97n t97c) w14 ∧
                                          (Calls Try.prog 11 #[(.slice t97a t97n t97c)] w14 fun (e98 : Ending) (w15 : World) => ∃ (t98_0a : Option Addr) (t98_0n : Nat) (t98_0c : Nat) (t98_1 : Value), e98 = .returned (.tuple #[(.slice t98_0a t98_0n t98_0c), t98_1]) ∧
                                            (∃ (t104a : Option Addr) (t104n : Nat) (t104c : Nat) (w16 : World), (Instr.buildSlice 22 3 #[(0, (.slice t42_0a t42_0n t42_0c)), (1, (.slice t42_0a t42_0n t42_0c)), (2, (.slice none 0 0))]).run Try.prog w15 = .ok (.slice t104a t104n t104c) w16 ∧
                                              (Calls Try.prog 11 #[(.slice t104a t104n t104c)] w16 fun (e105 : Ending) (w17 : World) => ∃ (t105_0a : Option Addr) (t105_0n : Nat) (t105_0c : Nat) (t105_1 : Value), e105 = .returned (.tuple #[(.slice t105_0a t105_0n t105_0c), t105_1]) ∧
                                                (∃ (t109a : Option Addr) (t109n : Nat) (t109c : Nat) (w18 : World), (Instr.buildSlice 24 0 #[]).run Try.prog w17 = .ok (.slice t109a t109n t109c) w18 ∧
                                                  (∃ (t111a : Option Addr) (t111n : Nat) (t111c : Nat) (w19 : World), (Builtin.append_ #[24, 24] 24 #[(.slice t109a t109n t109c), (.slice a0a a0n a0c)]).run Try.prog w18 = .ok (.slice t111a t111n t111c) w19 ∧
                                                    (∃ (t113a : Option Addr) (t113n : Nat) (t113c : Nat) (w20 : World), (Builtin.append_ #[24, 24] 24 #[(.slice t111a t111n t111c), (.slice a1a a1n a1c)]).run Try.prog w19 = .ok (.slice t113a t113n t113c) w20 ∧
                                                      (∃ (t115a : Option Addr) (t115n : Nat) (t115c : Nat) (w21 : World), (Builtin.append_ #[24, 24] 24 #[(.slice t113a t113n t113c), (.slice a2a a2n a2c)]).run Try.prog w20 = .ok (.slice t115a t115n t115c) w21 ∧
                                                        (Calls Try.prog 16 #[(.slice t115a t115n t115c)] w21 fun (e116 : Ending) (w22 : World) => ∃ (t116_0a : Option Addr) (t116_0n : Nat) (t116_0c : Nat) (t116_1 : Value), e116 = .returned (.tuple #[(.slice t116_0a t116_0n t116_0c), t116_1]) ∧
                                                          (∃ (t120 : Bool), (eqlS .eql 27 (.tmp 119) (.const .nilIface) t98_1 .nilIface).run Try.prog w22 = .ok (.bool t120) w22 ∧
                                                            ((t120 = true →
                                                                (∃ (t123 : Bool), (eqlS .eql 27 (.tmp 122) (.const .nilIface) t116_1 .nilIface).run Try.prog w22 = .ok (.bool t123) w22 ∧
                                                                  ((t123 = true →
                                                                      (Calls Try.prog 14 #[(.slice t83_0a t83_0n t83_0c), (.slice t90_0a t90_0n t90_0c)] w22 fun (e128 : Ending) (w23 : World) => ∃ (t128 : Bool), e128 = .returned (.bool t128) ∧
                                                                        ((t128 = true →
                                                                            (Calls Try.prog 14 #[(.slice t83_0a t83_0n t83_0c), (.slice t98_0a t98_0n t98_0c)] w23 fun (e133 : Ending) (w24 : World) => ∃ (t133 : Bool), e133 = .returned (.bool t133) ∧
                                                                              ((t133 = true →
                                                                                (Calls Try.prog 14 #[(.slice t116_0a t116_0n t116_0c), (.slice t98_0a t98_0n t98_0c)] w24 fun (e138 : Ending) (w25 : World) => ∃ (t138 : Bool), e138 = .returned (.bool t138) ∧
                                                                                ((t138 = true →
                                                                                (Calls Try.prog 14 #[(.slice t105_0a t105_0n t105_0c), (.slice t42_0a t42_0n t42_0c)] w25 fun (e143 : Ending) (w26 : World) => ∃ (t143 : Bool), e143 = .returned (.bool t143) ∧
                                                                                ((t143 = true →
                                                                                (Calls Try.prog 17 #[(.slice t98_0a t98_0n t98_0c)] w26 fun (e147 : Ending) (w27 : World) => ∃ (t147 : Value), e147 = .returned t147 ∧
                                                                                (∃ (t148 : Bool), (eqlS .eql 27 (.tmp 147) (.const .nilIface) t147 .nilIface).run Try.prog w27 = .ok (.bool t148) w27 ∧
                                                                                (R (.returned (.bool t148)) w27)))) ∧
                                                                                (t143 = false →
                                                                                (R (.returned (.bool false)) w26))))) ∧
                                                                                (t138 = false →
                                                                                (R (.returned (.bool false)) w25))))) ∧
                                                                                (t133 = false →
                                                                                (R (.returned (.bool false)) w24))))) ∧
                                                                          (t128 = false →
                                                                            (R (.returned (.bool false)) w23))))) ∧
                                                                    (t123 = false →
                                                                      (R (.returned (.bool false)) w22))))) ∧
                                                              (t120 = false →
                                                                (R (.returned (.bool false)) w22))))))))))))))))))))))))))))))))) : Calls Try.prog 4 #[(.slice a0a a0n a0c), (.slice a1a a1n a1c), (.slice a2a a2n a2c)] w R :=
  calls_of_ev (args := [(.slice a0a a0n a0c), (.slice a1a a1n a1c), (.slice a2a a2n a2c)])
    (tc := .seq (.reg (.op .p (.nil))) (.seq (.seq (.reg (.op (.cl [.bool]) (.op .p (.nil)))) (.cond (.seq (.reg (.op .p (.nil))) (.leaf)) (.leaf))) (.seq (.seq (.reg (.op .p (.op .p (.op .p (.op .p (.ap 3 (.op .p (.ap 3 (.nil))))))))) (.cond (.seq (.reg (.op .p (.nil))) (.leaf)) (.leaf))) (.seq (.reg (.op .p (.op (.cl [.slice, .val]) (.op .p (.op .p (.op .p (.op .p (.op .p (.nil))))))))) (.seq (.reg (.op .p (.op (.cl [.slice, .val]) (.op .p (.op .p (.op .p (.op .p (.op .p (.nil))))))))) (.seq (.reg (.op .p (.op (.cl [.slice, .val]) (.op .p (.op .p (.op .p (.op .p (.op .p (.nil))))))))) (.seq (.seq (.join [55, 56, 57, 58, 59, 60, 61, 62, 63, 64] [64] [.bool] (.reg (.op .p (.op (.ld (.bool)) (.op .p (.sp 57 (.op .p (.op .p (.op .p (.op .p (.op .p (.op .p (.op .p (.nil)))))))) (.op .p (.op (.ld (.bool)) (.op .p (.op .p (.sp 61 (.op .p (.op .p (.op .p (.nil)))) (.op .p (.op (.ld (.bool)) (.op .p (.nil))))))))))))))) (.cond (.seq (.reg (.op .p (.nil))) (.leaf)) (.leaf))) (.seq (.reg (.op .p (.op .p (.op (.r (.slice)) (.op (.cl [.slice, .val]) (.op .p (.op .p (.op .p (.op .p (.op .p (.nil))))))))))) (.seq (.reg (.op .p (.op .p (.op (.r (.slice)) (.op (.cl [.slice, .val]) (.op .p (.op .p (.op .p (.op .p (.op .p (.nil))))))))))) (.seq (.reg (.op .p (.op .p (.op (.r (.slice)) (.op (.cl [.slice, .val]) (.op .p (.op .p (.op .p (.op .p (.op .p (.nil))))))))))) (.seq (.reg (.op .p (.op .p (.op (.r (.slice)) (.op (.cl [.slice, .val]) (.op .p (.op .p (.op .p (.op .p (.op .p (.nil))))))))))) (.seq (.reg (.op .p (.op .p (.op .p (.op (.r (.slice)) (.op (.cl [.slice, .val]) (.op .p (.op .p (.op .p (.op .p (.op .p (.nil)))))))))))) (.seq (.reg (.op .p (.op .p (.op (.r (.slice)) (.op (.cl [.slice, .val]) (.op .p (.op .p (.op .p (.op .p (.op .p (.nil))))))))))) (.seq (.reg (.op (.r (.slice)) (.op .p (.op (.r (.slice)) (.op .p (.op (.r (.slice)) (.op .p (.op (.r (.slice)) (.op (.cl [.slice, .val]) (.op .p (.op .p (.op .p (.op .p (.op .p (.nil))))))))))))))) (.seq (.reg (.op .p (.op (.ld (.bool)) (.op .p (.sp 121 (.op .p (.op (.ld (.bool)) (.op .p (.op .p (.sp 125 (.op .p (.op .p (.op (.cl [.bool]) (.op .p (.op .p (.sp 130 (.op .p (.op .p (.op (.cl [.bool]) (.op .p (.op .p (.sp 135 (.op .p (.op .p (.op (.cl [.bool]) (.op .p (.op .p (.sp 140 (.op .p (.op .p (.op (.cl [.bool]) (.op .p (.op .p (.sp 145 (.op .p (.op (.cl [.val]) (.op (.ld (.bool)) (.op .p (.op .p (.nil)))))) (.op .p (.op .p (.op .p (.op .p (.op .p (.nil)))))))))))) (.op .p (.op .p (.op .p (.op .p (.op .p (.op .p (.op .p (.op .p (.op .p (.op .p (.nil))))))))))))))))) (.op .p (.op .p (.op .p (.op .p (.op .p (.op .p (.op .p (.op .p (.op .p (.op .p (.op .p (.op .p (.op .p (.op .p (.op .p (.nil)))))))))))))))))))))) (.op .p (.op .p (.op .p (.op .p (.op .p (.op .p (.op .p (.op .p (.op .p (.op .p (.op .p (.op .p (.op .p (.op .p (.op .p (.op .p (.op .p (.op .p (.op .p (.op .p (.nil))))))))))))))))))))))))))) (.op .p (.op .p (.op .p (.op .p (.op .p (.op .p (.op .p (.op .p (.op .p (.op .p (.op .p (.op .p (.op .p (.op .p (.op .p (.op .p (.op .p (.op .p (.op .p (.op .p (.op .p (.op .p (.op .p (.op .p (.op .p (.nil))))))))))))))))))))))))))))))) (.op .p (.op .p (.op .p (.op .p (.op .p (.op .p (.op .p (.op .p (.op .p (.op .p (.op .p (.op .p (.op .p (.op .p (.op .p (.op .p (.op .p (.op .p (.op .p (.op .p (.op .p (.op .p (.op .p (.op .p (.op .p (.op .p (.op .p (.op .p (.op .p (.nil))))))))))))))))))))))))))))))))))) (.leaf))))))))))))))))
    (by kernel_rfl) Try.func4 (by kernel_rfl) (by kernel_rfl) (by kernel_rfl) (by kernel_rfl) h

set_option maxRecDepth 100000 in
theorem amphoralaw14_IndexPlays_vc (a0a : Option Addr) (a0n : Nat) (a0c : Nat) (a1 : Array Value) (w : World) (R : Ending → World → Prop) (h :
  ∃ (g3 : Nat) (w1 : World), (Instr.box 40 (.agg a1)).run Try.prog w = .ok (.pointer (some ⟨g3, 0, none⟩)) w1 ∧
  (Calls Try.prog 9 #[] w1 fun (e19 : Ending) (w2 : World) => ∃ (t19 : Bool), e19 = .returned (.bool t19) ∧
    (((!t19) = true →
        (R (.returned (.bool false)) w2)) ∧
      ((!t19) = false →
        (((decide (((a0n : Nat) : Int) > (60 : Int))) = true →
            (R (.returned (.bool true)) w2)) ∧
          ((decide (((a0n : Nat) : Int) > (60 : Int))) = false →
            (Calls Try.prog 18 #[] w2 fun (e24 : Ending) (w3 : World) => ∃ (t24b : Nat) (t24o : Nat), e24 = .returned (.pointer (some ⟨t24b, t24o, none⟩)) ∧
              (∃ (I : Option Addr → Nat → Nat → Int → World → Prop) (μ : Option Addr → Nat → Nat → Int → World → Nat), I none 0 0 0 w3 ∧
                (∀ (x6a : Option Addr) (x6n : Nat) (x6c : Nat) (x29 : Int), ∀ w4 : World, I x6a x6n x6c x29 w4 →
                  (((decide (x29 < ((a0n : Nat) : Int))) = true →
                      (∃ (t31b t31o : Nat), a0a = some ⟨t31b, t31o, none⟩ ∧ 0 ≤ x29 ∧ x29 < ((a0n : Nat) : Int) ∧
                        (∃ (t32 : Array Value), (Instr.loadAt 45 (.pointer (some ⟨t31b, t31o + Int.toNat x29 * 3, none⟩))).run Try.prog w4 = .ok (.agg t32) w4 ∧
                          (∃ (g8 : Nat) (w5 : World), (Instr.alloc 45 true (.tuple #[])).run Try.prog w4 = .ok (.pointer (some ⟨g8, 0, none⟩)) w5 ∧
                            (∃ w6 : World, (Instr.storeAt 45 (.pointer (some ⟨g8, 0, none⟩)) (.agg t32)).run Try.prog w5 = .ok () w6 ∧
                              (∃ J : Bool → World → Prop, (∃ (t34a : Option Addr) (t34n : Nat) (t34c : Nat), (Instr.loadAt 24 (.pointer (some ⟨g8, 1, none⟩))).run Try.prog w6 = .ok (.slice t34a t34n t34c) w6 ∧
                                  (((decide (((t34n : Nat) : Int) > (60 : Int))) = true →
                                      (J true w6)) ∧
                                    ((decide (((t34n : Nat) : Int) > (60 : Int))) = false →
                                      (∃ (t39a : Option Addr) (t39n : Nat) (t39c : Nat), (Instr.loadAt 43 (.pointer (some ⟨g8, 2, none⟩))).run Try.prog w6 = .ok (.slice t39a t39n t39c) w6 ∧
                                        (J (decide (((t39n : Nat) : Int) > (60 : Int))) w6))))) ∧
                                (∀ (x42 : Bool), ∀ w7 : World, J x42 w7 →
                                  ((x42 = true →
                                      (R (.returned (.bool true)) w7)) ∧
                                    (x42 = false →
                                      (∃ (t44 : Int), (Instr.loadAt 3 (.pointer (some ⟨g8, 0, none⟩))).run Try.prog w7 = .ok (.int .i64 t44) w7 ∧
                                        (∃ J_1 : Option Addr → Nat → Nat → World → Prop, (((t44 == (0 : Int)) = true →
                                              (∃ (t47a : Option Addr) (t47n : Nat) (t47c : Nat), (Instr.loadAt 24 (.pointer (some ⟨g8, 1, none⟩))).run Try.prog w7 = .ok (.slice t47a t47n t47c) w7 ∧
                                                (Calls Try.prog 10 #[(.slice t47a t47n t47c)] w7 fun (e48 : Ending) (w8 : World) => ∃ (t48a : Option Addr) (t48n : Nat) (t48c : Nat), e48 = .returned (.slice t48a t48n t48c) ∧
                                                  (Calls Try.prog 19 #[(.pointer (some ⟨t24b, t24o, none⟩)), (.slice t48a t48n t48c)] w8 fun (e51 : Ending) (w9 : World) => ∃ (t51 : Value), e51 = .returned t51 ∧
                                                    (∃ (t55a : Option Addr) (t55n : Nat) (t55c : Nat), (Instr.loadAt 24 (.pointer (some ⟨g8, 1, none⟩))).run Try.prog w9 = .ok (.slice t55a t55n t55c) w9 ∧
                                                      (Calls Try.prog 20 #[(.slice x6a x6n x6c), (.slice t55a t55n t55c)] w9 fun (e56 : Ending) (w10 : World) => ∃ (t56_0a : Option Addr) (t56_0n : Nat) (t56_0c : Nat) (t56_1 : Int), e56 = .returned (.tuple #[(.slice t56_0a t56_0n t56_0c), (.int .i64 t56_1)]) ∧
                                                        (∃ J_2 : Bool → World → Prop, (Calls Try.prog 15 #[t51] w10 fun (e60 : Ending) (w11 : World) => ∃ (t60 : Int), e60 = .returned (.int .i64 t60) ∧
                                                            (((t60 != t56_1) = true →
                                                                (J_2 true w11)) ∧
                                                              ((t60 != t56_1) = false →
                                                                (∃ (t66a : Option Addr) (t66n : Nat) (t66c : Nat), (Instr.loadAt 24 (.pointer (some ⟨g8, 1, none⟩))).run Try.prog w11 = .ok (.slice t66a t66n t66c) w11 ∧
                                                                  (Calls Try.prog 13 #[(.slice t48a t48n t48c), (.slice t66a t66n t66c)] w11 fun (e67 : Ending) (w12 : World) => ∃ (t67 : Bool), e67 = .returned (.bool t67) ∧
                                                                    (J_2 (!t67) w12)))))) ∧
                                                          (∀ (x69 : Bool), ∀ w13 : World, J_2 x69 w13 →
                                                            ((x69 = true →
                                                                (R (.returned (.bool false)) w13)) ∧
                                                              (x69 = false →
                                                                (∃ J_3 : Option Addr → Nat → Nat → World → Prop, (((t56_1 == (0 : Int)) = true →
                                                                      (J_3 t56_0a t56_0n t56_0c w13)) ∧
                                                                    ((t56_1 == (0 : Int)) = false →
                                                                      (J_3 x6a x6n x6c w13))) ∧
                                                                  (∀ (x6a_1 : Option Addr) (x6n_1 : Nat) (x6c_1 : Nat), ∀ w14 : World, J_3 x6a_1 x6n_1 x6c_1 w14 →
                                                                    (J_1 x6a_1 x6n_1 x6c_1 w14))))))))))))) ∧
                                            ((t44 == (0 : Int)) = false →
                                              (∃ (t75a : Option Addr) (t75n : Nat) (t75c : Nat), (Instr.loadAt 43 (.pointer (some ⟨g8, 2, none⟩))).run Try.prog w7 = .ok (.slice t75a t75n t75c) w7 ∧
                                                (Calls Try.prog 21 #[(.pointer (some ⟨t24b, t24o, none⟩)), (.slice t75a t75n t75c)] w7 fun (e76 : Ending) (w15 : World) => e76 = .returned (.tuple #[]) ∧
                                                  (∃ (t79a : Option Addr) (t79n : Nat) (t79c : Nat), (Instr.loadAt 43 (.pointer (some ⟨g8, 2, none⟩))).run Try.prog w15 = .ok (.slice t79a t79n t79c) w15 ∧
                                                    (Calls Try.prog 22 #[(.slice x6a x6n x6c), (.slice t79a t79n t79c)] w15 fun (e80 : Ending) (w16 : World) => ∃ (t80a : Option Addr) (t80n : Nat) (t80c : Nat), e80 = .returned (.slice t80a t80n t80c) ∧
                                                      (J_1 t80a t80n t80c w16))))))) ∧
                                          (∀ (x6a_1 : Option Addr) (x6n_1 : Nat) (x6c_1 : Nat), ∀ w17 : World, J_1 x6a_1 x6n_1 x6c_1 w17 →
                                            (Calls Try.prog 23 #[(.pointer (some ⟨t24b, t24o, none⟩))] w17 fun (e82 : Ending) (w18 : World) => ∃ (t82a : Option Addr) (t82n : Nat) (t82c : Nat), e82 = .returned (.slice t82a t82n t82c) ∧
                                              (∃ (t85 : Array Value), (Instr.loadAt 40 (.pointer (some ⟨g3, 0, none⟩))).run Try.prog w18 = .ok (.agg t85) w18 ∧
                                                (Calls Try.prog 24 #[(.pointer (some ⟨t24b, t24o, none⟩)), (.agg t85)] w18 fun (e86 : Ending) (w19 : World) => ∃ (t86_0 : Array Value) (t86_1 : Bool), e86 = .returned (.tuple #[(.agg t86_0), (.bool t86_1)]) ∧
                                                  (∃ (g14 : Nat) (w20 : World), (Instr.alloc 52 true (.tuple #[])).run Try.prog w19 = .ok (.pointer (some ⟨g14, 0, none⟩)) w20 ∧
                                                    (∃ w21 : World, (Instr.storeAt 52 (.pointer (some ⟨g14, 0, none⟩)) (.agg t86_0)).run Try.prog w20 = .ok () w21 ∧
                                                      (∃ (t91 : Array Value), (Instr.loadAt 40 (.pointer (some ⟨g3, 0, none⟩))).run Try.prog w21 = .ok (.agg t91) w21 ∧
                                                        (Calls Try.prog 25 #[(.slice x6a_1 x6n_1 x6c_1), (.agg t91)] w21 fun (e92 : Ending) (w22 : World) => ∃ (t92_0 : Array Value) (t92_1 : Bool), e92 = .returned (.tuple #[(.agg t92_0), (.bool t92_1)]) ∧
                                                          (∃ (g16 : Nat) (w23 : World), (Instr.alloc 52 true (.tuple #[])).run Try.prog w22 = .ok (.pointer (some ⟨g16, 0, none⟩)) w23 ∧
                                                            (∃ w24 : World, (Instr.storeAt 52 (.pointer (some ⟨g16, 0, none⟩)) (.agg t92_0)).run Try.prog w23 = .ok () w24 ∧
                                                              (∃ J_2 : Bool → World → Prop, (Calls Try.prog 26 #[(.pointer (some ⟨t24b, t24o, none⟩))] w24 fun (e96 : Ending) (w25 : World) => ∃ (t96 : Int), e96 = .returned (.int .i64 t96) ∧
                                                                  (((t96 != ((x6n_1 : Nat) : Int)) = true →
                                                                      (J_2 true w25)) ∧
                                                                    ((t96 != ((x6n_1 : Nat) : Int)) = false →
                                                                      (Calls Try.prog 14 #[(.slice t82a t82n t82c), (.slice x6a_1 x6n_1 x6c_1)] w25 fun (e103 : Ending) (w26 : World) => ∃ (t103 : Bool), e103 = .returned (.bool t103) ∧
                                                                        (((!t103) = true →
                                                                            (J_2 true w26)) ∧
                                                                          ((!t103) = false →
                                                                            (∃ (t107 : Array Value), (Instr.loadAt 52 (.pointer (some ⟨g14, 0, none⟩))).run Try.prog w26 = .ok (.agg t107) w26 ∧
                                                                              (∃ (t108 : Array Value), (Instr.loadAt 52 (.pointer (some ⟨g16, 0, none⟩))).run Try.prog w26 = .ok (.agg t108) w26 ∧
                                                                                (∃ (t109 : Bool), (eqlS .neq 52 (.tmp 107) (.tmp 108) (.agg t107) (.agg t108)).run Try.prog w26 = .ok (.bool t109) w26 ∧
                                                                                (J_2 (t109 || (!(t86_1 == t92_1))) w26)))))))))) ∧
                                                                (∀ (x115 : Bool), ∀ w27 : World, J_2 x115 w27 →
                                                                  ((x115 = true →
                                                                      (R (.returned (.bool false)) w27)) ∧
                                                                    (x115 = false →
                                                                      (∃ (I_1 : Int → World → Prop) (μ_1 : Int → World → Nat), I_1 0 w27 ∧
                                                                        (∀ (x118 : Int), ∀ w28 : World, I_1 x118 w28 →
                                                                          (((decide (x118 < ((t82n : Nat) : Int))) = true →
                                                                              (∃ (t123 : Array Value), (Instr.build 52 #[]).run Try.prog w28 = .ok (.agg t123) w28 ∧
                                                                                (∃ (t124b t124o : Nat), t82a = some ⟨t124b, t124o, none⟩ ∧ 0 ≤ x118 ∧ x118 < ((t82n : Nat) : Int) ∧
                                                                                (∃ w29 : World, (Instr.storeAt 52 (.pointer (some ⟨t124b, t124o + Int.toNat x118 * 35, none⟩)) (.agg t123)).run Try.prog w28 = .ok () w29 ∧
                                                                                (I_1 (IntKind.wrap .i64 (x118 + (1 : Int))) w29 ∧ μ_1 (IntKind.wrap .i64 (x118 + (1 : Int))) w29 < μ_1 x118 w28))))) ∧
                                                                            ((decide (x118 < ((t82n : Nat) : Int))) = false →
                                                                              (I x6a_1 x6n_1 x6c_1 (IntKind.wrap .i64 (x29 + (1 : Int))) w28 ∧ μ x6a_1 x6n_1 x6c_1 (IntKind.wrap .i64 (x29 + (1 : Int))) w28 < μ x6a x6n x6c x29 w4)))))))))))))))))))))))))))))) ∧
                    ((decide (x29 < ((a0n : Nat) : Int))) = false →
                      (R (.returned (.bool true)) w4)))))))))))) : Calls Try.prog 5 #[(.slice a0a a0n a0c), (.agg a1)] w R :=
  calls_of_ev (args := [(.slice a0a a0n a0c), (.agg a1)])
    (tc := .seq (.reg (.op .bx (.op .p (.nil)))) (.seq (.seq (.reg (.op (.cl [.bool]) (.op .p (.nil)))) (.cond (.seq (.reg (.op .p (.nil))) (.leaf)) (.leaf))) (.seq (.seq (.reg (.op .p (.op .p (.op .p (.nil))))) (.cond (.seq (.reg (.op .p (.nil))) (.leaf)) (.leaf))) (.seq (.reg (.op (.cl [.ptr]) (.op .p (.nil)))) (.seq (.reg (.op .p (.nil))) (.seq (.seq (.reg (.op .p (.op .p (.nil)))) (.cf (.leaf))) (.seq (.seq (.reg (.op .p (.op .p (.op .p (.nil))))) (.blk (.loop [4, 6, 8, 9, 10, 11, 12, 13, 14, 15, 16, 17, 18, 29, 30, 31, 32, 33, 34, 35, 36, 37, 38, 39, 40, 41, 42, 43, 44, 45, 46, 47, 48, 49, 50, 51, 52, 53, 54, 55, 56, 57, 58, 59, 60, 61, 62, 63, 64, 65, 66, 67, 68, 69, 70, 71, 72, 73, 74, 75, 76, 77, 78, 79, 80, 81, 82, 83, 84, 85, 86, 87, 88, 89, 90, 91, 92, 93, 94, 95, 96, 97, 98, 99, 100, 101, 102, 103, 104, 105, 106, 107, 108, 109, 110, 111, 112, 113, 114, 115, 116, 117, 118, 119, 120, 121, 122, 123, 124, 125, 126] [6, 29] [.slice, .int .i64] (.seq (.reg (.op .p (.nil))) (.seq (.cond (.leaf) (.leaf)) (.seq (.blk (.seq (.reg (.op .ix (.op (.ld (.agg)) (.op .bx (.op .u (.nil)))))) (.seq (.seq (.join [33, 34, 35, 36, 37, 38, 39, 40, 41, 42] [42] [.bool] (.reg (.op .p (.op (.ld (.slice)) (.op .p (.op .p (.op .p (.sp 37 (.op .p (.op .p (.op .p (.op .p (.op .p (.nil)))))) (.op .p (.op (.ld (.slice)) (.op .p (.op .p (.op .p (.nil)))))))))))))) (.cond (.seq (.reg (.op .p (.nil))) (.leaf)) (.leaf))) (.seq (.seq (.reg (.op .p (.op (.ld (.int .i64)) (.op .p (.nil))))) (.join [4, 6, 9, 10, 11, 12, 46, 47, 48, 49, 50, 51, 52, 53, 54, 55, 56, 57, 58, 59, 60, 61, 62, 63, 64, 65, 66, 67, 68, 69, 70, 71, 72, 73, 74, 75, 76, 77, 78, 79, 80] [6] [.slice] (.cond (.seq (.reg (.op .p (.op (.ld (.slice)) (.op (.cl [.slice]) (.op .p (.nil)))))) (.seq (.reg (.op .p (.op .p (.op (.cl [.val]) (.op .p (.nil)))))) (.seq (.reg (.op .p (.op .p (.op (.ld (.slice)) (.op (.cl [.slice, .int .i64]) (.op .p (.op .p (.op .p (.op .p (.op .p (.nil))))))))))) (.seq (.seq (.join [59, 60, 61, 62, 63, 64, 65, 66, 67, 68, 69] [69] [.bool] (.reg (.op .p (.op (.cl [.int .i64]) (.op .p (.op .p (.op .p (.sp 63 (.op .p (.op .p (.op .p (.op .p (.op .p (.op .p (.nil))))))) (.op .p (.op .p (.op (.ld (.slice)) (.op (.cl [.bool]) (.op .p (.op .p (.nil))))))))))))))) (.cond (.seq (.reg (.op .p (.nil))) (.leaf)) (.leaf))) (.seq (.reg (.op .p (.op .p (.nil)))) (.join [6, 72] [6] [.slice] (.cond (.reg (.op .p (.op .p (.nil)))) (.leaf)))))))) (.seq (.reg (.op .p (.op .p (.op (.ld (.slice)) (.op (.cl []) (.nil)))))) (.reg (.op .p (.op .p (.op (.ld (.slice)) (.op (.cl [.slice]) (.op .p (.nil))))))))))) (.seq (.reg (.op .p (.op (.cl [.slice]) (.op .p (.nil))))) (.seq (.reg (.op .p (.op (.ld (.agg)) (.op (.cl [.agg, .bool]) (.op .p (.op .p (.op .p (.op .bx (.op .u (.op .p (.nil))))))))))) (.seq (.reg (.op .p (.op (.ld (.agg)) (.op (.cl [.agg, .bool]) (.op .p (.op .p (.op .p (.op .bx (.op .u (.op .p (.nil))))))))))) (.seq (.seq (.join [95, 96, 97, 98, 99, 100, 101, 102, 103, 104, 105, 106, 107, 108, 109, 110, 111, 112, 113, 114, 115] [115] [.bool] (.reg (.op .p (.op (.cl [.int .i64]) (.op .p (.op .p (.op .p (.op .p (.sp 100 (.op .p (.op .p (.op .p (.op .p (.op .p (.op .p (.op .p (.op .p (.op .p (.op .p (.op .p (.op .p (.op .p (.op .p (.op .p (.nil)))))))))))))))) (.op .p (.op .p (.op (.cl [.bool]) (.op .p (.op .p (.op .p (.sp 106 (.op .p (.op .p (.op .p (.op .p (.op .p (.op .p (.op .p (.op .p (.op .p (.nil)))))))))) (.op (.ld (.agg)) (.op (.ld (.agg)) (.op (.ld (.bool)) (.op .p (.op .p (.ap 3 (.nil))))))))))))))))))))))) (.cond (.seq (.reg (.op .p (.nil))) (.leaf)) (.leaf))) (.seq (.reg (.op .p (.op .p (.op .p (.nil))))) (.blk (.loop [18, 118, 119, 120, 121, 122, 123, 124, 125] [118] [.int .i64] (.seq (.reg (.op .p (.nil))) (.seq (.cond (.leaf) (.leaf)) (.seq (.blk (.seq (.reg (.op .p (.op .p (.nil)))) (.reg (.op .p (.op .p (.op (.ld (.agg)) (.op .ix (.op .u (.nil))))))))) (.reg (.op .p (.op .p (.nil)))))))))))))))))) (.reg (.op .p (.op .p (.nil)))))))))) (.seq (.reg (.op .p (.nil))) (.leaf)))))))))
    (by kernel_rfl) Try.func5 (by kernel_rfl) (by kernel_rfl) (by kernel_rfl) (by kernel_rfl) h

set_option maxRecDepth 100000 in
theorem amphoralaw14_IndexNone_vc (a0 : Array Value) (w : World) (R : Ending → World → Prop) (h :
  ∃ (g1 : Nat) (w1 : World), (Instr.box 52 (.agg a0)).run Try.prog w = .ok (.pointer (some ⟨g1, 0, none⟩)) w1 ∧
  (Calls Try.prog 9 #[] w1 fun (e6 : Ending) (w2 : World) => ∃ (t6 : Bool), e6 = .returned (.bool t6) ∧
    (((!t6) = true →
        (R (.returned (.bool false)) w2)) ∧
      ((!t6) = false →
        (∃ (t10 : Int), (Instr.loadAt 3 (.pointer (some ⟨g1, 32, none⟩))).run Try.prog w2 = .ok (.int .i64 t10) w2 ∧
          (∃ (t11a : Option Addr) (t11n : Nat) (t11c : Nat) (w3 : World), (Instr.buildSlice 43 1 #[(0, (.int .i64 t10))]).run Try.prog w2 = .ok (.slice t11a t11n t11c) w3 ∧
            (Calls Try.prog 21 #[(.pointer none), (.slice t11a t11n t11c)] w3 fun (e12 : Ending) (w4 : World) => e12 = .returned (.tuple #[]) ∧
              (∃ (t16 : Array Value), (Instr.loadAt 40 (.pointer (some ⟨g1, 0, none⟩))).run Try.prog w4 = .ok (.agg t16) w4 ∧
                (Calls Try.prog 24 #[(.pointer none), (.agg t16)] w4 fun (e17 : Ending) (w5 : World) => ∃ (t17_0 : Array Value) (t17_1 : Bool), e17 = .returned (.tuple #[(.agg t17_0), (.bool t17_1)]) ∧
                  (∃ (g4 : Nat) (w6 : World), (Instr.alloc 52 true (.tuple #[])).run Try.prog w5 = .ok (.pointer (some ⟨g4, 0, none⟩)) w6 ∧
                    (∃ w7 : World, (Instr.storeAt 52 (.pointer (some ⟨g4, 0, none⟩)) (.agg t17_0)).run Try.prog w6 = .ok () w7 ∧
                      (∃ (t21 : Array Value), (Instr.loadAt 52 (.pointer (some ⟨g1, 0, none⟩))).run Try.prog w7 = .ok (.agg t21) w7 ∧
                        (∃ (t22a : Option Addr) (t22n : Nat) (t22c : Nat) (w8 : World), (Instr.buildSlice 24 1 #[(0, (.agg t21))]).run Try.prog w7 = .ok (.slice t22a t22n t22c) w8 ∧
                          (Calls Try.prog 19 #[(.pointer none), (.slice t22a t22n t22c)] w8 fun (e23 : Ending) (w9 : World) => ∃ (t23 : Value), e23 = .returned t23 ∧
                            (∃ (t25 : Bool), (eqlS .eql 27 (.tmp 23) (.tmp 24) t23 (.iface 58 (.int .i64 28))).run Try.prog w9 = .ok (.bool t25) w9 ∧
                              (((t25 && (!t17_1)) = true →
                                  (∃ (t31 : Array Value), (Instr.loadAt 52 (.pointer (some ⟨g4, 0, none⟩))).run Try.prog w9 = .ok (.agg t31) w9 ∧
                                    (∃ (t32 : Array Value), (Instr.build 52 #[]).run Try.prog w9 = .ok (.agg t32) w9 ∧
                                      (∃ (t33 : Bool), (eqlS .eql 52 (.tmp 31) (.tmp 32) (.agg t31) (.agg t32)).run Try.prog w9 = .ok (.bool t33) w9 ∧
                                        ((t33 = true →
                                            (Calls Try.prog 26 #[(.pointer none)] w9 fun (e37 : Ending) (w10 : World) => ∃ (t37 : Int), e37 = .returned (.int .i64 t37) ∧
                                              (((t37 == (0 : Int)) = true →
                                                  (Calls Try.prog 23 #[(.pointer none)] w10 fun (e42 : Ending) (w11 : World) => ∃ (t42a : Option Addr) (t42n : Nat) (t42c : Nat), e42 = .returned (.slice t42a t42n t42c) ∧
                                                    (R (.returned (.bool (((t42n : Nat) : Int) == (0 : Int)))) w11))) ∧
                                                ((t37 == (0 : Int)) = false →
                                                  (R (.returned (.bool false)) w10))))) ∧
                                          (t33 = false →
                                            (R (.returned (.bool false)) w9))))))) ∧
                                ((t25 && (!t17_1)) = false →
                                  (R (.returned (.bool false)) w9)))))))))))))))))) : Calls Try.prog 6 #[(.agg a0)] w R :=
  calls_of_ev (args := [(.agg a0)])
    (tc := .seq (.reg (.op .bx (.op .p (.nil)))) (.seq (.seq (.reg (.op (.cl [.bool]) (.op .p (.nil)))) (.cond (.seq (.reg (.op .p (.nil))) (.leaf)) (.leaf))) (.seq (.reg (.op .p (.nil))) (.seq (.reg (.op .p (.op .p (.op (.ld (.int .i64)) (.op (.r (.slice)) (.op (.cl []) (.nil))))))) (.seq (.reg (.op .p (.op .p (.op (.ld (.agg)) (.op (.cl [.agg, .bool]) (.op .p (.op .p (.op .p (.op .bx (.op .u (.op .p (.nil)))))))))))) (.seq (.reg (.op .p (.op (.ld (.agg)) (.op (.r (.slice)) (.op (.cl [.val]) (.op .p (.op (.ld (.bool)) (.op .p (.ap 2 (.op .p (.sp 30 (.op (.ld (.agg)) (.op (.ld (.agg)) (.op (.ld (.bool)) (.op .p (.op .p (.sp 35 (.op .p (.op (.cl [.int .i64]) (.op .p (.op .p (.op .p (.sp 40 (.op .p (.op (.cl [.slice]) (.op .p (.op .p (.op .p (.op .p (.nil))))))) (.op .p (.op .p (.op .p (.op .p (.op .p (.op .p (.nil))))))))))))) (.op .p (.op .p (.op .p (.op .p (.op .p (.op .p (.op .p (.op .p (.op .p (.op .p (.op .p (.nil)))))))))))))))))) (.op .p (.op .p (.op .p (.op .p (.op .p (.op .p (.op .p (.op .p (.op .p (.op .p (.op .p (.op .p (.op .p (.op .p (.op .p (.op .p (.nil)))))))))))))))))))))))))))) (.leaf)))))))
    (by kernel_rfl) Try.func6 (by kernel_rfl) (by kernel_rfl) (by kernel_rfl) (by kernel_rfl) h

set_option maxRecDepth 100000 in
theorem amphoralaw14_IndexSegments_vc (a0a : Option Addr) (a0n : Nat) (a0c : Nat) (a1 : Array Value) (a2a : Option Addr) (a2n : Nat) (a2c : Nat) (w : World) (R : Ending → World → Prop) (h :
  ∃ (g4 : Nat) (w1 : World), (Instr.box 40 (.agg a1)).run Try.prog w = .ok (.pointer (some ⟨g4, 0, none⟩)) w1 ∧
  (Calls Try.prog 9 #[] w1 fun (e18 : Ending) (w2 : World) => ∃ (t18 : Bool), e18 = .returned (.bool t18) ∧
    (((!t18) = true →
        (R (.returned (.bool false)) w2)) ∧
      ((!t18) = false →
        ((((decide (((a0n : Nat) : Int) > (300 : Int))) || (decide (((a2n : Nat) : Int) > (300 : Int)))) = true →
            (R (.returned (.bool true)) w2)) ∧
          (((decide (((a0n : Nat) : Int) > (300 : Int))) || (decide (((a2n : Nat) : Int) > (300 : Int)))) = false →
            (Calls Try.prog 10 #[(.slice a0a a0n a0c)] w2 fun (e29 : Ending) (w3 : World) => ∃ (t29a : Option Addr) (t29n : Nat) (t29c : Nat), e29 = .returned (.slice t29a t29n t29c) ∧
              (Calls Try.prog 16 #[(.slice t29a t29n t29c)] w3 fun (e32 : Ending) (w4 : World) => ∃ (t32_0a : Option Addr) (t32_0n : Nat) (t32_0c : Nat) (t32_1 : Value), e32 = .returned (.tuple #[(.slice t32_0a t32_0n t32_0c), t32_1]) ∧
                (Calls Try.prog 20 #[(.slice none 0 0), (.slice a0a a0n a0c)] w4 fun (e37 : Ending) (w5 : World) => ∃ (t37_0a : Option Addr) (t37_0n : Nat) (t37_0c : Nat) (t37_1 : Int), e37 = .returned (.tuple #[(.slice t37_0a t37_0n t37_0c), (.int .i64 t37_1)]) ∧
                  (∃ J : Bool → World → Prop, (Calls Try.prog 14 #[(.slice t32_0a t32_0n t32_0c), (.slice t37_0a t37_0n t37_0c)] w5 fun (e42 : Ending) (w6 : World) => ∃ (t42 : Bool), e42 = .returned (.bool t42) ∧
                      (((!t42) = true →
                          (J true w6)) ∧
                        ((!t42) = false →
                          (Calls Try.prog 15 #[t32_1] w6 fun (e46 : Ending) (w7 : World) => ∃ (t46 : Int), e46 = .returned (.int .i64 t46) ∧
                            (((t46 != t37_1) = true →
                                (J true w7)) ∧
                              ((t46 != t37_1) = false →
                                (Calls Try.prog 17 #[(.slice t29a t29n t29c)] w7 fun (e52 : Ending) (w8 : World) => ∃ (t52 : Value), e52 = .returned t52 ∧
                                  (Calls Try.prog 15 #[t52] w8 fun (e53 : Ending) (w9 : World) => ∃ (t53 : Int), e53 = .returned (.int .i64 t53) ∧
                                    (Calls Try.prog 27 #[(.slice a0a a0n a0c)] w9 fun (e55 : Ending) (w10 : World) => ∃ (t55 : Int), e55 = .returned (.int .i64 t55) ∧
                                      (((t53 != t55) = true →
                                          (J true w10)) ∧
                                        ((t53 != t55) = false →
                                          (Calls Try.prog 28 #[(.slice t29a t29n t29c), (.slice a2a a2n a2c)] w10 fun (e61 : Ending) (w11 : World) => ∃ (t61a : Option Addr) (t61n : Nat) (t61c : Nat), e61 = .returned (.slice t61a t61n t61c) ∧
                                            (Calls Try.prog 22 #[(.slice a0a a0n a0c), (.slice a2a a2n a2c)] w11 fun (e64 : Ending) (w12 : World) => ∃ (t64a : Option Addr) (t64n : Nat) (t64c : Nat), e64 = .returned (.slice t64a t64n t64c) ∧
                                              (Calls Try.prog 14 #[(.slice t61a t61n t61c), (.slice t64a t64n t64c)] w12 fun (e65 : Ending) (w13 : World) => ∃ (t65 : Bool), e65 = .returned (.bool t65) ∧
                                                (((!t65) = true →
                                                    (J true w13)) ∧
                                                  ((!t65) = false →
                                                    (Calls Try.prog 13 #[(.slice t29a t29n t29c), (.slice a0a a0n a0c)] w13 fun (e71 : Ending) (w14 : World) => ∃ (t71 : Bool), e71 = .returned (.bool t71) ∧
                                                      (J (!t71) w14)))))))))))))))))) ∧
                    (∀ (x73 : Bool), ∀ w15 : World, J x73 w15 →
                      ((x73 = true →
                          (R (.returned (.bool false)) w15)) ∧
                        (x73 = false →
                          (∃ (t74 : Array Value), (Instr.loadAt 40 (.pointer (some ⟨g4, 0, none⟩))).run Try.prog w15 = .ok (.agg t74) w15 ∧
                            (∃ (t75 : Array Value), (Instr.build 52 #[(0, (.agg t74))]).run Try.prog w15 = .ok (.agg t75) w15 ∧
                              (∃ (t76a : Option Addr) (t76n : Nat) (t76c : Nat) (w16 : World), (Instr.buildSlice 24 1 #[(0, (.agg t75))]).run Try.prog w15 = .ok (.slice t76a t76n t76c) w16 ∧
                                (∃ (t78a : Option Addr) (t78n : Nat) (t78c : Nat) (w17 : World), (Builtin.append_ #[24, 24] 24 #[(.slice t76a t76n t76c), (.slice a0a a0n a0c)]).run Try.prog w16 = .ok (.slice t78a t78n t78c) w17 ∧
                                  (∃ (I : Int → World → Prop) (μ : Int → World → Nat), I 0 w17 ∧
                                    (∀ (x80 : Int), ∀ w18 : World, I x80 w18 →
                                      (((decide (x80 < ((t78n : Nat) : Int))) = true →
                                          (∃ (t82b t82o : Nat), t78a = some ⟨t82b, t82o, none⟩ ∧ 0 ≤ x80 ∧ x80 < ((t78n : Nat) : Int) ∧
                                            (∃ (t83 : Array Value), (Instr.loadAt 52 (.pointer (some ⟨t82b, t82o + Int.toNat x80 * 35, none⟩))).run Try.prog w18 = .ok (.agg t83) w18 ∧
                                              (∃ (g13 : Nat) (w19 : World), (Instr.alloc 52 true (.tuple #[])).run Try.prog w18 = .ok (.pointer (some ⟨g13, 0, none⟩)) w19 ∧
                                                (∃ w20 : World, (Instr.storeAt 52 (.pointer (some ⟨g13, 0, none⟩)) (.agg t83)).run Try.prog w19 = .ok () w20 ∧
                                                  (∃ (t87 : Array Value), (Instr.loadAt 40 (.pointer (some ⟨g13, 0, none⟩))).run Try.prog w20 = .ok (.agg t87) w20 ∧
                                                    (Calls Try.prog 29 #[(.slice t32_0a t32_0n t32_0c), (.agg t87)] w20 fun (e88 : Ending) (w21 : World) => ∃ (t88_0 : Array Value) (t88_1 : Bool), e88 = .returned (.tuple #[(.agg t88_0), (.bool t88_1)]) ∧
                                                      (∃ (g14 : Nat) (w22 : World), (Instr.alloc 52 true (.tuple #[])).run Try.prog w21 = .ok (.pointer (some ⟨g14, 0, none⟩)) w22 ∧
                                                        (∃ w23 : World, (Instr.storeAt 52 (.pointer (some ⟨g14, 0, none⟩)) (.agg t88_0)).run Try.prog w22 = .ok () w23 ∧
                                                          (∃ (t94 : Array Value), (Instr.loadAt 40 (.pointer (some ⟨g13, 0, none⟩))).run Try.prog w23 = .ok (.agg t94) w23 ∧
                                                            (Calls Try.prog 25 #[(.slice t37_0a t37_0n t37_0c), (.agg t94)] w23 fun (e95 : Ending) (w24 : World) => ∃ (t95_0 : Array Value) (t95_1 : Bool), e95 = .returned (.tuple #[(.agg t95_0), (.bool t95_1)]) ∧
                                                              (∃ (g16 : Nat) (w25 : World), (Instr.alloc 52 true (.tuple #[])).run Try.prog w24 = .ok (.pointer (some ⟨g16, 0, none⟩)) w25 ∧
                                                                (∃ w26 : World, (Instr.storeAt 52 (.pointer (some ⟨g16, 0, none⟩)) (.agg t95_0)).run Try.prog w25 = .ok () w26 ∧
                                                                  (∃ (t98 : Array Value), (Instr.loadAt 52 (.pointer (some ⟨g14, 0, none⟩))).run Try.prog w26 = .ok (.agg t98) w26 ∧
                                                                    (∃ (t99 : Array Value), (Instr.loadAt 52 (.pointer (some ⟨g16, 0, none⟩))).run Try.prog w26 = .ok (.agg t99) w26 ∧
                                                                      (∃ (t100 : Bool), (eqlS .neq 52 (.tmp 98) (.tmp 99) (.agg t98) (.agg t99)).run Try.prog w26 = .ok (.bool t100) w26 ∧
                                                                        (((t100 || (!(t88_1 == t95_1))) = true →
                                                                            (R (.returned (.bool false)) w26)) ∧
                                                                          ((t100 || (!(t88_1 == t95_1))) = false →
                                                                            (I (IntKind.wrap .i64 (x80 + (1 : Int))) w26 ∧ μ (IntKind.wrap .i64 (x80 + (1 : Int))) w26 < μ x80 w18))))))))))))))))))) ∧
                                        ((decide (x80 < ((t78n : Nat) : Int))) = false →
                                          (R (.returned (.bool true)) w18)))))))))))))))))))))) : Calls Try.prog 7 #[(.slice a0a a0n a0c), (.agg a1), (.slice a2a a2n a2c)] w R :=
  calls_of_ev (args := [(.slice a0a a0n a0c), (.agg a1), (.slice a2a a2n a2c)])
    (tc := .seq (.reg (.op .bx (.op .p (.nil)))) (.seq (.seq (.reg (.op (.cl [.bool]) (.op .p (.nil)))) (.cond (.seq (.reg (.op .p (.nil))) (.leaf)) (.leaf))) (.seq (.seq (.reg (.op .p (.op .p (.op .p (.op .p (.ap 3 (.nil))))))) (.cond (.seq (.reg (.op .p (.nil))) (.leaf)) (.leaf))) (.seq (.reg (.op .p (.op (.cl [.slice]) (.op .p (.nil))))) (.seq (.reg (.op .p (.op (.cl [.slice, .val]) (.op .p (.op .p (.op .p (.op .p (.op .p (.nil))))))))) (.seq (.reg (.op .p (.op (.cl [.slice, .int .i64]) (.op .p (.op .p (.op .p (.op .p (.op .p (.nil))))))))) (.seq (.seq (.join [40, 41, 42, 43, 44, 45, 46, 47, 48, 49, 50, 51, 52, 53, 54, 55, 56, 57, 58, 59, 60, 61, 62, 63, 64, 65, 66, 67, 68, 69, 70, 71, 72, 73] [73] [.bool] (.reg (.op .p (.op .p (.op (.cl [.bool]) (.op .p (.op .p (.sp 44 (.op .p (.op .p (.op .p (.op .p (.op .p (.op .p (.op .p (.op .p (.op .p (.op .p (.op .p (.op .p (.op .p (.op .p (.op .p (.op .p (.op .p (.op .p (.op .p (.op .p (.op .p (.op .p (.op .p (.op .p (.op .p (.op .p (.op .p (.op .p (.op .p (.nil)))))))))))))))))))))))))))))) (.op .p (.op (.cl [.int .i64]) (.op .p (.op .p (.op .p (.op .p (.sp 50 (.op .p (.op .p (.op .p (.op .p (.op .p (.op .p (.op .p (.op .p (.op .p (.op .p (.op .p (.op .p (.op .p (.op .p (.op .p (.op .p (.op .p (.op .p (.op .p (.op .p (.op .p (.op .p (.op .p (.nil)))))))))))))))))))))))) (.op .p (.op (.cl [.val]) (.op (.cl [.int .i64]) (.op .p (.op (.cl [.int .i64]) (.op .p (.op .p (.op .p (.sp 58 (.op .p (.op .p (.op .p (.op .p (.op .p (.op .p (.op .p (.op .p (.op .p (.op .p (.op .p (.op .p (.op .p (.op .p (.op .p (.nil)))))))))))))))) (.op .p (.op .p (.op (.cl [.slice]) (.op .p (.op .p (.op (.cl [.slice]) (.op (.cl [.bool]) (.op .p (.op .p (.op .p (.sp 68 (.op .p (.op .p (.op .p (.op .p (.op .p (.nil)))))) (.op .p (.op .p (.op (.cl [.bool]) (.op .p (.op .p (.nil))))))))))))))))))))))))))))))))))))))))) (.cond (.seq (.reg (.op .p (.nil))) (.leaf)) (.leaf))) (.seq (.seq (.reg (.op (.ld (.agg)) (.op (.ld (.agg)) (.op (.r (.slice)) (.op .p (.op (.r (.slice)) (.op .p (.op .p (.nil))))))))) (.blk (.loop [6, 13, 14, 15, 16, 17, 80, 81, 82, 83, 84, 85, 86, 87, 88, 89, 90, 91, 92, 93, 94, 95, 96, 97, 98, 99, 100, 101, 102, 103, 104, 105, 106] [80] [.int .i64] (.seq (.reg (.op .p (.nil))) (.seq (.cond (.leaf) (.leaf)) (.seq (.blk (.seq (.reg (.op .ix (.op (.ld (.agg)) (.op .bx (.op .u (.nil)))))) (.seq (.reg (.op .p (.op .p (.op (.ld (.agg)) (.op (.cl [.agg, .bool]) (.op .p (.op .p (.op .p (.op .bx (.op .u (.op .p (.nil)))))))))))) (.seq (.reg (.op .p (.op .p (.op (.ld (.agg)) (.op (.cl [.agg, .bool]) (.op .p (.op .p (.op .p (.op .bx (.op .u (.op .p (.nil)))))))))))) (.seq (.reg (.op (.ld (.agg)) (.op (.ld (.agg)) (.op (.ld (.bool)) (.op .p (.ap 3 (.nil))))))) (.cond (.seq (.reg (.op .p (.nil))) (.leaf)) (.leaf))))))) (.reg (.op .p (.op .p (.nil)))))))))) (.seq (.reg (.op .p (.nil))) (.leaf))))))))))
    (by kernel_rfl) Try.func7 (by kernel_rfl) (by kernel_rfl) (by kernel_rfl) (by kernel_rfl) h

set_option maxRecDepth 100000 in
theorem amphoralaw14_IndexBytes_vc (a0a : Option Addr) (a0n : Nat) (a0c : Nat) (a1a : Option Addr) (a1n : Nat) (a1c : Nat) (w : World) (R : Ending → World → Prop) (h :
  Calls Try.prog 9 #[] w fun (e18 : Ending) (w1 : World) => ∃ (t18 : Bool), e18 = .returned (.bool t18) ∧
  (((!t18) = true →
      (R (.returned (.bool false)) w1)) ∧
    ((!t18) = false →
      ((((decide (((a0n : Nat) : Int) > (300 : Int))) || (decide (((a1n : Nat) : Int) > (16384 : Int)))) = true →
          (R (.returned (.bool true)) w1)) ∧
        (((decide (((a0n : Nat) : Int) > (300 : Int))) || (decide (((a1n : Nat) : Int) > (16384 : Int)))) = false →
          (Calls Try.prog 10 #[(.slice a0a a0n a0c)] w1 fun (e29 : Ending) (w2 : World) => ∃ (t29a : Option Addr) (t29n : Nat) (t29c : Nat), e29 = .returned (.slice t29a t29n t29c) ∧
            (Calls Try.prog 30 #[(.slice t29a t29n t29c)] w2 fun (e32 : Ending) (w3 : World) => ∃ (t32_0a : Option Addr) (t32_0n : Nat) (t32_0c : Nat) (t32_1 : Value), e32 = .returned (.tuple #[(.slice t32_0a t32_0n t32_0c), t32_1]) ∧
              (Calls Try.prog 31 #[(.slice a0a a0n a0c)] w3 fun (e37 : Ending) (w4 : World) => ∃ (t37_0a : Option Addr) (t37_0n : Nat) (t37_0c : Nat) (t37_1 : Int), e37 = .returned (.tuple #[(.slice t37_0a t37_0n t37_0c), (.int .i64 t37_1)]) ∧
                (Calls Try.prog 32 #[(.slice a1a a1n a1c)] w4 fun (e41 : Ending) (w5 : World) => ∃ (t41a : Option Addr) (t41n : Nat) (t41c : Nat), e41 = .returned (.slice t41a t41n t41c) ∧
                  (Calls Try.prog 33 #[(.slice t41a t41n t41c)] w5 fun (e44 : Ending) (w6 : World) => ∃ (t44_0a : Option Addr) (t44_0n : Nat) (t44_0c : Nat) (t44_1 : Value), e44 = .returned (.tuple #[(.slice t44_0a t44_0n t44_0c), t44_1]) ∧
                    (Calls Try.prog 34 #[(.slice a1a a1n a1c)] w6 fun (e49 : Ending) (w7 : World) => ∃ (t49_0a : Option Addr) (t49_0n : Nat) (t49_0c : Nat) (t49_1 : Int), e49 = .returned (.tuple #[(.slice t49_0a t49_0n t49_0c), (.int .i64 t49_1)]) ∧
                      (∃ J : Bool → World → Prop, (∃ (t53 : ByteArray), (convert 63 9 (.slice t32_0a t32_0n t32_0c)).run Try.prog w7 = .ok (.string t53) w7 ∧
                          (∃ (t55 : ByteArray), (convert 63 9 (.slice t37_0a t37_0n t37_0c)).run Try.prog w7 = .ok (.string t55) w7 ∧
                            (((!(t53.toList == t55.toList)) = true →
                                (J true w7)) ∧
                              ((!(t53.toList == t55.toList)) = false →
                                (Calls Try.prog 15 #[t32_1] w7 fun (e59 : Ending) (w8 : World) => ∃ (t59 : Int), e59 = .returned (.int .i64 t59) ∧
                                  (((t59 != t37_1) = true →
                                      (J true w8)) ∧
                                    ((t59 != t37_1) = false →
                                      (Calls Try.prog 14 #[(.slice t44_0a t44_0n t44_0c), (.slice t49_0a t49_0n t49_0c)] w8 fun (e66 : Ending) (w9 : World) => ∃ (t66 : Bool), e66 = .returned (.bool t66) ∧
                                        (((!t66) = true →
                                            (J true w9)) ∧
                                          ((!t66) = false →
                                            (Calls Try.prog 15 #[t44_1] w9 fun (e71 : Ending) (w10 : World) => ∃ (t71 : Int), e71 = .returned (.int .i64 t71) ∧
                                              (((t71 != t49_1) = true →
                                                  (J true w10)) ∧
                                                ((t71 != t49_1) = false →
                                                  (Calls Try.prog 13 #[(.slice t29a t29n t29c), (.slice a0a a0n a0c)] w10 fun (e78 : Ending) (w11 : World) => ∃ (t78 : Bool), e78 = .returned (.bool t78) ∧
                                                    (((!t78) = true →
                                                        (J true w11)) ∧
                                                      ((!t78) = false →
                                                        (Calls Try.prog 35 #[(.slice t41a t41n t41c), (.slice a1a a1n a1c)] w11 fun (e84 : Ending) (w12 : World) => ∃ (t84 : Bool), e84 = .returned (.bool t84) ∧
                                                          (J (!t84) w12)))))))))))))))))) ∧
                        (∀ (x86 : Bool), ∀ w13 : World, J x86 w13 →
                          ((x86 = true →
                              (R (.returned (.bool false)) w13)) ∧
                            (x86 = false →
                              (∃ (t88 : Bool), (eqlS .eql 27 (.tmp 87) (.const .nilIface) t32_1 .nilIface).run Try.prog w13 = .ok (.bool t88) w13 ∧
                                (∃ J_1 : World → Prop, ((t88 = true →
                                      (Calls Try.prog 33 #[(.slice t32_0a t32_0n t32_0c)] w13 fun (e91 : Ending) (w14 : World) => ∃ (t91_0a : Option Addr) (t91_0n : Nat) (t91_0c : Nat) (t91_1 : Value), e91 = .returned (.tuple #[(.slice t91_0a t91_0n t91_0c), t91_1]) ∧
                                        (∃ J_2 : Bool → World → Prop, (∃ (t95 : Bool), (eqlS .neq 27 (.tmp 94) (.const .nilIface) t91_1 .nilIface).run Try.prog w14 = .ok (.bool t95) w14 ∧
                                            ((t95 = true →
                                                (J_2 true w14)) ∧
                                              (t95 = false →
                                                (Calls Try.prog 14 #[(.slice t91_0a t91_0n t91_0c), (.slice a0a a0n a0c)] w14 fun (e99 : Ending) (w15 : World) => ∃ (t99 : Bool), e99 = .returned (.bool t99) ∧
                                                  (J_2 (!t99) w15))))) ∧
                                          (∀ (x101 : Bool), ∀ w16 : World, J_2 x101 w16 →
                                            ((x101 = true →
                                                (R (.returned (.bool false)) w16)) ∧
                                              (x101 = false →
                                                (J_1  w16))))))) ∧
                                    (t88 = false →
                                      (J_1  w13))) ∧
                                  (∀ w17 : World, J_1  w17 →
                                    (∃ (t103 : Bool), (eqlS .neq 27 (.tmp 102) (.const .nilIface) t44_1 .nilIface).run Try.prog w17 = .ok (.bool t103) w17 ∧
                                      ((t103 = true →
                                          (R (.returned (.bool true)) w17)) ∧
                                        (t103 = false →
                                          (Calls Try.prog 30 #[(.slice t44_0a t44_0n t44_0c)] w17 fun (e106 : Ending) (w18 : World) => ∃ (t106_0a : Option Addr) (t106_0n : Nat) (t106_0c : Nat) (t106_1 : Value), e106 = .returned (.tuple #[(.slice t106_0a t106_0n t106_0c), t106_1]) ∧
                                            (∃ (t110 : Bool), (eqlS .eql 27 (.tmp 109) (.const .nilIface) t106_1 .nilIface).run Try.prog w18 = .ok (.bool t110) w18 ∧
                                              ((t110 = true →
                                                  (∃ (t113 : ByteArray), (convert 63 9 (.slice t106_0a t106_0n t106_0c)).run Try.prog w18 = .ok (.string t113) w18 ∧
                                                    (∃ (t115 : ByteArray), (convert 63 9 (.slice a1a a1n a1c)).run Try.prog w18 = .ok (.string t115) w18 ∧
                                                      (R (.returned (.bool (t113.toList == t115.toList))) w18)))) ∧
                                                (t110 = false →
                                                  (R (.returned (.bool false)) w18)))))))))))))))))))))))))) : Calls Try.prog 8 #[(.slice a0a a0n a0c), (.slice a1a a1n a1c)] w R :=
  calls_of_ev (args := [(.slice a0a a0n a0c), (.slice a1a a1n a1c)])
    (tc := .seq (.reg (.op .p (.nil))) (.seq (.seq (.reg (.op (.cl [.bool]) (.op .p (.nil)))) (.cond (.seq (.reg (.op .p (.nil))) (.leaf)) (.leaf))) (.seq (.seq (.reg (.op .p (.op .p (.op .p (.op .p (.ap 3 (.nil))))))) (.cond (.seq (.reg (.op .p (.nil))) (.leaf)) (.leaf))) (.seq (.reg (.op .p (.op (.cl [.slice]) (.op .p (.nil))))) (.seq (.reg (.op .p (.op (.cl [.slice, .val]) (.op .p (.op .p (.op .p (.op .p (.op .p (.nil))))))))) (.seq (.reg (.op .p (.op (.cl [.slice, .int .i64]) (.op .p (.op .p (.op .p (.op .p (.op .p (.nil))))))))) (.seq (.reg (.op .p (.op (.cl [.slice]) (.op .p (.nil))))) (.seq (.reg (.op .p (.op (.cl [.slice, .val]) (.op .p (.op .p (.op .p (.op .p (.op .p (.nil))))))))) (.seq (.reg (.op .p (.op (.cl [.slice, .int .i64]) (.op .p (.op .p (.op .p (.op .p (.op .p (.nil))))))))) (.seq (.seq (.join [52, 53, 54, 55, 56, 57, 58, 59, 60, 61, 62, 63, 64, 65, 66, 67, 68, 69, 70, 71, 72, 73, 74, 75, 76, 77, 78, 79, 80, 81, 82, 83, 84, 85, 86] [86] [.bool] (.reg (.op .p (.op (.ld (.str)) (.op .p (.op (.ld (.str)) (.op .p (.op .p (.sp 57 (.op .p (.op .p (.op .p (.op .p (.op .p (.op .p (.op .p (.op .p (.op .p (.op .p (.op .p (.op .p (.op .p (.op .p (.op .p (.op .p (.op .p (.op .p (.op .p (.op .p (.op .p (.op .p (.op .p (.op .p (.op .p (.op .p (.op .p (.op .p (.op .p (.nil)))))))))))))))))))))))))))))) (.op .p (.op (.cl [.int .i64]) (.op .p (.op .p (.op .p (.op .p (.sp 63 (.op .p (.op .p (.op .p (.op .p (.op .p (.op .p (.op .p (.op .p (.op .p (.op .p (.op .p (.op .p (.op .p (.op .p (.op .p (.op .p (.op .p (.op .p (.op .p (.op .p (.op .p (.op .p (.op .p (.nil)))))))))))))))))))))))) (.op .p (.op .p (.op (.cl [.bool]) (.op .p (.op .p (.op .p (.sp 69 (.op .p (.op .p (.op .p (.op .p (.op .p (.op .p (.op .p (.op .p (.op .p (.op .p (.op .p (.op .p (.op .p (.op .p (.op .p (.op .p (.op .p (.nil)))))))))))))))))) (.op .p (.op (.cl [.int .i64]) (.op .p (.op .p (.op .p (.op .p (.sp 75 (.op .p (.op .p (.op .p (.op .p (.op .p (.op .p (.op .p (.op .p (.op .p (.op .p (.op .p (.nil)))))))))))) (.op .p (.op .p (.op (.cl [.bool]) (.op .p (.op .p (.op .p (.sp 81 (.op .p (.op .p (.op .p (.op .p (.op .p (.nil)))))) (.op .p (.op .p (.op (.cl [.bool]) (.op .p (.op .p (.nil))))))))))))))))))))))))))))))))))))))))))) (.cond (.seq (.reg (.op .p (.nil))) (.leaf)) (.leaf))) (.seq (.seq (.reg (.op .p (.op (.ld (.bool)) (.nil)))) (.join [4, 15, 16, 89, 90, 91, 92, 93, 94, 95, 96, 97, 98, 99, 100, 101] [] [] (.cond (.seq (.reg (.op .p (.op (.cl [.slice, .val]) (.op .p (.op .p (.op .p (.op .p (.op .p (.nil))))))))) (.seq (.join [94, 95, 96, 97, 98, 99, 100, 101] [101] [.bool] (.reg (.op .p (.op (.ld (.bool)) (.op .p (.sp 96 (.op .p (.op .p (.op .p (.op .p (.op .p (.nil)))))) (.op .p (.op .p (.op (.cl [.bool]) (.op .p (.op .p (.nil)))))))))))) (.cond (.seq (.reg (.op .p (.nil))) (.leaf)) (.leaf)))) (.leaf)))) (.seq (.seq (.reg (.op .p (.op (.ld (.bool)) (.nil)))) (.cond (.seq (.reg (.op .p (.nil))) (.leaf)) (.leaf))) (.seq (.reg (.op .p (.op (.cl [.slice, .val]) (.op .p (.op .p (.op .p (.op .p (.op .p (.nil))))))))) (.seq (.reg (.op .p (.op (.ld (.bool)) (.op .p (.sp 111 (.op .p (.op (.ld (.str)) (.op .p (.op (.ld (.str)) (.op .p (.op .p (.op .p (.nil)))))))) (.op .p (.op .p (.op .p (.op .p (.op .p (.op .p (.op .p (.nil))))))))))))) (.leaf)))))))))))))))
    (by kernel_rfl) Try.func8 (by kernel_rfl) (by kernel_rfl) (by kernel_rfl) (by kernel_rfl) h

end Go.Proofs.Ytoianikapjkekaa
