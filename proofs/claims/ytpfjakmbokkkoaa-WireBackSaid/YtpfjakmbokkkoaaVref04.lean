/- Verification conditions of functions, printed by the session's own program vc.py: out of each, Calls (conditions: none). -/
import Derived.Test.YtpfjakmbokkkoaaRows
import Derived.Test.YtpfjakmbokkkoaaSxRun
namespace Go.Proofs.Ytpfjakmbokkkoaa
open Go Go.Proofs.Ytpfjakmbokkkoaa.Sx

set_option maxRecDepth 100000 in
theorem amphoraref04_Var_vc (a0 : Int) (w : World) (R : Ending → World → Prop) (h :
  ∃ (I : Int → Option Addr → Nat → Nat → World → Prop) (μ : Int → Option Addr → Nat → Nat → World → Nat), I a0 none 0 0 w ∧
  (∀ (x0 : Int) (x3a : Option Addr) (x3n : Nat) (x3c : Nat), ∀ w1 : World, I x0 x3a x3n x3c w1 →
    (((decide (x0 ≥ (0 : Int))) = true →
        ((((IntKind.wrap .i64 (Int.tdiv x0 (128 : Int))) == (0 : Int)) = true →
            (∃ (t16a : Option Addr) (t16n : Nat) (t16c : Nat) (w2 : World), (Instr.buildSlice 22 1 #[(0, (.int .u8 (IntKind.wrap .u8 (Int.tmod x0 (128 : Int)))))]).run Try.prog w1 = .ok (.slice t16a t16n t16c) w2 ∧
              (∃ (t17a : Option Addr) (t17n : Nat) (t17c : Nat) (w3 : World), (Builtin.append_ #[22, 22] 22 #[(.slice x3a x3n x3c), (.slice t16a t16n t16c)]).run Try.prog w2 = .ok (.slice t17a t17n t17c) w3 ∧
                (R (.returned (.slice t17a t17n t17c)) w3)))) ∧
          (((IntKind.wrap .i64 (Int.tdiv x0 (128 : Int))) == (0 : Int)) = false →
            (∃ (t22a : Option Addr) (t22n : Nat) (t22c : Nat) (w4 : World), (Instr.buildSlice 22 1 #[(0, (.int .u8 (IntKind.wrap .u8 (IntKind.wrap .i64 ((Int.tmod x0 (128 : Int)) + (128 : Int))))))]).run Try.prog w1 = .ok (.slice t22a t22n t22c) w4 ∧
              (∃ (t23a : Option Addr) (t23n : Nat) (t23c : Nat) (w5 : World), (Builtin.append_ #[22, 22] 22 #[(.slice x3a x3n x3c), (.slice t22a t22n t22c)]).run Try.prog w4 = .ok (.slice t23a t23n t23c) w5 ∧
                (I (IntKind.wrap .i64 (Int.tdiv x0 (128 : Int))) t23a t23n t23c w5 ∧ μ (IntKind.wrap .i64 (Int.tdiv x0 (128 : Int))) t23a t23n t23c w5 < μ x0 x3a x3n x3c w1)))))) ∧
      ((decide (x0 ≥ (0 : Int))) = false →
        (R (.returned (.slice none 0 0)) w1))))) : Calls Try.prog 19 #[(.int .i64 a0)] w R :=
  calls_of_ev (args := [(.int .i64 a0)])
    (tc := .seq (.reg (.op .p (.nil))) (.seq (.reg (.op .p (.nil))) (.seq (.blk (.loop [0, 2, 3, 4, 5, 6, 7, 8, 9, 10, 11, 12, 13, 14, 15, 16, 17, 18, 19, 20, 21, 22, 23] [0, 3] [.int .i64, .slice] (.seq (.seq (.reg (.op .p (.op .p (.nil)))) (.cond (.leaf) (.leaf))) (.blk (.seq (.reg (.op .p (.op .p (.op .p (.nil))))) (.seq (.reg (.op .p (.op .p (.op .p (.nil))))) (.seq (.seq (.reg (.op .p (.op .p (.nil)))) (.cond (.seq (.reg (.op .p (.op .p (.op .p (.op (.r (.slice)) (.op (.r (.slice)) (.op .p (.nil)))))))) (.leaf)) (.leaf))) (.reg (.op .p (.op .p (.op .p (.op .p (.op (.r (.slice)) (.op (.r (.slice)) (.op .p (.nil)))))))))))))))) (.seq (.reg (.op .p (.nil))) (.leaf)))))
    (by kernel_rfl) Try.func19 (by kernel_rfl) (by kernel_rfl) (by kernel_rfl) (by kernel_rfl) h

set_option maxRecDepth 100000 in
theorem amphoraref04_ReadVar_vc (a0a : Option Addr) (a0n : Nat) (a0c : Nat) (w : World) (R : Ending → World → Prop) (h :
  ∃ (I : Int → Int → Int → World → Prop) (μ : Int → Int → Int → World → Nat), I 0 1 0 w ∧
  (∀ (x5 : Int) (x6 : Int) (x7 : Int), ∀ w1 : World, I x5 x6 x7 w1 →
    ((((decide (x7 < ((a0n : Nat) : Int))) && (decide (x7 < (9 : Int)))) = true →
        (∃ (t21b t21o : Nat), a0a = some ⟨t21b, t21o, none⟩ ∧ 0 ≤ x7 ∧ x7 < ((a0n : Nat) : Int) ∧
          (∃ (t22 : Int), (Instr.loadAt 5 (.pointer (some ⟨t21b, t21o + Int.toNat x7 * 1, none⟩))).run Try.prog w1 = .ok (.int .u8 t22) w1 ∧
            (∃ (t32b t32o : Nat), a0a = some ⟨t32b, t32o, none⟩ ∧ 0 ≤ x7 ∧ x7 < ((a0n : Nat) : Int) ∧
              (∃ (t33 : Int), (Instr.loadAt 5 (.pointer (some ⟨t32b, t32o + Int.toNat x7 * 1, none⟩))).run Try.prog w1 = .ok (.int .u8 t33) w1 ∧
                (((decide (t33 < (128 : Int))) = true →
                    (∃ S : World → Prop, S w1.drew ∧
                      (0 ≤ (IntKind.wrap .i64 (x7 + (1 : Int))) ∧ (IntKind.wrap .i64 (x7 + (1 : Int))) ≤ ((a0c : Nat) : Int) ∧
                        (∃ (t42 : ByteArray), (∀ w' : World, S w' → (convert 22 9 (.slice a0a (Int.toNat (IntKind.wrap .i64 (x7 + (1 : Int)))) a0c)).run Try.prog w' = .ok (.string t42) w') ∧
                          (Calls Try.prog 19 #[(.int .i64 (IntKind.wrap .i64 (x5 + (IntKind.wrap .i64 ((IntKind.wrap .i64 (Int.tmod t22 (128 : Int))) * x6)))))] w1.drew fun (e36 : Ending) (w2 : World) => ∃ (t36a : Option Addr) (t36n : Nat) (t36c : Nat), e36 = .returned (.slice t36a t36n t36c) ∧
                            (∃ S_1 : World → Prop, (∀ w' : World, S_1 w' → S w') ∧ S_1 w2 ∧
                              (∃ (t37 : ByteArray), (∀ w' : World, S_1 w' → (convert 22 9 (.slice t36a t36n t36c)).run Try.prog w' = .ok (.string t37) w') ∧
                                (((!(t37.toList == t42.toList)) = true →
                                    (R (.returned (.tuple #[(.int .i64 0), (.int .i64 0), (.int .i64 9)])) w2)) ∧
                                  ((!(t37.toList == t42.toList)) = false →
                                    (R (.returned (.tuple #[(.int .i64 (IntKind.wrap .i64 (x5 + (IntKind.wrap .i64 ((IntKind.wrap .i64 (Int.tmod t22 (128 : Int))) * x6))))), (.int .i64 (IntKind.wrap .i64 (x7 + (1 : Int)))), (.int .i64 0)])) w2)))))))))) ∧
                  ((decide (t33 < (128 : Int))) = false →
                    (I (IntKind.wrap .i64 (x5 + (IntKind.wrap .i64 ((IntKind.wrap .i64 (Int.tmod t22 (128 : Int))) * x6)))) (IntKind.wrap .i64 (x6 * (128 : Int))) (IntKind.wrap .i64 (x7 + (1 : Int))) w1 ∧ μ (IntKind.wrap .i64 (x5 + (IntKind.wrap .i64 ((IntKind.wrap .i64 (Int.tmod t22 (128 : Int))) * x6)))) (IntKind.wrap .i64 (x6 * (128 : Int))) (IntKind.wrap .i64 (x7 + (1 : Int))) w1 < μ x5 x6 x7 w1)))))))) ∧
      (((decide (x7 < ((a0n : Nat) : Int))) && (decide (x7 < (9 : Int)))) = false →
        (R (.returned (.tuple #[(.int .i64 0), (.int .i64 0), (.int .i64 9)])) w1))))) : Calls Try.prog 13 #[(.slice a0a a0n a0c)] w R :=
  calls_of_ev (args := [(.slice a0a a0n a0c)])
    (tc := .seq (.reg (.op .p (.op .p (.op .p (.nil))))) (.seq (.reg (.op .p (.nil))) (.seq (.reg (.op .p (.nil))) (.seq (.seq (.reg (.op .p (.nil))) (.blk (.loop [2, 3, 4, 5, 6, 7, 8, 9, 10, 11, 12, 13, 14, 15, 16, 17, 18, 19, 20, 21, 22, 23, 24, 25, 26, 27, 28, 29, 30, 31, 32, 33, 34, 35, 36, 37, 38, 39, 40, 41, 42, 43, 44, 45, 46] [5, 6, 7] [.int .i64, .int .i64, .int .i64] (.seq (.seq (.reg (.op .p (.op .p (.op .p (.op .p (.op .p (.ap 2 (.nil)))))))) (.cond (.leaf) (.leaf))) (.seq (.blk (.seq (.reg (.op .p (.op .p (.op .p (.op .ix (.op (.ld (.int .u8)) (.op .p (.op .p (.op .p (.op .p (.op .p (.op .p (.nil))))))))))))) (.seq (.reg (.op .p (.op .p (.op .p (.nil))))) (.seq (.reg (.op .p (.op .p (.op .ix (.op (.ld (.int .u8)) (.op .p (.nil))))))) (.cond (.seq (.seq (.drawS (.tk 0 .p (.tk 3 .p (.tk 4 .p (.tk 5 .p (.tk 6 .sl (.ts 7 (.str) (.go 1 (.cl [.slice]) (.ts 2 (.str) (.tk 8 .p (.nil)))))))))) []) (.cond (.leaf) (.leaf))) (.seq (.reg (.op .p (.op .p (.op .p (.op .p (.op .p (.op .p (.nil)))))))) (.leaf))) (.leaf)))))) (.reg (.op .p (.op .p (.op .p (.nil)))))))))) (.seq (.reg (.op .p (.op .p (.op .p (.nil))))) (.leaf))))))
    (by kernel_rfl) Try.func13 (by kernel_rfl) (by kernel_rfl) (by kernel_rfl) (by kernel_rfl) h

set_option maxRecDepth 100000 in
theorem amphoraref04_Num_vc (a0 : Int) (w : World) (R : Ending → World → Prop) (h :
  ∃ (t6a : Option Addr) (t6n : Nat) (t6c : Nat) (w1 : World), (Instr.makeSlice 22 (.int .i64 8) (.int .i64 8)).run Try.prog w = .ok (.slice t6a t6n t6c) w1 ∧
  (∃ (I : Int → Int → World → Prop) (μ : Int → Int → World → Nat), I (IntKind.wrap .u64 a0) 7 w1 ∧
    (∀ (x4 : Int) (x5 : Int), ∀ w2 : World, I x4 x5 w2 →
      (((decide (x5 ≥ (0 : Int))) = true →
          (∃ (t18b t18o : Nat), t6a = some ⟨t18b, t18o, none⟩ ∧ 0 ≤ x5 ∧ x5 < ((t6n : Nat) : Int) ∧
            (∃ w3 : World, (Instr.storeAt 5 (.pointer (some ⟨t18b, t18o + Int.toNat x5 * 1, none⟩)) (.int .u8 (IntKind.wrap .u8 (Int.tmod x4 (256 : Int))))).run Try.prog w2 = .ok () w3 ∧
              (I (IntKind.wrap .u64 (Int.tdiv x4 (256 : Int))) (IntKind.wrap .i64 (x5 - (1 : Int))) w3 ∧ μ (IntKind.wrap .u64 (Int.tdiv x4 (256 : Int))) (IntKind.wrap .i64 (x5 - (1 : Int))) w3 < μ x4 x5 w2)))) ∧
        ((decide (x5 ≥ (0 : Int))) = false →
          (R (.returned (.slice t6a t6n t6c)) w2)))))) : Calls Try.prog 21 #[(.int .i64 a0)] w R :=
  calls_of_ev (args := [(.int .i64 a0)])
    (tc := .seq (.reg (.op .p (.nil))) (.seq (.reg (.op (.r (.slice)) (.op .p (.nil)))) (.seq (.reg (.op .p (.op .p (.op .p (.nil))))) (.seq (.seq (.reg (.op .p (.nil))) (.blk (.loop [4, 5, 9, 10, 11, 12, 13, 14, 15, 16, 17, 18, 19, 20] [4, 5] [.int .u64, .int .i64] (.seq (.seq (.reg (.op .p (.op .p (.nil)))) (.cond (.leaf) (.leaf))) (.seq (.blk (.seq (.reg (.op .p (.op .p (.op .p (.op .p (.op .p (.op .ix (.op .u (.nil))))))))) (.reg (.op .p (.op .p (.op .p (.nil))))))) (.reg (.op .p (.op .p (.op .p (.nil)))))))))) (.seq (.reg (.op .p (.op .p (.nil)))) (.leaf))))))
    (by kernel_rfl) Try.func21 (by kernel_rfl) (by kernel_rfl) (by kernel_rfl) (by kernel_rfl) h

set_option maxRecDepth 100000 in
theorem amphoraref04_ReadNum_vc (a0a : Option Addr) (a0n : Nat) (a0c : Nat) (w : World) (R : Ending → World → Prop) (h :
  ((((a0n : Nat) : Int) != (8 : Int)) = true →
    (R (.returned (.tuple #[(.int .i64 0), (.int .i64 9)])) w)) ∧
  ((((a0n : Nat) : Int) != (8 : Int)) = false →
    (∃ (I : Int → Int → World → Prop) (μ : Int → Int → World → Nat), I 0 0 w ∧
      (∀ (x4 : Int) (x5 : Int), ∀ w1 : World, I x4 x5 w1 →
        (((decide (x5 < (8 : Int))) = true →
            (∃ (t17b t17o : Nat), a0a = some ⟨t17b, t17o, none⟩ ∧ 0 ≤ x5 ∧ x5 < ((a0n : Nat) : Int) ∧
              (∃ (t18 : Int), (Instr.loadAt 5 (.pointer (some ⟨t17b, t17o + Int.toNat x5 * 1, none⟩))).run Try.prog w1 = .ok (.int .u8 t18) w1 ∧
                (I (IntKind.wrap .u64 ((IntKind.wrap .u64 (x4 * (256 : Int))) + (IntKind.wrap .u64 t18))) (IntKind.wrap .i64 (x5 + (1 : Int))) w1 ∧ μ (IntKind.wrap .u64 ((IntKind.wrap .u64 (x4 * (256 : Int))) + (IntKind.wrap .u64 t18))) (IntKind.wrap .i64 (x5 + (1 : Int))) w1 < μ x4 x5 w1)))) ∧
          ((decide (x5 < (8 : Int))) = false →
            (R (.returned (.tuple #[(.int .i64 (IntKind.wrap .i64 x4)), (.int .i64 0)])) w1))))))) : Calls Try.prog 15 #[(.slice a0a a0n a0c)] w R :=
  calls_of_ev (args := [(.slice a0a a0n a0c)])
    (tc := .seq (.reg (.op .p (.op .p (.nil)))) (.seq (.seq (.reg (.op .p (.op .p (.op .p (.nil))))) (.cond (.seq (.reg (.op .p (.op .p (.nil)))) (.leaf)) (.leaf))) (.seq (.reg (.op .p (.nil))) (.seq (.seq (.reg (.op .p (.nil))) (.blk (.loop [4, 5, 9, 10, 11, 12, 13, 14, 15, 16, 17, 18, 19, 20] [4, 5] [.int .u64, .int .i64] (.seq (.seq (.reg (.op .p (.op .p (.nil)))) (.cond (.leaf) (.leaf))) (.seq (.blk (.reg (.op .p (.op .p (.op .p (.op .p (.op .ix (.op (.ld (.int .u8)) (.op .p (.op .p (.op .p (.nil)))))))))))) (.reg (.op .p (.op .p (.op .p (.nil)))))))))) (.seq (.reg (.op .p (.op .p (.op .p (.op .p (.nil)))))) (.leaf))))))
    (by kernel_rfl) Try.func15 (by kernel_rfl) (by kernel_rfl) (by kernel_rfl) (by kernel_rfl) h

set_option maxRecDepth 100000 in
theorem amphoraref04_Pack_vc (a0a : Option Addr) (a0n : Nat) (a0c : Nat) (w : World) (R : Ending → World → Prop) (h :
  ∃ (I : Option Addr → Nat → Nat → Int → World → Prop) (μ : Option Addr → Nat → Nat → Int → World → Nat), I none 0 0 0 w ∧
  (∀ (x3a : Option Addr) (x3n : Nat) (x3c : Nat) (x4 : Int), ∀ w1 : World, I x3a x3n x3c x4 w1 →
    (((decide (x4 < ((a0n : Nat) : Int))) = true →
        (∃ (t13b t13o : Nat), a0a = some ⟨t13b, t13o, none⟩ ∧ 0 ≤ x4 ∧ x4 < ((a0n : Nat) : Int) ∧
          (∃ (t14a : Option Addr) (t14n : Nat) (t14c : Nat), (Instr.loadAt 22 (.pointer (some ⟨t13b, t13o + Int.toNat x4 * 1, none⟩))).run Try.prog w1 = .ok (.slice t14a t14n t14c) w1 ∧
            (((decide (((t14n : Nat) : Int) > (67108864 : Int))) = true →
                (R (.returned (.slice none 0 0)) w1)) ∧
              ((decide (((t14n : Nat) : Int) > (67108864 : Int))) = false →
                (∃ S : World → Prop, S w1.drew ∧
                  (∃ (t20b t20o : Nat), a0a = some ⟨t20b, t20o, none⟩ ∧ 0 ≤ x4 ∧ x4 < ((a0n : Nat) : Int) ∧
                    (∃ (t27b t27o : Nat), a0a = some ⟨t27b, t27o, none⟩ ∧ 0 ≤ x4 ∧ x4 < ((a0n : Nat) : Int) ∧
                      (∃ (t21a : Option Addr) (t21n : Nat) (t21c : Nat), (∀ w' : World, S w' → (Instr.loadAt 22 (.pointer (some ⟨t20b, t20o + Int.toNat x4 * 1, none⟩))).run Try.prog w' = .ok (.slice t21a t21n t21c) w') ∧
                        (∃ (t28a : Option Addr) (t28n : Nat) (t28c : Nat), (∀ w' : World, S w' → (Instr.loadAt 22 (.pointer (some ⟨t27b, t27o + Int.toNat x4 * 1, none⟩))).run Try.prog w' = .ok (.slice t28a t28n t28c) w') ∧
                          (Calls Try.prog 19 #[(.int .i64 ((t21n : Nat) : Int))] w1.drew fun (e23 : Ending) (w2 : World) => ∃ (t23a : Option Addr) (t23n : Nat) (t23c : Nat), e23 = .returned (.slice t23a t23n t23c) ∧
                            (∃ S_1 : World → Prop, (∀ w' : World, S_1 w' → S w') ∧ S_1 w2 ∧
                              (∃ (t24a : Option Addr) (t24n : Nat) (t24c : Nat) (w3 : World), (Builtin.append_ #[22, 22] 22 #[(.slice x3a x3n x3c), (.slice t23a t23n t23c)]).run Try.prog w2 = .ok (.slice t24a t24n t24c) w3 ∧
                                (∃ S_2 : World → Prop, (∀ w' : World, S_2 w' → S_1 w') ∧ S_2 w3 ∧
                                  (∃ (t29a : Option Addr) (t29n : Nat) (t29c : Nat) (w4 : World), (Builtin.append_ #[22, 22] 22 #[(.slice t24a t24n t24c), (.slice t28a t28n t28c)]).run Try.prog w3 = .ok (.slice t29a t29n t29c) w4 ∧
                                    (∃ S_3 : World → Prop, (∀ w' : World, S_3 w' → S_2 w') ∧ S_3 w4 ∧
                                      (I t29a t29n t29c (IntKind.wrap .i64 (x4 + (1 : Int))) w4 ∧ μ t29a t29n t29c (IntKind.wrap .i64 (x4 + (1 : Int))) w4 < μ x3a x3n x3c x4 w1))))))))))))))))) ∧
      ((decide (x4 < ((a0n : Nat) : Int))) = false →
        (R (.returned (.slice x3a x3n x3c)) w1))))) : Calls Try.prog 24 #[(.slice a0a a0n a0c)] w R :=
  calls_of_ev (args := [(.slice a0a a0n a0c)])
    (tc := .seq (.reg (.op .p (.nil))) (.seq (.reg (.op .p (.nil))) (.seq (.seq (.reg (.op .p (.nil))) (.blk (.loop [2, 3, 4, 5, 6, 7, 8, 9, 10, 11, 12, 13, 14, 15, 16, 17, 18, 19, 20, 21, 22, 23, 24, 25, 26, 27, 28, 29] [3, 4] [.slice, .int .i64] (.seq (.seq (.reg (.op .p (.op .p (.op .p (.op .p (.nil)))))) (.cond (.leaf) (.leaf))) (.seq (.blk (.seq (.seq (.reg (.op .p (.op .p (.op .ix (.op (.ld (.slice)) (.op .p (.op .p (.nil)))))))) (.cond (.seq (.reg (.op .p (.nil))) (.leaf)) (.leaf))) (.drawS (.tk 0 .p (.tk 1 .p (.tk 2 .p (.tk 3 .ix (.tk 8 .p (.tk 9 .p (.tk 10 .ix (.ts 4 (.slice) (.tk 5 .p (.ts 11 (.slice) (.go 6 (.cl [.slice]) (.go 7 (.r (.slice)) (.go 12 (.r (.slice)) (.tk 13 .p (.nil))))))))))))))) []))) (.reg (.op .p (.op .p (.op .p (.nil)))))))))) (.seq (.reg (.op .p (.op .p (.nil)))) (.leaf)))))
    (by kernel_rfl) Try.func24 (by kernel_rfl) (by kernel_rfl) (by kernel_rfl) (by kernel_rfl) h

set_option maxRecDepth 100000 in
theorem amphoraref04_field_vc (a0a : Option Addr) (a0n : Nat) (a0c : Nat) (w : World) (R : Ending → World → Prop) (h :
  Calls Try.prog 13 #[(.slice a0a a0n a0c)] w fun (e9 : Ending) (w1 : World) => ∃ (t9_0 : Int) (t9_1 : Int) (t9_2 : Int), e9 = .returned (.tuple #[(.int .i64 t9_0), (.int .i64 t9_1), (.int .i64 t9_2)]) ∧
  (((((t9_2 != (0 : Int)) || (decide (t9_0 > (67108864 : Int)))) || (decide (t9_0 > (IntKind.wrap .i64 (((a0n : Nat) : Int) - t9_1))))) = true →
      (R (.returned (.tuple #[(.slice none 0 0), (.int .i64 (-1))])) w1)) ∧
    ((((t9_2 != (0 : Int)) || (decide (t9_0 > (67108864 : Int)))) || (decide (t9_0 > (IntKind.wrap .i64 (((a0n : Nat) : Int) - t9_1))))) = false →
      (∃ (t27a : Option Addr) (t27n : Nat) (t27c : Nat) (w2 : World), (Instr.buildSlice 22 0 #[]).run Try.prog w1 = .ok (.slice t27a t27n t27c) w2 ∧
        (0 ≤ t9_1 ∧ t9_1 ≤ (IntKind.wrap .i64 (t9_1 + t9_0)) ∧ (IntKind.wrap .i64 (t9_1 + t9_0)) ≤ ((a0c : Nat) : Int) ∧ ∀ t33a : Option Addr, SubA 1 a0a (Int.toNat t9_1) a0c t33a →
          (∃ (t34a : Option Addr) (t34n : Nat) (t34c : Nat) (w3 : World), (Builtin.append_ #[22, 22] 22 #[(.slice t27a t27n t27c), (.slice t33a ((Int.toNat (IntKind.wrap .i64 (t9_1 + t9_0))) - (Int.toNat t9_1)) (a0c - (Int.toNat t9_1)))]).run Try.prog w2 = .ok (.slice t34a t34n t34c) w3 ∧
            (R (.returned (.tuple #[(.slice t34a t34n t34c), (.int .i64 (IntKind.wrap .i64 (t9_1 + t9_0)))])) w3))))))) : Calls Try.prog 45 #[(.slice a0a a0n a0c)] w R :=
  calls_of_ev (args := [(.slice a0a a0n a0c)])
    (tc := .seq (.reg (.op .p (.op .p (.nil)))) (.seq (.reg (.op .p (.op (.cl [.int .i64, .int .i64, .int .i64]) (.op .p (.op .p (.op .p (.op .p (.op .p (.op .p (.op .p (.nil))))))))))) (.seq (.seq (.reg (.op .p (.op .p (.op .p (.ap 2 (.op .p (.ap 6 (.nil)))))))) (.cond (.seq (.reg (.op .p (.op .p (.nil)))) (.leaf)) (.leaf))) (.seq (.reg (.op (.r (.slice)) (.op .p (.op .p (.op .p (.op .p (.op .p (.op .sl (.op (.r (.slice)) (.op .p (.op .p (.op .p (.op .p (.op .p (.nil))))))))))))))) (.leaf)))))
    (by kernel_rfl) Try.func45 (by kernel_rfl) (by kernel_rfl) (by kernel_rfl) (by kernel_rfl) h

set_option maxRecDepth 100000 in
theorem amphoraref04_Unpack_vc (a0a : Option Addr) (a0n : Nat) (a0c : Nat) (a1 : Int) (w : World) (R : Ending → World → Prop) (h :
  ∃ (I : Option Addr → Nat → Nat → Option Addr → Nat → Nat → World → Prop) (μ : Option Addr → Nat → Nat → Option Addr → Nat → Nat → World → Nat), I a0a a0n a0c none 0 0 w ∧
  (∀ (x0a : Option Addr) (x0n : Nat) (x0c : Nat) (x6a : Option Addr) (x6n : Nat) (x6c : Nat), ∀ w1 : World, I x0a x0n x0c x6a x6n x6c w1 →
    (((decide (((x6n : Nat) : Int) < a1)) = true →
        (Calls Try.prog 45 #[(.slice x0a x0n x0c)] w1 fun (e15 : Ending) (w2 : World) => ∃ (t15_0a : Option Addr) (t15_0n : Nat) (t15_0c : Nat) (t15_1 : Int), e15 = .returned (.tuple #[(.slice t15_0a t15_0n t15_0c), (.int .i64 t15_1)]) ∧
          (((decide (t15_1 < (0 : Int))) = true →
              (R (.returned (.tuple #[(.slice none 0 0), (.int .i64 9)])) w2)) ∧
            ((decide (t15_1 < (0 : Int))) = false →
              (∃ (t22a : Option Addr) (t22n : Nat) (t22c : Nat) (w3 : World), (Instr.buildSlice 39 1 #[(0, (.slice t15_0a t15_0n t15_0c))]).run Try.prog w2 = .ok (.slice t22a t22n t22c) w3 ∧
                (∃ (t23a : Option Addr) (t23n : Nat) (t23c : Nat) (w4 : World), (Builtin.append_ #[39, 39] 39 #[(.slice x6a x6n x6c), (.slice t22a t22n t22c)]).run Try.prog w3 = .ok (.slice t23a t23n t23c) w4 ∧
                  (0 ≤ t15_1 ∧ t15_1 ≤ ((x0n : Nat) : Int) ∧ ((x0n : Nat) : Int) ≤ ((x0c : Nat) : Int) ∧ ∀ t26a : Option Addr, SubA 1 x0a (Int.toNat t15_1) x0c t26a →
                    (I t26a ((x0n) - (Int.toNat t15_1)) (x0c - (Int.toNat t15_1)) t23a t23n t23c w4 ∧ μ t26a ((x0n) - (Int.toNat t15_1)) (x0c - (Int.toNat t15_1)) t23a t23n t23c w4 < μ x0a x0n x0c x6a x6n x6c w1)))))))) ∧
      ((decide (((x6n : Nat) : Int) < a1)) = false →
        ((((decide (a1 < (0 : Int))) || (decide (((x0n : Nat) : Int) > (0 : Int)))) = true →
            (R (.returned (.tuple #[(.slice none 0 0), (.int .i64 9)])) w1)) ∧
          (((decide (a1 < (0 : Int))) || (decide (((x0n : Nat) : Int) > (0 : Int)))) = false →
            (R (.returned (.tuple #[(.slice x6a x6n x6c), (.int .i64 0)])) w1))))))) : Calls Try.prog 27 #[(.slice a0a a0n a0c), (.int .i64 a1)] w R :=
  calls_of_ev (args := [(.slice a0a a0n a0c), (.int .i64 a1)])
    (tc := .seq (.reg (.op .p (.op .p (.nil)))) (.seq (.reg (.op .p (.nil))) (.seq (.blk (.loop [0, 4, 5, 6, 7, 8, 9, 10, 11, 12, 13, 14, 15, 16, 17, 18, 19, 20, 21, 22, 23, 24, 25, 26] [0, 6] [.slice, .slice] (.seq (.seq (.reg (.op .p (.op .p (.op .p (.op .p (.nil)))))) (.cond (.leaf) (.leaf))) (.blk (.seq (.reg (.op .p (.op (.cl [.slice, .int .i64]) (.op .p (.op .p (.op .p (.op .p (.op .p (.nil))))))))) (.seq (.seq (.reg (.op .p (.op .p (.nil)))) (.cond (.seq (.reg (.op .p (.op .p (.nil)))) (.leaf)) (.leaf))) (.seq (.reg (.op .p (.op .p (.op (.r (.slice)) (.op (.r (.slice)) (.op .p (.nil))))))) (.reg (.op .p (.op .p (.op .sl (.op .p (.nil))))))))))))) (.seq (.seq (.reg (.op .p (.op .p (.op .p (.ap 3 (.nil)))))) (.cond (.seq (.reg (.op .p (.op .p (.nil)))) (.leaf)) (.leaf))) (.seq (.reg (.op .p (.op .p (.op .p (.nil))))) (.leaf))))))
    (by kernel_rfl) Try.func27 (by kernel_rfl) (by kernel_rfl) (by kernel_rfl) (by kernel_rfl) h

set_option maxRecDepth 100000 in
theorem amphoraref04_Frame_vc (a0 : Int) (a1a : Option Addr) (a1n : Nat) (a1c : Nat) (w : World) (R : Ending → World → Prop) (h :
  ((decide (((a1n : Nat) : Int) > (67108864 : Int))) = true →
    (R (.returned (.slice none 0 0)) w)) ∧
  ((decide (((a1n : Nat) : Int) > (67108864 : Int))) = false →
    (∃ (t9a : Option Addr) (t9n : Nat) (t9c : Nat) (w1 : World), (Instr.buildSlice 22 1 #[(0, (.int .u8 a0))]).run Try.prog w = .ok (.slice t9a t9n t9c) w1 ∧
      (∃ (t11a : Option Addr) (t11n : Nat) (t11c : Nat) (w2 : World), (Instr.buildSlice 39 1 #[(0, (.slice a1a a1n a1c))]).run Try.prog w1 = .ok (.slice t11a t11n t11c) w2 ∧
        (Calls Try.prog 24 #[(.slice t11a t11n t11c)] w2 fun (e12 : Ending) (w3 : World) => ∃ (t12a : Option Addr) (t12n : Nat) (t12c : Nat), e12 = .returned (.slice t12a t12n t12c) ∧
          (∃ (t13a : Option Addr) (t13n : Nat) (t13c : Nat) (w4 : World), (Builtin.append_ #[22, 22] 22 #[(.slice t9a t9n t9c), (.slice t12a t12n t12c)]).run Try.prog w3 = .ok (.slice t13a t13n t13c) w4 ∧
            (R (.returned (.slice t13a t13n t13c)) w4))))))) : Calls Try.prog 46 #[(.int .u8 a0), (.slice a1a a1n a1c)] w R :=
  calls_of_ev (args := [(.int .u8 a0), (.slice a1a a1n a1c)])
    (tc := .seq (.reg (.op .p (.nil))) (.seq (.seq (.reg (.op .p (.op .p (.op .p (.nil))))) (.cond (.seq (.reg (.op .p (.nil))) (.leaf)) (.leaf))) (.seq (.reg (.op .p (.op (.r (.slice)) (.op .p (.op (.r (.slice)) (.op (.cl [.slice]) (.op (.r (.slice)) (.op .p (.nil))))))))) (.leaf))))
    (by kernel_rfl) Try.func46 (by kernel_rfl) (by kernel_rfl) (by kernel_rfl) (by kernel_rfl) h

set_option maxRecDepth 100000 in
theorem amphoraref04_Frames_vc (a0a : Option Addr) (a0n : Nat) (a0c : Nat) (w : World) (R : Ending → World → Prop) (h :
  ∃ (I : Option Addr → Nat → Nat → Int → World → Prop) (μ : Option Addr → Nat → Nat → Int → World → Nat), I none 0 0 0 w ∧
  (∀ (x4a : Option Addr) (x4n : Nat) (x4c : Nat) (x5 : Int), ∀ w1 : World, I x4a x4n x4c x5 w1 →
    (((decide (x5 < ((a0n : Nat) : Int))) = true →
        (0 ≤ (IntKind.wrap .i64 (x5 + (1 : Int))) ∧ (IntKind.wrap .i64 (x5 + (1 : Int))) ≤ ((a0n : Nat) : Int) ∧ ((a0n : Nat) : Int) ≤ ((a0c : Nat) : Int) ∧ ∀ t16a : Option Addr, SubA 1 a0a (Int.toNat (IntKind.wrap .i64 (x5 + (1 : Int)))) a0c t16a →
          (Calls Try.prog 45 #[(.slice t16a ((a0n) - (Int.toNat (IntKind.wrap .i64 (x5 + (1 : Int))))) (a0c - (Int.toNat (IntKind.wrap .i64 (x5 + (1 : Int))))))] w1 fun (e17 : Ending) (w2 : World) => ∃ (t17_0a : Option Addr) (t17_0n : Nat) (t17_0c : Nat) (t17_1 : Int), e17 = .returned (.tuple #[(.slice t17_0a t17_0n t17_0c), (.int .i64 t17_1)]) ∧
            (((decide (t17_1 < (0 : Int))) = true →
                (R (.returned (.tuple #[(.slice x4a x4n x4c), (.int .i64 x5)])) w2)) ∧
              ((decide (t17_1 < (0 : Int))) = false →
                (∃ (t25b t25o : Nat), a0a = some ⟨t25b, t25o, none⟩ ∧ 0 ≤ x5 ∧ x5 < ((a0n : Nat) : Int) ∧
                  (∃ (t26 : Int), (Instr.loadAt 5 (.pointer (some ⟨t25b, t25o + Int.toNat x5 * 1, none⟩))).run Try.prog w2 = .ok (.int .u8 t26) w2 ∧
                    (∃ (t30 : Array Value), (Instr.build 73 #[(0, (.int .i64 (IntKind.wrap .i64 t26))), (1, (.slice t17_0a t17_0n t17_0c)), (2, (.int .i64 x5))]).run Try.prog w2 = .ok (.agg t30) w2 ∧
                      (∃ (t31a : Option Addr) (t31n : Nat) (t31c : Nat) (w3 : World), (Instr.buildSlice 68 1 #[(0, (.agg t30))]).run Try.prog w2 = .ok (.slice t31a t31n t31c) w3 ∧
                        (∃ (t32a : Option Addr) (t32n : Nat) (t32c : Nat) (w4 : World), (Builtin.append_ #[68, 68] 68 #[(.slice x4a x4n x4c), (.slice t31a t31n t31c)]).run Try.prog w3 = .ok (.slice t32a t32n t32c) w4 ∧
                          (I t32a t32n t32c (IntKind.wrap .i64 ((IntKind.wrap .i64 (x5 + (1 : Int))) + t17_1)) w4 ∧ μ t32a t32n t32c (IntKind.wrap .i64 ((IntKind.wrap .i64 (x5 + (1 : Int))) + t17_1)) w4 < μ x4a x4n x4c x5 w1))))))))))) ∧
      ((decide (x5 < ((a0n : Nat) : Int))) = false →
        (R (.returned (.tuple #[(.slice x4a x4n x4c), (.int .i64 x5)])) w1))))) : Calls Try.prog 47 #[(.slice a0a a0n a0c)] w R :=
  calls_of_ev (args := [(.slice a0a a0n a0c)])
    (tc := .seq (.reg (.op .p (.op .p (.nil)))) (.seq (.reg (.op .p (.nil))) (.seq (.reg (.op .p (.nil))) (.seq (.blk (.loop [4, 5, 6, 7, 8, 9, 10, 11, 12, 13, 14, 15, 16, 17, 18, 19, 20, 21, 22, 23, 24, 25, 26, 27, 28, 29, 30, 31, 32, 33, 34, 35, 36] [4, 5] [.slice, .int .i64] (.seq (.seq (.reg (.op .p (.op .p (.op .p (.op .p (.nil)))))) (.cond (.leaf) (.leaf))) (.blk (.seq (.reg (.op .p (.op .p (.op .p (.op .sl (.op (.cl [.slice, .int .i64]) (.op .p (.op .p (.op .p (.op .p (.op .p (.nil)))))))))))) (.seq (.seq (.reg (.op .p (.op .p (.nil)))) (.cond (.leaf) (.leaf))) (.seq (.reg (.op .p (.op .p (.op .p (.op .ix (.op (.ld (.int .u8)) (.op .p (.op .p (.op .p (.op (.ld (.agg)) (.op (.r (.slice)) (.op (.r (.slice)) (.op .p (.nil)))))))))))))) (.reg (.op .p (.op .p (.op .p (.op .p (.op .p (.nil)))))))))))))) (.seq (.reg (.op .p (.op .p (.op .p (.op .p (.nil)))))) (.leaf))))))
    (by kernel_rfl) Try.func47 (by kernel_rfl) (by kernel_rfl) (by kernel_rfl) (by kernel_rfl) h

set_option maxRecDepth 100000 in
theorem amphoraref04_Reader_take_vc (a0b : Nat) (a0o : Nat) (a1 : Int) (w : World) (R : Ending → World → Prop) (h :
  ∃ J : Bool → World → Prop, (∃ (t9 : Bool), (Instr.loadAt 4 (.pointer (some ⟨a0b, a0o + 1, none⟩))).run Try.prog w = .ok (.bool t9) w ∧
    (((t9 || (decide (a1 < (0 : Int)))) = true →
        (J true w)) ∧
      ((t9 || (decide (a1 < (0 : Int)))) = false →
        (∃ (t19a : Option Addr) (t19n : Nat) (t19c : Nat), (Instr.loadAt 22 (.pointer (some ⟨a0b, a0o, none⟩))).run Try.prog w = .ok (.slice t19a t19n t19c) w ∧
          (J (decide (a1 > ((t19n : Nat) : Int))) w))))) ∧
  (∀ (x22 : Bool), ∀ w1 : World, J x22 w1 →
    ((x22 = true →
        (∃ w2 : World, (Instr.storeAt 4 (.pointer (some ⟨a0b, a0o + 1, none⟩)) (.bool true)).run Try.prog w1 = .ok () w2 ∧
          (∃ w3 : World, (Instr.storeAt 22 (.pointer (some ⟨a0b, a0o, none⟩)) (.slice none 0 0)).run Try.prog w2 = .ok () w3 ∧
            (R (.returned (.slice none 0 0)) w3)))) ∧
      (x22 = false →
        (∃ (t32a : Option Addr) (t32n : Nat) (t32c : Nat), (Instr.loadAt 22 (.pointer (some ⟨a0b, a0o, none⟩))).run Try.prog w1 = .ok (.slice t32a t32n t32c) w1 ∧
          (0 ≤ a1 ∧ a1 ≤ ((t32c : Nat) : Int) ∧
            (∃ (t39a : Option Addr) (t39n : Nat) (t39c : Nat), (Instr.loadAt 22 (.pointer (some ⟨a0b, a0o, none⟩))).run Try.prog w1 = .ok (.slice t39a t39n t39c) w1 ∧
              (0 ≤ a1 ∧ a1 ≤ ((t39n : Nat) : Int) ∧ ((t39n : Nat) : Int) ≤ ((t39c : Nat) : Int) ∧ ∀ t41a : Option Addr, SubA 1 t39a (Int.toNat a1) t39c t41a →
                (∃ w4 : World, (Instr.storeAt 22 (.pointer (some ⟨a0b, a0o, none⟩)) (.slice t41a ((t39n) - (Int.toNat a1)) (t39c - (Int.toNat a1)))).run Try.prog w1 = .ok () w4 ∧
                  (R (.returned (.slice t32a (Int.toNat a1) t32c)) w4)))))))))) : Calls Try.prog 52 #[(.pointer (some ⟨a0b, a0o, none⟩)), (.int .i64 a1)] w R :=
  calls_of_ev (args := [(.pointer (some ⟨a0b, a0o, none⟩)), (.int .i64 a1)])
    (tc := .seq (.reg (.op .p (.nil))) (.seq (.seq (.join [6, 7, 8, 9, 10, 11, 12, 13, 14, 15, 16, 17, 18, 19, 20, 21, 22] [22] [.bool] (.reg (.op .p (.op .p (.op .p (.op (.ld (.bool)) (.op .p (.ap 2 (.op .p (.sp 14 (.op .p (.op .p (.op .p (.op .p (.op .p (.op .p (.op .p (.op .p (.nil))))))))) (.op .p (.op .p (.op .p (.op .p (.op (.ld (.slice)) (.op .p (.op .p (.op .p (.nil))))))))))))))))))) (.cond (.seq (.reg (.op .p (.op .p (.op .p (.op .u (.nil)))))) (.seq (.reg (.op .p (.op .p (.op .p (.op .u (.nil)))))) (.seq (.reg (.op .p (.nil))) (.leaf)))) (.leaf))) (.seq (.reg (.op .p (.op .p (.op .p (.op (.ld (.slice)) (.op .p (.op .sl (.op .p (.nil))))))))) (.seq (.reg (.op .p (.op .p (.op .p (.op .p (.op (.ld (.slice)) (.op .p (.op .sl (.op .p (.op .p (.op .u (.nil)))))))))))) (.seq (.reg (.op .p (.op .p (.nil)))) (.leaf))))))
    (by kernel_rfl) Try.func52 (by kernel_rfl) (by kernel_rfl) (by kernel_rfl) (by kernel_rfl) h

set_option maxRecDepth 100000 in
theorem amphoraref04_Reader_Var_vc (a0b : Nat) (a0o : Nat) (w : World) (R : Ending → World → Prop) (h :
  ∃ (t10a : Option Addr) (t10n : Nat) (t10c : Nat), (Instr.loadAt 22 (.pointer (some ⟨a0b, a0o, none⟩))).run Try.prog w = .ok (.slice t10a t10n t10c) w ∧
  (Calls Try.prog 13 #[(.slice t10a t10n t10c)] w fun (e11 : Ending) (w1 : World) => ∃ (t11_0 : Int) (t11_1 : Int) (t11_2 : Int), e11 = .returned (.tuple #[(.int .i64 t11_0), (.int .i64 t11_1), (.int .i64 t11_2)]) ∧
    (∃ J : Int → World → Prop, (((t11_2 != (0 : Int)) = true →
          (J (-1) w1)) ∧
        ((t11_2 != (0 : Int)) = false →
          (J t11_1 w1))) ∧
      (∀ (x4 : Int), ∀ w2 : World, J x4 w2 →
        (Calls Try.prog 52 #[(.pointer (some ⟨a0b, a0o, none⟩)), (.int .i64 x4)] w2 fun (e19 : Ending) (w3 : World) => ∃ (t19a : Option Addr) (t19n : Nat) (t19c : Nat), e19 = .returned (.slice t19a t19n t19c) ∧
          (∃ (t23 : Bool), (Instr.loadAt 4 (.pointer (some ⟨a0b, a0o + 1, none⟩))).run Try.prog w3 = .ok (.bool t23) w3 ∧
            ((t23 = true →
                (R (.returned (.int .i64 0)) w3)) ∧
              (t23 = false →
                (R (.returned (.int .i64 t11_0)) w3))))))))) : Calls Try.prog 39 #[(.pointer (some ⟨a0b, a0o, none⟩))] w R :=
  calls_of_ev (args := [(.pointer (some ⟨a0b, a0o, none⟩))])
    (tc := .seq (.reg (.op .p (.nil))) (.seq (.reg (.op .p (.op .p (.op .p (.op (.ld (.slice)) (.op (.cl [.int .i64, .int .i64, .int .i64]) (.op .p (.op .p (.op .p (.op .p (.op .p (.op .p (.op .p (.nil)))))))))))))) (.seq (.seq (.reg (.op .p (.op .p (.nil)))) (.join [4] [4] [.int .i64] (.cond (.reg (.op .p (.nil))) (.leaf)))) (.seq (.reg (.op .p (.op .p (.op (.cl [.slice]) (.nil))))) (.seq (.seq (.reg (.op .p (.op .p (.op .p (.op (.ld (.bool)) (.nil)))))) (.cond (.seq (.reg (.op .p (.nil))) (.leaf)) (.leaf))) (.seq (.reg (.op .p (.op .p (.nil)))) (.leaf)))))))
    (by kernel_rfl) Try.func39 (by kernel_rfl) (by kernel_rfl) (by kernel_rfl) (by kernel_rfl) h

set_option maxRecDepth 100000 in
theorem amphoraref04_Reader_Num_vc (a0b : Nat) (a0o : Nat) (w : World) (R : Ending → World → Prop) (h :
  Calls Try.prog 52 #[(.pointer (some ⟨a0b, a0o, none⟩)), (.int .i64 8)] w fun (e7 : Ending) (w1 : World) => ∃ (t7a : Option Addr) (t7n : Nat) (t7c : Nat), e7 = .returned (.slice t7a t7n t7c) ∧
  (Calls Try.prog 15 #[(.slice t7a t7n t7c)] w1 fun (e8 : Ending) (w2 : World) => ∃ (t8_0 : Int) (t8_1 : Int), e8 = .returned (.tuple #[(.int .i64 t8_0), (.int .i64 t8_1)]) ∧
    (R (.returned (.int .i64 t8_0)) w2))) : Calls Try.prog 40 #[(.pointer (some ⟨a0b, a0o, none⟩))] w R :=
  calls_of_ev (args := [(.pointer (some ⟨a0b, a0o, none⟩))])
    (tc := .seq (.reg (.op .p (.nil))) (.seq (.reg (.op .p (.op (.cl [.slice]) (.op (.cl [.int .i64, .int .i64]) (.op .p (.op .p (.op .p (.op .p (.op .p (.nil)))))))))) (.seq (.reg (.op .p (.op .p (.nil)))) (.leaf))))
    (by kernel_rfl) Try.func40 (by kernel_rfl) (by kernel_rfl) (by kernel_rfl) (by kernel_rfl) h

set_option maxRecDepth 100000 in
theorem amphoraref04_Reader_Field_vc (a0b : Nat) (a0o : Nat) (w : World) (R : Ending → World → Prop) (h :
  ∃ (t9a : Option Addr) (t9n : Nat) (t9c : Nat), (Instr.loadAt 22 (.pointer (some ⟨a0b, a0o, none⟩))).run Try.prog w = .ok (.slice t9a t9n t9c) w ∧
  (Calls Try.prog 45 #[(.slice t9a t9n t9c)] w fun (e10 : Ending) (w1 : World) => ∃ (t10_0a : Option Addr) (t10_0n : Nat) (t10_0c : Nat) (t10_1 : Int), e10 = .returned (.tuple #[(.slice t10_0a t10_0n t10_0c), (.int .i64 t10_1)]) ∧
    (Calls Try.prog 52 #[(.pointer (some ⟨a0b, a0o, none⟩)), (.int .i64 t10_1)] w1 fun (e15 : Ending) (w2 : World) => ∃ (t15a : Option Addr) (t15n : Nat) (t15c : Nat), e15 = .returned (.slice t15a t15n t15c) ∧
      (∃ (t19 : Bool), (Instr.loadAt 4 (.pointer (some ⟨a0b, a0o + 1, none⟩))).run Try.prog w2 = .ok (.bool t19) w2 ∧
        ((t19 = true →
            (R (.returned (.slice none 0 0)) w2)) ∧
          (t19 = false →
            (R (.returned (.slice t10_0a t10_0n t10_0c)) w2))))))) : Calls Try.prog 41 #[(.pointer (some ⟨a0b, a0o, none⟩))] w R :=
  calls_of_ev (args := [(.pointer (some ⟨a0b, a0o, none⟩))])
    (tc := .seq (.reg (.op .p (.nil))) (.seq (.reg (.op .p (.op .p (.op .p (.op (.ld (.slice)) (.op (.cl [.slice, .int .i64]) (.op .p (.op .p (.op .p (.op .p (.op .p (.nil)))))))))))) (.seq (.reg (.op .p (.op .p (.op (.cl [.slice]) (.nil))))) (.seq (.seq (.reg (.op .p (.op .p (.op .p (.op (.ld (.bool)) (.nil)))))) (.cond (.seq (.reg (.op .p (.nil))) (.leaf)) (.leaf))) (.seq (.reg (.op .p (.op .p (.nil)))) (.leaf))))))
    (by kernel_rfl) Try.func41 (by kernel_rfl) (by kernel_rfl) (by kernel_rfl) (by kernel_rfl) h

set_option maxRecDepth 100000 in
theorem amphoraref04_Reader_Raw_vc (a0b : Nat) (a0o : Nat) (a1 : Int) (w : World) (R : Ending → World → Prop) (h :
  Calls Try.prog 52 #[(.pointer (some ⟨a0b, a0o, none⟩)), (.int .i64 a1)] w fun (e7 : Ending) (w1 : World) => ∃ (t7a : Option Addr) (t7n : Nat) (t7c : Nat), e7 = .returned (.slice t7a t7n t7c) ∧
  (R (.returned (.slice t7a t7n t7c)) w1)) : Calls Try.prog 42 #[(.pointer (some ⟨a0b, a0o, none⟩)), (.int .i64 a1)] w R :=
  calls_of_ev (args := [(.pointer (some ⟨a0b, a0o, none⟩)), (.int .i64 a1)])
    (tc := .seq (.reg (.op .p (.nil))) (.seq (.reg (.op .p (.op .p (.op (.cl [.slice]) (.op .p (.nil)))))) (.leaf)))
    (by kernel_rfl) Try.func42 (by kernel_rfl) (by kernel_rfl) (by kernel_rfl) (by kernel_rfl) h

set_option maxRecDepth 100000 in
theorem amphoraref04_Same_vc (a0a : Option Addr) (a0n : Nat) (a0c : Nat) (a1a : Option Addr) (a1n : Nat) (a1c : Nat) (w : World) (R : Ending → World → Prop) (h :
  ((((a0n : Nat) : Int) != ((a1n : Nat) : Int)) = true →
    (R (.returned (.bool false)) w)) ∧
  ((((a0n : Nat) : Int) != ((a1n : Nat) : Int)) = false →
    (∃ (I : Int → World → Prop) (μ : Int → World → Nat), I 0 w ∧
      (∀ (x5 : Int), ∀ w1 : World, I x5 w1 →
        (((decide (x5 < ((a0n : Nat) : Int))) = true →
            (∃ J : Bool → World → Prop, (∃ S : World → Prop, S w1.drew ∧
                (∃ (t19b t19o : Nat), a0a = some ⟨t19b, t19o, none⟩ ∧ 0 ≤ x5 ∧ x5 < ((a0n : Nat) : Int) ∧
                  (∃ (t24b t24o : Nat), a1a = some ⟨t24b, t24o, none⟩ ∧ 0 ≤ x5 ∧ x5 < ((a1n : Nat) : Int) ∧
                    (∃ (t21 : Int), (∀ w' : World, S w' → (Instr.loadAt 3 (.pointer (some ⟨t19b, t19o + Int.toNat x5 * 3, none⟩))).run Try.prog w' = .ok (.int .i64 t21) w') ∧
                      (∃ (t26 : Int), (∀ w' : World, S w' → (Instr.loadAt 3 (.pointer (some ⟨t24b, t24o + Int.toNat x5 * 3, none⟩))).run Try.prog w' = .ok (.int .i64 t26) w') ∧
                        (((t21 != t26) = true →
                            (J true w1.drew)) ∧
                          ((t21 != t26) = false →
                            (∃ (t31b t31o : Nat), a0a = some ⟨t31b, t31o, none⟩ ∧ 0 ≤ x5 ∧ x5 < ((a0n : Nat) : Int) ∧
                              (∃ (t36b t36o : Nat), a1a = some ⟨t36b, t36o, none⟩ ∧ 0 ≤ x5 ∧ x5 < ((a1n : Nat) : Int) ∧
                                (∃ (t33 : Int), (∀ w' : World, S w' → (Instr.loadAt 3 (.pointer (some ⟨t31b, t31o + Int.toNat x5 * 3 + 2, none⟩))).run Try.prog w' = .ok (.int .i64 t33) w') ∧
                                  (∃ (t38 : Int), (∀ w' : World, S w' → (Instr.loadAt 3 (.pointer (some ⟨t36b, t36o + Int.toNat x5 * 3 + 2, none⟩))).run Try.prog w' = .ok (.int .i64 t38) w') ∧
                                    (((t33 != t38) = true →
                                        (J true w1.drew)) ∧
                                      ((t33 != t38) = false →
                                        (∃ (t44b t44o : Nat), a0a = some ⟨t44b, t44o, none⟩ ∧ 0 ≤ x5 ∧ x5 < ((a0n : Nat) : Int) ∧
                                          (∃ (t50b t50o : Nat), a1a = some ⟨t50b, t50o, none⟩ ∧ 0 ≤ x5 ∧ x5 < ((a1n : Nat) : Int) ∧
                                            (∃ (t46a : Option Addr) (t46n : Nat) (t46c : Nat), (∀ w' : World, S w' → (Instr.loadAt 22 (.pointer (some ⟨t44b, t44o + Int.toNat x5 * 3 + 1, none⟩))).run Try.prog w' = .ok (.slice t46a t46n t46c) w') ∧
                                              (∃ (t47 : ByteArray), (∀ w' : World, S w' → (convert 22 9 (.slice t46a t46n t46c)).run Try.prog w' = .ok (.string t47) w') ∧
                                                (∃ (t52a : Option Addr) (t52n : Nat) (t52c : Nat), (∀ w' : World, S w' → (Instr.loadAt 22 (.pointer (some ⟨t50b, t50o + Int.toNat x5 * 3 + 1, none⟩))).run Try.prog w' = .ok (.slice t52a t52n t52c) w') ∧
                                                  (∃ (t53 : ByteArray), (∀ w' : World, S w' → (convert 22 9 (.slice t52a t52n t52c)).run Try.prog w' = .ok (.string t53) w') ∧
                                                    (J (!(t47.toList == t53.toList)) w1.drew)))))))))))))))))))) ∧
              (∀ (x55 : Bool), ∀ w2 : World, J x55 w2 →
                ((x55 = true →
                    (R (.returned (.bool false)) w2)) ∧
                  (x55 = false →
                    (I (IntKind.wrap .i64 (x5 + (1 : Int))) w2 ∧ μ (IntKind.wrap .i64 (x5 + (1 : Int))) w2 < μ x5 w1)))))) ∧
          ((decide (x5 < ((a0n : Nat) : Int))) = false →
            (R (.returned (.bool true)) w1))))))) : Calls Try.prog 48 #[(.slice a0a a0n a0c), (.slice a1a a1n a1c)] w R :=
  calls_of_ev (args := [(.slice a0a a0n a0c), (.slice a1a a1n a1c)])
    (tc := .seq (.reg (.op .p (.nil))) (.seq (.seq (.reg (.op .p (.op .p (.op .p (.op .p (.op .p (.nil))))))) (.cond (.seq (.reg (.op .p (.nil))) (.leaf)) (.leaf))) (.seq (.seq (.reg (.op .p (.nil))) (.blk (.loop [4, 5, 11, 12, 13, 14, 15, 16, 17, 18, 19, 20, 21, 22, 23, 24, 25, 26, 27, 28, 29, 30, 31, 32, 33, 34, 35, 36, 37, 38, 39, 40, 41, 42, 43, 44, 45, 46, 47, 48, 49, 50, 51, 52, 53, 54, 55] [5] [.int .i64] (.seq (.seq (.reg (.op .p (.op .p (.op .p (.op .p (.nil)))))) (.cond (.leaf) (.leaf))) (.seq (.blk (.seq (.join [17, 18, 19, 20, 21, 22, 23, 24, 25, 26, 27, 28, 29, 30, 31, 32, 33, 34, 35, 36, 37, 38, 39, 40, 41, 42, 43, 44, 45, 46, 47, 48, 49, 50, 51, 52, 53, 54, 55] [55] [.bool] (.drawS (.tk 0 .p (.tk 1 .p (.tk 2 .ix (.tk 3 .p (.tk 5 .p (.tk 6 .p (.tk 7 .ix (.tk 8 .p (.ts 4 (.int .i64) (.ts 9 (.int .i64) (.tk 10 .p (.tk 11 .p (.sp 28 (.tk 12 .p (.tk 13 .p (.tk 14 .p (.tk 15 .p (.tk 17 .p (.tk 18 .p (.tk 19 .p (.tk 20 .p (.ts 16 .val (.ts 21 .val (.tk 22 .p (.tk 23 .p (.tk 24 .p (.tk 25 .p (.tk 26 .p (.tk 27 .p (.tk 28 .p (.tk 31 .p (.tk 32 .p (.tk 33 .p (.tk 34 .p (.ts 29 .val (.ts 30 .val (.ts 35 .val (.ts 36 .val (.tk 37 .p (.tk 38 .p (.nil)))))))))))))))))))))))))))) (.tk 12 .p (.tk 13 .p (.tk 14 .ix (.tk 15 .p (.tk 17 .p (.tk 18 .p (.tk 19 .ix (.tk 20 .p (.ts 16 (.int .i64) (.ts 21 (.int .i64) (.tk 22 .p (.tk 23 .p (.tk 24 .p (.sp 41 (.tk 25 .p (.tk 26 .p (.tk 27 .p (.tk 28 .p (.tk 31 .p (.tk 32 .p (.tk 33 .p (.tk 34 .p (.ts 29 .val (.ts 30 .val (.ts 35 .val (.ts 36 .val (.tk 37 .p (.tk 38 .p (.nil))))))))))))))) (.tk 25 .p (.tk 26 .p (.tk 27 .ix (.tk 28 .p (.tk 31 .p (.tk 32 .p (.tk 33 .ix (.tk 34 .p (.ts 29 (.slice) (.ts 30 (.str) (.ts 35 (.slice) (.ts 36 (.str) (.tk 37 .p (.tk 38 .p (.nil)))))))))))))))))))))))))))))))))))))))))) [])) (.cond (.seq (.reg (.op .p (.nil))) (.leaf)) (.leaf)))) (.reg (.op .p (.op .p (.op .p (.nil)))))))))) (.seq (.reg (.op .p (.nil))) (.leaf)))))
    (by kernel_rfl) Try.func48 (by kernel_rfl) (by kernel_rfl) (by kernel_rfl) (by kernel_rfl) h

end Go.Proofs.Ytpfjakmbokkkoaa
