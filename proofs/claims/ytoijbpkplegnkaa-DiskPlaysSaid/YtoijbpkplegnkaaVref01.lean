/- Verification conditions of functions, printed by the session's own program vc.py: out of each, Calls (conditions: none). -/
import Derived.Test.YtoijbpkplegnkaaRows
import Derived.Test.YtoijbpkplegnkaaSxRun
namespace Go.Proofs.Ytoijbpkplegnkaa
open Go Go.Proofs.Ytoijbpkplegnkaa.Sx

set_option maxRecDepth 100000 in
theorem amphoraref01_New_vc (a0 : Int) (w : World) (R : Ending → World → Prop) (h :
  (((decide (a0 < (0 : Int))) || (decide (a0 > (67108864 : Int)))) = true →
    (R (.returned (.tuple #[(.pointer none), (.int .i64 7)])) w)) ∧
  (((decide (a0 < (0 : Int))) || (decide (a0 > (67108864 : Int)))) = false →
    (∃ (t11 : Array Value), (Instr.build 102 #[(0, (.int .i64 a0)), (7, (.int .i64 (-1)))]).run Try.prog w = .ok (.agg t11) w ∧
      (∃ (g12 : Nat) (w1 : World), (Instr.box 102 (.agg t11)).run Try.prog w = .ok (.pointer (some ⟨g12, 0, none⟩)) w1 ∧
        (R (.returned (.tuple #[(.pointer (some ⟨g12, 0, none⟩)), (.int .i64 0)])) w1))))) : Calls Try.prog 27 #[(.int .i64 a0)] w R :=
  calls_of_ev (args := [(.int .i64 a0)])
    (tc := .seq (.reg (.op .p (.op .p (.nil)))) (.seq (.seq (.reg (.op .p (.op .p (.op .p (.ap 2 (.nil)))))) (.cond (.seq (.reg (.op .p (.op .p (.nil)))) (.leaf)) (.leaf))) (.seq (.reg (.op .p (.op (.ld (.agg)) (.op .bx (.op .p (.op .p (.nil))))))) (.leaf))))
    (by kernel_rfl) Try.func27 (by kernel_rfl) (by kernel_rfl) (by kernel_rfl) (by kernel_rfl) h

set_option maxRecDepth 100000 in
theorem amphoraref01_Name_vc (a0 : ByteArray) (w : World) (R : Ending → World → Prop) (h :
  (((decide ((a0.size : Int) < (1 : Int))) || (decide ((a0.size : Int) > (64 : Int)))) = true →
    (R (.returned (.bool false)) w)) ∧
  (((decide ((a0.size : Int) < (1 : Int))) || (decide ((a0.size : Int) > (64 : Int)))) = false →
    (∃ (I : Int → World → Prop) (μ : Int → World → Nat), I 0 w ∧
      (∀ (x3 : Int), ∀ w1 : World, I x3 w1 →
        (((decide (x3 < (a0.size : Int))) = true →
            (∃ J : Bool → World → Prop, (∃ (t20 : Int), (Instr.index 9 (.string a0) (.int .i64 x3)).run Try.prog w1 = .ok (.int .u8 t20) w1 ∧
                (((decide (t20 ≤ (32 : Int))) = true →
                    (J true w1)) ∧
                  ((decide (t20 ≤ (32 : Int))) = false →
                    (∃ (t25 : Int), (Instr.index 9 (.string a0) (.int .i64 x3)).run Try.prog w1 = .ok (.int .u8 t25) w1 ∧
                      (((decide (t25 ≥ (127 : Int))) = true →
                          (J true w1)) ∧
                        ((decide (t25 ≥ (127 : Int))) = false →
                          (∃ (t31 : Int), (Instr.index 9 (.string a0) (.int .i64 x3)).run Try.prog w1 = .ok (.int .u8 t31) w1 ∧
                            (J (t31 == (47 : Int)) w1)))))))) ∧
              (∀ (x33 : Bool), ∀ w2 : World, J x33 w2 →
                ((x33 = true →
                    (R (.returned (.bool false)) w2)) ∧
                  (x33 = false →
                    (I (IntKind.wrap .i64 (x3 + (1 : Int))) w2 ∧ μ (IntKind.wrap .i64 (x3 + (1 : Int))) w2 < μ x3 w1)))))) ∧
          ((decide (x3 < (a0.size : Int))) = false →
            (R (.returned (.bool true)) w1))))))) : Calls Try.prog 76 #[(.string a0)] w R :=
  calls_of_ev (args := [(.string a0)])
    (tc := .seq (.reg (.op .p (.nil))) (.seq (.seq (.reg (.op .p (.op .p (.op .p (.op .p (.ap 3 (.nil))))))) (.cond (.seq (.reg (.op .p (.nil))) (.leaf)) (.leaf))) (.seq (.seq (.reg (.op .p (.nil))) (.blk (.loop [2, 3, 12, 13, 14, 15, 16, 17, 18, 19, 20, 21, 22, 23, 24, 25, 26, 27, 28, 29, 30, 31, 32, 33] [3] [.int .i64] (.seq (.seq (.reg (.op .p (.op .p (.op .p (.op .p (.nil)))))) (.cond (.leaf) (.leaf))) (.seq (.blk (.seq (.join [18, 19, 20, 21, 22, 23, 24, 25, 26, 27, 28, 29, 30, 31, 32, 33] [33] [.bool] (.reg (.op .p (.op .p (.op (.ld (.int .u8)) (.op .p (.op .p (.sp 22 (.op .p (.op .p (.op .p (.op .p (.op .p (.op .p (.op .p (.op .p (.op .p (.op .p (.op .p (.nil)))))))))))) (.op .p (.op .p (.op (.ld (.int .u8)) (.op .p (.op .p (.op .p (.sp 28 (.op .p (.op .p (.op .p (.op .p (.op .p (.nil)))))) (.op .p (.op .p (.op (.ld (.int .u8)) (.op .p (.op .p (.nil))))))))))))))))))))) (.cond (.seq (.reg (.op .p (.nil))) (.leaf)) (.leaf)))) (.reg (.op .p (.op .p (.op .p (.nil)))))))))) (.seq (.reg (.op .p (.nil))) (.leaf)))))
    (by kernel_rfl) Try.func76 (by kernel_rfl) (by kernel_rfl) (by kernel_rfl) (by kernel_rfl) h

set_option maxRecDepth 100000 in
theorem amphoraref01_Find_vc (a0a : Option Addr) (a0n : Nat) (a0c : Nat) (a1 : ByteArray) (w : World) (R : Ending → World → Prop) (h :
  ∃ (I : Int → World → Prop) (μ : Int → World → Nat), I 0 w ∧
  (∀ (x5 : Int), ∀ w1 : World, I x5 w1 →
    (((decide (x5 < ((a0n : Nat) : Int))) = true →
        (∃ (t14b t14o : Nat), a0a = some ⟨t14b, t14o, none⟩ ∧ 0 ≤ x5 ∧ x5 < ((a0n : Nat) : Int) ∧
          (∃ (t16 : ByteArray), (Instr.loadAt 9 (.pointer (some ⟨t14b, t14o + Int.toNat x5 * 2, none⟩))).run Try.prog w1 = .ok (.string t16) w1 ∧
            (((t16.toList == a1.toList) = true →
                (∃ (t21b t21o : Nat), a0a = some ⟨t21b, t21o, none⟩ ∧ 0 ≤ x5 ∧ x5 < ((a0n : Nat) : Int) ∧
                  (∃ (t23 : Int), (Instr.loadAt 3 (.pointer (some ⟨t21b, t21o + Int.toNat x5 * 2 + 1, none⟩))).run Try.prog w1 = .ok (.int .i64 t23) w1 ∧
                    (R (.returned (.int .i64 t23)) w1)))) ∧
              ((t16.toList == a1.toList) = false →
                (I (IntKind.wrap .i64 (x5 + (1 : Int))) w1 ∧ μ (IntKind.wrap .i64 (x5 + (1 : Int))) w1 < μ x5 w1)))))) ∧
      ((decide (x5 < ((a0n : Nat) : Int))) = false →
        (R (.returned (.int .i64 (-1))) w1))))) : Calls Try.prog 78 #[(.slice a0a a0n a0c), (.string a1)] w R :=
  calls_of_ev (args := [(.slice a0a a0n a0c), (.string a1)])
    (tc := .seq (.reg (.op .p (.nil))) (.seq (.seq (.reg (.op .p (.nil))) (.blk (.loop [4, 5, 6, 7, 8, 9, 10, 11, 12, 13, 14, 15, 16, 17, 18, 19, 20, 21, 22, 23] [5] [.int .i64] (.seq (.seq (.reg (.op .p (.op .p (.op .p (.op .p (.nil)))))) (.cond (.leaf) (.leaf))) (.seq (.blk (.seq (.reg (.op .p (.op .p (.op .ix (.op .p (.op (.ld (.str)) (.op .p (.op .p (.nil))))))))) (.cond (.seq (.reg (.op .p (.op .p (.op .ix (.op .p (.op (.ld (.int .i64)) (.op .p (.nil)))))))) (.leaf)) (.leaf)))) (.reg (.op .p (.op .p (.op .p (.nil)))))))))) (.seq (.reg (.op .p (.nil))) (.leaf))))
    (by kernel_rfl) Try.func78 (by kernel_rfl) (by kernel_rfl) (by kernel_rfl) (by kernel_rfl) h

set_option maxRecDepth 100000 in
theorem amphoraref01_without_vc (a0a : Option Addr) (a0n : Nat) (a0c : Nat) (a1 : ByteArray) (w : World) (R : Ending → World → Prop) (h :
  ∃ (I : Option Addr → Nat → Nat → Int → World → Prop) (μ : Option Addr → Nat → Nat → Int → World → Nat), I none 0 0 0 w ∧
  (∀ (x5a : Option Addr) (x5n : Nat) (x5c : Nat) (x6 : Int), ∀ w1 : World, I x5a x5n x5c x6 w1 →
    (((decide (x6 < ((a0n : Nat) : Int))) = true →
        (∃ (t15b t15o : Nat), a0a = some ⟨t15b, t15o, none⟩ ∧ 0 ≤ x6 ∧ x6 < ((a0n : Nat) : Int) ∧
          (∃ (t17 : ByteArray), (Instr.loadAt 9 (.pointer (some ⟨t15b, t15o + Int.toNat x6 * 2, none⟩))).run Try.prog w1 = .ok (.string t17) w1 ∧
            (∃ J : Option Addr → Nat → Nat → World → Prop, (((!(t17.toList == a1.toList)) = true →
                  (∃ (t23b t23o : Nat), a0a = some ⟨t23b, t23o, none⟩ ∧ 0 ≤ x6 ∧ x6 < ((a0n : Nat) : Int) ∧
                    (∃ (t24 : Array Value), (Instr.loadAt 127 (.pointer (some ⟨t23b, t23o + Int.toNat x6 * 2, none⟩))).run Try.prog w1 = .ok (.agg t24) w1 ∧
                      (∃ (t25a : Option Addr) (t25n : Nat) (t25c : Nat) (w2 : World), (Instr.buildSlice 99 1 #[(0, (.agg t24))]).run Try.prog w1 = .ok (.slice t25a t25n t25c) w2 ∧
                        (∃ (t26a : Option Addr) (t26n : Nat) (t26c : Nat) (w3 : World), (Builtin.append_ #[99, 99] 99 #[(.slice x5a x5n x5c), (.slice t25a t25n t25c)]).run Try.prog w2 = .ok (.slice t26a t26n t26c) w3 ∧
                          (J t26a t26n t26c w3)))))) ∧
                ((!(t17.toList == a1.toList)) = false →
                  (J x5a x5n x5c w1))) ∧
              (∀ (x5a_1 : Option Addr) (x5n_1 : Nat) (x5c_1 : Nat), ∀ w4 : World, J x5a_1 x5n_1 x5c_1 w4 →
                (I x5a_1 x5n_1 x5c_1 (IntKind.wrap .i64 (x6 + (1 : Int))) w4 ∧ μ x5a_1 x5n_1 x5c_1 (IntKind.wrap .i64 (x6 + (1 : Int))) w4 < μ x5a x5n x5c x6 w1)))))) ∧
      ((decide (x6 < ((a0n : Nat) : Int))) = false →
        (R (.returned (.slice x5a x5n x5c)) w1))))) : Calls Try.prog 80 #[(.slice a0a a0n a0c), (.string a1)] w R :=
  calls_of_ev (args := [(.slice a0a a0n a0c), (.string a1)])
    (tc := .seq (.reg (.op .p (.nil))) (.seq (.reg (.op .p (.nil))) (.seq (.seq (.reg (.op .p (.nil))) (.blk (.loop [5, 6, 7, 8, 9, 10, 11, 12, 13, 14, 15, 16, 17, 18, 19, 20, 21, 22, 23, 24, 25, 26] [5, 6] [.slice, .int .i64] (.seq (.seq (.reg (.op .p (.op .p (.op .p (.op .p (.nil)))))) (.cond (.leaf) (.leaf))) (.seq (.blk (.seq (.reg (.op .p (.op .p (.op .ix (.op .p (.op (.ld (.str)) (.op .p (.op .p (.nil))))))))) (.join [5, 20, 21, 22, 23, 24, 25, 26] [5] [.slice] (.cond (.reg (.op .p (.op .p (.op .p (.op .ix (.op (.ld (.agg)) (.op (.r (.slice)) (.op (.r (.slice)) (.op .p (.nil)))))))))) (.leaf))))) (.reg (.op .p (.op .p (.op .p (.nil)))))))))) (.seq (.reg (.op .p (.op .p (.nil)))) (.leaf)))))
    (by kernel_rfl) Try.func80 (by kernel_rfl) (by kernel_rfl) (by kernel_rfl) (by kernel_rfl) h

set_option maxRecDepth 100000 in
theorem amphoraref01_with_vc (a0a : Option Addr) (a0n : Nat) (a0c : Nat) (a1 : ByteArray) (a2 : Int) (w : World) (R : Ending → World → Prop) (h :
  Calls Try.prog 80 #[(.slice a0a a0n a0c), (.string a1)] w fun (e13 : Ending) (w1 : World) => ∃ (t13a : Option Addr) (t13n : Nat) (t13c : Nat), e13 = .returned (.slice t13a t13n t13c) ∧
  (∃ (I : Option Addr → Nat → Nat → Bool → Int → World → Prop) (μ : Option Addr → Nat → Nat → Bool → Int → World → Nat), I none 0 0 false 0 w1 ∧
    (∀ (x7a : Option Addr) (x7n : Nat) (x7c : Nat) (x8 : Bool) (x10 : Int), ∀ w2 : World, I x7a x7n x7c x8 x10 w2 →
      (((decide (x10 < ((t13n : Nat) : Int))) = true →
          (∃ J : Bool → World → Prop, (((!x8) = true →
                (∃ (t25b t25o : Nat), t13a = some ⟨t25b, t25o, none⟩ ∧ 0 ≤ x10 ∧ x10 < ((t13n : Nat) : Int) ∧
                  (∃ (t27 : ByteArray), (Instr.loadAt 9 (.pointer (some ⟨t25b, t25o + Int.toNat x10 * 2, none⟩))).run Try.prog w2 = .ok (.string t27) w2 ∧
                    (∃ (t29 : Bool), (eqlS .gtr 9 (.tmp 27) (.tmp 28) (.string t27) (.string a1)).run Try.prog w2 = .ok (.bool t29) w2 ∧
                      (J t29 w2))))) ∧
              ((!x8) = false →
                (J false w2))) ∧
            (∀ (x30 : Bool), ∀ w3 : World, J x30 w3 →
              (∃ J_1 : Option Addr → Nat → Nat → Bool → World → Prop, ((x30 = true →
                    (∃ (t34 : Array Value), (Instr.build 127 #[(0, (.string a1)), (1, (.int .i64 a2))]).run Try.prog w3 = .ok (.agg t34) w3 ∧
                      (∃ (t35a : Option Addr) (t35n : Nat) (t35c : Nat) (w4 : World), (Instr.buildSlice 99 1 #[(0, (.agg t34))]).run Try.prog w3 = .ok (.slice t35a t35n t35c) w4 ∧
                        (∃ (t36a : Option Addr) (t36n : Nat) (t36c : Nat) (w5 : World), (Builtin.append_ #[99, 99] 99 #[(.slice x7a x7n x7c), (.slice t35a t35n t35c)]).run Try.prog w4 = .ok (.slice t36a t36n t36c) w5 ∧
                          (J_1 t36a t36n t36c true w5))))) ∧
                  (x30 = false →
                    (J_1 x7a x7n x7c x8 w3))) ∧
                (∀ (x7a_1 : Option Addr) (x7n_1 : Nat) (x7c_1 : Nat) (x8_1 : Bool), ∀ w6 : World, J_1 x7a_1 x7n_1 x7c_1 x8_1 w6 →
                  (∃ (t40b t40o : Nat), t13a = some ⟨t40b, t40o, none⟩ ∧ 0 ≤ x10 ∧ x10 < ((t13n : Nat) : Int) ∧
                    (∃ (t41 : Array Value), (Instr.loadAt 127 (.pointer (some ⟨t40b, t40o + Int.toNat x10 * 2, none⟩))).run Try.prog w6 = .ok (.agg t41) w6 ∧
                      (∃ (t42a : Option Addr) (t42n : Nat) (t42c : Nat) (w7 : World), (Instr.buildSlice 99 1 #[(0, (.agg t41))]).run Try.prog w6 = .ok (.slice t42a t42n t42c) w7 ∧
                        (∃ (t43a : Option Addr) (t43n : Nat) (t43c : Nat) (w8 : World), (Builtin.append_ #[99, 99] 99 #[(.slice x7a_1 x7n_1 x7c_1), (.slice t42a t42n t42c)]).run Try.prog w7 = .ok (.slice t43a t43n t43c) w8 ∧
                          (I t43a t43n t43c x8_1 (IntKind.wrap .i64 (x10 + (1 : Int))) w8 ∧ μ t43a t43n t43c x8_1 (IntKind.wrap .i64 (x10 + (1 : Int))) w8 < μ x7a x7n x7c x8 x10 w2)))))))))) ∧
        ((decide (x10 < ((t13n : Nat) : Int))) = false →
          (∃ J : Option Addr → Nat → Nat → World → Prop, (((!x8) = true →
                (∃ (t49 : Array Value), (Instr.build 127 #[(0, (.string a1)), (1, (.int .i64 a2))]).run Try.prog w2 = .ok (.agg t49) w2 ∧
                  (∃ (t50a : Option Addr) (t50n : Nat) (t50c : Nat) (w9 : World), (Instr.buildSlice 99 1 #[(0, (.agg t49))]).run Try.prog w2 = .ok (.slice t50a t50n t50c) w9 ∧
                    (∃ (t51a : Option Addr) (t51n : Nat) (t51c : Nat) (w10 : World), (Builtin.append_ #[99, 99] 99 #[(.slice x7a x7n x7c), (.slice t50a t50n t50c)]).run Try.prog w9 = .ok (.slice t51a t51n t51c) w10 ∧
                      (J t51a t51n t51c w10))))) ∧
              ((!x8) = false →
                (J x7a x7n x7c w2))) ∧
            (∀ (x7a_1 : Option Addr) (x7n_1 : Nat) (x7c_1 : Nat), ∀ w11 : World, J x7a_1 x7n_1 x7c_1 w11 →
              (R (.returned (.slice x7a_1 x7n_1 x7c_1)) w11)))))))) : Calls Try.prog 79 #[(.slice a0a a0n a0c), (.string a1), (.int .i64 a2)] w R :=
  calls_of_ev (args := [(.slice a0a a0n a0c), (.string a1), (.int .i64 a2)])
    (tc := .seq (.reg (.op .p (.nil))) (.seq (.reg (.op .p (.nil))) (.seq (.reg (.op .p (.nil))) (.seq (.reg (.op .p (.op .p (.op (.cl [.slice]) (.op .p (.nil)))))) (.seq (.seq (.reg (.op .p (.nil))) (.blk (.loop [7, 8, 10, 14, 15, 16, 17, 18, 19, 20, 21, 22, 23, 24, 25, 26, 27, 28, 29, 30, 31, 32, 33, 34, 35, 36, 37, 38, 39, 40, 41, 42, 43] [7, 8, 10] [.slice, .bool, .int .i64] (.seq (.seq (.reg (.op .p (.op .p (.op .p (.op .p (.nil)))))) (.cond (.leaf) (.leaf))) (.seq (.blk (.seq (.seq (.join [20, 21, 22, 23, 24, 25, 26, 27, 28, 29, 30] [30] [.bool] (.reg (.op .p (.op .p (.op .p (.sp 22 (.op .p (.op .p (.op .ix (.op .p (.op (.ld (.str)) (.op .p (.op (.ld (.bool)) (.op .p (.nil))))))))) (.op .p (.op .p (.op .p (.op .p (.op .p (.op .p (.op .p (.op .p (.nil))))))))))))))) (.join [7, 8, 31, 32, 33, 34, 35, 36] [7, 8] [.slice, .bool] (.cond (.seq (.reg (.op .p (.op .p (.op .p (.op (.ld (.agg)) (.op (.r (.slice)) (.op (.r (.slice)) (.op .p (.nil))))))))) (.reg (.op .p (.nil)))) (.leaf)))) (.reg (.op .p (.op .p (.op .p (.op .ix (.op (.ld (.agg)) (.op (.r (.slice)) (.op (.r (.slice)) (.op .p (.nil)))))))))))) (.reg (.op .p (.op .p (.op .p (.nil)))))))))) (.seq (.seq (.reg (.op .p (.op .p (.nil)))) (.join [7, 46, 47, 48, 49, 50, 51] [7] [.slice] (.cond (.reg (.op .p (.op .p (.op .p (.op (.ld (.agg)) (.op (.r (.slice)) (.op (.r (.slice)) (.op .p (.nil))))))))) (.leaf)))) (.seq (.reg (.op .p (.op .p (.nil)))) (.leaf))))))))
    (by kernel_rfl) Try.func79 (by kernel_rfl) (by kernel_rfl) (by kernel_rfl) (by kernel_rfl) h

set_option maxRecDepth 100000 in
theorem amphoraref01_made_vc (a0a : Option Addr) (a0n : Nat) (a0c : Nat) (a1 : Array Value) (w : World) (R : Ending → World → Prop) (h :
  ∃ (g3 : Nat) (w1 : World), (Instr.box 124 (.agg a1)).run Try.prog w = .ok (.pointer (some ⟨g3, 0, none⟩)) w1 ∧
  (∃ (t7 : Int), (Instr.loadAt 3 (.pointer (some ⟨g3, 0, none⟩))).run Try.prog w1 = .ok (.int .i64 t7) w1 ∧
    (((decide (t7 ≥ (0 : Int))) = true →
        (∃ (t11 : ByteArray), (Instr.loadAt 9 (.pointer (some ⟨g3, 2, none⟩))).run Try.prog w1 = .ok (.string t11) w1 ∧
          (∃ (t13 : Int), (Instr.loadAt 3 (.pointer (some ⟨g3, 0, none⟩))).run Try.prog w1 = .ok (.int .i64 t13) w1 ∧
            (Calls Try.prog 79 #[(.slice a0a a0n a0c), (.string t11), (.int .i64 t13)] w1 fun (e14 : Ending) (w2 : World) => ∃ (t14a : Option Addr) (t14n : Nat) (t14c : Nat), e14 = .returned (.slice t14a t14n t14c) ∧
              (R (.returned (.slice t14a t14n t14c)) w2))))) ∧
      ((decide (t7 ≥ (0 : Int))) = false →
        (∃ (t17 : ByteArray), (Instr.loadAt 9 (.pointer (some ⟨g3, 1, none⟩))).run Try.prog w1 = .ok (.string t17) w1 ∧
          (Calls Try.prog 78 #[(.slice a0a a0n a0c), (.string t17)] w1 fun (e18 : Ending) (w3 : World) => ∃ (t18 : Int), e18 = .returned (.int .i64 t18) ∧
            (∃ (t21 : ByteArray), (Instr.loadAt 9 (.pointer (some ⟨g3, 1, none⟩))).run Try.prog w3 = .ok (.string t21) w3 ∧
              (Calls Try.prog 80 #[(.slice a0a a0n a0c), (.string t21)] w3 fun (e22 : Ending) (w4 : World) => ∃ (t22a : Option Addr) (t22n : Nat) (t22c : Nat), e22 = .returned (.slice t22a t22n t22c) ∧
                (∃ (t24 : ByteArray), (Instr.loadAt 9 (.pointer (some ⟨g3, 2, none⟩))).run Try.prog w4 = .ok (.string t24) w4 ∧
                  (((t24.toList == (ByteArray.mk #[]).toList) = true →
                      (R (.returned (.slice t22a t22n t22c)) w4)) ∧
                    ((t24.toList == (ByteArray.mk #[]).toList) = false →
                      (∃ (t29 : ByteArray), (Instr.loadAt 9 (.pointer (some ⟨g3, 2, none⟩))).run Try.prog w4 = .ok (.string t29) w4 ∧
                        (Calls Try.prog 79 #[(.slice t22a t22n t22c), (.string t29), (.int .i64 t18)] w4 fun (e31 : Ending) (w5 : World) => ∃ (t31a : Option Addr) (t31n : Nat) (t31c : Nat), e31 = .returned (.slice t31a t31n t31c) ∧
                          (R (.returned (.slice t31a t31n t31c)) w5)))))))))))))) : Calls Try.prog 75 #[(.slice a0a a0n a0c), (.agg a1)] w R :=
  calls_of_ev (args := [(.slice a0a a0n a0c), (.agg a1)])
    (tc := .seq (.reg (.op .bx (.op .p (.nil)))) (.seq (.seq (.reg (.op .p (.op (.ld (.int .i64)) (.op .p (.nil))))) (.cond (.seq (.reg (.op .p (.op .p (.op (.ld (.str)) (.op .p (.op (.ld (.int .i64)) (.op (.cl [.slice]) (.op .p (.nil))))))))) (.leaf)) (.leaf))) (.seq (.reg (.op .p (.op .p (.op (.ld (.str)) (.op (.cl [.int .i64]) (.op .p (.nil))))))) (.seq (.reg (.op .p (.op .p (.op (.ld (.str)) (.op (.cl [.slice]) (.op .p (.nil))))))) (.seq (.seq (.reg (.op .p (.op (.ld (.str)) (.op .p (.nil))))) (.cond (.seq (.reg (.op .p (.op .p (.nil)))) (.leaf)) (.leaf))) (.seq (.reg (.op .p (.op .p (.op (.ld (.str)) (.op .p (.op (.cl [.slice]) (.op .p (.nil)))))))) (.leaf)))))))
    (by kernel_rfl) Try.func75 (by kernel_rfl) (by kernel_rfl) (by kernel_rfl) (by kernel_rfl) h

set_option maxRecDepth 100000 in
theorem amphoraref01_Disk_Used_vc (a0b : Nat) (a0o : Nat) (w : World) (R : Ending → World → Prop) (h :
  ∃ (I : Int → Int → World → Prop) (μ : Int → Int → World → Nat), I 0 0 w ∧
  (∀ (x3 : Int) (x4 : Int), ∀ w1 : World, I x3 x4 w1 →
    (∃ (t9a : Option Addr) (t9n : Nat) (t9c : Nat), (Instr.loadAt 99 (.pointer (some ⟨a0b, a0o + 2, none⟩))).run Try.prog w1 = .ok (.slice t9a t9n t9c) w1 ∧
      (((decide (x4 < ((t9n : Nat) : Int))) = true →
          (∃ S : World → Prop, S w1.drew ∧
            (∃ (t18a : Option Addr) (t18n : Nat) (t18c : Nat), (∀ w' : World, S w' → (Instr.loadAt 98 (.pointer (some ⟨a0b, a0o + 1, none⟩))).run Try.prog w' = .ok (.slice t18a t18n t18c) w') ∧
              (∃ (t22a : Option Addr) (t22n : Nat) (t22c : Nat), (∀ w' : World, S w' → (Instr.loadAt 99 (.pointer (some ⟨a0b, a0o + 2, none⟩))).run Try.prog w' = .ok (.slice t22a t22n t22c) w') ∧
                (∃ (t24b t24o : Nat), t22a = some ⟨t24b, t24o, none⟩ ∧ 0 ≤ x4 ∧ x4 < ((t22n : Nat) : Int) ∧
                  (∃ (t26 : Int), (∀ w' : World, S w' → (Instr.loadAt 3 (.pointer (some ⟨t24b, t24o + Int.toNat x4 * 2 + 1, none⟩))).run Try.prog w' = .ok (.int .i64 t26) w') ∧
                    (∃ (t27b t27o : Nat), t18a = some ⟨t27b, t27o, none⟩ ∧ 0 ≤ t26 ∧ t26 < ((t18n : Nat) : Int) ∧
                      (∃ (t29a : Option Addr) (t29n : Nat) (t29c : Nat), (∀ w' : World, S w' → (Instr.loadAt 22 (.pointer (some ⟨t27b, t27o + Int.toNat t26 * 2, none⟩))).run Try.prog w' = .ok (.slice t29a t29n t29c) w') ∧
                        (I (IntKind.wrap .i64 (x3 + ((t29n : Nat) : Int))) (IntKind.wrap .i64 (x4 + (1 : Int))) w1.drew ∧ μ (IntKind.wrap .i64 (x3 + ((t29n : Nat) : Int))) (IntKind.wrap .i64 (x4 + (1 : Int))) w1.drew < μ x3 x4 w1))))))))) ∧
        ((decide (x4 < ((t9n : Nat) : Int))) = false →
          (R (.returned (.int .i64 x3)) w1)))))) : Calls Try.prog 64 #[(.pointer (some ⟨a0b, a0o, none⟩))] w R :=
  calls_of_ev (args := [(.pointer (some ⟨a0b, a0o, none⟩))])
    (tc := .seq (.reg (.op .p (.nil))) (.seq (.reg (.op .p (.nil))) (.seq (.seq (.reg (.op .p (.nil))) (.blk (.loop [3, 4, 5, 6, 7, 8, 9, 10, 11, 12, 13, 14, 15, 16, 17, 18, 19, 20, 21, 22, 23, 24, 25, 26, 27, 28, 29, 30, 31] [3, 4] [.int .i64, .int .i64] (.seq (.seq (.reg (.op .p (.op .p (.op .p (.op .p (.op (.ld (.slice)) (.op .p (.op .p (.nil))))))))) (.cond (.leaf) (.leaf))) (.seq (.blk (.drawS (.tk 0 .p (.tk 1 .p (.tk 2 .p (.tk 3 .p (.tk 5 .p (.tk 6 .p (.tk 7 .p (.tk 9 .p (.ts 4 (.slice) (.ts 8 (.slice) (.tk 10 .ix (.tk 11 .p (.ts 12 (.int .i64) (.tk 13 .ix (.tk 14 .p (.ts 15 (.slice) (.tk 16 .p (.tk 17 .p (.tk 18 .p (.nil)))))))))))))))))))) [])) (.reg (.op .p (.op .p (.op .p (.nil)))))))))) (.seq (.reg (.op .p (.op .p (.nil)))) (.leaf)))))
    (by kernel_rfl) Try.func64 (by kernel_rfl) (by kernel_rfl) (by kernel_rfl) (by kernel_rfl) h

set_option maxRecDepth 100000 in
theorem amphoraref01_Disk_step_vc (a0b : Nat) (a0o : Nat) (w : World) (R : Ending → World → Prop) (h :
  ∃ (t7 : Int), (Instr.loadAt 3 (.pointer (some ⟨a0b, a0o + 7, none⟩))).run Try.prog w = .ok (.int .i64 t7) w ∧
  (((t7 == (0 : Int)) = true →
      (∃ w1 : World, (Instr.storeAt 4 (.pointer (some ⟨a0b, a0o + 6, none⟩)) (.bool true)).run Try.prog w = .ok () w1 ∧
        (R (.returned (.int .i64 1)) w1))) ∧
    ((t7 == (0 : Int)) = false →
      (∃ (t15 : Int), (Instr.loadAt 3 (.pointer (some ⟨a0b, a0o + 7, none⟩))).run Try.prog w = .ok (.int .i64 t15) w ∧
        (∃ J : World → Prop, (((decide (t15 > (0 : Int))) = true →
              (∃ (t20 : Int), (Instr.loadAt 3 (.pointer (some ⟨a0b, a0o + 7, none⟩))).run Try.prog w = .ok (.int .i64 t20) w ∧
                (∃ w2 : World, (Instr.storeAt 3 (.pointer (some ⟨a0b, a0o + 7, none⟩)) (.int .i64 (IntKind.wrap .i64 (t20 - (1 : Int))))).run Try.prog w = .ok () w2 ∧
                  (J  w2)))) ∧
            ((decide (t15 > (0 : Int))) = false →
              (J  w))) ∧
          (∀ w3 : World, J  w3 →
            (∃ (t27 : Int), (Instr.loadAt 3 (.pointer (some ⟨a0b, a0o + 5, none⟩))).run Try.prog w3 = .ok (.int .i64 t27) w3 ∧
              (∃ w4 : World, (Instr.storeAt 3 (.pointer (some ⟨a0b, a0o + 5, none⟩)) (.int .i64 (IntKind.wrap .i64 (t27 + (1 : Int))))).run Try.prog w3 = .ok () w4 ∧
                (∃ (t34a : Option Addr) (t34n : Nat) (t34c : Nat), (Instr.loadAt 48 (.pointer (some ⟨a0b, a0o + 8, none⟩))).run Try.prog w4 = .ok (.slice t34a t34n t34c) w4 ∧
                  (((((t34n : Nat) : Int) == (0 : Int)) = true →
                      (R (.returned (.int .i64 0)) w4)) ∧
                    ((((t34n : Nat) : Int) == (0 : Int)) = false →
                      (∃ (t37a : Option Addr) (t37n : Nat) (t37c : Nat) (w5 : World), (Instr.buildSlice 48 0 #[]).run Try.prog w4 = .ok (.slice t37a t37n t37c) w5 ∧
                        (∃ (t41a : Option Addr) (t41n : Nat) (t41c : Nat), (Instr.loadAt 48 (.pointer (some ⟨a0b, a0o + 8, none⟩))).run Try.prog w5 = .ok (.slice t41a t41n t41c) w5 ∧
                          (0 ≤ (1 : Int) ∧ (1 : Int) ≤ ((t41n : Nat) : Int) ∧ ((t41n : Nat) : Int) ≤ ((t41c : Nat) : Int) ∧ ∀ t42a : Option Addr, SubA 1 t41a 1 t41c t42a →
                            (∃ (t43a : Option Addr) (t43n : Nat) (t43c : Nat) (w6 : World), (Builtin.append_ #[48, 48] 48 #[(.slice t37a t37n t37c), (.slice t42a ((t41n) - 1) (t41c - 1))]).run Try.prog w5 = .ok (.slice t43a t43n t43c) w6 ∧
                              (∃ (t47a : Option Addr) (t47n : Nat) (t47c : Nat), (Instr.loadAt 48 (.pointer (some ⟨a0b, a0o + 8, none⟩))).run Try.prog w6 = .ok (.slice t47a t47n t47c) w6 ∧
                                (∃ (t48b t48o : Nat), t47a = some ⟨t48b, t48o, none⟩ ∧ 0 ≤ (0 : Int) ∧ (0 : Int) < ((t47n : Nat) : Int) ∧
                                  (∃ (t49 : Int), (Instr.loadAt 3 (.pointer (some ⟨t48b, t48o + Int.toNat (0 : Int) * 1, none⟩))).run Try.prog w6 = .ok (.int .i64 t49) w6 ∧
                                    (((t49 == (0 : Int)) = true →
                                        (∃ w7 : World, (Instr.storeAt 48 (.pointer (some ⟨a0b, a0o + 8, none⟩)) (.slice t43a t43n t43c)).run Try.prog w6 = .ok () w7 ∧
                                          (R (.returned (.int .i64 2)) w7))) ∧
                                      ((t49 == (0 : Int)) = false →
                                        (∃ (t59a : Option Addr) (t59n : Nat) (t59c : Nat), (Instr.loadAt 48 (.pointer (some ⟨a0b, a0o + 8, none⟩))).run Try.prog w6 = .ok (.slice t59a t59n t59c) w6 ∧
                                          (∃ (t60b t60o : Nat), t59a = some ⟨t60b, t60o, none⟩ ∧ 0 ≤ (0 : Int) ∧ (0 : Int) < ((t59n : Nat) : Int) ∧
                                            (∃ (t61 : Int), (Instr.loadAt 3 (.pointer (some ⟨t60b, t60o + Int.toNat (0 : Int) * 1, none⟩))).run Try.prog w6 = .ok (.int .i64 t61) w6 ∧
                                              (∃ (t63a : Option Addr) (t63n : Nat) (t63c : Nat) (w8 : World), (Instr.buildSlice 48 1 #[(0, (.int .i64 (IntKind.wrap .i64 (t61 - (1 : Int)))))]).run Try.prog w6 = .ok (.slice t63a t63n t63c) w8 ∧
                                                (∃ (t65a : Option Addr) (t65n : Nat) (t65c : Nat) (w9 : World), (Builtin.append_ #[48, 48] 48 #[(.slice t63a t63n t63c), (.slice t43a t43n t43c)]).run Try.prog w8 = .ok (.slice t65a t65n t65c) w9 ∧
                                                  (∃ w10 : World, (Instr.storeAt 48 (.pointer (some ⟨a0b, a0o + 8, none⟩)) (.slice t65a t65n t65c)).run Try.prog w9 = .ok () w10 ∧
                                                    (R (.returned (.int .i64 0)) w10))))))))))))))))))))))))))) : Calls Try.prog 74 #[(.pointer (some ⟨a0b, a0o, none⟩))] w R :=
  calls_of_ev (args := [(.pointer (some ⟨a0b, a0o, none⟩))])
    (tc := .seq (.reg (.op .p (.nil))) (.seq (.seq (.reg (.op .p (.op .p (.op .p (.op (.ld (.int .i64)) (.op .p (.nil))))))) (.cond (.seq (.reg (.op .p (.op .p (.op .p (.op .u (.nil)))))) (.seq (.reg (.op .p (.nil))) (.leaf))) (.leaf))) (.seq (.seq (.reg (.op .p (.op .p (.op .p (.op (.ld (.int .i64)) (.op .p (.nil))))))) (.join [17, 18, 19, 20, 21, 22, 23] [] [] (.cond (.reg (.op .p (.op .p (.op .p (.op (.ld (.int .i64)) (.op .p (.op .p (.op .p (.op .u (.nil)))))))))) (.leaf)))) (.seq (.reg (.op .p (.op .p (.op .p (.op (.ld (.int .i64)) (.op .p (.op .p (.op .p (.op .u (.nil)))))))))) (.seq (.seq (.reg (.op .p (.op .p (.op .p (.op (.ld (.slice)) (.op .p (.op .p (.nil)))))))) (.cond (.seq (.reg (.op .p (.nil))) (.leaf)) (.leaf))) (.seq (.reg (.op (.r (.slice)) (.op .p (.op .p (.op .p (.op (.ld (.slice)) (.op .sl (.op (.r (.slice)) (.op .p (.nil)))))))))) (.seq (.seq (.reg (.op .p (.op .p (.op .p (.op (.ld (.slice)) (.op .ix (.op (.ld (.int .i64)) (.op .p (.nil))))))))) (.cond (.seq (.reg (.op .p (.op .p (.op .p (.op .p (.op .u (.nil))))))) (.seq (.reg (.op .p (.nil))) (.leaf))) (.leaf))) (.seq (.reg (.op .p (.op .p (.op .p (.op .p (.op (.ld (.slice)) (.op .ix (.op (.ld (.int .i64)) (.op .p (.op (.r (.slice)) (.op .p (.op (.r (.slice)) (.op .p (.op .p (.op .u (.nil)))))))))))))))) (.seq (.reg (.op .p (.nil))) (.leaf))))))))))
    (by kernel_rfl) Try.func74 (by kernel_rfl) (by kernel_rfl) (by kernel_rfl) (by kernel_rfl) h

set_option maxRecDepth 100000 in
theorem amphoraref01_Disk_found_vc (a0b : Nat) (a0o : Nat) (a1 : ByteArray) (w : World) (R : Ending → World → Prop) (h :
  ∃ (t10 : Bool), (Instr.loadAt 4 (.pointer (some ⟨a0b, a0o + 6, none⟩))).run Try.prog w = .ok (.bool t10) w ∧
  ((t10 = true →
      (R (.returned (.tuple #[(.int .i64 (-1)), (.int .i64 1)])) w)) ∧
    (t10 = false →
      (Calls Try.prog 76 #[(.string a1)] w fun (e12 : Ending) (w1 : World) => ∃ (t12 : Bool), e12 = .returned (.bool t12) ∧
        (((!t12) = true →
            (R (.returned (.tuple #[(.int .i64 (-1)), (.int .i64 6)])) w1)) ∧
          ((!t12) = false →
            (∃ (t17a : Option Addr) (t17n : Nat) (t17c : Nat), (Instr.loadAt 99 (.pointer (some ⟨a0b, a0o + 2, none⟩))).run Try.prog w1 = .ok (.slice t17a t17n t17c) w1 ∧
              (Calls Try.prog 78 #[(.slice t17a t17n t17c), (.string a1)] w1 fun (e19 : Ending) (w2 : World) => ∃ (t19 : Int), e19 = .returned (.int .i64 t19) ∧
                (((decide (t19 < (0 : Int))) = true →
                    (R (.returned (.tuple #[(.int .i64 (-1)), (.int .i64 5)])) w2)) ∧
                  ((decide (t19 < (0 : Int))) = false →
                    (R (.returned (.tuple #[(.int .i64 t19), (.int .i64 0)])) w2))))))))))) : Calls Try.prog 73 #[(.pointer (some ⟨a0b, a0o, none⟩)), (.string a1)] w R :=
  calls_of_ev (args := [(.pointer (some ⟨a0b, a0o, none⟩)), (.string a1)])
    (tc := .seq (.reg (.op .p (.op .p (.nil)))) (.seq (.seq (.reg (.op .p (.op .p (.op .p (.op (.ld (.bool)) (.nil)))))) (.cond (.seq (.reg (.op .p (.op .p (.nil)))) (.leaf)) (.leaf))) (.seq (.seq (.reg (.op .p (.op (.cl [.bool]) (.op .p (.nil))))) (.cond (.seq (.reg (.op .p (.op .p (.nil)))) (.leaf)) (.leaf))) (.seq (.reg (.op .p (.op .p (.op .p (.op (.ld (.slice)) (.op .p (.op (.cl [.int .i64]) (.op .p (.nil))))))))) (.seq (.seq (.reg (.op .p (.op .p (.nil)))) (.cond (.seq (.reg (.op .p (.op .p (.nil)))) (.leaf)) (.leaf))) (.seq (.reg (.op .p (.op .p (.op .p (.nil))))) (.leaf)))))))
    (by kernel_rfl) Try.func73 (by kernel_rfl) (by kernel_rfl) (by kernel_rfl) (by kernel_rfl) h

set_option maxRecDepth 100000 in
theorem amphoraref01_Disk_Create_vc (a0b : Nat) (a0o : Nat) (a1 : ByteArray) (w : World) (R : Ending → World → Prop) (h :
  Calls Try.prog 73 #[(.pointer (some ⟨a0b, a0o, none⟩)), (.string a1)] w fun (e11 : Ending) (w1 : World) => ∃ (t11_0 : Int) (t11_1 : Int), e11 = .returned (.tuple #[(.int .i64 t11_0), (.int .i64 t11_1)]) ∧
  (((t11_1 == (0 : Int)) = true →
      (R (.returned (.int .i64 4)) w1)) ∧
    ((t11_1 == (0 : Int)) = false →
      (((t11_1 != (5 : Int)) = true →
          (R (.returned (.int .i64 t11_1)) w1)) ∧
        ((t11_1 != (5 : Int)) = false →
          (∃ (t22a : Option Addr) (t22n : Nat) (t22c : Nat), (Instr.loadAt 99 (.pointer (some ⟨a0b, a0o + 2, none⟩))).run Try.prog w1 = .ok (.slice t22a t22n t22c) w1 ∧
            (((decide (((t22n : Nat) : Int) ≥ (4096 : Int))) = true →
                (R (.returned (.int .i64 19)) w1)) ∧
              ((decide (((t22n : Nat) : Int) ≥ (4096 : Int))) = false →
                (Calls Try.prog 74 #[(.pointer (some ⟨a0b, a0o, none⟩))] w1 fun (e26 : Ending) (w2 : World) => ∃ (t26 : Int), e26 = .returned (.int .i64 t26) ∧
                  (((t26 != (0 : Int)) = true →
                      (R (.returned (.int .i64 t26)) w2)) ∧
                    ((t26 != (0 : Int)) = false →
                      (∃ (t34a : Option Addr) (t34n : Nat) (t34c : Nat), (Instr.loadAt 98 (.pointer (some ⟨a0b, a0o + 1, none⟩))).run Try.prog w2 = .ok (.slice t34a t34n t34c) w2 ∧
                        (∃ (t35 : Array Value), (Instr.build 122 #[]).run Try.prog w2 = .ok (.agg t35) w2 ∧
                          (∃ (t36a : Option Addr) (t36n : Nat) (t36c : Nat) (w3 : World), (Instr.buildSlice 98 1 #[(0, (.agg t35))]).run Try.prog w2 = .ok (.slice t36a t36n t36c) w3 ∧
                            (∃ (t37a : Option Addr) (t37n : Nat) (t37c : Nat) (w4 : World), (Builtin.append_ #[98, 98] 98 #[(.slice t34a t34n t34c), (.slice t36a t36n t36c)]).run Try.prog w3 = .ok (.slice t37a t37n t37c) w4 ∧
                              (∃ w5 : World, (Instr.storeAt 98 (.pointer (some ⟨a0b, a0o + 1, none⟩)) (.slice t37a t37n t37c)).run Try.prog w4 = .ok () w5 ∧
                                (∃ (t43a : Option Addr) (t43n : Nat) (t43c : Nat), (Instr.loadAt 98 (.pointer (some ⟨a0b, a0o + 1, none⟩))).run Try.prog w5 = .ok (.slice t43a t43n t43c) w5 ∧
                                  (∃ (t47 : Array Value), (Instr.build 124 #[(0, (.int .i64 (IntKind.wrap .i64 (((t43n : Nat) : Int) - (1 : Int))))), (2, (.string a1))]).run Try.prog w5 = .ok (.agg t47) w5 ∧
                                    (∃ (g7 : Nat) (w6 : World), (Instr.alloc 124 true (.tuple #[])).run Try.prog w5 = .ok (.pointer (some ⟨g7, 0, none⟩)) w6 ∧
                                      (∃ w7 : World, (Instr.storeAt 124 (.pointer (some ⟨g7, 0, none⟩)) (.agg t47)).run Try.prog w6 = .ok () w7 ∧
                                        (∃ S : World → Prop, S w7.drew ∧
                                          (∃ (t52a : Option Addr) (t52n : Nat) (t52c : Nat), (∀ w' : World, S w' → (Instr.loadAt 99 (.pointer (some ⟨a0b, a0o + 2, none⟩))).run Try.prog w' = .ok (.slice t52a t52n t52c) w') ∧
                                            (∃ (t53 : Array Value), (∀ w' : World, S w' → (Instr.loadAt 124 (.pointer (some ⟨g7, 0, none⟩))).run Try.prog w' = .ok (.agg t53) w') ∧
                                              (Calls Try.prog 75 #[(.slice t52a t52n t52c), (.agg t53)] w7.drew fun (e54 : Ending) (w8 : World) => ∃ (t54a : Option Addr) (t54n : Nat) (t54c : Nat), e54 = .returned (.slice t54a t54n t54c) ∧
                                                (∃ S_1 : World → Prop, (∀ w' : World, S_1 w' → S w') ∧ S_1 w8 ∧
                                                  (∃ w9 : World, (Instr.storeAt 99 (.pointer (some ⟨a0b, a0o + 2, none⟩)) (.slice t54a t54n t54c)).run Try.prog w8 = .ok () w9 ∧
                                                    (∃ S_2 : World → Prop, S_2 w9.drew ∧
                                                      (∃ (t61a : Option Addr) (t61n : Nat) (t61c : Nat), (∀ w' : World, S_2 w' → (Instr.loadAt 100 (.pointer (some ⟨a0b, a0o + 4, none⟩))).run Try.prog w' = .ok (.slice t61a t61n t61c) w') ∧
                                                        (∃ (t62 : Array Value), (∀ w' : World, S_2 w' → (Instr.loadAt 124 (.pointer (some ⟨g7, 0, none⟩))).run Try.prog w' = .ok (.agg t62) w') ∧
                                                          (∃ (t63a : Option Addr) (t63n : Nat) (t63c : Nat) (w10 : World), (Instr.buildSlice 100 1 #[(0, (.agg t62))]).run Try.prog w9.drew = .ok (.slice t63a t63n t63c) w10 ∧
                                                            (∃ S_3 : World → Prop, (∀ w' : World, S_3 w' → S_2 w') ∧ S_3 w10 ∧
                                                              (∃ (t64a : Option Addr) (t64n : Nat) (t64c : Nat) (w11 : World), (Builtin.append_ #[100, 100] 100 #[(.slice t61a t61n t61c), (.slice t63a t63n t63c)]).run Try.prog w10 = .ok (.slice t64a t64n t64c) w11 ∧
                                                                (∃ S_4 : World → Prop, (∀ w' : World, S_4 w' → S_3 w') ∧ S_4 w11 ∧
                                                                  (∃ w12 : World, (Instr.storeAt 100 (.pointer (some ⟨a0b, a0o + 4, none⟩)) (.slice t64a t64n t64c)).run Try.prog w11 = .ok () w12 ∧
                                                                    (R (.returned (.int .i64 0)) w12))))))))))))))))))))))))))))))))))) : Calls Try.prog 50 #[(.pointer (some ⟨a0b, a0o, none⟩)), (.string a1)] w R :=
  calls_of_ev (args := [(.pointer (some ⟨a0b, a0o, none⟩)), (.string a1)])
    (tc := .seq (.reg (.op .p (.nil))) (.seq (.reg (.op .p (.op .p (.op (.cl [.int .i64, .int .i64]) (.op .p (.op .p (.op .p (.op .p (.op .p (.nil)))))))))) (.seq (.seq (.reg (.op .p (.op .p (.nil)))) (.cond (.seq (.reg (.op .p (.nil))) (.leaf)) (.leaf))) (.seq (.seq (.reg (.op .p (.op .p (.nil)))) (.cond (.seq (.reg (.op .p (.op .p (.nil)))) (.leaf)) (.leaf))) (.seq (.seq (.reg (.op .p (.op .p (.op .p (.op (.ld (.slice)) (.op .p (.op .p (.nil)))))))) (.cond (.seq (.reg (.op .p (.nil))) (.leaf)) (.leaf))) (.seq (.reg (.op .p (.op (.cl [.int .i64]) (.op .p (.nil))))) (.seq (.seq (.reg (.op .p (.op .p (.nil)))) (.cond (.seq (.reg (.op .p (.op .p (.nil)))) (.leaf)) (.leaf))) (.seq (.reg (.op .p (.op .p (.op .p (.op .p (.op (.ld (.slice)) (.op (.ld (.agg)) (.op (.r (.slice)) (.op (.r (.slice)) (.op .p (.op .p (.op .u (.nil))))))))))))) (.seq (.reg (.op .p (.op .p (.op .p (.op (.ld (.slice)) (.op .p (.op .p (.op .p (.op (.ld (.agg)) (.op .bx (.op .u (.nil)))))))))))) (.seq (.drawS (.tk 0 .p (.tk 1 .p (.tk 2 .p (.tk 3 .p (.ts 4 (.slice) (.ts 5 (.agg) (.go 6 (.cl [.slice]) (.tk 7 .p (.tk 8 .p (.go 9 .u (.nil))))))))))) [9]) (.seq (.drawS (.tk 0 .p (.tk 1 .p (.tk 2 .p (.tk 3 .p (.ts 4 (.slice) (.ts 5 (.agg) (.go 6 (.r (.slice)) (.go 7 (.r (.slice)) (.tk 8 .p (.tk 9 .p (.go 10 .u (.nil)))))))))))) [10]) (.seq (.reg (.op .p (.nil))) (.leaf)))))))))))))
    (by kernel_rfl) Try.func50 (by kernel_rfl) (by kernel_rfl) (by kernel_rfl) (by kernel_rfl) h

set_option maxRecDepth 100000 in
theorem amphoraref01_Disk_Append_vc (a0b : Nat) (a0o : Nat) (a1 : ByteArray) (a2a : Option Addr) (a2n : Nat) (a2c : Nat) (w : World) (R : Ending → World → Prop) (h :
  Calls Try.prog 73 #[(.pointer (some ⟨a0b, a0o, none⟩)), (.string a1)] w fun (e15 : Ending) (w1 : World) => ∃ (t15_0 : Int) (t15_1 : Int), e15 = .returned (.tuple #[(.int .i64 t15_0), (.int .i64 t15_1)]) ∧
  (((t15_1 != (0 : Int)) = true →
      (R (.returned (.int .i64 t15_1)) w1)) ∧
    ((t15_1 != (0 : Int)) = false →
      (∃ (t21a : Option Addr) (t21n : Nat) (t21c : Nat) (w2 : World), (Instr.buildSlice 22 0 #[]).run Try.prog w1 = .ok (.slice t21a t21n t21c) w2 ∧
        (∃ (t25a : Option Addr) (t25n : Nat) (t25c : Nat), (Instr.loadAt 98 (.pointer (some ⟨a0b, a0o + 1, none⟩))).run Try.prog w2 = .ok (.slice t25a t25n t25c) w2 ∧
          (∃ (t27b t27o : Nat), t25a = some ⟨t27b, t27o, none⟩ ∧ 0 ≤ t15_0 ∧ t15_0 < ((t25n : Nat) : Int) ∧
            (∃ (t29a : Option Addr) (t29n : Nat) (t29c : Nat), (Instr.loadAt 22 (.pointer (some ⟨t27b, t27o + Int.toNat t15_0 * 2, none⟩))).run Try.prog w2 = .ok (.slice t29a t29n t29c) w2 ∧
              (∃ (t30a : Option Addr) (t30n : Nat) (t30c : Nat) (w3 : World), (Builtin.append_ #[22, 22] 22 #[(.slice t21a t21n t21c), (.slice t29a t29n t29c)]).run Try.prog w2 = .ok (.slice t30a t30n t30c) w3 ∧
                (∃ S : World → Prop, S w3.drew ∧
                  (∃ (t34 : Int), (∀ w' : World, S w' → (Instr.loadAt 3 (.pointer (some ⟨a0b, a0o, none⟩))).run Try.prog w' = .ok (.int .i64 t34) w') ∧
                    (Calls Try.prog 64 #[(.pointer (some ⟨a0b, a0o, none⟩))] w3.drew fun (e36 : Ending) (w4 : World) => ∃ (t36 : Int), e36 = .returned (.int .i64 t36) ∧
                      (∃ S_1 : World → Prop, (∀ w' : World, S_1 w' → S w') ∧ S_1 w4 ∧
                        (∃ (I : Option Addr → Nat → Nat → Int → Int → World → Prop) (μ : Option Addr → Nat → Nat → Int → Int → World → Nat), I t30a t30n t30c (IntKind.wrap .i64 (t34 - t36)) 0 w4 ∧
                          (∀ (x9a : Option Addr) (x9n : Nat) (x9c : Nat) (x10 : Int) (x11 : Int), ∀ w5 : World, I x9a x9n x9c x10 x11 w5 →
                            (((decide (x11 < ((a2n : Nat) : Int))) = true →
                                (∃ (t46b t46o : Nat), a2a = some ⟨t46b, t46o, none⟩ ∧ 0 ≤ x11 ∧ x11 < ((a2n : Nat) : Int) ∧
                                  (∃ (t47a : Option Addr) (t47n : Nat) (t47c : Nat), (Instr.loadAt 22 (.pointer (some ⟨t46b, t46o + Int.toNat x11 * 1, none⟩))).run Try.prog w5 = .ok (.slice t47a t47n t47c) w5 ∧
                                    (((decide (((t47n : Nat) : Int) > x10)) = true →
                                        (R (.returned (.int .i64 3)) w5)) ∧
                                      ((decide (((t47n : Nat) : Int) > x10)) = false →
                                        (∃ (t54b t54o : Nat), a2a = some ⟨t54b, t54o, none⟩ ∧ 0 ≤ x11 ∧ x11 < ((a2n : Nat) : Int) ∧
                                          (∃ (t55a : Option Addr) (t55n : Nat) (t55c : Nat), (Instr.loadAt 22 (.pointer (some ⟨t54b, t54o + Int.toNat x11 * 1, none⟩))).run Try.prog w5 = .ok (.slice t55a t55n t55c) w5 ∧
                                            (∃ (t61b t61o : Nat), a2a = some ⟨t61b, t61o, none⟩ ∧ 0 ≤ x11 ∧ x11 < ((a2n : Nat) : Int) ∧
                                              (∃ (t62a : Option Addr) (t62n : Nat) (t62c : Nat), (Instr.loadAt 22 (.pointer (some ⟨t61b, t61o + Int.toNat x11 * 1, none⟩))).run Try.prog w5 = .ok (.slice t62a t62n t62c) w5 ∧
                                                (∃ (t63a : Option Addr) (t63n : Nat) (t63c : Nat) (w6 : World), (Builtin.append_ #[22, 22] 22 #[(.slice x9a x9n x9c), (.slice t62a t62n t62c)]).run Try.prog w5 = .ok (.slice t63a t63n t63c) w6 ∧
                                                  (I t63a t63n t63c (IntKind.wrap .i64 (x10 - ((t55n : Nat) : Int))) (IntKind.wrap .i64 (x11 + (1 : Int))) w6 ∧ μ t63a t63n t63c (IntKind.wrap .i64 (x10 - ((t55n : Nat) : Int))) (IntKind.wrap .i64 (x11 + (1 : Int))) w6 < μ x9a x9n x9c x10 x11 w5))))))))))) ∧
                              ((decide (x11 < ((a2n : Nat) : Int))) = false →
                                (Calls Try.prog 74 #[(.pointer (some ⟨a0b, a0o, none⟩))] w5 fun (e65 : Ending) (w7 : World) => ∃ (t65 : Int), e65 = .returned (.int .i64 t65) ∧
                                  (∃ J : World → Prop, (((t65 == (0 : Int)) = true →
                                        (∃ (t71a : Option Addr) (t71n : Nat) (t71c : Nat), (Instr.loadAt 98 (.pointer (some ⟨a0b, a0o + 1, none⟩))).run Try.prog w7 = .ok (.slice t71a t71n t71c) w7 ∧
                                          (∃ (t74b t74o : Nat), t71a = some ⟨t74b, t74o, none⟩ ∧ 0 ≤ t15_0 ∧ t15_0 < ((t71n : Nat) : Int) ∧
                                            (∃ w8 : World, (Instr.storeAt 22 (.pointer (some ⟨t74b, t74o + Int.toNat t15_0 * 2, none⟩)) (.slice x9a x9n x9c)).run Try.prog w7 = .ok () w8 ∧
                                              (J  w8))))) ∧
                                      ((t65 == (0 : Int)) = false →
                                        (J  w7))) ∧
                                    (∀ w9 : World, J  w9 →
                                      (R (.returned (.int .i64 t65)) w9)))))))))))))))))))) : Calls Try.prog 52 #[(.pointer (some ⟨a0b, a0o, none⟩)), (.string a1), (.slice a2a a2n a2c)] w R :=
  calls_of_ev (args := [(.pointer (some ⟨a0b, a0o, none⟩)), (.string a1), (.slice a2a a2n a2c)])
    (tc := .seq (.reg (.op .p (.nil))) (.seq (.reg (.op .p (.op .p (.op (.cl [.int .i64, .int .i64]) (.op .p (.op .p (.op .p (.op .p (.op .p (.nil)))))))))) (.seq (.seq (.reg (.op .p (.op .p (.nil)))) (.cond (.seq (.reg (.op .p (.op .p (.nil)))) (.leaf)) (.leaf))) (.seq (.reg (.op (.r (.slice)) (.op .p (.op .p (.op .p (.op (.ld (.slice)) (.op .p (.op .ix (.op .p (.op (.ld (.slice)) (.op (.r (.slice)) (.op .p (.nil))))))))))))) (.seq (.drawS (.tk 0 .p (.tk 1 .p (.tk 2 .p (.tk 4 .p (.ts 3 (.int .i64) (.go 5 (.cl [.int .i64]) (.tk 6 .p (.tk 7 .p (.nil))))))))) []) (.seq (.seq (.reg (.op .p (.nil))) (.blk (.loop [6, 9, 10, 11, 38, 39, 40, 41, 42, 43, 44, 45, 46, 47, 48, 49, 50, 51, 52, 53, 54, 55, 56, 57, 58, 59, 60, 61, 62, 63] [9, 10, 11] [.slice, .int .i64, .int .i64] (.seq (.seq (.reg (.op .p (.op .p (.op .p (.op .p (.nil)))))) (.cond (.leaf) (.leaf))) (.seq (.blk (.seq (.seq (.reg (.op .p (.op .p (.op .ix (.op (.ld (.slice)) (.op .p (.op .p (.op .p (.nil))))))))) (.cond (.seq (.reg (.op .p (.nil))) (.leaf)) (.leaf))) (.seq (.reg (.op .p (.op .p (.op .p (.op .ix (.op (.ld (.slice)) (.op .p (.op .p (.op .p (.nil)))))))))) (.reg (.op .p (.op .p (.op .p (.op .ix (.op (.ld (.slice)) (.op (.r (.slice)) (.op .p (.nil)))))))))))) (.reg (.op .p (.op .p (.op .p (.nil)))))))))) (.seq (.reg (.op .p (.op (.cl [.int .i64]) (.op .p (.nil))))) (.seq (.seq (.reg (.op .p (.op .p (.nil)))) (.join [68, 69, 70, 71, 72, 73, 74, 75] [] [] (.cond (.reg (.op .p (.op .p (.op .p (.op (.ld (.slice)) (.op .p (.op .p (.op .ix (.op .p (.op .u (.nil))))))))))) (.leaf)))) (.seq (.reg (.op .p (.op .p (.nil)))) (.leaf))))))))))
    (by kernel_rfl) Try.func52 (by kernel_rfl) (by kernel_rfl) (by kernel_rfl) (by kernel_rfl) h

set_option maxRecDepth 100000 in
theorem amphoraref01_Disk_Sync_vc (a0b : Nat) (a0o : Nat) (a1 : ByteArray) (w : World) (R : Ending → World → Prop) (h :
  Calls Try.prog 73 #[(.pointer (some ⟨a0b, a0o, none⟩)), (.string a1)] w fun (e10 : Ending) (w1 : World) => ∃ (t10_0 : Int) (t10_1 : Int), e10 = .returned (.tuple #[(.int .i64 t10_0), (.int .i64 t10_1)]) ∧
  (((t10_1 != (0 : Int)) = true →
      (R (.returned (.int .i64 t10_1)) w1)) ∧
    ((t10_1 != (0 : Int)) = false →
      (Calls Try.prog 74 #[(.pointer (some ⟨a0b, a0o, none⟩))] w1 fun (e17 : Ending) (w2 : World) => ∃ (t17 : Int), e17 = .returned (.int .i64 t17) ∧
        (∃ J : World → Prop, (((t17 == (0 : Int)) = true →
              (∃ S : World → Prop, S w2.drew ∧
                (∃ (t23a : Option Addr) (t23n : Nat) (t23c : Nat), (∀ w' : World, S w' → (Instr.loadAt 98 (.pointer (some ⟨a0b, a0o + 1, none⟩))).run Try.prog w' = .ok (.slice t23a t23n t23c) w') ∧
                  (∃ (t28a : Option Addr) (t28n : Nat) (t28c : Nat), (∀ w' : World, S w' → (Instr.loadAt 98 (.pointer (some ⟨a0b, a0o + 1, none⟩))).run Try.prog w' = .ok (.slice t28a t28n t28c) w') ∧
                    (∃ (t30b t30o : Nat), t28a = some ⟨t30b, t30o, none⟩ ∧ 0 ≤ t10_0 ∧ t10_0 < ((t28n : Nat) : Int) ∧
                      (∃ (t32a : Option Addr) (t32n : Nat) (t32c : Nat), (∀ w' : World, S w' → (Instr.loadAt 22 (.pointer (some ⟨t30b, t30o + Int.toNat t10_0 * 2, none⟩))).run Try.prog w' = .ok (.slice t32a t32n t32c) w') ∧
                        (∃ (t34b t34o : Nat), t23a = some ⟨t34b, t34o, none⟩ ∧ 0 ≤ t10_0 ∧ t10_0 < ((t23n : Nat) : Int) ∧
                          (∃ w3 : World, (Instr.storeAt 3 (.pointer (some ⟨t34b, t34o + Int.toNat t10_0 * 2 + 1, none⟩)) (.int .i64 ((t32n : Nat) : Int))).run Try.prog w2.drew = .ok () w3 ∧
                            (J  w3))))))))) ∧
            ((t17 == (0 : Int)) = false →
              (J  w2))) ∧
          (∀ w4 : World, J  w4 →
            (R (.returned (.int .i64 t17)) w4))))))) : Calls Try.prog 53 #[(.pointer (some ⟨a0b, a0o, none⟩)), (.string a1)] w R :=
  calls_of_ev (args := [(.pointer (some ⟨a0b, a0o, none⟩)), (.string a1)])
    (tc := .seq (.reg (.op .p (.nil))) (.seq (.reg (.op .p (.op .p (.op (.cl [.int .i64, .int .i64]) (.op .p (.op .p (.op .p (.op .p (.op .p (.nil)))))))))) (.seq (.seq (.reg (.op .p (.op .p (.nil)))) (.cond (.seq (.reg (.op .p (.op .p (.nil)))) (.leaf)) (.leaf))) (.seq (.reg (.op .p (.op (.cl [.int .i64]) (.op .p (.nil))))) (.seq (.seq (.reg (.op .p (.op .p (.nil)))) (.join [20, 21, 22, 23, 24, 25, 26, 27, 28, 29, 30, 31, 32, 33, 34, 35] [] [] (.cond (.drawS (.tk 0 .p (.tk 1 .p (.tk 2 .p (.tk 4 .p (.tk 5 .p (.tk 6 .p (.tk 7 .p (.tk 9 .p (.ts 3 (.slice) (.ts 8 (.slice) (.tk 10 .ix (.tk 11 .p (.ts 12 (.slice) (.tk 13 .p (.tk 14 .ix (.tk 15 .p (.go 16 .u (.nil)))))))))))))))))) [16]) (.leaf)))) (.seq (.reg (.op .p (.op .p (.nil)))) (.leaf)))))))
    (by kernel_rfl) Try.func53 (by kernel_rfl) (by kernel_rfl) (by kernel_rfl) (by kernel_rfl) h

set_option maxRecDepth 100000 in
theorem amphoraref01_Disk_SyncDir_vc (a0b : Nat) (a0o : Nat) (w : World) (R : Ending → World → Prop) (h :
  ∃ (t7 : Bool), (Instr.loadAt 4 (.pointer (some ⟨a0b, a0o + 6, none⟩))).run Try.prog w = .ok (.bool t7) w ∧
  ((t7 = true →
      (R (.returned (.int .i64 1)) w)) ∧
    (t7 = false →
      (Calls Try.prog 74 #[(.pointer (some ⟨a0b, a0o, none⟩))] w fun (e9 : Ending) (w1 : World) => ∃ (t9 : Int), e9 = .returned (.int .i64 t9) ∧
        (∃ J : World → Prop, (((t9 == (0 : Int)) = true →
              (∃ (t16a : Option Addr) (t16n : Nat) (t16c : Nat), (Instr.loadAt 99 (.pointer (some ⟨a0b, a0o + 2, none⟩))).run Try.prog w1 = .ok (.slice t16a t16n t16c) w1 ∧
                (∃ w2 : World, (Instr.storeAt 99 (.pointer (some ⟨a0b, a0o + 3, none⟩)) (.slice t16a t16n t16c)).run Try.prog w1 = .ok () w2 ∧
                  (∃ w3 : World, (Instr.storeAt 100 (.pointer (some ⟨a0b, a0o + 4, none⟩)) (.slice none 0 0)).run Try.prog w2 = .ok () w3 ∧
                    (J  w3))))) ∧
            ((t9 == (0 : Int)) = false →
              (J  w1))) ∧
          (∀ w4 : World, J  w4 →
            (R (.returned (.int .i64 t9)) w4))))))) : Calls Try.prog 54 #[(.pointer (some ⟨a0b, a0o, none⟩))] w R :=
  calls_of_ev (args := [(.pointer (some ⟨a0b, a0o, none⟩))])
    (tc := .seq (.reg (.op .p (.nil))) (.seq (.seq (.reg (.op .p (.op .p (.op .p (.op (.ld (.bool)) (.nil)))))) (.cond (.seq (.reg (.op .p (.nil))) (.leaf)) (.leaf))) (.seq (.reg (.op .p (.op (.cl [.int .i64]) (.op .p (.nil))))) (.seq (.seq (.reg (.op .p (.op .p (.nil)))) (.join [12, 13, 14, 15, 16, 17, 18, 19, 20, 21] [] [] (.cond (.seq (.reg (.op .p (.op .p (.op .p (.op .p (.op (.ld (.slice)) (.op .p (.op .p (.op .u (.nil)))))))))) (.reg (.op .p (.op .p (.op .p (.op .u (.nil))))))) (.leaf)))) (.seq (.reg (.op .p (.op .p (.nil)))) (.leaf))))))
    (by kernel_rfl) Try.func54 (by kernel_rfl) (by kernel_rfl) (by kernel_rfl) (by kernel_rfl) h

set_option maxRecDepth 100000 in
theorem amphoraref01_Disk_Rename_vc (a0b : Nat) (a0o : Nat) (a1 : ByteArray) (a2 : ByteArray) (w : World) (R : Ending → World → Prop) (h :
  ∃ (t13 : Bool), (Instr.loadAt 4 (.pointer (some ⟨a0b, a0o + 6, none⟩))).run Try.prog w = .ok (.bool t13) w ∧
  ((t13 = true →
      (R (.returned (.int .i64 1)) w)) ∧
    (t13 = false →
      (∃ J : Bool → World → Prop, (Calls Try.prog 76 #[(.string a1)] w fun (e15 : Ending) (w1 : World) => ∃ (t15 : Bool), e15 = .returned (.bool t15) ∧
          (((!t15) = true →
              (J true w1)) ∧
            ((!t15) = false →
              (Calls Try.prog 76 #[(.string a2)] w1 fun (e19 : Ending) (w2 : World) => ∃ (t19 : Bool), e19 = .returned (.bool t19) ∧
                (J (!t19) w2))))) ∧
        (∀ (x21 : Bool), ∀ w3 : World, J x21 w3 →
          ((x21 = true →
              (R (.returned (.int .i64 6)) w3)) ∧
            (x21 = false →
              (Calls Try.prog 73 #[(.pointer (some ⟨a0b, a0o, none⟩)), (.string a1)] w3 fun (e25 : Ending) (w4 : World) => ∃ (t25_0 : Int) (t25_1 : Int), e25 = .returned (.tuple #[(.int .i64 t25_0), (.int .i64 t25_1)]) ∧
                (((t25_1 != (0 : Int)) = true →
                    (R (.returned (.int .i64 t25_1)) w4)) ∧
                  ((t25_1 != (0 : Int)) = false →
                    (Calls Try.prog 74 #[(.pointer (some ⟨a0b, a0o, none⟩))] w4 fun (e32 : Ending) (w5 : World) => ∃ (t32 : Int), e32 = .returned (.int .i64 t32) ∧
                      (∃ J_1 : World → Prop, (((t32 == (0 : Int)) = true →
                            (∃ (t37 : Array Value), (Instr.build 124 #[(0, (.int .i64 (-1))), (1, (.string a1)), (2, (.string a2))]).run Try.prog w5 = .ok (.agg t37) w5 ∧
                              (∃ (g9 : Nat) (w6 : World), (Instr.alloc 124 true (.tuple #[])).run Try.prog w5 = .ok (.pointer (some ⟨g9, 0, none⟩)) w6 ∧
                                (∃ w7 : World, (Instr.storeAt 124 (.pointer (some ⟨g9, 0, none⟩)) (.agg t37)).run Try.prog w6 = .ok () w7 ∧
                                  (∃ S : World → Prop, S w7.drew ∧
                                    (∃ (t42a : Option Addr) (t42n : Nat) (t42c : Nat), (∀ w' : World, S w' → (Instr.loadAt 99 (.pointer (some ⟨a0b, a0o + 2, none⟩))).run Try.prog w' = .ok (.slice t42a t42n t42c) w') ∧
                                      (∃ (t43 : Array Value), (∀ w' : World, S w' → (Instr.loadAt 124 (.pointer (some ⟨g9, 0, none⟩))).run Try.prog w' = .ok (.agg t43) w') ∧
                                        (Calls Try.prog 75 #[(.slice t42a t42n t42c), (.agg t43)] w7.drew fun (e44 : Ending) (w8 : World) => ∃ (t44a : Option Addr) (t44n : Nat) (t44c : Nat), e44 = .returned (.slice t44a t44n t44c) ∧
                                          (∃ S_1 : World → Prop, (∀ w' : World, S_1 w' → S w') ∧ S_1 w8 ∧
                                            (∃ w9 : World, (Instr.storeAt 99 (.pointer (some ⟨a0b, a0o + 2, none⟩)) (.slice t44a t44n t44c)).run Try.prog w8 = .ok () w9 ∧
                                              (∃ S_2 : World → Prop, S_2 w9.drew ∧
                                                (∃ (t51a : Option Addr) (t51n : Nat) (t51c : Nat), (∀ w' : World, S_2 w' → (Instr.loadAt 100 (.pointer (some ⟨a0b, a0o + 4, none⟩))).run Try.prog w' = .ok (.slice t51a t51n t51c) w') ∧
                                                  (∃ (t52 : Array Value), (∀ w' : World, S_2 w' → (Instr.loadAt 124 (.pointer (some ⟨g9, 0, none⟩))).run Try.prog w' = .ok (.agg t52) w') ∧
                                                    (∃ (t53a : Option Addr) (t53n : Nat) (t53c : Nat) (w10 : World), (Instr.buildSlice 100 1 #[(0, (.agg t52))]).run Try.prog w9.drew = .ok (.slice t53a t53n t53c) w10 ∧
                                                      (∃ S_3 : World → Prop, (∀ w' : World, S_3 w' → S_2 w') ∧ S_3 w10 ∧
                                                        (∃ (t54a : Option Addr) (t54n : Nat) (t54c : Nat) (w11 : World), (Builtin.append_ #[100, 100] 100 #[(.slice t51a t51n t51c), (.slice t53a t53n t53c)]).run Try.prog w10 = .ok (.slice t54a t54n t54c) w11 ∧
                                                          (∃ S_4 : World → Prop, (∀ w' : World, S_4 w' → S_3 w') ∧ S_4 w11 ∧
                                                            (∃ w12 : World, (Instr.storeAt 100 (.pointer (some ⟨a0b, a0o + 4, none⟩)) (.slice t54a t54n t54c)).run Try.prog w11 = .ok () w12 ∧
                                                              (J_1  w12))))))))))))))))))) ∧
                          ((t32 == (0 : Int)) = false →
                            (J_1  w5))) ∧
                        (∀ w13 : World, J_1  w13 →
                          (R (.returned (.int .i64 t32)) w13)))))))))))))) : Calls Try.prog 55 #[(.pointer (some ⟨a0b, a0o, none⟩)), (.string a1), (.string a2)] w R :=
  calls_of_ev (args := [(.pointer (some ⟨a0b, a0o, none⟩)), (.string a1), (.string a2)])
    (tc := .seq (.reg (.op .p (.nil))) (.seq (.seq (.reg (.op .p (.op .p (.op .p (.op (.ld (.bool)) (.nil)))))) (.cond (.seq (.reg (.op .p (.nil))) (.leaf)) (.leaf))) (.seq (.seq (.join [14, 15, 16, 17, 18, 19, 20, 21] [21] [.bool] (.reg (.op .p (.op (.cl [.bool]) (.op .p (.op .p (.sp 17 (.op .p (.op .p (.op .p (.op .p (.nil))))) (.op .p (.op (.cl [.bool]) (.op .p (.op .p (.nil)))))))))))) (.cond (.seq (.reg (.op .p (.nil))) (.leaf)) (.leaf))) (.seq (.reg (.op .p (.op .p (.op (.cl [.int .i64, .int .i64]) (.op .p (.op .p (.op .p (.op .p (.op .p (.nil)))))))))) (.seq (.seq (.reg (.op .p (.op .p (.nil)))) (.cond (.seq (.reg (.op .p (.op .p (.nil)))) (.leaf)) (.leaf))) (.seq (.reg (.op .p (.op (.cl [.int .i64]) (.op .p (.nil))))) (.seq (.seq (.reg (.op .p (.op .p (.nil)))) (.join [9, 35, 36, 37, 38, 39, 40, 41, 42, 43, 44, 45, 46, 47, 48, 49, 50, 51, 52, 53, 54, 55, 56] [] [] (.cond (.seq (.reg (.op .p (.op .p (.op (.ld (.agg)) (.op .bx (.op .u (.nil))))))) (.seq (.drawS (.tk 0 .p (.tk 1 .p (.tk 2 .p (.tk 3 .p (.ts 4 (.slice) (.ts 5 (.agg) (.go 6 (.cl [.slice]) (.tk 7 .p (.tk 8 .p (.go 9 .u (.nil))))))))))) [9]) (.drawS (.tk 0 .p (.tk 1 .p (.tk 2 .p (.tk 3 .p (.ts 4 (.slice) (.ts 5 (.agg) (.go 6 (.r (.slice)) (.go 7 (.r (.slice)) (.tk 8 .p (.tk 9 .p (.go 10 .u (.nil)))))))))))) [10]))) (.leaf)))) (.seq (.reg (.op .p (.op .p (.nil)))) (.leaf)))))))))
    (by kernel_rfl) Try.func55 (by kernel_rfl) (by kernel_rfl) (by kernel_rfl) (by kernel_rfl) h

set_option maxRecDepth 100000 in
theorem amphoraref01_Disk_Remove_vc (a0b : Nat) (a0o : Nat) (a1 : ByteArray) (w : World) (R : Ending → World → Prop) (h :
  Calls Try.prog 73 #[(.pointer (some ⟨a0b, a0o, none⟩)), (.string a1)] w fun (e11 : Ending) (w1 : World) => ∃ (t11_0 : Int) (t11_1 : Int), e11 = .returned (.tuple #[(.int .i64 t11_0), (.int .i64 t11_1)]) ∧
  (((t11_1 != (0 : Int)) = true →
      (R (.returned (.int .i64 t11_1)) w1)) ∧
    ((t11_1 != (0 : Int)) = false →
      (Calls Try.prog 74 #[(.pointer (some ⟨a0b, a0o, none⟩))] w1 fun (e18 : Ending) (w2 : World) => ∃ (t18 : Int), e18 = .returned (.int .i64 t18) ∧
        (∃ J : World → Prop, (((t18 == (0 : Int)) = true →
              (∃ (t22 : Array Value), (Instr.build 124 #[(0, (.int .i64 (-1))), (1, (.string a1))]).run Try.prog w2 = .ok (.agg t22) w2 ∧
                (∃ (g7 : Nat) (w3 : World), (Instr.alloc 124 true (.tuple #[])).run Try.prog w2 = .ok (.pointer (some ⟨g7, 0, none⟩)) w3 ∧
                  (∃ w4 : World, (Instr.storeAt 124 (.pointer (some ⟨g7, 0, none⟩)) (.agg t22)).run Try.prog w3 = .ok () w4 ∧
                    (∃ S : World → Prop, S w4.drew ∧
                      (∃ (t27a : Option Addr) (t27n : Nat) (t27c : Nat), (∀ w' : World, S w' → (Instr.loadAt 99 (.pointer (some ⟨a0b, a0o + 2, none⟩))).run Try.prog w' = .ok (.slice t27a t27n t27c) w') ∧
                        (∃ (t28 : Array Value), (∀ w' : World, S w' → (Instr.loadAt 124 (.pointer (some ⟨g7, 0, none⟩))).run Try.prog w' = .ok (.agg t28) w') ∧
                          (Calls Try.prog 75 #[(.slice t27a t27n t27c), (.agg t28)] w4.drew fun (e29 : Ending) (w5 : World) => ∃ (t29a : Option Addr) (t29n : Nat) (t29c : Nat), e29 = .returned (.slice t29a t29n t29c) ∧
                            (∃ S_1 : World → Prop, (∀ w' : World, S_1 w' → S w') ∧ S_1 w5 ∧
                              (∃ w6 : World, (Instr.storeAt 99 (.pointer (some ⟨a0b, a0o + 2, none⟩)) (.slice t29a t29n t29c)).run Try.prog w5 = .ok () w6 ∧
                                (∃ S_2 : World → Prop, S_2 w6.drew ∧
                                  (∃ (t36a : Option Addr) (t36n : Nat) (t36c : Nat), (∀ w' : World, S_2 w' → (Instr.loadAt 100 (.pointer (some ⟨a0b, a0o + 4, none⟩))).run Try.prog w' = .ok (.slice t36a t36n t36c) w') ∧
                                    (∃ (t37 : Array Value), (∀ w' : World, S_2 w' → (Instr.loadAt 124 (.pointer (some ⟨g7, 0, none⟩))).run Try.prog w' = .ok (.agg t37) w') ∧
                                      (∃ (t38a : Option Addr) (t38n : Nat) (t38c : Nat) (w7 : World), (Instr.buildSlice 100 1 #[(0, (.agg t37))]).run Try.prog w6.drew = .ok (.slice t38a t38n t38c) w7 ∧
                                        (∃ S_3 : World → Prop, (∀ w' : World, S_3 w' → S_2 w') ∧ S_3 w7 ∧
                                          (∃ (t39a : Option Addr) (t39n : Nat) (t39c : Nat) (w8 : World), (Builtin.append_ #[100, 100] 100 #[(.slice t36a t36n t36c), (.slice t38a t38n t38c)]).run Try.prog w7 = .ok (.slice t39a t39n t39c) w8 ∧
                                            (∃ S_4 : World → Prop, (∀ w' : World, S_4 w' → S_3 w') ∧ S_4 w8 ∧
                                              (∃ w9 : World, (Instr.storeAt 100 (.pointer (some ⟨a0b, a0o + 4, none⟩)) (.slice t39a t39n t39c)).run Try.prog w8 = .ok () w9 ∧
                                                (J  w9))))))))))))))))))) ∧
            ((t18 == (0 : Int)) = false →
              (J  w2))) ∧
          (∀ w10 : World, J  w10 →
            (R (.returned (.int .i64 t18)) w10))))))) : Calls Try.prog 56 #[(.pointer (some ⟨a0b, a0o, none⟩)), (.string a1)] w R :=
  calls_of_ev (args := [(.pointer (some ⟨a0b, a0o, none⟩)), (.string a1)])
    (tc := .seq (.reg (.op .p (.nil))) (.seq (.reg (.op .p (.op .p (.op (.cl [.int .i64, .int .i64]) (.op .p (.op .p (.op .p (.op .p (.op .p (.nil)))))))))) (.seq (.seq (.reg (.op .p (.op .p (.nil)))) (.cond (.seq (.reg (.op .p (.op .p (.nil)))) (.leaf)) (.leaf))) (.seq (.reg (.op .p (.op (.cl [.int .i64]) (.op .p (.nil))))) (.seq (.seq (.reg (.op .p (.op .p (.nil)))) (.join [7, 21, 22, 23, 24, 25, 26, 27, 28, 29, 30, 31, 32, 33, 34, 35, 36, 37, 38, 39, 40, 41] [] [] (.cond (.seq (.reg (.op .p (.op (.ld (.agg)) (.op .bx (.op .u (.nil)))))) (.seq (.drawS (.tk 0 .p (.tk 1 .p (.tk 2 .p (.tk 3 .p (.ts 4 (.slice) (.ts 5 (.agg) (.go 6 (.cl [.slice]) (.tk 7 .p (.tk 8 .p (.go 9 .u (.nil))))))))))) [9]) (.drawS (.tk 0 .p (.tk 1 .p (.tk 2 .p (.tk 3 .p (.ts 4 (.slice) (.ts 5 (.agg) (.go 6 (.r (.slice)) (.go 7 (.r (.slice)) (.tk 8 .p (.tk 9 .p (.go 10 .u (.nil)))))))))))) [10]))) (.leaf)))) (.seq (.reg (.op .p (.op .p (.nil)))) (.leaf)))))))
    (by kernel_rfl) Try.func56 (by kernel_rfl) (by kernel_rfl) (by kernel_rfl) (by kernel_rfl) h

set_option maxRecDepth 100000 in
theorem amphoraref01_Disk_Read_vc (a0b : Nat) (a0o : Nat) (a1 : ByteArray) (w : World) (R : Ending → World → Prop) (h :
  Calls Try.prog 73 #[(.pointer (some ⟨a0b, a0o, none⟩)), (.string a1)] w fun (e11 : Ending) (w1 : World) => ∃ (t11_0 : Int) (t11_1 : Int), e11 = .returned (.tuple #[(.int .i64 t11_0), (.int .i64 t11_1)]) ∧
  (((t11_1 != (0 : Int)) = true →
      (R (.returned (.tuple #[(.slice none 0 0), (.int .i64 t11_1)])) w1)) ∧
    ((t11_1 != (0 : Int)) = false →
      (∃ (t17a : Option Addr) (t17n : Nat) (t17c : Nat) (w2 : World), (Instr.buildSlice 22 0 #[]).run Try.prog w1 = .ok (.slice t17a t17n t17c) w2 ∧
        (∃ (t21a : Option Addr) (t21n : Nat) (t21c : Nat), (Instr.loadAt 98 (.pointer (some ⟨a0b, a0o + 1, none⟩))).run Try.prog w2 = .ok (.slice t21a t21n t21c) w2 ∧
          (∃ (t23b t23o : Nat), t21a = some ⟨t23b, t23o, none⟩ ∧ 0 ≤ t11_0 ∧ t11_0 < ((t21n : Nat) : Int) ∧
            (∃ (t25a : Option Addr) (t25n : Nat) (t25c : Nat), (Instr.loadAt 22 (.pointer (some ⟨t23b, t23o + Int.toNat t11_0 * 2, none⟩))).run Try.prog w2 = .ok (.slice t25a t25n t25c) w2 ∧
              (∃ (t26a : Option Addr) (t26n : Nat) (t26c : Nat) (w3 : World), (Builtin.append_ #[22, 22] 22 #[(.slice t17a t17n t17c), (.slice t25a t25n t25c)]).run Try.prog w2 = .ok (.slice t26a t26n t26c) w3 ∧
                (R (.returned (.tuple #[(.slice t26a t26n t26c), (.int .i64 0)])) w3))))))))) : Calls Try.prog 57 #[(.pointer (some ⟨a0b, a0o, none⟩)), (.string a1)] w R :=
  calls_of_ev (args := [(.pointer (some ⟨a0b, a0o, none⟩)), (.string a1)])
    (tc := .seq (.reg (.op .p (.op .p (.nil)))) (.seq (.reg (.op .p (.op .p (.op (.cl [.int .i64, .int .i64]) (.op .p (.op .p (.op .p (.op .p (.op .p (.nil)))))))))) (.seq (.seq (.reg (.op .p (.op .p (.nil)))) (.cond (.seq (.reg (.op .p (.op .p (.op .p (.nil))))) (.leaf)) (.leaf))) (.seq (.reg (.op (.r (.slice)) (.op .p (.op .p (.op .p (.op (.ld (.slice)) (.op .p (.op .ix (.op .p (.op (.ld (.slice)) (.op (.r (.slice)) (.op .p (.op .p (.nil)))))))))))))) (.leaf)))))
    (by kernel_rfl) Try.func57 (by kernel_rfl) (by kernel_rfl) (by kernel_rfl) (by kernel_rfl) h

set_option maxRecDepth 100000 in
theorem amphoraref01_Disk_ReadAt_vc (a0b : Nat) (a0o : Nat) (a1 : ByteArray) (a2 : Int) (a3 : Int) (w : World) (R : Ending → World → Prop) (h :
  Calls Try.prog 57 #[(.pointer (some ⟨a0b, a0o, none⟩)), (.string a1)] w fun (e15 : Ending) (w1 : World) => ∃ (t15_0a : Option Addr) (t15_0n : Nat) (t15_0c : Nat) (t15_1 : Int), e15 = .returned (.tuple #[(.slice t15_0a t15_0n t15_0c), (.int .i64 t15_1)]) ∧
  (((t15_1 != (0 : Int)) = true →
      (R (.returned (.tuple #[(.slice none 0 0), (.int .i64 t15_1)])) w1)) ∧
    ((t15_1 != (0 : Int)) = false →
      ((((((decide (a2 < (0 : Int))) || (decide (a3 < (0 : Int)))) || (decide (a2 > ((t15_0n : Nat) : Int)))) || (decide (a3 > (IntKind.wrap .i64 (((t15_0n : Nat) : Int) - a2))))) = true →
          (R (.returned (.tuple #[(.slice none 0 0), (.int .i64 7)])) w1)) ∧
        (((((decide (a2 < (0 : Int))) || (decide (a3 < (0 : Int)))) || (decide (a2 > ((t15_0n : Nat) : Int)))) || (decide (a3 > (IntKind.wrap .i64 (((t15_0n : Nat) : Int) - a2))))) = false →
          (0 ≤ a2 ∧ a2 ≤ (IntKind.wrap .i64 (a2 + a3)) ∧ (IntKind.wrap .i64 (a2 + a3)) ≤ ((t15_0c : Nat) : Int) ∧ ∀ t46a : Option Addr, SubA 1 t15_0a (Int.toNat a2) t15_0c t46a →
            (R (.returned (.tuple #[(.slice t46a ((Int.toNat (IntKind.wrap .i64 (a2 + a3))) - (Int.toNat a2)) (t15_0c - (Int.toNat a2))), (.int .i64 0)])) w1))))))) : Calls Try.prog 58 #[(.pointer (some ⟨a0b, a0o, none⟩)), (.string a1), (.int .i64 a2), (.int .i64 a3)] w R :=
  calls_of_ev (args := [(.pointer (some ⟨a0b, a0o, none⟩)), (.string a1), (.int .i64 a2), (.int .i64 a3)])
    (tc := .seq (.reg (.op .p (.op .p (.nil)))) (.seq (.reg (.op .p (.op .p (.op (.cl [.slice, .int .i64]) (.op .p (.op .p (.op .p (.op .p (.op .p (.nil)))))))))) (.seq (.seq (.reg (.op .p (.op .p (.nil)))) (.cond (.seq (.reg (.op .p (.op .p (.op .p (.nil))))) (.leaf)) (.leaf))) (.seq (.seq (.reg (.op .p (.op .p (.op .p (.ap 2 (.op .p (.ap 4 (.op .p (.ap 6 (.nil)))))))))) (.cond (.seq (.reg (.op .p (.op .p (.nil)))) (.leaf)) (.leaf))) (.seq (.reg (.op .p (.op .p (.op .p (.op .p (.op .p (.op .sl (.op .p (.op .p (.nil)))))))))) (.leaf))))))
    (by kernel_rfl) Try.func58 (by kernel_rfl) (by kernel_rfl) (by kernel_rfl) (by kernel_rfl) h

set_option maxRecDepth 100000 in
theorem amphoraref01_Disk_List_vc (a0b : Nat) (a0o : Nat) (w : World) (R : Ending → World → Prop) (h :
  ∃ (I : Option Addr → Nat → Nat → Int → World → Prop) (μ : Option Addr → Nat → Nat → Int → World → Nat), I none 0 0 0 w ∧
  (∀ (x3a : Option Addr) (x3n : Nat) (x3c : Nat) (x4 : Int), ∀ w1 : World, I x3a x3n x3c x4 w1 →
    (∃ (t9a : Option Addr) (t9n : Nat) (t9c : Nat), (Instr.loadAt 99 (.pointer (some ⟨a0b, a0o + 2, none⟩))).run Try.prog w1 = .ok (.slice t9a t9n t9c) w1 ∧
      (((decide (x4 < ((t9n : Nat) : Int))) = true →
          (∃ (t18a : Option Addr) (t18n : Nat) (t18c : Nat), (Instr.loadAt 99 (.pointer (some ⟨a0b, a0o + 2, none⟩))).run Try.prog w1 = .ok (.slice t18a t18n t18c) w1 ∧
            (∃ (t20b t20o : Nat), t18a = some ⟨t20b, t20o, none⟩ ∧ 0 ≤ x4 ∧ x4 < ((t18n : Nat) : Int) ∧
              (∃ (t22 : ByteArray), (Instr.loadAt 9 (.pointer (some ⟨t20b, t20o + Int.toNat x4 * 2, none⟩))).run Try.prog w1 = .ok (.string t22) w1 ∧
                (∃ (t23a : Option Addr) (t23n : Nat) (t23c : Nat) (w2 : World), (Instr.buildSlice 39 1 #[(0, (.string t22))]).run Try.prog w1 = .ok (.slice t23a t23n t23c) w2 ∧
                  (∃ (t24a : Option Addr) (t24n : Nat) (t24c : Nat) (w3 : World), (Builtin.append_ #[39, 39] 39 #[(.slice x3a x3n x3c), (.slice t23a t23n t23c)]).run Try.prog w2 = .ok (.slice t24a t24n t24c) w3 ∧
                    (I t24a t24n t24c (IntKind.wrap .i64 (x4 + (1 : Int))) w3 ∧ μ t24a t24n t24c (IntKind.wrap .i64 (x4 + (1 : Int))) w3 < μ x3a x3n x3c x4 w1))))))) ∧
        ((decide (x4 < ((t9n : Nat) : Int))) = false →
          (R (.returned (.slice x3a x3n x3c)) w1)))))) : Calls Try.prog 63 #[(.pointer (some ⟨a0b, a0o, none⟩))] w R :=
  calls_of_ev (args := [(.pointer (some ⟨a0b, a0o, none⟩))])
    (tc := .seq (.reg (.op .p (.nil))) (.seq (.reg (.op .p (.nil))) (.seq (.seq (.reg (.op .p (.nil))) (.blk (.loop [3, 4, 5, 6, 7, 8, 9, 10, 11, 12, 13, 14, 15, 16, 17, 18, 19, 20, 21, 22, 23, 24] [3, 4] [.slice, .int .i64] (.seq (.seq (.reg (.op .p (.op .p (.op .p (.op .p (.op (.ld (.slice)) (.op .p (.op .p (.nil))))))))) (.cond (.leaf) (.leaf))) (.seq (.blk (.reg (.op .p (.op .p (.op .p (.op .p (.op (.ld (.slice)) (.op .p (.op .ix (.op .p (.op (.ld (.str)) (.op (.r (.slice)) (.op (.r (.slice)) (.op .p (.nil))))))))))))))) (.reg (.op .p (.op .p (.op .p (.nil)))))))))) (.seq (.reg (.op .p (.op .p (.nil)))) (.leaf)))))
    (by kernel_rfl) Try.func63 (by kernel_rfl) (by kernel_rfl) (by kernel_rfl) (by kernel_rfl) h

set_option maxRecDepth 100000 in
theorem amphoraref01_Disk_All_vc (a0b : Nat) (a0o : Nat) (w : World) (R : Ending → World → Prop) (h :
  ∃ (I : Option Addr → Nat → Nat → Int → World → Prop) (μ : Option Addr → Nat → Nat → Int → World → Nat), I none 0 0 0 w ∧
  (∀ (x3a : Option Addr) (x3n : Nat) (x3c : Nat) (x4 : Int), ∀ w1 : World, I x3a x3n x3c x4 w1 →
    (∃ (t9a : Option Addr) (t9n : Nat) (t9c : Nat), (Instr.loadAt 99 (.pointer (some ⟨a0b, a0o + 2, none⟩))).run Try.prog w1 = .ok (.slice t9a t9n t9c) w1 ∧
      (((decide (x4 < ((t9n : Nat) : Int))) = true →
          (∃ S : World → Prop, S w1.drew ∧
            (∃ (t18a : Option Addr) (t18n : Nat) (t18c : Nat), (∀ w' : World, S w' → (Instr.loadAt 99 (.pointer (some ⟨a0b, a0o + 2, none⟩))).run Try.prog w' = .ok (.slice t18a t18n t18c) w') ∧
              (∃ (t20b t20o : Nat), t18a = some ⟨t20b, t20o, none⟩ ∧ 0 ≤ x4 ∧ x4 < ((t18n : Nat) : Int) ∧
                (∃ (t22 : ByteArray), (∀ w' : World, S w' → (Instr.loadAt 9 (.pointer (some ⟨t20b, t20o + Int.toNat x4 * 2, none⟩))).run Try.prog w' = .ok (.string t22) w') ∧
                  (∃ (t27a : Option Addr) (t27n : Nat) (t27c : Nat), (∀ w' : World, S w' → (Instr.loadAt 98 (.pointer (some ⟨a0b, a0o + 1, none⟩))).run Try.prog w' = .ok (.slice t27a t27n t27c) w') ∧
                    (∃ (t31a : Option Addr) (t31n : Nat) (t31c : Nat), (∀ w' : World, S w' → (Instr.loadAt 99 (.pointer (some ⟨a0b, a0o + 2, none⟩))).run Try.prog w' = .ok (.slice t31a t31n t31c) w') ∧
                      (∃ (t33b t33o : Nat), t31a = some ⟨t33b, t33o, none⟩ ∧ 0 ≤ x4 ∧ x4 < ((t31n : Nat) : Int) ∧
                        (∃ (t35 : Int), (∀ w' : World, S w' → (Instr.loadAt 3 (.pointer (some ⟨t33b, t33o + Int.toNat x4 * 2 + 1, none⟩))).run Try.prog w' = .ok (.int .i64 t35) w') ∧
                          (∃ (t36b t36o : Nat), t27a = some ⟨t36b, t36o, none⟩ ∧ 0 ≤ t35 ∧ t35 < ((t27n : Nat) : Int) ∧
                            (∃ (t38a : Option Addr) (t38n : Nat) (t38c : Nat), (∀ w' : World, S w' → (Instr.loadAt 22 (.pointer (some ⟨t36b, t36o + Int.toNat t35 * 2, none⟩))).run Try.prog w' = .ok (.slice t38a t38n t38c) w') ∧
                              (∃ (t23a : Option Addr) (t23n : Nat) (t23c : Nat) (w2 : World), (Instr.buildSlice 22 0 #[]).run Try.prog w1.drew = .ok (.slice t23a t23n t23c) w2 ∧
                                (∃ S_1 : World → Prop, (∀ w' : World, S_1 w' → S w') ∧ S_1 w2 ∧
                                  (∃ (t39a : Option Addr) (t39n : Nat) (t39c : Nat) (w3 : World), (Builtin.append_ #[22, 22] 22 #[(.slice t23a t23n t23c), (.slice t38a t38n t38c)]).run Try.prog w2 = .ok (.slice t39a t39n t39c) w3 ∧
                                    (∃ S_2 : World → Prop, (∀ w' : World, S_2 w' → S_1 w') ∧ S_2 w3 ∧
                                      (∃ (t40 : Array Value), (∀ w' : World, S_2 w' → (Instr.build 42 #[(0, (.string t22)), (1, (.slice t39a t39n t39c))]).run Try.prog w' = .ok (.agg t40) w') ∧
                                        (∃ (t41a : Option Addr) (t41n : Nat) (t41c : Nat) (w4 : World), (Instr.buildSlice 37 1 #[(0, (.agg t40))]).run Try.prog w3 = .ok (.slice t41a t41n t41c) w4 ∧
                                          (∃ S_3 : World → Prop, (∀ w' : World, S_3 w' → S_2 w') ∧ S_3 w4 ∧
                                            (∃ (t42a : Option Addr) (t42n : Nat) (t42c : Nat) (w5 : World), (Builtin.append_ #[37, 37] 37 #[(.slice x3a x3n x3c), (.slice t41a t41n t41c)]).run Try.prog w4 = .ok (.slice t42a t42n t42c) w5 ∧
                                              (∃ S_4 : World → Prop, (∀ w' : World, S_4 w' → S_3 w') ∧ S_4 w5 ∧
                                                (I t42a t42n t42c (IntKind.wrap .i64 (x4 + (1 : Int))) w5 ∧ μ t42a t42n t42c (IntKind.wrap .i64 (x4 + (1 : Int))) w5 < μ x3a x3n x3c x4 w1))))))))))))))))))))) ∧
        ((decide (x4 < ((t9n : Nat) : Int))) = false →
          (R (.returned (.slice x3a x3n x3c)) w1)))))) : Calls Try.prog 62 #[(.pointer (some ⟨a0b, a0o, none⟩))] w R :=
  calls_of_ev (args := [(.pointer (some ⟨a0b, a0o, none⟩))])
    (tc := .seq (.reg (.op .p (.nil))) (.seq (.reg (.op .p (.nil))) (.seq (.seq (.reg (.op .p (.nil))) (.blk (.loop [3, 4, 5, 6, 7, 8, 9, 10, 11, 12, 13, 14, 15, 16, 17, 18, 19, 20, 21, 22, 23, 24, 25, 26, 27, 28, 29, 30, 31, 32, 33, 34, 35, 36, 37, 38, 39, 40, 41, 42] [3, 4] [.slice, .int .i64] (.seq (.seq (.reg (.op .p (.op .p (.op .p (.op .p (.op (.ld (.slice)) (.op .p (.op .p (.nil))))))))) (.cond (.leaf) (.leaf))) (.seq (.blk (.drawS (.tk 0 .p (.tk 1 .p (.tk 2 .p (.tk 3 .p (.tk 5 .p (.tk 10 .p (.tk 11 .p (.tk 12 .p (.tk 14 .p (.tk 15 .p (.tk 16 .p (.tk 18 .p (.ts 4 (.slice) (.tk 6 .ix (.tk 7 .p (.ts 8 (.str) (.ts 13 (.slice) (.ts 17 (.slice) (.tk 19 .ix (.tk 20 .p (.ts 21 (.int .i64) (.tk 22 .ix (.tk 23 .p (.ts 24 (.slice) (.go 9 (.r (.slice)) (.go 25 (.r (.slice)) (.ts 26 (.agg) (.go 27 (.r (.slice)) (.go 28 (.r (.slice)) (.tk 29 .p (.nil))))))))))))))))))))))))))))))) [])) (.reg (.op .p (.op .p (.op .p (.nil)))))))))) (.seq (.reg (.op .p (.op .p (.nil)))) (.leaf)))))
    (by kernel_rfl) Try.func62 (by kernel_rfl) (by kernel_rfl) (by kernel_rfl) (by kernel_rfl) h

set_option maxRecDepth 100000 in
theorem amphoraref01_Disk_settle_vc (a0b : Nat) (a0o : Nat) (w : World) (R : Ending → World → Prop) (h :
  ∃ (I : Int → World → Prop) (μ : Int → World → Nat), I 0 w ∧
  (∀ (x2 : Int), ∀ w1 : World, I x2 w1 →
    (∃ (t8a : Option Addr) (t8n : Nat) (t8c : Nat), (Instr.loadAt 99 (.pointer (some ⟨a0b, a0o + 2, none⟩))).run Try.prog w1 = .ok (.slice t8a t8n t8c) w1 ∧
      (((decide (x2 < ((t8n : Nat) : Int))) = true →
          (∃ (t16a : Option Addr) (t16n : Nat) (t16c : Nat), (Instr.loadAt 99 (.pointer (some ⟨a0b, a0o + 2, none⟩))).run Try.prog w1 = .ok (.slice t16a t16n t16c) w1 ∧
            (∃ (t18b t18o : Nat), t16a = some ⟨t18b, t18o, none⟩ ∧ 0 ≤ x2 ∧ x2 < ((t16n : Nat) : Int) ∧
              (∃ (t20 : Int), (Instr.loadAt 3 (.pointer (some ⟨t18b, t18o + Int.toNat x2 * 2 + 1, none⟩))).run Try.prog w1 = .ok (.int .i64 t20) w1 ∧
                (∃ S : World → Prop, S w1.drew ∧
                  (∃ (t24a : Option Addr) (t24n : Nat) (t24c : Nat), (∀ w' : World, S w' → (Instr.loadAt 98 (.pointer (some ⟨a0b, a0o + 1, none⟩))).run Try.prog w' = .ok (.slice t24a t24n t24c) w') ∧
                    (∃ (t29a : Option Addr) (t29n : Nat) (t29c : Nat), (∀ w' : World, S w' → (Instr.loadAt 98 (.pointer (some ⟨a0b, a0o + 1, none⟩))).run Try.prog w' = .ok (.slice t29a t29n t29c) w') ∧
                      (∃ (t31b t31o : Nat), t29a = some ⟨t31b, t31o, none⟩ ∧ 0 ≤ t20 ∧ t20 < ((t29n : Nat) : Int) ∧
                        (∃ (t33a : Option Addr) (t33n : Nat) (t33c : Nat), (∀ w' : World, S w' → (Instr.loadAt 22 (.pointer (some ⟨t31b, t31o + Int.toNat t20 * 2, none⟩))).run Try.prog w' = .ok (.slice t33a t33n t33c) w') ∧
                          (∃ (t35b t35o : Nat), t24a = some ⟨t35b, t35o, none⟩ ∧ 0 ≤ t20 ∧ t20 < ((t24n : Nat) : Int) ∧
                            (∃ w2 : World, (Instr.storeAt 3 (.pointer (some ⟨t35b, t35o + Int.toNat t20 * 2 + 1, none⟩)) (.int .i64 ((t33n : Nat) : Int))).run Try.prog w1.drew = .ok () w2 ∧
                              (I (IntKind.wrap .i64 (x2 + (1 : Int))) w2 ∧ μ (IntKind.wrap .i64 (x2 + (1 : Int))) w2 < μ x2 w1)))))))))))) ∧
        ((decide (x2 < ((t8n : Nat) : Int))) = false →
          (∃ (t41a : Option Addr) (t41n : Nat) (t41c : Nat), (Instr.loadAt 99 (.pointer (some ⟨a0b, a0o + 2, none⟩))).run Try.prog w1 = .ok (.slice t41a t41n t41c) w1 ∧
            (∃ w3 : World, (Instr.storeAt 99 (.pointer (some ⟨a0b, a0o + 3, none⟩)) (.slice t41a t41n t41c)).run Try.prog w1 = .ok () w3 ∧
              (∃ w4 : World, (Instr.storeAt 100 (.pointer (some ⟨a0b, a0o + 4, none⟩)) (.slice none 0 0)).run Try.prog w3 = .ok () w4 ∧
                (R (.returned (.tuple #[])) w4))))))))) : Calls Try.prog 77 #[(.pointer (some ⟨a0b, a0o, none⟩))] w R :=
  calls_of_ev (args := [(.pointer (some ⟨a0b, a0o, none⟩))])
    (tc := .seq (.seq (.reg (.op .p (.nil))) (.blk (.loop [2, 3, 4, 5, 6, 7, 8, 9, 10, 11, 12, 13, 14, 15, 16, 17, 18, 19, 20, 21, 22, 23, 24, 25, 26, 27, 28, 29, 30, 31, 32, 33, 34, 35, 36] [2] [.int .i64] (.seq (.seq (.reg (.op .p (.op .p (.op .p (.op .p (.op (.ld (.slice)) (.op .p (.op .p (.nil))))))))) (.cond (.leaf) (.leaf))) (.seq (.blk (.seq (.reg (.op .p (.op .p (.op .p (.op (.ld (.slice)) (.op .p (.op .ix (.op .p (.op (.ld (.int .i64)) (.op .p (.nil))))))))))) (.drawS (.tk 0 .p (.tk 1 .p (.tk 2 .p (.tk 4 .p (.tk 5 .p (.tk 6 .p (.tk 7 .p (.tk 9 .p (.ts 3 (.slice) (.ts 8 (.slice) (.tk 10 .ix (.tk 11 .p (.ts 12 (.slice) (.tk 13 .p (.tk 14 .ix (.tk 15 .p (.go 16 .u (.nil)))))))))))))))))) [16]))) (.reg (.op .p (.op .p (.op .p (.nil)))))))))) (.seq (.reg (.op .p (.op .p (.op .p (.op .p (.op (.ld (.slice)) (.op .p (.op .p (.op .u (.nil)))))))))) (.reg (.op .p (.op .p (.op .p (.op .u (.nil))))))))
    (by kernel_rfl) Try.func77 (by kernel_rfl) (by kernel_rfl) (by kernel_rfl) (by kernel_rfl) h

set_option maxRecDepth 100000 in
theorem amphoraref01_Disk_Crash_vc (a0b : Nat) (a0o : Nat) (a1 : Array Value) (w : World) (R : Ending → World → Prop) (h :
  ∃ (g3 : Nat) (w1 : World), (Instr.box 50 (.agg a1)).run Try.prog w = .ok (.pointer (some ⟨g3, 0, none⟩)) w1 ∧
  (∃ (t12a : Option Addr) (t12n : Nat) (t12c : Nat), (Instr.loadAt 99 (.pointer (some ⟨a0b, a0o + 3, none⟩))).run Try.prog w1 = .ok (.slice t12a t12n t12c) w1 ∧
    (∃ (I : Option Addr → Nat → Nat → Int → World → Prop) (μ : Option Addr → Nat → Nat → Int → World → Nat), I t12a t12n t12c 0 w1 ∧
      (∀ (x4a : Option Addr) (x4n : Nat) (x4c : Nat) (x5 : Int), ∀ w2 : World, I x4a x4n x4c x5 w2 →
        (∃ J : Bool → World → Prop, (∃ (t17a : Option Addr) (t17n : Nat) (t17c : Nat), (Instr.loadAt 100 (.pointer (some ⟨a0b, a0o + 4, none⟩))).run Try.prog w2 = .ok (.slice t17a t17n t17c) w2 ∧
            (((decide (x5 < ((t17n : Nat) : Int))) = true →
                (∃ (t23 : Int), (Instr.loadAt 3 (.pointer (some ⟨g3, 0, none⟩))).run Try.prog w2 = .ok (.int .i64 t23) w2 ∧
                  (J (decide (x5 < t23)) w2))) ∧
              ((decide (x5 < ((t17n : Nat) : Int))) = false →
                (J false w2)))) ∧
          (∀ (x25 : Bool), ∀ w3 : World, J x25 w3 →
            ((x25 = true →
                (∃ (t32a : Option Addr) (t32n : Nat) (t32c : Nat), (Instr.loadAt 100 (.pointer (some ⟨a0b, a0o + 4, none⟩))).run Try.prog w3 = .ok (.slice t32a t32n t32c) w3 ∧
                  (∃ (t34b t34o : Nat), t32a = some ⟨t34b, t34o, none⟩ ∧ 0 ≤ x5 ∧ x5 < ((t32n : Nat) : Int) ∧
                    (∃ (t35 : Array Value), (Instr.loadAt 124 (.pointer (some ⟨t34b, t34o + Int.toNat x5 * 3, none⟩))).run Try.prog w3 = .ok (.agg t35) w3 ∧
                      (Calls Try.prog 75 #[(.slice x4a x4n x4c), (.agg t35)] w3 fun (e36 : Ending) (w4 : World) => ∃ (t36a : Option Addr) (t36n : Nat) (t36c : Nat), e36 = .returned (.slice t36a t36n t36c) ∧
                        (I t36a t36n t36c (IntKind.wrap .i64 (x5 + (1 : Int))) w4 ∧ μ t36a t36n t36c (IntKind.wrap .i64 (x5 + (1 : Int))) w4 < μ x4a x4n x4c x5 w2)))))) ∧
              (x25 = false →
                (∃ w5 : World, (Instr.storeAt 99 (.pointer (some ⟨a0b, a0o + 2, none⟩)) (.slice x4a x4n x4c)).run Try.prog w3 = .ok () w5 ∧
                  (∃ (I_1 : Int → World → Prop) (μ_1 : Int → World → Nat), I_1 0 w5 ∧
                    (∀ (x6 : Int), ∀ w6 : World, I_1 x6 w6 →
                      (((decide (x6 < ((x4n : Nat) : Int))) = true →
                          (∃ S : World → Prop, S w6.drew ∧
                            (∃ (t53b t53o : Nat), x4a = some ⟨t53b, t53o, none⟩ ∧ 0 ≤ x6 ∧ x6 < ((x4n : Nat) : Int) ∧
                              (∃ (t50a : Option Addr) (t50n : Nat) (t50c : Nat), (∀ w' : World, S w' → (Instr.loadAt 98 (.pointer (some ⟨a0b, a0o + 1, none⟩))).run Try.prog w' = .ok (.slice t50a t50n t50c) w') ∧
                                (∃ (t55 : Int), (∀ w' : World, S w' → (Instr.loadAt 3 (.pointer (some ⟨t53b, t53o + Int.toNat x6 * 2 + 1, none⟩))).run Try.prog w' = .ok (.int .i64 t55) w') ∧
                                  (∃ (t56b t56o : Nat), t50a = some ⟨t56b, t56o, none⟩ ∧ 0 ≤ t55 ∧ t55 < ((t50n : Nat) : Int) ∧
                                    (∃ (t57 : Array Value), (∀ w' : World, S w' → (Instr.loadAt 122 (.pointer (some ⟨t56b, t56o + Int.toNat t55 * 2, none⟩))).run Try.prog w' = .ok (.agg t57) w') ∧
                                      (∃ (g7 : Nat) (w7 : World), (Instr.alloc 122 true (.tuple #[])).run Try.prog w6.drew = .ok (.pointer (some ⟨g7, 0, none⟩)) w7 ∧
                                        (∃ S_1 : World → Prop, (∀ w' : World, S_1 w' → S w') ∧ S_1 w7 ∧
                                          (∃ w8 : World, (Instr.storeAt 122 (.pointer (some ⟨g7, 0, none⟩)) (.agg t57)).run Try.prog w7 = .ok () w8 ∧
                                            (∃ J_1 : Bool → World → Prop, (∃ (t60a : Option Addr) (t60n : Nat) (t60c : Nat), (Instr.loadAt 48 (.pointer (some ⟨g3, 1, none⟩))).run Try.prog w8 = .ok (.slice t60a t60n t60c) w8 ∧
                                                (((decide (x6 < ((t60n : Nat) : Int))) = true →
                                                    (∃ (t65a : Option Addr) (t65n : Nat) (t65c : Nat), (Instr.loadAt 48 (.pointer (some ⟨g3, 1, none⟩))).run Try.prog w8 = .ok (.slice t65a t65n t65c) w8 ∧
                                                      (∃ (t67b t67o : Nat), t65a = some ⟨t67b, t67o, none⟩ ∧ 0 ≤ x6 ∧ x6 < ((t65n : Nat) : Int) ∧
                                                        (∃ (t68 : Int), (Instr.loadAt 3 (.pointer (some ⟨t67b, t67o + Int.toNat x6 * 1, none⟩))).run Try.prog w8 = .ok (.int .i64 t68) w8 ∧
                                                          (J_1 (decide (t68 > (0 : Int))) w8))))) ∧
                                                  ((decide (x6 < ((t60n : Nat) : Int))) = false →
                                                    (J_1 false w8)))) ∧
                                              (∀ (x70 : Bool), ∀ w9 : World, J_1 x70 w9 →
                                                (∃ J_2 : Int → World → Prop, ((x70 = true →
                                                      (∃ S_2 : World → Prop, S_2 w9.drew ∧
                                                        (∃ (t72a : Option Addr) (t72n : Nat) (t72c : Nat), (∀ w' : World, S_2 w' → (Instr.loadAt 48 (.pointer (some ⟨g3, 1, none⟩))).run Try.prog w' = .ok (.slice t72a t72n t72c) w') ∧
                                                          (∃ (t74b t74o : Nat), t72a = some ⟨t74b, t74o, none⟩ ∧ 0 ≤ x6 ∧ x6 < ((t72n : Nat) : Int) ∧
                                                            (∃ (t75 : Int), (∀ w' : World, S_2 w' → (Instr.loadAt 3 (.pointer (some ⟨t74b, t74o + Int.toNat x6 * 1, none⟩))).run Try.prog w' = .ok (.int .i64 t75) w') ∧
                                                              (∃ (t77a : Option Addr) (t77n : Nat) (t77c : Nat), (∀ w' : World, S_2 w' → (Instr.loadAt 22 (.pointer (some ⟨g7, 0, none⟩))).run Try.prog w' = .ok (.slice t77a t77n t77c) w') ∧
                                                                (∃ (t80 : Int), (∀ w' : World, S_2 w' → (Instr.loadAt 3 (.pointer (some ⟨g7, 1, none⟩))).run Try.prog w' = .ok (.int .i64 t80) w') ∧
                                                                  (J_2 (if (IntKind.wrap .i64 (((t77n : Nat) : Int) - t80)) < t75 then (IntKind.wrap .i64 (((t77n : Nat) : Int) - t80)) else t75) w9.drew)))))))) ∧
                                                    (x70 = false →
                                                      (J_2 0 w9))) ∧
                                                  (∀ (x8 : Int), ∀ w10 : World, J_2 x8 w10 →
                                                    (∃ (t84a : Option Addr) (t84n : Nat) (t84c : Nat), (Instr.loadAt 22 (.pointer (some ⟨g7, 0, none⟩))).run Try.prog w10 = .ok (.slice t84a t84n t84c) w10 ∧
                                                      (∃ (t86 : Int), (Instr.loadAt 3 (.pointer (some ⟨g7, 1, none⟩))).run Try.prog w10 = .ok (.int .i64 t86) w10 ∧
                                                        (0 ≤ (IntKind.wrap .i64 (t86 + x8)) ∧ (IntKind.wrap .i64 (t86 + x8)) ≤ ((t84c : Nat) : Int) ∧
                                                          (∃ w11 : World, (Instr.storeAt 22 (.pointer (some ⟨g7, 0, none⟩)) (.slice t84a (Int.toNat (IntKind.wrap .i64 (t86 + x8))) t84c)).run Try.prog w10 = .ok () w11 ∧
                                                            (∃ S_2 : World → Prop, S_2 w11.drew ∧
                                                              (∃ (t97b t97o : Nat), x4a = some ⟨t97b, t97o, none⟩ ∧ 0 ≤ x6 ∧ x6 < ((x4n : Nat) : Int) ∧
                                                                (∃ (t94a : Option Addr) (t94n : Nat) (t94c : Nat), (∀ w' : World, S_2 w' → (Instr.loadAt 98 (.pointer (some ⟨a0b, a0o + 1, none⟩))).run Try.prog w' = .ok (.slice t94a t94n t94c) w') ∧
                                                                  (∃ (t99 : Int), (∀ w' : World, S_2 w' → (Instr.loadAt 3 (.pointer (some ⟨t97b, t97o + Int.toNat x6 * 2 + 1, none⟩))).run Try.prog w' = .ok (.int .i64 t99) w') ∧
                                                                    (∃ (t100 : Array Value), (∀ w' : World, S_2 w' → (Instr.loadAt 122 (.pointer (some ⟨g7, 0, none⟩))).run Try.prog w' = .ok (.agg t100) w') ∧
                                                                      (∃ (t101b t101o : Nat), t94a = some ⟨t101b, t101o, none⟩ ∧ 0 ≤ t99 ∧ t99 < ((t94n : Nat) : Int) ∧
                                                                        (∃ w12 : World, (Instr.storeAt 122 (.pointer (some ⟨t101b, t101o + Int.toNat t99 * 2, none⟩)) (.agg t100)).run Try.prog w11.drew = .ok () w12 ∧
                                                                          (I_1 (IntKind.wrap .i64 (x6 + (1 : Int))) w12 ∧ μ_1 (IntKind.wrap .i64 (x6 + (1 : Int))) w12 < μ_1 x6 w6)))))))))))))))))))))))))) ∧
                        ((decide (x6 < ((x4n : Nat) : Int))) = false →
                          (Calls Try.prog 77 #[(.pointer (some ⟨a0b, a0o, none⟩))] w6 fun (e103 : Ending) (w13 : World) => e103 = .returned (.tuple #[]) ∧
                            (∃ w14 : World, (Instr.storeAt 4 (.pointer (some ⟨a0b, a0o + 6, none⟩)) (.bool false)).run Try.prog w13 = .ok () w14 ∧
                              (∃ w15 : World, (Instr.storeAt 3 (.pointer (some ⟨a0b, a0o + 7, none⟩)) (.int .i64 (-1))).run Try.prog w14 = .ok () w15 ∧
                                (∃ w16 : World, (Instr.storeAt 48 (.pointer (some ⟨a0b, a0o + 8, none⟩)) (.slice none 0 0)).run Try.prog w15 = .ok () w16 ∧
                                  (R (.returned (.tuple #[])) w16)))))))))))))))))) : Calls Try.prog 59 #[(.pointer (some ⟨a0b, a0o, none⟩)), (.agg a1)] w R :=
  calls_of_ev (args := [(.pointer (some ⟨a0b, a0o, none⟩)), (.agg a1)])
    (tc := .seq (.reg (.op .bx (.nil))) (.seq (.reg (.op .p (.op .p (.op .p (.op (.ld (.slice)) (.op .p (.nil))))))) (.seq (.seq (.reg (.op .p (.nil))) (.blk (.loop [4, 5, 13, 14, 15, 16, 17, 18, 19, 20, 21, 22, 23, 24, 25, 26, 27, 28, 29, 30, 31, 32, 33, 34, 35, 36] [4, 5] [.slice, .int .i64] (.seq (.seq (.join [13, 14, 15, 16, 17, 18, 19, 20, 21, 22, 23, 24, 25] [25] [.bool] (.reg (.op .p (.op .p (.op .p (.op .p (.op (.ld (.slice)) (.op .p (.op .p (.op .p (.sp 20 (.op .p (.op .p (.op (.ld (.int .i64)) (.op .p (.op .p (.nil)))))) (.op .p (.op .p (.op .p (.op .p (.op .p (.nil))))))))))))))))) (.cond (.leaf) (.leaf))) (.seq (.blk (.reg (.op .p (.op .p (.op .p (.op .p (.op (.ld (.slice)) (.op .p (.op .ix (.op (.ld (.agg)) (.op (.cl [.slice]) (.op .p (.nil))))))))))))) (.reg (.op .p (.op .p (.op .p (.nil)))))))))) (.seq (.reg (.op .p (.op .p (.op .p (.op .p (.op .u (.nil))))))) (.seq (.seq (.reg (.op .p (.nil))) (.blk (.loop [6, 7, 8, 41, 42, 43, 44, 45, 46, 47, 48, 49, 50, 51, 52, 53, 54, 55, 56, 57, 58, 59, 60, 61, 62, 63, 64, 65, 66, 67, 68, 69, 70, 71, 72, 73, 74, 75, 76, 77, 78, 79, 80, 81, 82, 83, 84, 85, 86, 87, 88, 89, 90, 91, 92, 93, 94, 95, 96, 97, 98, 99, 100, 101] [6] [.int .i64] (.seq (.seq (.reg (.op .p (.op .p (.op .p (.op .p (.nil)))))) (.cond (.leaf) (.leaf))) (.seq (.blk (.seq (.drawS (.tk 0 .p (.tk 1 .p (.tk 2 .p (.tk 4 .p (.tk 5 .p (.tk 6 .ix (.tk 7 .p (.ts 3 (.slice) (.ts 8 (.int .i64) (.tk 9 .ix (.ts 10 (.agg) (.go 11 .bx (.go 12 .u (.nil)))))))))))))) [12]) (.seq (.reg (.op .p (.nil))) (.seq (.seq (.join [58, 59, 60, 61, 62, 63, 64, 65, 66, 67, 68, 69, 70] [70] [.bool] (.reg (.op .p (.op .p (.op (.ld (.slice)) (.op .p (.op .p (.op .p (.sp 63 (.op .p (.op (.ld (.slice)) (.op .p (.op .ix (.op (.ld (.int .i64)) (.op .p (.op .p (.nil)))))))) (.op .p (.op .p (.op .p (.op .p (.op .p (.op .p (.op .p (.nil))))))))))))))))) (.join [8, 71, 72, 73, 74, 75, 76, 77, 78, 79, 80, 81, 82] [8] [.int .i64] (.cond (.drawS (.tk 0 .p (.tk 2 .p (.tk 5 .p (.tk 8 .p (.ts 1 (.slice) (.tk 3 .ix (.ts 4 (.int .i64) (.ts 6 (.slice) (.tk 7 .p (.ts 9 (.int .i64) (.tk 10 .p (.tk 11 .p (.tk 12 .p (.nil)))))))))))))) []) (.leaf)))) (.seq (.reg (.op .p (.op (.ld (.slice)) (.op .p (.op (.ld (.int .i64)) (.op .p (.op .p (.op .sl (.op .p (.op .u (.nil))))))))))) (.drawS (.tk 0 .p (.tk 1 .p (.tk 2 .p (.tk 4 .p (.tk 5 .p (.tk 6 .ix (.tk 7 .p (.ts 3 (.slice) (.ts 8 (.int .i64) (.ts 9 (.agg) (.tk 10 .ix (.go 11 .u (.nil))))))))))))) [11])))))) (.reg (.op .p (.op .p (.op .p (.nil)))))))))) (.seq (.reg (.op .p (.op (.cl []) (.nil)))) (.seq (.reg (.op .p (.op .p (.op .p (.op .u (.nil)))))) (.seq (.reg (.op .p (.op .p (.op .p (.op .u (.nil)))))) (.reg (.op .p (.op .p (.op .p (.op .u (.nil))))))))))))))
    (by kernel_rfl) Try.func59 (by kernel_rfl) (by kernel_rfl) (by kernel_rfl) (by kernel_rfl) h

set_option maxRecDepth 100000 in
theorem amphoraref01_Disk_Put_vc (a0b : Nat) (a0o : Nat) (a1 : ByteArray) (a2a : Option Addr) (a2n : Nat) (a2c : Nat) (w : World) (R : Ending → World → Prop) (h :
  Calls Try.prog 76 #[(.string a1)] w fun (e8 : Ending) (w1 : World) => ∃ (t8 : Bool), e8 = .returned (.bool t8) ∧
  (((!t8) = true →
      (R (.returned (.int .i64 6)) w1)) ∧
    ((!t8) = false →
      (∃ J : Bool → World → Prop, (∃ (t13a : Option Addr) (t13n : Nat) (t13c : Nat), (Instr.loadAt 99 (.pointer (some ⟨a0b, a0o + 2, none⟩))).run Try.prog w1 = .ok (.slice t13a t13n t13c) w1 ∧
          (Calls Try.prog 78 #[(.slice t13a t13n t13c), (.string a1)] w1 fun (e15 : Ending) (w2 : World) => ∃ (t15 : Int), e15 = .returned (.int .i64 t15) ∧
            (((decide (t15 < (0 : Int))) = true →
                (∃ (t21a : Option Addr) (t21n : Nat) (t21c : Nat), (Instr.loadAt 99 (.pointer (some ⟨a0b, a0o + 2, none⟩))).run Try.prog w2 = .ok (.slice t21a t21n t21c) w2 ∧
                  (J (decide (((t21n : Nat) : Int) ≥ (4096 : Int))) w2))) ∧
              ((decide (t15 < (0 : Int))) = false →
                (J false w2))))) ∧
        (∀ (x24 : Bool), ∀ w3 : World, J x24 w3 →
          ((x24 = true →
              (R (.returned (.int .i64 19)) w3)) ∧
            (x24 = false →
              (∃ S : World → Prop, S w3.drew ∧
                (∃ (t29a : Option Addr) (t29n : Nat) (t29c : Nat), (∀ w' : World, S w' → (Instr.loadAt 98 (.pointer (some ⟨a0b, a0o + 1, none⟩))).run Try.prog w' = .ok (.slice t29a t29n t29c) w') ∧
                  (∃ (t30a : Option Addr) (t30n : Nat) (t30c : Nat) (w4 : World), (Instr.buildSlice 22 0 #[]).run Try.prog w3.drew = .ok (.slice t30a t30n t30c) w4 ∧
                    (∃ S_1 : World → Prop, (∀ w' : World, S_1 w' → S w') ∧ S_1 w4 ∧
                      (∃ (t32a : Option Addr) (t32n : Nat) (t32c : Nat) (w5 : World), (Builtin.append_ #[22, 22] 22 #[(.slice t30a t30n t30c), (.slice a2a a2n a2c)]).run Try.prog w4 = .ok (.slice t32a t32n t32c) w5 ∧
                        (∃ S_2 : World → Prop, (∀ w' : World, S_2 w' → S_1 w') ∧ S_2 w5 ∧
                          (∃ (t33 : Array Value), (∀ w' : World, S_2 w' → (Instr.build 122 #[(0, (.slice t32a t32n t32c))]).run Try.prog w' = .ok (.agg t33) w') ∧
                            (∃ (t34a : Option Addr) (t34n : Nat) (t34c : Nat) (w6 : World), (Instr.buildSlice 98 1 #[(0, (.agg t33))]).run Try.prog w5 = .ok (.slice t34a t34n t34c) w6 ∧
                              (∃ S_3 : World → Prop, (∀ w' : World, S_3 w' → S_2 w') ∧ S_3 w6 ∧
                                (∃ (t35a : Option Addr) (t35n : Nat) (t35c : Nat) (w7 : World), (Builtin.append_ #[98, 98] 98 #[(.slice t29a t29n t29c), (.slice t34a t34n t34c)]).run Try.prog w6 = .ok (.slice t35a t35n t35c) w7 ∧
                                  (∃ S_4 : World → Prop, (∀ w' : World, S_4 w' → S_3 w') ∧ S_4 w7 ∧
                                    (∃ w8 : World, (Instr.storeAt 98 (.pointer (some ⟨a0b, a0o + 1, none⟩)) (.slice t35a t35n t35c)).run Try.prog w7 = .ok () w8 ∧
                                      (∃ S_5 : World → Prop, S_5 w8.drew ∧
                                        (∃ (t42a : Option Addr) (t42n : Nat) (t42c : Nat), (∀ w' : World, S_5 w' → (Instr.loadAt 99 (.pointer (some ⟨a0b, a0o + 2, none⟩))).run Try.prog w' = .ok (.slice t42a t42n t42c) w') ∧
                                          (∃ (t47a : Option Addr) (t47n : Nat) (t47c : Nat), (∀ w' : World, S_5 w' → (Instr.loadAt 98 (.pointer (some ⟨a0b, a0o + 1, none⟩))).run Try.prog w' = .ok (.slice t47a t47n t47c) w') ∧
                                            (Calls Try.prog 79 #[(.slice t42a t42n t42c), (.string a1), (.int .i64 (IntKind.wrap .i64 (((t47n : Nat) : Int) - (1 : Int))))] w8.drew fun (e50 : Ending) (w9 : World) => ∃ (t50a : Option Addr) (t50n : Nat) (t50c : Nat), e50 = .returned (.slice t50a t50n t50c) ∧
                                              (∃ S_6 : World → Prop, (∀ w' : World, S_6 w' → S_5 w') ∧ S_6 w9 ∧
                                                (∃ w10 : World, (Instr.storeAt 99 (.pointer (some ⟨a0b, a0o + 2, none⟩)) (.slice t50a t50n t50c)).run Try.prog w9 = .ok () w10 ∧
                                                  (Calls Try.prog 77 #[(.pointer (some ⟨a0b, a0o, none⟩))] w10 fun (e54 : Ending) (w11 : World) => e54 = .returned (.tuple #[]) ∧
                                                    (R (.returned (.int .i64 0)) w11))))))))))))))))))))))))))) : Calls Try.prog 60 #[(.pointer (some ⟨a0b, a0o, none⟩)), (.string a1), (.slice a2a a2n a2c)] w R :=
  calls_of_ev (args := [(.pointer (some ⟨a0b, a0o, none⟩)), (.string a1), (.slice a2a a2n a2c)])
    (tc := .seq (.reg (.op .p (.nil))) (.seq (.seq (.reg (.op .p (.op (.cl [.bool]) (.op .p (.nil))))) (.cond (.seq (.reg (.op .p (.nil))) (.leaf)) (.leaf))) (.seq (.seq (.join [10, 11, 12, 13, 14, 15, 16, 17, 18, 19, 20, 21, 22, 23, 24] [24] [.bool] (.reg (.op .p (.op .p (.op .p (.op (.ld (.slice)) (.op .p (.op (.cl [.int .i64]) (.op .p (.op .p (.sp 17 (.op .p (.op .p (.op .p (.op (.ld (.slice)) (.op .p (.op .p (.op .p (.nil)))))))) (.op .p (.op .p (.op .p (.op .p (.op .p (.op .p (.op .p (.nil))))))))))))))))))) (.cond (.seq (.reg (.op .p (.nil))) (.leaf)) (.leaf))) (.seq (.drawS (.tk 0 .p (.tk 1 .p (.tk 2 .p (.tk 3 .p (.tk 6 .p (.ts 4 (.slice) (.go 5 (.r (.slice)) (.go 7 (.r (.slice)) (.ts 8 (.agg) (.go 9 (.r (.slice)) (.go 10 (.r (.slice)) (.tk 11 .p (.tk 12 .p (.go 13 .u (.nil))))))))))))))) [13]) (.seq (.drawS (.tk 0 .p (.tk 1 .p (.tk 2 .p (.tk 3 .p (.tk 5 .p (.tk 6 .p (.tk 7 .p (.tk 8 .p (.ts 4 (.slice) (.ts 9 (.slice) (.tk 10 .p (.tk 11 .p (.go 12 (.cl [.slice]) (.tk 13 .p (.tk 14 .p (.go 15 .u (.nil))))))))))))))))) [15]) (.seq (.reg (.op .p (.op (.cl []) (.nil)))) (.seq (.reg (.op .p (.nil))) (.leaf))))))))
    (by kernel_rfl) Try.func60 (by kernel_rfl) (by kernel_rfl) (by kernel_rfl) (by kernel_rfl) h

set_option maxRecDepth 100000 in
theorem amphoraref01_Disk_Drop_vc (a0b : Nat) (a0o : Nat) (a1 : ByteArray) (w : World) (R : Ending → World → Prop) (h :
  Calls Try.prog 76 #[(.string a1)] w fun (e6 : Ending) (w1 : World) => ∃ (t6 : Bool), e6 = .returned (.bool t6) ∧
  (((!t6) = true →
      (R (.returned (.int .i64 6)) w1)) ∧
    ((!t6) = false →
      (∃ (t11a : Option Addr) (t11n : Nat) (t11c : Nat), (Instr.loadAt 99 (.pointer (some ⟨a0b, a0o + 2, none⟩))).run Try.prog w1 = .ok (.slice t11a t11n t11c) w1 ∧
        (Calls Try.prog 78 #[(.slice t11a t11n t11c), (.string a1)] w1 fun (e13 : Ending) (w2 : World) => ∃ (t13 : Int), e13 = .returned (.int .i64 t13) ∧
          (((decide (t13 < (0 : Int))) = true →
              (R (.returned (.int .i64 5)) w2)) ∧
            ((decide (t13 < (0 : Int))) = false →
              (∃ (t19a : Option Addr) (t19n : Nat) (t19c : Nat), (Instr.loadAt 99 (.pointer (some ⟨a0b, a0o + 2, none⟩))).run Try.prog w2 = .ok (.slice t19a t19n t19c) w2 ∧
                (Calls Try.prog 80 #[(.slice t19a t19n t19c), (.string a1)] w2 fun (e21 : Ending) (w3 : World) => ∃ (t21a : Option Addr) (t21n : Nat) (t21c : Nat), e21 = .returned (.slice t21a t21n t21c) ∧
                  (∃ w4 : World, (Instr.storeAt 99 (.pointer (some ⟨a0b, a0o + 2, none⟩)) (.slice t21a t21n t21c)).run Try.prog w3 = .ok () w4 ∧
                    (Calls Try.prog 77 #[(.pointer (some ⟨a0b, a0o, none⟩))] w4 fun (e25 : Ending) (w5 : World) => e25 = .returned (.tuple #[]) ∧
                      (R (.returned (.int .i64 0)) w5)))))))))))) : Calls Try.prog 61 #[(.pointer (some ⟨a0b, a0o, none⟩)), (.string a1)] w R :=
  calls_of_ev (args := [(.pointer (some ⟨a0b, a0o, none⟩)), (.string a1)])
    (tc := .seq (.reg (.op .p (.nil))) (.seq (.seq (.reg (.op .p (.op (.cl [.bool]) (.op .p (.nil))))) (.cond (.seq (.reg (.op .p (.nil))) (.leaf)) (.leaf))) (.seq (.seq (.reg (.op .p (.op .p (.op .p (.op (.ld (.slice)) (.op .p (.op (.cl [.int .i64]) (.op .p (.nil))))))))) (.cond (.seq (.reg (.op .p (.nil))) (.leaf)) (.leaf))) (.seq (.reg (.op .p (.op .p (.op .p (.op .p (.op (.ld (.slice)) (.op .p (.op (.cl [.slice]) (.op .p (.op .p (.op .u (.nil)))))))))))) (.seq (.reg (.op .p (.op (.cl []) (.nil)))) (.seq (.reg (.op .p (.nil))) (.leaf)))))))
    (by kernel_rfl) Try.func61 (by kernel_rfl) (by kernel_rfl) (by kernel_rfl) (by kernel_rfl) h

end Go.Proofs.Ytoijbpkplegnkaa
