/- Verification conditions of functions, printed by the session's own program vc.py: out of each, Calls (conditions: none). -/
import Derived.Test.YtmdandkoajocpaaGreatDoorRows
import Derived.Test.YtmdandkoajocpaaGreatDoorSxRun
namespace Go.Proofs.YtmdandkoajocpaaGreatDoor
open Go Go.Proofs.YtmdandkoajocpaaGreatDoor.Sx

set_option maxRecDepth 100000 in
theorem wire_Var_vc (a0 : Int) (w : World) (R : Ending → World → Prop) (h :
  ((decide (a0 < (0 : Int))) = true →
    (R (.returned (.slice none 0 0)) w)) ∧
  ((decide (a0 < (0 : Int))) = false →
    (∃ (I : Int → Option Addr → Nat → Nat → World → Prop) (μ : Int → Option Addr → Nat → Nat → World → Nat), I a0 none 0 0 w ∧
      (∀ (x0 : Int) (x3a : Option Addr) (x3n : Nat) (x3c : Nat), ∀ w1 : World, I x0 x3a x3n x3c w1 →
        (((decide (x0 ≥ (128 : Int))) = true →
            (∃ (t12a : Option Addr) (t12n : Nat) (t12c : Nat) (w2 : World), (Instr.buildSlice 33 1 #[(0, (.int .u8 (bor .u8 (IntKind.wrap .u8 x0) (128 : Int))))]).run Tryz.prog w1 = .ok (.slice t12a t12n t12c) w2 ∧
              (∃ (t13a : Option Addr) (t13n : Nat) (t13c : Nat) (w3 : World), (Builtin.append_ #[33, 33] 33 #[(.slice x3a x3n x3c), (.slice t12a t12n t12c)]).run Tryz.prog w2 = .ok (.slice t13a t13n t13c) w3 ∧
                (I (shrI .i64 x0 (7 : Int)) t13a t13n t13c w3 ∧ μ (shrI .i64 x0 (7 : Int)) t13a t13n t13c w3 < μ x0 x3a x3n x3c w1)))) ∧
          ((decide (x0 ≥ (128 : Int))) = false →
            (∃ (t19a : Option Addr) (t19n : Nat) (t19c : Nat) (w4 : World), (Instr.buildSlice 33 1 #[(0, (.int .u8 (IntKind.wrap .u8 x0)))]).run Tryz.prog w1 = .ok (.slice t19a t19n t19c) w4 ∧
              (∃ (t20a : Option Addr) (t20n : Nat) (t20c : Nat) (w5 : World), (Builtin.append_ #[33, 33] 33 #[(.slice x3a x3n x3c), (.slice t19a t19n t19c)]).run Tryz.prog w4 = .ok (.slice t20a t20n t20c) w5 ∧
                (R (.returned (.slice t20a t20n t20c)) w5))))))))) : Calls Tryz.prog 125 #[(.int .i64 a0)] w R :=
  calls_of_ev (args := [(.int .i64 a0)])
    (tc := .seq (.reg (.op .p (.nil))) (.seq (.seq (.reg (.op .p (.op .p (.nil)))) (.cond (.seq (.reg (.op .p (.nil))) (.leaf)) (.leaf))) (.seq (.reg (.op .p (.nil))) (.seq (.blk (.loop [0, 3, 6, 7, 8, 9, 10, 11, 12, 13, 14, 15] [0, 3] [.int .i64, .slice] (.seq (.seq (.reg (.op .p (.op .p (.nil)))) (.cond (.leaf) (.leaf))) (.blk (.seq (.reg (.op .p (.op .p (.op .p (.op .p (.op (.r (.slice)) (.op (.r (.slice)) (.op .p (.nil))))))))) (.reg (.op .p (.op .p (.op .p (.nil)))))))))) (.seq (.reg (.op .p (.op .p (.op .p (.op (.r (.slice)) (.op (.r (.slice)) (.op .p (.nil)))))))) (.leaf))))))
    (by kernel_rfl) Tryz.func125 (by kernel_rfl) (by kernel_rfl) (by kernel_rfl) (by kernel_rfl) h

set_option maxRecDepth 100000 in
theorem wire_ReadVar_vc (a0a : Option Addr) (a0n : Nat) (a0c : Nat) (w : World) (R : Ending → World → Prop) (h :
  ∃ (I : Int → Int → World → Prop) (μ : Int → Int → World → Nat), I 0 0 w ∧
  (∀ (x5 : Int) (x6 : Int), ∀ w1 : World, I x5 x6 w1 →
    ((((decide (x6 < ((a0n : Nat) : Int))) && (decide (x6 < (9 : Int)))) = true →
        (∃ (t20b t20o : Nat), a0a = some ⟨t20b, t20o, none⟩ ∧ 0 ≤ x6 ∧ x6 < ((a0n : Nat) : Int) ∧
          (∃ (t21 : Int), (Instr.loadAt 5 (.pointer (some ⟨t20b, t20o + Int.toNat x6 * 1, none⟩))).run Tryz.prog w1 = .ok (.int .u8 t21) w1 ∧
            (0 ≤ (IntKind.wrap .i64 ((7 : Int) * x6)) ∧
              (∃ (t30b t30o : Nat), a0a = some ⟨t30b, t30o, none⟩ ∧ 0 ≤ x6 ∧ x6 < ((a0n : Nat) : Int) ∧
                (∃ (t31 : Int), (Instr.loadAt 5 (.pointer (some ⟨t30b, t30o + Int.toNat x6 * 1, none⟩))).run Tryz.prog w1 = .ok (.int .u8 t31) w1 ∧
                  (((decide (t31 < (128 : Int))) = true →
                      (∃ (t35b t35o : Nat), a0a = some ⟨t35b, t35o, none⟩ ∧ 0 ≤ x6 ∧ x6 < ((a0n : Nat) : Int) ∧
                        (∃ (t36 : Int), (Instr.loadAt 5 (.pointer (some ⟨t35b, t35o + Int.toNat x6 * 1, none⟩))).run Tryz.prog w1 = .ok (.int .u8 t36) w1 ∧
                          ((((t36 == (0 : Int)) && (decide (x6 > (0 : Int)))) = true →
                              (R (.returned (.tuple #[(.int .i64 0), (.int .i64 0), (.iface 69 (.int .i64 9))])) w1)) ∧
                            (((t36 == (0 : Int)) && (decide (x6 > (0 : Int)))) = false →
                              (R (.returned (.tuple #[(.int .i64 (IntKind.wrap .i64 (bor .u64 x5 (shlI .u64 (IntKind.wrap .u64 (band .u8 t21 (127 : Int))) (IntKind.wrap .i64 ((7 : Int) * x6)))))), (.int .i64 (IntKind.wrap .i64 (x6 + (1 : Int)))), .nilIface])) w1)))))) ∧
                    ((decide (t31 < (128 : Int))) = false →
                      (I (bor .u64 x5 (shlI .u64 (IntKind.wrap .u64 (band .u8 t21 (127 : Int))) (IntKind.wrap .i64 ((7 : Int) * x6)))) (IntKind.wrap .i64 (x6 + (1 : Int))) w1 ∧ μ (bor .u64 x5 (shlI .u64 (IntKind.wrap .u64 (band .u8 t21 (127 : Int))) (IntKind.wrap .i64 ((7 : Int) * x6)))) (IntKind.wrap .i64 (x6 + (1 : Int))) w1 < μ x5 x6 w1))))))))) ∧
      (((decide (x6 < ((a0n : Nat) : Int))) && (decide (x6 < (9 : Int)))) = false →
        (R (.returned (.tuple #[(.int .i64 0), (.int .i64 0), (.iface 69 (.int .i64 9))])) w1))))) : Calls Tryz.prog 166 #[(.slice a0a a0n a0c)] w R :=
  calls_of_ev (args := [(.slice a0a a0n a0c)])
    (tc := .seq (.reg (.op .p (.op .p (.op .p (.nil))))) (.seq (.reg (.op .p (.nil))) (.seq (.seq (.reg (.op .p (.nil))) (.blk (.loop [2, 3, 4, 5, 6, 7, 8, 9, 10, 11, 12, 13, 14, 15, 16, 17, 18, 19, 20, 21, 22, 23, 24, 25, 26, 27, 28, 29, 30, 31, 32, 33, 34, 35, 36, 37, 38, 39, 40, 41, 42, 43, 44, 45] [5, 6] [.int .u64, .int .i64] (.seq (.seq (.reg (.op .p (.op .p (.op .p (.op .p (.op .p (.ap 2 (.nil)))))))) (.cond (.leaf) (.leaf))) (.seq (.blk (.seq (.reg (.op .p (.op .p (.op .p (.op .ix (.op (.ld (.int .u8)) (.op .p (.op .p (.op .p (.op .p (.op .sc (.op .p (.op .p (.nil)))))))))))))) (.seq (.reg (.op .p (.op .p (.op .ix (.op (.ld (.int .u8)) (.op .p (.nil))))))) (.cond (.seq (.seq (.reg (.op .p (.op .p (.op .ix (.op (.ld (.int .u8)) (.op .p (.op .p (.ap 2 (.nil))))))))) (.cond (.leaf) (.leaf))) (.seq (.reg (.op .p (.op .p (.op .p (.op .p (.op .p (.op .p (.op .p (.nil))))))))) (.leaf))) (.leaf))))) (.reg (.op .p (.op .p (.op .p (.nil)))))))))) (.seq (.reg (.op .p (.op .p (.op .p (.op .p (.nil)))))) (.leaf)))))
    (by kernel_rfl) Tryz.func166 (by kernel_rfl) (by kernel_rfl) (by kernel_rfl) (by kernel_rfl) h

set_option maxRecDepth 100000 in
theorem wire_Num_vc (a0 : Int) (w : World) (R : Ending → World → Prop) (h :
  ∃ (t5a : Option Addr) (t5n : Nat) (t5c : Nat) (w1 : World), (Instr.makeSlice 33 (.int .i64 0) (.int .i64 8)).run Tryz.prog w = .ok (.slice t5a t5n t5c) w1 ∧
  (∃ (I : Option Addr → Nat → Nat → Int → World → Prop) (μ : Option Addr → Nat → Nat → Int → World → Nat), I t5a t5n t5c 56 w1 ∧
    (∀ (x3a : Option Addr) (x3n : Nat) (x3c : Nat) (x4 : Int), ∀ w2 : World, I x3a x3n x3c x4 w2 →
      (((decide (x4 ≥ (0 : Int))) = true →
          (0 ≤ x4 ∧
            (∃ (t16a : Option Addr) (t16n : Nat) (t16c : Nat) (w3 : World), (Instr.buildSlice 33 1 #[(0, (.int .u8 (IntKind.wrap .u8 (shrI .u64 (IntKind.wrap .u64 a0) x4))))]).run Tryz.prog w2 = .ok (.slice t16a t16n t16c) w3 ∧
              (∃ (t17a : Option Addr) (t17n : Nat) (t17c : Nat) (w4 : World), (Builtin.append_ #[33, 33] 33 #[(.slice x3a x3n x3c), (.slice t16a t16n t16c)]).run Tryz.prog w3 = .ok (.slice t17a t17n t17c) w4 ∧
                (I t17a t17n t17c (IntKind.wrap .i64 (x4 - (8 : Int))) w4 ∧ μ t17a t17n t17c (IntKind.wrap .i64 (x4 - (8 : Int))) w4 < μ x3a x3n x3c x4 w2))))) ∧
        ((decide (x4 ≥ (0 : Int))) = false →
          (R (.returned (.slice x3a x3n x3c)) w2)))))) : Calls Tryz.prog 58 #[(.int .i64 a0)] w R :=
  calls_of_ev (args := [(.int .i64 a0)])
    (tc := .seq (.reg (.op .p (.nil))) (.seq (.reg (.op (.r (.slice)) (.op .p (.nil)))) (.seq (.seq (.reg (.op .p (.nil))) (.blk (.loop [3, 4, 6, 7, 8, 9, 10, 11, 12, 13, 14, 15, 16, 17] [3, 4] [.slice, .int .i64] (.seq (.seq (.reg (.op .p (.op .p (.nil)))) (.cond (.leaf) (.leaf))) (.seq (.blk (.reg (.op .p (.op .p (.op .p (.op .p (.op .sc (.op .p (.op (.r (.slice)) (.op (.r (.slice)) (.op .p (.nil)))))))))))) (.reg (.op .p (.op .p (.op .p (.nil)))))))))) (.seq (.reg (.op .p (.op .p (.nil)))) (.leaf)))))
    (by kernel_rfl) Tryz.func58 (by kernel_rfl) (by kernel_rfl) (by kernel_rfl) (by kernel_rfl) h

set_option maxRecDepth 100000 in
theorem wire_ReadNum_vc (a0a : Option Addr) (a0n : Nat) (a0c : Nat) (w : World) (R : Ending → World → Prop) (h :
  ((((a0n : Nat) : Int) != (8 : Int)) = true →
    (R (.returned (.tuple #[(.int .i64 0), (.iface 69 (.int .i64 9))])) w)) ∧
  ((((a0n : Nat) : Int) != (8 : Int)) = false →
    (∃ (I : Int → Int → World → Prop) (μ : Int → Int → World → Nat), I 0 0 w ∧
      (∀ (x4 : Int) (x13 : Int), ∀ w1 : World, I x4 x13 w1 →
        (((decide (x13 < ((a0n : Nat) : Int))) = true →
            (∃ (t15b t15o : Nat), a0a = some ⟨t15b, t15o, none⟩ ∧ 0 ≤ x13 ∧ x13 < ((a0n : Nat) : Int) ∧
              (∃ (t16 : Int), (Instr.loadAt 5 (.pointer (some ⟨t15b, t15o + Int.toNat x13 * 1, none⟩))).run Tryz.prog w1 = .ok (.int .u8 t16) w1 ∧
                (I (bor .u64 (shlI .u64 x4 (8 : Int)) (IntKind.wrap .u64 t16)) (IntKind.wrap .i64 (x13 + (1 : Int))) w1 ∧ μ (bor .u64 (shlI .u64 x4 (8 : Int)) (IntKind.wrap .u64 t16)) (IntKind.wrap .i64 (x13 + (1 : Int))) w1 < μ x4 x13 w1)))) ∧
          ((decide (x13 < ((a0n : Nat) : Int))) = false →
            (R (.returned (.tuple #[(.int .i64 (IntKind.wrap .i64 x4)), .nilIface])) w1))))))) : Calls Tryz.prog 87 #[(.slice a0a a0n a0c)] w R :=
  calls_of_ev (args := [(.slice a0a a0n a0c)])
    (tc := .seq (.reg (.op .p (.op .p (.nil)))) (.seq (.seq (.reg (.op .p (.op .p (.op .p (.nil))))) (.cond (.seq (.reg (.op .p (.op .p (.op .p (.nil))))) (.leaf)) (.leaf))) (.seq (.reg (.op .p (.nil))) (.seq (.seq (.reg (.op .p (.op .p (.op .p (.nil))))) (.blk (.loop [4, 6, 13, 14, 15, 16, 17, 18, 19, 20, 21, 22] [4, 13] [.int .u64, .int .i64] (.seq (.reg (.op .p (.nil))) (.seq (.cond (.leaf) (.leaf)) (.seq (.blk (.seq (.reg (.op .ix (.op (.ld (.int .u8)) (.op .p (.nil))))) (.reg (.op .p (.op .p (.op .p (.op .p (.op .p (.op .p (.nil)))))))))) (.reg (.op .p (.op .p (.nil)))))))))) (.seq (.reg (.op .p (.op .p (.op .p (.op .p (.nil)))))) (.leaf))))))
    (by kernel_rfl) Tryz.func87 (by kernel_rfl) (by kernel_rfl) (by kernel_rfl) (by kernel_rfl) h

set_option maxRecDepth 100000 in
theorem wire_Pack_vc (a0a : Option Addr) (a0n : Nat) (a0c : Nat) (w : World) (R : Ending → World → Prop) (h :
  ∃ (I : Option Addr → Nat → Nat → Int → World → Prop) (μ : Option Addr → Nat → Nat → Int → World → Nat), I none 0 0 0 w ∧
  (∀ (x3a : Option Addr) (x3n : Nat) (x3c : Nat) (x8 : Int), ∀ w1 : World, I x3a x3n x3c x8 w1 →
    (((decide (x8 < ((a0n : Nat) : Int))) = true →
        (∃ (t10b t10o : Nat), a0a = some ⟨t10b, t10o, none⟩ ∧ 0 ≤ x8 ∧ x8 < ((a0n : Nat) : Int) ∧
          (∃ (t11a : Option Addr) (t11n : Nat) (t11c : Nat), (Instr.loadAt 33 (.pointer (some ⟨t10b, t10o + Int.toNat x8 * 1, none⟩))).run Tryz.prog w1 = .ok (.slice t11a t11n t11c) w1 ∧
            (((decide (((t11n : Nat) : Int) > (67108864 : Int))) = true →
                (R (.returned (.slice none 0 0)) w1)) ∧
              ((decide (((t11n : Nat) : Int) > (67108864 : Int))) = false →
                (Calls Tryz.prog 125 #[(.int .i64 ((t11n : Nat) : Int))] w1 fun (e18 : Ending) (w2 : World) => ∃ (t18a : Option Addr) (t18n : Nat) (t18c : Nat), e18 = .returned (.slice t18a t18n t18c) ∧
                  (∃ (t19a : Option Addr) (t19n : Nat) (t19c : Nat) (w3 : World), (Builtin.append_ #[33, 33] 33 #[(.slice x3a x3n x3c), (.slice t18a t18n t18c)]).run Tryz.prog w2 = .ok (.slice t19a t19n t19c) w3 ∧
                    (∃ (t22a : Option Addr) (t22n : Nat) (t22c : Nat) (w4 : World), (Builtin.append_ #[33, 33] 33 #[(.slice t19a t19n t19c), (.slice t11a t11n t11c)]).run Tryz.prog w3 = .ok (.slice t22a t22n t22c) w4 ∧
                      (I t22a t22n t22c (IntKind.wrap .i64 (x8 + (1 : Int))) w4 ∧ μ t22a t22n t22c (IntKind.wrap .i64 (x8 + (1 : Int))) w4 < μ x3a x3n x3c x8 w1))))))))) ∧
      ((decide (x8 < ((a0n : Nat) : Int))) = false →
        (R (.returned (.slice x3a x3n x3c)) w1))))) : Calls Tryz.prog 121 #[(.slice a0a a0n a0c)] w R :=
  calls_of_ev (args := [(.slice a0a a0n a0c)])
    (tc := .seq (.reg (.op .p (.nil))) (.seq (.reg (.op .p (.nil))) (.seq (.seq (.reg (.op .p (.op .p (.op .p (.nil))))) (.blk (.loop [2, 3, 5, 8, 9, 10, 11, 12, 13, 14, 15, 16, 17, 18, 19, 20, 21, 22, 23] [3, 8] [.slice, .int .i64] (.seq (.reg (.op .p (.nil))) (.seq (.cond (.leaf) (.leaf)) (.seq (.blk (.seq (.reg (.op .ix (.op (.ld (.slice)) (.op .p (.nil))))) (.seq (.seq (.reg (.op .p (.op .p (.op .p (.nil))))) (.cond (.seq (.reg (.op .p (.nil))) (.leaf)) (.leaf))) (.seq (.reg (.op .p (.op .p (.op .p (.op (.cl [.slice]) (.op (.r (.slice)) (.op .p (.nil)))))))) (.reg (.op .p (.op .p (.op (.r (.slice)) (.op .p (.nil)))))))))) (.reg (.op .p (.op .p (.nil)))))))))) (.seq (.reg (.op .p (.op .p (.nil)))) (.leaf)))))
    (by kernel_rfl) Tryz.func121 (by kernel_rfl) (by kernel_rfl) (by kernel_rfl) (by kernel_rfl) h

set_option maxRecDepth 100000 in
theorem wire_Frame_vc (a0 : Int) (a1a : Option Addr) (a1n : Nat) (a1c : Nat) (w : World) (R : Ending → World → Prop) (h :
  ∃ (I : Int → Int → World → Prop) (μ : Int → Int → World → Nat), I 0 0 w ∧
  (∀ (x5 : Int) (x13 : Int), ∀ w1 : World, I x5 x13 w1 →
    (((decide (x13 < ((a1n : Nat) : Int))) = true →
        (∃ (t15b t15o : Nat), a1a = some ⟨t15b, t15o, none⟩ ∧ 0 ≤ x13 ∧ x13 < ((a1n : Nat) : Int) ∧
          (∃ (t16a : Option Addr) (t16n : Nat) (t16c : Nat), (Instr.loadAt 33 (.pointer (some ⟨t15b, t15o + Int.toNat x13 * 1, none⟩))).run Tryz.prog w1 = .ok (.slice t16a t16n t16c) w1 ∧
            (((decide (((t16n : Nat) : Int) > (IntKind.wrap .i64 ((67108864 : Int) - x5)))) = true →
                (R (.returned (.slice none 0 0)) w1)) ∧
              ((decide (((t16n : Nat) : Int) > (IntKind.wrap .i64 ((67108864 : Int) - x5)))) = false →
                (I (IntKind.wrap .i64 (x5 + ((t16n : Nat) : Int))) (IntKind.wrap .i64 (x13 + (1 : Int))) w1 ∧ μ (IntKind.wrap .i64 (x5 + ((t16n : Nat) : Int))) (IntKind.wrap .i64 (x13 + (1 : Int))) w1 < μ x5 x13 w1)))))) ∧
      ((decide (x13 < ((a1n : Nat) : Int))) = false →
        (∃ (t28a : Option Addr) (t28n : Nat) (t28c : Nat) (w2 : World), (Instr.buildSlice 33 1 #[(0, (.int .u8 a0))]).run Tryz.prog w1 = .ok (.slice t28a t28n t28c) w2 ∧
          (Calls Tryz.prog 125 #[(.int .i64 x5)] w2 fun (e30 : Ending) (w3 : World) => ∃ (t30a : Option Addr) (t30n : Nat) (t30c : Nat), e30 = .returned (.slice t30a t30n t30c) ∧
            (∃ (t31a : Option Addr) (t31n : Nat) (t31c : Nat) (w4 : World), (Builtin.append_ #[33, 33] 33 #[(.slice t28a t28n t28c), (.slice t30a t30n t30c)]).run Tryz.prog w3 = .ok (.slice t31a t31n t31c) w4 ∧
              (∃ (I_1 : Option Addr → Nat → Nat → Int → World → Prop) (μ_1 : Option Addr → Nat → Nat → Int → World → Nat), I_1 t31a t31n t31c 0 w4 ∧
                (∀ (x8a : Option Addr) (x8n : Nat) (x8c : Nat) (x34 : Int), ∀ w5 : World, I_1 x8a x8n x8c x34 w5 →
                  (((decide (x34 < ((a1n : Nat) : Int))) = true →
                      (∃ (t36b t36o : Nat), a1a = some ⟨t36b, t36o, none⟩ ∧ 0 ≤ x34 ∧ x34 < ((a1n : Nat) : Int) ∧
                        (∃ (t37a : Option Addr) (t37n : Nat) (t37c : Nat), (Instr.loadAt 33 (.pointer (some ⟨t36b, t36o + Int.toNat x34 * 1, none⟩))).run Tryz.prog w5 = .ok (.slice t37a t37n t37c) w5 ∧
                          (∃ (t40a : Option Addr) (t40n : Nat) (t40c : Nat) (w6 : World), (Builtin.append_ #[33, 33] 33 #[(.slice x8a x8n x8c), (.slice t37a t37n t37c)]).run Tryz.prog w5 = .ok (.slice t40a t40n t40c) w6 ∧
                            (I_1 t40a t40n t40c (IntKind.wrap .i64 (x34 + (1 : Int))) w6 ∧ μ_1 t40a t40n t40c (IntKind.wrap .i64 (x34 + (1 : Int))) w6 < μ_1 x8a x8n x8c x34 w5))))) ∧
                    ((decide (x34 < ((a1n : Nat) : Int))) = false →
                      (R (.returned (.slice x8a x8n x8c)) w5)))))))))))) : Calls Tryz.prog 103 #[(.int .u8 a0), (.slice a1a a1n a1c)] w R :=
  calls_of_ev (args := [(.int .u8 a0), (.slice a1a a1n a1c)])
    (tc := .seq (.reg (.op .p (.nil))) (.seq (.reg (.op .p (.nil))) (.seq (.seq (.reg (.op .p (.op .p (.op .p (.nil))))) (.blk (.loop [4, 5, 7, 13, 14, 15, 16, 17, 18, 19, 20, 21, 22, 23, 24, 25, 26] [5, 13] [.int .i64, .int .i64] (.seq (.reg (.op .p (.nil))) (.seq (.cond (.leaf) (.leaf)) (.seq (.blk (.seq (.reg (.op .ix (.op (.ld (.slice)) (.op .p (.nil))))) (.seq (.seq (.reg (.op .p (.op .p (.op .p (.op .p (.op .p (.nil))))))) (.cond (.seq (.reg (.op .p (.nil))) (.leaf)) (.leaf))) (.reg (.op .p (.op .p (.op .p (.op .p (.op .p (.nil)))))))))) (.reg (.op .p (.op .p (.nil)))))))))) (.seq (.reg (.op .p (.op (.r (.slice)) (.op .p (.op (.cl [.slice]) (.op (.r (.slice)) (.op .p (.nil)))))))) (.seq (.seq (.reg (.op .p (.op .p (.op .p (.nil))))) (.blk (.loop [8, 10, 34, 35, 36, 37, 38, 39, 40, 41] [8, 34] [.slice, .int .i64] (.seq (.reg (.op .p (.nil))) (.seq (.cond (.leaf) (.leaf)) (.seq (.blk (.seq (.reg (.op .ix (.op (.ld (.slice)) (.op .p (.nil))))) (.reg (.op .p (.op .p (.op (.r (.slice)) (.op .p (.nil)))))))) (.reg (.op .p (.op .p (.nil)))))))))) (.seq (.reg (.op .p (.op .p (.nil)))) (.leaf)))))))
    (by kernel_rfl) Tryz.func103 (by kernel_rfl) (by kernel_rfl) (by kernel_rfl) (by kernel_rfl) h

set_option maxRecDepth 100000 in
theorem wire_Frames_vc (a0a : Option Addr) (a0n : Nat) (a0c : Nat) (w : World) (R : Ending → World → Prop) (h :
  ∃ (t10 : Array Value), (Instr.build 202 #[(0, (.slice a0a a0n a0c))]).run Tryz.prog w = .ok (.agg t10) w ∧
  (∃ (g11 : Nat) (w1 : World), (Instr.box 202 (.agg t10)).run Tryz.prog w = .ok (.pointer (some ⟨g11, 0, none⟩)) w1 ∧
    (∃ (I : Option Addr → Nat → Nat → Int → World → Prop) (μ : Option Addr → Nat → Nat → Int → World → Nat), I none 0 0 0 w1 ∧
      (∀ (x4a : Option Addr) (x4n : Nat) (x4c : Nat) (x6 : Int), ∀ w2 : World, I x4a x4n x4c x6 w2 →
        (Calls Tryz.prog 118 #[(.pointer (some ⟨g11, 0, none⟩)), (.int .i64 1)] w2 fun (e13 : Ending) (w3 : World) => ∃ (t13a : Option Addr) (t13n : Nat) (t13c : Nat), e13 = .returned (.slice t13a t13n t13c) ∧
          (Calls Tryz.prog 119 #[(.pointer (some ⟨g11, 0, none⟩))] w3 fun (e15 : Ending) (w4 : World) => ∃ (t15a : Option Addr) (t15n : Nat) (t15c : Nat), e15 = .returned (.slice t15a t15n t15c) ∧
            (∃ (t19 : Bool), (Instr.loadAt 4 (.pointer (some ⟨g11, 1, none⟩))).run Tryz.prog w4 = .ok (.bool t19) w4 ∧
              ((t19 = true →
                  (R (.returned (.tuple #[(.slice x4a x4n x4c), (.int .i64 x6)])) w4)) ∧
                (t19 = false →
                  (∃ (t24b t24o : Nat), t13a = some ⟨t24b, t24o, none⟩ ∧ 0 ≤ (0 : Int) ∧ (0 : Int) < ((t13n : Nat) : Int) ∧
                    (∃ (t25 : Int), (Instr.loadAt 5 (.pointer (some ⟨t24b, t24o + Int.toNat (0 : Int) * 1, none⟩))).run Tryz.prog w4 = .ok (.int .u8 t25) w4 ∧
                      (∃ (t29 : Array Value), (Instr.build 137 #[(0, (.int .i64 (IntKind.wrap .i64 t25))), (1, (.slice t15a t15n t15c)), (2, (.int .i64 x6))]).run Tryz.prog w4 = .ok (.agg t29) w4 ∧
                        (∃ (t30a : Option Addr) (t30n : Nat) (t30c : Nat) (w5 : World), (Instr.buildSlice 132 1 #[(0, (.agg t29))]).run Tryz.prog w4 = .ok (.slice t30a t30n t30c) w5 ∧
                          (∃ (t31a : Option Addr) (t31n : Nat) (t31c : Nat) (w6 : World), (Builtin.append_ #[132, 132] 132 #[(.slice x4a x4n x4c), (.slice t30a t30n t30c)]).run Tryz.prog w5 = .ok (.slice t31a t31n t31c) w6 ∧
                            (∃ (t37a : Option Addr) (t37n : Nat) (t37c : Nat), (Instr.loadAt 33 (.pointer (some ⟨g11, 0, none⟩))).run Tryz.prog w6 = .ok (.slice t37a t37n t37c) w6 ∧
                              (I t31a t31n t31c (IntKind.wrap .i64 (((a0n : Nat) : Int) - ((t37n : Nat) : Int))) w6 ∧ μ t31a t31n t31c (IntKind.wrap .i64 (((a0n : Nat) : Int) - ((t37n : Nat) : Int))) w6 < μ x4a x4n x4c x6 w2)))))))))))))))) : Calls Tryz.prog 88 #[(.slice a0a a0n a0c)] w R :=
  calls_of_ev (args := [(.slice a0a a0n a0c)])
    (tc := .seq (.reg (.op .p (.op .p (.nil)))) (.seq (.reg (.op .p (.nil))) (.seq (.reg (.op .p (.op (.ld (.agg)) (.op .bx (.op .p (.nil)))))) (.seq (.reg (.op .p (.nil))) (.blk (.loop [2, 3, 4, 6, 7, 8, 12, 13, 14, 15, 16, 17, 18, 19, 20, 21, 22, 23, 24, 25, 26, 27, 28, 29, 30, 31, 32, 33, 34, 35, 36, 37, 38, 39] [4, 6] [.slice, .int .i64] (.blk (.seq (.reg (.op .p (.op (.cl [.slice]) (.op .p (.nil))))) (.seq (.reg (.op .p (.op (.cl [.slice]) (.op .p (.nil))))) (.seq (.seq (.reg (.op .p (.op .p (.op .p (.op (.ld (.bool)) (.nil)))))) (.cond (.seq (.reg (.op .p (.op .p (.op .p (.op .p (.nil)))))) (.leaf)) (.leaf))) (.seq (.reg (.op .p (.op .p (.op .ix (.op (.ld (.int .u8)) (.op .p (.op .p (.op .p (.op (.ld (.agg)) (.op (.r (.slice)) (.op (.r (.slice)) (.op .p (.nil))))))))))))) (.reg (.op .p (.op .p (.op .p (.op .p (.op .p (.op (.ld (.slice)) (.op .p (.op .p (.op .p (.nil))))))))))))))))))))))
    (by kernel_rfl) Tryz.func88 (by kernel_rfl) (by kernel_rfl) (by kernel_rfl) (by kernel_rfl) h

set_option maxRecDepth 100000 in
theorem wire_Reader_fail_vc (a0b : Nat) (a0o : Nat) (w : World) (R : Ending → World → Prop) (h :
  ∃ w1 : World, (Instr.storeAt 4 (.pointer (some ⟨a0b, a0o + 1, none⟩)) (.bool true)).run Tryz.prog w = .ok () w1 ∧
  (∃ w2 : World, (Instr.storeAt 33 (.pointer (some ⟨a0b, a0o, none⟩)) (.slice none 0 0)).run Tryz.prog w1 = .ok () w2 ∧
    (R (.returned (.tuple #[])) w2))) : Calls Tryz.prog 138 #[(.pointer (some ⟨a0b, a0o, none⟩))] w R :=
  calls_of_ev (args := [(.pointer (some ⟨a0b, a0o, none⟩))])
    (tc := .reg (.op .p (.op .p (.op .p (.op .p (.op .u (.op .p (.op .p (.op .u (.nil))))))))))
    (by kernel_rfl) Tryz.func138 (by kernel_rfl) (by kernel_rfl) (by kernel_rfl) (by kernel_rfl) h

set_option maxRecDepth 100000 in
theorem wire_Reader_raw_vc (a0b : Nat) (a0o : Nat) (a1 : Int) (w : World) (R : Ending → World → Prop) (h :
  ∃ J : Bool → World → Prop, (((decide (a1 < (0 : Int))) = true →
      (J true w)) ∧
    ((decide (a1 < (0 : Int))) = false →
      (∃ (t13a : Option Addr) (t13n : Nat) (t13c : Nat), (Instr.loadAt 33 (.pointer (some ⟨a0b, a0o, none⟩))).run Tryz.prog w = .ok (.slice t13a t13n t13c) w ∧
        (J (decide (a1 > ((t13n : Nat) : Int))) w)))) ∧
  (∀ (x16 : Bool), ∀ w1 : World, J x16 w1 →
    (∃ J_1 : World → Prop, ((x16 = true →
          (Calls Tryz.prog 138 #[(.pointer (some ⟨a0b, a0o, none⟩))] w1 fun (e18 : Ending) (w2 : World) => e18 = .returned (.tuple #[]) ∧
            (J_1  w2))) ∧
        (x16 = false →
          (J_1  w1))) ∧
      (∀ w3 : World, J_1  w3 →
        (∃ (t22 : Bool), (Instr.loadAt 4 (.pointer (some ⟨a0b, a0o + 1, none⟩))).run Tryz.prog w3 = .ok (.bool t22) w3 ∧
          ((t22 = true →
              (R (.returned (.slice none 0 0)) w3)) ∧
            (t22 = false →
              (∃ (t26a : Option Addr) (t26n : Nat) (t26c : Nat), (Instr.loadAt 33 (.pointer (some ⟨a0b, a0o, none⟩))).run Tryz.prog w3 = .ok (.slice t26a t26n t26c) w3 ∧
                (0 ≤ a1 ∧ a1 ≤ a1 ∧ a1 ≤ ((t26c : Nat) : Int) ∧
                  (∃ (t34a : Option Addr) (t34n : Nat) (t34c : Nat), (Instr.loadAt 33 (.pointer (some ⟨a0b, a0o, none⟩))).run Tryz.prog w3 = .ok (.slice t34a t34n t34c) w3 ∧
                    (0 ≤ a1 ∧ a1 ≤ ((t34n : Nat) : Int) ∧ ((t34n : Nat) : Int) ≤ ((t34c : Nat) : Int) ∧ ∀ t36a : Option Addr, SubA 1 t34a (Int.toNat a1) t34c t36a →
                      (∃ w4 : World, (Instr.storeAt 33 (.pointer (some ⟨a0b, a0o, none⟩)) (.slice t36a ((t34n) - (Int.toNat a1)) (t34c - (Int.toNat a1)))).run Tryz.prog w3 = .ok () w4 ∧
                        (R (.returned (.slice t26a (Int.toNat a1) (Int.toNat a1))) w4))))))))))))) : Calls Tryz.prog 118 #[(.pointer (some ⟨a0b, a0o, none⟩)), (.int .i64 a1)] w R :=
  calls_of_ev (args := [(.pointer (some ⟨a0b, a0o, none⟩)), (.int .i64 a1)])
    (tc := .seq (.reg (.op .p (.nil))) (.seq (.seq (.join [6, 7, 8, 9, 10, 11, 12, 13, 14, 15, 16] [16] [.bool] (.reg (.op .p (.op .p (.op .p (.sp 8 (.op .p (.op .p (.op .p (.op .p (.op .p (.op .p (.op .p (.op .p (.nil))))))))) (.op .p (.op .p (.op .p (.op .p (.op (.ld (.slice)) (.op .p (.op .p (.op .p (.nil))))))))))))))) (.join [17, 18] [] [] (.cond (.reg (.op .p (.op (.cl []) (.nil)))) (.leaf)))) (.seq (.seq (.reg (.op .p (.op .p (.op .p (.op (.ld (.bool)) (.nil)))))) (.cond (.seq (.reg (.op .p (.nil))) (.leaf)) (.leaf))) (.seq (.reg (.op .p (.op .p (.op .p (.op (.ld (.slice)) (.op .p (.op .p (.op .sl (.op .p (.nil)))))))))) (.seq (.reg (.op .p (.op .p (.op .p (.op .p (.op (.ld (.slice)) (.op .p (.op .sl (.op .p (.op .p (.op .u (.nil)))))))))))) (.seq (.reg (.op .p (.op .p (.nil)))) (.leaf)))))))
    (by kernel_rfl) Tryz.func118 (by kernel_rfl) (by kernel_rfl) (by kernel_rfl) (by kernel_rfl) h

set_option maxRecDepth 100000 in
theorem wire_Reader_Var_vc (a0b : Nat) (a0o : Nat) (w : World) (R : Ending → World → Prop) (h :
  ∃ (t12 : Bool), (Instr.loadAt 4 (.pointer (some ⟨a0b, a0o + 1, none⟩))).run Tryz.prog w = .ok (.bool t12) w ∧
  ((t12 = true →
      (R (.returned (.int .i64 0)) w)) ∧
    (t12 = false →
      (∃ (t18a : Option Addr) (t18n : Nat) (t18c : Nat), (Instr.loadAt 33 (.pointer (some ⟨a0b, a0o, none⟩))).run Tryz.prog w = .ok (.slice t18a t18n t18c) w ∧
        (Calls Tryz.prog 166 #[(.slice t18a t18n t18c)] w fun (e19 : Ending) (w1 : World) => ∃ (t19_0 : Int) (t19_1 : Int) (t19_2 : Value), e19 = .returned (.tuple #[(.int .i64 t19_0), (.int .i64 t19_1), t19_2]) ∧
          (∃ (t24 : Bool), (eqlS .neq 36 (.tmp 23) (.const .nilIface) t19_2 .nilIface).run Tryz.prog w1 = .ok (.bool t24) w1 ∧
            ((t24 = true →
                (Calls Tryz.prog 138 #[(.pointer (some ⟨a0b, a0o, none⟩))] w1 fun (e26 : Ending) (w2 : World) => e26 = .returned (.tuple #[]) ∧
                  (R (.returned (.int .i64 0)) w2))) ∧
              (t24 = false →
                (∃ (t31a : Option Addr) (t31n : Nat) (t31c : Nat), (Instr.loadAt 33 (.pointer (some ⟨a0b, a0o, none⟩))).run Tryz.prog w1 = .ok (.slice t31a t31n t31c) w1 ∧
                  (0 ≤ t19_1 ∧ t19_1 ≤ ((t31n : Nat) : Int) ∧ ((t31n : Nat) : Int) ≤ ((t31c : Nat) : Int) ∧ ∀ t33a : Option Addr, SubA 1 t31a (Int.toNat t19_1) t31c t33a →
                    (∃ w3 : World, (Instr.storeAt 33 (.pointer (some ⟨a0b, a0o, none⟩)) (.slice t33a ((t31n) - (Int.toNat t19_1)) (t31c - (Int.toNat t19_1)))).run Tryz.prog w1 = .ok () w3 ∧
                      (R (.returned (.int .i64 t19_0)) w3)))))))))))) : Calls Tryz.prog 139 #[(.pointer (some ⟨a0b, a0o, none⟩))] w R :=
  calls_of_ev (args := [(.pointer (some ⟨a0b, a0o, none⟩))])
    (tc := .seq (.reg (.op .p (.nil))) (.seq (.seq (.reg (.op .p (.op .p (.op .p (.op .p (.op .p (.op .p (.op (.ld (.bool)) (.op .p (.nil)))))))))) (.cond (.seq (.reg (.op .p (.nil))) (.leaf)) (.leaf))) (.seq (.reg (.op .p (.op .p (.op .p (.op (.ld (.slice)) (.op (.cl [.int .i64, .int .i64, .val]) (.op .p (.op .p (.op .p (.op .p (.op .p (.op .p (.op .p (.nil)))))))))))))) (.seq (.seq (.reg (.op .p (.op (.ld (.bool)) (.nil)))) (.cond (.seq (.reg (.op .p (.op (.cl []) (.nil)))) (.seq (.reg (.op .p (.nil))) (.leaf))) (.leaf))) (.seq (.reg (.op .p (.op .p (.op .p (.op .p (.op (.ld (.slice)) (.op .p (.op .sl (.op .p (.op .p (.op .u (.nil)))))))))))) (.seq (.reg (.op .p (.op .p (.nil)))) (.leaf)))))))
    (by kernel_rfl) Tryz.func139 (by kernel_rfl) (by kernel_rfl) (by kernel_rfl) (by kernel_rfl) h

set_option maxRecDepth 100000 in
theorem wire_Reader_Var_vc_nil  (w : World) (R : Ending → World → Prop) (h :
  R (.returned (.int .i64 0)) w) : Calls Tryz.prog 139 #[(.pointer none)] w R :=
  calls_of_ev (args := [(.pointer none)])
    (tc := .seq (.reg (.op .p (.nil))) (.seq (.seq (.reg (.op .p (.op .p (.op .p (.op .p (.op .p (.op .p (.op .p (.op .p (.nil)))))))))) (.ct (.seq (.reg (.op .p (.nil))) (.leaf)))) (.leaf)))
    (by kernel_rfl) Tryz.func139 (by kernel_rfl) (by kernel_rfl) (by kernel_rfl) (by kernel_rfl) h

set_option maxRecDepth 100000 in
theorem wire_Reader_Field_vc (a0b : Nat) (a0o : Nat) (w : World) (R : Ending → World → Prop) (h :
  Calls Tryz.prog 139 #[(.pointer (some ⟨a0b, a0o, none⟩))] w fun (e5 : Ending) (w1 : World) => ∃ (t5 : Int), e5 = .returned (.int .i64 t5) ∧
  (∃ (t12 : Bool), (Instr.loadAt 4 (.pointer (some ⟨a0b, a0o + 1, none⟩))).run Tryz.prog w1 = .ok (.bool t12) w1 ∧
    ((t12 = true →
        (R (.returned (.slice none 0 0)) w1)) ∧
      (t12 = false →
        (((decide (t5 > (67108864 : Int))) = true →
            (Calls Tryz.prog 138 #[(.pointer (some ⟨a0b, a0o, none⟩))] w1 fun (e17 : Ending) (w2 : World) => e17 = .returned (.tuple #[]) ∧
              (R (.returned (.slice none 0 0)) w2))) ∧
          ((decide (t5 > (67108864 : Int))) = false →
            (Calls Tryz.prog 140 #[(.pointer (some ⟨a0b, a0o, none⟩)), (.int .i64 t5)] w1 fun (e20 : Ending) (w3 : World) => ∃ (t20a : Option Addr) (t20n : Nat) (t20c : Nat), e20 = .returned (.slice t20a t20n t20c) ∧
              (R (.returned (.slice t20a t20n t20c)) w3)))))))) : Calls Tryz.prog 119 #[(.pointer (some ⟨a0b, a0o, none⟩))] w R :=
  calls_of_ev (args := [(.pointer (some ⟨a0b, a0o, none⟩))])
    (tc := .seq (.reg (.op .p (.nil))) (.seq (.reg (.op .p (.op (.cl [.int .i64]) (.op .p (.nil))))) (.seq (.seq (.reg (.op .p (.op .p (.op .p (.op .p (.op .p (.op .p (.op (.ld (.bool)) (.op .p (.nil)))))))))) (.cond (.seq (.reg (.op .p (.nil))) (.leaf)) (.leaf))) (.seq (.seq (.reg (.op .p (.op .p (.nil)))) (.cond (.seq (.reg (.op .p (.op (.cl []) (.nil)))) (.seq (.reg (.op .p (.nil))) (.leaf))) (.leaf))) (.seq (.reg (.op .p (.op .p (.op (.cl [.slice]) (.op .p (.nil)))))) (.leaf))))))
    (by kernel_rfl) Tryz.func119 (by kernel_rfl) (by kernel_rfl) (by kernel_rfl) (by kernel_rfl) h

set_option maxRecDepth 100000 in
theorem wire_Reader_Field_vc_nil  (w : World) (R : Ending → World → Prop) (h :
  Calls Tryz.prog 139 #[(.pointer none)] w fun (e5 : Ending) (w1 : World) => ∃ (t5 : Int), e5 = .returned (.int .i64 t5) ∧
  (R (.returned (.slice none 0 0)) w1)) : Calls Tryz.prog 119 #[(.pointer none)] w R :=
  calls_of_ev (args := [(.pointer none)])
    (tc := .seq (.reg (.op .p (.nil))) (.seq (.reg (.op .p (.op (.cl [.int .i64]) (.op .p (.nil))))) (.seq (.seq (.reg (.op .p (.op .p (.op .p (.op .p (.op .p (.op .p (.op .p (.op .p (.nil)))))))))) (.ct (.seq (.reg (.op .p (.nil))) (.leaf)))) (.leaf))))
    (by kernel_rfl) Tryz.func119 (by kernel_rfl) (by kernel_rfl) (by kernel_rfl) (by kernel_rfl) h

set_option maxRecDepth 100000 in
theorem wire_Reader_Raw_vc (a0b : Nat) (a0o : Nat) (a1 : Int) (w : World) (R : Ending → World → Prop) (h :
  Calls Tryz.prog 118 #[(.pointer (some ⟨a0b, a0o, none⟩)), (.int .i64 a1)] w fun (e9 : Ending) (w1 : World) => ∃ (t9a : Option Addr) (t9n : Nat) (t9c : Nat), e9 = .returned (.slice t9a t9n t9c) ∧
  (Calls Tryz.prog 54 #[(.slice t9a t9n t9c)] w1 fun (e10 : Ending) (w2 : World) => ∃ (t10a : Option Addr) (t10n : Nat) (t10c : Nat), e10 = .returned (.slice t10a t10n t10c) ∧
    (R (.returned (.slice t10a t10n t10c)) w2))) : Calls Tryz.prog 140 #[(.pointer (some ⟨a0b, a0o, none⟩)), (.int .i64 a1)] w R :=
  calls_of_ev (args := [(.pointer (some ⟨a0b, a0o, none⟩)), (.int .i64 a1)])
    (tc := .seq (.reg (.op .p (.nil))) (.seq (.seq (.reg (.op .p (.op .p (.nil)))) (.cf (.leaf))) (.seq (.reg (.op .p (.op .p (.op (.cl [.slice]) (.op (.cl [.slice]) (.op .p (.nil))))))) (.leaf))))
    (by kernel_rfl) Tryz.func140 (by kernel_rfl) (by kernel_rfl) (by kernel_rfl) (by kernel_rfl) h

set_option maxRecDepth 100000 in
theorem wire_Reader_Raw_vc_nil (a1 : Int) (w : World) (R : Ending → World → Prop) (h :
  R (.returned (.slice none 0 0)) w) : Calls Tryz.prog 140 #[(.pointer none), (.int .i64 a1)] w R :=
  calls_of_ev (args := [(.pointer none), (.int .i64 a1)])
    (tc := .seq (.reg (.op .p (.nil))) (.seq (.seq (.reg (.op .p (.op .p (.nil)))) (.ct (.seq (.reg (.op .p (.nil))) (.leaf)))) (.leaf)))
    (by kernel_rfl) Tryz.func140 (by kernel_rfl) (by kernel_rfl) (by kernel_rfl) (by kernel_rfl) h

set_option maxRecDepth 100000 in
theorem amphoraref04_Var_vc (a0 : Int) (w : World) (R : Ending → World → Prop) (h :
  ∃ (I : Int → Option Addr → Nat → Nat → World → Prop) (μ : Int → Option Addr → Nat → Nat → World → Nat), I a0 none 0 0 w ∧
  (∀ (x0 : Int) (x3a : Option Addr) (x3n : Nat) (x3c : Nat), ∀ w1 : World, I x0 x3a x3n x3c w1 →
    (((decide (x0 ≥ (0 : Int))) = true →
        ((((IntKind.wrap .i64 (Int.tdiv x0 (128 : Int))) == (0 : Int)) = true →
            (∃ (t16a : Option Addr) (t16n : Nat) (t16c : Nat) (w2 : World), (Instr.buildSlice 33 1 #[(0, (.int .u8 (IntKind.wrap .u8 (Int.tmod x0 (128 : Int)))))]).run Tryz.prog w1 = .ok (.slice t16a t16n t16c) w2 ∧
              (∃ (t17a : Option Addr) (t17n : Nat) (t17c : Nat) (w3 : World), (Builtin.append_ #[33, 33] 33 #[(.slice x3a x3n x3c), (.slice t16a t16n t16c)]).run Tryz.prog w2 = .ok (.slice t17a t17n t17c) w3 ∧
                (R (.returned (.slice t17a t17n t17c)) w3)))) ∧
          (((IntKind.wrap .i64 (Int.tdiv x0 (128 : Int))) == (0 : Int)) = false →
            (∃ (t22a : Option Addr) (t22n : Nat) (t22c : Nat) (w4 : World), (Instr.buildSlice 33 1 #[(0, (.int .u8 (IntKind.wrap .u8 (IntKind.wrap .i64 ((Int.tmod x0 (128 : Int)) + (128 : Int))))))]).run Tryz.prog w1 = .ok (.slice t22a t22n t22c) w4 ∧
              (∃ (t23a : Option Addr) (t23n : Nat) (t23c : Nat) (w5 : World), (Builtin.append_ #[33, 33] 33 #[(.slice x3a x3n x3c), (.slice t22a t22n t22c)]).run Tryz.prog w4 = .ok (.slice t23a t23n t23c) w5 ∧
                (I (IntKind.wrap .i64 (Int.tdiv x0 (128 : Int))) t23a t23n t23c w5 ∧ μ (IntKind.wrap .i64 (Int.tdiv x0 (128 : Int))) t23a t23n t23c w5 < μ x0 x3a x3n x3c w1)))))) ∧
      ((decide (x0 ≥ (0 : Int))) = false →
        (R (.returned (.slice none 0 0)) w1))))) : Calls Tryz.prog 126 #[(.int .i64 a0)] w R :=
  calls_of_ev (args := [(.int .i64 a0)])
    (tc := .seq (.reg (.op .p (.nil))) (.seq (.reg (.op .p (.nil))) (.seq (.blk (.loop [0, 2, 3, 4, 5, 6, 7, 8, 9, 10, 11, 12, 13, 14, 15, 16, 17, 18, 19, 20, 21, 22, 23] [0, 3] [.int .i64, .slice] (.seq (.seq (.reg (.op .p (.op .p (.nil)))) (.cond (.leaf) (.leaf))) (.blk (.seq (.reg (.op .p (.op .p (.op .p (.nil))))) (.seq (.reg (.op .p (.op .p (.op .p (.nil))))) (.seq (.seq (.reg (.op .p (.op .p (.nil)))) (.cond (.seq (.reg (.op .p (.op .p (.op .p (.op (.r (.slice)) (.op (.r (.slice)) (.op .p (.nil)))))))) (.leaf)) (.leaf))) (.reg (.op .p (.op .p (.op .p (.op .p (.op (.r (.slice)) (.op (.r (.slice)) (.op .p (.nil)))))))))))))))) (.seq (.reg (.op .p (.nil))) (.leaf)))))
    (by kernel_rfl) Tryz.func126 (by kernel_rfl) (by kernel_rfl) (by kernel_rfl) (by kernel_rfl) h

set_option maxRecDepth 100000 in
theorem amphoraref04_Num_vc (a0 : Int) (w : World) (R : Ending → World → Prop) (h :
  ∃ (t6a : Option Addr) (t6n : Nat) (t6c : Nat) (w1 : World), (Instr.makeSlice 33 (.int .i64 8) (.int .i64 8)).run Tryz.prog w = .ok (.slice t6a t6n t6c) w1 ∧
  (∃ (I : Int → Int → World → Prop) (μ : Int → Int → World → Nat), I (IntKind.wrap .u64 a0) 7 w1 ∧
    (∀ (x4 : Int) (x5 : Int), ∀ w2 : World, I x4 x5 w2 →
      (((decide (x5 ≥ (0 : Int))) = true →
          (∃ (t18b t18o : Nat), t6a = some ⟨t18b, t18o, none⟩ ∧ 0 ≤ x5 ∧ x5 < ((t6n : Nat) : Int) ∧
            (∃ w3 : World, (Instr.storeAt 5 (.pointer (some ⟨t18b, t18o + Int.toNat x5 * 1, none⟩)) (.int .u8 (IntKind.wrap .u8 (Int.tmod x4 (256 : Int))))).run Tryz.prog w2 = .ok () w3 ∧
              (I (IntKind.wrap .u64 (Int.tdiv x4 (256 : Int))) (IntKind.wrap .i64 (x5 - (1 : Int))) w3 ∧ μ (IntKind.wrap .u64 (Int.tdiv x4 (256 : Int))) (IntKind.wrap .i64 (x5 - (1 : Int))) w3 < μ x4 x5 w2)))) ∧
        ((decide (x5 ≥ (0 : Int))) = false →
          (R (.returned (.slice t6a t6n t6c)) w2)))))) : Calls Tryz.prog 74 #[(.int .i64 a0)] w R :=
  calls_of_ev (args := [(.int .i64 a0)])
    (tc := .seq (.reg (.op .p (.nil))) (.seq (.reg (.op (.r (.slice)) (.op .p (.nil)))) (.seq (.reg (.op .p (.op .p (.op .p (.nil))))) (.seq (.seq (.reg (.op .p (.nil))) (.blk (.loop [4, 5, 9, 10, 11, 12, 13, 14, 15, 16, 17, 18, 19, 20] [4, 5] [.int .u64, .int .i64] (.seq (.seq (.reg (.op .p (.op .p (.nil)))) (.cond (.leaf) (.leaf))) (.seq (.blk (.seq (.reg (.op .p (.op .p (.op .p (.op .p (.op .p (.op .ix (.op .u (.nil))))))))) (.reg (.op .p (.op .p (.op .p (.nil))))))) (.reg (.op .p (.op .p (.op .p (.nil)))))))))) (.seq (.reg (.op .p (.op .p (.nil)))) (.leaf))))))
    (by kernel_rfl) Tryz.func74 (by kernel_rfl) (by kernel_rfl) (by kernel_rfl) (by kernel_rfl) h

set_option maxRecDepth 100000 in
theorem amphoraref04_Pack_vc (a0a : Option Addr) (a0n : Nat) (a0c : Nat) (w : World) (R : Ending → World → Prop) (h :
  ∃ (I : Option Addr → Nat → Nat → Int → World → Prop) (μ : Option Addr → Nat → Nat → Int → World → Nat), I none 0 0 0 w ∧
  (∀ (x3a : Option Addr) (x3n : Nat) (x3c : Nat) (x4 : Int), ∀ w1 : World, I x3a x3n x3c x4 w1 →
    (((decide (x4 < ((a0n : Nat) : Int))) = true →
        (∃ (t13b t13o : Nat), a0a = some ⟨t13b, t13o, none⟩ ∧ 0 ≤ x4 ∧ x4 < ((a0n : Nat) : Int) ∧
          (∃ (t14a : Option Addr) (t14n : Nat) (t14c : Nat), (Instr.loadAt 33 (.pointer (some ⟨t13b, t13o + Int.toNat x4 * 1, none⟩))).run Tryz.prog w1 = .ok (.slice t14a t14n t14c) w1 ∧
            (((decide (((t14n : Nat) : Int) > (67108864 : Int))) = true →
                (R (.returned (.slice none 0 0)) w1)) ∧
              ((decide (((t14n : Nat) : Int) > (67108864 : Int))) = false →
                (∃ S : World → Prop, S w1.drew ∧
                  (∃ (t20b t20o : Nat), a0a = some ⟨t20b, t20o, none⟩ ∧ 0 ≤ x4 ∧ x4 < ((a0n : Nat) : Int) ∧
                    (∃ (t27b t27o : Nat), a0a = some ⟨t27b, t27o, none⟩ ∧ 0 ≤ x4 ∧ x4 < ((a0n : Nat) : Int) ∧
                      (∃ (t21a : Option Addr) (t21n : Nat) (t21c : Nat), (∀ w' : World, S w' → (Instr.loadAt 33 (.pointer (some ⟨t20b, t20o + Int.toNat x4 * 1, none⟩))).run Tryz.prog w' = .ok (.slice t21a t21n t21c) w') ∧
                        (∃ (t28a : Option Addr) (t28n : Nat) (t28c : Nat), (∀ w' : World, S w' → (Instr.loadAt 33 (.pointer (some ⟨t27b, t27o + Int.toNat x4 * 1, none⟩))).run Tryz.prog w' = .ok (.slice t28a t28n t28c) w') ∧
                          (Calls Tryz.prog 126 #[(.int .i64 ((t21n : Nat) : Int))] w1.drew fun (e23 : Ending) (w2 : World) => ∃ (t23a : Option Addr) (t23n : Nat) (t23c : Nat), e23 = .returned (.slice t23a t23n t23c) ∧
                            (∃ S_1 : World → Prop, (∀ w' : World, S_1 w' → S w') ∧ S_1 w2 ∧
                              (∃ (t24a : Option Addr) (t24n : Nat) (t24c : Nat) (w3 : World), (Builtin.append_ #[33, 33] 33 #[(.slice x3a x3n x3c), (.slice t23a t23n t23c)]).run Tryz.prog w2 = .ok (.slice t24a t24n t24c) w3 ∧
                                (∃ S_2 : World → Prop, (∀ w' : World, S_2 w' → S_1 w') ∧ S_2 w3 ∧
                                  (∃ (t29a : Option Addr) (t29n : Nat) (t29c : Nat) (w4 : World), (Builtin.append_ #[33, 33] 33 #[(.slice t24a t24n t24c), (.slice t28a t28n t28c)]).run Tryz.prog w3 = .ok (.slice t29a t29n t29c) w4 ∧
                                    (∃ S_3 : World → Prop, (∀ w' : World, S_3 w' → S_2 w') ∧ S_3 w4 ∧
                                      (I t29a t29n t29c (IntKind.wrap .i64 (x4 + (1 : Int))) w4 ∧ μ t29a t29n t29c (IntKind.wrap .i64 (x4 + (1 : Int))) w4 < μ x3a x3n x3c x4 w1))))))))))))))))) ∧
      ((decide (x4 < ((a0n : Nat) : Int))) = false →
        (R (.returned (.slice x3a x3n x3c)) w1))))) : Calls Tryz.prog 105 #[(.slice a0a a0n a0c)] w R :=
  calls_of_ev (args := [(.slice a0a a0n a0c)])
    (tc := .seq (.reg (.op .p (.nil))) (.seq (.reg (.op .p (.nil))) (.seq (.seq (.reg (.op .p (.nil))) (.blk (.loop [2, 3, 4, 5, 6, 7, 8, 9, 10, 11, 12, 13, 14, 15, 16, 17, 18, 19, 20, 21, 22, 23, 24, 25, 26, 27, 28, 29] [3, 4] [.slice, .int .i64] (.seq (.seq (.reg (.op .p (.op .p (.op .p (.op .p (.nil)))))) (.cond (.leaf) (.leaf))) (.seq (.blk (.seq (.seq (.reg (.op .p (.op .p (.op .ix (.op (.ld (.slice)) (.op .p (.op .p (.nil)))))))) (.cond (.seq (.reg (.op .p (.nil))) (.leaf)) (.leaf))) (.drawS (.tk 0 .p (.tk 1 .p (.tk 2 .p (.tk 3 .ix (.tk 8 .p (.tk 9 .p (.tk 10 .ix (.ts 4 (.slice) (.tk 5 .p (.ts 11 (.slice) (.go 6 (.cl [.slice]) (.go 7 (.r (.slice)) (.go 12 (.r (.slice)) (.tk 13 .p (.nil))))))))))))))) []))) (.reg (.op .p (.op .p (.op .p (.nil)))))))))) (.seq (.reg (.op .p (.op .p (.nil)))) (.leaf)))))
    (by kernel_rfl) Tryz.func105 (by kernel_rfl) (by kernel_rfl) (by kernel_rfl) (by kernel_rfl) h

set_option maxRecDepth 100000 in
theorem amphoraref04_Frame_vc (a0 : Int) (a1a : Option Addr) (a1n : Nat) (a1c : Nat) (w : World) (R : Ending → World → Prop) (h :
  ((decide (((a1n : Nat) : Int) > (67108864 : Int))) = true →
    (R (.returned (.slice none 0 0)) w)) ∧
  ((decide (((a1n : Nat) : Int) > (67108864 : Int))) = false →
    (∃ (t9a : Option Addr) (t9n : Nat) (t9c : Nat) (w1 : World), (Instr.buildSlice 33 1 #[(0, (.int .u8 a0))]).run Tryz.prog w = .ok (.slice t9a t9n t9c) w1 ∧
      (∃ (t11a : Option Addr) (t11n : Nat) (t11c : Nat) (w2 : World), (Instr.buildSlice 23 1 #[(0, (.slice a1a a1n a1c))]).run Tryz.prog w1 = .ok (.slice t11a t11n t11c) w2 ∧
        (Calls Tryz.prog 105 #[(.slice t11a t11n t11c)] w2 fun (e12 : Ending) (w3 : World) => ∃ (t12a : Option Addr) (t12n : Nat) (t12c : Nat), e12 = .returned (.slice t12a t12n t12c) ∧
          (∃ (t13a : Option Addr) (t13n : Nat) (t13c : Nat) (w4 : World), (Builtin.append_ #[33, 33] 33 #[(.slice t9a t9n t9c), (.slice t12a t12n t12c)]).run Tryz.prog w3 = .ok (.slice t13a t13n t13c) w4 ∧
            (R (.returned (.slice t13a t13n t13c)) w4))))))) : Calls Tryz.prog 75 #[(.int .u8 a0), (.slice a1a a1n a1c)] w R :=
  calls_of_ev (args := [(.int .u8 a0), (.slice a1a a1n a1c)])
    (tc := .seq (.reg (.op .p (.nil))) (.seq (.seq (.reg (.op .p (.op .p (.op .p (.nil))))) (.cond (.seq (.reg (.op .p (.nil))) (.leaf)) (.leaf))) (.seq (.reg (.op .p (.op (.r (.slice)) (.op .p (.op (.r (.slice)) (.op (.cl [.slice]) (.op (.r (.slice)) (.op .p (.nil))))))))) (.leaf))))
    (by kernel_rfl) Tryz.func75 (by kernel_rfl) (by kernel_rfl) (by kernel_rfl) (by kernel_rfl) h

end Go.Proofs.YtmdandkoajocpaaGreatDoor
