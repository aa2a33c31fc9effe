/- Verification conditions of functions, printed by the session's own program vc.py: out of each, Calls (conditions: none). -/
import Derived.Test.YtefnlbgkfingfaaDoorRows
import Derived.Test.YtefnlbgkfingfaaDoorSxRun
namespace Go.Proofs.YtefnlbgkfingfaaDoor
open Go Go.Proofs.YtefnlbgkfingfaaDoor.Sx

set_option maxRecDepth 100000 in
theorem manifest_node_vc (a0 : Int) (a1a : Option Addr) (a1n : Nat) (a1c : Nat) (w : World) (R : Ending → World → Prop) (h :
  ∃ (t10a : Option Addr) (t10n : Nat) (t10c : Nat) (w1 : World), (Instr.buildSlice 23 1 #[(0, (.int .u8 (IntKind.wrap .u8 a0)))]).run Tryd.prog w = .ok (.slice t10a t10n t10c) w1 ∧
  (Calls Tryd.prog 44 #[(.int .i64 ((a1n : Nat) : Int))] w1 fun (e13 : Ending) (w2 : World) => ∃ (t13a : Option Addr) (t13n : Nat) (t13c : Nat), e13 = .returned (.slice t13a t13n t13c) ∧
    (∃ (t14a : Option Addr) (t14n : Nat) (t14c : Nat) (w3 : World), (Builtin.append_ #[23, 23] 23 #[(.slice t10a t10n t10c), (.slice t13a t13n t13c)]).run Tryd.prog w2 = .ok (.slice t14a t14n t14c) w3 ∧
      (∃ (I : Option Addr → Nat → Nat → Int → World → Prop) (μ : Option Addr → Nat → Nat → Int → World → Nat), I t14a t14n t14c 0 w3 ∧
        (∀ (x5a : Option Addr) (x5n : Nat) (x5c : Nat) (x17 : Int), ∀ w4 : World, I x5a x5n x5c x17 w4 →
          (((decide (x17 < ((a1n : Nat) : Int))) = true →
              (∃ (t19b t19o : Nat), a1a = some ⟨t19b, t19o, none⟩ ∧ 0 ≤ x17 ∧ x17 < ((a1n : Nat) : Int) ∧
                (∃ (t20 : Array Value), (Instr.loadAt 33 (.pointer (some ⟨t19b, t19o + Int.toNat x17 * 32, none⟩))).run Tryd.prog w4 = .ok (.agg t20) w4 ∧
                  (∃ (g7 : Nat) (w5 : World), (Instr.alloc 33 true (.tuple #[])).run Tryd.prog w4 = .ok (.pointer (some ⟨g7, 0, none⟩)) w5 ∧
                    (∃ w6 : World, (Instr.storeAt 33 (.pointer (some ⟨g7, 0, none⟩)) (.agg t20)).run Tryd.prog w5 = .ok () w6 ∧
                      (0 ≤ ((32 : Nat) : Int) ∧ ((32 : Nat) : Int) ≤ ((32 : Nat) : Int) ∧
                        (∃ (t23a : Option Addr) (t23n : Nat) (t23c : Nat) (w7 : World), (Builtin.append_ #[23, 23] 23 #[(.slice x5a x5n x5c), (.slice (some ⟨g7, 0, none⟩) (32) 32)]).run Tryd.prog w6 = .ok (.slice t23a t23n t23c) w7 ∧
                          (I t23a t23n t23c (IntKind.wrap .i64 (x17 + (1 : Int))) w7 ∧ μ t23a t23n t23c (IntKind.wrap .i64 (x17 + (1 : Int))) w7 < μ x5a x5n x5c x17 w4)))))))) ∧
            ((decide (x17 < ((a1n : Nat) : Int))) = false →
              (R (.returned (.slice x5a x5n x5c)) w4)))))))) : Calls Tryd.prog 30 #[(.int .i64 a0), (.slice a1a a1n a1c)] w R :=
  calls_of_ev (args := [(.int .i64 a0), (.slice a1a a1n a1c)])
    (tc := .seq (.reg (.op .p (.nil))) (.seq (.reg (.op .p (.op .p (.op (.r (.slice)) (.op .p (.op .p (.op (.cl [.slice]) (.op (.r (.slice)) (.op .p (.nil)))))))))) (.seq (.seq (.reg (.op .p (.op .p (.op .p (.nil))))) (.blk (.loop [5, 7, 17, 18, 19, 20, 21, 22, 23, 24] [5, 17] [.slice, .int .i64] (.seq (.reg (.op .p (.nil))) (.seq (.cond (.leaf) (.leaf)) (.seq (.blk (.seq (.reg (.op .ix (.op (.ld (.agg)) (.op .bx (.op .u (.nil)))))) (.reg (.op .p (.op .sl (.op (.r (.slice)) (.op .p (.nil)))))))) (.reg (.op .p (.op .p (.nil)))))))))) (.seq (.reg (.op .p (.op .p (.nil)))) (.leaf)))))
    (by kernel_rfl) Tryd.func30 (by kernel_rfl) (by kernel_rfl) (by kernel_rfl) (by kernel_rfl) h

set_option maxRecDepth 100000 in
theorem manifest_Parse_vc (a0a : Option Addr) (a0n : Nat) (a0c : Nat) (w : World) (R : Ending → World → Prop) (h :
  Calls Tryd.prog 33 #[(.slice a0a a0n a0c)] w fun (e11 : Ending) (w1 : World) => ∃ (t11b : Nat) (t11o : Nat), e11 = .returned (.pointer (some ⟨t11b, t11o, none⟩)) ∧
  (Calls Tryd.prog 34 #[(.pointer (some ⟨t11b, t11o, none⟩)), (.int .i64 1)] w1 fun (e13 : Ending) (w2 : World) => ∃ (t13a : Option Addr) (t13n : Nat) (t13c : Nat), e13 = .returned (.slice t13a t13n t13c) ∧
    (Calls Tryd.prog 35 #[(.pointer (some ⟨t11b, t11o, none⟩))] w2 fun (e15 : Ending) (w3 : World) => ∃ (t15 : Int), e15 = .returned (.int .i64 t15) ∧
      (∃ J : Bool → World → Prop, (Calls Tryd.prog 36 #[(.pointer (some ⟨t11b, t11o, none⟩))] w3 fun (e17 : Ending) (w4 : World) => ∃ (t17 : Value), e17 = .returned t17 ∧
          (∃ (t18 : Bool), (eqlS .neq 35 (.tmp 17) (.const .nilIface) t17 .nilIface).run Tryd.prog w4 = .ok (.bool t18) w4 ∧
            ((t18 = true →
                (J true w4)) ∧
              (t18 = false →
                (∃ (t21b t21o : Nat), t13a = some ⟨t21b, t21o, none⟩ ∧ 0 ≤ (0 : Int) ∧ (0 : Int) < ((t13n : Nat) : Int) ∧
                  (∃ (t22 : Int), (Instr.loadAt 5 (.pointer (some ⟨t21b, t21o + Int.toNat (0 : Int) * 1, none⟩))).run Tryd.prog w4 = .ok (.int .u8 t22) w4 ∧
                    ((((decide (t22 > (3 : Int))) || (decide (t15 > (16 : Int)))) = true →
                        (J true w4)) ∧
                      (((decide (t22 > (3 : Int))) || (decide (t15 > (16 : Int)))) = false →
                        (((t15 == (0 : Int)) = true →
                            (∃ (t34b t34o : Nat), t13a = some ⟨t34b, t34o, none⟩ ∧ 0 ≤ (0 : Int) ∧ (0 : Int) < ((t13n : Nat) : Int) ∧
                              (∃ (t35 : Int), (Instr.loadAt 5 (.pointer (some ⟨t34b, t34o + Int.toNat (0 : Int) * 1, none⟩))).run Tryd.prog w4 = .ok (.int .u8 t35) w4 ∧
                                (J (decide (t35 > (0 : Int))) w4)))) ∧
                          ((t15 == (0 : Int)) = false →
                            (J false w4))))))))))) ∧
        (∀ (x38 : Bool), ∀ w5 : World, J x38 w5 →
          ((x38 = true →
              (R (.returned (.tuple #[(.int .i64 0), (.slice none 0 0), (.iface 65 (.int .i64 9))])) w5)) ∧
            (x38 = false →
              (∃ (I : Option Addr → Nat → Nat → Int → World → Prop) (μ : Option Addr → Nat → Nat → Int → World → Nat), I none 0 0 0 w5 ∧
                (∀ (x8a : Option Addr) (x8n : Nat) (x8c : Nat) (x41 : Int), ∀ w6 : World, I x8a x8n x8c x41 w6 →
                  (((decide (x41 < t15)) = true →
                      (∃ (g9 : Nat) (w7 : World), (Instr.alloc 33 true (.tuple #[])).run Tryd.prog w6 = .ok (.pointer (some ⟨g9, 0, none⟩)) w7 ∧
                        (0 ≤ ((32 : Nat) : Int) ∧ ((32 : Nat) : Int) ≤ ((32 : Nat) : Int) ∧
                          (Calls Tryd.prog 34 #[(.pointer (some ⟨t11b, t11o, none⟩)), (.int .i64 32)] w7.drew fun (e45 : Ending) (w8 : World) => ∃ (t45a : Option Addr) (t45n : Nat) (t45c : Nat), e45 = .returned (.slice t45a t45n t45c) ∧
                            (∃ (t46 : Int) (w9 : World), (Builtin.copy_ #[23, 23] 3 #[(.slice (some ⟨g9, 0, none⟩) (32) 32), (.slice t45a t45n t45c)]).run Tryd.prog w8 = .ok (.int .i64 t46) w9 ∧
                              (∃ (t48 : Array Value), (Instr.loadAt 33 (.pointer (some ⟨g9, 0, none⟩))).run Tryd.prog w9 = .ok (.agg t48) w9 ∧
                                (∃ (t49a : Option Addr) (t49n : Nat) (t49c : Nat) (w10 : World), (Instr.buildSlice 30 1 #[(0, (.agg t48))]).run Tryd.prog w9 = .ok (.slice t49a t49n t49c) w10 ∧
                                  (∃ (t50a : Option Addr) (t50n : Nat) (t50c : Nat) (w11 : World), (Builtin.append_ #[30, 30] 30 #[(.slice x8a x8n x8c), (.slice t49a t49n t49c)]).run Tryd.prog w10 = .ok (.slice t50a t50n t50c) w11 ∧
                                    (I t50a t50n t50c (IntKind.wrap .i64 (x41 + (1 : Int))) w11 ∧ μ t50a t50n t50c (IntKind.wrap .i64 (x41 + (1 : Int))) w11 < μ x8a x8n x8c x41 w6))))))))) ∧
                    ((decide (x41 < t15)) = false →
                      (Calls Tryd.prog 37 #[(.pointer (some ⟨t11b, t11o, none⟩))] w6 fun (e53 : Ending) (w12 : World) => ∃ (t53 : Value), e53 = .returned t53 ∧
                        (∃ (t54 : Bool), (eqlS .neq 35 (.tmp 53) (.const .nilIface) t53 .nilIface).run Tryd.prog w12 = .ok (.bool t54) w12 ∧
                          ((t54 = true →
                              (R (.returned (.tuple #[(.int .i64 0), (.slice none 0 0), (.iface 65 (.int .i64 9))])) w12)) ∧
                            (t54 = false →
                              (∃ (t57b t57o : Nat), t13a = some ⟨t57b, t57o, none⟩ ∧ 0 ≤ (0 : Int) ∧ (0 : Int) < ((t13n : Nat) : Int) ∧
                                (∃ (t58 : Int), (Instr.loadAt 5 (.pointer (some ⟨t57b, t57o + Int.toNat (0 : Int) * 1, none⟩))).run Tryd.prog w12 = .ok (.int .u8 t58) w12 ∧
                                  (R (.returned (.tuple #[(.int .i64 (IntKind.wrap .i64 t58)), (.slice x8a x8n x8c), .nilIface])) w12)))))))))))))))))) : Calls Tryd.prog 22 #[(.slice a0a a0n a0c)] w R :=
  calls_of_ev (args := [(.slice a0a a0n a0c)])
    (tc := .seq (.reg (.op .p (.op .p (.op .p (.nil))))) (.seq (.reg (.op .p (.op (.cl [.ptr]) (.op .p (.nil))))) (.seq (.reg (.op .p (.op (.cl [.slice]) (.op .p (.nil))))) (.seq (.reg (.op .p (.op (.cl [.int .i64]) (.op .p (.nil))))) (.seq (.seq (.join [16, 17, 18, 19, 20, 21, 22, 23, 24, 25, 26, 27, 28, 29, 30, 31, 32, 33, 34, 35, 36, 37, 38] [38] [.bool] (.reg (.op .p (.op (.cl [.val]) (.op (.ld (.bool)) (.op .p (.sp 19 (.op .p (.op .p (.op .p (.op .p (.op .p (.op .p (.op .p (.op .p (.op .p (.op .p (.op .p (.op .p (.op .p (.op .p (.op .p (.op .p (.op .p (.op .p (.op .p (.nil)))))))))))))))))))) (.op .p (.op .ix (.op (.ld (.int .u8)) (.op .p (.op .p (.op .p (.ap 2 (.op .p (.sp 29 (.op .p (.op .p (.op .p (.op .p (.op .p (.op .p (.op .p (.op .p (.op .p (.nil)))))))))) (.op .p (.op .p (.op .p (.sp 32 (.op .p (.op .ix (.op (.ld (.int .u8)) (.op .p (.op .p (.op .p (.nil))))))) (.op .p (.op .p (.op .p (.op .p (.op .p (.op .p (.nil))))))))))))))))))))))))))) (.cond (.seq (.reg (.op .p (.op .p (.op .p (.op .p (.nil)))))) (.leaf)) (.leaf))) (.seq (.reg (.op .p (.nil))) (.seq (.seq (.reg (.op .p (.op .p (.nil)))) (.blk (.loop [8, 9, 41, 42, 43, 44, 45, 46, 47, 48, 49, 50, 51] [8, 41] [.slice, .int .i64] (.seq (.reg (.op .p (.nil))) (.seq (.cond (.leaf) (.leaf)) (.seq (.blk (.seq (.reg (.op .bx (.nil))) (.seq (.draw (.tk 0 .sl (.tk 1 .p (.go 2 (.cl [.slice]) (.go 3 (.r (.int .i64)) (.nil))))) [0, 1, 2, 3]) (.reg (.op .p (.op (.ld (.agg)) (.op (.r (.slice)) (.op (.r (.slice)) (.op .p (.nil)))))))))) (.reg (.op .p (.op .p (.nil)))))))))) (.seq (.seq (.reg (.op .p (.op (.cl [.val]) (.op (.ld (.bool)) (.nil))))) (.cond (.seq (.reg (.op .p (.op .p (.op .p (.op .p (.nil)))))) (.leaf)) (.leaf))) (.seq (.reg (.op .p (.op .ix (.op (.ld (.int .u8)) (.op .p (.op .p (.op .p (.op .p (.op .p (.nil)))))))))) (.leaf))))))))))
    (by kernel_rfl) Tryd.func22 (by kernel_rfl) (by kernel_rfl) (by kernel_rfl) (by kernel_rfl) h

set_option maxRecDepth 100000 in
theorem manifest_Join_vc (a0 : Int) (a1a : Option Addr) (a1n : Nat) (a1c : Nat) (w : World) (R : Ending → World → Prop) (h :
  ∃ (I : Option Addr → Nat → Nat → Int → World → Prop) (μ : Option Addr → Nat → Nat → Int → World → Nat), I none 0 0 0 w ∧
  (∀ (x6a : Option Addr) (x6n : Nat) (x6c : Nat) (x14 : Int), ∀ w1 : World, I x6a x6n x6c x14 w1 →
    (((decide (x14 < ((a1n : Nat) : Int))) = true →
        (∃ (t16b t16o : Nat), a1a = some ⟨t16b, t16o, none⟩ ∧ 0 ≤ x14 ∧ x14 < ((a1n : Nat) : Int) ∧
          (∃ (t17a : Option Addr) (t17n : Nat) (t17c : Nat), (Instr.loadAt 23 (.pointer (some ⟨t16b, t16o + Int.toNat x14 * 1, none⟩))).run Tryd.prog w1 = .ok (.slice t17a t17n t17c) w1 ∧
            (Calls Tryd.prog 22 #[(.slice t17a t17n t17c)] w1 fun (e20 : Ending) (w2 : World) => ∃ (t20_0 : Int) (t20_1a : Option Addr) (t20_1n : Nat) (t20_1c : Nat) (t20_2 : Value), e20 = .returned (.tuple #[(.int .i64 t20_0), (.slice t20_1a t20_1n t20_1c), t20_2]) ∧
              (∃ (t25 : Bool), (eqlS .neq 35 (.tmp 24) (.const .nilIface) t20_2 .nilIface).run Tryd.prog w2 = .ok (.bool t25) w2 ∧
                (((t25 || (t20_0 != a0)) = true →
                    (R (.returned (.tuple #[(.slice none 0 0), (.iface 65 (.int .i64 9))])) w2)) ∧
                  ((t25 || (t20_0 != a0)) = false →
                    (∃ (t34a : Option Addr) (t34n : Nat) (t34c : Nat) (w3 : World), (Builtin.append_ #[30, 30] 30 #[(.slice x6a x6n x6c), (.slice t20_1a t20_1n t20_1c)]).run Tryd.prog w2 = .ok (.slice t34a t34n t34c) w3 ∧
                      (I t34a t34n t34c (IntKind.wrap .i64 (x14 + (1 : Int))) w3 ∧ μ t34a t34n t34c (IntKind.wrap .i64 (x14 + (1 : Int))) w3 < μ x6a x6n x6c x14 w1))))))))) ∧
      ((decide (x14 < ((a1n : Nat) : Int))) = false →
        (R (.returned (.tuple #[(.slice x6a x6n x6c), .nilIface])) w1))))) : Calls Tryd.prog 24 #[(.int .i64 a0), (.slice a1a a1n a1c)] w R :=
  calls_of_ev (args := [(.int .i64 a0), (.slice a1a a1n a1c)])
    (tc := .seq (.reg (.op .p (.op .p (.nil)))) (.seq (.reg (.op .p (.nil))) (.seq (.seq (.reg (.op .p (.op .p (.op .p (.nil))))) (.blk (.loop [4, 5, 6, 8, 9, 10, 11, 14, 15, 16, 17, 18, 19, 20, 21, 22, 23, 24, 25, 26, 27, 28, 29, 30, 31, 32, 33, 34, 35] [6, 14] [.slice, .int .i64] (.seq (.reg (.op .p (.nil))) (.seq (.cond (.leaf) (.leaf)) (.seq (.blk (.seq (.reg (.op .ix (.op (.ld (.slice)) (.op .p (.nil))))) (.seq (.reg (.op .p (.op (.cl [.int .i64, .slice, .val]) (.op .p (.op .p (.op .p (.op .p (.op .p (.op .p (.op .p (.nil))))))))))) (.seq (.seq (.reg (.op .p (.op (.ld (.bool)) (.op .p (.ap 3 (.nil)))))) (.cond (.seq (.reg (.op .p (.op .p (.op .p (.nil))))) (.leaf)) (.leaf))) (.reg (.op .p (.op .p (.op (.r (.slice)) (.op .p (.nil)))))))))) (.reg (.op .p (.op .p (.nil)))))))))) (.seq (.reg (.op .p (.op .p (.op .p (.nil))))) (.leaf)))))
    (by kernel_rfl) Tryd.func24 (by kernel_rfl) (by kernel_rfl) (by kernel_rfl) (by kernel_rfl) h

set_option maxRecDepth 100000 in
theorem manifest_Count_vc (a0 : Int) (w : World) (R : Ending → World → Prop) (h :
  (((decide (a0 < (0 : Int))) || (decide (a0 > (65536 : Int)))) = true →
    (R (.returned (.tuple #[(.int .i64 0), (.int .i64 0)])) w)) ∧
  (((decide (a0 < (0 : Int))) || (decide (a0 > (65536 : Int)))) = false →
    (∃ (I : Int → Int → Int → World → Prop) (μ : Int → Int → Int → World → Nat), I (if a0 < (1 : Int) then (1 : Int) else a0) 0 0 w ∧
      (∀ (x0 : Int) (x4 : Int) (x5 : Int), ∀ w1 : World, I x0 x4 x5 w1 →
        ((((IntKind.wrap .i64 (Int.tdiv (IntKind.wrap .i64 ((IntKind.wrap .i64 (x0 + (16 : Int))) - (1 : Int))) (16 : Int))) == (1 : Int)) = true →
            (R (.returned (.tuple #[(.int .i64 (IntKind.wrap .i64 (x4 + (IntKind.wrap .i64 (Int.tdiv (IntKind.wrap .i64 ((IntKind.wrap .i64 (x0 + (16 : Int))) - (1 : Int))) (16 : Int)))))), (.int .i64 (IntKind.wrap .i64 (x5 + (1 : Int))))])) w1)) ∧
          (((IntKind.wrap .i64 (Int.tdiv (IntKind.wrap .i64 ((IntKind.wrap .i64 (x0 + (16 : Int))) - (1 : Int))) (16 : Int))) == (1 : Int)) = false →
            (I (IntKind.wrap .i64 (Int.tdiv (IntKind.wrap .i64 ((IntKind.wrap .i64 (x0 + (16 : Int))) - (1 : Int))) (16 : Int))) (IntKind.wrap .i64 (x4 + (IntKind.wrap .i64 (Int.tdiv (IntKind.wrap .i64 ((IntKind.wrap .i64 (x0 + (16 : Int))) - (1 : Int))) (16 : Int))))) (IntKind.wrap .i64 (x5 + (1 : Int))) w1 ∧ μ (IntKind.wrap .i64 (Int.tdiv (IntKind.wrap .i64 ((IntKind.wrap .i64 (x0 + (16 : Int))) - (1 : Int))) (16 : Int))) (IntKind.wrap .i64 (x4 + (IntKind.wrap .i64 (Int.tdiv (IntKind.wrap .i64 ((IntKind.wrap .i64 (x0 + (16 : Int))) - (1 : Int))) (16 : Int))))) (IntKind.wrap .i64 (x5 + (1 : Int))) w1 < μ x0 x4 x5 w1))))))) : Calls Tryd.prog 18 #[(.int .i64 a0)] w R :=
  calls_of_ev (args := [(.int .i64 a0)])
    (tc := .seq (.reg (.op .p (.op .p (.nil)))) (.seq (.seq (.reg (.op .p (.op .p (.op .p (.ap 2 (.nil)))))) (.cond (.seq (.reg (.op .p (.op .p (.nil)))) (.leaf)) (.leaf))) (.seq (.reg (.op .p (.op .p (.nil)))) (.seq (.reg (.op .p (.op .p (.op .p (.nil))))) (.blk (.loop [0, 2, 3, 4, 5, 14, 15, 16, 17, 18, 19, 20, 21, 22, 23, 24, 25, 26] [0, 4, 5] [.int .i64, .int .i64, .int .i64] (.blk (.seq (.reg (.op .p (.op .p (.op .p (.op .p (.op .p (.nil))))))) (.seq (.reg (.op .p (.op .p (.op .p (.op .p (.nil)))))) (.seq (.reg (.op .p (.op .p (.op .p (.nil))))) (.seq (.reg (.op .p (.op .p (.nil)))) (.cond (.seq (.reg (.op .p (.op .p (.op .p (.op .p (.nil)))))) (.leaf)) (.leaf)))))))))))))
    (by kernel_rfl) Tryd.func18 (by kernel_rfl) (by kernel_rfl) (by kernel_rfl) (by kernel_rfl) h

set_option maxRecDepth 100000 in
theorem amphoraref15_Node_vc (a0 : Int) (a1a : Option Addr) (a1n : Nat) (a1c : Nat) (w : World) (R : Ending → World → Prop) (h :
  ∃ (t9a : Option Addr) (t9n : Nat) (t9c : Nat) (w1 : World), (Instr.buildSlice 23 1 #[(0, (.int .u8 (IntKind.wrap .u8 a0)))]).run Tryd.prog w = .ok (.slice t9a t9n t9c) w1 ∧
  (Calls Tryd.prog 45 #[(.int .i64 ((a1n : Nat) : Int))] w1 fun (e12 : Ending) (w2 : World) => ∃ (t12a : Option Addr) (t12n : Nat) (t12c : Nat), e12 = .returned (.slice t12a t12n t12c) ∧
    (∃ (t13a : Option Addr) (t13n : Nat) (t13c : Nat) (w3 : World), (Builtin.append_ #[23, 23] 23 #[(.slice t9a t9n t9c), (.slice t12a t12n t12c)]).run Tryd.prog w2 = .ok (.slice t13a t13n t13c) w3 ∧
      (∃ (I : Option Addr → Nat → Nat → Int → World → Prop) (μ : Option Addr → Nat → Nat → Int → World → Nat), I t13a t13n t13c 0 w3 ∧
        (∀ (x5a : Option Addr) (x5n : Nat) (x5c : Nat) (x6 : Int), ∀ w4 : World, I x5a x5n x5c x6 w4 →
          (((decide (x6 < ((a1n : Nat) : Int))) = true →
              (∃ (t23b t23o : Nat), a1a = some ⟨t23b, t23o, none⟩ ∧ 0 ≤ x6 ∧ x6 < ((a1n : Nat) : Int) ∧
                (0 ≤ ((32 : Nat) : Int) ∧ ((32 : Nat) : Int) ≤ ((32 : Nat) : Int) ∧
                  (∃ (t25a : Option Addr) (t25n : Nat) (t25c : Nat) (w5 : World), (Builtin.append_ #[23, 23] 23 #[(.slice x5a x5n x5c), (.slice (some ⟨t23b, t23o + Int.toNat x6 * 32, none⟩) (32) 32)]).run Tryd.prog w4 = .ok (.slice t25a t25n t25c) w5 ∧
                    (I t25a t25n t25c (IntKind.wrap .i64 (x6 + (1 : Int))) w5 ∧ μ t25a t25n t25c (IntKind.wrap .i64 (x6 + (1 : Int))) w5 < μ x5a x5n x5c x6 w4))))) ∧
            ((decide (x6 < ((a1n : Nat) : Int))) = false →
              (R (.returned (.slice x5a x5n x5c)) w4)))))))) : Calls Tryd.prog 32 #[(.int .i64 a0), (.slice a1a a1n a1c)] w R :=
  calls_of_ev (args := [(.int .i64 a0), (.slice a1a a1n a1c)])
    (tc := .seq (.reg (.op .p (.nil))) (.seq (.reg (.op .p (.op .p (.op (.r (.slice)) (.op .p (.op .p (.op (.cl [.slice]) (.op (.r (.slice)) (.op .p (.nil)))))))))) (.seq (.seq (.reg (.op .p (.nil))) (.blk (.loop [5, 6, 14, 15, 16, 17, 18, 19, 20, 21, 22, 23, 24, 25] [5, 6] [.slice, .int .i64] (.seq (.seq (.reg (.op .p (.op .p (.op .p (.op .p (.nil)))))) (.cond (.leaf) (.leaf))) (.seq (.blk (.reg (.op .p (.op .p (.op .p (.op .ix (.op .sl (.op (.r (.slice)) (.op .p (.nil)))))))))) (.reg (.op .p (.op .p (.op .p (.nil)))))))))) (.seq (.reg (.op .p (.op .p (.nil)))) (.leaf)))))
    (by kernel_rfl) Tryd.func32 (by kernel_rfl) (by kernel_rfl) (by kernel_rfl) (by kernel_rfl) h

set_option maxRecDepth 100000 in
theorem amphoraref15_level_vc (a0 : Int) (a1a : Option Addr) (a1n : Nat) (a1c : Nat) (w : World) (R : Ending → World → Prop) (h :
  ∃ (I : Option Addr → Nat → Nat → Option Addr → Nat → Nat → World → Prop) (μ : Option Addr → Nat → Nat → Option Addr → Nat → Nat → World → Nat), I a1a a1n a1c none 0 0 w ∧
  (∀ (x1a : Option Addr) (x1n : Nat) (x1c : Nat) (x5a : Option Addr) (x5n : Nat) (x5c : Nat), ∀ w1 : World, I x1a x1n x1c x5a x5n x5c w1 →
    (((decide (((x1n : Nat) : Int) > (16 : Int))) = true →
        (0 ≤ (16 : Int) ∧ (16 : Int) ≤ ((x1c : Nat) : Int) ∧
          (Calls Tryd.prog 32 #[(.int .i64 a0), (.slice x1a 16 x1c)] w1 fun (e13 : Ending) (w2 : World) => ∃ (t13a : Option Addr) (t13n : Nat) (t13c : Nat), e13 = .returned (.slice t13a t13n t13c) ∧
            (∃ (t14a : Option Addr) (t14n : Nat) (t14c : Nat) (w3 : World), (Instr.buildSlice 32 1 #[(0, (.slice t13a t13n t13c))]).run Tryd.prog w2 = .ok (.slice t14a t14n t14c) w3 ∧
              (∃ (t15a : Option Addr) (t15n : Nat) (t15c : Nat) (w4 : World), (Builtin.append_ #[32, 32] 32 #[(.slice x5a x5n x5c), (.slice t14a t14n t14c)]).run Tryd.prog w3 = .ok (.slice t15a t15n t15c) w4 ∧
                (0 ≤ (16 : Int) ∧ (16 : Int) ≤ ((x1n : Nat) : Int) ∧ ((x1n : Nat) : Int) ≤ ((x1c : Nat) : Int) ∧ ∀ t17a : Option Addr, SubA 32 x1a 16 x1c t17a →
                  (I t17a ((x1n) - 16) (x1c - 16) t15a t15n t15c w4 ∧ μ t17a ((x1n) - 16) (x1c - 16) t15a t15n t15c w4 < μ x1a x1n x1c x5a x5n x5c w1))))))) ∧
      ((decide (((x1n : Nat) : Int) > (16 : Int))) = false →
        (Calls Tryd.prog 32 #[(.int .i64 a0), (.slice x1a x1n x1c)] w1 fun (e21 : Ending) (w5 : World) => ∃ (t21a : Option Addr) (t21n : Nat) (t21c : Nat), e21 = .returned (.slice t21a t21n t21c) ∧
          (∃ (t22a : Option Addr) (t22n : Nat) (t22c : Nat) (w6 : World), (Instr.buildSlice 32 1 #[(0, (.slice t21a t21n t21c))]).run Tryd.prog w5 = .ok (.slice t22a t22n t22c) w6 ∧
            (∃ (t23a : Option Addr) (t23n : Nat) (t23c : Nat) (w7 : World), (Builtin.append_ #[32, 32] 32 #[(.slice x5a x5n x5c), (.slice t22a t22n t22c)]).run Tryd.prog w6 = .ok (.slice t23a t23n t23c) w7 ∧
              (R (.returned (.slice t23a t23n t23c)) w7)))))))) : Calls Tryd.prog 31 #[(.int .i64 a0), (.slice a1a a1n a1c)] w R :=
  calls_of_ev (args := [(.int .i64 a0), (.slice a1a a1n a1c)])
    (tc := .seq (.reg (.op .p (.nil))) (.seq (.reg (.op .p (.nil))) (.seq (.blk (.loop [1, 5, 6, 7, 8, 9, 10, 11, 12, 13, 14, 15, 16, 17] [1, 5] [.slice, .slice] (.seq (.seq (.reg (.op .p (.op .p (.op .p (.nil))))) (.cond (.leaf) (.leaf))) (.blk (.seq (.reg (.op .p (.op .p (.op .p (.op .sl (.op (.cl [.slice]) (.op (.r (.slice)) (.op (.r (.slice)) (.op .p (.nil)))))))))) (.reg (.op .p (.op .sl (.op .p (.nil)))))))))) (.seq (.reg (.op .p (.op .p (.op .p (.op (.cl [.slice]) (.op (.r (.slice)) (.op (.r (.slice)) (.op .p (.nil))))))))) (.leaf)))))
    (by kernel_rfl) Tryd.func31 (by kernel_rfl) (by kernel_rfl) (by kernel_rfl) (by kernel_rfl) h

set_option maxRecDepth 100000 in
theorem amphoraref15_Build_vc (a0 : Array Value) (a1a : Option Addr) (a1n : Nat) (a1c : Nat) (w : World) (R : Ending → World → Prop) (h :
  ∃ (g2 : Nat) (w1 : World), (Instr.box 28 (.agg a0)).run Tryd.prog w = .ok (.pointer (some ⟨g2, 0, none⟩)) w1 ∧
  (∃ (g5 : Nat) (w2 : World), (Instr.alloc 33 true (.tuple #[])).run Tryd.prog w1 = .ok (.pointer (some ⟨g5, 0, none⟩)) w2 ∧
    (((decide (((a1n : Nat) : Int) > (65536 : Int))) = true →
        (∃ (t14 : Array Value), (Instr.build 33 #[]).run Tryd.prog w2 = .ok (.agg t14) w2 ∧
          (∃ w3 : World, (Instr.storeAt 33 (.pointer (some ⟨g5, 0, none⟩)) (.agg t14)).run Tryd.prog w2 = .ok () w3 ∧
            (∃ r5 : Value, (loadVar 33 ⟨g5, 0, none⟩).run Tryd.prog w3 = .ok r5 w3 ∧
              (R (.returned (.tuple #[(.slice none 0 0), r5, (.int .i64 19)])) w3))))) ∧
      ((decide (((a1n : Nat) : Int) > (65536 : Int))) = false →
        (∃ (I : Option Addr → Nat → Nat → Option Addr → Nat → Nat → Int → World → Prop) (μ : Option Addr → Nat → Nat → Option Addr → Nat → Nat → Int → World → Nat), I a1a a1n a1c none 0 0 0 w2 ∧
          (∀ (x1a : Option Addr) (x1n : Nat) (x1c : Nat) (x7a : Option Addr) (x7n : Nat) (x7c : Nat) (x8 : Int), ∀ w4 : World, I x1a x1n x1c x7a x7n x7c x8 w4 →
            (((decide (x8 ≤ (4 : Int))) = true →
                (Calls Tryd.prog 31 #[(.int .i64 x8), (.slice x1a x1n x1c)] w4 fun (e21 : Ending) (w5 : World) => ∃ (t21a : Option Addr) (t21n : Nat) (t21c : Nat), e21 = .returned (.slice t21a t21n t21c) ∧
                  (∃ (t24a : Option Addr) (t24n : Nat) (t24c : Nat) (w6 : World), (Builtin.append_ #[32, 32] 32 #[(.slice x7a x7n x7c), (.slice t21a t21n t21c)]).run Tryd.prog w5 = .ok (.slice t24a t24n t24c) w6 ∧
                    (∃ (I_1 : Option Addr → Nat → Nat → Int → World → Prop) (μ_1 : Option Addr → Nat → Nat → Int → World → Nat), I_1 none 0 0 0 w6 ∧
                      (∀ (x1a_1 : Option Addr) (x1n_1 : Nat) (x1c_1 : Nat) (x10 : Int), ∀ w7 : World, I_1 x1a_1 x1n_1 x1c_1 x10 w7 →
                        (((decide (x10 < ((t21n : Nat) : Int))) = true →
                            (∃ S : World → Prop, S w7.drew ∧
                              (∃ (t35b t35o : Nat), t21a = some ⟨t35b, t35o, none⟩ ∧ 0 ≤ x10 ∧ x10 < ((t21n : Nat) : Int) ∧
                                (∃ (t32 : Array Value), (∀ w' : World, S w' → (Instr.loadAt 28 (.pointer (some ⟨g2, 0, none⟩))).run Tryd.prog w' = .ok (.agg t32) w') ∧
                                  (∃ (t36a : Option Addr) (t36n : Nat) (t36c : Nat), (∀ w' : World, S w' → (Instr.loadAt 23 (.pointer (some ⟨t35b, t35o + Int.toNat x10 * 1, none⟩))).run Tryd.prog w' = .ok (.slice t36a t36n t36c) w') ∧
                                    (Calls Tryd.prog 27 #[(.agg t32), (.slice t36a t36n t36c)] w7.drew fun (e37 : Ending) (w8 : World) => ∃ (t37 : Array Value), e37 = .returned (.agg t37) ∧
                                      (∃ S_1 : World → Prop, (∀ w' : World, S_1 w' → S w') ∧ S_1 w8 ∧
                                        (∃ (t38a : Option Addr) (t38n : Nat) (t38c : Nat) (w9 : World), (Instr.buildSlice 30 1 #[(0, (.agg t37))]).run Tryd.prog w8 = .ok (.slice t38a t38n t38c) w9 ∧
                                          (∃ S_2 : World → Prop, (∀ w' : World, S_2 w' → S_1 w') ∧ S_2 w9 ∧
                                            (∃ (t39a : Option Addr) (t39n : Nat) (t39c : Nat) (w10 : World), (Builtin.append_ #[30, 30] 30 #[(.slice x1a_1 x1n_1 x1c_1), (.slice t38a t38n t38c)]).run Tryd.prog w9 = .ok (.slice t39a t39n t39c) w10 ∧
                                              (∃ S_3 : World → Prop, (∀ w' : World, S_3 w' → S_2 w') ∧ S_3 w10 ∧
                                                (I_1 t39a t39n t39c (IntKind.wrap .i64 (x10 + (1 : Int))) w10 ∧ μ_1 t39a t39n t39c (IntKind.wrap .i64 (x10 + (1 : Int))) w10 < μ_1 x1a_1 x1n_1 x1c_1 x10 w7)))))))))))) ∧
                          ((decide (x10 < ((t21n : Nat) : Int))) = false →
                            (((((x1n_1 : Nat) : Int) == (1 : Int)) = true →
                                (∃ S : World → Prop, S w7.drew ∧
                                  (∃ (t45b t45o : Nat), x1a_1 = some ⟨t45b, t45o, none⟩ ∧ 0 ≤ (0 : Int) ∧ (0 : Int) < ((x1n_1 : Nat) : Int) ∧
                                    (∃ (t46 : Array Value), (∀ w' : World, S w' → (Instr.loadAt 33 (.pointer (some ⟨t45b, t45o + Int.toNat (0 : Int) * 32, none⟩))).run Tryd.prog w' = .ok (.agg t46) w') ∧
                                      (∃ w11 : World, (Instr.storeAt 33 (.pointer (some ⟨g5, 0, none⟩)) (.agg t46)).run Tryd.prog w7.drew = .ok () w11 ∧
                                        (∃ r5 : Value, (loadVar 33 ⟨g5, 0, none⟩).run Tryd.prog w11 = .ok r5 w11 ∧
                                          (R (.returned (.tuple #[(.slice t24a t24n t24c), r5, (.int .i64 0)])) w11))))))) ∧
                              ((((x1n_1 : Nat) : Int) == (1 : Int)) = false →
                                (I x1a_1 x1n_1 x1c_1 t24a t24n t24c (IntKind.wrap .i64 (x8 + (1 : Int))) w7 ∧ μ x1a_1 x1n_1 x1c_1 t24a t24n t24c (IntKind.wrap .i64 (x8 + (1 : Int))) w7 < μ x1a x1n x1c x7a x7n x7c x8 w4)))))))))) ∧
              ((decide (x8 ≤ (4 : Int))) = false →
                (∃ S : World → Prop, S w4.drew ∧
                  (∃ (t45b t45o : Nat), x1a = some ⟨t45b, t45o, none⟩ ∧ 0 ≤ (0 : Int) ∧ (0 : Int) < ((x1n : Nat) : Int) ∧
                    (∃ (t46 : Array Value), (∀ w' : World, S w' → (Instr.loadAt 33 (.pointer (some ⟨t45b, t45o + Int.toNat (0 : Int) * 32, none⟩))).run Tryd.prog w' = .ok (.agg t46) w') ∧
                      (∃ w12 : World, (Instr.storeAt 33 (.pointer (some ⟨g5, 0, none⟩)) (.agg t46)).run Tryd.prog w4.drew = .ok () w12 ∧
                        (∃ r5 : Value, (loadVar 33 ⟨g5, 0, none⟩).run Tryd.prog w12 = .ok r5 w12 ∧
                          (R (.returned (.tuple #[(.slice x7a x7n x7c), r5, (.int .i64 0)])) w12)))))))))))))) : Calls Tryd.prog 13 #[(.agg a0), (.slice a1a a1n a1c)] w R :=
  calls_of_ev (args := [(.agg a0), (.slice a1a a1n a1c)])
    (tc := .seq (.reg (.op .bx (.op .p (.op .bx (.op .p (.nil)))))) (.seq (.seq (.reg (.op .p (.op .p (.op .p (.nil))))) (.cond (.seq (.reg (.op (.ld (.agg)) (.op .p (.op .u (.op .p (.nil)))))) (.leaf)) (.leaf))) (.seq (.reg (.op .p (.nil))) (.seq (.seq (.reg (.op .p (.nil))) (.blk (.loop [1, 7, 8, 9, 10, 15, 16, 17, 18, 19, 20, 21, 22, 23, 24, 25, 26, 27, 28, 29, 30, 31, 32, 33, 34, 35, 36, 37, 38, 39, 40, 41, 42] [1, 7, 8] [.slice, .slice, .int .i64] (.seq (.seq (.reg (.op .p (.op .p (.nil)))) (.cond (.leaf) (.leaf))) (.seq (.blk (.seq (.reg (.op .p (.op .p (.op (.cl [.slice]) (.op .p (.nil)))))) (.seq (.reg (.op .p (.op .p (.op (.r (.slice)) (.op .p (.nil)))))) (.seq (.reg (.op .p (.nil))) (.seq (.seq (.reg (.op .p (.nil))) (.blk (.loop [1, 10, 25, 26, 27, 28, 29, 30, 31, 32, 33, 34, 35, 36, 37, 38, 39] [1, 10] [.slice, .int .i64] (.seq (.seq (.reg (.op .p (.op .p (.op .p (.op .p (.nil)))))) (.cond (.leaf) (.leaf))) (.seq (.blk (.drawS (.tk 0 .p (.tk 2 .p (.tk 3 .p (.tk 4 .ix (.ts 1 (.agg) (.ts 5 (.slice) (.go 6 (.cl [.agg]) (.go 7 (.r (.slice)) (.go 8 (.r (.slice)) (.tk 9 .p (.nil))))))))))) [])) (.reg (.op .p (.op .p (.op .p (.nil)))))))))) (.seq (.reg (.op .p (.op .p (.op .p (.nil))))) (.cond (.leaf) (.leaf)))))))) (.reg (.op .p (.op .p (.op .p (.nil)))))))))) (.seq (.drawS (.tk 0 .p (.tk 1 .p (.tk 2 .ix (.tk 4 .p (.ts 3 (.agg) (.go 5 .u (.tk 6 .p (.nil)))))))) [5, 6]) (.leaf))))))
    (by kernel_rfl) Tryd.func13 (by kernel_rfl) (by kernel_rfl) (by kernel_rfl) (by kernel_rfl) h

set_option maxRecDepth 100000 in
theorem amphoraref15_Parse_vc (a0a : Option Addr) (a0n : Nat) (a0c : Nat) (w : World) (R : Ending → World → Prop) (h :
  ∃ J : Bool → World → Prop, (((decide (((a0n : Nat) : Int) < (2 : Int))) = true →
      (J true w)) ∧
    ((decide (((a0n : Nat) : Int) < (2 : Int))) = false →
      (∃ (t15b t15o : Nat), a0a = some ⟨t15b, t15o, none⟩ ∧ 0 ≤ (0 : Int) ∧ (0 : Int) < ((a0n : Nat) : Int) ∧
        (∃ (t16 : Int), (Instr.loadAt 5 (.pointer (some ⟨t15b, t15o + Int.toNat (0 : Int) * 1, none⟩))).run Tryd.prog w = .ok (.int .u8 t16) w ∧
          (((decide (t16 > (3 : Int))) = true →
              (J true w)) ∧
            ((decide (t16 > (3 : Int))) = false →
              (∃ (t21b t21o : Nat), a0a = some ⟨t21b, t21o, none⟩ ∧ 0 ≤ (1 : Int) ∧ (1 : Int) < ((a0n : Nat) : Int) ∧
                (∃ (t22 : Int), (Instr.loadAt 5 (.pointer (some ⟨t21b, t21o + Int.toNat (1 : Int) * 1, none⟩))).run Tryd.prog w = .ok (.int .u8 t22) w ∧
                  (((decide (t22 > (16 : Int))) = true →
                      (J true w)) ∧
                    ((decide (t22 > (16 : Int))) = false →
                      (∃ (t27b t27o : Nat), a0a = some ⟨t27b, t27o, none⟩ ∧ 0 ≤ (1 : Int) ∧ (1 : Int) < ((a0n : Nat) : Int) ∧
                        (∃ (t28 : Int), (Instr.loadAt 5 (.pointer (some ⟨t27b, t27o + Int.toNat (1 : Int) * 1, none⟩))).run Tryd.prog w = .ok (.int .u8 t28) w ∧
                          (((t28 == (0 : Int)) = true →
                              (∃ (t32b t32o : Nat), a0a = some ⟨t32b, t32o, none⟩ ∧ 0 ≤ (0 : Int) ∧ (0 : Int) < ((a0n : Nat) : Int) ∧
                                (∃ (t33 : Int), (Instr.loadAt 5 (.pointer (some ⟨t32b, t32o + Int.toNat (0 : Int) * 1, none⟩))).run Tryd.prog w = .ok (.int .u8 t33) w ∧
                                  (((decide (t33 > (0 : Int))) = true →
                                      (J true w)) ∧
                                    ((decide (t33 > (0 : Int))) = false →
                                      (∃ (t41b t41o : Nat), a0a = some ⟨t41b, t41o, none⟩ ∧ 0 ≤ (1 : Int) ∧ (1 : Int) < ((a0n : Nat) : Int) ∧
                                        (∃ (t42 : Int), (Instr.loadAt 5 (.pointer (some ⟨t41b, t41o + Int.toNat (1 : Int) * 1, none⟩))).run Tryd.prog w = .ok (.int .u8 t42) w ∧
                                          (J (((a0n : Nat) : Int) != (IntKind.wrap .i64 ((2 : Int) + (IntKind.wrap .i64 ((32 : Int) * (IntKind.wrap .i64 t42)))))) w)))))))) ∧
                            ((t28 == (0 : Int)) = false →
                              (∃ (t41b t41o : Nat), a0a = some ⟨t41b, t41o, none⟩ ∧ 0 ≤ (1 : Int) ∧ (1 : Int) < ((a0n : Nat) : Int) ∧
                                (∃ (t42 : Int), (Instr.loadAt 5 (.pointer (some ⟨t41b, t41o + Int.toNat (1 : Int) * 1, none⟩))).run Tryd.prog w = .ok (.int .u8 t42) w ∧
                                  (J (((a0n : Nat) : Int) != (IntKind.wrap .i64 ((2 : Int) + (IntKind.wrap .i64 ((32 : Int) * (IntKind.wrap .i64 t42)))))) w))))))))))))))))) ∧
  (∀ (x47 : Bool), ∀ w1 : World, J x47 w1 →
    ((x47 = true →
        (R (.returned (.tuple #[(.int .i64 0), (.slice none 0 0), (.int .i64 9)])) w1)) ∧
      (x47 = false →
        (∃ (I : Option Addr → Nat → Nat → Int → World → Prop) (μ : Option Addr → Nat → Nat → Int → World → Nat), I none 0 0 2 w1 ∧
          (∀ (x6a : Option Addr) (x6n : Nat) (x6c : Nat) (x7 : Int), ∀ w2 : World, I x6a x6n x6c x7 w2 →
            (((decide (x7 < ((a0n : Nat) : Int))) = true →
                (∃ (t55 : Array Value), (Instr.build 33 #[]).run Tryd.prog w2 = .ok (.agg t55) w2 ∧
                  (∃ (g8 : Nat) (w3 : World), (Instr.alloc 33 true (.tuple #[])).run Tryd.prog w2 = .ok (.pointer (some ⟨g8, 0, none⟩)) w3 ∧
                    (∃ w4 : World, (Instr.storeAt 33 (.pointer (some ⟨g8, 0, none⟩)) (.agg t55)).run Tryd.prog w3 = .ok () w4 ∧
                      (∃ (I_1 : Int → World → Prop) (μ_1 : Int → World → Nat), I_1 0 w4 ∧
                        (∀ (x9 : Int), ∀ w5 : World, I_1 x9 w5 →
                          (((decide (x9 < (32 : Int))) = true →
                              (∃ (t65b t65o : Nat), a0a = some ⟨t65b, t65o, none⟩ ∧ 0 ≤ (IntKind.wrap .i64 (x7 + x9)) ∧ (IntKind.wrap .i64 (x7 + x9)) < ((a0n : Nat) : Int) ∧
                                (∃ (t66 : Int), (Instr.loadAt 5 (.pointer (some ⟨t65b, t65o + Int.toNat (IntKind.wrap .i64 (x7 + x9)) * 1, none⟩))).run Tryd.prog w5 = .ok (.int .u8 t66) w5 ∧
                                  (0 ≤ x9 ∧ x9 < (32 : Int) ∧
                                    (∃ w6 : World, (Instr.storeAt 5 (.pointer (some ⟨g8, 0 + Int.toNat x9 * 1, none⟩)) (.int .u8 t66)).run Tryd.prog w5 = .ok () w6 ∧
                                      (I_1 (IntKind.wrap .i64 (x9 + (1 : Int))) w6 ∧ μ_1 (IntKind.wrap .i64 (x9 + (1 : Int))) w6 < μ_1 x9 w5)))))) ∧
                            ((decide (x9 < (32 : Int))) = false →
                              (∃ (t69 : Array Value), (Instr.loadAt 33 (.pointer (some ⟨g8, 0, none⟩))).run Tryd.prog w5 = .ok (.agg t69) w5 ∧
                                (∃ (t70a : Option Addr) (t70n : Nat) (t70c : Nat) (w7 : World), (Instr.buildSlice 30 1 #[(0, (.agg t69))]).run Tryd.prog w5 = .ok (.slice t70a t70n t70c) w7 ∧
                                  (∃ (t71a : Option Addr) (t71n : Nat) (t71c : Nat) (w8 : World), (Builtin.append_ #[30, 30] 30 #[(.slice x6a x6n x6c), (.slice t70a t70n t70c)]).run Tryd.prog w7 = .ok (.slice t71a t71n t71c) w8 ∧
                                    (I t71a t71n t71c (IntKind.wrap .i64 (x7 + (32 : Int))) w8 ∧ μ t71a t71n t71c (IntKind.wrap .i64 (x7 + (32 : Int))) w8 < μ x6a x6n x6c x7 w2)))))))))))) ∧
              ((decide (x7 < ((a0n : Nat) : Int))) = false →
                (∃ (t73b t73o : Nat), a0a = some ⟨t73b, t73o, none⟩ ∧ 0 ≤ (0 : Int) ∧ (0 : Int) < ((a0n : Nat) : Int) ∧
                  (∃ (t74 : Int), (Instr.loadAt 5 (.pointer (some ⟨t73b, t73o + Int.toNat (0 : Int) * 1, none⟩))).run Tryd.prog w2 = .ok (.int .u8 t74) w2 ∧
                    (R (.returned (.tuple #[(.int .i64 (IntKind.wrap .i64 t74)), (.slice x6a x6n x6c), (.int .i64 0)])) w2))))))))))) : Calls Tryd.prog 23 #[(.slice a0a a0n a0c)] w R :=
  calls_of_ev (args := [(.slice a0a a0n a0c)])
    (tc := .seq (.reg (.op .p (.op .p (.op .p (.nil))))) (.seq (.reg (.op .p (.nil))) (.seq (.seq (.join [10, 11, 12, 13, 14, 15, 16, 17, 18, 19, 20, 21, 22, 23, 24, 25, 26, 27, 28, 29, 30, 31, 32, 33, 34, 35, 36, 37, 38, 39, 40, 41, 42, 43, 44, 45, 46, 47] [47] [.bool] (.reg (.op .p (.op .p (.op .p (.op .p (.sp 13 (.op .p (.op .p (.op .p (.op .p (.op .p (.op .p (.op .p (.op .p (.op .p (.op .p (.op .p (.op .p (.op .p (.op .p (.op .p (.op .p (.op .p (.op .p (.op .p (.op .p (.op .p (.op .p (.op .p (.op .p (.op .p (.op .p (.op .p (.op .p (.op .p (.op .p (.op .p (.op .p (.op .p (.op .p (.nil))))))))))))))))))))))))))))))))))) (.op .p (.op .ix (.op (.ld (.int .u8)) (.op .p (.op .p (.op .p (.sp 19 (.op .p (.op .p (.op .p (.op .p (.op .p (.op .p (.op .p (.op .p (.op .p (.op .p (.op .p (.op .p (.op .p (.op .p (.op .p (.op .p (.op .p (.op .p (.op .p (.op .p (.op .p (.op .p (.op .p (.op .p (.op .p (.op .p (.op .p (.op .p (.nil))))))))))))))))))))))))))))) (.op .p (.op .ix (.op (.ld (.int .u8)) (.op .p (.op .p (.op .p (.sp 25 (.op .p (.op .p (.op .p (.op .p (.op .p (.op .p (.op .p (.op .p (.op .p (.op .p (.op .p (.op .p (.op .p (.op .p (.op .p (.op .p (.op .p (.op .p (.op .p (.op .p (.op .p (.op .p (.nil))))))))))))))))))))))) (.op .p (.op .ix (.op (.ld (.int .u8)) (.op .p (.op .p (.sp 30 (.op .p (.op .ix (.op (.ld (.int .u8)) (.op .p (.op .p (.op .p (.op .p (.sp 37 (.op .p (.op .p (.op .p (.op .p (.op .p (.op .p (.op .p (.op .p (.op .p (.op .p (.nil))))))))))) (.op .p (.op .p (.op .p (.op .ix (.op (.ld (.int .u8)) (.op .p (.op .p (.op .p (.op .p (.op .p (.nil))))))))))))))))))) (.op .p (.op .p (.op .p (.op .p (.op .p (.op .p (.op .p (.op .p (.op .p (.op .p (.op .ix (.op (.ld (.int .u8)) (.op .p (.op .p (.op .p (.op .p (.op .p (.nil))))))))))))))))))))))))))))))))))))))))))))) (.cond (.seq (.reg (.op .p (.op .p (.op .p (.op .p (.nil)))))) (.leaf)) (.leaf))) (.seq (.reg (.op .p (.nil))) (.seq (.seq (.reg (.op .p (.nil))) (.blk (.loop [6, 7, 8, 9, 49, 50, 51, 52, 53, 54, 55, 56, 57, 58, 59, 60, 61, 62, 63, 64, 65, 66, 67, 68, 69, 70, 71] [6, 7] [.slice, .int .i64] (.seq (.seq (.reg (.op .p (.op .p (.op .p (.op .p (.nil)))))) (.cond (.leaf) (.leaf))) (.seq (.blk (.seq (.reg (.op (.ld (.agg)) (.op .bx (.op .u (.nil))))) (.seq (.seq (.reg (.op .p (.nil))) (.blk (.loop [9, 56, 57, 58, 59, 60, 61, 62, 63, 64, 65, 66, 67] [9] [.int .i64] (.seq (.seq (.reg (.op .p (.op .p (.nil)))) (.cond (.leaf) (.leaf))) (.seq (.blk (.reg (.op .p (.op .p (.op .p (.op .p (.op .p (.op .ix (.op (.ld (.int .u8)) (.op .ix (.op .u (.nil)))))))))))) (.reg (.op .p (.op .p (.op .p (.nil)))))))))) (.reg (.op .p (.op (.ld (.agg)) (.op (.r (.slice)) (.op (.r (.slice)) (.op .p (.nil)))))))))) (.reg (.op .p (.op .p (.op .p (.nil)))))))))) (.seq (.reg (.op .p (.op .ix (.op (.ld (.int .u8)) (.op .p (.op .p (.op .p (.op .p (.op .p (.nil)))))))))) (.leaf)))))))
    (by kernel_rfl) Tryd.func23 (by kernel_rfl) (by kernel_rfl) (by kernel_rfl) (by kernel_rfl) h

set_option maxRecDepth 100000 in
theorem amphoraref15_Join_vc (a0 : Int) (a1a : Option Addr) (a1n : Nat) (a1c : Nat) (w : World) (R : Ending → World → Prop) (h :
  ∃ (I : Option Addr → Nat → Nat → Int → World → Prop) (μ : Option Addr → Nat → Nat → Int → World → Nat), I none 0 0 0 w ∧
  (∀ (x6a : Option Addr) (x6n : Nat) (x6c : Nat) (x7 : Int), ∀ w1 : World, I x6a x6n x6c x7 w1 →
    (((decide (x7 < ((a1n : Nat) : Int))) = true →
        (∃ (t20b t20o : Nat), a1a = some ⟨t20b, t20o, none⟩ ∧ 0 ≤ x7 ∧ x7 < ((a1n : Nat) : Int) ∧
          (∃ (t21a : Option Addr) (t21n : Nat) (t21c : Nat), (Instr.loadAt 23 (.pointer (some ⟨t20b, t20o + Int.toNat x7 * 1, none⟩))).run Tryd.prog w1 = .ok (.slice t21a t21n t21c) w1 ∧
            (Calls Tryd.prog 23 #[(.slice t21a t21n t21c)] w1 fun (e22 : Ending) (w2 : World) => ∃ (t22_0 : Int) (t22_1a : Option Addr) (t22_1n : Nat) (t22_1c : Nat) (t22_2 : Int), e22 = .returned (.tuple #[(.int .i64 t22_0), (.slice t22_1a t22_1n t22_1c), (.int .i64 t22_2)]) ∧
              ((((t22_2 != (0 : Int)) || (t22_0 != a0)) = true →
                  (R (.returned (.tuple #[(.slice none 0 0), (.int .i64 9)])) w2)) ∧
                (((t22_2 != (0 : Int)) || (t22_0 != a0)) = false →
                  (∃ (t35a : Option Addr) (t35n : Nat) (t35c : Nat) (w3 : World), (Builtin.append_ #[30, 30] 30 #[(.slice x6a x6n x6c), (.slice t22_1a t22_1n t22_1c)]).run Tryd.prog w2 = .ok (.slice t35a t35n t35c) w3 ∧
                    (I t35a t35n t35c (IntKind.wrap .i64 (x7 + (1 : Int))) w3 ∧ μ t35a t35n t35c (IntKind.wrap .i64 (x7 + (1 : Int))) w3 < μ x6a x6n x6c x7 w1)))))))) ∧
      ((decide (x7 < ((a1n : Nat) : Int))) = false →
        (R (.returned (.tuple #[(.slice x6a x6n x6c), (.int .i64 0)])) w1))))) : Calls Tryd.prog 25 #[(.int .i64 a0), (.slice a1a a1n a1c)] w R :=
  calls_of_ev (args := [(.int .i64 a0), (.slice a1a a1n a1c)])
    (tc := .seq (.reg (.op .p (.op .p (.nil)))) (.seq (.reg (.op .p (.nil))) (.seq (.seq (.reg (.op .p (.nil))) (.blk (.loop [4, 5, 6, 7, 8, 9, 10, 11, 12, 13, 14, 15, 16, 17, 18, 19, 20, 21, 22, 23, 24, 25, 26, 27, 28, 29, 30, 31, 32, 33, 34, 35] [6, 7] [.slice, .int .i64] (.seq (.seq (.reg (.op .p (.op .p (.op .p (.op .p (.nil)))))) (.cond (.leaf) (.leaf))) (.seq (.blk (.seq (.reg (.op .p (.op .p (.op .ix (.op (.ld (.slice)) (.op (.cl [.int .i64, .slice, .int .i64]) (.op .p (.op .p (.op .p (.op .p (.op .p (.op .p (.op .p (.nil)))))))))))))) (.seq (.seq (.reg (.op .p (.op .p (.op .p (.ap 3 (.nil)))))) (.cond (.seq (.reg (.op .p (.op .p (.nil)))) (.leaf)) (.leaf))) (.reg (.op .p (.op .p (.op (.r (.slice)) (.op .p (.nil))))))))) (.reg (.op .p (.op .p (.op .p (.nil)))))))))) (.seq (.reg (.op .p (.op .p (.op .p (.nil))))) (.leaf)))))
    (by kernel_rfl) Tryd.func25 (by kernel_rfl) (by kernel_rfl) (by kernel_rfl) (by kernel_rfl) h

set_option maxRecDepth 100000 in
theorem amphoraref15_Same_vc (a0a : Option Addr) (a0n : Nat) (a0c : Nat) (a1a : Option Addr) (a1n : Nat) (a1c : Nat) (w : World) (R : Ending → World → Prop) (h :
  ((((a0n : Nat) : Int) != ((a1n : Nat) : Int)) = true →
    (R (.returned (.bool false)) w)) ∧
  ((((a0n : Nat) : Int) != ((a1n : Nat) : Int)) = false →
    (∃ (I : Int → World → Prop) (μ : Int → World → Nat), I 0 w ∧
      (∀ (x5 : Int), ∀ w1 : World, I x5 w1 →
        (((decide (x5 < ((a0n : Nat) : Int))) = true →
            (∃ S : World → Prop, S w1.drew ∧
              (∃ (t19b t19o : Nat), a0a = some ⟨t19b, t19o, none⟩ ∧ 0 ≤ x5 ∧ x5 < ((a0n : Nat) : Int) ∧
                (∃ (t23b t23o : Nat), a1a = some ⟨t23b, t23o, none⟩ ∧ 0 ≤ x5 ∧ x5 < ((a1n : Nat) : Int) ∧
                  (∃ (t20 : Array Value), (∀ w' : World, S w' → (Instr.loadAt 33 (.pointer (some ⟨t19b, t19o + Int.toNat x5 * 32, none⟩))).run Tryd.prog w' = .ok (.agg t20) w') ∧
                    (∃ (t24 : Array Value), (∀ w' : World, S w' → (Instr.loadAt 33 (.pointer (some ⟨t23b, t23o + Int.toNat x5 * 32, none⟩))).run Tryd.prog w' = .ok (.agg t24) w') ∧
                      (∃ (t25 : Bool), (∀ w' : World, S w' → (eqlS .neq 33 (.tmp 20) (.tmp 24) (.agg t20) (.agg t24)).run Tryd.prog w' = .ok (.bool t25) w') ∧
                        ((t25 = true →
                            (R (.returned (.bool false)) w1.drew)) ∧
                          (t25 = false →
                            (I (IntKind.wrap .i64 (x5 + (1 : Int))) w1.drew ∧ μ (IntKind.wrap .i64 (x5 + (1 : Int))) w1.drew < μ x5 w1)))))))))) ∧
          ((decide (x5 < ((a0n : Nat) : Int))) = false →
            (R (.returned (.bool true)) w1))))))) : Calls Tryd.prog 16 #[(.slice a0a a0n a0c), (.slice a1a a1n a1c)] w R :=
  calls_of_ev (args := [(.slice a0a a0n a0c), (.slice a1a a1n a1c)])
    (tc := .seq (.reg (.op .p (.nil))) (.seq (.seq (.reg (.op .p (.op .p (.op .p (.op .p (.op .p (.nil))))))) (.cond (.seq (.reg (.op .p (.nil))) (.leaf)) (.leaf))) (.seq (.seq (.reg (.op .p (.nil))) (.blk (.loop [4, 5, 11, 12, 13, 14, 15, 16, 17, 18, 19, 20, 21, 22, 23, 24, 25] [5] [.int .i64] (.seq (.seq (.reg (.op .p (.op .p (.op .p (.op .p (.nil)))))) (.cond (.leaf) (.leaf))) (.seq (.blk (.seq (.drawS (.tk 0 .p (.tk 1 .p (.tk 2 .ix (.tk 4 .p (.tk 5 .p (.tk 6 .ix (.ts 3 (.agg) (.ts 7 (.agg) (.ts 8 (.bool) (.nil)))))))))) []) (.cond (.seq (.reg (.op .p (.nil))) (.leaf)) (.leaf)))) (.reg (.op .p (.op .p (.op .p (.nil)))))))))) (.seq (.reg (.op .p (.nil))) (.leaf)))))
    (by kernel_rfl) Tryd.func16 (by kernel_rfl) (by kernel_rfl) (by kernel_rfl) (by kernel_rfl) h

end Go.Proofs.YtefnlbgkfingfaaDoor
