/- The proof of PackSavesCardSaid, part 5: what it rests on (conditions: those that each theorem names). -/
import Derived.Test.YtmdandkoajocpaaGreatDoorS4
import Derived.Test.YtmdandkoajocpaaGreatDoorRows
import Derived.Lib.AppendZerosOnto
import Derived.Maps.RangeRun
import Derived.RangeFuncRecord
section
namespace Go.Proofs.YtmdandkoajocpaaGreatDoor
open Go Go.Proofs.YtmdandkoajocpaaGreatDoor.Sx

set_option maxRecDepth 100000
theorem pack_Build_vc (a0 : Array Value) (a1 : Int) (a2a : Option Addr) (a2n : Nat) (a2c : Nat) (w : World) (R : Ending → World → Prop) (h : ∃ g3 w1, (Instr.box 28 (.agg a0)).run Tryz.prog w = .ok (.pointer (some ⟨g3, 0, none⟩)) w1 ∧ (∃ t12, LdQ 28 g3 0 (.agg t12) w1 ∧ (Calls Tryz.prog 39 #[(.agg t12), (.int .i64 a1), (.slice a2a a2n a2c)] w1 fun e15 w2 => ∃ t15_0 t15_1, e15 = .returned (.tuple #[t15_0, t15_1]) ∧ (∃ t19, (eqlS .neq 36 (.tmp 18) (.const .nilIface) t15_1 .nilIface).run Tryz.prog w2 = .ok (.bool t19) w2 ∧ ((t19 = true → (R (.returned (.tuple #[(.slice none 0 0), (.slice none 0 0), t15_1])) w2)) ∧ (t19 = false → (∃ S : World → Prop, S w2.drew ∧ (∃ (t22b t22o : Nat), t15_0 = .pointer (some ⟨t22b, t22o, none⟩) ∧ (∃ (t28b t28o : Nat), t15_0 = .pointer (some ⟨t28b, t28o, none⟩) ∧ (∃ t25a t25n t25c, (∀ w', S w' → LdQ 23 t22b t22o (.slice t25a t25n t25c) w') ∧ (∃ t30a t30n t30c, (∀ w', S w' → LdQ 34 t28b (t28o + 3) (.slice t30a t30n t30c) w') ∧ (Calls Tryz.prog 40 #[(.slice t25a t25n t25c)] w2.drew fun e26 w3 => ∃ t26a t26n t26c, e26 = .returned (.slice t26a t26n t26c) ∧ (∃ S_1 : World → Prop, (∀ w', S_1 w' → S w') ∧ S_1 w3 ∧ (R (.returned (.tuple #[(.slice t26a t26n t26c), (.slice t30a t30n t30c), .nilIface])) w3)))))))))))))) : Calls Tryz.prog 11 #[(.agg a0), (.int .i64 a1), (.slice a2a a2n a2c)] w R := calls_of_ev2 (tc := .sq [.reg (.op .bx (.pp 3 .nil)), .reg (.op (.ld .agg) (.pp 2 (.op (.cl [.val, .val]) (.pp 5 .nil)))), .seq (.reg (.op .p (.op (.ld .bool) .nil))) (.cond (.seq (.rg 4) .leaf) .leaf), .drawS (.tk 0 .p (.tk 1 .nc (.tks [2, 3, 6] (.tk 7 .nc (.tk 8 .p (.ts 4 .slice (.ts 9 .slice (.go 5 (.cl [.slice]) (.tks [10, 11, 12] .nil))))))))) []] .leaf) Tryz.func11 (by kernel_rfl) (by kernel_rfl) h

theorem pack_made_vc (a0 : Array Value) (a1 : Int) (a2a : Option Addr) (a2n : Nat) (a2c : Nat) (w : World) (R : Ending → World → Prop) (h : ∃ g3 w1, (Instr.box 28 (.agg a0)).run Tryz.prog w = .ok (.pointer (some ⟨g3, 0, none⟩)) w1 ∧ (Calls Tryz.prog 43 #[(.int .i64 a1)] w1 fun e14 w2 => ∃ t14, e14 = .returned (.bool t14) ∧ (((!t14) = true → (R (.returned (.tuple #[(.pointer none), (.iface 69 (.int .i64 28))])) w2)) ∧ ((!t14) = false → (∃ (I : Int → World → Prop) (μ : Int → World → Nat), I 0 w2 ∧ (∀ x19, ∀ w3, I x19 w3 → ((decide (x19 < (a2n : Int)) = true → (∃ t21b t21o, a2a = some ⟨t21b, t21o, none⟩ ∧ 0 ≤ x19 ∧ x19 < (a2n : Int) ∧ (∃ t22, LdQ 46 t21b (t21o + Int.toNat x19 * 33) (.agg t22) w3 ∧ (∃ g9 w4, AlQ 46 g9 w3 w4 ∧ (∃ w5, StQ 46 g9 0 (.agg t22) w4 w5 ∧ (∃ t24a t24n t24c, LdQ 33 g9 32 (.slice t24a t24n t24c) w5 ∧ ((decide ((t24n : Int) > (67108832 : Int)) = true → (R (.returned (.tuple #[(.pointer none), (.iface 69 (.int .i64 7))])) w5)) ∧ (decide ((t24n : Int) > (67108832 : Int)) = false → (I (IntKind.wrap .i64 (x19 + 1)) w5 ∧ μ (IntKind.wrap .i64 (x19 + 1)) w5 < μ x19 w3))))))))) ∧ (decide (x19 < (a2n : Int)) = false → (Calls Tryz.prog 70 #[(.int .i64 a1)] w3 fun e30 w6 => ∃ t30b t30o, e30 = .returned (.pointer (some ⟨t30b, t30o, none⟩)) ∧ (∃ (I_1 : Int → World → Prop) (μ_1 : Int → World → Nat), I_1 0 w6 ∧ (∀ x33, ∀ w7, I_1 x33 w7 → ((decide (x33 < (a2n : Int)) = true → (∃ t35b t35o, a2a = some ⟨t35b, t35o, none⟩ ∧ 0 ≤ x33 ∧ x33 < (a2n : Int) ∧ (∃ t36, LdQ 46 t35b (t35o + Int.toNat x33 * 33) (.agg t36) w7 ∧ (∃ g12 w8, AlQ 46 g12 w7 w8 ∧ (∃ w9, StQ 46 g12 0 (.agg t36) w8 w9 ∧ (∃ t38, LdQ 46 g12 0 (.agg t38) w9 ∧ (Calls Tryz.prog 71 #[(.pointer (some ⟨t30b, t30o, none⟩)), (.agg t38)] w9 fun e39 w10 => e39 = .returned (.tuple #[]) ∧ (I_1 (IntKind.wrap .i64 (x33 + 1)) w10 ∧ μ_1 (IntKind.wrap .i64 (x33 + 1)) w10 < μ_1 x33 w7)))))))) ∧ (decide (x33 < (a2n : Int)) = false → (∃ t42, LdQ 28 g3 0 (.agg t42) w7 ∧ (Calls Tryz.prog 72 #[(.pointer (some ⟨t30b, t30o, none⟩)), (.agg t42)] w7 fun e43 w11 => e43 = .returned (.tuple #[]) ∧ (R (.returned (.tuple #[(.pointer (some ⟨t30b, t30o, none⟩)), .nilIface])) w11)))))))))))))))) : Calls Tryz.prog 39 #[(.agg a0), (.int .i64 a1), (.slice a2a a2n a2c)] w R := calls_of_ev2 (tc := .sq [.reg (.op .bx (.pp 2 .nil)), .seq (.reg (.op .p (.op (.cl [.bool]) (.op .p .nil)))) (.cond (.seq (.rg 3) .leaf) .leaf), .seq (.rg 3) (.blk (.loop (lr [(6, 2), (9, 1), (19, 10)]) [19] [.int .i64] (.sq [.rg 1, .cond .leaf .leaf, .blk (.sq [.reg (.op .ix (.op (.ld .agg) (.op .bx (.op .u .nil)))), .reg (.op .p (.op (.ld .slice) (.pp 2 .nil)))] (.cond (.seq (.rg 3) .leaf) .leaf))] (.rg 2)))), .reg (.op .p (.op (.cl [.ptr]) (.op .p .nil))), .seq (.rg 3) (.blk (.loop (lr [(12, 1), (33, 8)]) [33] [.int .i64] (.sq [.rg 1, .cond .leaf .leaf, .blk (.seq (.reg (.op .ix (.op (.ld .agg) (.op .bx (.op .u .nil))))) (.reg (.op .p (.op (.ld .agg) (.op (.cl []) .nil)))))] (.rg 2)))), .reg (.op .p (.op (.ld .agg) (.op (.cl []) .nil))), .rg 3] .leaf) Tryz.func39 (by kernel_rfl) (by kernel_rfl) h

theorem pack_begin_vc (a0 : Int) (w : World) (R : Ending → World → Prop) (h : ∃ t5, (Instr.build 105 #[(1, (.int .i64 a0))]).run Tryz.prog w = .ok (.agg t5) w ∧ (∃ g6 w1, (Instr.box 105 (.agg t5)).run Tryz.prog w = .ok (.pointer (some ⟨g6, 0, none⟩)) w1 ∧ (∃ J : World → Prop, ((∃ t10a t10n t10c w2, (Instr.buildSlice 33 8 #[(0, (.int .u8 97)), (1, (.int .u8 109)), (2, (.int .u8 112)), (3, (.int .u8 104)), (4, (.int .u8 112)), (5, (.int .u8 97)), (6, (.int .u8 99)), (7, (.int .u8 107))]).run Tryz.prog w1.drew = .ok (.slice t10a t10n t10c) w2 ∧ ((∃ t11a t11n t11c w3, (convert 33 33 (.slice t10a t10n t10c)).run Tryz.prog w2 = .ok (.slice t11a t11n t11c) w3 ∧ (Calls Tryz.prog 58 #[(.int .i64 a0)] w3 fun e13 w4 => ∃ t13a t13n t13c, e13 = .returned (.slice t13a t13n t13c) ∧ (∃ t14a t14n t14c w5, (Builtin.append_ #[33, 33] 33 #[(.slice t11a t11n t11c), (.slice t13a t13n t13c)]).run Tryz.prog w4 = .ok (.slice t14a t14n t14c) w5 ∧ (Calls Tryz.prog 102 #[(.pointer (some ⟨g6, 0, none⟩)), (.slice t14a t14n t14c)] w5 fun e15 w6 => e15 = .returned (.tuple #[]) ∧ (J  w6))))) ∧ (Calls Tryz.prog 58 #[(.int .i64 a0)] w2 fun e13 w7 => ∃ t13a t13n t13c, e13 = .returned (.slice t13a t13n t13c) ∧ (∃ t11a t11n t11c w8, (convert 33 33 (.slice t10a t10n t10c)).run Tryz.prog w7 = .ok (.slice t11a t11n t11c) w8 ∧ (∃ t14a t14n t14c w9, (Builtin.append_ #[33, 33] 33 #[(.slice t11a t11n t11c), (.slice t13a t13n t13c)]).run Tryz.prog w8 = .ok (.slice t14a t14n t14c) w9 ∧ (Calls Tryz.prog 102 #[(.pointer (some ⟨g6, 0, none⟩)), (.slice t14a t14n t14c)] w9 fun e15 w10 => e15 = .returned (.tuple #[]) ∧ (J  w10))))))) ∧ (Calls Tryz.prog 58 #[(.int .i64 a0)] w1.drew fun e13 w11 => ∃ t13a t13n t13c, e13 = .returned (.slice t13a t13n t13c) ∧ (∃ t10a t10n t10c w12, (Instr.buildSlice 33 8 #[(0, (.int .u8 97)), (1, (.int .u8 109)), (2, (.int .u8 112)), (3, (.int .u8 104)), (4, (.int .u8 112)), (5, (.int .u8 97)), (6, (.int .u8 99)), (7, (.int .u8 107))]).run Tryz.prog w11 = .ok (.slice t10a t10n t10c) w12 ∧ (∃ t11a t11n t11c w13, (convert 33 33 (.slice t10a t10n t10c)).run Tryz.prog w12 = .ok (.slice t11a t11n t11c) w13 ∧ (∃ t14a t14n t14c w14, (Builtin.append_ #[33, 33] 33 #[(.slice t11a t11n t11c), (.slice t13a t13n t13c)]).run Tryz.prog w13 = .ok (.slice t14a t14n t14c) w14 ∧ (Calls Tryz.prog 102 #[(.pointer (some ⟨g6, 0, none⟩)), (.slice t14a t14n t14c)] w14 fun e15 w15 => e15 = .returned (.tuple #[]) ∧ (J  w15))))))) ∧ (∀ w16, J  w16 → (R (.returned (.pointer (some ⟨g6, 0, none⟩))) w16))))) : Calls Tryz.prog 70 #[(.int .i64 a0)] w R := calls_of_ev2 (tc := .sq [.rg 1, .reg (.op .p (.op (.ld .agg) (.op .bx (.op .p .nil)))), .join (lr [(7, 9)]) [] [] (.draw (.tks [0, 1, 2, 5] (.two 3 (.r .slice) (.two 4 (.r .slice) (.go 6 (.cl [.slice]) (.go 7 (.r .slice) (.go 8 (.cl []) .nil))) 6 (.cl [.slice]) (.go 4 (.r .slice) (.go 7 (.r .slice) (.go 8 (.cl []) .nil)))) 6 (.cl [.slice]) (.go 3 (.r .slice) (.go 4 (.r .slice) (.go 7 (.r .slice) (.go 8 (.cl []) .nil)))))) (lr [(0, 9)])), .rg 2] .leaf) Tryz.func70 (by kernel_rfl) (by kernel_rfl) h

theorem pack_pieces_put_vc (a0b : Nat) (a0o : Nat) (a1a : Option Addr) (a1n : Nat) (a1c : Nat) (w : World) (R : Ending → World → Prop) (h : ∃ t8a t8n t8c, LdQ 23 a0b a0o (.slice t8a t8n t8c) w ∧ (∃ t10a t10n t10c w1, (Instr.buildSlice 23 1 #[(0, (.slice a1a a1n a1c))]).run Tryz.prog w = .ok (.slice t10a t10n t10c) w1 ∧ (∃ t11a t11n t11c w2, (Builtin.append_ #[23, 23] 23 #[(.slice t8a t8n t8c), (.slice t10a t10n t10c)]).run Tryz.prog w1 = .ok (.slice t11a t11n t11c) w2 ∧ (∃ w3, StQ 23 a0b a0o (.slice t11a t11n t11c) w2 w3 ∧ (∃ t17, LdQ 3 a0b (a0o + 1) (.int .i64 t17) w3 ∧ (∃ w4, StQ 3 a0b (a0o + 1) (.int .i64 (IntKind.wrap .i64 (t17 + (a1n : Int)))) w3 w4 ∧ (R (.returned (.tuple #[])) w4))))))) : Calls Tryz.prog 102 #[(.pointer (some ⟨a0b, a0o, none⟩)), (.slice a1a a1n a1c)] w R := calls_of_ev2 (tc := .seq (.reg (.pp 4 (.op (.ld .slice) (.op .p (.op (.r .slice) (.op (.r .slice) (.pp 2 (.op .u .nil)))))))) (.reg (.pp 3 (.op (.ld (.int .i64)) (.pp 5 (.op .u .nil)))))) Tryz.func102 (by kernel_rfl) (by kernel_rfl) h

theorem pack_file_item_vc (a0b : Nat) (a0o : Nat) (a1 : Array Value) (w : World) (R : Ending → World → Prop) (h : ∃ g3 w1, (Instr.box 46 (.agg a1)).run Tryz.prog w = .ok (.pointer (some ⟨g3, 0, none⟩)) w1 ∧ (∃ S : World → Prop, S w1.drew ∧ (0 ≤ (32 : Int) ∧ (32 : Int) ≤ (32 : Int) ∧ (∃ t9a t9n t9c, (∀ w', S w' → LdQ 33 g3 32 (.slice t9a t9n t9c) w') ∧ (∃ t10a t10n t10c w2, (Instr.buildSlice 23 2 #[(0, (.slice (some ⟨g3, 0, none⟩) (32) 32)), (1, (.slice t9a t9n t9c))]).run Tryz.prog w1.drew = .ok (.slice t10a t10n t10c) w2 ∧ (∃ S_1 : World → Prop, (∀ w', S_1 w' → S w') ∧ S_1 w2 ∧ (Calls Tryz.prog 103 #[(.int .u8 2), (.slice t10a t10n t10c)] w2 fun e11 w3 => ∃ t11a t11n t11c, e11 = .returned (.slice t11a t11n t11c) ∧ (∃ S_2 : World → Prop, (∀ w', S_2 w' → S_1 w') ∧ S_2 w3 ∧ (∃ S_3 : World → Prop, S_3 w3.drew ∧ (∃ t16, (∀ w', S_3 w' → LdQ 3 a0b (a0o + 1) (.int .i64 t16) w') ∧ (∃ t21a t21n t21c, (∀ w', S_3 w' → LdQ 33 g3 32 (.slice t21a t21n t21c) w') ∧ (Calls Tryz.prog 102 #[(.pointer (some ⟨a0b, a0o, none⟩)), (.slice t11a t11n t11c)] w3.drew fun e28 w4 => e28 = .returned (.tuple #[]) ∧ (∃ S_4 : World → Prop, S_4 w4.drew ∧ (∃ t33a t33n t33c, (∀ w', S_4 w' → LdQ 34 a0b (a0o + 3) (.slice t33a t33n t33c) w') ∧ (∃ t35, (∀ w', S_4 w' → LdQ 44 g3 0 (.agg t35) w') ∧ (∃ t39, (∀ w', S_4 w' → LdQ 3 a0b (a0o + 2) (.int .i64 t39) w') ∧ (∃ t42a t42n t42c, (∀ w', S_4 w' → LdQ 33 g3 32 (.slice t42a t42n t42c) w') ∧ (∃ t44, (∀ w', S_4 w' → (Instr.build 75 #[(0, (.agg t35)), (1, (.int .i64 t39)), (2, (.int .i64 (IntKind.wrap .i64 ((IntKind.wrap .i64 (t16 + (t11n : Int))) - (t21n : Int))))), (3, (.int .i64 (t42n : Int)))]).run Tryz.prog w' = .ok (.agg t44) w') ∧ (∃ t45a t45n t45c w5, (Instr.buildSlice 34 1 #[(0, (.agg t44))]).run Tryz.prog w4.drew = .ok (.slice t45a t45n t45c) w5 ∧ (∃ S_5 : World → Prop, (∀ w', S_5 w' → S_4 w') ∧ S_5 w5 ∧ (∃ t46a t46n t46c w6, (Builtin.append_ #[34, 34] 34 #[(.slice t33a t33n t33c), (.slice t45a t45n t45c)]).run Tryz.prog w5 = .ok (.slice t46a t46n t46c) w6 ∧ (∃ S_6 : World → Prop, (∀ w', S_6 w' → S_5 w') ∧ S_6 w6 ∧ (∃ w7, StQ 34 a0b (a0o + 3) (.slice t46a t46n t46c) w6 w7 ∧ (R (.returned (.tuple #[])) w7)))))))))))))))))))))))) : Calls Tryz.prog 71 #[(.pointer (some ⟨a0b, a0o, none⟩)), (.agg a1)] w R := calls_of_ev2 (tc := .sq [.reg (.op .bx .nil), .drawS (.tk 0 .p (.tk 1 .sl (.tk 2 .p (.ts 3 .slice (.go 4 (.r .slice) (.go 5 (.cl [.slice]) (.tk 6 .p .nil))))))) [], .drawS (.tks [0, 1, 2, 3, 5, 6, 8] (.ts 4 (.int .i64) (.tk 7 .p (.ts 9 .slice (.tks [10, 11, 12] .nil))))) [], .reg (.pp 4 (.op (.cl []) .nil))] (.drawS (.tks [0, 1, 2, 3, 5, 7, 8, 9, 11, 12] (.ts 4 .slice (.ts 6 .agg (.ts 10 (.int .i64) (.ts 13 .slice (.tk 14 .p (.ts 15 .agg (.go 16 (.r .slice) (.go 17 (.r .slice) (.tks [18, 19] (.go 20 .u .nil))))))))))) [20])) Tryz.func71 (by kernel_rfl) (by kernel_rfl) h

theorem pack_file_foot_vc (a0b : Nat) (a0o : Nat) (a1 : Array Value) (w : World) (R : Ending → World → Prop) (h : ∃ g3 w1, (Instr.box 28 (.agg a1)).run Tryz.prog w = .ok (.pointer (some ⟨g3, 0, none⟩)) w1 ∧ (∃ S : World → Prop, S w1.drew ∧ (∃ t7, (∀ w', S w' → LdQ 28 g3 0 (.agg t7) w') ∧ (∃ t11, (∀ w', S w' → LdQ 3 a0b (a0o + 2) (.int .i64 t11) w') ∧ (∃ t16a t16n t16c, (∀ w', S w' → LdQ 34 a0b (a0o + 3) (.slice t16a t16n t16c) w') ∧ (Calls Tryz.prog 58 #[(.int .i64 t11)] w1.drew fun e12 w2 => ∃ t12a t12n t12c, e12 = .returned (.slice t12a t12n t12c) ∧ (∃ S_1 : World → Prop, (∀ w', S_1 w' → S w') ∧ S_1 w2 ∧ (Calls Tryz.prog 60 #[(.slice t16a t16n t16c)] w2 fun e17 w3 => ∃ t17a t17n t17c, e17 = .returned (.slice t17a t17n t17c) ∧ (∃ S_2 : World → Prop, (∀ w', S_2 w' → S_1 w') ∧ S_2 w3 ∧ (Calls Tryz.prog 104 #[(.agg t7), (.int .u8 3), (.slice t12a t12n t12c), (.slice t17a t17n t17c)] w3 fun e18 w4 => ∃ t18a t18n t18c, e18 = .returned (.slice t18a t18n t18c) ∧ (∃ S_3 : World → Prop, (∀ w', S_3 w' → S_2 w') ∧ S_3 w4 ∧ (∃ t19a t19n t19c w5, (Instr.buildSlice 23 1 #[(0, (.slice t18a t18n t18c))]).run Tryz.prog w4 = .ok (.slice t19a t19n t19c) w5 ∧ (∃ S_4 : World → Prop, (∀ w', S_4 w' → S_3 w') ∧ S_4 w5 ∧ (Calls Tryz.prog 103 #[(.int .u8 3), (.slice t19a t19n t19c)] w5 fun e20 w6 => ∃ t20a t20n t20c, e20 = .returned (.slice t20a t20n t20c) ∧ (∃ S_5 : World → Prop, (∀ w', S_5 w' → S_4 w') ∧ S_5 w6 ∧ (Calls Tryz.prog 102 #[(.pointer (some ⟨a0b, a0o, none⟩)), (.slice t20a t20n t20c)] w6 fun e21 w7 => e21 = .returned (.tuple #[]) ∧ (∃ S_6 : World → Prop, (∀ w', S_6 w' → S_5 w') ∧ S_6 w7 ∧ (R (.returned (.tuple #[])) w7)))))))))))))))))) : Calls Tryz.prog 72 #[(.pointer (some ⟨a0b, a0o, none⟩)), (.agg a1)] w R := calls_of_ev2 (tc := .seq (.reg (.op .bx .nil)) (.drawS (.tks [0, 1, 2, 4, 5, 6, 9, 10, 11] (.ts 3 .agg (.ts 7 (.int .i64) (.ts 12 .slice (.go 8 (.cl [.slice]) (.go 13 (.cl [.slice]) (.go 14 (.cl [.slice]) (.go 15 (.r .slice) (.go 16 (.cl [.slice]) (.go 17 (.cl []) .nil)))))))))) [])) Tryz.func72 (by kernel_rfl) (by kernel_rfl) h

theorem pack_footPlain_vc (a0a : Option Addr) (a0n : Nat) (a0c : Nat) (w : World) (R : Ending → World → Prop) (h : ∃ (I : Option Addr → Nat → Nat → Int → World → Prop) (μ : Option Addr → Nat → Nat → Int → World → Nat), I none 0 0 0 w ∧ (∀ x3a x3n x3c x8, ∀ w1, I x3a x3n x3c x8 w1 → ((decide (x8 < (a0n : Int)) = true → (∃ t10b t10o, a0a = some ⟨t10b, t10o, none⟩ ∧ 0 ≤ x8 ∧ x8 < (a0n : Int) ∧ (∃ t11, LdQ 75 t10b (t10o + Int.toNat x8 * 35) (.agg t11) w1 ∧ (∃ g5 w2, AlQ 75 g5 w1 w2 ∧ (∃ w3, StQ 75 g5 0 (.agg t11) w2 w3 ∧ (0 ≤ (32 : Int) ∧ (32 : Int) ≤ (32 : Int) ∧ (∃ t15a t15n t15c w4, (Builtin.append_ #[33, 33] 33 #[(.slice x3a x3n x3c), (.slice (some ⟨g5, 0, none⟩) (32) 32)]).run Tryz.prog w3 = .ok (.slice t15a t15n t15c) w4 ∧ (∃ t18, LdQ 3 g5 33 (.int .i64 t18) w4 ∧ (Calls Tryz.prog 58 #[(.int .i64 t18)] w4 fun e19 w5 => ∃ t19a t19n t19c, e19 = .returned (.slice t19a t19n t19c) ∧ (∃ t20a t20n t20c w6, (Builtin.append_ #[33, 33] 33 #[(.slice t15a t15n t15c), (.slice t19a t19n t19c)]).run Tryz.prog w5 = .ok (.slice t20a t20n t20c) w6 ∧ (∃ t23, LdQ 3 g5 34 (.int .i64 t23) w6 ∧ (Calls Tryz.prog 58 #[(.int .i64 t23)] w6 fun e24 w7 => ∃ t24a t24n t24c, e24 = .returned (.slice t24a t24n t24c) ∧ (∃ t25a t25n t25c w8, (Builtin.append_ #[33, 33] 33 #[(.slice t20a t20n t20c), (.slice t24a t24n t24c)]).run Tryz.prog w7 = .ok (.slice t25a t25n t25c) w8 ∧ (I t25a t25n t25c (IntKind.wrap .i64 (x8 + 1)) w8 ∧ μ t25a t25n t25c (IntKind.wrap .i64 (x8 + 1)) w8 < μ x3a x3n x3c x8 w1)))))))))))))) ∧ (decide (x8 < (a0n : Int)) = false → (R (.returned (.slice x3a x3n x3c)) w1))))) : Calls Tryz.prog 60 #[(.slice a0a a0n a0c)] w R := calls_of_ev2 (tc := .sq [.rg 1, .rg 1, .seq (.rg 3) (.blk (.loop (lr [(3, 1), (5, 1), (8, 19)]) [3, 8] [.slice, .int .i64] (.sq [.rg 1, .cond .leaf .leaf, .blk (.sq [.reg (.op .ix (.op (.ld .agg) (.op .bx (.op .u .nil)))), .reg (.pp 2 (.op .sl (.op (.r .slice) (.op .p .nil)))), .reg (.pp 2 (.op (.ld (.int .i64)) (.op (.cl [.slice]) (.op (.r .slice) (.op .p .nil)))))] (.reg (.pp 2 (.op (.ld (.int .i64)) (.op (.cl [.slice]) (.op (.r .slice) (.op .p .nil)))))))] (.rg 2)))), .rg 2] .leaf) Tryz.func60 (by kernel_rfl) (by kernel_rfl) h

theorem pack_good_vc (a0 : Int) (w : World) (R : Ending → World → Prop) (h : R (.returned (.bool ((decide (a0 ≥ (0 : Int))) && (decide (a0 ≤ (1099511627776 : Int)))))) w) : Calls Tryz.prog 43 #[(.int .i64 a0)] w R := calls_of_ev2 (tc := .sq [.rg 1, .reg (.pp 3 (.ap 2 (.op .p .nil)))] .leaf) Tryz.func43 (by kernel_rfl) (by kernel_rfl) h

theorem pack_head_vc (a0a : Option Addr) (a0n : Nat) (a0c : Nat) (w : World) (R : Ending → World → Prop) (h : ∃ J : Bool → World → Prop, ((decide ((a0n : Int) < (16 : Int)) = true → (J true w)) ∧ (decide ((a0n : Int) < (16 : Int)) = false → (0 ≤ (8 : Int) ∧ (8 : Int) ≤ (a0c : Int) ∧ (∃ t12, (convert 33 9 (.slice a0a 8 a0c)).run Tryz.prog w = .ok (.string t12) w ∧ (J (!(t12.toList == (ByteArray.mk #[97, 109, 112, 104, 112, 97, 99, 107]).toList)) w))))) ∧ (∀ x14, ∀ w1, J x14 w1 → ((x14 = true → (R (.returned (.tuple #[(.int .i64 0), (.bool false)])) w1)) ∧ (x14 = false → (0 ≤ (8 : Int) ∧ (8 : Int) ≤ (16 : Int) ∧ (16 : Int) ≤ (a0c : Int) ∧ ∀ t17a, SubA 1 a0a 8 a0c t17a → (Calls Tryz.prog 87 #[(.slice t17a 8 (a0c - 8))] w1 fun e18 w2 => ∃ t18_0 t18_1, e18 = .returned (.tuple #[(.int .i64 t18_0), t18_1]) ∧ (∃ t23, (eqlS .eql 36 (.tmp 22) (.const .nilIface) t18_1 .nilIface).run Tryz.prog w2 = .ok (.bool t23) w2 ∧ ((t23 = true → (Calls Tryz.prog 43 #[(.int .i64 t18_0)] w2 fun e26 w3 => ∃ t26, e26 = .returned (.bool t26) ∧ (R (.returned (.tuple #[(.int .i64 t18_0), (.bool t26)])) w3))) ∧ (t23 = false → (R (.returned (.tuple #[(.int .i64 t18_0), (.bool false)])) w2)))))))))) : Calls Tryz.prog 55 #[(.slice a0a a0n a0c)] w R := calls_of_ev2 (tc := .sq [.rg 2, .seq (.join (lr [(6, 9)]) [14] [.bool] (.reg (.pp 4 (.sp 9 (.pp 5 .nil) (.op .p (.op .sl (.op (.ld .str) (.pp 2 .nil)))))))) (.cond (.seq (.rg 2) .leaf) .leaf), .reg (.op .p (.op .sl (.op (.cl [.int .i64, .val]) (.pp 5 .nil)))), .reg (.pp 2 (.op (.ld .bool) (.op .p (.sp 24 (.op .p (.op (.cl [.bool]) (.pp 3 .nil))) (.pp 5 .nil)))))] .leaf) Tryz.func55 (by kernel_rfl) (by kernel_rfl) h

theorem pack_scanned_vc (a0 : Int) (a1a : Option Addr) (a1n : Nat) (a1c : Nat) (w : World) (R : Ending → World → Prop) (h : 0 ≤ (16 : Int) ∧ (16 : Int) ≤ (a1n : Int) ∧ (a1n : Int) ≤ (a1c : Int) ∧ ∀ t13a, SubA 1 a1a 16 a1c t13a → (Calls Tryz.prog 88 #[(.slice t13a ((a1n) - 16) (a1c - 16))] w fun e14 w1 => ∃ t14_0a t14_0n t14_0c t14_1, e14 = .returned (.tuple #[(.slice t14_0a t14_0n t14_0c), (.int .i64 t14_1)]) ∧ (∃ g8 w2, AlQ 132 g8 w1 w2 ∧ (∃ g9 w3, AlQ 3 g9 w2 w3 ∧ (∃ w4, StQ 132 g8 0 (.slice t14_0a t14_0n t14_0c) w3 w4 ∧ (∃ w5, StQ 3 g9 0 (.int .i64 t14_1) w4 w5 ∧ (∃ t17 w6, (Instr.makeFunc (.func 89) #[] #[(.pointer (some ⟨g8, 0, none⟩)), (.pointer (some ⟨g9, 0, none⟩))]).run Tryz.prog w5 = .ok t17 w6 ∧ (∃ S : World → Prop, S w6.drew ∧ (∃ t18a t18n t18c, (∀ w', S w' → LdQ 132 g8 0 (.slice t18a t18n t18c) w') ∧ (∃ t20a t20n t20c, (∀ w', S w' → LdQ 132 g8 0 (.slice t20a t20n t20c) w') ∧ (∃ t24, (∀ w', S w' → LdQ 3 g9 0 (.int .i64 t24) w') ∧ (Calls Tryz.prog 90 #[(.int .i64 a0), (.slice t20a t20n t20c), t17] w6.drew fun e22 w7 => ∃ t22a t22n t22c, e22 = .returned (.slice t22a t22n t22c) ∧ (∃ S_1 : World → Prop, (∀ w', S_1 w' → S w') ∧ S_1 w7 ∧ (R (.returned (.tuple #[(.slice t18a t18n t18c), (.slice t22a t22n t22c), t17, (.int .i64 (IntKind.wrap .i64 ((16 : Int) + t24)))])) w7)))))))))))))) : Calls Tryz.prog 56 #[(.int .i64 a0), (.slice a1a a1n a1c)] w R := calls_of_ev2 (tc := .sq [.rg 4, .reg (.op .p (.op .sl (.op (.cl [.slice, .int .i64]) (.pp 3 (.op .bx (.op .bx (.op .u (.op .u .nil)))))))), .reg (.op (.r .val) (.op .p .nil)), .drawS (.tks [1, 3, 5] (.ts 0 .slice (.ts 2 .slice (.ts 6 (.int .i64) (.tk 7 .p (.go 4 (.cl [.slice]) (.tks (lr [(8, 4)]) .nil))))))) []] .leaf) Tryz.func56 (by kernel_rfl) (by kernel_rfl) h

theorem pack_scanned_1_vc (a0 : Int) (a1b : Nat) (a1o : Nat) (a2b : Nat) (a2o : Nat) (w : World) (R : Ending → World → Prop) (h : ∃ t7a t7n t7c, LdQ 132 a1b a1o (.slice t7a t7n t7c) w ∧ (((decide ((IntKind.wrap .i64 (a0 + 1)) < (t7n : Int))) = true → (∃ t10a t10n t10c, LdQ 132 a1b a1o (.slice t10a t10n t10c) w ∧ (∃ t13b t13o, t10a = some ⟨t13b, t13o, none⟩ ∧ 0 ≤ (IntKind.wrap .i64 (a0 + 1)) ∧ (IntKind.wrap .i64 (a0 + 1)) < (t10n : Int) ∧ (∃ t15, LdQ 3 t13b (t13o + Int.toNat (IntKind.wrap .i64 (a0 + 1)) * 3 + 2) (.int .i64 t15) w ∧ (R (.returned (.int .i64 (IntKind.wrap .i64 ((16 : Int) + t15)))) w))))) ∧ ((decide ((IntKind.wrap .i64 (a0 + 1)) < (t7n : Int))) = false → (∃ t17, LdQ 3 a2b a2o (.int .i64 t17) w ∧ (R (.returned (.int .i64 (IntKind.wrap .i64 ((16 : Int) + t17)))) w))))) : Calls Tryz.prog 89 #[(.int .i64 a0), (.pointer (some ⟨a1b, a1o, none⟩)), (.pointer (some ⟨a2b, a2o, none⟩))] w R := calls_of_ev2 (tc := .sq [.rg 1, .seq (.reg (.pp 2 (.op (.ld .slice) (.pp 2 .nil)))) (.cond (.seq (.reg (.op (.ld .slice) (.pp 2 (.op .ix (.op .p (.op (.ld (.int .i64)) (.pp 2 .nil))))))) .leaf) .leaf), .reg (.op (.ld (.int .i64)) (.pp 2 .nil))] .leaf) Tryz.func89 (by kernel_rfl) (by kernel_rfl) h

theorem pack_refs_vc (a0 : Int) (a1a : Option Addr) (a1n : Nat) (a1c : Nat) (a2 : Value) (w : World) (R : Ending → World → Prop) (h : ∃ (I : Option Addr → Nat → Nat → Int → World → Prop) (μ : Option Addr → Nat → Nat → Int → World → Nat), I none 0 0 0 w ∧ (∀ x7a x7n x7c x13, ∀ w1, I x7a x7n x7c x13 w1 → ((decide (x13 < (a1n : Int)) = true → (∃ t16b t16o, a1a = some ⟨t16b, t16o, none⟩ ∧ 0 ≤ x13 ∧ x13 < (a1n : Int) ∧ (∃ t17, LdQ 137 t16b (t16o + Int.toNat x13 * 3) (.agg t17) w1 ∧ (∃ g9 w2, AlQ 137 g9 w1 w2 ∧ (∃ w3, StQ 137 g9 0 (.agg t17) w2 w3 ∧ (∃ J : Bool → World → Prop, (∃ t19, LdQ 3 g9 0 (.int .i64 t19) w3 ∧ (((t19 != (2 : Int)) = true → (J true w3)) ∧ ((t19 != (2 : Int)) = false → (∃ t23a t23n t23c, LdQ 33 g9 1 (.slice t23a t23n t23c) w3 ∧ (J (decide ((t23n : Int) < (32 : Int))) w3))))) ∧ (∀ x26, ∀ w4, J x26 w4 → ((x26 = true → (R (.returned (.slice x7a x7n x7c)) w4)) ∧ (x26 = false → (∃ t28a t28n t28c, LdQ 33 g9 1 (.slice t28a t28n t28c) w4 ∧ (∃ S : World → Prop, S w4.drew ∧ (∃ t33a t33n t33c, (∀ w', S w' → LdQ 33 g9 1 (.slice t33a t33n t33c) w') ∧ (0 ≤ (32 : Int) ∧ (32 : Int) ≤ (t33c : Int) ∧ (∃ t35, (∀ w', S w' → (Instr.arrayAt 44 (.slice t33a 32 t33c)).run Tryz.prog w' = .ok t35 w') ∧ (∃ t36, (∀ w', S w' → (Instr.loadAt 44 t35).run Tryz.prog w' = .ok (.agg t36) w') ∧ (∃ (f40 : Nat) (cb40 : List Value), a2 = .func (.func f40) #[] ⟨cb40⟩ ∧ goesIn Tryz.prog f40 = true ∧ Calls Tryz.prog f40 (([(.int .i64 x13)] : List Value) ++ cb40).toArray w4.drew fun e40 w5 => ∃ t40, e40 = .returned (.int .i64 t40) ∧ (∃ S_1 : World → Prop, (∀ w', S_1 w' → S w') ∧ S_1 w5 ∧ (∃ t44, (∀ w', S_1 w' → (Instr.build 75 #[(0, (.agg t36)), (1, (.int .i64 a0)), (2, (.int .i64 (IntKind.wrap .i64 (t40 - (IntKind.wrap .i64 ((t28n : Int) - (32 : Int))))))), (3, (.int .i64 (IntKind.wrap .i64 ((t28n : Int) - (32 : Int)))))]).run Tryz.prog w' = .ok (.agg t44) w') ∧ (∃ t45a t45n t45c w6, (Instr.buildSlice 34 1 #[(0, (.agg t44))]).run Tryz.prog w5 = .ok (.slice t45a t45n t45c) w6 ∧ (∃ S_2 : World → Prop, (∀ w', S_2 w' → S_1 w') ∧ S_2 w6 ∧ (∃ t46a t46n t46c w7, (Builtin.append_ #[34, 34] 34 #[(.slice x7a x7n x7c), (.slice t45a t45n t45c)]).run Tryz.prog w6 = .ok (.slice t46a t46n t46c) w7 ∧ (∃ S_3 : World → Prop, (∀ w', S_3 w' → S_2 w') ∧ S_3 w7 ∧ (I t46a t46n t46c (IntKind.wrap .i64 (x13 + 1)) w7 ∧ μ t46a t46n t46c (IntKind.wrap .i64 (x13 + 1)) w7 < μ x7a x7n x7c x13 w1))))))))))))))))))))))) ∧ (decide (x13 < (a1n : Int)) = false → (R (.returned (.slice x7a x7n x7c)) w1))))) : Calls Tryz.prog 90 #[(.int .i64 a0), (.slice a1a a1n a1c), a2] w R := calls_of_ev2 (tc := .sq [.rg 1, .rg 1, .seq (.rg 3) (.blk (.loop (lr [(7, 4), (13, 35)]) [7, 13] [.slice, .int .i64] (.sq [.rg 1, .cond .leaf .leaf, .blk (.sq [.reg (.op .p (.op .ix (.op (.ld .agg) (.op .bx (.op .p (.op .u .nil)))))), .seq (.join (lr [(18, 9)]) [26] [.bool] (.reg (.op .p (.op (.ld (.int .i64)) (.pp 2 (.sp 21 (.pp 5 .nil) (.op .p (.op (.ld .slice) (.pp 3 .nil))))))))) (.cond .leaf .leaf), .reg (.op .p (.op (.ld .slice) (.pp 3 .nil)))] (.drawS (.tks [0, 1, 6, 7, 8, 10, 12] (.ts 2 .slice (.tk 3 .sl (.ts 4 .val (.ts 5 .agg (.go 9 (.cv [.int .i64]) (.tk 11 .p (.ts 13 .agg (.go 14 (.r .slice) (.go 15 (.r .slice) (.tk 16 .p .nil))))))))))) []))] (.rg 2)))), .rg 2] .leaf) Tryz.func90 (by kernel_rfl) (by kernel_rfl) h

theorem pack_Open_vc (a0 : Array Value) (a1 : Int) (a2a : Option Addr) (a2n : Nat) (a2c : Nat) (w : World) (R : Ending → World → Prop) (h : ∃ g3 w1, (Instr.box 28 (.agg a0)).run Tryz.prog w = .ok (.pointer (some ⟨g3, 0, none⟩)) w1 ∧ (Calls Tryz.prog 43 #[(.int .i64 a1)] w1 fun e17 w2 => ∃ t17, e17 = .returned (.bool t17) ∧ (((!t17) = true → (R (.returned (.tuple #[(.slice none 0 0), (.iface 69 (.int .i64 28))])) w2)) ∧ ((!t17) = false → (Calls Tryz.prog 55 #[(.slice a2a a2n a2c)] w2 fun e22 w3 => ∃ t22_0 t22_1, e22 = .returned (.tuple #[(.int .i64 t22_0), (.bool t22_1)]) ∧ ((((!t22_1) || (t22_0 != a1)) = true → (R (.returned (.tuple #[(.slice none 0 0), (.iface 69 (.int .i64 17))])) w3)) ∧ (((!t22_1) || (t22_0 != a1)) = false → (Calls Tryz.prog 56 #[(.int .i64 a1), (.slice a2a a2n a2c)] w3 fun e36 w4 => ∃ t36_0a t36_0n t36_0c t36_1a t36_1n t36_1c t36_2 t36_3, e36 = .returned (.tuple #[(.slice t36_0a t36_0n t36_0c), (.slice t36_1a t36_1n t36_1c), t36_2, (.int .i64 t36_3)]) ∧ (∃ J : Bool → World → Prop, ((((t36_3 != (a2n : Int)) || ((t36_0n : Int) != (IntKind.wrap .i64 ((t36_1n : Int) + (1 : Int))))) = true → (J true w4)) ∧ (((t36_3 != (a2n : Int)) || ((t36_0n : Int) != (IntKind.wrap .i64 ((t36_1n : Int) + (1 : Int))))) = false → (∃ t57b t57o, t36_0a = some ⟨t57b, t57o, none⟩ ∧ 0 ≤ (t36_1n : Int) ∧ (t36_1n : Int) < (t36_0n : Int) ∧ (∃ t59, LdQ 3 t57b (t57o + Int.toNat (t36_1n : Int) * 3) (.int .i64 t59) w4 ∧ (J (t59 != (3 : Int)) w4))))) ∧ (∀ x61, ∀ w5, J x61 w5 → ((x61 = true → (R (.returned (.tuple #[(.slice none 0 0), (.iface 69 (.int .i64 17))])) w5)) ∧ (x61 = false → (∃ S : World → Prop, S w5.drew ∧ (∃ t70b t70o, t36_0a = some ⟨t70b, t70o, none⟩ ∧ 0 ≤ (t36_1n : Int) ∧ (t36_1n : Int) < (t36_0n : Int) ∧ (∃ t64, (∀ w', S w' → LdQ 28 g3 0 (.agg t64) w') ∧ (∃ t72a t72n t72c, (∀ w', S w' → LdQ 33 t70b (t70o + Int.toNat (t36_1n : Int) * 3 + 1) (.slice t72a t72n t72c) w') ∧ (Calls Tryz.prog 58 #[(.int .i64 a1)] w5.drew fun e66 w6 => ∃ t66a t66n t66c, e66 = .returned (.slice t66a t66n t66c) ∧ (∃ S_1 : World → Prop, (∀ w', S_1 w' → S w') ∧ S_1 w6 ∧ (Calls Tryz.prog 57 #[(.agg t64), (.int .u8 3), (.slice t66a t66n t66c), (.slice t72a t72n t72c)] w6 fun e73 w7 => ∃ t73_0a t73_0n t73_0c t73_1, e73 = .returned (.tuple #[(.slice t73_0a t73_0n t73_0c), t73_1]) ∧ (∃ S_2 : World → Prop, (∀ w', S_2 w' → S_1 w') ∧ S_2 w7 ∧ (∃ t77, (eqlS .neq 36 (.tmp 76) (.const .nilIface) t73_1 .nilIface).run Tryz.prog w7 = .ok (.bool t77) w7 ∧ ((t77 = true → (R (.returned (.tuple #[(.slice none 0 0), t73_1])) w7)) ∧ (t77 = false → (Calls Tryz.prog 60 #[(.slice t36_1a t36_1n t36_1c)] w7 fun e81 w8 => ∃ t81a t81n t81c, e81 = .returned (.slice t81a t81n t81c) ∧ (Calls Tryz.prog 59 #[(.slice t73_0a t73_0n t73_0c), (.slice t81a t81n t81c)] w8 fun e82 w9 => ∃ t82, e82 = .returned (.bool t82) ∧ (((!t82) = true → (R (.returned (.tuple #[(.slice none 0 0), (.iface 69 (.int .i64 10))])) w9)) ∧ ((!t82) = false → (R (.returned (.tuple #[(.slice t36_1a t36_1n t36_1c), .nilIface])) w9)))))))))))))))))))))))))))) : Calls Tryz.prog 26 #[(.agg a0), (.int .i64 a1), (.slice a2a a2n a2c)] w R := calls_of_ev2 (tc := .sq [.reg (.op .bx (.pp 2 .nil)), .seq (.reg (.op .p (.op (.cl [.bool]) (.op .p .nil)))) (.cond (.seq (.rg 3) .leaf) .leaf), .reg (.op .p (.op (.cl [.int .i64, .bool]) (.pp 5 .nil))), .seq (.reg (.pp 3 (.ap 3 .nil))) (.cond (.seq (.rg 3) .leaf) .leaf), .reg (.pp 2 (.op (.cl [.slice, .slice, .val, .int .i64]) (.pp 9 .nil))), .seq (.join (lr [(41, 21)]) [61] [.bool] (.reg (.pp 5 (.ap 6 (.op .p (.sp 53 (.pp 8 .nil) (.pp 3 (.op .ix (.op .p (.op (.ld (.int .i64)) (.pp 2 .nil))))))))))) (.cond (.seq (.rg 3) .leaf) .leaf), .drawS (.tks [1, 3, 4, 5] (.tk 6 .ix (.tk 7 .p (.ts 0 .agg (.ts 8 .slice (.go 2 (.cl [.slice]) (.go 9 (.cl [.slice, .val]) (.tks (lr [(10, 5)]) .nil)))))))) [], .seq (.reg (.op .p (.op (.ld .bool) .nil))) (.cond (.seq (.rg 3) .leaf) .leaf), .seq (.reg (.pp 2 (.op (.cl [.slice]) (.op (.cl [.bool]) (.op .p .nil))))) (.cond (.seq (.rg 3) .leaf) .leaf), .rg 3] .leaf) Tryz.func26 (by kernel_rfl) (by kernel_rfl) h

theorem pack_Name_vc (a0 : Int) (w : World) (R : Ending → World → Prop) (h : Calls Tryz.prog 43 #[(.int .i64 a0)] w fun e4 w1 => ∃ t4, e4 = .returned (.bool t4) ∧ (((!t4) = true → (R (.returned (.string (ByteArray.mk #[]))) w1)) ∧ ((!t4) = false → (Calls Tryz.prog 44 #[(.int .i64 a0)] w1 fun e7 w2 => ∃ t7, e7 = .returned (.string t7) ∧ (∃ t8, (eqlS .add 9 (.const (.string (ByteArray.mk #[112]))) (.tmp 7) (.string (ByteArray.mk #[112])) (.string t7)).run Tryz.prog w2 = .ok (.string t8) w2 ∧ (R (.returned (.string t8)) w2)))))) : Calls Tryz.prog 19 #[(.int .i64 a0)] w R := calls_of_ev2 (tc := .sq [.rg 1, .seq (.reg (.op .p (.op (.cl [.bool]) (.op .p .nil)))) (.cond (.seq (.rg 1) .leaf) .leaf), .reg (.op .p (.op (.cl [.str]) (.op (.ld .str) (.op .p .nil))))] .leaf) Tryz.func19 (by kernel_rfl) (by kernel_rfl) h

theorem pack_Save_vc (a0b : Nat) (a0o : Nat) (a1 : Array Value) (a2 : Int) (a3a : Option Addr) (a3n : Nat) (a3c : Nat) (w : World) (R : Ending → World → Prop) (h : ∃ g5 w1, (Instr.box 28 (.agg a1)).run Tryz.prog w = .ok (.pointer (some ⟨g5, 0, none⟩)) w1 ∧ (∃ g9 w2, AlQ 63 g9 w1 w2 ∧ (∃ t20, LdQ 28 g5 0 (.agg t20) w2 ∧ (Calls Tryz.prog 39 #[(.agg t20), (.int .i64 a2), (.slice a3a a3n a3c)] w2 fun e23 w3 => ∃ t23_0 t23_1, e23 = .returned (.tuple #[t23_0, t23_1]) ∧ (∃ t27, (eqlS .neq 36 (.tmp 26) (.const .nilIface) t23_1 .nilIface).run Tryz.prog w3 = .ok (.bool t27) w3 ∧ ((t27 = true → (∃ t28, (Instr.build 63 #[]).run Tryz.prog w3 = .ok (.agg t28) w3 ∧ (∃ w4, StQ 63 g9 0 (.agg t28) w3 w4 ∧ (∃ r9, (loadVar 63 ⟨g9, 0, none⟩).run Tryz.prog w4 = .ok r9 w4 ∧ (R (.returned (.tuple #[(.slice none 0 0), r9, t23_1])) w4))))) ∧ (t27 = false → (Calls Tryz.prog 19 #[(.int .i64 a2)] w3 fun e31 w5 => ∃ t31, e31 = .returned (.string t31) ∧ (Calls Tryz.prog 46 #[(.pointer (some ⟨a0b, a0o, none⟩)), (.string t31)] w5 fun e34 w6 => ∃ t34, e34 = .returned t34 ∧ (∃ t36, (eqlS .neq 36 (.tmp 35) (.const .nilIface) t34 .nilIface).run Tryz.prog w6 = .ok (.bool t36) w6 ∧ ((t36 = true → (∃ t37, (Instr.build 63 #[]).run Tryz.prog w6 = .ok (.agg t37) w6 ∧ (∃ w7, StQ 63 g9 0 (.agg t37) w6 w7 ∧ (∃ r9, (loadVar 63 ⟨g9, 0, none⟩).run Tryz.prog w7 = .ok r9 w7 ∧ (R (.returned (.tuple #[(.slice none 0 0), r9, t34])) w7))))) ∧ (t36 = false → (∃ (t40b t40o : Nat), t23_0 = .pointer (some ⟨t40b, t40o, none⟩) ∧ (∃ t43a t43n t43c, LdQ 23 t40b t40o (.slice t43a t43n t43c) w6 ∧ (∃ (I : Int → World → Prop) (μ : Int → World → Nat), I 0 w6 ∧ (∀ x45, ∀ w8, I x45 w8 → ((decide (x45 < (t43n : Int)) = true → (∃ t47b t47o, t43a = some ⟨t47b, t47o, none⟩ ∧ 0 ≤ x45 ∧ x45 < (t43n : Int) ∧ (∃ t48a t48n t48c, LdQ 33 t47b (t47o + Int.toNat x45 * 1) (.slice t48a t48n t48c) w8 ∧ (∃ t52a t52n t52c w9, (Instr.buildSlice 23 1 #[(0, (.slice t48a t48n t48c))]).run Tryz.prog w8 = .ok (.slice t52a t52n t52c) w9 ∧ (Calls Tryz.prog 47 #[(.pointer (some ⟨a0b, a0o, none⟩)), (.string t31), (.slice t52a t52n t52c)] w9 fun e53 w10 => ∃ t53, e53 = .returned t53 ∧ (∃ t55, (eqlS .neq 36 (.tmp 54) (.const .nilIface) t53 .nilIface).run Tryz.prog w10 = .ok (.bool t55) w10 ∧ ((t55 = true → (∃ t56, (Instr.build 63 #[]).run Tryz.prog w10 = .ok (.agg t56) w10 ∧ (∃ w11, StQ 63 g9 0 (.agg t56) w10 w11 ∧ (∃ r9, (loadVar 63 ⟨g9, 0, none⟩).run Tryz.prog w11 = .ok r9 w11 ∧ (R (.returned (.tuple #[(.slice none 0 0), r9, t53])) w11))))) ∧ (t55 = false → (I (IntKind.wrap .i64 (x45 + 1)) w10 ∧ μ (IntKind.wrap .i64 (x45 + 1)) w10 < μ x45 w8))))))))) ∧ (decide (x45 < (t43n : Int)) = false → (Calls Tryz.prog 48 #[(.pointer (some ⟨a0b, a0o, none⟩)), (.string t31)] w8 fun e61 w12 => ∃ t61, e61 = .returned t61 ∧ (∃ t63, (eqlS .neq 36 (.tmp 62) (.const .nilIface) t61 .nilIface).run Tryz.prog w12 = .ok (.bool t63) w12 ∧ ((t63 = true → (∃ t64, (Instr.build 63 #[]).run Tryz.prog w12 = .ok (.agg t64) w12 ∧ (∃ w13, StQ 63 g9 0 (.agg t64) w12 w13 ∧ (∃ r9, (loadVar 63 ⟨g9, 0, none⟩).run Tryz.prog w13 = .ok r9 w13 ∧ (R (.returned (.tuple #[(.slice none 0 0), r9, t61])) w13))))) ∧ (t63 = false → (∃ S : World → Prop, S w12.drew ∧ (∃ (t67b t67o : Nat), t23_0 = .pointer (some ⟨t67b, t67o, none⟩) ∧ (∃ (t72b t72o : Nat), t23_0 = .pointer (some ⟨t72b, t72o, none⟩) ∧ (∃ t69a t69n t69c, (∀ w', S w' → LdQ 34 t67b (t67o + 3) (.slice t69a t69n t69c) w') ∧ (∃ t75, (∀ w', S w' → LdQ 3 t72b (t72o + 1) (.int .i64 t75) w') ∧ (∃ t78, (∀ w', S w' → (Instr.build 63 #[(0, (.int .i64 a2)), (1, (.int .i64 t75)), (2, (.int .i64 (a3n : Int)))]).run Tryz.prog w' = .ok (.agg t78) w') ∧ (∃ w14, StQ 63 g9 0 (.agg t78) w12.drew w14 ∧ (∃ r9, (loadVar 63 ⟨g9, 0, none⟩).run Tryz.prog w14 = .ok r9 w14 ∧ (R (.returned (.tuple #[(.slice t69a t69n t69c), r9, .nilIface])) w14))))))))))))))))))))))))))))))) : Calls Tryz.prog 23 #[(.pointer (some ⟨a0b, a0o, none⟩)), (.agg a1), (.int .i64 a2), (.slice a3a a3n a3c)] w R := calls_of_ev2 (tc := .sq [.reg (.op .bx (.op .p (.op .bx (.op .p .nil)))), .reg (.op (.ld .agg) (.pp 2 (.op (.cl [.val, .val]) (.pp 5 .nil)))), .seq (.reg (.op .p (.op (.ld .bool) .nil))) (.cond (.seq (.reg (.op (.ld .agg) (.pp 2 (.op .u (.op .p .nil))))) .leaf) .leaf), .reg (.op .p (.op (.cl [.str]) (.op .p .nil))), .sq [.reg (.pp 2 (.op (.cl [.val]) (.op .p .nil))), .reg (.op .p (.op (.ld .bool) .nil))] (.cond (.seq (.reg (.op (.ld .agg) (.pp 2 (.op .u (.op .p .nil))))) .leaf) .leaf), .seq (.reg (.op .p (.op .nc (.pp 2 (.op (.ld .slice) (.pp 2 .nil)))))) (.blk (.loop (lr [(8, 1), (10, 1), (16, 2), (45, 14)]) [45] [.int .i64] (.sq [.rg 1, .cond .leaf .leaf, .blk (.sq [.reg (.op .ix (.op (.ld .slice) (.op .p .nil))), .reg (.pp 3 (.op (.r .slice) (.op (.cl [.val]) (.op .p .nil)))), .reg (.op .p (.op (.ld .bool) .nil))] (.cond (.seq (.reg (.op (.ld .agg) (.pp 2 (.op .u (.op .p .nil))))) .leaf) .leaf))] (.rg 2)))), .sq [.reg (.pp 2 (.op (.cl [.val]) (.op .p .nil))), .reg (.op .p (.op (.ld .bool) .nil))] (.cond (.seq (.reg (.op (.ld .agg) (.pp 2 (.op .u (.op .p .nil))))) .leaf) .leaf), .drawS (.tk 0 .p (.tk 1 .nc (.tks [2, 4, 5] (.tk 6 .nc (.tks [7, 8, 10, 11] (.ts 3 .slice (.tk 13 .p (.ts 9 (.int .i64) (.ts 12 .agg (.go 14 .u (.tk 15 .p .nil))))))))))) [14, 15]] .leaf) Tryz.func23 (by kernel_rfl) (by kernel_rfl) h

theorem slices_Concat_byte_byte_vc (a0a : Option Addr) (a0n : Nat) (a0c : Nat) (w : World) (R : Ending → World → Prop) (h : ∃ (I : Int → Int → World → Prop) (μ : Int → Int → World → Nat), I 0 0 w ∧ (∀ x3 x11, ∀ w1, I x3 x11 w1 → ((decide (x11 < (a0n : Int)) = true → (∃ t13b t13o, a0a = some ⟨t13b, t13o, none⟩ ∧ 0 ≤ x11 ∧ x11 < (a0n : Int) ∧ (∃ t14a t14n t14c, LdQ 33 t13b (t13o + Int.toNat x11 * 1) (.slice t14a t14n t14c) w1 ∧ (∃ J : World → Prop, (((decide ((IntKind.wrap .i64 (x3 + (t14n : Int))) < (0 : Int))) = true → (False)) ∧ ((decide ((IntKind.wrap .i64 (x3 + (t14n : Int))) < (0 : Int))) = false → (J  w1))) ∧ (∀ w2, J  w2 → (I (IntKind.wrap .i64 (x3 + (t14n : Int))) (IntKind.wrap .i64 (x11 + 1)) w2 ∧ μ (IntKind.wrap .i64 (x3 + (t14n : Int))) (IntKind.wrap .i64 (x11 + 1)) w2 < μ x3 x11 w1)))))) ∧ (decide (x11 < (a0n : Int)) = false → (Calls Tryz.prog 73 #[(.slice none 0 0), (.int .i64 x3)] w1 fun e24 w3 => ∃ t24a t24n t24c, e24 = .returned (.slice t24a t24n t24c) ∧ (∃ (I_1 : Option Addr → Nat → Nat → Int → World → Prop) (μ_1 : Option Addr → Nat → Nat → Int → World → Nat), I_1 t24a t24n t24c 0 w3 ∧ (∀ x6a x6n x6c x27, ∀ w4, I_1 x6a x6n x6c x27 w4 → ((decide (x27 < (a0n : Int)) = true → (∃ t29b t29o, a0a = some ⟨t29b, t29o, none⟩ ∧ 0 ≤ x27 ∧ x27 < (a0n : Int) ∧ (∃ t30a t30n t30c, LdQ 33 t29b (t29o + Int.toNat x27 * 1) (.slice t30a t30n t30c) w4 ∧ (∃ t33a t33n t33c w5, (Builtin.append_ #[33, 33] 33 #[(.slice x6a x6n x6c), (.slice t30a t30n t30c)]).run Tryz.prog w4 = .ok (.slice t33a t33n t33c) w5 ∧ (I_1 t33a t33n t33c (IntKind.wrap .i64 (x27 + 1)) w5 ∧ μ_1 t33a t33n t33c (IntKind.wrap .i64 (x27 + 1)) w5 < μ_1 x6a x6n x6c x27 w4))))) ∧ (decide (x27 < (a0n : Int)) = false → (R (.returned (.slice x6a x6n x6c)) w4)))))))))) : Calls Tryz.prog 40 #[(.slice a0a a0n a0c)] w R := calls_of_ev2 (tc := .sq [.rg 1, .rg 1, .seq (.rg 3) (.blk (.loop (lr [(3, 1), (5, 1), (11, 12)]) [3, 11] [.int .i64, .int .i64] (.sq [.rg 1, .cond .leaf .leaf, .blk (.sq [.reg (.op .ix (.op (.ld .slice) (.op .p .nil))), .rg 5, .rg 2] (.join [21] [] [] (.cond (.reg (.op .p (.op .bx .nil))) .leaf)))] (.rg 2)))), .reg (.op .p (.op (.cl [.slice]) (.op .p .nil))), .seq (.rg 3) (.blk (.loop (lr [(6, 1), (8, 1), (27, 8)]) [6, 27] [.slice, .int .i64] (.sq [.rg 1, .cond .leaf .leaf, .blk (.seq (.reg (.op .ix (.op (.ld .slice) (.op .p .nil)))) (.reg (.pp 2 (.op (.r .slice) (.op .p .nil)))))] (.rg 2)))), .rg 2] .leaf) Tryz.func40 (by kernel_rfl) (by kernel_rfl) h

theorem slices_Grow_byte_byte_vc (a0a : Option Addr) (a0n : Nat) (a0c : Nat) (a1 : Int) (w : World) (R : Ending → World → Prop) (h : ∃ J : World → Prop, ((decide (a1 < (0 : Int)) = true → (False)) ∧ (decide (a1 < (0 : Int)) = false → (J  w))) ∧ (∀ w1, J  w1 → (∃ J_1 : Option Addr → Nat → Nat → World → Prop, (((decide ((IntKind.wrap .i64 (a1 - (IntKind.wrap .i64 ((a0c : Int) - (a0n : Int))))) > (0 : Int))) = true → (0 ≤ (a0c : Int) ∧ (a0c : Int) ≤ (a0c : Int) ∧ (∃ t22a t22n t22c w2, (Builtin.append_ #[33, 3] 33 #[(.slice a0a (a0c) a0c), (.int .i64 (IntKind.wrap .i64 (a1 - (IntKind.wrap .i64 ((a0c : Int) - (a0n : Int))))))]).run Tryz.prog w1 = .ok (.slice t22a t22n t22c) w2 ∧ (0 ≤ (a0n : Int) ∧ (a0n : Int) ≤ (t22c : Int) ∧ (J_1 t22a (a0n) t22c w2))))) ∧ ((decide ((IntKind.wrap .i64 (a1 - (IntKind.wrap .i64 ((a0c : Int) - (a0n : Int))))) > (0 : Int))) = false → (J_1 a0a a0n a0c w1))) ∧ (∀ x0a x0n x0c, ∀ w3, J_1 x0a x0n x0c w3 → (R (.returned (.slice x0a x0n x0c)) w3))))) : Calls Tryz.prog 73 #[(.slice a0a a0n a0c), (.int .i64 a1)] w R := calls_of_ev2 (tc := .sq [.rg 1, .seq (.rg 2) (.join [7] [] [] (.cond (.reg (.op .p (.op .bx .nil))) .leaf)), .sq [.rg 8, .rg 2] (.join (lr [(0, 1), (17, 9)]) [0] [.slice] (.cond (.reg (.pp 3 (.op .sl (.op .p (.op (.r .slice) (.pp 2 (.op .sl (.op .p .nil)))))))) .leaf)), .rg 2] .leaf) Tryz.func73 (by kernel_rfl) (by kernel_rfl) h

theorem bytes_Equal_vc (a0a : Option Addr) (a0n : Nat) (a0c : Nat) (a1a : Option Addr) (a1n : Nat) (a1c : Nat) (w : World) (R : Ending → World → Prop) (h : ∃ t6, (convert 33 9 (.slice a0a a0n a0c)).run Tryz.prog w = .ok (.string t6) w ∧ (∃ t8, (convert 33 9 (.slice a1a a1n a1c)).run Tryz.prog w = .ok (.string t8) w ∧ (R (.returned (.bool (t6.toList == t8.toList))) w))) : Calls Tryz.prog 59 #[(.slice a0a a0n a0c), (.slice a1a a1n a1c)] w R := calls_of_ev2 (tc := .sq [.rg 1, .reg (.op .p (.op (.ld .str) (.op .p (.op (.ld .str) (.pp 2 .nil)))))] .leaf) Tryz.func59 (by kernel_rfl) (by kernel_rfl) h

theorem strconv_Itoa_vc (a0 : Int) (w : World) (R : Ending → World → Prop) (h : Calls Tryz.prog 80 #[(.int .i64 a0)] w fun e4 w1 => ∃ t4, e4 = .returned (.string t4) ∧ (R (.returned (.string t4)) w1)) : Calls Tryz.prog 44 #[(.int .i64 a0)] w R := calls_of_ev2 (tc := .sq [.rg 1, .reg (.op .p (.op (.cl [.str]) (.op .p .nil)))] .leaf) Tryz.func44 (by kernel_rfl) (by kernel_rfl) h

theorem internal_strconv_Itoa_vc (a0 : Int) (w : World) (R : Ending → World → Prop) (h : Calls Tryz.prog 113 #[(.int .i64 a0), (.int .i64 10)] w fun e4 w1 => ∃ t4, e4 = .returned (.string t4) ∧ (R (.returned (.string t4)) w1)) : Calls Tryz.prog 80 #[(.int .i64 a0)] w R := calls_of_ev2 (tc := .sq [.rg 1, .reg (.op .p (.op (.cl [.str]) (.op .p .nil)))] .leaf) Tryz.func80 (by kernel_rfl) (by kernel_rfl) h

theorem internal_strconv_FormatInt_vc (a0 : Int) (a1 : Int) (w : World) (R : Ending → World → Prop) (h : ((a1 == (10 : Int)) = true → ((((decide ((0 : Int) ≤ a0)) && (decide (a0 < (100 : Int)))) = true → (Calls Tryz.prog 131 #[(.int .i64 a0)] w fun e19 w1 => ∃ t19, e19 = .returned (.string t19) ∧ (R (.returned (.string t19)) w1))) ∧ (((decide ((0 : Int) ≤ a0)) && (decide (a0 < (100 : Int)))) = false → (∃ g5 w2, AlQ 215 g5 w w2 ∧ (∃ J : Int → World → Prop, ((decide (a0 < (0 : Int)) = true → (J (IntKind.wrap .u64 (0 - (IntKind.wrap .u64 a0))) w2)) ∧ (decide (a0 < (0 : Int)) = false → (J (IntKind.wrap .u64 a0) w2))) ∧ (∀ x6, ∀ w3, J x6 w3 → (Calls Tryz.prog 132 #[(.int .u64 x6)] w3 fun e27 w4 => ∃ t27, e27 = .returned (.int .i64 t27) ∧ (0 ≤ (1 : Int) ∧ (1 : Int) ≤ (IntKind.wrap .i64 ((1 : Int) + t27)) ∧ (IntKind.wrap .i64 ((1 : Int) + t27)) ≤ (24 : Int) ∧ ∀ t30a, SubA 1 (some ⟨g5, 0, none⟩) 1 24 t30a → (Calls Tryz.prog 133 #[(.slice t30a ((Int.toNat (IntKind.wrap .i64 ((1 : Int) + t27))) - 1) 23), (.int .u64 x6)] w4 fun e32 w5 => e32 = .returned (.tuple #[]) ∧ ((decide (a0 < (0 : Int)) = true → (∃ w6, StQ 5 g5 0 (.int .u8 45) w5 w6 ∧ (0 ≤ (IntKind.wrap .i64 ((1 : Int) + t27)) ∧ (IntKind.wrap .i64 ((1 : Int) + t27)) ≤ (24 : Int) ∧ (∃ t39, (convert 33 9 (.slice (some ⟨g5, 0, none⟩) (Int.toNat (IntKind.wrap .i64 ((1 : Int) + t27))) 24)).run Tryz.prog w6 = .ok (.string t39) w6 ∧ (R (.returned (.string t39)) w6))))) ∧ (decide (a0 < (0 : Int)) = false → (0 ≤ (1 : Int) ∧ (1 : Int) ≤ (IntKind.wrap .i64 ((1 : Int) + t27)) ∧ (IntKind.wrap .i64 ((1 : Int) + t27)) ≤ (24 : Int) ∧ ∀ t42a, SubA 1 (some ⟨g5, 0, none⟩) 1 24 t42a → (∃ t43, (convert 33 9 (.slice t42a ((Int.toNat (IntKind.wrap .i64 ((1 : Int) + t27))) - 1) 23)).run Tryz.prog w5 = .ok (.string t43) w5 ∧ (R (.returned (.string t43)) w5)))))))))))))) ∧ ((a1 == (10 : Int)) = false → (Calls Tryz.prog 134 #[(.slice none 0 0), (.int .u64 (IntKind.wrap .u64 a0)), (.int .i64 a1), (.bool (decide (a0 < (0 : Int)))), (.bool false)] w fun e50 w7 => ∃ t50_0a t50_0n t50_0c t50_1, e50 = .returned (.tuple #[(.slice t50_0a t50_0n t50_0c), (.string t50_1)]) ∧ (R (.returned (.string t50_1)) w7)))) : Calls Tryz.prog 113 #[(.int .i64 a0), (.int .i64 a1)] w R := calls_of_ev2 (tc := .sq [.rg 1, .seq (.rg 2) (.cond (.sq [.seq (.reg (.pp 3 (.ap 2 .nil))) (.cond (.seq (.reg (.op .p (.op (.cl [.str]) (.op .p .nil)))) .leaf) .leaf), .reg (.op .bx .nil), .rg 3, .seq (.rg 2) (.join [6, 24, 25] [6] [.int .u64] (.cond (.rg 3) .leaf)), .reg (.op .p (.op (.cl [.int .i64]) (.op .p .nil))), .reg (.pp 2 (.op .sl (.op .p (.op (.cl []) .nil)))), .seq (.rg 2) (.cond (.sq [.reg (.op .p (.op .u .nil)), .reg (.pp 2 (.op .sl (.op (.ld .str) (.op .p .nil))))] .leaf) .leaf), .reg (.pp 2 (.op .sl (.op (.ld .str) (.op .p .nil))))] .leaf) .leaf), .reg (.pp 5 (.op (.cl [.slice, .str]) (.pp 5 .nil))), .rg 2] .leaf) Tryz.func113 (by kernel_rfl) (by kernel_rfl) h

theorem internal_strconv_small_vc (a0 : Int) (w : World) (R : Ending → World → Prop) (h : (decide (a0 < (10 : Int)) = true → (0 ≤ a0 ∧ a0 ≤ (IntKind.wrap .i64 (a0 + 1)) ∧ (IntKind.wrap .i64 (a0 + 1)) ≤ ((ByteArray.mk #[48, 49, 50, 51, 52, 53, 54, 55, 56, 57, 97, 98, 99, 100, 101, 102, 103, 104, 105, 106, 107, 108, 109, 110, 111, 112, 113, 114, 115, 116, 117, 118, 119, 120, 121, 122]).size : Int) ∧ (R (.returned (.string ((ByteArray.mk #[48, 49, 50, 51, 52, 53, 54, 55, 56, 57, 97, 98, 99, 100, 101, 102, 103, 104, 105, 106, 107, 108, 109, 110, 111, 112, 113, 114, 115, 116, 117, 118, 119, 120, 121, 122]).extract (Int.toNat a0) (Int.toNat (IntKind.wrap .i64 (a0 + 1)))))) w))) ∧ (decide (a0 < (10 : Int)) = false → (0 ≤ (IntKind.wrap .i64 (a0 * (2 : Int))) ∧ (IntKind.wrap .i64 (a0 * (2 : Int))) ≤ (IntKind.wrap .i64 ((IntKind.wrap .i64 (a0 * (2 : Int))) + (2 : Int))) ∧ (IntKind.wrap .i64 ((IntKind.wrap .i64 (a0 * (2 : Int))) + (2 : Int))) ≤ ((ByteArray.mk #[48, 48, 48, 49, 48, 50, 48, 51, 48, 52, 48, 53, 48, 54, 48, 55, 48, 56, 48, 57, 49, 48, 49, 49, 49, 50, 49, 51, 49, 52, 49, 53, 49, 54, 49, 55, 49, 56, 49, 57, 50, 48, 50, 49, 50, 50, 50, 51, 50, 52, 50, 53, 50, 54, 50, 55, 50, 56, 50, 57, 51, 48, 51, 49, 51, 50, 51, 51, 51, 52, 51, 53, 51, 54, 51, 55, 51, 56, 51, 57, 52, 48, 52, 49, 52, 50, 52, 51, 52, 52, 52, 53, 52, 54, 52, 55, 52, 56, 52, 57, 53, 48, 53, 49, 53, 50, 53, 51, 53, 52, 53, 53, 53, 54, 53, 55, 53, 56, 53, 57, 54, 48, 54, 49, 54, 50, 54, 51, 54, 52, 54, 53, 54, 54, 54, 55, 54, 56, 54, 57, 55, 48, 55, 49, 55, 50, 55, 51, 55, 52, 55, 53, 55, 54, 55, 55, 55, 56, 55, 57, 56, 48, 56, 49, 56, 50, 56, 51, 56, 52, 56, 53, 56, 54, 56, 55, 56, 56, 56, 57, 57, 48, 57, 49, 57, 50, 57, 51, 57, 52, 57, 53, 57, 54, 57, 55, 57, 56, 57, 57]).size : Int) ∧ (R (.returned (.string ((ByteArray.mk #[48, 48, 48, 49, 48, 50, 48, 51, 48, 52, 48, 53, 48, 54, 48, 55, 48, 56, 48, 57, 49, 48, 49, 49, 49, 50, 49, 51, 49, 52, 49, 53, 49, 54, 49, 55, 49, 56, 49, 57, 50, 48, 50, 49, 50, 50, 50, 51, 50, 52, 50, 53, 50, 54, 50, 55, 50, 56, 50, 57, 51, 48, 51, 49, 51, 50, 51, 51, 51, 52, 51, 53, 51, 54, 51, 55, 51, 56, 51, 57, 52, 48, 52, 49, 52, 50, 52, 51, 52, 52, 52, 53, 52, 54, 52, 55, 52, 56, 52, 57, 53, 48, 53, 49, 53, 50, 53, 51, 53, 52, 53, 53, 53, 54, 53, 55, 53, 56, 53, 57, 54, 48, 54, 49, 54, 50, 54, 51, 54, 52, 54, 53, 54, 54, 54, 55, 54, 56, 54, 57, 55, 48, 55, 49, 55, 50, 55, 51, 55, 52, 55, 53, 55, 54, 55, 55, 55, 56, 55, 57, 56, 48, 56, 49, 56, 50, 56, 51, 56, 52, 56, 53, 56, 54, 56, 55, 56, 56, 56, 57, 57, 48, 57, 49, 57, 50, 57, 51, 57, 52, 57, 53, 57, 54, 57, 55, 57, 56, 57, 57]).extract (Int.toNat (IntKind.wrap .i64 (a0 * (2 : Int)))) (Int.toNat (IntKind.wrap .i64 ((IntKind.wrap .i64 (a0 * (2 : Int))) + (2 : Int))))))) w)))) : Calls Tryz.prog 131 #[(.int .i64 a0)] w R := calls_of_ev2 (tc := .sq [.rg 1, .seq (.rg 2) (.cond (.seq (.reg (.pp 3 (.op .sl (.op .p .nil)))) .leaf) .leaf), .reg (.pp 5 (.op .sl (.op .p .nil)))] .leaf) Tryz.func131 (by kernel_rfl) (by kernel_rfl) h

end Go.Proofs.YtmdandkoajocpaaGreatDoor
end

section
namespace Go.Proofs.YtmdandkoajocpaaGreatDoor
open Go Sx
set_option maxRecDepth 8000

structure PcD where
 a : Option Addr
 c : Nat
 l : List UInt8
def PcD.v (p : PcD) : Value := .slice p.a p.l.length p.c
def PcD.row (p : PcD) : Res := .row 5 1 (.slice p.a p.l.length p.c) p.l.length (bv p.l)
structure FP where
 la : Option Addr
 lc : Nat
 ps : List PcD
 ra : Option Addr
 rc : Nat
 rs : List RefD
def fileL (num : Int) (f : FP) : List Value := [.slice f.la f.ps.length f.lc, .int .i64 (((f.ps.map PcD.l).flatten.length : Nat) : Int), .int .i64 num, .slice f.ra f.rs.length f.rc]
def fileR (g : Nat) (num : Int) (f : FP) : List Res := [.arr g 105 (fileL num f), .row 33 1 (.slice f.la f.ps.length f.lc) f.ps.length (f.ps.map PcD.v), .row 75 35 (.slice f.ra f.rs.length f.rc) f.rs.length (f.rs.flatMap refC)]
def FileIn (w0 : World) (X : List Nat) (w : World) (g : Nat) (num : Int) (ps : List (List UInt8)) (rs : List RefD) (N : List Res) : Prop := ∃ f : FP, f.ps.map PcD.l = ps ∧ f.rs = rs ∧ St w0 X w (fileR g num f ++ (f.ps.map PcD.row ++ N))

theorem bbA' (w : World) : (isAgg 23).run Tryz.prog w = .ok false w := Tryz.isAgg23 w
theorem bbS' (w : World) : (sizeOf 23).run Tryz.prog w = .ok 1 w := Tryz.sizeOf23 w
theorem inS' (w : World) : (sizeOf 3).run Tryz.prog w = .ok 1 w := Tryz.sizeOf3 w
theorem rsA' (w : World) : (isAgg 34).run Tryz.prog w = .ok false w := Tryz.isAgg34 w
theorem rsS' (w : World) : (sizeOf 34).run Tryz.prog w = .ok 1 w := Tryz.sizeOf34 w
theorem bsA' (w : World) : (isAgg 33).run Tryz.prog w = .ok false w := Tryz.isAgg33 w

section
variable {w0 w w' : World} {X : List Nat} {N N' T : List Res} {g : Nat} {num : Int} {ps : List (List UInt8)} {rs : List RefD}

theorem FileIn.same (h : FileIn w0 X w g num ps rs N) (hc : Chg [] w w') : FileIn w0 X w' g num ps rs N := by obtain ⟨f, h1, h2, hS⟩ := h; exact ⟨f, h1, h2, hS.same hc⟩
theorem FileIn.chg (h : FileIn w0 X w g num ps rs N) : Chg X w0 w := by obtain ⟨f, h1, h2, hS⟩ := h; exact hS.chg
theorem FileIn.rest (h : FileIn w0 X w g num ps rs N) : St w0 X w N := by
 obtain ⟨f, h1, h2, hS⟩ := h
 exact hS.sub ((List.sublist_append_right _ _).trans (List.sublist_append_right _ _))
theorem FileIn.addSt (h : FileIn w0 X w g num ps rs N) (h' : St w [] w' T) : FileIn w0 X w' g num ps rs (N ++ T) := by
 obtain ⟨f, h1, h2, hS⟩ := h
 refine ⟨f, h1, h2, ?_⟩
 have := Sx.St.callPart (N := []) (by rw [List.append_nil]; exact hS) h'
 rw [List.append_assoc, List.append_assoc] at this
 exact this
theorem FileIn.dropN (h : FileIn w0 X w g num ps rs N) (hn : N'.Sublist N) : FileIn w0 X w g num ps rs N' := by
 obtain ⟨f, h1, h2, hS⟩ := h
 exact ⟨f, h1, h2, hS.sub (List.Sublist.append_left (List.Sublist.append_left hn _) _)⟩

theorem pkput_spec' {f : FP} {a : Option Addr} {c : Nat} {l : List UInt8} (hS : St w0 X w (fileR g num f ++ (f.ps.map PcD.row ++ (N ++ [.row 5 1 (.slice a l.length c) l.length (bv l)])))) (hp : f.ps.length < 1000000) (hb : (f.ps.map PcD.l).flatten.length + l.length ≤ 4611686018427387904) :
   Calls Tryz.prog 102 #[.pointer (some ⟨g, 0, none⟩), .slice a l.length c] w fun e w' => e = .returned (.tuple #[]) ∧ ∃ la lc, St w0 X w' (fileR g num { f with la := la, lc := lc, ps := f.ps ++ [⟨a, c, l⟩] } ++ ((f.ps ++ [(⟨a, c, l⟩ : PcD)]).map PcD.row ++ N)) := by
 apply pack_pieces_put_vc
 obtain ⟨g2, w2, va, vc, w3, r2, r3, h3, h2, c2⟩ := hS.pushV (i := 1) (ty := 23) bbT rfl (.slice a l.length c) rfl (by omega) (by simp only [maxLen]; omega)
 obtain ⟨w4, r4, h4⟩ := h3.stL (i := 0) (o := 0) (off := 0) (T := 23) (v := .slice va (f.ps.length + 1) vc) rfl (bbS' _) rfl (by simp [fileL]) rfl
 have e1 : IntKind.wrap .i64 ((((f.ps.map PcD.l).flatten.length : Nat) : Int) + ((l.length : Nat) : Int)) = ((((f.ps ++ [(⟨a, c, l⟩ : PcD)]).map PcD.l).flatten.length : Nat) : Int) := by
   rw [wrap_i64 (by omega) (by omega)]; simp
 obtain ⟨w5, r5, h5⟩ := h4.stL (i := 0) (o := 1) (off := 1) (T := 3) (v := .int .i64 ((((f.ps ++ [(⟨a, c, l⟩ : PcD)]).map PcD.l).flatten.length : Nat) : Int)) rfl (inS' _) rfl (by simp [fileL]) rfl
 refine ⟨_, _, _, hS.ldL (i := 0) (o := 0) rfl (bbA' _) rfl rfl, _, _, _, w2, r2, _, _, _, w3, r3, w4, r4, _, h4.ldL (i := 0) (o := 1) rfl (inA _) rfl rfl, w5, by rw [e1]; exact r5, rfl, va, vc, ?_⟩
 have h6 : St w0 X w5 ([.arr g 105 [.slice va (f.ps.length + 1) vc, .int .i64 ((((f.ps ++ [(⟨a, c, l⟩ : PcD)]).map PcD.l).flatten.length : Nat) : Int), .int .i64 num, .slice f.ra f.rs.length f.rc], .row 33 1 (.slice va (f.ps.length + 1) vc) (f.ps.length + 1) (f.ps.map PcD.v ++ [.slice a l.length c]), .row 75 35 (.slice f.ra f.rs.length f.rc) f.rs.length (f.rs.flatMap refC)] ++ (f.ps.map PcD.row ++ (N ++ [.row 5 1 (.slice a l.length c) l.length (bv l)]))) := h5
 have e2 : fileR g num { f with la := va, lc := vc, ps := f.ps ++ [⟨a, c, l⟩] } = [.arr g 105 [.slice va (f.ps.length + 1) vc, .int .i64 ((((f.ps ++ [(⟨a, c, l⟩ : PcD)]).map PcD.l).flatten.length : Nat) : Int), .int .i64 num, .slice f.ra f.rs.length f.rc], .row 33 1 (.slice va (f.ps.length + 1) vc) (f.ps.length + 1) (f.ps.map PcD.v ++ [.slice a l.length c]), .row 75 35 (.slice f.ra f.rs.length f.rc) f.rs.length (f.rs.flatMap refC)] := by
   simp [fileR, fileL, PcD.v]
 rw [e2]
 refine h6.perm (List.Perm.append_left _ ?_)
 show (f.ps.map PcD.row ++ (N ++ [PcD.row ⟨a, c, l⟩])).Perm ((f.ps ++ [(⟨a, c, l⟩ : PcD)]).map PcD.row ++ N)
 rw [List.map_append, List.append_assoc]
 exact List.Perm.append_left _ List.perm_append_comm

theorem pkput_spec {a : Option Addr} {c : Nat} {l : List UInt8} (h : FileIn w0 X w g num ps rs (N ++ [.row 5 1 (.slice a l.length c) l.length (bv l)])) (hp : ps.length < 1000000) (hb : ps.flatten.length + l.length ≤ 4611686018427387904) :
   Calls Tryz.prog 102 #[.pointer (some ⟨g, 0, none⟩), .slice a l.length c] w fun e w' => e = .returned (.tuple #[]) ∧ FileIn w0 X w' g num (ps ++ [l]) rs N := by
 obtain ⟨f, rfl, rfl, hS⟩ := h
 refine (pkput_spec' hS (by simpa using hp) hb).mono ?_
 rintro e w' ⟨rfl, la, lc, h'⟩
 exact ⟨rfl, { f with la := la, lc := lc, ps := f.ps ++ [⟨a, c, l⟩] }, by simp, rfl, h'⟩

theorem built_pkf : Tryz.prog.built 105 = fun parts => Instr.fill (fun i => (#[(0, 2), (2, 1), (3, 1)] : Array (Nat × Nat))[i]?) #[.slice none 0 0, .int .i64 0, .int .i64 0, .slice none 0 0] parts := by kernel_rfl
theorem pkf_build (num : Int) (w : World) : (Instr.build 105 #[(1, .int .i64 num)]).run Tryz.prog w = .ok (.agg #[.slice none 0 0, .int .i64 0, .int .i64 num, .slice none 0 0]) w := by
 apply run_build
 rw [built_pkf]
 show Instr.fill _ _ [(1, _)] = _
 rw [fill_step (off := 2) (sz := 1) rfl rfl (by simp)]
 rfl

theorem num_bytes' (x : Int) (w : World) : Calls Tryz.prog 58 #[.int .i64 x] w fun e w' => ∃ a c, e = .returned (.slice a 8 c) ∧ FreshB w w' a 8 c (numL (n64 x)) := by
 refine (num_bytes x w).mono ?_
 rintro e w' ⟨a, n, c, rfl, hf⟩
 have hn : n = 8 := by rw [← hf.2.1]; exact numL_len _
 subst hn
 exact ⟨a, c, rfl, hf⟩

theorem pkbegin_spec (num : Int) (w : World) : Calls Tryz.prog 70 #[.int .i64 num] w fun e w' => ∃ g, e = .returned (.pointer (some ⟨g, 0, none⟩)) ∧ FileIn w [] w' g num [headP num] [] [] := by
 apply pack_begin_vc
 obtain ⟨g, w1, r1, h1⟩ := (St.start w).boxA (P := Tryz.prog) 105 [.slice none 0 0, .int .i64 0, .int .i64 num, .slice none 0 0]
 have h1f : FileIn w [] w1 g num [] [] [] := ⟨⟨none, 0, [], none, 0, []⟩, rfl, rfl, (h1.addNil 33 1).addNil 75 35⟩
 refine ⟨_, pkf_build num w, g, w1, r1, fun w' => FileIn w [] w' g num [headP num] [] [], ?_, fun w' hw => ⟨g, rfl, hw⟩⟩
 have fin : ∀ {w' : World} {M : List Res} {g2 : Nat} {a : Option Addr} {c : Nat}, FileIn w [] w' g num [] [] M → RdB w' (some ⟨g2, 0, none⟩) 8 8 magicL → RdB w' a 8 c (numL (n64 num)) → ∃ va vc w'', (Builtin.append_ #[33, 33] 33 #[.slice (some ⟨g2, 0, none⟩) 8 8, .slice a 8 c]).run Tryz.prog w' = .ok (.slice va 16 vc) w'' ∧
     Calls Tryz.prog 102 #[.pointer (some ⟨g, 0, none⟩), .slice va 16 vc] w'' fun e w3 => e = .returned (.tuple #[]) ∧ FileIn w [] w3 g num [headP num] [] [] := by
   intro w' M g2 a c hF hm hn
   obtain ⟨va, vc, w2, r2, k2⟩ := (St.start w').appendRdB hm (by simp) hn (by decide) (by decide)
   refine ⟨va, vc, w2, r2, ?_⟩
   have hF2 := hF.addSt k2
   have e16 : (headP num).length = 16 := headP_len num
   have hF3 : FileIn w [] w2 g num [] [] (M ++ [.row 5 1 (.slice va (headP num).length vc) (headP num).length (bv (headP num))]) := by rw [e16]; exact hF2
   have := pkput_spec hF3 (by simp) (by simp)
   rw [e16] at this
   refine this.mono ?_
   rintro e w3 ⟨rfl, h3⟩
   exact ⟨rfl, h3.dropN (List.nil_sublist _)⟩
 have lit : ∀ w', ∃ g2 w'', (Instr.buildSlice 33 8 #[(0, .int .u8 97), (1, .int .u8 109), (2, .int .u8 112), (3, .int .u8 104), (4, .int .u8 112), (5, .int .u8 97), (6, .int .u8 99), (7, .int .u8 107)]).run Tryz.prog w' = .ok (.slice (some ⟨g2, 0, none⟩) 8 8) w'' ∧ St w' [] w'' [.row 5 1 (.slice (some ⟨g2, 0, none⟩) 8 8) 8 (bv magicL)] := fun w' => (St.start w').lit bT (bv magicL) (bv_one _) (by decide)
 refine ⟨?_, ?_⟩
 · obtain ⟨g2, w2, r2, k2⟩ := lit w1.drew
   refine ⟨_, _, _, w2, r2, ?_, ?_⟩
   · obtain ⟨w3, o, r3, k3, ho⟩ := convHold k2 (i := 0) rfl
     have k3 : St w1.drew [] w3 [.blk g2 o] := k3
     refine ⟨_, _, _, w3, r3, (num_bytes' num w3).mono ?_⟩
     rintro e w4 ⟨a, c, rfl, hf⟩
     have k4 : St w1.drew [] w4 [.blk g2 o, .row 5 1 (.slice a 8 c) 8 (bv (numL (n64 num)))] := hf.add k3
     obtain ⟨va, vc, w5, r5, hC⟩ := fin ((h1f.same (Chg.drew [] w1)).addSt k4) (ho _ (k4.holds 0 _ rfl)) (k4.rd (i := 1) rfl)
     exact ⟨_, _, _, rfl, _, _, _, w5, r5, hC⟩
   · refine (num_bytes' num w2).mono ?_
     rintro e w3 ⟨a, c, rfl, hf⟩
     have k3 : St w1.drew [] w3 [.row 5 1 (.slice (some ⟨g2, 0, none⟩) 8 8) 8 (bv magicL), .row 5 1 (.slice a 8 c) 8 (bv (numL (n64 num)))] := hf.add k2
     obtain ⟨w4, o, r4, k4, ho⟩ := convHold k3 (i := 0) rfl
     have k4 : St w1.drew [] w4 [.blk g2 o, .row 5 1 (.slice a 8 c) 8 (bv (numL (n64 num)))] := k4
     obtain ⟨va, vc, w5, r5, hC⟩ := fin ((h1f.same (Chg.drew [] w1)).addSt k4) (ho _ (k4.holds 0 _ rfl)) (k4.rd (i := 1) rfl)
     exact ⟨_, _, _, rfl, _, _, _, w4, r4, _, _, _, w5, r5, hC⟩
 · refine (num_bytes' num w1.drew).mono ?_
   rintro e w2 ⟨a, c, rfl, hf⟩
   have k2 : St w1.drew [] w2 [.row 5 1 (.slice a 8 c) 8 (bv (numL (n64 num)))] := hf.add (St.start w1.drew)
   obtain ⟨g2, w3, r3, k3⟩ := k2.lit bT (bv magicL) (bv_one _) (by decide)
   have k3 : St w1.drew [] w3 [.row 5 1 (.slice a 8 c) 8 (bv (numL (n64 num))), .row 5 1 (.slice (some ⟨g2, 0, none⟩) 8 8) 8 (bv magicL)] := k3
   obtain ⟨w4, o, r4, k4, ho⟩ := convHold k3 (i := 1) rfl
   have k4 : St w1.drew [] w4 [.row 5 1 (.slice a 8 c) 8 (bv (numL (n64 num))), .blk g2 o] := k4
   obtain ⟨va, vc, w5, r5, hC⟩ := fin ((h1f.same (Chg.drew [] w1)).addSt k4) (ho _ (k4.holds 1 _ rfl)) (k4.rd (i := 0) rfl)
   exact ⟨_, _, _, rfl, _, _, _, w3, r3, _, _, _, w4, r4, _, _, _, w5, r5, hC⟩

end

end Go.Proofs.YtmdandkoajocpaaGreatDoor
end

section
namespace Go.Proofs.YtmdandkoajocpaaGreatDoor
open Go Sx
set_option maxRecDepth 8000

theorem itA (w : World) : (isAgg 46).run Tryz.prog w = .ok true w := Tryz.isAgg46 w
theorem itS (w : World) : (sizeOf 46).run Tryz.prog w = .ok 33 w := Tryz.sizeOf46 w
def it0 : ItD := ⟨List.replicate 32 0, none, 0, 0, [], by simp⟩
theorem itZ (w : World) : (zeroValue 46).run Tryz.prog w = .ok (.agg (itC it0).toArray) w := Tryz.zeroValue46 w
theorem itC_blob (x : ItD) : (itC x)[32]? = some (.slice x.a x.n x.c) := by
 rw [itC, List.getElem?_append_right (by simp [x.idl])]; simp [x.idl]

theorem ref_parts (id : List UInt8) (p q n : Int) (w : World) (hl : id.length = 32) : (Instr.build 75 #[(0, .agg (bv id).toArray), (1, .int .i64 p), (2, .int .i64 q), (3, .int .i64 n)]).run Tryz.prog w = .ok (.agg (bv id ++ [Value.int .i64 p, Value.int .i64 q, Value.int .i64 n]).toArray) w := by
 apply run_build
 rw [built_ref]
 show Instr.fill _ _ [(0, _), (1, _), (2, _), (3, _)] = _
 have hz : (refC ref0).toArray = (bv (List.replicate 32 0) ++ [Value.int .i64 0, Value.int .i64 0, Value.int .i64 0]).toArray := rfl
 rw [hz, fill_step (off := 0) (sz := 32) rfl (by simp [Value.cells, hl]) (by simp), fill_step (off := 32) (sz := 1) rfl rfl (by simp [Value.cells, hl]), fill_step (off := 33) (sz := 1) rfl rfl (by simp [Value.cells, hl]), fill_step (off := 34) (sz := 1) rfl rfl (by simp [Value.cells, hl])]
 have hbl : (bv id).length = 32 := by simp [hl]
 simp [Instr.fill, Value.cells, List.take_append, List.drop_append, hbl, List.take_of_length_le, List.drop_of_length_le, hl]

section
variable {w0 w w' : World} {X : List Nat} {M N N' T : List Res} {g : Nat} {num : Int} {ps : List (List UInt8)} {rs : List RefD}

theorem Sx.St.itRow (h : St w0 X w M) {i g : Nat} {T : TypeId} {x : ItD} (hi : M[i]? = some (.arr g T (itC x))) : RdB w (some ⟨g, 0, none⟩) 32 32 x.id := by
 have rng := h.cellsA hi
 refine ⟨.inr ⟨g, 0, rfl, fun j v hj => rng j v ?_⟩, by simp [x.idl], Nat.le_refl _, by simp⟩
 rw [itC, List.getElem?_append_left (List.getElem?_eq_some_iff.1 hj).1]; exact hj

theorem frmT_len (x : Itm) (h : x.1.length = 32) (hb : x.2.length ≤ 67108832) : 33 + x.2.length ≤ (frmT x).length ∧ (frmT x).length ≤ 42 + x.2.length := by
 have := varL_len 9 (x.1 ++ x.2).length (by rw [List.length_append, h]; omega) (by decide)
 have := varL_pos (x.1 ++ x.2).length
 simp only [frmT, frameL, List.length_cons, List.length_append, h] at *
 omega

set_option maxHeartbeats 1000000 in
theorem pkitem_spec (x : ItD) (h : FileIn w0 X w g num ps rs N) (hr : RdB w x.a x.n x.c x.blob) (hb : x.n ≤ 67108832) (hp : ps.length < 1000000) (hrs : rs.length < 1000000) (hs : ps.flatten.length ≤ 1099511627776) (hnum : OkI num) :
   Calls Tryz.prog 71 #[.pointer (some ⟨g, 0, none⟩), .agg (itC x).toArray] w fun e w' => e = .returned (.tuple #[]) ∧
     FileIn w0 X w' g num (ps ++ [frmT x.t]) (rs ++ [mkRef x.id num (((ps.flatten.length + (frmT x.t).length : Nat) : Int) - ((x.blob.length : Nat) : Int)) ((x.blob.length : Nat) : Int)]) N := by
 have hl := hr.lenB
 have hid := x.idl
 obtain ⟨fl1, fl2⟩ := frmT_len x.t hid (by show x.blob.length ≤ _; omega)
 have ht2 : x.t.2.length = x.n := hl
 obtain ⟨F, hF⟩ : ∃ F, frmT x.t = F := ⟨_, rfl⟩
 rw [hF] at fl1 fl2 ⊢
 apply pack_file_item_vc
 obtain ⟨g3, w1, r1, k1⟩ := (St.start w).boxA (P := Tryz.prog) 46 (itC x)
 have h1 := (h.addSt k1).same (Chg.drew [] w1)
 have pk : ∀ {w' ps' rs' T}, FileIn w0 X w' g num ps' rs' ((N ++ ([] ++ [.arr g3 46 (itC x)])) ++ T) → St w0 X w' [.arr g3 46 (itC x)] := fun h => h.rest.sub ((List.sublist_append_right N _).trans (List.sublist_append_left _ _))
 have pk0 : ∀ {w' ps' rs'}, FileIn w0 X w' g num ps' rs' (N ++ ([] ++ [.arr g3 46 (itC x)])) → St w0 X w' [.arr g3 46 (itC x)] := fun h => h.rest.sub (List.sublist_append_right N _)
 have ldB : ∀ {w'}, St w0 X w' [.arr g3 46 (itC x)] → (Instr.loadAt 33 (.pointer (some ⟨g3, 32, none⟩))).run Tryz.prog w' = .ok (.slice x.a x.n x.c) w' := fun h => h.ldL (i := 0) (o := 32) rfl (bsA' _) rfl (itC_blob x)
 obtain ⟨g2, w2, r2, k2⟩ := (St.start w1.drew).lit bbT [.slice (some ⟨g3, 0, none⟩) 32 32, .slice x.a x.n x.c] (by simp [Value.oneCell']) (by simp)
 have h2 := h1.same k2.chg
 let S : World → Prop := fun w' => St w0 X w' [.arr g3 46 (itC x)]
 have c02 : Chg [] w w2 := (k1.chg.trans (Chg.drew [] w1)).trans k2.chg
 refine ⟨g3, w1, r1, S, pk0 h1, by omega, by omega, _, _, _, fun w' hw => ldB hw, _, _, _, w2, r2, S, fun _ h => h, pk0 h2, (frame_spec 2 _ 2 2 _ [x.id, x.blob] w2 (k2.rd (i := 0) rfl) (Row2.cons ((pk0 h2).itRow (i := 0) rfl) (Row2.cons (hr.keep0 c02) (Row2.nil _))) (by simp; omega) (by simp)).mono ?_⟩
 rintro e w3 ⟨fa, fn, fc, rfl, hf⟩
 have eF : frameL 2 [x.id, x.blob].flatten = F := by rw [← hF]; simp [frmT, ItD.t]
 rw [eF] at hf
 have hfn : F.length = fn := hf.2.1
 subst hfn
 have h3 : FileIn w0 X w3 g num ps rs ((N ++ ([] ++ [.arr g3 46 (itC x)])) ++ [.row 5 1 (.slice fa F.length fc) F.length (bv F)]) := h2.addSt (hf.add (St.start w2))
 have h3D := h3.same (Chg.drew [] w3)
 obtain ⟨f3, e31, e32, q3⟩ := h3D
 let S3 : World → Prop := fun w' => St w0 X w' (fileR g num f3 ++ (f3.ps.map PcD.row ++ ((N ++ ([] ++ [.arr g3 46 (itC x)])) ++ [.row 5 1 (.slice fa F.length fc) F.length (bv F)])))
 have pk3 : ∀ w', S3 w' → St w0 X w' [.arr g3 46 (itC x)] := fun w' h => pk ⟨f3, rfl, rfl, h⟩
 refine ⟨_, _, _, rfl, S, fun _ h => h, pk h3, S3, q3, _, fun w' hw => Sx.St.ldL hw (i := 0) (o := 1) rfl (inA _) rfl rfl, _, _, _, fun w' hw => ldB (pk3 w' hw), (pkput_spec (h3.same (Chg.drew [] w3)) hp (by omega)).mono ?_⟩
 rintro e w4 ⟨rfl, h4⟩
 have h4D := h4.same (Chg.drew [] w4)
 obtain ⟨f4, e41, e42, q4⟩ := h4D
 let S4 : World → Prop := fun w' => St w0 X w' [.arr g 105 (fileL num f4), .arr g3 46 (itC x)]
 have s4 : ∀ {w' r1 r2}, St w0 X w' (.arr g 105 (fileL num f4) :: r1 :: r2 :: (f4.ps.map PcD.row ++ (N ++ ([] ++ [.arr g3 46 (itC x)])))) → S4 w' := fun h => h.sub (List.Sublist.cons_cons _ (((List.sublist_append_right N _).trans (List.sublist_append_right _ _)).trans ((List.sublist_cons_self _ _).trans (List.sublist_cons_self _ _))))
 have pk4 : ∀ w', S4 w' → St w0 X w' [.arr g3 46 (itC x)] := fun w' h => Sx.St.tail h
 have ldI : ∀ w', S4 w' → (Instr.loadAt 44 (.pointer (some ⟨g3, 0, none⟩))).run Tryz.prog w' = .ok (.agg (bv x.id).toArray) w' := fun w' hw => by
   have := (pk4 w' hw).ldPre (i := 0) (T := 44) (n := 32) rfl (idA' w') (idS' w') (by simp)
   rw [itC, List.take_left' (by simp [hid])] at this
   exact this
 have eAt : IntKind.wrap .i64 ((IntKind.wrap .i64 ((((f3.ps.map PcD.l).flatten.length : Nat) : Int) + ((F.length : Nat) : Int))) - ((x.n : Nat) : Int)) = (((ps.flatten.length + F.length : Nat) : Int) - ((x.blob.length : Nat) : Int)) := by
   have ei : IntKind.wrap .i64 (((ps.flatten.length : Nat) : Int) + ((F.length : Nat) : Int)) = ((ps.flatten.length : Nat) : Int) + ((F.length : Nat) : Int) := wrap_i64 (by omega) (by omega)
   rw [e31, ei, wrap_i64 (by omega) (by omega)]; omega
 have hrs4 : f4.rs.length < 1000000 := by rw [e42]; exact hrs
 have okA : OkI (((ps.flatten.length + F.length : Nat) : Int) - ((x.blob.length : Nat) : Int)) := ⟨by omega, by omega⟩
 have okN : OkI ((x.blob.length : Nat) : Int) := ⟨by omega, by omega⟩
 have eC := refC_mk hid hnum okA okN
 obtain ⟨r, hrr⟩ : ∃ r, mkRef x.id num (((ps.flatten.length + F.length : Nat) : Int) - ((x.blob.length : Nat) : Int)) ((x.blob.length : Nat) : Int) = r := ⟨_, rfl⟩
 rw [hrr] at eC ⊢
 obtain ⟨g5, w5, va, vc, w6, r5, r6, h6, h5⟩ := q4.pushA (i := 2) (ty := 34) rfT rfl (refC r) (refC_len r) (by decide) (refC_one r) (by omega) (by simp only [maxLen]; omega)
 obtain ⟨w7, r7, h7⟩ := h6.stL (i := 0) (o := 3) (off := 3) (T := 34) (v := .slice va (f4.rs.length + 1) vc) rfl (rsS' _) rfl (by simp [fileL]) rfl
 have h6 : St w0 X w6 (.arr g 105 (fileL num f4) :: .row 33 1 (.slice f4.la f4.ps.length f4.lc) f4.ps.length (f4.ps.map PcD.v) :: .row 75 35 (.slice va (f4.rs.length + 1) vc) (f4.rs.length + 1) (f4.rs.flatMap refC ++ refC r) :: (f4.ps.map PcD.row ++ (N ++ ([] ++ [.arr g3 46 (itC x)])))) := h6
 refine ⟨rfl, S4, s4 q4, _, _, _, fun w' hw => Sx.St.ldL hw (i := 0) (o := 3) rfl (rsA' _) rfl rfl, _, ldI, _, fun w' hw => Sx.St.ldL hw (i := 0) (o := 2) rfl (inA _) rfl rfl, _, _, _, fun w' hw => ldB (pk4 w' hw), _, fun w' hw => by rw [eAt, ← hl]; exact ref_parts x.id num _ _ w' hid, _, _, _, w5, by rw [← eC]; exact r5, S4, fun _ h => h, s4 h5, _, _, _, w6, r6, S4, fun _ h => h, s4 h6, w7, r7, rfl, { f4 with ra := va, rc := vc, rs := f4.rs ++ [r] }, e41, by rw [← e42], ?_⟩
 have h8 : St w0 X w7 ([.arr g 105 [.slice f4.la f4.ps.length f4.lc, .int .i64 (((f4.ps.map PcD.l).flatten.length : Nat) : Int), .int .i64 num, .slice va (f4.rs.length + 1) vc], .row 33 1 (.slice f4.la f4.ps.length f4.lc) f4.ps.length (f4.ps.map PcD.v), .row 75 35 (.slice va (f4.rs.length + 1) vc) (f4.rs.length + 1) (f4.rs.flatMap refC ++ refC r)] ++ (f4.ps.map PcD.row ++ (N ++ ([] ++ [.arr g3 46 (itC x)])))) := h7
 have e2 : fileR g num { f4 with ra := va, rc := vc, rs := f4.rs ++ [r] } = [.arr g 105 [.slice f4.la f4.ps.length f4.lc, .int .i64 (((f4.ps.map PcD.l).flatten.length : Nat) : Int), .int .i64 num, .slice va (f4.rs.length + 1) vc], .row 33 1 (.slice f4.la f4.ps.length f4.lc) f4.ps.length (f4.ps.map PcD.v), .row 75 35 (.slice va (f4.rs.length + 1) vc) (f4.rs.length + 1) (f4.rs.flatMap refC ++ refC r)] := by
   simp [fileR, fileL]
 rw [e2]
 exact h8.sub (List.Sublist.append_left (List.Sublist.append_left (List.sublist_append_left _ _) _) _)

theorem footPlain_spec (a : Option Addr) (n c : Nat) (l : List RefD) (w : World) (hr : RdR w a n c l) (hb : n ≤ 1000000) :
   Calls Tryz.prog 60 #[.slice a n c] w fun e w' => ∃ a' n' c', e = .returned (.slice a' n' c') ∧ FreshB w w' a' n' c' (footL l) := by
 have hln := hr.num (by decide)
 apply pack_footPlain_vc
 have h1 : St w [] w [.row 5 1 (.slice none 0 0) 0 (bv (footL (l.take 0)))] := (St.start w).addNil _ _
 refine ⟨fun xa xn xc x w' => ∃ i : Nat, x = (i : Int) ∧ i ≤ n ∧ St w [] w' [.row 5 1 (.slice xa xn xc) xn (bv (footL (l.take i)))], fun _ _ _ x _ => n - x.toNat, ⟨0, rfl, by omega, h1⟩, ?_⟩
 rintro xa xn xc x w2 ⟨i, rfl, hi, h2⟩
 have hxn : xn = 48 * i := by
   have e1 := (h2.rd (i := 0) rfl).lenB
   rw [footL_len, List.length_take] at e1
   omega
 refine ⟨fun h => ?_, fun h => ?_⟩
 · have hi' : i < n := by simp at h; omega
   have ha : l[i]? = some l[i] := List.getElem?_eq_getElem (by omega)
   obtain ⟨r, hrr⟩ : ∃ r, l[i] = r := ⟨_, rfl⟩
   rw [hrr] at ha
   obtain ⟨b, o, hab, q⟩ := hr.ld (P := Tryz.prog) (by decide) rfA rfS ha
   obtain ⟨g5, w3, r3, h3⟩ := h2.zeroA rfZ
   obtain ⟨w4, r4, h4⟩ := h3.stA (i := 1) (v := refC r) rfl (rfS _) (refC_len _) (refC_len _) (refC_one _)
   have h4 : St w [] w4 [.row 5 1 (.slice xa xn xc) xn (bv (footL (l.take i))), .arr g5 75 (refC r)] := h4
   obtain ⟨va, vc, w5, r5, h5⟩ := h4.appendB (i := 0) rfl (h4.idRow (i := 1) rfl) (by omega)
   have h5 : St w [] w5 [.row 5 1 (.slice va (xn + 32) vc) (xn + 32) (bv (footL (l.take i) ++ r.id)), .arr g5 75 (refC r)] := h5
   obtain ⟨_, fa, fl⟩ := refFld h5 (i := 1) rfl
   refine ⟨b, o, hab, by omega, by omega, _, q w2 (hr.keep0 h2.chg), g5, w3, r3, w4, r4, by omega, by omega, _, _, _, w5, r5, _, fa, (num_bytes' r.at_ w5).mono ?_⟩
   rintro e w6 ⟨a6, c6, rfl, hf6⟩
   have h6 := hf6.add h5
   have h6 : St w [] w6 [.row 5 1 (.slice va (xn + 32) vc) (xn + 32) (bv (footL (l.take i) ++ r.id)), .arr g5 75 (refC r), .row 5 1 (.slice a6 8 c6) 8 (bv (numL (n64 r.at_)))] := h6
   obtain ⟨vd, ve, w7, r7, h7⟩ := h6.appendB (i := 0) rfl (h6.rd (i := 2) rfl) (by omega)
   have h7 : St w [] w7 [.row 5 1 (.slice vd (xn + 32 + 8) ve) (xn + 32 + 8) (bv (footL (l.take i) ++ r.id ++ numL (n64 r.at_))), .arr g5 75 (refC r), .row 5 1 (.slice a6 8 c6) 8 (bv (numL (n64 r.at_)))] := h7
   obtain ⟨_, _, fl⟩ := refFld h7 (i := 1) rfl
   refine ⟨_, _, _, rfl, _, _, _, w7, r7, _, fl, (num_bytes' r.len w7).mono ?_⟩
   rintro e w8 ⟨a8, c8, rfl, hf8⟩
   have h8 := hf8.add h7
   have h8 : St w [] w8 [.row 5 1 (.slice vd (xn + 32 + 8) ve) (xn + 32 + 8) (bv (footL (l.take i) ++ r.id ++ numL (n64 r.at_))), .arr g5 75 (refC r), .row 5 1 (.slice a6 8 c6) 8 (bv (numL (n64 r.at_))), .row 5 1 (.slice a8 8 c8) 8 (bv (numL (n64 r.len)))] := h8
   obtain ⟨vf, vg, w9, r9, h9⟩ := h8.appendB (i := 0) rfl (h8.rd (i := 3) rfl) (by omega)
   refine ⟨_, _, _, rfl, _, _, _, w9, r9, ⟨i + 1, wrap_succ hi' (by omega), by omega, ?_⟩, mu_succ hi' (by omega)⟩
   have e2 : footL (l.take (i + 1)) = footL (l.take i) ++ r.id ++ numL (n64 r.at_) ++ numL (n64 r.len) := by
     rw [List.take_add_one, ha]; simp [footL, refBy, List.append_assoc]
   rw [e2]
   exact h9.sub (List.Sublist.cons_cons _ (List.nil_sublist _))
 · have hi' : i = n := by simp at h; omega
   rw [hi', List.take_of_length_le (by omega)] at h2
   exact ⟨_, _, _, rfl, h2.freshB (i := 0) rfl⟩

end

end Go.Proofs.YtmdandkoajocpaaGreatDoor
end

section
namespace Go.Proofs.YtmdandkoajocpaaGreatDoor
open Go Sx
set_option maxRecDepth 8000

theorem SmallI.take {xs : List Itm} (h : SmallI xs) (i : Nat) : SmallI (xs.take i) := by
 refine ⟨by have := h.num; simp; omega, fun x hx => h.idl x (List.mem_of_mem_take hx), ?_⟩
 have e : (xs.take i ++ xs.drop i).map (fun x => x.2.length) = xs.map (fun x => x.2.length) := by rw [List.take_append_drop]
 have h2 := congrArg List.sum e
 rw [List.map_append, List.sum_append] at h2
 have := h.sum
 omega
theorem frames_len : ∀ (xs : List Itm), (∀ x ∈ xs, x.1.length = 32 ∧ x.2.length ≤ 67108832) → (xs.map frmT).flatten.length ≤ 42 * xs.length + (xs.map fun x => x.2.length).sum
 | [], _ => by simp
 | x :: r, h => by
   obtain ⟨h1, h2⟩ := h x (by simp)
   have := (frmT_len x h1 h2).2
   have := frames_len r fun y hy => h y (by simp [hy])
   simp only [List.map_cons, List.flatten_cons, List.length_append, List.length_cons, List.sum_cons]
   omega
theorem SmallI.bytes {xs : List Itm} (h : SmallI xs) : (xs.map frmT).flatten.length ≤ 16950000 := by
 have h1 := frames_len xs fun x hx => ⟨h.idl x hx, by have := h.blob hx; omega⟩
 have h2 := h.num
 have h3 := h.sum
 omega
theorem sizeP_ps (num : Int) (xs : List Itm) : (headP num :: xs.map frmT).flatten.length = sizeP 16 xs := by
 rw [sizeP_eq]; simp

section
variable {w0 w w' : World} {X : List Nat} {M N N' T : List Res} {g : Nat} {num : Int} {ps : List (List UInt8)} {rs : List RefD}

theorem kyA' (w : World) : (isAgg 28).run Tryz.prog w = .ok true w := Tryz.isAgg28 w
theorem kyS' (w : World) : (sizeOf 28).run Tryz.prog w = .ok 96 w := Tryz.sizeOf28 w

theorem rdRefs (h : St w0 X w M) {i : Nat} {a : Option Addr} {c : Nat} {l : List RefD} (hi : M[i]? = some (.row 75 35 (.slice a l.length c) l.length (l.flatMap refC))) : RdR w a l.length c l := ⟨h.rd hi, fun x _ => refC_len x⟩

set_option maxHeartbeats 1000000 in
theorem pkfoot_spec (K : List UInt8) (hk : K.length = 96) (hK : KTab w) (h : FileIn w0 X w g num ps rs N) (hp : ps.length < 1000000) (hrs : rs.length ≤ 4096) (hs : ps.flatten.length ≤ 1099511627776) :
   Calls Tryz.prog 72 #[.pointer (some ⟨g, 0, none⟩), .agg (bv K).toArray] w fun e w' => e = .returned (.tuple #[]) ∧ FileIn w0 X w' g num (ps ++ [footP K num rs]) rs N := by
 apply pack_file_foot_vc
 obtain ⟨g3, w1, r1, k1⟩ := (St.start w).boxA (P := Tryz.prog) 28 (bv K)
 have h1 := (h.addSt k1).same (Chg.drew [] w1)
 obtain ⟨f, rfl, rfl, q1⟩ := h1
 have cD : Chg [] w w1.drew := k1.chg.trans (Chg.drew [] w1)
 let Q : World → Prop := fun w' => St w0 X w' (.arr g 105 (fileL num f) :: .row 33 1 (.slice f.la f.ps.length f.lc) f.ps.length (f.ps.map PcD.v) :: .row 75 35 (.slice f.ra f.rs.length f.rc) f.rs.length (f.rs.flatMap refC) :: (f.ps.map PcD.row ++ (N ++ ([] ++ [.arr g3 28 (bv K)]))))
 let S : World → Prop := fun w' => ∃ v1 v2 : Value, St w0 X w' [.arr g 105 [v1, v2, .int .i64 num, .slice f.ra f.rs.length f.rc], .arr g3 28 (bv K)]
 have q1 : Q w1.drew := q1
 have tl : ∀ {L : List Res}, (([.arr g3 28 (bv K)] : List Res)).Sublist (.row 33 1 (.slice f.la f.ps.length f.lc) f.ps.length (f.ps.map PcD.v) :: .row 75 35 (.slice f.ra f.rs.length f.rc) f.rs.length (f.rs.flatMap refC) :: (L ++ (N ++ ([] ++ [.arr g3 28 (bv K)])))) := (((List.sublist_append_right N _).trans (List.sublist_append_right _ _)).trans (List.sublist_cons_self _ _)).trans (List.sublist_cons_self _ _)
 have sk : ∀ w', Q w' → S w' := fun w' h => ⟨_, _, Sx.St.sub h (List.Sublist.cons_cons _ tl)⟩
 refine ⟨g3, w1, r1, S, sk _ q1, _, fun w' ⟨v1, v2, hw⟩ => hw.ldA (i := 1) (l := bv K) rfl (kyA' _) (kyS' _) (by simp [hk]), _, fun w' ⟨v1, v2, hw⟩ => hw.ldL (i := 0) (o := 2) rfl (inA _) rfl rfl, _, _, _, fun w' ⟨v1, v2, hw⟩ => hw.ldL (i := 0) (o := 3) rfl (rsA' _) rfl rfl, (num_bytes' num _).mono ?_⟩
 rintro e w2 ⟨a2, c2, rfl, hf2⟩
 have q2 : Q w2 := Sx.St.same q1 hf2.1
 refine ⟨_, _, _, rfl, S, fun _ h => h, sk _ q2, (footPlain_spec _ _ _ f.rs w2 (rdRefs q2 (i := 2) rfl) (by omega)).mono ?_⟩
 rintro e w3 ⟨a3, n3, c3, rfl, hf3⟩
 have q3 : Q w3 := Sx.St.same q2 hf3.1
 have hn3 : n3 = 48 * f.rs.length := by rw [← hf3.2.1, footL_len]
 refine ⟨_, _, _, rfl, S, fun _ h => h, sk _ q3, (seal_spec K 3 a2 8 c2 (numL (n64 num)) a3 n3 c3 (footL f.rs) w3 hk (((hK.keep0 cD).keep0 hf2.1).keep0 hf3.1) (hf2.rdB.keep0 hf3.1) hf3.rdB (by omega)).mono ?_⟩
 rintro e w4 ⟨a4, n4, c4, rfl, hf4⟩
 have q4 : Q w4 := Sx.St.same q3 hf4.1
 have hsl := sealF_len K 3 (numL (n64 num)) (footL f.rs) (by rw [footL_len]; omega)
 rw [footL_len] at hsl
 obtain ⟨g5, w5, r5, k5⟩ := (St.start w4).lit bbT [.slice a4 n4 c4] (by simp [Value.oneCell']) (by simp)
 have q5 : Q w5 := Sx.St.same q4 k5.chg
 refine ⟨_, _, _, rfl, S, fun _ h => h, sk _ q4, _, _, _, w5, r5, S, fun _ h => h, sk _ q5, (frame_spec 3 _ 1 1 _ [sealF K 3 (numL (n64 num)) (footL f.rs)] w5 (k5.rd (i := 0) rfl) (Row2.cons (hf4.rdB.keep0 k5.chg) (Row2.nil _)) (by simp; omega) (by simp)).mono ?_⟩
 rintro e w6 ⟨a6, n6, c6, rfl, hf6⟩
 have eF : frameL 3 [sealF K 3 (numL (n64 num)) (footL f.rs)].flatten = footP K num f.rs := by simp [footP]
 rw [eF] at hf6
 have hn6 : (footP K num f.rs).length = n6 := hf6.2.1
 subst hn6
 have hfl : (footP K num f.rs).length ≤ 67108864 := by
   have := varL_len 9 (sealF K 3 (numL (n64 num)) (footL f.rs)).length (by omega) (by decide)
   simp only [footP, frameL, List.length_cons, List.length_append]
   omega
 have q6 : Q w6 := Sx.St.same q5 hf6.1
 have h6 : St w0 X w6 (fileR g num f ++ (f.ps.map PcD.row ++ ((N ++ ([] ++ [.arr g3 28 (bv K)])) ++ [.row 5 1 (.slice a6 (footP K num f.rs).length c6) (footP K num f.rs).length (bv (footP K num f.rs))]))) := by
   have q5' : St w0 X w5 ((fileR g num f ++ (f.ps.map PcD.row ++ (N ++ ([] ++ [.arr g3 28 (bv K)])))) ++ []) := by rw [List.append_nil]; exact q5
   have := Sx.St.callPart (N := []) q5' (hf6.add (St.start w5))
   simpa only [List.append_assoc, List.nil_append] using this
 refine ⟨_, _, _, rfl, S, fun _ h => h, sk _ q6, (pkput_spec' h6 (by simpa using hp) (by omega)).mono ?_⟩
 rintro e w7 ⟨rfl, la, lc, h7⟩
 have h7' : St w0 X w7 (.arr g 105 (fileL num { f with la := la, lc := lc, ps := f.ps ++ [⟨a6, c6, footP K num f.rs⟩] }) :: .row 33 1 (.slice la (f.ps ++ [(⟨a6, c6, footP K num f.rs⟩ : PcD)]).length lc) (f.ps ++ [(⟨a6, c6, footP K num f.rs⟩ : PcD)]).length ((f.ps ++ [(⟨a6, c6, footP K num f.rs⟩ : PcD)]).map PcD.v) :: .row 75 35 (.slice f.ra f.rs.length f.rc) f.rs.length (f.rs.flatMap refC) :: ((f.ps ++ [(⟨a6, c6, footP K num f.rs⟩ : PcD)]).map PcD.row ++ (N ++ ([] ++ [.arr g3 28 (bv K)])))) := h7
 refine ⟨rfl, S, fun _ h => h, ⟨_, _, h7'.sub (List.Sublist.cons_cons _ ?_)⟩, rfl, { f with la := la, lc := lc, ps := f.ps ++ [⟨a6, c6, footP K num f.rs⟩] }, by simp, rfl, h7.sub (List.Sublist.append_left (List.Sublist.append_left (List.sublist_append_left _ _) _) _)⟩
 exact (((List.sublist_append_right N _).trans (List.sublist_append_right _ _)).trans (List.sublist_cons_self _ _)).trans (List.sublist_cons_self _ _)

end

end Go.Proofs.YtmdandkoajocpaaGreatDoor
end

section
namespace Go.Proofs.YtmdandkoajocpaaGreatDoor
open Go Sx
set_option maxRecDepth 8000

section
variable {w0 w w' : World} {X : List Nat} {M N N' T : List Res} {g : Nat} {num : Int} {ps : List (List UInt8)} {rs : List RefD}

theorem pkgood_spec (num : Int) (w : World) : Calls Tryz.prog 43 #[.int .i64 num] w fun e w' => e = .returned (.bool (goodP num)) ∧ w' = w := by
 apply pack_good_vc
 exact ⟨by simp [goodP, ge_iff_le], rfl⟩

theorem made_bad (K : List UInt8) (num : Int) (a : Option Addr) (n c : Nat) (w : World) (hg : goodP num = false) :
   Calls Tryz.prog 39 #[.agg (bv K).toArray, .int .i64 num, .slice a n c] w fun e w' => e = .returned (.tuple #[.pointer none, errV (some 28)]) ∧ Chg [] w w' := by
 apply pack_made_vc
 obtain ⟨g3, w1, r1, k1⟩ := (St.start w).boxA (P := Tryz.prog) 28 (bv K)
 refine ⟨g3, w1, r1, (pkgood_spec num w1).mono ?_⟩
 rintro e w2 ⟨rfl, rfl⟩
 rw [hg]
 exact ⟨_, rfl, fun _ => ⟨rfl, k1.chg⟩, fun h => by cases h⟩

theorem copyIt {a : Option Addr} {n c i : Nat} {l : List ItD} {x : ItD} (hr : ItR w a n c l) (hx : l[i]? = some x) (h : St w0 X w M) :
   ∃ b o g w1 w2, a = some ⟨b, o, none⟩ ∧ (Instr.loadAt 46 (.pointer (some ⟨b, o + Int.toNat (i : Int) * 33, none⟩))).run Tryz.prog w = .ok (.agg (itC x).toArray) w ∧ (Instr.alloc 46 true (.tuple #[])).run Tryz.prog w = .ok (.pointer (some ⟨g, 0, none⟩)) w1 ∧
     (Instr.storeAt 46 (.pointer (some ⟨g, 0, none⟩)) (.agg (itC x).toArray)).run Tryz.prog w1 = .ok () w2 ∧ St w0 X w2 (M ++ [.arr g 46 (itC x)]) := by
 obtain ⟨b, o, hab, q⟩ := hr.rd.ld (P := Tryz.prog) (by decide) itA itS hx
 obtain ⟨g, w1, r1, h1⟩ := h.zeroA itZ
 obtain ⟨w2, r2, h2⟩ := h1.stA (i := M.length) (v := itC x) List.getElem?_concat_length (itS _) (itC_len _) (itC_len _) (itC_one _)
 refine ⟨b, o, g, w1, w2, hab, q w hr.rd, r1, r2, ?_⟩
 rw [List.set_append_right _ _ (Nat.le_refl _), Nat.sub_self] at h2
 exact h2

set_option maxHeartbeats 1000000 in
theorem pkmade_spec (K : List UInt8) (hk : K.length = 96) (num : Int) (a : Option Addr) (n c : Nat) (l : List ItD) (w : World) (hK : KTab w) (hg : goodP num = true) (hr : ItR w a n c l) (hs : SmallI (l.map ItD.t)) :
   Calls Tryz.prog 39 #[.agg (bv K).toArray, .int .i64 num, .slice a n c] w fun e w' => ∃ g, e = .returned (.tuple #[.pointer (some ⟨g, 0, none⟩), errV none]) ∧ FileIn w [] w' g num (piecesP K num (l.map ItD.t)) (refsP num 16 (l.map ItD.t)) [] := by
 have hln := hr.rd.num (by decide)
 have hnum := hs.num
 rw [List.length_map] at hnum
 have hgi := goodP_iff.1 hg
 have hbl : ∀ x ∈ l, x.n ≤ 16777216 := fun x hx => by
   have h1 := (hr.blobs x hx).lenB
   have h2 : x.blob.length ≤ 16777216 := hs.blob (List.mem_map_of_mem hx)
   omega
 apply pack_made_vc
 obtain ⟨g3, w1, r1, k1⟩ := (St.start w).boxA (P := Tryz.prog) 28 (bv K)
 have k1 : St w [] w1 [.arr g3 28 (bv K)] := k1
 refine ⟨g3, w1, r1, (pkgood_spec num w1).mono ?_⟩
 rintro e w2 ⟨rfl, rfl⟩
 rw [hg]
 refine ⟨_, rfl, fun h => (by cases h), fun _ => ⟨fun x w' => ∃ i : Nat, x = (i : Int) ∧ i ≤ n ∧ St w [] w' [.arr g3 28 (bv K)], fun x _ => n - x.toNat, ⟨0, rfl, by omega, k1⟩, ?_⟩⟩
 rintro x w3 ⟨i, rfl, hi, k3⟩
 refine ⟨fun h => ?_, fun h => ?_⟩
 · have hi' : i < n := by simp at h; omega
   have hx : l[i]? = some l[i] := List.getElem?_eq_getElem (by omega)
   obtain ⟨b, o, g9, w4, w5, hab, hld, r4, r5, k5⟩ := copyIt (hr.keep0 k3.chg) hx k3
   have hb := hbl l[i] (List.getElem_mem _)
   refine ⟨b, o, hab, by omega, by omega, _, hld, g9, w4, r4, w5, r5, _, _, _, k5.ldL (i := 1) (o := 32) rfl (bsA' _) rfl (itC_blob _), fun h => ?_, fun _ => ⟨⟨i + 1, wrap_succ hi' (by omega), by omega, k5.sub (List.sublist_append_left _ _)⟩, mu_succ hi' (by omega)⟩⟩
   simp at h; omega
 refine (pkbegin_spec num w3).mono ?_
 rintro e w6 ⟨g, rfl, h6⟩
 have k6 := k3.same h6.chg
 have h6 : FileIn w [] w6 g num [headP num] [] [.arr g3 28 (bv K)] := by
   obtain ⟨f, e1, e2, hS⟩ := h6
   have := Sx.St.callPart (M := [.arr g3 28 (bv K)]) (N := []) k3 hS
   refine ⟨f, e1, e2, this.perm ?_⟩
   rw [List.append_nil (List.map PcD.row f.ps), ← List.append_assoc (fileR g num f)]
   exact List.perm_append_comm
 refine ⟨_, _, rfl, fun x w' => ∃ i : Nat, x = (i : Int) ∧ i ≤ n ∧ FileIn w [] w' g num (headP num :: ((l.map ItD.t).take i).map frmT) (refsP num 16 ((l.map ItD.t).take i)) [.arr g3 28 (bv K)], fun x _ => n - x.toNat, ⟨0, rfl, by omega, by simpa [refsP] using h6⟩, ?_⟩
 rintro x w7 ⟨i, rfl, hi, h7⟩
 have hst := hs.take i
 have hby := hst.bytes
 refine ⟨fun h => ?_, fun h => ?_⟩
 · have hi' : i < n := by simp at h; omega
   have hx : l[i]? = some l[i] := List.getElem?_eq_getElem (by omega)
   obtain ⟨x, hxx⟩ : ∃ x, l[i] = x := ⟨_, rfl⟩
   rw [hxx] at hx
   have hxm := List.mem_of_getElem? hx
   obtain ⟨b, o, g9, w8, w9, hab, hld, r8, r9, k9⟩ := copyIt (hr.keep0 h7.chg) hx (St.start w7)
   have h9 := h7.addSt k9
   have e16 : (headP num :: ((l.map ItD.t).take i).map frmT).flatten.length = sizeP 16 ((l.map ItD.t).take i) := sizeP_ps num _
   have hlt : ((l.map ItD.t).take i).length ≤ 4096 := hst.num
   refine ⟨b, o, hab, by omega, by omega, _, hld, g9, w8, r8, w9, r9, _, k9.ldA (i := 0) (l := itC x) rfl (itA _) (itS _) (itC_len _), (pkitem_spec x h9 ((hr.blobs x hxm).keep0 h9.chg) (by have := hbl x hxm; omega) (by simp; omega) (by rw [refsP_len]; omega) (by rw [List.flatten_cons, List.length_append, headP_len]; omega) ⟨by omega, by omega⟩).mono ?_⟩
   rintro e w10 ⟨rfl, h10⟩
   refine ⟨rfl, ⟨i + 1, wrap_succ hi' (by omega), by omega, ?_⟩, mu_succ hi' (by omega)⟩
   have et : (l.map ItD.t).take (i + 1) = (l.map ItD.t).take i ++ [x.t] := by
     rw [List.take_add_one, List.getElem?_map, hx]; rfl
   rw [et, refsP_snoc, List.map_append]
   rw [e16] at h10
   exact h10.dropN (List.sublist_append_left _ _)
 · have hi' : i = n := by simp at h; omega
   rw [hi', List.take_of_length_le (by simp; omega)] at h7 hby
   refine ⟨_, (h7.rest).ldA (i := 0) (l := bv K) rfl (kyA' _) (kyS' _) (by simp [hk]), (pkfoot_spec K hk (hK.keep0 h7.chg) h7 (by simp; omega) (by rw [refsP_len]; simp; omega) (by rw [List.flatten_cons, List.length_append, headP_len]; omega)).mono ?_⟩
   rintro e w11 ⟨rfl, h11⟩
   exact ⟨rfl, g, rfl, h11.dropN (List.nil_sublist _)⟩

theorem growNil_spec (n : Nat) (w : World) (hb : n ≤ 1099511627776) : Calls Tryz.prog 73 #[.slice none 0 0, .int .i64 (n : Int)] w fun e w' => ∃ a c, e = .returned (.slice a 0 c) ∧ St w [] w' [.row 5 1 (.slice a 0 c) 0 []] := by
 obtain ⟨inf, hinf, hz, hsz, hby⟩ := (bT).inf
 apply slices_Grow_byte_byte_vc
 have e0 : IntKind.wrap .i64 (((0 : Nat) : Int) - ((0 : Nat) : Int)) = 0 := by rw [wrap_i64 (by omega) (by omega)]; rfl
 have e1 : IntKind.wrap .i64 ((n : Int) - (0 : Int)) = (n : Int) := by rw [wrap_i64 (by omega) (by omega)]; omega
 rw [e0, e1]
 refine ⟨fun w' => w' = w, ⟨fun h => ?_, fun _ => rfl⟩, ?_⟩
 · simp at h; omega
 rintro w1 rfl
 refine ⟨fun a k c w' => k = 0 ∧ St w1 [] w' [.row 5 1 (.slice a 0 c) 0 []], ⟨fun h => ?_, fun h => ⟨rfl, (St.start w1).addNil _ _⟩⟩, ?_⟩
 · have hn : 0 < n := by simp at h; omega
   have hr := Lib.run_append_grow_zeros (P := Tryz.prog) w1 33 3 33 5 inf (.int .u8 0) .i64 .i64 (bT).ht Tryz.underlying3 hinf hz none 0 0 [] (run_firstCells_none _ _ _ _ _) n hn (by rw [hsz]; decide) (by omega) (by omega) (by rw [hby]; omega) (growslice_fits (by omega) (by rw [hby]; omega))
   have hge := grownCap_ge w1 (0 + n) 0 5
   have hm : 0 + n ≤ maxLen := by simp only [maxLen]; omega
   have hcm := grownCap_le_maxLen w1 (0 + n) 0 5 hm
   refine ⟨by omega, by omega, _, _, _, _, hr, by omega, by omega, rfl, (St.start w1).add ((Chg.drew [] w1).trans (Chg.alloc _ _)) ⟨rfl, .inr ⟨w1.heap.size, _, _, rfl, Nat.zero_le _, heap_alloc_new w1.drew _, Nat.zero_le _, hcm, ?_, by simp⟩⟩ (by simp [Res.fp, Value.ownBlock])⟩
   simp only [Array.size_append, List.size_toArray, size_zeroCells, (bT).zs, List.length_nil]
   omega
 · rintro a k c w3 ⟨rfl, h3⟩
   exact ⟨a, c, rfl, h3⟩

theorem concat_spec (a : Option Addr) (n c : Nat) (vs : List Value) (ls : List (List UInt8)) (w : World) (hr : Rd w a n c 1 vs) (h2 : Row2 w vs ls) (hb : ls.flatten.length ≤ 1099511627776) (hn : ls.length ≤ 1048576) :
   Calls Tryz.prog 40 #[.slice a n c] w fun e w' => ∃ a' n' c', e = .returned (.slice a' n' c') ∧ FreshB w w' a' n' c' ls.flatten := by
 have hln : ls.length = n := by have := hr.len; have := h2.len; omega
 apply slices_Concat_byte_byte_vc
 refine ⟨fun x y w' => ∃ i : Nat, y = (i : Int) ∧ i ≤ n ∧ x = (((ls.take i).flatten.length : Nat) : Int) ∧ w' = w, fun _ y _ => n - y.toNat, ⟨0, rfl, by omega, by simp, rfl⟩, ?_⟩
 rintro x y w1 ⟨i, rfl, hi, rfl, rfl⟩
 have hft := flat_take_le ls i
 refine ⟨fun h => ?_, fun h => ?_⟩
 · have hi' : i < n := by simp at h; omega
   obtain ⟨b, o, a', n', c', ha, hv, hrd, hld⟩ := ixS hr.cells h2 (i := i) (by omega)
   have hl' := hrd.lenB
   have hf1 := flat_take (ls := ls) (i := i) (by omega)
   have hf2 := flat_take_le ls (i + 1)
   rw [hf1, List.length_append, hl'] at hf2
   have ew : IntKind.wrap .i64 ((((ls.take i).flatten.length : Nat) : Int) + ((n' : Nat) : Int)) = (((ls.take i).flatten.length + n' : Nat) : Int) := by rw [wrap_i64 (by omega) (by omega)]; omega
   refine ⟨b, o, ha, by omega, by omega, _, _, _, hld w1 hr.cells, ?_⟩
   rw [ew]
   refine ⟨fun w' => w' = w1, ⟨fun h => ?_, fun _ => rfl⟩, ?_⟩
   · simp at h; omega
   rintro w2 rfl
   exact ⟨⟨i + 1, wrap_succ hi' (by omega), by omega, by rw [hf1, List.length_append, hl'], rfl⟩, mu_succ hi' (by omega)⟩
 · have hi' : i = n := by simp at h; omega
   rw [hi', ← hln, List.take_length]
   rw [hln]
   refine (growNil_spec ls.flatten.length w1 hb).mono ?_
   rintro e w3 ⟨ga, gc, rfl, k3⟩
   refine ⟨_, _, _, rfl, fun xa xn xc y w' => ∃ i : Nat, y = (i : Int) ∧ i ≤ n ∧ xn = (ls.take i).flatten.length ∧ St w1 [] w' [.row 5 1 (.slice xa xn xc) xn (bv (ls.take i).flatten)], fun _ _ _ y _ => n - y.toNat, ⟨0, rfl, by omega, by simp, by simpa using k3⟩, ?_⟩
   rintro xa xn xc y w5 ⟨i, rfl, hi, rfl, hS⟩
   have hft := flat_take_le ls i
   refine ⟨fun h => ?_, fun h => ?_⟩
   · have hi' : i < n := by simp at h; omega
     obtain ⟨b, o, a', n', c', ha, hv, hrd, hld⟩ := ixS hr.cells h2 (i := i) (by omega)
     have hl' := hrd.lenB
     have hf1 := flat_take (ls := ls) (i := i) (by omega)
     have hf2 := flat_take_le ls (i + 1)
     rw [hf1, List.length_append, hl'] at hf2
     obtain ⟨va, vc, w6, r6, h6⟩ := hS.appendB (i := 0) rfl (hS.rd1 hrd) (by omega)
     refine ⟨b, o, ha, by omega, by omega, _, _, _, hld w5 (hr.cells.keep0 hS.chg), _, _, _, _, r6, ⟨i + 1, wrap_succ hi' (by omega), by omega, ?_, ?_⟩, mu_succ hi' (by omega)⟩
     · rw [hf1, List.length_append, hl']
     · rw [hf1]; exact h6
   · have hi' : i = n := by simp at h; omega
     subst hi'
     rw [← hln, List.take_length] at hS ⊢
     exact ⟨_, _, _, rfl, hS.freshB (i := 0) rfl⟩

theorem rowsR2 {ps : List PcD} {L : List Res} (h : St w0 X w (ps.map PcD.row ++ L)) : Row2 w (ps.map PcD.v) (ps.map PcD.l) := by
 refine ⟨by simp, fun i hi => ?_⟩
 have hi' : i < ps.length := by simpa using hi
 have hp : ps[i]? = some ps[i] := List.getElem?_eq_getElem hi'
 refine ⟨ps[i].a, ps[i].l.length, ps[i].c, by rw [List.getElem?_map, hp]; rfl, ?_⟩
 have e : (ps.map PcD.l).getD i [] = ps[i].l := by rw [List.getD_eq_getElem?_getD, List.getElem?_map, hp]; rfl
 rw [e]
 exact h.rd (i := i) (by rw [List.getElem?_append_left (by simpa using hi'), List.getElem?_map, hp]; rfl)

theorem pieces_len (K : List UInt8) (num : Int) (xs : List Itm) : (piecesP K num xs).length = xs.length + 2 := by simp [piecesP]
theorem build_len (K : List UInt8) (num : Int) {xs : List Itm} (h : SmallI xs) : (buildP K num xs).length ≤ 90000000 := by
 have h1 := h.bytes
 have h2 := h.num
 have hsl := sealF_len K 3 (numL (n64 num)) (footL (refsP num 16 xs)) (by rw [footL_len, refsP_len]; omega)
 rw [footL_len, refsP_len] at hsl
 have hv := varL_len 9 (sealF K 3 (numL (n64 num)) (footL (refsP num 16 xs))).length (by omega) (by decide)
 simp only [buildP, piecesP, List.cons_append, List.flatten_cons, List.flatten_append, List.flatten_nil, List.append_nil, List.length_append, headP_len, footP, frameL, List.length_cons]
 omega

theorem build_spec13 (K : List UInt8) (hk : K.length = 96) (num : Int) (a : Option Addr) (n c : Nat) (l : List ItD) (w : World) (hK : KTab w) (hg : goodP num = true) (hr : ItR w a n c l) (hs : SmallI (l.map ItD.t)) :
   Calls Tryz.prog 11 #[.agg (bv K).toArray, .int .i64 num, .slice a n c] w fun e w' => ∃ ba bn bc ra rc, e = .returned (.tuple #[.slice ba bn bc, .slice ra (refsP num 16 (l.map ItD.t)).length rc, errV none]) ∧ bn = (buildP K num (l.map ItD.t)).length ∧
     St w [] w' [.row 5 1 (.slice ba bn bc) bn (bv (buildP K num (l.map ItD.t))), .row 75 35 (.slice ra (refsP num 16 (l.map ItD.t)).length rc) (refsP num 16 (l.map ItD.t)).length ((refsP num 16 (l.map ItD.t)).flatMap refC)] := by
 obtain ⟨mI, hI⟩ := eI
 have hln : l.length ≤ 4096 := by have := hs.num; simpa using this
 apply pack_Build_vc
 obtain ⟨g3, w1, r1, k1⟩ := (St.start w).boxA (P := Tryz.prog) 28 (bv K)
 refine ⟨g3, w1, r1, _, k1.ldA (i := 0) (l := bv K) rfl (kyA' _) (kyS' _) (by simp [hk]), (pkmade_spec K hk num a n c l w1 (hK.keep0 k1.chg) hg (hr.keep0 k1.chg) hs).mono ?_⟩
 rintro e w2 ⟨g, rfl, h2⟩
 obtain ⟨f, e1, e2, hS⟩ := h2.same (Chg.drew [] w2)
 have hS : St w1 [] w2.drew ([.arr g 105 (fileL num f), .row 33 1 (.slice f.la f.ps.length f.lc) f.ps.length (f.ps.map PcD.v), .row 75 35 (.slice f.ra f.rs.length f.rc) f.rs.length (f.rs.flatMap refC)] ++ (f.ps.map PcD.row ++ [])) := hS
 let S : World → Prop := fun w' => St w1 [] w' ([.arr g 105 (fileL num f), .row 33 1 (.slice f.la f.ps.length f.lc) f.ps.length (f.ps.map PcD.v), .row 75 35 (.slice f.ra f.rs.length f.rc) f.rs.length (f.rs.flatMap refC)] ++ (f.ps.map PcD.row ++ []))
 have hpl : f.ps.length = l.length + 2 := by have := congrArg List.length e1; rw [List.length_map, pieces_len, List.length_map] at this; exact this
 have hfl : (f.ps.map PcD.l).flatten = buildP K num (l.map ItD.t) := by rw [e1]; rfl
 have hbl := build_len K num hs
 refine ⟨_, _, rfl, _, neqS_nil hI none _ _, fun h => (by cases h), fun _ => ⟨S, hS, g, 0, rfl, g, 0, rfl, _, _, _, fun w' hw => Sx.St.ldL hw (i := 0) (o := 0) rfl (bbA' _) rfl rfl, _, _, _, fun w' hw => Sx.St.ldL hw (i := 0) (o := 3) rfl (rsA' _) rfl rfl, (concat_spec f.la f.ps.length f.lc _ (f.ps.map PcD.l) w2.drew (hS.rd (i := 1) rfl) (rowsR2 (hS.sub (List.sublist_append_right _ _))) (by rw [hfl]; omega) (by simp; omega)).mono ?_⟩⟩
 rintro e w3 ⟨ba, bn, bc, rfl, hf3⟩
 rw [hfl] at hf3
 have q3 : S w3 := hS.same hf3.1
 have hbn : (buildP K num (l.map ItD.t)).length = bn := hf3.2.1
 rw [← e2]
 refine ⟨_, _, _, rfl, S, fun _ h => h, q3, ba, bn, bc, f.ra, f.rc, rfl, hbn.symm, ?_⟩
 have h3 := hf3.add (hS.sub (N := [.row 75 35 (.slice f.ra f.rs.length f.rc) f.rs.length (f.rs.flatMap refC)]) (((List.sublist_cons_self _ _).trans (List.sublist_cons_self _ _)).trans (List.sublist_append_left _ _)))
 have h4 : St w1 [] w3 [.row 5 1 (.slice ba bn bc) bn (bv (buildP K num (l.map ItD.t))), .row 75 35 (.slice f.ra f.rs.length f.rc) f.rs.length (f.rs.flatMap refC)] := h3.perm (List.perm_append_comm (l₁ := [_]))
 exact Sx.St.callPart (M := []) (N := []) ((St.start w).same k1.chg) h4

end

end Go.Proofs.YtmdandkoajocpaaGreatDoor
end

section
namespace Go.Proofs.YtmdandkoajocpaaGreatDoor
open Go Sx
set_option maxRecDepth 8000

structure FrD where
 k : UInt8
 a : Option Addr
 c : Nat
 body : List UInt8
 at_ : Nat
abbrev Frm := UInt8 × List UInt8 × Nat
def FrD.t (x : FrD) : Frm := (x.k, x.body, x.at_)
def FrD.v (x : FrD) : Value := .slice x.a x.body.length x.c
def frC (x : FrD) : List Value := [.int .i64 (x.k.toNat : Int), .slice x.a x.body.length x.c, .int .i64 (x.at_ : Int)]
theorem frC_one (x : FrD) : ∀ v ∈ frC x, v.oneCell' = true := fun v hv => by
 simp only [frC, List.mem_cons, List.not_mem_nil, or_false] at hv
 rcases hv with rfl | rfl | rfl <;> rfl
theorem fmA (w : World) : (isAgg 137).run Tryz.prog w = .ok true w := Tryz.isAgg137 w
theorem fmS (w : World) : (sizeOf 137).run Tryz.prog w = .ok 3 w := Tryz.sizeOf137 w
def fr0 : FrD := ⟨0, none, 0, [], 0⟩
theorem fmZ (w : World) : (zeroValue 137).run Tryz.prog w = .ok (.agg (frC fr0).toArray) w := Tryz.zeroValue137 w
theorem pfsA (w : World) : (isAgg 132).run Tryz.prog w = .ok false w := Tryz.isAgg132 w
theorem pfsS (w : World) : (sizeOf 132).run Tryz.prog w = .ok 1 w := Tryz.sizeOf132 w
theorem fsZ (w : World) : (zeroValue 132).run Tryz.prog w = .ok (.slice none 0 0) w := Tryz.zeroValue132 w
theorem inZ (w : World) : (zeroValue 3).run Tryz.prog w = .ok (.int .i64 0) w := Tryz.zeroValue3 w

structure RdFr (w : World) (a : Option Addr) (n c : Nat) (L : List FrD) : Prop where
 rd : RdE frC 3 w a n c L
 body : ∀ x ∈ L, RdB w x.a x.body.length x.c x.body
theorem RdFr.keep0 {w w' : World} {a : Option Addr} {n c : Nat} {L : List FrD} (h : RdFr w a n c L) (hc : Chg [] w w') : RdFr w' a n c L := ⟨h.rd.keep0 hc, fun x hx => (h.body x hx).keep0 hc⟩

theorem frList : ∀ (vs : List Value) (fs : List Frm), vs.length = fs.length → (∀ i, i < (fs.map fun f => f.2.1).length → ∃ a c, vs[i]? = some (.slice a ((fs.map fun f => f.2.1).getD i []).length c)) → ∃ L : List FrD, L.map FrD.t = fs ∧ L.map FrD.v = vs ∧ L.flatMap frC = frCells vs fs
 | [], [], _, _ => ⟨[], rfl, rfl, rfl⟩
 | [], _ :: _, h, _ => by simp at h
 | _ :: _, [], h, _ => by simp at h
 | v :: vs, f :: fs, h, hd => by
   obtain ⟨a, c, hv⟩ := hd 0 (by simp)
   simp only [List.getElem?_cons_zero, Option.some.injEq, List.map_cons, List.getD_cons_zero] at hv
   obtain ⟨L, h1, h2, h3⟩ := frList vs fs (by simpa using h) fun i hi => by
     obtain ⟨a', c', hv'⟩ := hd (i + 1) (by simpa using hi)
     exact ⟨a', c', by simpa using hv'⟩
   refine ⟨⟨f.1, a, c, f.2.1, f.2.2⟩ :: L, by simp [FrD.t, h1], by simp [FrD.v, h2, hv], ?_⟩
   rw [List.flatMap_cons, h3, hv]
   simp [frC, frCells]

theorem OwnF.list {w w' : World} {a : Option Addr} {n c : Nat} {vs : List Value} {fs : List Frm} (h : OwnF w w' a n c vs fs) : ∃ L : List FrD, L.map FrD.t = fs ∧ RdFr w' a n c L := by
 obtain ⟨L, h1, h2, h3⟩ := frList vs fs h.len h.hd
 have hr := h.rdF
 refine ⟨L, h1, ⟨by rw [h3]; exact hr.rd, fun x _ => rfl⟩, fun x hx => ?_⟩
 obtain ⟨i, hi, rfl⟩ := List.getElem_of_mem hx
 have hfs : (fs.map fun f => f.2.1).getD i [] = L[i].body := by
   rw [← h1, List.getD_eq_getElem?_getD]; simp [hi, FrD.t]
 obtain ⟨a', n', c', e1, e2⟩ := hr.row.rd i (by rw [← h1]; simpa using hi)
 rw [hfs] at e2
 rw [← h2, List.getElem?_map, List.getElem?_eq_getElem hi] at e1
 simp only [Option.map_some, FrD.v, Option.some.injEq, Value.slice.injEq] at e1
 obtain ⟨rfl, rfl, rfl⟩ := e1
 exact e2

def endF (e : Nat) : List Frm → Nat
 | [] => e
 | f :: _ => f.2.2
def refsS (num : Int) (e : Nat) : List Frm → List RefD
 | [] => []
 | f :: r => if f.1 = 2 ∧ 32 ≤ f.2.1.length then mkRef (f.2.1.take 32) num (((16 + endF e r : Nat) : Int) - ((f.2.1.length - 32 : Nat) : Int)) ((f.2.1.length - 32 : Nat) : Int) :: refsS num e r else []
theorem refsS_len (num : Int) (e : Nat) : ∀ l : List Frm, (refsS num e l).length ≤ l.length
 | [] => Nat.le_refl _
 | f :: r => by
   unfold refsS
   split
   · have := refsS_len num e r; simp only [List.length_cons]; omega
   · simp
def framesL (l : List UInt8) : List Frm × Nat := framesF (l.length + 1) l 0
theorem framesF_bound : ∀ (k : Nat) (l : List UInt8) (p : Nat), (framesF k l p).2 ≤ p + l.length ∧ (∀ f ∈ (framesF k l p).1, f.2.2 ≤ p + l.length ∧ f.2.1.length ≤ l.length) ∧ (framesF k l p).1.length ≤ l.length
 | 0, l, p => ⟨by simp [framesF], by simp [framesF], by simp [framesF]⟩
 | k + 1, l, p => by
   unfold framesF
   cases h : frameF l with
   | none => exact ⟨by simp, by simp, by simp⟩
   | some q =>
     obtain ⟨kk, b, r⟩ := q
     obtain ⟨t, rfl, h1, h2⟩ := frameF_some h
     obtain ⟨i1, i2, i3⟩ := framesF_bound k r (p + ((kk :: t).length - r.length))
     simp only
     refine ⟨by omega, fun f hf => ?_, by simp only [List.length_cons] at *; omega⟩
     rcases List.mem_cons.1 hf with rfl | hf
     · simp only; omega
     · have := i2 f hf; omega

section
variable {w0 w w' : World} {X : List Nat} {M N N' T : List Res}

theorem ndT {p : Prop} [Decidable p] (h : (!decide p) = true) : ¬ p := fun hp => by simp [hp] at h
theorem ndF {p : Prop} [Decidable p] (h : (!decide p) = false) : p := by
 by_cases hp : p
 · exact hp
 · simp [hp] at h

theorem rdB_drop13 {a a' : Option Addr} {n c k : Nat} {l : List UInt8} (hr : RdB w a n c l) (hs : SubA 1 a k c a') (hk : k ≤ n) : RdB w a' (n - k) (c - k) (l.drop k) := by
 have hl := hr.lenB
 have h1 := Rd.sub hr hs (hh := n) hk (Nat.le_refl _) hr.le (Nat.le_refl _)
 have e2 : ((bv l).drop (k * 1)).take ((n - k) * 1) = bv (l.drop k) := by
   rw [Nat.mul_one, Nat.mul_one, List.take_of_length_le (by simp; omega), bv_drop]
 rw [e2] at h1
 exact h1

def headF (b : List UInt8) : Option Int := if 16 ≤ b.length ∧ b.take 8 = magicL ∧ goodP ((readNumF ((b.drop 8).take 8)).getD 0) = true then readNumF ((b.drop 8).take 8) else none

theorem magic_str (l : List UInt8) : ((⟨l.toArray⟩ : ByteArray).toList == (ByteArray.mk #[97, 109, 112, 104, 112, 97, 99, 107]).toList) = decide (l = magicL) := by
 rw [ByteArray.toList_eq, ByteArray.toList_eq]
 show (l == magicL) = _
 by_cases h : l = magicL
 · rw [h]; rfl
 · rw [decide_eq_false h]; exact beq_eq_false_iff_ne.2 h

theorem head_spec (a : Option Addr) (n c : Nat) (b : List UInt8) (w : World) (hr : RdB w a n c b) :
   Calls Tryz.prog 55 #[.slice a n c] w fun e w' => ∃ (x : Int) (ok : Bool), e = .returned (.tuple #[.int .i64 x, .bool ok]) ∧ headF b = (if ok then some x else none) ∧ w' = w := by
 obtain ⟨mI, hI⟩ := eI
 have hl := hr.lenB
 subst hl
 apply pack_head_vc
 refine ⟨fun x w' => x = !decide (16 ≤ b.length ∧ b.take 8 = magicL) ∧ w' = w, ⟨fun h => ?_, fun h => ?_⟩, ?_⟩
 · have : ¬ 16 ≤ b.length := by simp at h; omega
   exact ⟨by simp [this], rfl⟩
 · have h16 : 16 ≤ b.length := by simp at h; omega
   have hcap := hr.le
   have h8 := rdB_upto hr (k := 8) (by omega)
   refine ⟨by omega, by omega, _, toStr bS bE sS h8.cells (by simp; omega), ?_, rfl⟩
   rw [magic_str]; simp [h16]
 rintro x w1 ⟨rfl, rfl⟩
 refine ⟨fun h => ⟨0, false, rfl, ?_, rfl⟩, fun h => ?_⟩
 · have : ¬ (16 ≤ b.length ∧ b.take 8 = magicL) := ndT h
   rw [headF, if_neg (fun h => this ⟨h.1, h.2.1⟩)]; rfl
 have hh : 16 ≤ b.length ∧ b.take 8 = magicL := ndF h
 have hcap := hr.le
 refine ⟨by omega, by omega, by omega, fun t hs => ?_⟩
 have hsub := Rd.sub hr hs (hh := 16) (by decide) hh.1 (by omega) (Nat.le_refl _)
 have e2 : ((bv b).drop (8 * 1)).take ((16 - 8) * 1) = bv ((b.drop 8).take 8) := by rw [bv_take, bv_drop]
 rw [e2] at hsub
 refine (readNum_spec t 8 (c - 8) ((b.drop 8).take 8) w1 hsub).mono ?_
 rintro e w2 ⟨rfl, rfl⟩
 have hlen : ((b.drop 8).take 8).length = 8 := by simp; omega
 have hrn : readNumF ((b.drop 8).take 8) = some (IntKind.wrap .i64 (beNat ((b.drop 8).take 8) : Int)) := by rw [readNumF, if_pos hlen]
 obtain ⟨v, hv⟩ : ∃ v, IntKind.wrap .i64 (beNat ((b.drop 8).take 8) : Int) = v := ⟨_, rfl⟩
 rw [hv] at hrn
 rw [hrn]
 refine ⟨_, _, rfl, _, eqlS_nil hI none _ _, fun _ => (pkgood_spec v w2).mono ?_, fun h => by cases h⟩
 rintro e w3 ⟨rfl, rfl⟩
 refine ⟨_, rfl, v, goodP v, rfl, ?_, rfl⟩
 rw [headF, hrn]
 simp only [Option.getD_some]
 by_cases hg : goodP v = true
 · rw [if_pos ⟨hh.1, hh.2, hg⟩, if_pos hg]
 · rw [if_neg (fun h => hg h.2.2), if_neg hg]

theorem ends_spec (i : Nat) (g8 g9 : Nat) (a : Option Addr) (n c : Nat) (L : List FrD) (e : Nat) (w : World) (h8 : (Instr.loadAt 132 (.pointer (some ⟨g8, 0, none⟩))).run Tryz.prog w = .ok (.slice a n c) w) (h9 : (Instr.loadAt 3 (.pointer (some ⟨g9, 0, none⟩))).run Tryz.prog w = .ok (.int .i64 (e : Int)) w)
   (hr : RdFr w a n c L) (hi : i < n) (hn : n ≤ 1099511627776) (he : e ≤ 1099511627776) (hat : ∀ x ∈ L, x.at_ ≤ 1099511627776) :
   Calls Tryz.prog 89 #[.int .i64 (i : Int), .pointer (some ⟨g8, 0, none⟩), .pointer (some ⟨g9, 0, none⟩)] w fun r w' => r = .returned (.int .i64 ((16 + endF e ((L.map FrD.t).drop (i + 1)) : Nat) : Int)) ∧ w' = w := by
 have hln := hr.rd.num (by decide)
 apply pack_scanned_1_vc
 have e1 : IntKind.wrap .i64 ((i : Int) + 1) = ((i + 1 : Nat) : Int) := wrap_succ (by omega : i < n) (by omega)
 rw [e1]
 refine ⟨_, _, _, h8, fun h => ?_, fun h => ?_⟩
 · have hi' : i + 1 < n := by simp at h; omega
   have hx : L[i + 1]? = some L[i + 1] := List.getElem?_eq_getElem (by omega)
   obtain ⟨b, o, hab, q⟩ := hr.rd.fld (P := Tryz.prog) (by decide) inA (j := 2) hx rfl
   have hb := hat L[i + 1] (List.getElem_mem _)
   refine ⟨_, _, _, h8, b, o, hab, by omega, by omega, _, q w hr.rd, ?_, rfl⟩
   rw [wrap_i64 (by omega) (by omega)]
   have : (L.map FrD.t).drop (i + 1) = L[i + 1].t :: (L.map FrD.t).drop (i + 2) := by
     rw [List.drop_eq_getElem_cons (by simp; omega)]; simp
   rw [this]; simp [endF, FrD.t]
 · have hi' : i + 1 = n := by simp at h; omega
   refine ⟨_, h9, ?_, rfl⟩
   rw [wrap_i64 (by omega) (by omega), List.drop_of_length_le (by simp; omega)]
   simp [endF]

theorem ldId {b o c : Nat} {l : List UInt8} (h : RdB w (some ⟨b, o, none⟩) 32 c l) : (Instr.loadAt 44 (.pointer (some ⟨b, o, none⟩))).run Tryz.prog w = .ok (.agg (bv l).toArray) w := by
 have hl := h.lenB
 rcases h.cells with h0 | ⟨b', o', e, hr⟩
 · have h00 : (bv l).length = 0 := by rw [h0]; rfl
   rw [bv_length] at h00; omega
 · simp only [Option.some.injEq, Addr.mk.injEq, and_true] at e
   obtain ⟨rfl, rfl⟩ := e
   exact ldRange hr (idA' _) (idS' _) (by simp [hl])

set_option maxHeartbeats 1000000 in
theorem pkrefs_spec (num : Int) (hnum : OkI num) (a : Option Addr) (n c : Nat) (L : List FrD) (e g8 g9 : Nat) (w : World) (hr : RdFr w a n c L) (hn : n ≤ 1048576) (he : e ≤ 1099511627776) (hat : ∀ x ∈ L, x.at_ ≤ 1099511627776 ∧ x.body.length ≤ 1099511627776)
   (hE : ∀ (w' : World) (i : Nat), Chg [] w w' → i < n → Calls Tryz.prog 89 #[.int .i64 (i : Int), .pointer (some ⟨g8, 0, none⟩), .pointer (some ⟨g9, 0, none⟩)] w' fun r w'' => r = .returned (.int .i64 ((16 + endF e ((L.map FrD.t).drop (i + 1)) : Nat) : Int)) ∧ w'' = w') :
   Calls Tryz.prog 90 #[.int .i64 num, .slice a n c, .func (.func 89) #[] #[.pointer (some ⟨g8, 0, none⟩), .pointer (some ⟨g9, 0, none⟩)]] w fun r w' => ∃ ra rc, r = .returned (.slice ra (refsS num e (L.map FrD.t)).length rc) ∧
     St w [] w' [.row 75 35 (.slice ra (refsS num e (L.map FrD.t)).length rc) (refsS num e (L.map FrD.t)).length ((refsS num e (L.map FrD.t)).flatMap refC)] := by
 have hln := hr.rd.num (by decide)
 apply pack_refs_vc
 refine ⟨fun xa xn xc x w' => ∃ (i : Nat) (acc : List RefD), x = (i : Int) ∧ i ≤ n ∧ xn = acc.length ∧ acc.length ≤ i ∧ acc ++ refsS num e ((L.map FrD.t).drop i) = refsS num e (L.map FrD.t) ∧ St w [] w' [.row 75 35 (.slice xa xn xc) xn (acc.flatMap refC)], fun _ _ _ x _ => n - x.toNat, ⟨0, [], rfl, by omega, rfl, Nat.le_refl _, rfl, (St.start w).addNil _ _⟩, ?_⟩
 rintro xa xn xc x w1 ⟨i, acc, rfl, hi, rfl, hacc, hinv, h1⟩
 refine ⟨fun h => ?_, fun h => ?_⟩
 · have hi' : i < n := by simp at h; omega
   have hx : L[i]? = some L[i] := List.getElem?_eq_getElem (by omega)
   obtain ⟨x, hxx⟩ : ∃ x, L[i] = x := ⟨_, rfl⟩
   rw [hxx] at hx
   have hxm := List.mem_of_getElem? hx
   obtain ⟨hat1, hat2⟩ := hat x hxm
   have hdr : (L.map FrD.t).drop i = x.t :: (L.map FrD.t).drop (i + 1) := by
     rw [List.drop_eq_getElem_cons (by simp; omega)]; simp [hxx]
   rw [hdr] at hinv
   obtain ⟨b, o, hab, q⟩ := hr.rd.ld (P := Tryz.prog) (by decide) fmA fmS hx
   obtain ⟨g, w2, r2, h2⟩ := h1.zeroA fmZ
   obtain ⟨w3, r3, h3⟩ := h2.stA (i := 1) (v := frC x) rfl (fmS _) rfl rfl (frC_one _)
   have h3 : St w [] w3 [.row 75 35 (.slice xa acc.length xc) acc.length (acc.flatMap refC), .arr g 137 (frC x)] := h3
   have ldB : ∀ {w'}, St w [] w' [.arr g 137 (frC x)] → (Instr.loadAt 33 (.pointer (some ⟨g, 1, none⟩))).run Tryz.prog w' = .ok (.slice x.a x.body.length x.c) w' := fun h => h.ldL (i := 0) (o := 1) rfl (bsA' _) rfl rfl
   refine ⟨b, o, hab, by omega, by omega, _, q w1 (hr.rd.keep0 h1.chg), g, w2, r2, w3, r3, fun y w' => y = !decide (x.k = 2 ∧ 32 ≤ x.body.length) ∧ w' = w3, ⟨_, h3.ldL (i := 1) (o := 0) rfl (inA _) rfl rfl, fun hne => ?_, fun heq => ⟨_, _, _, ldB h3.tail, ?_, rfl⟩⟩, ?_⟩
   · have : x.k ≠ 2 := fun hk => by rw [hk] at hne; simp at hne
     exact ⟨by simp [this], rfl⟩
   · have h2n : (2 : UInt8).toNat = 2 := rfl
     have hk2 : x.k = 2 := UInt8.toNat_inj.1 (by simp at heq; omega)
     by_cases h32 : 32 ≤ x.body.length
     · rw [decide_eq_true (show x.k = 2 ∧ 32 ≤ x.body.length from ⟨hk2, h32⟩), decide_eq_false (by omega)]; rfl
     · rw [decide_eq_false (fun h : x.k = 2 ∧ 32 ≤ x.body.length => h32 h.2), decide_eq_true (by omega)]; rfl
   rintro y w4 ⟨rfl, rfl⟩
   refine ⟨fun hbad => ?_, fun hok => ?_⟩
   · have hb : ¬ (x.k = 2 ∧ 32 ≤ x.body.length) := ndT hbad
     have hz : refsS num e (x.t :: (L.map FrD.t).drop (i + 1)) = [] := if_neg hb
     rw [hz, List.append_nil] at hinv
     subst hinv
     exact ⟨xa, xc, rfl, h3.sub (List.sublist_append_left [_] [_])⟩
   have hk : x.k = 2 ∧ 32 ≤ x.body.length := ndF hok
   have h4 := h3.drew
   have hc4 := h4.chg
   have hB := hr.body x hxm
   obtain ⟨b2, o2, ha2⟩ : ∃ b o, x.a = some ⟨b, o, none⟩ := by
     rcases hB.cells with h0 | ⟨b, o, e, _⟩
     · have h00 : (bv x.body).length = 0 := by rw [h0]; rfl
       rw [bv_length] at h00; omega
     · exact ⟨b, o, e⟩
   have hcap := hB.le
   let S : World → Prop := fun w' => St w [] w' [.arr g 137 (frC x)]
   have ldI : ∀ w', S w' → (Instr.loadAt 44 (.pointer (some ⟨b2, o2, none⟩))).run Tryz.prog w' = .ok (.agg (bv (x.body.take 32)).toArray) w' := fun w' hw => by
     have h := rdB_upto (hB.keep0 (Sx.St.chg hw)) hk.2
     rw [ha2] at h
     exact ldId h
   have hid : (x.body.take 32).length = 32 := by simp; omega
   obtain ⟨r, hrr⟩ : ∃ r, mkRef (x.body.take 32) num (((16 + endF e ((L.map FrD.t).drop (i + 1)) : Nat) : Int) - ((x.body.length - 32 : Nat) : Int)) ((x.body.length - 32 : Nat) : Int) = r := ⟨_, rfl⟩
   have hend : endF e ((L.map FrD.t).drop (i + 1)) ≤ 1099511627776 := by
     cases hq : (L.map FrD.t).drop (i + 1) with
     | nil => exact he
     | cons f fs =>
       have : f ∈ L.map FrD.t := List.mem_of_mem_drop (by rw [hq]; simp)
       obtain ⟨z, hz, rfl⟩ := List.mem_map.1 this
       exact (hat z hz).1
   have eC := refC_mk hid hnum (q := ((16 + endF e ((L.map FrD.t).drop (i + 1)) : Nat) : Int) - ((x.body.length - 32 : Nat) : Int)) (n := ((x.body.length - 32 : Nat) : Int)) ⟨by omega, by omega⟩ ⟨by omega, by omega⟩
   rw [hrr] at eC
   have en : IntKind.wrap .i64 (((x.body.length : Nat) : Int) - 32) = ((x.body.length - 32 : Nat) : Int) := by rw [wrap_i64 (by omega) (by omega)]; omega
   have ee : IntKind.wrap .i64 (((16 + endF e ((L.map FrD.t).drop (i + 1)) : Nat) : Int) - ((x.body.length - 32 : Nat) : Int)) = ((16 + endF e ((L.map FrD.t).drop (i + 1)) : Nat) : Int) - ((x.body.length - 32 : Nat) : Int) := by rw [wrap_i64 (by omega) (by omega)]
   refine ⟨_, _, _, ldB h3.tail, S, h4.tail, _, _, _, fun w' hw => ldB hw, by omega, by omega, _, fun w' _ => by rw [ha2]; exact run_arrayAt _ 44 _ 32 _ 32 _ Tryz.underlying44 (Nat.le_refl _), _, ldI, _, _, rfl, by kernel_rfl, (hE _ i hc4 hi').mono ?_⟩
   rintro e5 w5 ⟨rfl, rfl⟩
   obtain ⟨g6, w6, va, vc, w7, r6, r7, h7, h6⟩ := h4.pushA (i := 0) (ty := 34) rfT rfl (refC r) (refC_len r) (by decide) (refC_one r) (by omega) (by simp only [maxLen]; omega)
   have h7 : St w [] w7 [.row 75 35 (.slice va (acc.length + 1) vc) (acc.length + 1) (acc.flatMap refC ++ refC r), .arr g 137 (frC x)] := h7
   refine ⟨_, rfl, S, fun _ h => h, h4.tail, _, fun w' hw => by rw [en, ee]; exact ref_parts _ num _ _ w' hid, _, _, _, w6, by rw [← eC]; exact r6, S, fun _ h => h, h6.tail, _, _, _, w7, r7, S, fun _ h => h, h7.tail, ⟨i + 1, acc ++ [r], wrap_succ hi' (by omega), by omega, by simp, by simp; omega, ?_, ?_⟩, mu_succ hi' (by omega)⟩
   · have hz : refsS num e (x.t :: (L.map FrD.t).drop (i + 1)) = r :: refsS num e ((L.map FrD.t).drop (i + 1)) := by rw [← hrr]; exact if_pos hk
     rw [← hinv, hz]
     simp
   · rw [List.flatMap_append]
     simpa using h7.sub (List.sublist_append_left [_] [_])
 · have hi' : i = n := by simp at h; omega
   rw [List.drop_of_length_le (by simp; omega)] at hinv
   have : acc = refsS num e (L.map FrD.t) := by rw [← hinv]; simp [refsS]
   subst this
   exact ⟨xa, xc, rfl, h1⟩

end

end Go.Proofs.YtmdandkoajocpaaGreatDoor
end

section
namespace Go.Proofs.YtmdandkoajocpaaGreatDoor
open Go Sx
set_option maxRecDepth 8000

def openP (K : List UInt8) (num : Int) (b : List UInt8) : Option Int × List RefD :=
 if goodP num = false then (some 28, [])
 else if headF b ≠ some num then (some 17, [])
 else if 16 + (framesL (b.drop 16)).2 ≠ b.length ∨ (framesL (b.drop 16)).1.length ≠ (refsS num (framesL (b.drop 16)).2 (framesL (b.drop 16)).1).length + 1 then (some 17, [])
 else if ((framesL (b.drop 16)).1.getD (refsS num (framesL (b.drop 16)).2 (framesL (b.drop 16)).1).length (0, [], 0)).1 ≠ 3 then (some 17, [])
 else match openF K 3 (numL (n64 num)) ((framesL (b.drop 16)).1.getD (refsS num (framesL (b.drop 16)).2 (framesL (b.drop 16)).1).length (0, [], 0)).2.1 with
   | none => (some 10, [])
   | some p => if p = footL (refsS num (framesL (b.drop 16)).2 (framesL (b.drop 16)).1) then (none, refsS num (framesL (b.drop 16)).2 (framesL (b.drop 16)).1) else (some 10, [])

section
variable {w0 w w' : World} {X : List Nat} {M N N' T : List Res}

theorem scanned_spec (num : Int) (hnum : OkI num) (a : Option Addr) (n c : Nat) (b : List UInt8) (w : World) (hr : RdB w a n c b) (h16 : 16 ≤ n) (hb : n ≤ 1048576) :
   Calls Tryz.prog 56 #[.int .i64 num, .slice a n c] w fun e w' => ∃ fa fn fc ra rc g8 g9 L, L.map FrD.t = (framesL (b.drop 16)).1 ∧ RdFr w' fa fn fc L ∧ Chg [] w w' ∧
     e = .returned (.tuple #[.slice fa fn fc, .slice ra (refsS num (framesL (b.drop 16)).2 (L.map FrD.t)).length rc, .func (.func 89) #[] #[.pointer (some ⟨g8, 0, none⟩), .pointer (some ⟨g9, 0, none⟩)], .int .i64 ((16 + (framesL (b.drop 16)).2 : Nat) : Int)]) ∧
     RdR w' ra (refsS num (framesL (b.drop 16)).2 (L.map FrD.t)).length rc (refsS num (framesL (b.drop 16)).2 (L.map FrD.t)) ∧
     ∀ (w2 : World) (i : Nat), Chg [] w' w2 → i < fn → Calls Tryz.prog 89 #[.int .i64 (i : Int), .pointer (some ⟨g8, 0, none⟩), .pointer (some ⟨g9, 0, none⟩)] w2 fun r w'' => r = .returned (.int .i64 ((16 + endF (framesL (b.drop 16)).2 ((L.map FrD.t).drop (i + 1)) : Nat) : Int)) ∧ w'' = w2 := by
 have hl := hr.lenB
 subst hl
 have hcap := hr.le
 apply pack_scanned_vc
 refine ⟨by omega, by omega, by omega, fun t hs => ?_⟩
 refine (frames_spec t (b.length - 16) (c - 16) (b.drop 16) w (rdB_drop13 hr hs h16) (by omega)).mono ?_
 rintro e w1 ⟨fa, fn, fc, vs, rfl, hO⟩
 obtain ⟨L, hL, hF⟩ := hO.list
 obtain ⟨b1, b2, b3⟩ := framesF_bound ((b.drop 16).length + 1) (b.drop 16) 0
 obtain ⟨E, hE⟩ : ∃ E, (framesF ((b.drop 16).length + 1) (b.drop 16) 0).2 = E := ⟨_, rfl⟩
 have hEE : (framesL (b.drop 16)).2 = E := hE
 have hLL : L.map FrD.t = (framesL (b.drop 16)).1 := hL
 rw [hE] at b1 ⊢
 rw [hEE]
 have hdl : (b.drop 16).length = b.length - 16 := by simp
 have hfn : L.length = fn := hF.rd.num (by decide)
 have hLl : L.length ≤ 1048576 := by have := congrArg List.length hL; rw [List.length_map] at this; omega
 have hat : ∀ x ∈ L, x.at_ ≤ 1099511627776 ∧ x.body.length ≤ 1099511627776 := fun x hx => by
   have := b2 x.t (by rw [← hL]; exact List.mem_map_of_mem hx)
   simp only [FrD.t] at this
   omega
 obtain ⟨g8, w2, r2, h2⟩ := (St.start w1).zero fsZ
 obtain ⟨g9, w3, r3, h3⟩ := h2.zero inZ
 obtain ⟨w4, r4, h4⟩ := h3.st (i := 0) (o := 0) (v := .slice fa fn fc) rfl (pfsS _) (by simp [Value.cells]) rfl
 obtain ⟨w5, r5, h5⟩ := h4.st (i := 1) (o := 0) (v := .int .i64 (E : Int)) rfl (inS' _) (by simp [Value.cells]) rfl
 have h5 : St w1 [] w5 [.blk g8 (.cells #[.slice fa fn fc] 132 (0, 0)), .blk g9 (.cells #[.int .i64 (E : Int)] 3 (0, 0))] := by simpa [Value.cells] using h5
 have ld8 : ∀ w', Chg [] w5 w' → (Instr.loadAt 132 (.pointer (some ⟨g8, 0, none⟩))).run Tryz.prog w' = .ok (.slice fa fn fc) w' := fun w' hc => (h5.same hc).ld (i := 0) rfl (pfsA _) rfl
 have ld9 : ∀ w', Chg [] w5 w' → (Instr.loadAt 3 (.pointer (some ⟨g9, 0, none⟩))).run Tryz.prog w' = .ok (.int .i64 (E : Int)) w' := fun w' hc => (h5.same hc).ld (i := 1) rfl (inA _) rfl
 have ends : ∀ (w' : World) (i : Nat), Chg [] w5 w' → i < fn → Calls Tryz.prog 89 #[.int .i64 (i : Int), .pointer (some ⟨g8, 0, none⟩), .pointer (some ⟨g9, 0, none⟩)] w' fun r w'' => r = .returned (.int .i64 ((16 + endF E ((L.map FrD.t).drop (i + 1)) : Nat) : Int)) ∧ w'' = w' := fun w' i hc hi =>
   ends_spec i g8 g9 fa fn fc L E w' (ld8 w' hc) (ld9 w' hc) ((hF.keep0 h5.chg).keep0 hc) hi (by omega) (by omega) fun x hx => (hat x hx).1
 have hD := Chg.drew [] w5
 have q5 : (Instr.makeFunc (.func 89) #[] #[.pointer (some ⟨g8, 0, none⟩), .pointer (some ⟨g9, 0, none⟩)]).run Tryz.prog w5 = .ok (.func (.func 89) #[] #[.pointer (some ⟨g8, 0, none⟩), .pointer (some ⟨g9, 0, none⟩)]) w5 := by simp [Instr.makeFunc]
 refine ⟨_, _, _, _, rfl, g8, w2, r2, g9, w3, r3, w4, r4, w5, r5, _, w5, q5, fun w' => Chg [] w5 w', hD, _, _, _, ld8, _, _, _, ld8, _, ld9, (pkrefs_spec num hnum fa fn fc L E g8 g9 w5.drew ((hF.keep0 h5.chg).keep0 hD) (by omega) (by omega) hat fun w' i hc hi => ends w' i (hD.trans hc) hi).mono ?_⟩
 rintro e w7 ⟨ra, rc, rfl, h7⟩
 have c7 : Chg [] w5 w7 := hD.trans h7.chg
 have ew : IntKind.wrap .i64 ((16 : Int) + (E : Int)) = ((16 + E : Nat) : Int) := by rw [wrap_i64 (by omega) (by omega)]; omega
 rw [ew]
 exact ⟨_, _, _, rfl, fun w' => Chg [] w5 w', fun _ h => h, c7, fa, fn, fc, ra, rc, g8, g9, L, hLL, (hF.keep0 h5.chg).keep0 c7, (hO.st.chg.trans h5.chg).trans c7, rfl, rdRefs h7 (i := 0) rfl, fun w2 i hc hi => ends w2 i (c7.trans hc) hi⟩

theorem bytesEq_spec (a : Option Addr) (n c : Nat) (l : List UInt8) (a2 : Option Addr) (n2 c2 : Nat) (m : List UInt8) (w : World) (h1 : RdB w a n c l) (h2 : RdB w a2 n2 c2 m) :
   Calls Tryz.prog 59 #[.slice a n c, .slice a2 n2 c2] w fun e w' => e = .returned (.bool (decide (l = m))) ∧ w' = w := by
 apply bytes_Equal_vc
 refine ⟨_, toStr bS bE sS h1.cells h1.lenB, _, toStr bS bE sS h2.cells h2.lenB, ?_, rfl⟩
 rw [ByteArray.toList_eq, ByteArray.toList_eq]
 show _ = Ending.returned (.bool (decide (l = m)))
 by_cases h : l = m
 · subst h; simp
 · rw [decide_eq_false h]
   have : (l == m) = false := beq_eq_false_iff_ne.2 h
   exact congrArg (fun b => Ending.returned (.bool b)) this

set_option maxHeartbeats 1000000 in
theorem pkopen_spec (K : List UInt8) (hk : K.length = 96) (num : Int) (a : Option Addr) (n c : Nat) (b : List UInt8) (w : World) (hK : KTab w) (hr : RdB w a n c b) (hb : n ≤ 1000000) :
   Calls Tryz.prog 26 #[.agg (bv K).toArray, .int .i64 num, .slice a n c] w fun e w' => ∃ ra rc, e = .returned (.tuple #[.slice ra (openP K num b).2.length rc, errV (openP K num b).1]) ∧ RdR w' ra (openP K num b).2.length rc (openP K num b).2 ∧ Chg [] w w' := by
 obtain ⟨mI, hI⟩ := eI
 have hl := hr.lenB
 subst hl
 apply pack_Open_vc
 obtain ⟨g3, w1, r1, k1⟩ := (St.start w).boxA (P := Tryz.prog) 28 (bv K)
 have nilR : ∀ w', RdR w' none 0 0 [] := fun w' => RdE.nil w'
 refine ⟨g3, w1, r1, (pkgood_spec num w1).mono ?_⟩
 rintro e w2 ⟨rfl, rfl⟩
 refine ⟨_, rfl, fun hbad => ?_, fun hg => ?_⟩
 · have : goodP num = false := by simpa using hbad
   have ho : openP K num b = (some 28, []) := by unfold openP; rw [if_pos this]
   rw [ho]; exact ⟨none, 0, rfl, nilR _, k1.chg⟩
 have hg : goodP num = true := by simpa using hg
 have hgi := goodP_iff.1 hg
 have hgn : ¬ goodP num = false := by rw [hg]; simp
 refine (head_spec a b.length c b w2 (hr.keep0 k1.chg)).mono ?_
 rintro e w3 ⟨x, ok, rfl, hh, rfl⟩
 refine ⟨_, _, rfl, fun hbad => ?_, fun hgood => ?_⟩
 · have hne : headF b ≠ some num := by
     rw [hh]
     cases ok with
     | false => simp
     | true =>
       intro h
       simp at h hbad
       exact hbad h
   have ho : openP K num b = (some 17, []) := by unfold openP; rw [if_neg hgn, if_pos hne]
   rw [ho]; exact ⟨none, 0, rfl, nilR _, k1.chg⟩
 have hhe : headF b = some num := by
   cases ok with
   | false => simp at hgood
   | true => simp at hgood; rw [hh, hgood]; rfl
 have h16 : 16 ≤ b.length := by
   rw [headF] at hhe
   split at hhe
   · rename_i h; exact h.1
   · cases hhe
 refine (scanned_spec num ⟨by omega, by omega⟩ a b.length c b w3 (hr.keep0 k1.chg) h16 (by omega)).mono ?_
 rintro e w4 ⟨fa, fn, fc, ra, rc, g8, g9, L, hL, hF, c4, rfl, hR, _⟩
 obtain ⟨E, hE⟩ : ∃ E, (framesL (b.drop 16)).2 = E := ⟨_, rfl⟩
 have hop : openP K num b = (show Option Int × List RefD from if 16 + E ≠ b.length ∨ (L.map FrD.t).length ≠ (refsS num E (L.map FrD.t)).length + 1 then (some 17, [])
     else if ((L.map FrD.t).getD (refsS num E (L.map FrD.t)).length (0, [], 0)).1 ≠ 3 then (some 17, [])
     else match openF K 3 (numL (n64 num)) ((L.map FrD.t).getD (refsS num E (L.map FrD.t)).length (0, [], 0)).2.1 with
       | none => (some 10, [])
       | some p => if p = footL (refsS num E (L.map FrD.t)) then (none, refsS num E (L.map FrD.t)) else (some 10, [])) := by
   unfold openP
   rw [if_neg hgn, if_neg (by rw [hhe]; simp), hL, hE]
 rw [hE] at hR ⊢
 obtain ⟨rs, hrs⟩ : ∃ rs, refsS num E (L.map FrD.t) = rs := ⟨_, rfl⟩
 have hfn : L.length = fn := hF.rd.num (by decide)
 have hrl : rs.length ≤ L.length := by rw [← hrs]; simpa using refsS_len num E (L.map FrD.t)
 rw [hrs] at hop hR ⊢
 have hml : (L.map FrD.t).length = fn := by rw [List.length_map, hfn]
 rw [hml] at hop
 have hLb : L.length ≤ 1000000 := by
   have h3 := (framesF_bound ((b.drop 16).length + 1) (b.drop 16) 0).2.2
   have := congrArg List.length hL
   rw [List.length_map] at this
   have hd : (framesL (b.drop 16)).1.length ≤ (b.drop 16).length := h3
   simp only [List.length_drop] at hd
   omega
 have ew : IntKind.wrap .i64 (((rs.length : Nat) : Int) + 1) = ((rs.length + 1 : Nat) : Int) := by rw [wrap_i64 (by omega) (by omega)]; omega
 have k4 := (k1.same c4)
 refine ⟨_, _, _, _, _, _, _, _, rfl, ?_⟩
 rw [ew]
 refine ⟨fun y w' => y = !decide ((16 + E = b.length ∧ fn = rs.length + 1) ∧ ((L.map FrD.t).getD rs.length (0, [], 0)).1 = 3) ∧ w' = w4, ⟨fun hbad => ?_, fun hgood => ?_⟩, ?_⟩
 · have : ¬ (16 + E = b.length ∧ fn = rs.length + 1) := by
     rintro ⟨h1, h2⟩
     rw [h1, h2] at hbad
     simp at hbad
   exact ⟨by simp [this], rfl⟩
 · have h12 : 16 + E = b.length ∧ fn = rs.length + 1 := by
     simp only [Bool.or_eq_false_iff, bne_eq_false_iff_eq] at hgood
     omega
   have hx : L[rs.length]? = some L[rs.length] := List.getElem?_eq_getElem (by omega)
   obtain ⟨x, hxx⟩ : ∃ x, L[rs.length] = x := ⟨_, rfl⟩
   rw [hxx] at hx
   obtain ⟨bb, o, hab, q⟩ := hF.rd.fld (P := Tryz.prog) (by decide) inA (j := 0) hx rfl
   have hgd : (L.map FrD.t).getD rs.length (0, [], 0) = x.t := by rw [List.getD_eq_getElem?_getD, List.getElem?_map, hx]; rfl
   refine ⟨bb, o, hab, by omega, by omega, _, q w4 hF.rd, ?_, rfl⟩
   rw [hgd]
   have h3 : (3 : UInt8).toNat = 3 := rfl
   by_cases hk3 : x.k = 3
   · rw [decide_eq_true (show (16 + E = b.length ∧ fn = rs.length + 1) ∧ x.t.1 = 3 from ⟨h12, hk3⟩), hk3]; rfl
   · rw [decide_eq_false (fun h : (16 + E = b.length ∧ fn = rs.length + 1) ∧ x.t.1 = 3 => hk3 h.2)]
     have : (x.k.toNat : Int) ≠ 3 := fun h => hk3 (UInt8.toNat_inj.1 (by omega))
     simpa using this
 rintro y w5 ⟨rfl, rfl⟩
 refine ⟨fun hbad => ?_, fun hgood => ?_⟩
 · have hb := ndT hbad
   have ho : openP K num b = (some 17, []) := by
     rw [hop]
     by_cases h12 : 16 + E = b.length ∧ fn = rs.length + 1
     · have h3 : ((L.map FrD.t).getD rs.length (0, [], 0)).1 ≠ 3 := fun h => hb ⟨h12, h⟩
       rw [if_neg (by omega), if_pos h3]
     · rw [if_pos (by omega)]
   rw [ho]; exact ⟨none, 0, rfl, nilR _, k1.chg.trans c4⟩
 have hgd := ndF hgood
 obtain ⟨⟨h1, h2⟩, h3⟩ := hgd
 rw [if_neg (by omega), if_neg (by simpa using h3)] at hop
 have hx : L[rs.length]? = some L[rs.length] := List.getElem?_eq_getElem (by omega)
 obtain ⟨x, hxx⟩ : ∃ x, L[rs.length] = x := ⟨_, rfl⟩
 rw [hxx] at hx
 have hgd : (L.map FrD.t).getD rs.length (0, [], 0) = x.t := by rw [List.getD_eq_getElem?_getD, List.getElem?_map, hx]; rfl
 rw [hgd] at hop
 have hop : openP K num b = (match openF K 3 (numL (n64 num)) x.body with
       | none => ((some 10, []) : Option Int × List RefD)
       | some p => if p = footL rs then (none, rs) else (some 10, [])) := hop
 have hxb := hF.body x (List.mem_of_getElem? hx)
 have hxl : x.body.length ≤ 1000000 := by
   have hm : x.t ∈ (framesL (b.drop 16)).1 := by rw [← hL]; exact List.mem_map_of_mem (List.mem_of_getElem? hx)
   have := ((framesF_bound ((b.drop 16).length + 1) (b.drop 16) 0).2.1 x.t hm).2
   simp only [FrD.t, List.length_drop] at this
   omega
 obtain ⟨bb, o, hab, q⟩ := hF.rd.fld (P := Tryz.prog) (by decide) bsA' (j := 1) hx rfl
 have hD := Chg.drew [] w5
 let S : World → Prop := fun w' => Chg [] w5 w'
 refine ⟨S, hD, bb, o, hab, by omega, by omega, _, fun w' hw => (k4.same hw).ldA (i := 0) (l := bv K) rfl (kyA' _) (kyS' _) (by simp [hk]), _, _, _, fun w' hw => q w' (hF.rd.keep0 hw), (num_bytes' num _).mono ?_⟩
 rintro e w6 ⟨a6, c6, rfl, hf6⟩
 have d6 : Chg [] w5 w6 := hD.trans hf6.1
 refine ⟨_, _, _, rfl, S, fun _ h => h, d6, (open_spec K 3 a6 8 c6 (numL (n64 num)) x.a x.body.length x.c x.body w6 hk (((hK.keep0 k1.chg).keep0 c4).keep0 d6) hf6.rdB (hxb.keep0 d6) (by omega)).mono ?_⟩
 rintro e w7 ⟨a7, n7, c7, rfl, hf7⟩
 have d7 : Chg [] w5 w7 := d6.trans hf7.1
 have hc7 : Chg [] w w7 := (k1.chg.trans c4).trans d7
 rw [openE] at *
 refine ⟨_, _, _, _, rfl, S, fun _ h => h, d7, _, neqS_nil hI _ _ _, fun hbad => ?_, fun hgood => ?_⟩
 · cases ho : openF K 3 (numL (n64 num)) x.body with
   | none =>
     rw [ho] at hop
     rw [hop]; exact ⟨none, 0, rfl, nilR _, hc7⟩
   | some p => rw [ho] at hbad; simp at hbad
 cases ho : openF K 3 (numL (n64 num)) x.body with
 | none => rw [ho] at hgood; simp at hgood
 | some p =>
   rw [ho] at hop hf7
   refine (footPlain_spec ra rs.length rc rs w7 (hR.keep0 d7) (by omega)).mono ?_
   rintro e w8 ⟨a8, n8, c8, rfl, hf8⟩
   refine ⟨_, _, _, rfl, (bytesEq_spec a7 n7 c7 p a8 n8 c8 (footL rs) w8 (hf7.rdB.keep0 hf8.1) hf8.rdB).mono ?_⟩
   rintro e w9 ⟨rfl, rfl⟩
   have hop : openP K num b = if p = footL rs then (none, rs) else (some 10, []) := hop
   refine ⟨_, rfl, fun hbad => ?_, fun hgood => ?_⟩
   · rw [if_neg (ndT hbad)] at hop
     rw [hop]; exact ⟨none, 0, rfl, nilR _, hc7.trans hf8.1⟩
   · rw [if_pos (ndF hgood)] at hop
     rw [hop]; exact ⟨ra, rc, rfl, (hR.keep0 d7).keep0 hf8.1, hc7.trans hf8.1⟩

end

end Go.Proofs.YtmdandkoajocpaaGreatDoor
end

section
namespace Go.Proofs.YtmdandkoajocpaaGreatDoor
open Go Sx
set_option maxRecDepth 8000

theorem ofNat8 {n : Nat} (h : n < 256) : (UInt8.ofNat n).toNat = n := by rw [UInt8.toNat_ofNat']; exact Nat.mod_eq_of_lt h

theorem rdVar_varL : ∀ (f m i n : Nat) (r : List UInt8), m < 128 ^ f → (m ≠ 0 ∨ i = 0) → 0 < f → rdVar f (varL m ++ r) i n = some (n + m * 128 ^ i, i + (varL m).length)
 | 0, _, _, _, _, _, _, h => by omega
 | f + 1, m, i, n, r, hm, h0, _ => by
   have hp : 128 ^ (f + 1) = 128 ^ f * 128 := Nat.pow_succ ..
   by_cases h : m < 128
   · rw [varL_small h]
     simp only [List.cons_append, List.nil_append, rdVar, ofNat8 (show m < 256 by omega), if_pos h, List.length_cons, List.length_nil, Nat.zero_add]
     rw [if_neg (by omega)]
   · have hf : 0 < f := by
       rcases Nat.eq_zero_or_pos f with rfl | h' 
       · simp at hm; omega
       · exact h'
     have hq : m / 128 < 128 ^ f := Nat.div_lt_of_lt_mul (by rw [Nat.mul_comm]; omega)
     have ih := rdVar_varL f (m / 128) (i + 1) (n + m % 128 * 128 ^ i) r hq (.inl (by omega)) hf
     rw [varL_big h]
     simp only [List.cons_append, rdVar, ofNat8 (show m % 128 + 128 < 256 by omega)]
     rw [if_neg (by omega), Nat.add_sub_cancel, ih]
     have e : n + m % 128 * 128 ^ i + m / 128 * 128 ^ (i + 1) = n + m * 128 ^ i := by
       have h1 : 128 ^ (i + 1) = 128 * 128 ^ i := by rw [Nat.pow_succ, Nat.mul_comm]
       rw [h1, ← Nat.mul_assoc, Nat.add_assoc, ← Nat.add_mul]
       congr 2
       omega
     rw [e, List.length_cons]
     congr 2
     omega

theorem readVar_varL {m : Nat} (h : m < 9223372036854775808) (r : List UInt8) : readVarF (varL m ++ r) = some (m, (varL m).length) := by
 rw [readVarF, rdVar_varL 9 m 0 0 r (by simpa using h) (.inr rfl) (by decide)]
 simp

theorem beNat_numL (u : Nat) (h : u < 18446744073709551616) : beNat (numL u) = u := by
 have key : ∀ k, k ≤ 8 → beNat ((List.range k).map fun j => UInt8.ofNat (u / 256 ^ (7 - j) % 256)) = u / 256 ^ (8 - k) := by
   intro k
   induction k with
   | zero => intro _; simp [beNat]; exact (Nat.div_eq_of_lt h).symm
   | succ k ih =>
     intro hk
     rw [List.range_succ, List.map_append, List.map_cons, List.map_nil, beNat_snoc, ih (by omega), ofNat8 (Nat.mod_lt _ (by decide)), show 8 - k = (7 - k) + 1 by omega, show 8 - (k + 1) = 7 - k by omega, Nat.pow_succ, ← Nat.div_div_eq_div_mul]
     omega
 have := key 8 (by decide)
 simpa [numL] using this

theorem readNum_numL (x : Int) (h1 : -9223372036854775808 ≤ x) (h2 : x ≤ 9223372036854775807) : readNumF (numL (x % 18446744073709551616).toNat) = some x := by
 rw [readNumF, if_pos (numL_len _), beNat_numL _ (by omega), Int.toNat_of_nonneg (by omega), wrap_i64_of]
 congr 1
 split <;> omega

theorem fieldF_pack {f : List UInt8} (h : f.length ≤ 67108864) (r : List UInt8) : fieldF (varL f.length ++ f ++ r) = some (f, r) := by
 rw [List.append_assoc, fieldF, readVar_varL (by omega)]
 simp only [Option.bind_some]
 rw [if_pos ⟨h, by simp; omega⟩]
 have e1 : (varL f.length ++ (f ++ r)).drop (varL f.length).length = f ++ r := by simp
 have e2 : (varL f.length ++ (f ++ r)).drop ((varL f.length).length + f.length) = r := by
   rw [← List.drop_drop, e1]; simp
 rw [e1, e2]; simp

end Go.Proofs.YtmdandkoajocpaaGreatDoor
end

section
namespace Go.Proofs.YtmdandkoajocpaaGreatDoor
open Go Sx
set_option maxRecDepth 8000

theorem frameF_app {k : UInt8} {b : List UInt8} (h : b.length ≤ 67108864) (r : List UInt8) : frameF (frameL k b ++ r) = some (k, b, r) := by
 have h1 := fieldF_pack h r
 have e : frameL k b ++ r = k :: (varL b.length ++ b ++ r) := by simp [frameL]
 rw [e]
 simp only [frameF, h1]; rfl
theorem framesF_none {l : List UInt8} (h : frameF l = none) (f p : Nat) : framesF f l p = ([], p) := by
 cases f with
 | zero => rfl
 | succ f => simp [framesF, h]

abbrev Fr2 := UInt8 × List UInt8
def frsL (xs : List Fr2) : List UInt8 := (xs.map fun x => frameL x.1 x.2).flatten
def frsAt : Nat → List Fr2 → List Frm
 | _, [] => []
 | p, x :: r => (x.1, x.2, p) :: frsAt (p + (frameL x.1 x.2).length) r
theorem frsAt_len : ∀ (xs : List Fr2) (p : Nat), (frsAt p xs).length = xs.length
 | [], _ => rfl
 | x :: r, p => by simp [frsAt, frsAt_len r]
theorem framesF_app : ∀ (xs : List Fr2) (f p : Nat) (t : List UInt8), (∀ x ∈ xs, x.2.length ≤ 67108864) → xs.length ≤ f → framesF f (frsL xs ++ t) p = (frsAt p xs ++ (framesF (f - xs.length) t (p + (frsL xs).length)).1, (framesF (f - xs.length) t (p + (frsL xs).length)).2)
 | [], f, p, t, _, _ => by simp [frsL, frsAt]
 | x :: r, 0, p, t, _, h => by simp at h
 | x :: r, f + 1, p, t, hx, h => by
   have ih := framesF_app r f (p + (frameL x.1 x.2).length) t (fun y hy => hx y (by simp [hy])) (by simpa using h)
   have e : frsL (x :: r) ++ t = frameL x.1 x.2 ++ (frsL r ++ t) := by simp [frsL]
   rw [e, framesF, frameF_app (hx x (by simp))]
   have el : (frameL x.1 x.2 ++ (frsL r ++ t)).length - (frsL r ++ t).length = (frameL x.1 x.2).length := by simp
   simp only [el, ih]
   have e2 : f + 1 - (x :: r).length = f - r.length := by simp
   have e3 : p + (frsL (x :: r)).length = p + (frameL x.1 x.2).length + (frsL r).length := by simp [frsL]; omega
   rw [e2, e3]
   simp [frsAt]

def fr2 (x : Itm) : Fr2 := (2, x.1 ++ x.2)
theorem frsL_items (xs : List Itm) : frsL (xs.map fr2) = (xs.map frmT).flatten := by simp only [frsL, List.map_map]; rfl
theorem refsS_items (num : Int) (e : Nat) (rest : List Frm) : ∀ (xs : List Itm) (p : Nat), (∀ x ∈ xs, x.1.length = 32) → endF e rest = p + (frsL (xs.map fr2)).length → refsS num e (frsAt p (xs.map fr2) ++ rest) = refsP num (16 + p) xs ++ refsS num e rest
 | [], p, _, _ => rfl
 | x :: r, p, h, he => by
   have hx := h x (by simp)
   have el : (frsL ((x :: r).map fr2)).length = (frmT x).length + (frsL (r.map fr2)).length := by simp [frsL, fr2, frmT]
   have ih := refsS_items num e rest r (p + (frmT x).length) (fun y hy => h y (by simp [hy])) (by rw [he, el]; omega)
   have hend : endF e (frsAt (p + (frmT x).length) (r.map fr2) ++ rest) = p + (frmT x).length := by
     cases r with
     | nil => simpa [frsAt, frsL, fr2, frmT] using he
     | cons y r => rfl
   show refsS num e ((2, x.1 ++ x.2, p) :: (frsAt (p + (frameL 2 (x.1 ++ x.2)).length) (r.map fr2) ++ rest)) = _
   have e0 : (frameL 2 (x.1 ++ x.2)).length = (frmT x).length := rfl
   rw [e0, refsS, if_pos ⟨rfl, by simp [hx]⟩, hend, ih]
   have e1 : (x.1 ++ x.2).take 32 = x.1 := List.take_left' hx
   have e2 : (x.1 ++ x.2).length - 32 = x.2.length := by simp [hx]
   simp only [e1, e2, refsP, List.cons_append]
   rw [show 16 + (p + (frmT x).length) = 16 + p + (frmT x).length by omega]

theorem refsS_stop (num : Int) (e : Nat) {k : UInt8} (hk : k ≠ 2) (b : List UInt8) (p : Nat) (r : List Frm) : refsS num e ((k, b, p) :: r) = [] := if_neg fun h => hk h.1

theorem n64_eq {num : Int} (hg : goodP num = true) : readNumF (numL (n64 num)) = some num := by
 have h := goodP_iff.1 hg
 exact readNum_numL num (by omega) (by omega)
def footBody (K : List UInt8) (num : Int) (xs : List Itm) : List UInt8 := sealF K 3 (numL (n64 num)) (footL (refsP num 16 xs))
def framesP (K : List UInt8) (num : Int) (xs : List Itm) : List Fr2 := xs.map fr2 ++ [(3, footBody K num xs)]
theorem buildP_eq (K : List UInt8) (num : Int) (xs : List Itm) : buildP K num xs = headP num ++ frsL (framesP K num xs) := by
 have h : frsL (framesP K num xs) = frsL (xs.map fr2) ++ footP K num (refsP num 16 xs) := by simp [framesP, frsL, footP, footBody]
 rw [h, frsL_items]
 simp [buildP, piecesP]
theorem head_cut {num : Int} (hg : goodP num = true) (l : List UInt8) : headF (headP num ++ l) = some num := by
 have e1 : (headP num ++ l).take 8 = magicL := by
   rw [headP, List.append_assoc, List.take_append_of_le_length (by decide)]; rfl
 have e2 : ((headP num ++ l).drop 8).take 8 = numL (n64 num) := by
   rw [headP, List.append_assoc, List.drop_left' (by rfl), List.take_left' (numL_len _)]
 rw [headF, e1, e2, n64_eq hg, if_pos ⟨by simp, rfl, by simpa using hg⟩]

theorem framesP_small (K : List UInt8) (num : Int) {xs : List Itm} (hs : SmallI xs) : ∀ x ∈ framesP K num xs, x.2.length ≤ 67108864 := by
 intro x hx
 rcases List.mem_append.1 hx with hx | hx
 · obtain ⟨y, hy, rfl⟩ := List.mem_map.1 hx
   have h1 := hs.blob hy
   have h2 := hs.idl y hy
   simp only [fr2, List.length_append]; omega
 · simp only [List.mem_singleton] at hx
   subst hx
   have h2 := hs.num
   simp only [footBody]
   rw [sealF_len _ _ _ _ (by rw [footL_len, refsP_len]; omega), footL_len, refsP_len]
   omega

theorem open_build (K : List UInt8) {num : Int} (hg : goodP num = true) {xs : List Itm} (hs : SmallI xs) : openP K num (buildP K num xs) = (none, refsP num 16 xs) := by
 have hsm := framesP_small K num hs
 have hfb : (footBody K num xs).length ≤ 67108864 := hsm (3, footBody K num xs) (by simp [framesP])
 have hnum := hs.num
 have hd : (buildP K num xs).drop 16 = frsL (framesP K num xs) := by rw [buildP_eq, List.drop_left' (headP_len _)]
 have hlen : ∀ zs : List Fr2, zs.length ≤ (frsL zs).length := by
   intro zs
   induction zs with
   | nil => simp
   | cons z zs ih => simp only [frsL, List.map_cons, List.flatten_cons, List.length_append, List.length_cons, frameL] at *; omega
 obtain ⟨P, hP⟩ : ∃ P, (frsL (xs.map fr2)).length = P := ⟨_, rfl⟩
 have hfl : framesL (frsL (framesP K num xs)) = (frsAt 0 (xs.map fr2) ++ [(3, footBody K num xs, P)], (frsL (framesP K num xs)).length) := by
   have h1 := hlen (framesP K num xs)
   have := framesF_app (framesP K num xs) ((frsL (framesP K num xs)).length + 1) 0 [] hsm (by omega)
   rw [List.append_nil, framesF_none (show frameF [] = none from rfl)] at this
   rw [framesL, this]
   have : ∀ (zs : List Fr2) (p : Nat) (y : Fr2), frsAt p (zs ++ [y]) = frsAt p zs ++ [(y.1, y.2, p + (frsL zs).length)] := by
     intro zs
     induction zs with
     | nil => intro p y; simp [frsAt, frsL]
     | cons z zs ih =>
       intro p y
       simp only [List.cons_append, frsAt, ih]
       have : p + (frameL z.1 z.2).length + (frsL zs).length = p + (frsL (z :: zs)).length := by simp [frsL]; omega
       rw [this]
   rw [framesP, this, hP]
   simp
 have href : refsS num (frsL (framesP K num xs)).length (frsAt 0 (xs.map fr2) ++ [(3, footBody K num xs, P)]) = refsP num 16 xs := by
   rw [refsS_items num _ _ xs 0 hs.idl (by simp [endF, hP]), refsS_stop num _ (by decide), List.append_nil]
 have hat : (frsAt 0 (xs.map fr2) ++ [(3, footBody K num xs, P)]).getD (refsP num 16 xs).length (0, [], 0) = (3, footBody K num xs, P) := by
   rw [List.getD_eq_getElem?_getD, List.getElem?_append_right (by rw [frsAt_len, refsP_len]; simp), frsAt_len, refsP_len]
   simp
 have hop := open_sealF K 3 (numL (n64 num)) (footL (refsP num 16 xs)) (by rw [footL_len, refsP_len]; omega)
 unfold openP
 rw [hd, hfl]
 simp only [href, hat]
 rw [if_neg (by rw [hg]; simp), buildP_eq, head_cut hg, if_neg (by simp), if_neg (by simp [frsAt_len, refsP_len]), if_neg (by simp)]
 have : openF K 3 (numL (n64 num)) (footBody K num xs) = some (footL (refsP num 16 xs)) := hop
 rw [this]
 simp

theorem open_other_num (K : List UInt8) {num n2 : Int} (hg : goodP num = true) (hg2 : goodP n2 = true) (hne : num ≠ n2) (xs : List Itm) : openP K n2 (buildP K num xs) = (some 17, []) := by
 unfold openP
 rw [if_neg (by rw [hg2]; simp), buildP_eq, head_cut hg, if_pos (by simpa using hne)]

end Go.Proofs.YtmdandkoajocpaaGreatDoor
end

section
namespace Go.Proofs.YtmdandkoajocpaaGreatDoor
open Go Sx
set_option maxRecDepth 8000

theorem d32B (w : World) : (Instr.build 22 #[]).run Tryz.prog w = .ok (.agg (bv (List.replicate 32 0)).toArray) w := by
 have := build_arr (P := Tryz.prog) (w := w) (T := 22) (d32Z w) Tryz.underlying22 (sB1 w) [] (by simp) (by simp)
 simpa using this

theorem rderived_spec (a0 : Option Addr) (n0 c0 : Nat) (salt : List UInt8) (a1 : Option Addr) (n1 c1 : Nat) (secret : List UInt8) (s : ByteArray) (info : List UInt8) (w : World) (hs : s = ⟨info.toArray⟩) (hr0 : RdB w a0 n0 c0 salt) (hr1 : RdB w a1 n1 c1 secret) (hb : n0 + n1 + info.length ≤ 1099511627776) :
   Calls Tryz.prog 37 #[.slice a0 n0 c0, .slice a1 n1 c1, .string s] w fun e w' => e = .returned (.agg (bv (der32 salt secret info)).toArray) ∧ Chg [] w w' := by
 apply amphoraref05_derived_vc
 obtain ⟨D, hD⟩ : ∃ D, der32 salt secret info = D := ⟨_, rfl⟩
 have hDl : D.length = 32 := by rw [← hD]; simp
 obtain ⟨g6, w1, r1, h1⟩ := (St.start w).zeroA d32Z
 obtain ⟨g7, w2, r2, h2⟩ := h1.zeroA d32Z
 obtain ⟨w3, r3, h3⟩ := h2.stA (i := 1) (v := bv (mixG D (List.replicate 32 0) 0)) rfl (d32S _) (by simp) (by rw [mixG_zero]; simp) (bv_one _)
 rw [mixG_zero] at r3
 obtain ⟨g4, c4, w4, r4, hc4, hr4, _⟩ := toBytes s info hs w3
 have h4 := h3.same hc4
 refine ⟨g6, w1, r1, _, d32B _, g7, w2, r2, w3, r3, _, _, _, _, r4, (rderive_specN a0 n0 c0 salt a1 n1 c1 secret _ info.length c4 info 32 w4 (h4.rd1 hr0) (h4.rd1 hr1) hr4 hb).mono ?_⟩
 rintro e w5 (⟨hx, _⟩ | ⟨_, _, a, n, c, rfl, hc5, hr5, hf5⟩)
 · omega
 have hd : deriveF salt secret info (Int.toNat 32) = der32 salt secret info := rfl
 rw [hd, hD] at hr5
 rw [hD]
 have hn : n = 32 := by rw [← hr5.lenB, hDl]
 subst hn
 have h5 := h4.same hc5
 have hg7 : g7 < w4.heap.size := Res.lt (h4.holds 1 _ rfl) g7 (by simp [Res.fp])
 refine ⟨_, _, _, _, rfl, fun x w' => ∃ i : Nat, x = (i : Int) ∧ i ≤ 32 ∧ RdB w' a 32 c D ∧ St w [] w' [.arr g6 22 (bv (List.replicate 32 0)), .arr g7 22 (bv (mixG D (List.replicate 32 0) i))], fun x _ => 32 - x.toNat, ⟨0, rfl, by omega, hr5, h5⟩, ?_⟩
 rintro x w6 ⟨i, rfl, hi, hr6, h6⟩
 refine ⟨fun h => ?_, fun h => ?_⟩
 · have hi' : i < 32 := by simp at h; omega
   refine ix0 hr6.cells hDl i (by omega) fun bl o ha q => ⟨bl, o, ha, by omega, by omega, _, q w6 hr6.cells, by omega, by omega, ?_⟩
   have hbi : D[i]? = some (D.getD i 0) := by
     rw [List.getD, List.getElem?_eq_getElem (by omega)]
     rfl
   have hml : (mixG D (List.replicate 32 (0 : UInt8)) i).length = 32 := by simp [mixG]; omega
   have h6s := h6.self
   obtain ⟨w7, r7, h7⟩ := h6.stB (i := 1) (o := i) (T := 5) (b := D.getD i 0) rfl (sB1 _) (show 0 + Int.toNat (i : Int) * 1 = i by omega) (by omega)
   obtain ⟨w7', r7', h7'⟩ := (St.ofBlk (h6.holds 1 _ rfl)).stB (i := 0) (o := i) (T := 5) (l := mixG D (List.replicate 32 (0 : UInt8)) i) (b := D.getD i 0) rfl (sB1 _) (show 0 + Int.toNat (i : Int) * 1 = i by omega) (by omega)
   have ew : w7' = w7 := by
     have := r7'.symm.trans r7
     simp only [Result.ok.injEq, true_and] at this
     exact this
   rw [mixG_set (by rw [hDl, List.length_replicate]) hbi] at h7
   refine ⟨w7, r7, ⟨i + 1, wrap_succ hi' (by omega), by omega, ?_, h7⟩, mu_succ hi' (by omega)⟩
   rw [ew] at h7'
   refine hr6.keep h7'.chg fun ad e => ?_
   have := hf5 ad e
   simp
   omega
 · have hi' : i = 32 := by simp at h; omega
   have f1 : mixG D (List.replicate 32 (0 : UInt8)) i = D := by
     have := mixG_all (x := D) (l := List.replicate 32 (0 : UInt8)) (by rw [hDl, List.length_replicate])
     rw [List.length_replicate] at this; rw [hi', this]
   rw [f1] at h6
   obtain ⟨w8, r8, h8⟩ := h6.stA (i := 0) (v := bv D) rfl (d32S _) (by simp) (by simp [hDl]) (bv_one _)
   exact ⟨_, h6.ldA (i := 1) rfl (d32A _) (d32S _) (by simp [hDl]), w8, r8, _, h8.ldVarA (i := 0) (l := bv D) rfl (d32A _) (d32S _) (by simp [hDl]), rfl, h8.chg⟩

theorem rfromMaster_spec (m : List UInt8) (w : World) (hm : m.length = 32) :
   Calls Tryz.prog 9 #[.agg (bv m).toArray] w fun e w' => e = .returned (.agg (bv (masterF m)).toArray) ∧ Chg [] w w' := by
 apply amphoraref05_FromMaster_vc
 obtain ⟨g1, w1, r1, h1⟩ := (St.start w).boxA 22 (bv m)
 obtain ⟨g2, w2, r2, h2⟩ := h1.zeroA kyZ
 obtain ⟨g3, w3, w4, r3, r4, c4, hr4⟩ := litMark amphL (by decide) w2
 have h4 := (h2.same c4).drew
 have hd := Chg.drew [] w4
 have dd : ∀ w' (i : List UInt8) (s : ByteArray), s = ⟨i.toArray⟩ → i.length ≤ 1000 → Chg [] w4.drew w' → Calls Tryz.prog 37 #[.slice (some ⟨g3, 0, none⟩) 7 7, .slice (some ⟨g1, 0, none⟩) 32 32, .string s] w' fun e w'' => e = .returned (.agg (bv (der32 amphL m i)).toArray) ∧ Chg [] w' w'' := fun w' i s hs hi hc =>
   rderived_spec _ 7 7 amphL _ 32 32 m s i w' hs (hr4.keep0 (hd.trans hc)) ((h4.same hc).rdA (i := 0) rfl (by simp [hm])) (by omega)
 refine ⟨g1, w1, r1, g2, w2, r2, _, _, _, _, r3, _, _, _, _, r4, fun w' => Chg [] w4.drew w', Chg.refl _ _, by omega, by omega, by omega, by omega, by omega, by omega, (dd _ [99, 105, 112, 104, 101, 114] _ rfl (by decide) (Chg.refl _ _)).mono ?_⟩
 rintro e w5 ⟨rfl, c5⟩
 refine ⟨_, rfl, fun w' => Chg [] w4.drew w', fun _ h => h, c5, (dd _ [109, 97, 99] _ rfl (by decide) c5).mono ?_⟩
 rintro e w6 ⟨rfl, c6⟩
 have d6 := c5.trans c6
 refine ⟨_, rfl, fun w' => Chg [] w4.drew w', fun _ h => h, d6, (dd _ [110, 97, 109, 101] _ rfl (by decide) d6).mono ?_⟩
 rintro e w7 ⟨rfl, c7⟩
 have d7 := d6.trans c7
 obtain ⟨w8, r8, h8⟩ := (h4.same d7).stA (i := 1) (v := bv (masterF m)) rfl (kyS _) (by simp) (by simp) (bv_one _)
 exact ⟨_, rfl, fun w' => Chg [] w4.drew w', fun _ h => h, d7, _, fun w' _ => keys_build (der32_len _ _ _) (der32_len _ _ _) (der32_len _ _ _) w', w8, r8, _, h8.ldVarA (i := 1) (l := bv (masterF m)) rfl (kyA _) (kyS _) (by simp), rfl, h8.chg⟩

end Go.Proofs.YtmdandkoajocpaaGreatDoor
end

section
namespace Go.Proofs.YtmdandkoajocpaaGreatDoor
open Go Go.Proofs.YtmdandkoajocpaaGreatDoor.Sx

set_option maxRecDepth 100000
theorem amphoralaw13_alive_vc  (w : World) (R : Ending → World → Prop) (h : ∃ t8, (Instr.build 22 #[(0, (.int .u8 9))]).run Tryz.prog w = .ok (.agg t8) w ∧ (Calls Tryz.prog 9 #[(.agg t8)] w fun e9 w1 => ∃ t9, e9 = .returned (.agg t9) ∧ (∃ g1 w2, AlQ 28 g1 w1 w2 ∧ (∃ w3, StQ 28 g1 0 (.agg t9) w2 w3 ∧ (∃ t11, LdQ 28 g1 0 (.agg t11) w3 ∧ (Calls Tryz.prog 11 #[(.agg t11), (.int .i64 5), (.slice none 0 0)] w3 fun e12 w4 => ∃ t12_0a t12_0n t12_0c t12_1a t12_1n t12_1c t12_2, e12 = .returned (.tuple #[(.slice t12_0a t12_0n t12_0c), (.slice t12_1a t12_1n t12_1c), t12_2]) ∧ (∃ t17, (eqlS .neq 36 (.tmp 16) (.const .nilIface) t12_2 .nilIface).run Tryz.prog w4 = .ok (.bool t17) w4 ∧ ((((t17 || ((t12_1n : Int) != (0 : Int))) || ((t12_0n : Int) != (63 : Int))) = true → (R (.returned (.bool false)) w4)) ∧ (((t17 || ((t12_1n : Int) != (0 : Int))) || ((t12_0n : Int) != (63 : Int))) = false → (∃ t29, LdQ 28 g1 0 (.agg t29) w4 ∧ (Calls Tryz.prog 26 #[(.agg t29), (.int .i64 5), (.slice t12_0a t12_0n t12_0c)] w4 fun e31 w5 => ∃ t31_0a t31_0n t31_0c t31_1, e31 = .returned (.tuple #[(.slice t31_0a t31_0n t31_0c), t31_1]) ∧ (∃ t35, LdQ 28 g1 0 (.agg t35) w5 ∧ (Calls Tryz.prog 26 #[(.agg t35), (.int .i64 6), (.slice t12_0a t12_0n t12_0c)] w5 fun e37 w6 => ∃ t37_0a t37_0n t37_0c t37_1, e37 = .returned (.tuple #[(.slice t37_0a t37_0n t37_0c), t37_1]) ∧ (∃ t41, (eqlS .eql 36 (.tmp 40) (.const .nilIface) t31_1 .nilIface).run Tryz.prog w6 = .ok (.bool t41) w6 ∧ (((t41 && ((t31_0n : Int) == (0 : Int))) = true → (∃ t50, (eqlS .eql 36 (.tmp 48) (.tmp 49) t37_1 (.iface 69 (.int .i64 17))).run Tryz.prog w6 = .ok (.bool t50) w6 ∧ ((t50 = true → (Calls Tryz.prog 19 #[(.int .i64 5)] w6 fun e53 w7 => ∃ t53, e53 = .returned (.string t53) ∧ (R (.returned (.bool (t53.toList == (ByteArray.mk #[112, 53]).toList))) w7))) ∧ (t50 = false → (R (.returned (.bool false)) w6))))) ∧ ((t41 && ((t31_0n : Int) == (0 : Int))) = false → (R (.returned (.bool false)) w6))))))))))))))))) : Calls Tryz.prog 7 #[] w R := calls_of_ev2 (tc := .sq [.rg 1, .reg (.op (.ld .agg) (.op (.cl [.agg]) (.op .bx (.op .u .nil)))), .reg (.op (.ld .agg) (.op (.cl [.slice, .slice, .val]) (.pp 7 .nil))), .seq (.reg (.op .p (.op (.ld .bool) (.op .p (.ap 3 (.op .p (.ap 3 .nil))))))) (.cond (.seq (.rg 1) .leaf) .leaf), .reg (.op (.ld .agg) (.op .p (.op (.cl [.slice, .val]) (.pp 5 .nil)))), .reg (.op (.ld .agg) (.op .p (.op (.cl [.slice, .val]) (.pp 5 .nil)))), .reg (.op .p (.op (.ld .bool) (.op .p (.ap 3 (.op .p (.sp 47 (.pp 2 (.op (.ld .bool) (.pp 2 (.sp 52 (.op (.cl [.str]) (.pp 3 .nil)) (.pp 4 .nil))))) (.pp 9 .nil)))))))] .leaf) Tryz.func7 (by kernel_rfl) (by kernel_rfl) h

theorem amphoralaw13_Case_items_vc (a0 : Array Value) (w : World) (R : Ending → World → Prop) (h : ∃ g1 w1, (Instr.box 25 (.agg a0)).run Tryz.prog w = .ok (.pointer (some ⟨g1, 0, none⟩)) w1 ∧ (∃ t10a t10n t10c w2, (Instr.buildSlice 30 0 #[]).run Tryz.prog w1 = .ok (.slice t10a t10n t10c) w2 ∧ (∃ t11a t11n t11c w3, (Instr.buildSlice 30 0 #[]).run Tryz.prog w2 = .ok (.slice t11a t11n t11c) w3 ∧ (∃ t13a t13n t13c, LdQ 23 g1 34 (.slice t13a t13n t13c) w3 ∧ (∃ (I : Option Addr → Nat → Nat → Option Addr → Nat → Nat → Int → World → Prop) (μ : Option Addr → Nat → Nat → Option Addr → Nat → Nat → Int → World → Nat), I t10a t10n t10c t11a t11n t11c 0 w3 ∧ (∀ x4a x4n x4c x5a x5n x5c x15, ∀ w4, I x4a x4n x4c x5a x5n x5c x15 w4 → ((decide (x15 < (t13n : Int)) = true → (∃ t18b t18o, t13a = some ⟨t18b, t18o, none⟩ ∧ 0 ≤ x15 ∧ x15 < (t13n : Int) ∧ (∃ t19a t19n t19c, LdQ 33 t18b (t18o + Int.toNat x15 * 1) (.slice t19a t19n t19c) w4 ∧ (∃ t20, (Instr.build 44 #[]).run Tryz.prog w4 = .ok (.agg t20) w4 ∧ (∃ g8 w5, AlQ 44 g8 w4 w5 ∧ (∃ w6, StQ 44 g8 0 (.agg t20) w5 w6 ∧ (∃ t23a t23n t23c, LdQ 23 g1 33 (.slice t23a t23n t23c) w6 ∧ (∃ J : World → Prop, ((decide (x15 < (t23n : Int)) = true → (∃ S : World → Prop, S w6.drew ∧ (0 ≤ (32 : Int) ∧ (32 : Int) ≤ (32 : Int) ∧ (∃ t28a t28n t28c, (∀ w', S w' → LdQ 23 g1 33 (.slice t28a t28n t28c) w') ∧ (∃ t30b t30o, t28a = some ⟨t30b, t30o, none⟩ ∧ 0 ≤ x15 ∧ x15 < (t28n : Int) ∧ (∃ t31a t31n t31c, (∀ w', S w' → LdQ 33 t30b (t30o + Int.toNat x15 * 1) (.slice t31a t31n t31c) w') ∧ (∃ t32 w7, (Builtin.copy_ #[33, 33] 3 #[(.slice (some ⟨g8, 0, none⟩) (32) 32), (.slice t31a t31n t31c)]).run Tryz.prog w6.drew = .ok (.int .i64 t32) w7 ∧ (∃ S_1 : World → Prop, (∀ w', S_1 w' → S w') ∧ S_1 w7 ∧ (J  w7))))))))) ∧ (decide (x15 < (t23n : Int)) = false → (J  w6))) ∧ (∀ w8, J  w8 → (∃ t34, LdQ 44 g8 0 (.agg t34) w8 ∧ (∃ t36, (Instr.build 46 #[(0, (.agg t34)), (1, (.slice t19a t19n t19c))]).run Tryz.prog w8 = .ok (.agg t36) w8 ∧ (∃ t37a t37n t37c w9, (Instr.buildSlice 30 1 #[(0, (.agg t36))]).run Tryz.prog w8 = .ok (.slice t37a t37n t37c) w9 ∧ (∃ t38a t38n t38c w10, (Builtin.append_ #[30, 30] 30 #[(.slice x4a x4n x4c), (.slice t37a t37n t37c)]).run Tryz.prog w9 = .ok (.slice t38a t38n t38c) w10 ∧ (Calls Tryz.prog 38 #[(.slice t19a t19n t19c)] w10 fun e40 w11 => ∃ t40a t40n t40c, e40 = .returned (.slice t40a t40n t40c) ∧ (∃ t42, LdQ 44 g8 0 (.agg t42) w11 ∧ (∃ t44, (Instr.build 46 #[(0, (.agg t42)), (1, (.slice t40a t40n t40c))]).run Tryz.prog w11 = .ok (.agg t44) w11 ∧ (∃ t45a t45n t45c w12, (Instr.buildSlice 30 1 #[(0, (.agg t44))]).run Tryz.prog w11 = .ok (.slice t45a t45n t45c) w12 ∧ (∃ t46a t46n t46c w13, (Builtin.append_ #[30, 30] 30 #[(.slice x5a x5n x5c), (.slice t45a t45n t45c)]).run Tryz.prog w12 = .ok (.slice t46a t46n t46c) w13 ∧ (I t38a t38n t38c t46a t46n t46c (IntKind.wrap .i64 (x15 + 1)) w13 ∧ μ t38a t38n t38c t46a t46n t46c (IntKind.wrap .i64 (x15 + 1)) w13 < μ x4a x4n x4c x5a x5n x5c x15 w4))))))))))))))))))) ∧ (decide (x15 < (t13n : Int)) = false → (R (.returned (.tuple #[(.slice x4a x4n x4c), (.slice x5a x5n x5c)])) w4))))))))) : Calls Tryz.prog 10 #[(.agg a0)] w R := calls_of_ev2 (tc := .sq [.reg (.op .bx (.pp 2 .nil)), .reg (.op (.r .slice) (.op .p .nil)), .reg (.op (.r .slice) (.op .p .nil)), .seq (.reg (.op .p (.op (.ld .slice) (.pp 2 .nil)))) (.blk (.loop (lr [(4, 6), (15, 33)]) [4, 5, 15] [.slice, .slice, .int .i64] (.sq [.rg 1, .cond .leaf .leaf, .blk (.sq [.reg (.op .p (.op .ix (.op (.ld .slice) (.pp 2 .nil)))), .reg (.op (.ld .agg) (.op .bx (.op .u .nil))), .seq (.reg (.pp 2 (.op (.ld .slice) (.pp 2 .nil)))) (.join (lr [(26, 7)]) [] [] (.cond (.drawS (.tk 0 .sl (.tks [1, 3] (.ts 2 .slice (.tk 4 .ix (.ts 5 .slice (.go 6 (.r (.int .i64)) .nil)))))) []) .leaf)), .reg (.op .p (.op (.ld .agg) (.op .p (.op (.ld .agg) (.op (.r .slice) (.op (.r .slice) (.op .p .nil))))))), .reg (.op .p (.op (.cl [.slice]) (.op .p .nil)))] (.reg (.op .p (.op (.ld .agg) (.op .p (.op (.ld .agg) (.op (.r .slice) (.op (.r .slice) (.op .p .nil)))))))))] (.rg 2)))), .rg 4] .leaf) Tryz.func10 (by kernel_rfl) (by kernel_rfl) h

theorem amphoralaw13_Case_large_vc (a0 : Array Value) (w : World) (R : Ending → World → Prop) (h : ∃ g1 w1, (Instr.box 25 (.agg a0)).run Tryz.prog w = .ok (.pointer (some ⟨g1, 0, none⟩)) w1 ∧ (∃ t4a t4n t4c, LdQ 23 g1 34 (.slice t4a t4n t4c) w1 ∧ ((decide ((t4n : Int) > (100 : Int)) = true → (R (.returned (.bool true)) w1)) ∧ (decide ((t4n : Int) > (100 : Int)) = false → (∃ t9a t9n t9c, LdQ 23 g1 34 (.slice t9a t9n t9c) w1 ∧ (Calls Tryz.prog 36 #[(.slice t9a t9n t9c), (.int .i64 1048576)] w1 fun e10 w2 => ∃ t10, e10 = .returned (.int .i64 t10) ∧ (R (.returned (.bool (decide (t10 > (16384 : Int))))) w2))))))) : Calls Tryz.prog 8 #[(.agg a0)] w R := calls_of_ev2 (tc := .sq [.reg (.op .bx (.op .p .nil)), .reg (.op .p (.op (.ld .slice) (.pp 3 (.sp 7 (.pp 6 .nil) (.op .p (.op (.ld .slice) (.op (.cl [.int .i64]) (.pp 3 .nil))))))))] .leaf) Tryz.func8 (by kernel_rfl) (by kernel_rfl) h

theorem amphoralaw13_PackSaves_vc (a0 : Array Value) (w : World) (R : Ending → World → Prop) (h : ∃ g1 w1, (Instr.box 78 (.agg a0)).run Tryz.prog w = .ok (.pointer (some ⟨g1, 0, none⟩)) w1 ∧ (Calls Tryz.prog 7 #[] w1 fun e17 w2 => ∃ t17, e17 = .returned (.bool t17) ∧ (((!t17) = true → (R (.returned (.bool false)) w2)) ∧ ((!t17) = false → (∃ t20, LdQ 25 g1 0 (.agg t20) w2 ∧ (Calls Tryz.prog 8 #[(.agg t20)] w2 fun e21 w3 => ∃ t21, e21 = .returned (.bool t21) ∧ ((t21 = true → (R (.returned (.bool true)) w3)) ∧ (t21 = false → (∃ t24, LdQ 3 g1 35 (.int .i64 t24) w3 ∧ (Calls Tryz.prog 21 #[(.int .i64 t24)] w3 fun e25 w4 => ∃ t25_0 t25_1, e25 = .returned (.tuple #[t25_0, t25_1]) ∧ (∃ t30, LdQ 3 g1 35 (.int .i64 t30) w4 ∧ (Calls Tryz.prog 28 #[(.int .i64 t30)] w4 fun e31 w5 => ∃ t31_0 t31_1, e31 = .returned (.tuple #[t31_0, (.int .i64 t31_1)]) ∧ (∃ J : Bool → World → Prop, (∃ t35, (eqlS .neq 36 (.tmp 34) (.const .nilIface) t25_1 .nilIface).run Tryz.prog w5 = .ok (.bool t35) w5 ∧ ((t35 = true → (J true w5)) ∧ (t35 = false → (∃ t38, (eqlS .eql 58 (.tmp 37) (.const (.pointer none)) t25_0 (.pointer none)).run Tryz.prog w5 = .ok (.bool t38) w5 ∧ (J (t38 || (t31_1 != (0 : Int))) w5))))) ∧ (∀ x43, ∀ w6, J x43 w6 → ((x43 = true → (((t31_1 != (0 : Int)) = true → (∃ t48, (eqlS .neq 36 (.tmp 47) (.const .nilIface) t25_1 .nilIface).run Tryz.prog w6 = .ok (.bool t48) w6 ∧ (R (.returned (.bool t48)) w6))) ∧ ((t31_1 != (0 : Int)) = false → (R (.returned (.bool false)) w6)))) ∧ (x43 = false → (∃ t51, LdQ 3 g1 36 (.int .i64 t51) w6 ∧ (∃ J_1 : World → Prop, ((decide (t51 ≥ (0 : Int)) = true → (∃ t55, LdQ 3 g1 36 (.int .i64 t55) w6 ∧ (∃ (t56b t56o : Nat), t31_0 = .pointer (some ⟨t56b, t56o, none⟩) ∧ (∃ w7, StQ 3 t56b (t56o + 7) (.int .i64 t55) w6 w7 ∧ (∃ t60, LdQ 3 g1 36 (.int .i64 t60) w7 ∧ (Calls Tryz.prog 22 #[t25_0, (.int .i64 t60)] w7 fun e61 w8 => ∃ t61, e61 = .returned t61 ∧ (J_1  w8))))))) ∧ (decide (t51 ≥ (0 : Int)) = false → (J_1  w6))) ∧ (∀ w9, J_1  w9 → (∃ t63, LdQ 3 g1 37 (.int .i64 t63) w9 ∧ (∃ J_2 : World → Prop, ((decide (t63 ≥ (0 : Int)) = true → (∃ t67, LdQ 3 g1 37 (.int .i64 t67) w9 ∧ (∃ t68a t68n t68c w10, (Instr.buildSlice 53 2 #[(0, (.int .i64 t67)), (1, (.int .i64 3))]).run Tryz.prog w9 = .ok (.slice t68a t68n t68c) w10 ∧ (∃ (t69b t69o : Nat), t31_0 = .pointer (some ⟨t69b, t69o, none⟩) ∧ (∃ w11, StQ 53 t69b (t69o + 8) (.slice t68a t68n t68c) w10 w11 ∧ (∃ t73, LdQ 3 g1 37 (.int .i64 t73) w11 ∧ (∃ t74a t74n t74c w12, (Instr.buildSlice 53 2 #[(0, (.int .i64 t73)), (1, (.int .i64 3))]).run Tryz.prog w11 = .ok (.slice t74a t74n t74c) w12 ∧ (Calls Tryz.prog 29 #[t25_0, (.slice t74a t74n t74c)] w12 fun e75 w13 => ∃ t75, e75 = .returned t75 ∧ (J_2  w13))))))))) ∧ (decide (t63 ≥ (0 : Int)) = false → (J_2  w9))) ∧ (∀ w14, J_2  w14 → (∃ t78, LdQ 22 g1 0 (.agg t78) w14 ∧ (Calls Tryz.prog 9 #[(.agg t78)] w14 fun e79 w15 => ∃ t79, e79 = .returned (.agg t79) ∧ (∃ g7 w16, AlQ 28 g7 w15 w16 ∧ (∃ w17, StQ 28 g7 0 (.agg t79) w16 w17 ∧ (∃ t82, LdQ 25 g1 0 (.agg t82) w17 ∧ (Calls Tryz.prog 10 #[(.agg t82)] w17 fun e83 w18 => ∃ t83_0a t83_0n t83_0c t83_1a t83_1n t83_1c, e83 = .returned (.tuple #[(.slice t83_0a t83_0n t83_0c), (.slice t83_1a t83_1n t83_1c)]) ∧ (∃ (I : Int → World → Prop) (μ : Int → World → Nat), I 0 w18 ∧ (∀ x10, ∀ w19, I x10 w19 → ((decide (x10 < (2 : Int)) = true → (∃ t92, LdQ 28 g7 0 (.agg t92) w19 ∧ (∃ t95, LdQ 3 g1 32 (.int .i64 t95) w19 ∧ (Calls Tryz.prog 23 #[t25_0, (.agg t92), (.int .i64 t95), (.slice t83_1a t83_1n t83_1c)] w19 fun e97 w20 => ∃ t97_0a t97_0n t97_0c t97_1 t97_2, e97 = .returned (.tuple #[(.slice t97_0a t97_0n t97_0c), (.agg t97_1), t97_2]) ∧ (∃ g12 w21, AlQ 63 g12 w20 w21 ∧ (∃ w22, StQ 63 g12 0 (.agg t97_1) w21 w22 ∧ (∃ t103, LdQ 28 g7 0 (.agg t103) w22 ∧ (∃ t106, LdQ 3 g1 32 (.int .i64 t106) w22 ∧ (Calls Tryz.prog 30 #[t31_0, (.agg t103), (.int .i64 t106), (.slice t83_0a t83_0n t83_0c)] w22 fun e108 w23 => ∃ t108_0a t108_0n t108_0c t108_1 t108_2, e108 = .returned (.tuple #[(.slice t108_0a t108_0n t108_0c), (.agg t108_1), (.int .i64 t108_2)]) ∧ (∃ g15 w24, AlQ 63 g15 w23 w24 ∧ (∃ w25, StQ 63 g15 0 (.agg t108_1) w24 w25 ∧ (∃ J_3 : Bool → World → Prop, (∃ S : World → Prop, S w25.drew ∧ (Calls Tryz.prog 13 #[(.slice t97_0a t97_0n t97_0c), (.slice t108_0a t108_0n t108_0c)] w25.drew fun e114 w26 => ∃ t114, e114 = .returned (.bool t114) ∧ (∃ S_1 : World → Prop, (∀ w', S_1 w' → S w') ∧ S_1 w26 ∧ (((!t114) = true → (S_1 w26 ∧ (S_1 w26 ∧ (S_1 w26 ∧ (S_1 w26 ∧ (S_1 w26 ∧ (J_3 true w26))))))) ∧ ((!t114) = false → (∃ t117, (∀ w', S_1 w' → LdQ 63 g12 0 (.agg t117) w') ∧ (∃ t118, (∀ w', S_1 w' → LdQ 63 g15 0 (.agg t118) w') ∧ (∃ t119, (∀ w', S_1 w' → (eqlS .neq 63 (.tmp 117) (.tmp 118) (.agg t117) (.agg t118)).run Tryz.prog w' = .ok (.bool t119) w') ∧ ((t119 = true → (S_1 w26 ∧ (S_1 w26 ∧ (S_1 w26 ∧ (S_1 w26 ∧ (S_1 w26 ∧ (J_3 true w26))))))) ∧ (t119 = false → (Calls Tryz.prog 14 #[t97_2] w26 fun e123 w27 => ∃ t123, e123 = .returned (.int .i64 t123) ∧ (∃ S_2 : World → Prop, (∀ w', S_2 w' → S_1 w') ∧ S_2 w27 ∧ (((t123 != t108_2) = true → (S_2 w27 ∧ (S_2 w27 ∧ (S_2 w27 ∧ (S_2 w27 ∧ (J_3 true w27)))))) ∧ ((t123 != t108_2) = false → (Calls Tryz.prog 32 #[t25_0] w27 fun e129 w28 => ∃ t129a t129n t129c, e129 = .returned (.slice t129a t129n t129c) ∧ (∃ S_3 : World → Prop, (∀ w', S_3 w' → S_2 w') ∧ S_3 w28 ∧ (Calls Tryz.prog 33 #[t31_0] w28 fun e131 w29 => ∃ t131a t131n t131c, e131 = .returned (.slice t131a t131n t131c) ∧ (∃ S_4 : World → Prop, (∀ w', S_4 w' → S_3 w') ∧ S_4 w29 ∧ (Calls Tryz.prog 31 #[(.slice t129a t129n t129c), (.slice t131a t131n t131c)] w29 fun e132 w30 => ∃ t132, e132 = .returned (.bool t132) ∧ (∃ S_5 : World → Prop, (∀ w', S_5 w' → S_4 w') ∧ S_5 w30 ∧ (((!t132) = true → (S_5 w30 ∧ (J_3 true w30))) ∧ ((!t132) = false → (∃ (t139b t139o : Nat), t31_0 = .pointer (some ⟨t139b, t139o, none⟩) ∧ (∃ t141, (∀ w', S_5 w' → LdQ 3 t139b (t139o + 5) (.int .i64 t141) w') ∧ (Calls Tryz.prog 34 #[t25_0] w30 fun e137 w31 => ∃ t137, e137 = .returned (.int .i64 t137) ∧ (∃ S_6 : World → Prop, (∀ w', S_6 w' → S_5 w') ∧ S_6 w31 ∧ (J_3 (t137 != t141) w31))))))))))))))))))))))))))) ∧ (∀ x143, ∀ w32, J_3 x143 w32 → ((x143 = true → (R (.returned (.bool false)) w32)) ∧ (x143 = false → (I (IntKind.wrap .i64 (x10 + 1)) w32 ∧ μ (IntKind.wrap .i64 (x10 + 1)) w32 < μ x10 w19)))))))))))))))) ∧ (decide (x10 < (2 : Int)) = false → (∃ t145, (Instr.build 55 #[(0, (.int .i64 1))]).run Tryz.prog w19 = .ok (.agg t145) w19 ∧ (Calls Tryz.prog 24 #[t25_0, (.agg t145)] w19 fun e146 w33 => e146 = .returned (.tuple #[]) ∧ (∃ t148, (Instr.build 55 #[(0, (.int .i64 1))]).run Tryz.prog w33 = .ok (.agg t148) w33 ∧ (Calls Tryz.prog 35 #[t31_0, (.agg t148)] w33 fun e149 w34 => e149 = .returned (.tuple #[]) ∧ (Calls Tryz.prog 32 #[t25_0] w34 fun e151 w35 => ∃ t151a t151n t151c, e151 = .returned (.slice t151a t151n t151c) ∧ (Calls Tryz.prog 33 #[t31_0] w35 fun e153 w36 => ∃ t153a t153n t153c, e153 = .returned (.slice t153a t153n t153c) ∧ (Calls Tryz.prog 31 #[(.slice t151a t151n t151c), (.slice t153a t153n t153c)] w36 fun e154 w37 => ∃ t154, e154 = .returned (.bool t154) ∧ (R (.returned (.bool t154)) w37)))))))))))))))))))))))))))))))))))))))) : Calls Tryz.prog 6 #[(.agg a0)] w R := calls_of_ev2 (tc := .sq [.reg (.op .bx (.op .p .nil)), .seq (.reg (.op (.cl [.bool]) (.op .p .nil))) (.cond (.seq (.rg 1) .leaf) .leaf), .seq (.reg (.op .p (.op (.ld .agg) (.op (.cl [.bool]) .nil)))) (.cond (.seq (.rg 1) .leaf) .leaf), .reg (.op .p (.op (.ld (.int .i64)) (.op (.cl [.val, .val]) (.pp 5 .nil)))), .reg (.op .p (.op (.ld (.int .i64)) (.op (.cl [.val, .int .i64]) (.pp 5 .nil)))), .seq (.join (lr [(34, 10)]) [43] [.bool] (.reg (.op .p (.op (.ld .bool) (.op .p (.sp 36 (.pp 7 .nil) (.op .p (.op (.ld .bool) (.pp 2 (.ap 2 .nil)))))))))) (.cond (.seq (.reg (.pp 3 (.sp 46 (.op .p (.op (.ld .bool) (.pp 2 .nil))) (.pp 4 .nil)))) .leaf) .leaf), .seq (.reg (.op .p (.op (.ld (.int .i64)) (.op .p .nil)))) (.join (lr [(53, 9)]) [] [] (.cond (.seq (.reg (.pp 2 (.op (.ld (.int .i64)) (.op .nc (.op .p (.op .u .nil)))))) (.reg (.pp 2 (.op (.ld (.int .i64)) (.op (.cl [.val]) .nil))))) .leaf)), .seq (.reg (.op .p (.op (.ld (.int .i64)) (.op .p .nil)))) (.join (lr [(65, 11)]) [] [] (.cond (.seq (.reg (.pp 2 (.op (.ld (.int .i64)) (.op (.r .slice) (.op .nc (.op .p (.op .u .nil))))))) (.reg (.pp 2 (.op (.ld (.int .i64)) (.op (.r .slice) (.op (.cl [.val]) .nil)))))) .leaf)), .reg (.pp 2 (.op (.ld .agg) (.op (.cl [.agg]) (.op .bx (.op .u .nil))))), .reg (.op .p (.op (.ld .agg) (.op (.cl [.slice, .slice]) (.pp 5 .nil)))), .seq (.rg 1) (.blk (.loop (lr [(2, 1), (10, 7), (86, 58)]) [10] [.int .i64] (.sq [.seq (.rg 2) (.cond .leaf .leaf), .blk (.sq [.reg (.op .p (.op (.ld .agg) (.pp 2 (.op (.ld (.int .i64)) (.op .p (.op (.cl [.slice, .agg, .val]) (.pp 4 (.op .bx (.op .p (.op .u (.op .p .nil))))))))))), .reg (.op .p (.op (.ld .agg) (.pp 2 (.op (.ld (.int .i64)) (.op .p (.op (.cl [.slice, .agg, .int .i64]) (.pp 4 (.op .bx (.op .p (.op .u (.op .p .nil))))))))))), .join (lr [(112, 32)]) [143] [.bool] (.drawS (.tks [0, 1] (.go 2 (.cl [.bool]) (.tks [3, 4] (.sp 116 (.ts 5 .val (.ts 6 .val (.ts 7 .val (.tks [8, 9, 10, 12] (.go 11 .p (.tks [13, 14, 15, 16, 18] (.go 17 .p (.go 19 .p (.go 20 .p (.tks (lr [(21, 4), (26, 3)]) (.ts 29 .val (.go 25 .p (.tks [30, 31] .nil))))))))))))) (.ts 5 .agg (.ts 6 .agg (.ts 7 .bool (.tks [8, 9] (.sp 121 (.tks [10, 12] (.go 11 .p (.tks [13, 14, 15, 16, 18] (.go 17 .p (.go 19 .p (.go 20 .p (.tks (lr [(21, 4), (26, 3)]) (.ts 29 .val (.go 25 .p (.tks [30, 31] .nil)))))))))) (.tks [10, 12] (.go 11 (.cl [.int .i64]) (.tks [13, 14, 15] (.sp 127 (.tks [16, 18] (.go 17 .p (.go 19 .p (.go 20 .p (.tks (lr [(21, 4), (26, 3)]) (.ts 29 .val (.go 25 .p (.tks [30, 31] .nil)))))))) (.tks [16, 18] (.go 17 (.cl [.slice]) (.go 19 (.cl [.slice]) (.go 20 (.cl [.bool]) (.tks [21, 22, 23] (.sp 135 (.tks [24, 26, 27, 28] (.ts 29 .val (.go 25 .p (.tks [30, 31] .nil)))) (.tks [24, 26] (.tk 27 .nc (.tk 28 .p (.ts 29 (.int .i64) (.go 25 (.cl [.int .i64]) (.tks [30, 31] .nil))))))))))))))))))))))))) [])] (.cond (.seq (.rg 1) .leaf) .leaf))] (.rg 3)))), .reg (.op .p (.op (.ld .agg) (.op (.cl []) .nil))), .reg (.op .p (.op (.ld .agg) (.op (.cl []) .nil))), .reg (.op .p (.op (.cl [.slice]) (.op .p (.op (.cl [.slice]) (.op (.cl [.bool]) (.op .p .nil))))))] .leaf) Tryz.func6 (by kernel_rfl) (by kernel_rfl) h

end Go.Proofs.YtmdandkoajocpaaGreatDoor
end

section
namespace Go.Proofs.YtmdandkoajocpaaGreatDoor
open Go Sx
set_option maxRecDepth 8000

section
variable {w0 w w' : World} {X : List Nat} {M N N' T : List Res}

theorem small5 (w : World) : Calls Tryz.prog 44 #[.int .i64 5] w fun e w' => e = .returned (.string ⟨#[53]⟩) ∧ w' = w := by
 apply strconv_Itoa_vc
 have h1 : Calls Tryz.prog 131 #[.int .i64 5] w fun e w' => e = .returned (.string ⟨#[53]⟩) ∧ w' = w := by
   apply internal_strconv_small_vc
   refine ⟨fun _ => ⟨by decide, by decide, by decide, ?_, rfl⟩, fun h => by simp at h⟩
   rfl
 have h2 : Calls Tryz.prog 113 #[.int .i64 5, .int .i64 10] w fun e w' => e = .returned (.string ⟨#[53]⟩) ∧ w' = w := by
   apply internal_strconv_FormatInt_vc
   refine ⟨fun _ => ⟨fun _ => h1.mono ?_, fun h => by simp at h⟩, fun h => by simp at h⟩
   rintro e w' ⟨rfl, rfl⟩
   exact ⟨_, rfl, rfl, rfl⟩
 have h3 : Calls Tryz.prog 80 #[.int .i64 5] w fun e w' => e = .returned (.string ⟨#[53]⟩) ∧ w' = w := by
   apply internal_strconv_Itoa_vc
   refine h2.mono ?_
   rintro e w' ⟨rfl, rfl⟩
   exact ⟨_, rfl, rfl, rfl⟩
 refine h3.mono ?_
 rintro e w' ⟨rfl, rfl⟩
 exact ⟨_, rfl, rfl, rfl⟩

theorem name5 (w : World) : Calls Tryz.prog 19 #[.int .i64 5] w fun e w' => e = .returned (.string ⟨#[112, 53]⟩) ∧ w' = w := by
 apply pack_Name_vc
 refine (pkgood_spec 5 w).mono ?_
 rintro e w1 ⟨rfl, rfl⟩
 refine ⟨_, rfl, fun h => by simp [goodP] at h, fun _ => (small5 w1).mono ?_⟩
 rintro e w2 ⟨rfl, rfl⟩
 exact ⟨_, rfl, _, rfl, rfl, rfl⟩

def mas9 : List UInt8 := 9 :: List.replicate 31 0
theorem build_mas9 (w : World) : (Instr.build 22 #[(0, .int .u8 9)]).run Tryz.prog w = .ok (.agg (bv mas9).toArray) w := by
 have := build_arr (P := Tryz.prog) (w := w) (T := 22) (d32Z w) Tryz.underlying22 (sB1 w) [.int .u8 9] (by simp [Value.oneCell']) (by simp)
 exact this
theorem small0 : SmallI [] := ⟨by simp, by simp, by simp⟩
theorem build5_len (K : List UInt8) : (buildP K 5 []).length = 63 := by
 rw [buildP_eq]
 have h1 : (footBody K 5 []).length = 45 := by rw [footBody, sealF_len _ _ _ _ (by simp [footL, refsP])]; rfl
 simp only [framesP, frsL, List.map_nil, List.nil_append, List.map_cons, List.flatten_cons, List.flatten_nil, List.append_nil, List.length_append, headP_len, frameL, List.length_cons, h1]
 rw [varL_small (by decide)]
 rfl

theorem alive13_spec (w : World) (hK : KTab w) : Calls Tryz.prog 7 #[] w fun e w' => e = .returned (.bool true) ∧ Chg [] w w' := by
 obtain ⟨mI, hI⟩ := eI
 apply amphoralaw13_alive_vc
 refine ⟨_, build_mas9 w, (rfromMaster_spec mas9 w (by decide)).mono ?_⟩
 rintro e w1 ⟨rfl, c1⟩
 obtain ⟨K, hKK⟩ : ∃ K, masterF mas9 = K := ⟨_, rfl⟩
 have hk : K.length = 96 := by rw [← hKK]; simp
 rw [hKK]
 obtain ⟨g1, w2, r2, h2⟩ := ((St.start w).same c1).zeroA kyZ
 obtain ⟨w3, r3, h3⟩ := h2.stA (i := 0) (v := bv K) rfl (kyS _) (by simp) (by simp [hk]) (bv_one _)
 have ld : ∀ w', Chg [] w3 w' → (Instr.loadAt 28 (.pointer (some ⟨g1, 0, none⟩))).run Tryz.prog w' = .ok (.agg (bv K).toArray) w' := fun w' hc => (h3.same hc).ldA (i := 0) (l := bv K) rfl (kyA _) (kyS _) (by simp [hk])
 have kK : ∀ w', Chg [] w3 w' → KTab w' := fun w' hc => hK.keep0 (h3.chg.trans hc)
 have hz := Chg.refl [] w3
 refine ⟨_, rfl, g1, w2, r2, w3, r3, _, ld _ hz, (build_spec13 K hk 5 none 0 0 [] w3 (kK _ hz) rfl ⟨RdE.nil _, by simp⟩ small0).mono ?_⟩
 rintro e w4 ⟨ba, bn, bc, ra, rc, rfl, hbn, k4⟩
 have k4 : St w3 [] w4 [.row 5 1 (.slice ba bn bc) bn (bv (buildP K 5 [])), .row 75 35 (.slice ra 0 rc) 0 []] := k4
 have hbn : bn = 63 := hbn.trans (build5_len K)
 subst hbn
 have hB : RdB w4 ba 63 bc (buildP K 5 []) := k4.rd (i := 0) rfl
 have d4 := k4.chg
 have o5 : openP K 5 (buildP K 5 []) = (none, []) := open_build K rfl small0
 have o6 : openP K 6 (buildP K 5 []) = (some 17, []) := open_other_num K rfl rfl (by decide) []
 refine ⟨_, _, _, _, _, _, _, rfl, _, neqS_nil hI none _ _, fun h => ?_, fun _ => ⟨_, ld _ d4, (pkopen_spec K hk 5 ba 63 bc _ w4 (kK _ d4) hB (by decide)).mono ?_⟩⟩
 · simp [refsP] at h
 rintro e w5 ⟨oa, oc, rfl, _, c5⟩
 rw [o5]
 have d5 := d4.trans c5
 refine ⟨_, _, _, _, rfl, _, ld _ d5, (pkopen_spec K hk 6 ba 63 bc _ w5 (kK _ d5) (hB.keep0 c5) (by decide)).mono ?_⟩
 rintro e w6 ⟨pa, pc, rfl, _, c6⟩
 rw [o6]
 have d6 := d5.trans c6
 refine ⟨_, _, _, _, rfl, _, eqlS_nil hI none _ _, fun _ => ⟨_, eqlS_err hI (some 17) 17 _ _ _, fun _ => (name5 w6).mono ?_, fun h => by simp at h⟩, fun h => by simp at h⟩
 rintro e w7 ⟨rfl, rfl⟩
 exact ⟨_, rfl, by simp, h3.chg.trans d6⟩

end

end Go.Proofs.YtmdandkoajocpaaGreatDoor
end

section
namespace Go.Proofs.YtmdandkoajocpaaGreatDoor
open Go Sx
set_option maxRecDepth 8000

structure CaseD where
 ms : List UInt8
 num : Int
 ia : Option Addr
 i_n : Nat
 ic : Nat
 ivs : List Value
 ids : List (List UInt8)
 ba : Option Addr
 bn : Nat
 bc : Nat
 bvs : List Value
 bls : List (List UInt8)
def caseC (C : CaseD) : List Value := bv C.ms ++ [.int .i64 C.num, .slice C.ia C.i_n C.ic, .slice C.ba C.bn C.bc]
structure CaseR (w : World) (C : CaseD) : Prop where
 lm : C.ms.length = 32
 ir : Rd w C.ia C.i_n C.ic 1 C.ivs
 i2 : Row2 w C.ivs C.ids
 br : Rd w C.ba C.bn C.bc 1 C.bvs
 b2 : Row2 w C.bvs C.bls
 num : OkI C.num
theorem CaseR.keep0 {w w' : World} {C : CaseD} (h : CaseR w C) (hc : Chg [] w w') : CaseR w' C := ⟨h.lm, h.ir.keep0 hc, h.i2.keep0 hc, h.br.keep0 hc, h.b2.keep0 hc, h.num⟩
theorem CaseR.bnum {w : World} {C : CaseD} (h : CaseR w C) : C.bls.length = C.bn := by have := h.br.len; have := h.b2.len; omega
theorem CaseR.inum {w : World} {C : CaseD} (h : CaseR w C) : C.ids.length = C.i_n := by have := h.ir.len; have := h.i2.len; omega
def padId (l : List UInt8) : List UInt8 := l.take 32 ++ List.replicate (32 - l.length) 0
@[simp] theorem padId_len (l : List UInt8) : (padId l).length = 32 := by simp [padId]; omega
def itemT (C : CaseD) (i : Nat) : Itm := (padId (C.ids.getD i []), C.bls.getD i [])
def itemsT (C : CaseD) : List Itm := (List.range C.bls.length).map (itemT C)
@[simp] theorem itemsT_len (C : CaseD) : (itemsT C).length = C.bls.length := by simp [itemsT]
theorem itemsT_take (C : CaseD) {i : Nat} (hi : i < C.bls.length) : (itemsT C).take (i + 1) = (itemsT C).take i ++ [itemT C i] := by
 rw [List.take_add_one]; simp [itemsT, hi]
def largeP (C : CaseD) : Bool := decide (100 < C.bn) || decide (16384 < C.bls.flatten.length)

theorem flat_sum (l : List (List UInt8)) : (l.map List.length).sum = l.flatten.length := List.length_flatten.symm
theorem small_of_case {w : World} {C : CaseD} (h : CaseR w C) (hl : largeP C = false) : SmallI (itemsT C) ∧ C.bn ≤ 100 ∧ C.bls.flatten.length ≤ 16384 := by
 simp only [largeP, Bool.or_eq_false_iff, decide_eq_false_iff_not] at hl
 have hb := h.bnum
 refine ⟨⟨by rw [itemsT_len]; omega, fun x hx => ?_, ?_⟩, by omega, by omega⟩
 · obtain ⟨i, _, rfl⟩ := List.mem_map.1 hx; exact padId_len _
 · have e : (itemsT C).map (fun x => x.2.length) = C.bls.map List.length := by
     simp only [itemsT, List.map_map]
     refine List.ext_getElem (by simp) fun i h1 h2 => ?_
     have hi : i < C.bls.length := by simpa using h2
     simp only [List.getElem_map, List.getElem_range, Function.comp_apply, itemT]
     rw [List.getD_eq_getElem?_getD, List.getElem?_eq_getElem hi]; rfl
   rw [e, flat_sum]; omega

section
variable {w0 w w' : World} {X : List Nat} {M N N' T : List Res}

theorem caA (w : World) : (isAgg 25).run Tryz.prog w = .ok true w := Tryz.isAgg25 w
theorem caS (w : World) : (sizeOf 25).run Tryz.prog w = .ok 35 w := Tryz.sizeOf25 w
theorem caseC_len {C : CaseD} (h : C.ms.length = 32) : (caseC C).length = 35 := by simp [caseC, h]
theorem caseC_at {C : CaseD} (h : C.ms.length = 32) : (caseC C)[32]? = some (.int .i64 C.num) ∧ (caseC C)[33]? = some (.slice C.ia C.i_n C.ic) ∧ (caseC C)[34]? = some (.slice C.ba C.bn C.bc) := by
 refine ⟨?_, ?_, ?_⟩ <;> rw [caseC, List.getElem?_append_right (by simp [h])] <;> simp [h]

theorem large13_spec (C : CaseD) (w : World) (h : CaseR w C) : Calls Tryz.prog 8 #[.agg (caseC C).toArray] w fun e w' => e = .returned (.bool (largeP C)) ∧ Chg [] w w' := by
 obtain ⟨c1, c2, c3⟩ := caseC_at h.lm
 apply amphoralaw13_Case_large_vc
 obtain ⟨g, w1, r1, k1⟩ := (St.start w).boxA (P := Tryz.prog) 25 (caseC C)
 have h1 := h.keep0 k1.chg
 refine ⟨g, w1, r1, _, _, _, k1.ldL (i := 0) (o := 34) rfl (bbA' _) rfl c3, fun hb => ⟨?_, k1.chg⟩, fun hb => ⟨_, _, _, k1.ldL (i := 0) (o := 34) rfl (bbA' _) rfl c3, (sum_spec C.ba C.bn C.bc C.bvs C.bls 1048576 w1 h1.br h1.b2 (by decide) (by simp at hb; omega)).mono ?_⟩⟩
 · have : 100 < C.bn := by simp at hb; omega
   simp [largeP, this]
 · rintro e w2 ⟨rfl, rfl⟩
   have : ¬ 100 < C.bn := by simp at hb; omega
   refine ⟨_, rfl, ?_, k1.chg⟩
   simp only [largeP, decide_eq_false this, Bool.false_or]
   congr 2
   apply decide_eq_decide.2
   split <;> omega

theorem Sx.St.copyA' (h : St w0 X w M) {i g T n c d : Nat} {a : Option Addr} {l : List Value} {src : List UInt8} (hi : M[i]? = some (.arr g T l)) (hd : d ≤ l.length) (hr : RdB w a n c src) :
   ∃ w' x, (Builtin.copy_ #[33, 33] 3 #[.slice (some ⟨g, 0, none⟩) d d, .slice a n c]).run Tryz.prog w = .ok (.int .i64 x) w' ∧ St w0 X w' (M.set i (.arr g T (bv (src.take d) ++ l.drop (min n d)))) := by
 have hl := hr.lenB
 have hinf : (Tryz.prog.info? 5).map (·.size) = some 1 := by kernel_rfl
 have hg := h.holds i _ hi
 rcases hr.cells with h0 | ⟨b, o, rfl, hrg⟩
 · have h0' : n = 0 := by rw [← hl]; simpa [bv] using congrArg List.length h0
   subst h0'
   have : src = [] := List.eq_nil_of_length_eq_zero hl
   subst this
   refine ⟨w, _, run_copy_none w _ _ _ 5 _ _ _ _ _ _ bS hinf (by simp), ?_⟩
   simp only [List.take_nil, bv_nil, List.nil_append, Nat.zero_min, List.drop_zero]
   exact h.upd hi (Chg.refl _ _) hg (fun k hk => .inl hk)
 · have hcs : (bv (src.take d)).length = min d n := by rw [bv_length, List.length_take, hl]
   have hr' := run_copy_row (P := Tryz.prog) w 33 33 3 5 g 0 d d ⟨b, o, none⟩ n c l.toArray T (bv (src.take d)) bS hinf hg (by rw [hcs]; exact Nat.min_comm _ _) (fun j v hj => by
     rw [Addr.add_mid]
     refine hrg j v ?_
     rw [bv_take, List.getElem?_take] at hj
     split at hj
     · exact hj
     · cases hj) (by simp; omega) (bv_one _)
   have e : (l.toArray.toList.take 0 ++ bv (src.take d) ++ l.toArray.toList.drop (0 + (bv (src.take d)).length)).toArray = (bv (src.take d) ++ l.drop (min n d)).toArray := by
     rw [hcs, Nat.min_comm]; simp
   rw [e] at hr'
   exact ⟨_, _, hr', h.upd hi (w' := w.setRow g _) ⟨rfl, rfl, rfl, by simp, fun k _ hk => setRow_other w g k _ (fun e => hk (by simp [Res.fp, e]))⟩ (setRow_heap w g _ _ T _ hg) (by simp [Res.fp])⟩

structure MD where
 id : List UInt8
 g : Nat
 c : Nat
 l : List UInt8
 cur : Array Value
 idl : id.length = 32
def MD.it (m : MD) : ItD := ⟨m.id, some ⟨m.g, 0, none⟩, m.l.length, m.c, m.l, m.idl⟩
def MD.res (m : MD) : Res := .blk m.g (.cells m.cur 5 (0, 0))
def MD.ok (m : MD) : Prop := ∃ w, MarkB w m.g m.l.length m.c m.l m.cur
theorem MD.mark {m : MD} (h : m.ok) (hb : w.heap[m.g]? = some (.cells m.cur 5 (0, 0))) : MarkB w m.g m.l.length m.c m.l m.cur := by
 obtain ⟨w1, h1⟩ := h
 exact h1.of_blk' hb

theorem itT : ElemT Tryz.prog 30 46 33 56 (.agg (itC it0).toArray) := ⟨by kernel_rfl, ⟨Tryz.t46, by kernel_rfl, by kernel_rfl, by kernel_rfl, by kernel_rfl⟩, rfl, by decide⟩
theorem built_item : Tryz.prog.built 46 = fun parts => Instr.fill (fun i => (#[(0, 32), (32, 1)] : Array (Nat × Nat))[i]?) (itC it0).toArray parts := by kernel_rfl
theorem item_parts (id : List UInt8) (a : Option Addr) (n c : Nat) (w : World) (hl : id.length = 32) : (Instr.build 46 #[(0, .agg (bv id).toArray), (1, .slice a n c)]).run Tryz.prog w = .ok (.agg (bv id ++ [Value.slice a n c]).toArray) w := by
 apply run_build
 rw [built_item]
 show Instr.fill _ _ [(0, _), (1, _)] = _
 have hz : (itC it0).toArray = (bv (List.replicate 32 0) ++ [Value.slice none 0 0]).toArray := rfl
 rw [hz, fill_step (off := 0) (sz := 32) rfl (by simp [Value.cells, hl]) (by simp), fill_step (off := 32) (sz := 1) rfl rfl (by simp [Value.cells, hl])]
 have hbl : (bv id).length = 32 := by simp [hl]
 simp [Instr.fill, Value.cells, List.take_append, List.drop_append, hbl, List.take_of_length_le, List.drop_of_length_le, hl]
theorem id_build0 (w : World) : (Instr.build 44 #[]).run Tryz.prog w = .ok (.agg (bv (List.replicate 32 0)).toArray) w := by
 have := build_arr (P := Tryz.prog) (w := w) (T := 44) (idZ w) Tryz.underlying44 (sB1 w) [] (by simp) (by simp)
 exact this

structure ItemsR (w0 w : World) (C : CaseD) (oa : Option Addr) (oc : Nat) (ma : Option Addr) (mc k : Nat) (O : List ItD) (G : List MD) (N : List Res) : Prop where
 st : St w0 [] w (N ++ (.row 46 33 (.slice oa k oc) k (O.flatMap itC) :: .row 46 33 (.slice ma k mc) k (G.flatMap fun m => itC m.it) :: G.map MD.res))
 ot : O.map ItD.t = (itemsT C).take k
 mt : G.map (fun m => m.it.t) = (itemsT C).take k
 ob : ∀ x ∈ O, RdB w0 x.a x.n x.c x.blob
 mo : ∀ m ∈ G, m.ok
 os : O.map (fun x => Value.slice x.a x.n x.c) = C.bvs.take k

set_option maxHeartbeats 2000000 in
theorem items_spec (C : CaseD) (w : World) (h : CaseR w C) (hn : C.bn ≤ 100) (hs : C.bls.flatten.length ≤ 16384) : Calls Tryz.prog 10 #[.agg (caseC C).toArray] w fun e w' => ∃ oa oc ma mc O G, e = .returned (.tuple #[.slice oa C.bn oc, .slice ma C.bn mc]) ∧ ItemsR w w' C oa oc ma mc C.bn O G [] := by
 obtain ⟨c1, c2, c3⟩ := caseC_at h.lm
 have hbn := h.bnum
 have hin := h.inum
 apply amphoralaw13_Case_items_vc
 obtain ⟨g1, w1, r1, k1⟩ := (St.start w).boxA (P := Tryz.prog) 25 (caseC C)
 obtain ⟨ga, w2, r2, k2⟩ := k1.litA0 itT
 obtain ⟨gb, w3, r3, k3⟩ := k2.litA0 itT
 have k3 : St w [] w3 ([.arr g1 25 (caseC C)] ++ [.row 46 33 (.slice (some ⟨ga, 0, none⟩) 0 0) 0 [], .row 46 33 (.slice (some ⟨gb, 0, none⟩) 0 0) 0 []]) := k3
 refine ⟨g1, w1, r1, _, _, _, w2, r2, _, _, _, w3, r3, _, _, _, k3.ldL (i := 0) (o := 34) rfl (bbA' _) rfl c3, fun xa xn xc ya yn yc x w' => ∃ (i : Nat) (O : List ItD) (G : List MD), x = (i : Int) ∧ i ≤ C.bn ∧ xn = i ∧ yn = i ∧ ItemsR w w' C xa xc ya yc i O G [.arr g1 25 (caseC C)], fun _ _ _ _ _ _ x _ => C.bn - x.toNat, ⟨0, [], [], rfl, by omega, rfl, rfl, k3, by simp, by simp, by simp, by simp, by simp⟩, ?_⟩
 rintro xa xn xc ya yn yc x w4 ⟨i, O, G, rfl, hi, q1, q2, hI⟩
 obtain rfl : i = xn := q1.symm
 obtain rfl : i = yn := q2.symm
 have k4 := hI.st
 refine ⟨fun hlt => ?_, fun hge => ?_⟩
 · have hi' : i < C.bn := by simp at hlt; omega
   have h4 := h.keep0 k4.chg
   obtain ⟨b, o, a', n', c', hab, hv, hrd, hld⟩ := ixS h4.br.cells h4.b2 (i := i) (by omega)
   have hbl := hrd.lenB
   have hble : C.bls.getD i [] ∈ C.bls := by
     rw [List.getD_eq_getElem?_getD, List.getElem?_eq_getElem (by omega : i < C.bls.length)]; simp
   have hbs : n' ≤ 16384 := by
     have := sum_mem (List.mem_map_of_mem (f := List.length) hble)
     rw [flat_sum] at this; omega
   obtain ⟨g8, w5, r5, k5⟩ := k4.zeroA idZ
   obtain ⟨w6, r6, k6⟩ := k5.stA (i := _) (v := bv (List.replicate 32 0)) List.getElem?_concat_length (idS' _) (by simp) (by simp) (bv_one _)
   rw [List.set_append_right _ _ (Nat.le_refl _), Nat.sub_self] at k6
   obtain ⟨R, hR⟩ : ∃ R, ([.arr g1 25 (caseC C)] ++ (.row 46 33 (.slice xa i xc) i (O.flatMap itC) :: .row 46 33 (.slice ya i yc) i (G.flatMap fun m => itC m.it) :: G.map MD.res) : List Res) = R := ⟨_, rfl⟩
   have hR0 : R[0]? = some (.arr g1 25 (caseC C)) := by rw [← hR]; rfl
   rw [hR] at k4 k5 k6
   have k6 : St w [] w6 (R ++ [.arr g8 44 (bv (List.replicate 32 0))]) := k6
   have gR : ∀ {L : List Res}, (R ++ L)[0]? = some (.arr g1 25 (caseC C)) := fun {L} => by rw [← hR]; rfl
   refine ⟨b, o, hab, by omega, by omega, a', n', c', hld w4 h4.br.cells, _, id_build0 w4, g8, w5, r5, w6, r6, _, _, _, k6.ldL (i := 0) (o := 33) gR (bbA' _) rfl c2, fun w' => St w [] w' (R ++ [.arr g8 44 (bv (padId (C.ids.getD i [])))]), ⟨fun hlt2 => ?_, fun hge2 => ?_⟩, ?_⟩
   · have hi2 : i < C.i_n := by simp at hlt2; omega
     have k6d := k6.drew
     have h6 := h.keep0 k6d.chg
     obtain ⟨b2, o2, a2, n2, cc2, hab2, hv2, hrd2, hld2⟩ := ixS h6.ir.cells h6.i2 (i := i) (by omega)
     obtain ⟨w7, x7, r7, k7⟩ := k6d.copyA' (i := R.length) (d := 32) List.getElem?_concat_length (by simp) hrd2
     rw [List.set_append_right _ _ (Nat.le_refl _), Nat.sub_self] at k7
     have ep : bv ((C.ids.getD i []).take 32) ++ (bv (List.replicate 32 0)).drop (min n2 32) = bv (padId (C.ids.getD i [])) := by
       rw [← bv_drop, ← bv_append, padId, hrd2.lenB]
       congr 2
       rw [List.drop_replicate]
       congr 1
       omega
     refine ⟨fun w' => St w [] w' [.arr g1 25 (caseC C)], k6d.sub (by rw [← hR]; exact (List.sublist_append_left _ _).trans (List.sublist_append_left _ _)), by omega, by omega, _, _, _, fun w' hw => Sx.St.ldL hw (i := 0) (o := 33) rfl (bbA' _) rfl c2, b2, o2, hab2, by omega, by omega, _, _, _, fun w' hw => hld2 w' ((h.ir.keep0 (Sx.St.chg hw)).cells), x7, w7, r7, fun w' => St w [] w' [.arr g1 25 (caseC C)], fun _ h => h, k7.sub (by rw [← hR]; exact (List.sublist_append_left _ _).trans (List.sublist_append_left _ _)), ?_⟩
     simp only [List.set_cons_zero, ep] at k7
     exact k7
   · have hi2 : ¬ i < C.i_n := by simp at hge2; omega
     have : C.ids.getD i [] = [] := by rw [List.getD_eq_getElem?_getD, List.getElem?_eq_none (by omega)]; rfl
     show St w [] w6 _
     rw [this]
     exact k6
   rintro w8 k8
   obtain ⟨id, hid⟩ : ∃ id, padId (C.ids.getD i []) = id := ⟨_, rfl⟩
   have hidl : id.length = 32 := by rw [← hid]; simp
   rw [hid] at k8
   have ldI : ∀ {w' : World} {L : List Res}, St w [] w' (R ++ .arr g8 44 (bv id) :: L) → (Instr.loadAt 44 (.pointer (some ⟨g8, 0, none⟩))).run Tryz.prog w' = .ok (.agg (bv id).toArray) w' := fun h => h.ldA (i := R.length) (l := bv id) (by rw [List.getElem?_append_right (Nat.le_refl _), Nat.sub_self]; rfl) (idA' _) (idS' _) (by simp [hidl])
   have hR1 : (R ++ [.arr g8 44 (bv id)])[1]? = some (.row 46 33 (.slice xa i xc) i (O.flatMap itC)) := by rw [← hR]; rfl
   obtain ⟨g9, w9, va, vc, w10, r9, r10, k10, _⟩ := k8.pushA (i := 1) (ty := 30) itT hR1 (bv id ++ [Value.slice a' n' c']) (by simp [hidl]) (by decide) (fun v hv => by
     rcases List.mem_append.1 hv with hv | hv
     · exact bv_one _ v hv
     · simp only [List.mem_singleton] at hv; subst hv; rfl) (by omega) (by simp only [maxLen]; omega)
   have k10 : St w [] w10 ([.arr g1 25 (caseC C), .row 46 33 (.slice va (i + 1) vc) (i + 1) (O.flatMap itC ++ (bv id ++ [Value.slice a' n' c'])), .row 46 33 (.slice ya i yc) i (G.flatMap fun m => itC m.it)] ++ (G.map MD.res ++ [.arr g8 44 (bv id)])) := by
     rw [← hR] at k10
     simpa using k10
   have h10 := h.keep0 k10.chg
   have hrd10 : RdB w10 a' n' c' (C.bls.getD i []) := by
     obtain ⟨a2, n2, c2', e1, e2⟩ := h10.b2.rd i (by omega)
     rw [hv] at e1
     simp only [Option.some.injEq, Value.slice.injEq] at e1
     obtain ⟨rfl, rfl, rfl⟩ := e1
     exact e2
   have hrd0 : RdB w a' n' c' (C.bls.getD i []) := by
     obtain ⟨a2, n2, c2', e1, e2⟩ := h.b2.rd i (by omega)
     rw [hv] at e1
     simp only [Option.some.injEq, Value.slice.injEq] at e1
     obtain ⟨rfl, rfl, rfl⟩ := e1
     exact e2
   refine ⟨_, ldI k8, _, item_parts id a' n' c' w8 hidl, _, _, _, w9, r9, _, _, _, w10, r10, (copy_spec a' n' c' (C.bls.getD i []) w10 hrd10 (by omega)).mono ?_⟩
   rintro e w11 ⟨gm, cm, cur, rfl, c11, hgm, hm⟩
   have k11 : St w [] w11 (([.arr g1 25 (caseC C), .row 46 33 (.slice va (i + 1) vc) (i + 1) (O.flatMap itC ++ (bv id ++ [Value.slice a' n' c'])), .row 46 33 (.slice ya i yc) i (G.flatMap fun m => itC m.it)] ++ (G.map MD.res ++ [.arr g8 44 (bv id)])) ++ [.blk gm (.cells cur 5 (0, 0))]) := k10.add c11 hm.blk (by simp [Res.fp]; exact hgm)
   have hbl' : (C.bls[i]?.getD []).length = n' := by simpa using hbl
   have hid' : padId (C.ids[i]?.getD []) = id := by simpa using hid
   have k11' : St w [] w11 (([.arr g1 25 (caseC C), .row 46 33 (.slice va (i + 1) vc) (i + 1) (O.flatMap itC ++ (bv id ++ [Value.slice a' n' c'])), .row 46 33 (.slice ya i yc) i (G.flatMap fun m => itC m.it)] ++ G.map MD.res) ++ .arr g8 44 (bv id) :: [.blk gm (.cells cur 5 (0, 0))]) := by simpa using k11
   have ldI2 : (Instr.loadAt 44 (.pointer (some ⟨g8, 0, none⟩))).run Tryz.prog w11 = .ok (.agg (bv id).toArray) w11 := k11'.ldA (i := _) (l := bv id) (by rw [List.getElem?_append_right (Nat.le_refl _), Nat.sub_self]; rfl) (idA' _) (idS' _) (by simp [hidl])
   obtain ⟨g12, w12, vd, ve, w13, r12, r13, k13, _⟩ := k11'.pushA (i := 2) (ty := 30) itT rfl (bv id ++ [Value.slice (some ⟨gm, 0, none⟩) n' cm]) (by simp [hidl]) (by decide) (fun v hv => by
     rcases List.mem_append.1 hv with hv | hv
     · exact bv_one _ v hv
     · simp only [List.mem_singleton] at hv; subst hv; rfl) (by omega) (by simp only [maxLen]; omega)
   refine ⟨_, _, _, rfl, _, ldI2, _, item_parts id _ n' cm w11 hidl, _, _, _, w12, r12, _, _, _, w13, r13, ⟨i + 1, O ++ [⟨id, a', n', c', C.bls.getD i [], hidl⟩], G ++ [⟨id, gm, cm, C.bls.getD i [], cur, hidl⟩], wrap_succ hi' (by omega), by omega, rfl, rfl, ?_, ?_, ?_, ?_, ?_, ?_⟩, mu_succ hi' (by omega)⟩
   · have k14 : St w [] w13 ([.arr g1 25 (caseC C), .row 46 33 (.slice va (i + 1) vc) (i + 1) (O.flatMap itC ++ (bv id ++ [Value.slice a' n' c'])), .row 46 33 (.slice vd (i + 1) ve) (i + 1) ((G.flatMap fun m => itC m.it) ++ (bv id ++ [Value.slice (some ⟨gm, 0, none⟩) n' cm]))] ++ (G.map MD.res ++ (.arr g8 44 (bv id) :: [.blk gm (.cells cur 5 (0, 0))]))) := by simpa using k13
     have k15 := k14.sub (List.Sublist.append_left (List.Sublist.append_left (List.sublist_cons_self _ _) _) _)
     simpa [itC, MD.it, MD.res, hbl'] using k15
   · rw [itemsT_take C (by omega), List.map_append, hI.ot]
     simp [ItD.t, itemT, hid']
   · rw [itemsT_take C (by omega), List.map_append, hI.mt]
     simp [ItD.t, itemT, MD.it, hid']
   · intro x hx
     rcases List.mem_append.1 hx with hx | hx
     · exact hI.ob x hx
     · simp only [List.mem_singleton] at hx; subst hx; exact hrd0
   · intro m hm'
     rcases List.mem_append.1 hm' with hm' | hm'
     · exact hI.mo m hm'
     · simp only [List.mem_singleton] at hm'; subst hm'
       refine ⟨w11, ?_⟩
       rw [hbl]; exact hm
   · rw [List.take_add_one, hv, List.map_append, hI.os]; rfl
 · have hi' : i = C.bn := by simp at hge; omega
   subst hi'
   exact ⟨xa, xc, ya, yc, O, G, rfl, ⟨hI.st.sub (List.sublist_append_right _ _), hI.ot, hI.mt, hI.ob, hI.mo, hI.os⟩⟩

end

end Go.Proofs.YtmdandkoajocpaaGreatDoor
end

section
namespace Go.Proofs.YtmdandkoajocpaaGreatDoor
open Go Sx
set_option maxRecDepth 8000

section
variable {w0 w w' : World} {X : List Nat} {M N N' T : List Res}

theorem rgood13_spec (num : Int) (w : World) : Calls Tryz.prog 18 #[.int .i64 num] w fun e w' => e = .returned (.bool (goodP num)) ∧ w' = w := by
 apply amphoraref13_Good_vc
 exact ⟨by simp [goodP, ge_iff_le], rfl⟩

theorem same13 (a : Option Addr) (n c : Nat) (a2 : Option Addr) (n2 c2 : Nat) (l : Refs) (w : World) (h1 : RdR w a n c l) (h2 : RdR w a2 n2 c2 l) (hb : n ≤ 4611686018427387904) :
   Calls Tryz.prog 13 #[.slice a n c, .slice a2 n2 c2] w fun e w' => e = .returned (.bool true) ∧ Chg [] w w' := by
 refine (rsame13_spec a n c l a2 n2 c2 l w h1 h2 hb).mono ?_
 rintro e w' ⟨⟨rfl, _⟩ | ⟨_, hne⟩, hc⟩
 · exact ⟨rfl, hc⟩
 · exact absurd rfl hne

theorem itId {a : Option Addr} {n c : Nat} {l : List ItD} (h : RdE itC 33 w a n c l) {i : Nat} {x : ItD} (hx : l[i]? = some x) : ∃ b o, a = some ⟨b, o, none⟩ ∧ ∀ w', RdE itC 33 w' a n c l → (Instr.loadAt 44 (.pointer (some ⟨b, o + Int.toNat (i : Int) * 33, none⟩))).run Tryz.prog w' = .ok (.agg (bv x.id).toArray) w' := by
 obtain ⟨b, o, rfl, hr⟩ := h.at_ (by decide) hx
 refine ⟨b, o, rfl, fun w' h' => ?_⟩
 rw [Int.toNat_natCast]
 refine ldRange (fun j v hj => hr w' h' j v ?_) (idA' _) (idS' _) (by simp [x.idl])
 rw [itC, List.getElem?_append_left (List.getElem?_eq_some_iff.1 hj).1]; exact hj

end

end Go.Proofs.YtmdandkoajocpaaGreatDoor
end

section
namespace Go.Proofs.YtmdandkoajocpaaGreatDoor
def lexLt : List UInt8 → List UInt8 → Bool
 | [], [] => false
 | [], _ :: _ => true
 | _ :: _, [] => false
 | a :: l, b :: m => if a.toNat < b.toNat then true else if b.toNat < a.toNat then false else lexLt l m
theorem lex_irrefl : ∀ l, lexLt l l = false
 | [] => rfl
 | a :: l => by simp [lexLt, lex_irrefl l]
theorem lex_trans : ∀ l m k, lexLt l m = true → lexLt m k = true → lexLt l k = true
 | [], [], _, h, _ => by simp [lexLt] at h
 | [], _ :: _, [], _, h => by simp [lexLt] at h
 | [], _ :: _, _ :: _, _, _ => rfl
 | _ :: _, [], _, h, _ => by simp [lexLt] at h
 | _ :: _, _ :: _, [], _, h => by simp [lexLt] at h
 | a :: l, b :: m, c :: k, h1, h2 => by
   simp only [lexLt] at h1 h2 ⊢
   split at h1
   · split at h2
     · rw [if_pos (by omega)]
     · split at h2
       · cases h2
       · rw [if_pos (by omega)]
   · split at h1
     · cases h1
     · split at h2
       · rw [if_pos (by omega)]
       · split at h2
         · cases h2
         · rw [if_neg (by omega), if_neg (by omega)]
           exact lex_trans l m k h1 h2
theorem lex_tri : ∀ l m, lexLt l m = false → lexLt m l = false → l = m
 | [], [], _, _ => rfl
 | [], _ :: _, h, _ => by simp [lexLt] at h
 | _ :: _, [], _, h => by simp [lexLt] at h
 | a :: l, b :: m, h1, h2 => by
   simp only [lexLt] at h1 h2
   split at h1
   · cases h1
   · split at h2
     · cases h2
     · rename_i n1 n2
       rw [if_neg (by omega)] at h1
       have e : a = b := UInt8.toNat_inj.1 (by omega)
       rw [e, lex_tri l m h1 h2]
theorem lex_asymm {l m : List UInt8} (h : lexLt l m = true) : lexLt m l = false := by
 cases h2 : lexLt m l with
 | false => rfl
 | true => have := lex_trans l m l h h2; rw [lex_irrefl] at this; cases this
theorem lex_ne {l m : List UInt8} (h : lexLt l m = true) : l ≠ m := fun e => by subst e; rw [lex_irrefl] at h; cases h
def AscBy {α : Type} (key : α → List UInt8) : List α → Prop := List.Pairwise fun x y => lexLt (key x) (key y) = true

theorem asc_nodup {α : Type} {key : α → List UInt8} {l : List α} (h : AscBy key l) {x y : α} (hx : x ∈ l) (hy : y ∈ l) (he : key x = key y) : x = y := by
 induction l with
 | nil => simp at hx
 | cons z l ih =>
   have a := List.pairwise_cons.1 h
   rcases List.mem_cons.1 hx with e1 | h1 <;> rcases List.mem_cons.1 hy with e2 | h2
   · rw [e1, e2]
   · rw [e1] at he; exact absurd he (lex_ne (a.1 y h2))
   · rw [e2] at he; exact absurd he.symm (lex_ne (a.1 x h1))
   · exact ih a.2 h1 h2

theorem less_lex : ∀ l m : List UInt8, Op.bytesLess l m = lexLt l m
 | [], [] => rfl
 | _ :: _, [] => rfl
 | [], _ :: _ => rfl
 | a :: l, b :: m => by
   simp only [Op.bytesLess, lexLt, less_lex l m]
   by_cases h1 : a.toNat < b.toNat
   · have : a < b := UInt8.lt_iff_toNat_lt.2 h1
     simp [h1, this]
   · have h2 : ¬ a < b := fun h => h1 (UInt8.lt_iff_toNat_lt.1 h)
     by_cases h3 : b.toNat < a.toNat
     · have : a ≠ b := fun e => by rw [e] at h3; omega
       simp [h1, h2, h3, this]
     · have : a = b := UInt8.toNat_inj.1 (by omega)
       simp [h1, h2, h3, this]
theorem lex_gt (l m : List UInt8) : (!(lexLt l m || (l == m))) = lexLt m l := by
 cases h1 : lexLt l m with
 | true =>
   cases h2 : lexLt m l with
   | false => rfl
   | true => have := lex_trans _ _ _ h1 h2; rw [lex_irrefl] at this; cases this
 | false =>
   by_cases h3 : l = m
   · subst h3; rw [lex_irrefl]; simp
   · have : (l == m) = false := beq_eq_false_iff_ne.2 h3
     rw [this]
     cases h2 : lexLt m l with
     | true => rfl
     | false => exact absurd (lex_tri _ _ h1 h2) h3

namespace Sx
def strV (l : List UInt8) : Value := .string ⟨l.toArray⟩
end Sx

namespace Sx
open Go
set_option maxRecDepth 8000

structure MapE {α : Type} (key val : α → Value) (es : Array MapEntry) (clock : Nat) (M : List α) : Prop where
 ents : es.toList.map (fun x => (x.key, x.val)) = M.map fun r => (key r, val r)
 born : (es.toList.map (·.born)).Nodup
 old : ∀ x ∈ es.toList, x.born < clock

theorem MapE.nil {α : Type} (key val : α → Value) : MapE key val #[] 0 ([] : List α) := ⟨rfl, by simp, by simp⟩
theorem MapE.len {α : Type} {key val : α → Value} {es : Array MapEntry} {clock : Nat} {M : List α} (h : MapE key val es clock M) : es.size = M.length := by
 have := congrArg List.length h.ents
 simpa using this
theorem MapE.at_ {α : Type} {key val : α → Value} {es : Array MapEntry} {clock : Nat} {M : List α} (h : MapE key val es clock M) {i : Nat} {x : MapEntry} (hx : es.toList[i]? = some x) : ∃ r, M[i]? = some r ∧ x.key = key r ∧ x.val = val r := by
 have := congrArg (fun l => l[i]?) h.ents
 simp only [List.getElem?_map, hx, Option.map_some] at this
 cases hm : M[i]? with
 | none => rw [hm] at this; cases this
 | some r =>
   rw [hm] at this
   simp only [Option.map_some, Option.some.injEq, Prod.mk.injEq] at this
   exact ⟨r, rfl, this.1, this.2⟩

section
variable {P : Program} {α : Type} {key val : α → Value} {kid : α → List UInt8} {KT : TypeId} {kv : List UInt8 → Value} {ok : List UInt8 → Prop}

structure KeyOps (P : Program) (KT : TypeId) (kv : List UInt8 → Value) (ok : List UInt8 → Prop) : Prop where
 chk : ∀ id, ok id → ∀ (em : Bool) (w : World), (Instr.checkKey em 10000 KT (kv id)).run P w = .ok () w
 find : ∀ (α : Type) (val : α → Value) (kid : α → List UInt8) (L : List MapEntry) (M : List α) (id : List UInt8), ok id → ∀ w : World, L.map (fun x => (x.key, x.val)) = M.map (fun r => (kv (kid r), val r)) → (∀ r ∈ M, ok (kid r)) →
   (Instr.findKey KT (kv id) L).run P w = .ok (((M.findIdx? fun r => kid r == id).bind fun j => (M[j]?).map fun r => (j, val r))) w
 stay : ∀ id, ∀ w : World, (Instr.keyThatStays (kv id) (kv id)).run P w = .ok (kv id) w

def fndM (kid : α → List UInt8) (M : List α) (id : List UInt8) : Option (Nat × α) := (M.findIdx? fun r => kid r == id).bind fun j => (M[j]?).map fun r => (j, r)
theorem fnd_some {M : List α} {id : List UInt8} {j : Nat} {r : α} (h : fndM kid M id = some (j, r)) : M[j]? = some r ∧ kid r = id := by
 unfold fndM at h
 simp only [Option.bind_eq_some_iff, Option.map_eq_some_iff, Prod.mk.injEq] at h
 obtain ⟨j', h1, r', h2, rfl, rfl⟩ := h
 refine ⟨h2, ?_⟩
 rw [List.findIdx?_eq_some_iff_getElem] at h1
 obtain ⟨hl, h3, _⟩ := h1
 rw [List.getElem?_eq_getElem hl, Option.some.injEq] at h2
 rw [h2] at h3
 simpa using h3
theorem fnd_none {M : List α} {id : List UInt8} (h : fndM kid M id = none) : ∀ r ∈ M, kid r ≠ id := by
 intro r hr e
 unfold fndM at h
 cases hf : M.findIdx? fun r => kid r == id with
 | none =>
   have := List.findIdx?_eq_none_iff.1 hf r hr
   simp [e] at this
 | some j =>
   rw [hf] at h
   rw [List.findIdx?_eq_some_iff_getElem] at hf
   obtain ⟨hl, _⟩ := hf
   simp [List.getElem?_eq_getElem hl] at h

variable {w : World} {g : Nat} {es : Array MapEntry} {clock : Nat} {M : List α} {mt ET : TypeId}

structure KeyM (P : Program) (KT : TypeId) (kv : List UInt8 → Value) (ok : List UInt8 → Prop) (key : α → Value) (kid : α → List UInt8) (M : List α) : Prop where
 ops : KeyOps P KT kv ok
 key : ∀ r, key r = kv (kid r)
 len : ∀ r ∈ M, ok (kid r)

theorem MapE.findK (hE : MapE key val es clock M) (hK : KeyM P KT kv ok key kid M) {id : List UInt8} (hl : ok id) (w : World) : (Instr.findKey KT (kv id) es.toList).run P w = .ok ((fndM kid M id).map fun p => (p.1, val p.2)) w := by
 have he : es.toList.map (fun x => (x.key, x.val)) = M.map (fun r => (kv (kid r), val r)) := by
   rw [hE.ents]
   refine List.map_congr_left fun r _ => ?_
   rw [hK.key]
 rw [hK.ops.find α val kid es.toList M id hl w he hK.len]
 unfold fndM
 cases M.findIdx? fun r => kid r == id with
 | none => rfl
 | some j => cases h : M[j]? <;> simp [h]

def updM (kid : α → List UInt8) (M : List α) (r : α) : List α := match fndM kid M (kid r) with
 | some (j, _) => M.set j r
 | none => M ++ [r]

theorem MapE.updateK (hE : MapE key val es clock M) (hK : KeyM P KT kv ok key kid M) (hm : P.underlying mt = some (.map KT ET)) (hg : w.heap[g]? = some (.map es clock)) (r : α) (hr : ok (kid r)) :
   ∃ es' clock', (Instr.mapUpdate mt (.map (some g)) (kv (kid r)) (val r)).run P w = .ok () (w.putObj g (.map es' clock')) ∧ MapE key val es' clock' (updM kid M r) := by
 have hf := hE.findK hK hr w
 have hc := hK.ops.chk _ hr false w
 have hset : ∀ o : Obj, (setObj g o).run P w = .ok () (w.putObj g o) := fun o => by simp [setObj, Sem.run, hg, World.putObj]
 unfold updM
 cases h : fndM kid M (kid r) with
 | none =>
   rw [h] at hf
   refine ⟨es.push { key := kv (kid r), val := val r, born := clock }, clock + 1, ?_, ?_⟩
   · simp only [Instr.mapUpdate, getObj, Sem.run_bind, run_underlying hm, Result.andThen_ok, Sem.run, hg, Result.andThen, hc, hf, Option.map_none]
     exact hset _
   · refine ⟨?_, ?_, ?_⟩
     · rw [Array.toList_push, List.map_append, List.map_append, hE.ents]
       simp [hK.key]
     · rw [Array.toList_push, List.map_append, List.nodup_append]
       refine ⟨hE.born, by simp, ?_⟩
       intro a ha b hb
       simp only [List.map_cons, List.map_nil, List.mem_singleton] at hb
       obtain ⟨x, hx, rfl⟩ := List.mem_map.1 ha
       have := hE.old x hx
       omega
     · intro x hx
       rw [Array.toList_push, List.mem_append, List.mem_singleton] at hx
       rcases hx with hx | rfl
       · have := hE.old x hx; omega
       · show clock < clock + 1; omega
 | some p =>
   obtain ⟨j, s⟩ := p
   rw [h] at hf
   obtain ⟨hj, hs⟩ := fnd_some h
   have hjl : j < M.length := (List.getElem?_eq_some_iff.1 hj).1
   have hsz := hE.len
   have hx : es.toList[j]? = some es[j] := by simp [show j < es.size by omega]
   obtain ⟨s', h1, h2, h3⟩ := hE.at_ hx
   rw [hj, Option.some.injEq] at h1
   subst h1
   refine ⟨es.modify j fun e => { e with key := kv (kid r), val := val r }, clock, ?_, ?_⟩
   · have hk : (((es[j]?).map (·.key)).getD (kv (kid r))) = kv (kid r) := by
       rw [Array.getElem?_eq_getElem (by omega)]
       simp only [Option.map_some, Option.getD_some]
       rw [h2, hK.key, hs]
     have hst : (Instr.keyThatStays (kv (kid r)) (kv (kid r))).run P w = .ok (kv (kid r)) w := by
       exact hK.ops.stay _ w
     simp only [Instr.mapUpdate, getObj, Sem.run_bind, run_underlying hm, Result.andThen_ok, Sem.run, hg, Result.andThen, hc, hf, Option.map_some, hk, hst]
     exact hset _
   · have hl : (es.modify j fun e => { e with key := kv (kid r), val := val r }).toList = es.toList.modify j fun e => { e with key := kv (kid r), val := val r } := Array.toList_modify ..
     refine ⟨?_, ?_, ?_⟩
     · rw [hl]
       apply List.ext_getElem?
       intro i
       have := congrArg (fun l => l[i]?) hE.ents
       simp only [List.getElem?_map] at this
       rw [List.getElem?_map, List.getElem?_modify, List.getElem?_map, List.getElem?_set]
       by_cases hi : j = i
       · subst hi
         rw [hx]
         simp [hjl, hK.key]
       · simp only [if_neg hi]
         cases hq : es.toList[i]? <;> rw [hq] at this <;> simpa using this
     · rw [hl]
       have : (es.toList.modify j fun e => { e with key := kv (kid r), val := val r }).map (·.born) = es.toList.map (·.born) := by
         apply List.ext_getElem?
         intro i
         rw [List.getElem?_map, List.getElem?_modify, List.getElem?_map]
         by_cases hi : j = i
         · subst hi; rw [hx]; simp
         · simp only [if_neg hi]; cases es.toList[i]? <;> rfl
       rw [this]
       exact hE.born
     · intro x hxm
       rw [hl] at hxm
       obtain ⟨i, hi⟩ := List.getElem?_of_mem hxm
       rw [List.getElem?_modify] at hi
       by_cases hji : j = i
       · subst hji
         rw [hx] at hi
         simp at hi
         subst hi
         exact hE.old es[j] (by simp)
       · simp only [if_neg hji] at hi
         cases hq : es.toList[i]? with
         | none => rw [hq] at hi; simp at hi
         | some y => rw [hq] at hi; simp at hi; subst hi; exact hE.old y (List.mem_of_getElem? hq)

theorem MapE.deleteK (hE : MapE key val es clock M) (hK : KeyM P KT kv ok key kid M) (hm : P.underlying mt = some (.map KT ET)) (hg : w.heap[g]? = some (.map es clock)) {id : List UInt8} (hl : ok id) (ts : Array TypeId) (hts : ts[0]? = some mt) (ty : TypeId) :
   ∃ es', (Builtin.delete_ ts ty #[.map (some g), kv id]).run P w = .ok (.tuple #[]) (w.putObj g (.map es' clock)) ∧ (∀ j r, fndM kid M id = some (j, r) → es' = es.eraseIdxIfInBounds j ∧ MapE key val es' clock (M.eraseIdx j)) ∧ (fndM kid M id = none → es' = es ∧ MapE key val es' clock M) := by
 have hf := hE.findK hK hl w
 have hc := hK.ops.chk _ hl es.isEmpty w
 have hset : ∀ o : Obj, (setObj g o).run P w = .ok () (w.putObj g o) := fun o => by simp [setObj, Sem.run, hg, World.putObj]
 cases h : fndM kid M id with
 | none =>
   rw [h] at hf
   refine ⟨es, ?_, by simp, fun _ => ⟨rfl, hE⟩⟩
   simp [Builtin.delete_, getObj, hts, run_underlying hm, Sem.run, hg, Result.andThen, hc, hf, hset]
 | some p =>
   obtain ⟨j, s⟩ := p
   rw [h] at hf
   obtain ⟨hj, hs⟩ := fnd_some h
   have hjl : j < M.length := (List.getElem?_eq_some_iff.1 hj).1
   have hsz := hE.len
   refine ⟨es.eraseIdxIfInBounds j, ?_, ?_, by simp⟩
   · simp [Builtin.delete_, getObj, hts, run_underlying hm, Sem.run, hg, Result.andThen, hc, hf, hset]
   · rintro j' r' h'
     simp only [Option.some.injEq, Prod.mk.injEq] at h'
     obtain ⟨rfl, rfl⟩ := h'
     have hle : (es.eraseIdxIfInBounds j).toList = es.toList.eraseIdx j := by simp [Array.eraseIdxIfInBounds, show j < es.size by omega]
     refine ⟨rfl, ?_, ?_, ?_⟩
     · rw [hle, Go.ChangeMaps.map_eraseIdx, Go.ChangeMaps.map_eraseIdx, hE.ents]
     · rw [hle, Go.ChangeMaps.map_eraseIdx]
       exact hE.born.sublist (List.eraseIdx_sublist _ _)
     · intro x hx
       rw [hle] at hx
       exact hE.old x ((List.eraseIdx_sublist _ _).subset hx)

theorem MapE.lookupK (hE : MapE key val es clock M) (hK : KeyM P KT kv ok key kid M) (hm : P.underlying mt = some (.map KT ET)) (hg : w.heap[g]? = some (.map es clock)) {id : List UInt8} (hl : ok id) {z : Value} (hz : ∀ w, (zeroValue ET).run P w = .ok z w) :
   (Instr.lookup mt (.map (some g)) (kv id) true).run P w = .ok (.tuple #[((fndM kid M id).map fun p => val p.2).getD z, .bool (fndM kid M id).isSome]) w := by
 have hf := hE.findK hK hl w
 have hc := hK.ops.chk _ hl es.isEmpty w
 cases h : fndM kid M id with
 | none =>
   rw [h] at hf
   simp [Instr.lookup, getObj, run_underlying hm, Sem.run, hg, Result.andThen, hc, hf, hz]
 | some p =>
   rw [h] at hf
   simp [Instr.lookup, getObj, run_underlying hm, Sem.run, hg, Result.andThen, hc, hf]

theorem MapE.lenOf (hE : MapE key val es clock M) (hm : P.underlying mt = some (.map KT ET)) (hg : w.heap[g]? = some (.map es clock)) (ty : TypeId) : (Builtin.len_ #[mt] ty #[.map (some g)]).run P w = .ok (.int .i64 (M.length : Int)) w := by
 have := hE.len
 simp [Builtin.len_, getObj, run_underlying hm, Sem.run, hg, Result.andThen, goInt, this]
end
end Sx

namespace Sx
open Go
set_option maxRecDepth 8000

theorem ba_beq (l m : List UInt8) : ((⟨l.toArray⟩ : ByteArray) == ⟨m.toArray⟩) = decide (l = m) := by
 show (l.toArray == m.toArray) = decide (l = m)
 by_cases h : l = m
 · subst h; simp
 · have : ¬ l.toArray = m.toArray := fun e => h (by have := congrArg Array.toList e; simpa using this)
   simp [h]

theorem findNow_str {α : Type} {val : α → Value} {kid : α → List UInt8} (id : List UInt8) : ∀ (L : List MapEntry) (M : List α) (i : Nat), L.map (fun x => (x.key, x.val)) = M.map (fun r => (strV (kid r), val r)) →
   Instr.findNow .string (strV id) L i = some ((M.findIdx? fun r => kid r == id).bind fun j => (M[j]?).map fun r => (i + j, val r))
 | [], [], i, _ => by simp [Instr.findNow]
 | [], r :: M, i, he => by simp at he
 | x :: L, [], i, he => by simp at he
 | x :: L, r :: M, i, he => by
   simp only [List.map_cons, List.cons.injEq, Prod.mk.injEq] at he
   obtain ⟨⟨e1, e2⟩, e3⟩ := he
   have ih := findNow_str (val := val) (kid := kid) id L M (i + 1) e3
   have hs : Instr.sameNow .string (strV id) x.key = some (decide (id = kid r)) := by
     rw [e1, strV, strV]
     simp only [Instr.sameNow, ba_beq]
   rw [Instr.findNow, hs]
   by_cases h : kid r = id
   · simp [h, e2, List.findIdx?_cons]
   · have h' : ¬ id = kid r := fun e => h e.symm
     simp only [h', decide_false, ih, List.findIdx?_cons, beq_iff_eq, h, if_false]
     cases hf : M.findIdx? fun r => kid r == id with
     | none => simp
     | some j => simp [Nat.add_assoc, Nat.add_comm 1]

theorem chk_str {P : Program} {KT : TypeId} (hT : P.underlying KT = some .string) (id : List UInt8) (em : Bool) (d : Nat) (w : World) : (Instr.checkKey em (d + 1) KT (strV id)).run P w = .ok () w := by
 simp [Instr.checkKey, run_underlying hT, strV]
theorem bits_str (id : List UInt8) (d : Nat) : Instr.sameBits (d + 1) (strV id) (strV id) = true := by
 simp only [Instr.sameBits, strV, ba_beq, decide_true]

theorem str_ops {P : Program} {KT : TypeId} (hT : P.underlying KT = some .string) : KeyOps P KT strV (fun _ => True) :=
 ⟨fun id _ em w => chk_str hT id em 9999 w,
  fun α val kid L M id _ w he _ => by
   have := findNow_str (val := val) (kid := kid) id L M 0 he
   simp only [Nat.zero_add] at this
   simp only [Instr.findKey, Sem.run_bind, run_underlying hT, Result.andThen_ok, this]
   rfl,
  fun id w => by
   unfold Instr.keyThatStays
   have : Instr.sameBits 10000 (strV id) (strV id) = true := bits_str id 9999
   simp [this]⟩
end Sx

open Go Sx
set_option maxRecDepth 8000

section
variable {α : Type} (kid : α → List UInt8)
def insA (S : List α) (r : α) : List α := S.filter (fun s => lexLt (kid s) (kid r)) ++ r :: S.filter (fun s => lexLt (kid r) (kid s))
def delA (S : List α) (id : List UInt8) : List α := S.filter fun s => !decide (kid s = id)
def findA (S : List α) (id : List UInt8) : Option α := S.find? fun r => kid r == id
end

section
variable {α : Type} {kid : α → List UInt8} {S M : List α}

theorem lex_total {l m : List UInt8} (h : l ≠ m) : lexLt l m = true ∨ lexLt m l = true := by
 cases h1 : lexLt l m with
 | true => exact .inl rfl
 | false =>
   cases h2 : lexLt m l with
   | true => exact .inr rfl
   | false => exact absurd (lex_tri _ _ h1 h2) h

theorem mem_insA {x r : α} : x ∈ insA kid S r ↔ x = r ∨ (x ∈ S ∧ kid x ≠ kid r) := by
 unfold insA
 simp only [List.mem_append, List.mem_cons, List.mem_filter]
 constructor
 · rintro (⟨h1, h2⟩ | rfl | ⟨h1, h2⟩)
   · exact .inr ⟨h1, lex_ne h2⟩
   · exact .inl rfl
   · exact .inr ⟨h1, (lex_ne h2).symm⟩
 · rintro (rfl | ⟨h1, h2⟩)
   · exact .inr (.inl rfl)
   · rcases lex_total h2 with h | h
     · exact .inl ⟨h1, h⟩
     · exact .inr (.inr ⟨h1, h⟩)
theorem mem_delA {x : α} {id : List UInt8} : x ∈ delA kid S id ↔ x ∈ S ∧ kid x ≠ id := by simp [delA]
theorem asc_insA (h : AscBy kid S) (r : α) : AscBy kid (insA kid S r) := by
 unfold insA AscBy
 refine List.pairwise_append.2 ⟨h.sublist List.filter_sublist, List.pairwise_cons.2 ⟨fun x hx => (List.mem_filter.1 hx).2, h.sublist List.filter_sublist⟩, fun x hx y hy => ?_⟩
 have h1 := (List.mem_filter.1 hx).2
 rcases List.mem_cons.1 hy with rfl | hy
 · exact h1
 · exact lex_trans _ _ _ h1 (List.mem_filter.1 hy).2
theorem asc_delA (h : AscBy kid S) (id : List UInt8) : AscBy kid (delA kid S id) := h.sublist List.filter_sublist
theorem asc_ne (h : AscBy kid S) : S.Pairwise fun x y => kid x ≠ kid y := h.imp fun h => lex_ne h

theorem findA_mem {id : List UInt8} {r : α} (h : findA kid S id = some r) : r ∈ S ∧ kid r = id := ⟨List.mem_of_find?_eq_some h, by simpa using List.find?_some h⟩
theorem findA_none {id : List UInt8} (h : findA kid S id = none) : ∀ r ∈ S, kid r ≠ id := by
 intro r hr
 rw [findA, List.find?_eq_none] at h
 simpa using h r hr
theorem findA_iff (h : AscBy kid S) {r : α} : findA kid S (kid r) = some r ↔ r ∈ S := by
 constructor
 · exact fun hf => (findA_mem hf).1
 · intro hr
   cases hq : findA kid S (kid r) with
   | none => exact absurd rfl (findA_none hq r hr)
   | some z =>
     obtain ⟨h1, h2⟩ := findA_mem hq
     rw [asc_nodup h h1 hr h2]
theorem delA_none {id : List UInt8} (h : findA kid S id = none) : delA kid S id = S := by
 refine List.filter_eq_self.2 fun x hx => ?_
 have := findA_none h x hx
 simpa using this
theorem insA_len (S : List α) (r : α) : (insA kid S r).length ≤ S.length + 1 := by
 have key : ∀ T : List α, (T.filter fun s => lexLt (kid s) (kid r)).length + (T.filter fun s => lexLt (kid r) (kid s)).length ≤ T.length := by
   intro T
   induction T with
   | nil => simp
   | cons x T ih =>
     cases h1 : lexLt (kid x) (kid r) with
     | true =>
       have h2 := lex_asymm h1
       simp [List.filter_cons, h1, h2]; omega
     | false => cases h2 : lexLt (kid r) (kid x) <;> simp [List.filter_cons, h1, h2] <;> omega
 have := key S
 simp only [insA, List.length_append, List.length_cons]
 omega
theorem insA_len_in {S : List α} (hS : AscBy kid S) {r : α} (h : findA kid S (kid r) ≠ none) : (insA kid S r).length ≤ S.length := by
 obtain ⟨y, hy⟩ : ∃ y, findA kid S (kid r) = some y := by
   cases hq : findA kid S (kid r) with
   | none => exact absurd hq h
   | some y => exact ⟨y, rfl⟩
 obtain ⟨h1, h2⟩ := findA_mem hy
 obtain ⟨A, B, rfl⟩ := List.append_of_mem h1
 have hp := List.pairwise_append.1 hS
 have hA : A.filter (fun s => lexLt (kid r) (kid s)) = [] := List.filter_eq_nil_iff.2 fun x hx => by
   have := hp.2.2 x hx y (by simp)
   rw [h2] at this
   rw [lex_asymm this]; simp
 have hB : B.filter (fun s => lexLt (kid s) (kid r)) = [] := List.filter_eq_nil_iff.2 fun x hx => by
   have := (List.pairwise_cons.1 hp.2.1).1 x hx
   rw [h2] at this
   rw [lex_asymm this]; simp
 have l1 := List.length_filter_le (fun s => lexLt (kid s) (kid r)) A
 have l2 := List.length_filter_le (fun s => lexLt (kid r) (kid s)) B
 simp only [insA, List.filter_append, List.filter_cons, hA, hB, h2, lex_irrefl, List.length_append, List.length_cons, List.nil_append, List.append_nil, Bool.false_eq_true, if_false]
 omega
theorem delA_len (S : List α) (id : List UInt8) : (delA kid S id).length ≤ S.length := List.length_filter_le _ _
structure MapIsA (kid : α → List UInt8) (M S : List α) : Prop where
 perm : M.Perm S
 asc : AscBy kid S
theorem MapIsA.nil : MapIsA kid [] [] := ⟨List.Perm.refl _, List.Pairwise.nil⟩

theorem fnd_find (hp : M.Perm S) (hS : AscBy kid S) (id : List UInt8) : (fndM kid M id).map (·.2) = findA kid S id := by
 cases hf : fndM kid M id with
 | none =>
   have hn := fnd_none hf
   symm
   rw [Option.map_none, findA, List.find?_eq_none]
   intro r hr
   have := hn r (hp.mem_iff.2 hr)
   simpa using this
 | some p =>
   obtain ⟨j, y⟩ := p
   obtain ⟨hj, hy⟩ := fnd_some hf
   have hyS : y ∈ S := hp.mem_iff.1 (List.mem_of_getElem? hj)
   rw [Option.map_some, ← hy]
   exact ((findA_iff hS).2 hyS).symm
theorem MapIsA.find (h : MapIsA kid M S) (id : List UInt8) : (fndM kid M id).map (·.2) = findA kid S id := fnd_find h.perm h.asc id

theorem split_at {M : List α} {j : Nat} {y : α} (hj : M[j]? = some y) : M = M.take j ++ y :: M.drop (j + 1) ∧ (∀ r, M.set j r = M.take j ++ r :: M.drop (j + 1)) ∧ M.eraseIdx j = M.take j ++ M.drop (j + 1) := by
 obtain ⟨hl, e⟩ := List.getElem?_eq_some_iff.1 hj
 refine ⟨?_, fun r => ?_, List.eraseIdx_eq_take_drop_succ ..⟩
 · rw [← e, ← List.drop_eq_getElem_cons hl, List.take_append_drop]
 · rw [List.set_eq_take_append_cons_drop, if_pos hl]

theorem MapIsA.nd (h : MapIsA kid M S) : M.Pairwise fun x y => kid x ≠ kid y := (asc_ne h.asc).perm h.perm.symm fun h => h.symm

theorem nodup_of_ne {M : List α} (h : M.Pairwise fun x y => kid x ≠ kid y) : M.Nodup := h.imp fun h e => h (by rw [e])

theorem MapIsA.upd (h : MapIsA kid M S) (r : α) : MapIsA kid (updM kid M r) (insA kid S r) := by
 refine ⟨?_, asc_insA h.asc r⟩
 have hnd : (updM kid M r).Pairwise fun x y => kid x ≠ kid y := by
   unfold updM
   cases hf : fndM kid M (kid r) with
   | none =>
     have hn := fnd_none hf
     exact List.pairwise_append.2 ⟨h.nd, by simp, fun x hx y hy => by simp at hy; rw [hy]; exact hn x hx⟩
   | some p =>
     obtain ⟨j, y⟩ := p
     obtain ⟨hj, hy⟩ := fnd_some hf
     obtain ⟨h1, h2, _⟩ := split_at hj
     have hM := h.nd
     rw [h1] at hM
     show (M.set j r).Pairwise _
     rw [h2]
     have hp := List.pairwise_append.1 hM
     have hc := List.pairwise_cons.1 hp.2.1
     refine List.pairwise_append.2 ⟨hp.1, List.pairwise_cons.2 ⟨fun x hx => by rw [← hy]; exact hc.1 x hx, hc.2⟩, fun x hx z hz => ?_⟩
     rcases List.mem_cons.1 hz with rfl | hz
     · rw [← hy]; exact hp.2.2 x hx y (by simp)
     · exact hp.2.2 x hx z (by simp [hz])
 refine (List.perm_ext_iff_of_nodup (nodup_of_ne hnd) (nodup_of_ne (asc_ne (asc_insA h.asc r)))).2 fun x => ?_
 rw [mem_insA, ← h.perm.mem_iff]
 unfold updM
 cases hf : fndM kid M (kid r) with
 | none =>
   have hn := fnd_none hf
   show x ∈ M ++ [r] ↔ _
   rw [List.mem_append, List.mem_singleton]
   constructor
   · rintro (h1 | rfl)
     · exact .inr ⟨h1, hn x h1⟩
     · exact .inl rfl
   · rintro (rfl | ⟨h1, _⟩)
     · exact .inr rfl
     · exact .inl h1
 | some p =>
   obtain ⟨j, y⟩ := p
   obtain ⟨hj, hy⟩ := fnd_some hf
   obtain ⟨h1, h2, _⟩ := split_at hj
   show x ∈ M.set j r ↔ _
   rw [h2]
   have hM := h.nd
   rw [h1] at hM
   have hp := List.pairwise_append.1 hM
   have hc := List.pairwise_cons.1 hp.2.1
   constructor
   · intro hx
     rcases List.mem_append.1 hx with hx | hx
     · refine .inr ⟨by rw [h1]; simp [hx], ?_⟩
       rw [← hy]; exact hp.2.2 x hx y (by simp)
     · rcases List.mem_cons.1 hx with rfl | hx
       · exact .inl rfl
       · refine .inr ⟨by rw [h1]; simp [hx], ?_⟩
         rw [← hy]; exact (hc.1 x hx).symm
   · rintro (rfl | ⟨hx, hne⟩)
     · simp
     · rw [h1] at hx
       rcases List.mem_append.1 hx with hx | hx
       · simp [hx]
       · rcases List.mem_cons.1 hx with rfl | hx
         · exact absurd hy hne
         · simp [hx]

theorem MapIsA.del (h : MapIsA kid M S) {id : List UInt8} {j : Nat} {y : α} (hf : fndM kid M id = some (j, y)) : MapIsA kid (M.eraseIdx j) (delA kid S id) := by
 obtain ⟨hj, hy⟩ := fnd_some hf
 obtain ⟨h1, _, h3⟩ := split_at hj
 refine ⟨?_, asc_delA h.asc id⟩
 have hM := h.nd
 refine (List.perm_ext_iff_of_nodup (nodup_of_ne (hM.sublist (List.eraseIdx_sublist _ _))) (nodup_of_ne (asc_ne (asc_delA h.asc id)))).2 fun x => ?_
 rw [mem_delA, ← h.perm.mem_iff, h3]
 rw [h1] at hM
 have hp := List.pairwise_append.1 hM
 have hc := List.pairwise_cons.1 hp.2.1
 constructor
 · intro hx
   rcases List.mem_append.1 hx with hx | hx
   · refine ⟨by rw [h1]; simp [hx], ?_⟩
     rw [← hy]; exact hp.2.2 x hx y (by simp)
   · refine ⟨by rw [h1]; simp [hx], ?_⟩
     rw [← hy]; exact (hc.1 x hx).symm
 · rintro ⟨hx, hne⟩
   rw [h1] at hx
   rcases List.mem_append.1 hx with hx | hx
   · simp [hx]
   · rcases List.mem_cons.1 hx with rfl | hx
     · exact absurd hy hne
     · simp [hx]
theorem MapE.congr {key val val' : α → Value} {es : Array MapEntry} {ck : Nat} (h : MapE key val es ck M) (hv : ∀ r ∈ M, val r = val' r) : MapE key val' es ck M := by
 refine ⟨?_, h.born, h.old⟩
 rw [h.ents]
 exact List.map_congr_left fun r hr => by rw [hv r hr]
end

namespace Sx
open Go
set_option maxRecDepth 8000

section
variable {P : Program} {α : Type} {key val : α → Value} {es : Array MapEntry} {clock : Nat} {M : List α}

def zipA (es : Array MapEntry) (M : List α) : List (MapEntry × α) := es.toList.zip M
def leftA (es : Array MapEntry) (M : List α) (seen : Array Nat) : List (MapEntry × α) := (zipA es M).filter fun p => !seen.contains p.1.born
theorem zipA_fst (hE : MapE key val es clock M) : (zipA es M).map (·.1) = es.toList := by
 rw [zipA, List.map_fst_zip]
 have := hE.len; simp; omega
theorem zipA_snd (hE : MapE key val es clock M) : (zipA es M).map (·.2) = M := by
 rw [zipA, List.map_snd_zip]
 have := hE.len; simp; omega
theorem zipA_mem (hE : MapE key val es clock M) {p : MapEntry × α} (hp : p ∈ zipA es M) : p.1 ∈ es.toList ∧ p.1.key = key p.2 ∧ p.1.val = val p.2 := by
 obtain ⟨i, hi⟩ := List.getElem?_of_mem hp
 rw [zipA, List.getElem?_zip_eq_some] at hi
 obtain ⟨r, h1, h2, h3⟩ := hE.at_ hi.1
 rw [hi.2, Option.some.injEq] at h1
 subst h1
 exact ⟨List.mem_of_getElem? hi.1, h2, h3⟩
theorem leftA_fst (hE : MapE key val es clock M) (seen : Array Nat) : (leftA es M seen).map (·.1) = (leftOf es seen).toList := by
 rw [leftOf, Array.toList_filter, ← zipA_fst hE, List.filter_map, leftA]
 rfl
theorem leftA_size (hE : MapE key val es clock M) (seen : Array Nat) : (leftOf es seen).size = (leftA es M seen).length := by
 rw [← Array.length_toList, ← leftA_fst hE, List.length_map]
theorem leftA_all (hE : MapE key val es clock M) : (leftA es M #[]).map (·.2) = M := by
 have : leftA es M #[] = zipA es M := List.filter_eq_self.2 fun p _ => by simp
 rw [this, zipA_snd hE]

theorem filtA_step {β : Type} (bn : β → Nat) {L : List β} (hn : (L.map bn).Nodup) (seen : Array Nat) {p : β} (hp : p ∈ L.filter fun x => !seen.contains (bn x)) :
   (L.filter fun x => !seen.contains (bn x)).Perm (p :: L.filter fun x => !(seen.push (bn p)).contains (bn x)) := by
 have key : ∀ (L : List β), (L.map bn).Nodup → p ∈ L → L.Perm (p :: L.filter fun x => bn x ≠ bn p) := by
   intro L
   induction L with
   | nil => intro _ h; simp at h
   | cons x L ih =>
     intro hn hm
     rw [List.map_cons, List.nodup_cons] at hn
     rcases List.mem_cons.1 hm with rfl | hm
     · have hL : L.filter (fun x => decide (bn x ≠ bn p)) = L := List.filter_eq_self.2 fun y hy => by
         simp only [ne_eq, decide_eq_true_eq]
         exact fun h => hn.1 (List.mem_map.2 ⟨y, hy, h⟩)
       rw [List.filter_cons, if_neg (by simp), hL]
     · have hx : bn x ≠ bn p := fun h => hn.1 (List.mem_map.2 ⟨p, hm, h.symm⟩)
       rw [List.filter_cons, if_pos (by simpa using hx)]
       exact ((ih hn.2 hm).cons x).trans (List.Perm.swap _ _ _)
 have hsub : ((L.filter fun x => !seen.contains (bn x)).map bn).Nodup := hn.sublist ((List.filter_sublist).map _)
 refine (key _ hsub hp).trans (List.Perm.of_eq ?_)
 congr 1
 rw [List.filter_filter]
 apply List.filter_congr
 intro x _
 simp only [Array.contains_push, ne_eq]
 by_cases h2 : bn x = bn p <;> cases h1 : seen.contains (bn x) <;> simp [h1, h2]

def muR (gm gr : Nat) (w : World) : Nat := match w.heap[gm]?, w.heap[gr]? with
 | some (.map es _), some (.mapIter _ _ seen _) => (leftOf es seen).size
 | _, _ => 0
theorem muR_eq {gm gr : Nat} {w : World} {seen : Array Nat} {c0 c1 : Nat} {o : Option Nat} (hg : w.heap[gm]? = some (.map es clock)) (hr : w.heap[gr]? = some (.mapIter o c0 seen c1)) : muR gm gr w = (leftOf es seen).size := by simp only [muR, hg, hr]

theorem range_step {w : World} {gr gm : Nat} {seen : Array Nat} (hE : MapE key val es clock M) (hr : w.heap[gr]? = some (.mapIter (some gm) clock seen clock)) (hg : w.heap[gm]? = some (.map es clock)) :
   ((leftA es M seen) = [] ∧ (Instr.next (.pointer (some ⟨gr, 0, none⟩)) false 0).run P w = .ok (.tuple #[.bool false]) w) ∨
   ∃ (e : MapEntry) (r : α) (w1 : World), (w1 = w ∨ w1 = w.drew) ∧ (Instr.next (.pointer (some ⟨gr, 0, none⟩)) false 0).run P w = .ok (.tuple #[.bool true, key r, val r]) (w1.putObj gr (.mapIter (some gm) clock (seen.push e.born) clock)) ∧ r ∈ M ∧
     (∀ w2 : World, w2.heap[gr]? = some (.mapIter (some gm) clock (seen.push e.born) clock) → w2.heap[gm]? = some (.map es clock) → (Instr.entry (.pointer (some ⟨gr, 0, none⟩))).run P w2 = .ok (.tuple #[key r, val r]) w2) ∧
     ((leftA es M seen).map (·.2)).Perm (r :: (leftA es M (seen.push e.born)).map (·.2)) ∧ (leftA es M (seen.push e.born)).length < (leftA es M seen).length := by
 rcases run_next_at (P := P) w 0 gr gm clock clock seen es clock hr hg hE.old (Nat.le_refl _) with ⟨hz, hrun⟩ | ⟨e, he, w3, hw3, hrun⟩
 · left
   refine ⟨?_, hrun⟩
   rw [leftA_size hE] at hz
   exact List.eq_nil_of_length_eq_zero hz
 · right
   have hml : ∃ r, (e, r) ∈ leftA es M seen := by
     rw [← leftA_fst hE, List.mem_map] at he
     obtain ⟨p, hp, rfl⟩ := he
     exact ⟨p.2, hp⟩
   obtain ⟨r, hr'⟩ := hml
   have hmem := (List.mem_filter.1 hr').1
   obtain ⟨he1, hk, hv⟩ := zipA_mem hE hmem
   have hborn : ((zipA es M).map fun p => p.1.born).Nodup := by
     have := hE.born
     rw [← zipA_fst hE, List.map_map] at this
     exact this
   have hstep := filtA_step (fun p : MapEntry × α => p.1.born) hborn seen hr'
   have hrM : r ∈ M := by
     have := (List.mem_map (f := fun p : MapEntry × α => p.2)).2 ⟨_, hmem, rfl⟩
     rw [zipA_snd hE] at this
     exact this
   refine ⟨e, r, w3, hw3, ?_, hrM, fun w2 h1 h2 => ?_, hstep.map fun p : MapEntry × α => p.2, ?_⟩
   · simp only at hk hv
     rw [hk, hv] at hrun
     exact hrun
   · have := run_entry_at (P := P) w2 gr gm clock seen es clock e h1 h2 he1 hE.born
     simp only at hk hv
     rw [hk, hv] at this
     exact this
   · have := hstep.length_eq
     simp only [List.length_cons] at this
     show (leftA es M (seen.push e.born)).length < (leftA es M seen).length
     unfold leftA
     omega
end
end Sx

end Go.Proofs.YtmdandkoajocpaaGreatDoor
end
