/- The proof of PackSavesCardSaid, part 6: what it rests on (conditions: those that each theorem names). -/
import Derived.Test.YtmdandkoajocpaaGreatDoorS5
import Derived.Test.YtmdandkoajocpaaGreatDoorRows
import Derived.Shelf.SlGeneric
import Derived.Shelf.SlIter.Sorted
import Derived.Shelf.SortM.Plain
import Derived.Shelf.SortM.SortNone
import Derived.Ground.GgzProg
import Derived.Ground.SlgmProg
import Derived.Test.YtmdandkoajocpaaGreatDoorProg
import Derived.Shelf.Strconv.Itoa3
import Derived.Ground.NamesProg
import Derived.Lib.ItoaLen
import Derived.Lib.ItoaMem
import Derived.Lib.AtoiAll
import Derived.Shelf.Strconv.ErrVarAll
section
namespace Go.Proofs.YtmdandkoajocpaaGreatDoor
open Go Go.Proofs.YtmdandkoajocpaaGreatDoor.Sx

set_option maxRecDepth 100000
theorem disk_New_vc (a0 : Int) (w : World) (R : Ending → World → Prop) (h : (((decide (a0 < (0 : Int))) || (decide (a0 > (67108864 : Int)))) = true → (R (.returned (.tuple #[(.pointer none), (.iface 69 (.int .i64 7))])) w)) ∧ (((decide (a0 < (0 : Int))) || (decide (a0 > (67108864 : Int)))) = false → (∃ t12 w1, (Instr.makeMap 112 none).run Tryz.prog w = .ok t12 w1 ∧ (∃ t13 w2, (Instr.makeMap 112 none).run Tryz.prog w1 = .ok t13 w2 ∧ (∃ t14, (Instr.build 117 #[(1, (.int .i64 a0)), (2, t12), (3, t13)]).run Tryz.prog w2 = .ok (.agg t14) w2 ∧ (∃ g15 w3, (Instr.box 117 (.agg t14)).run Tryz.prog w2 = .ok (.pointer (some ⟨g15, 0, none⟩)) w3 ∧ (R (.returned (.tuple #[(.pointer (some ⟨g15, 0, none⟩)), .nilIface])) w3))))))) : Calls Tryz.prog 21 #[(.int .i64 a0)] w R := calls_of_ev2 (tc := .sq [.rg 2, .seq (.reg (.pp 3 (.ap 2 .nil))) (.cond (.seq (.rg 3) .leaf) .leaf), .reg (.op .p (.op (.r .val) (.op (.r .val) (.op (.ld .agg) (.op .bx (.pp 2 .nil))))))] .leaf) Tryz.func21 (by kernel_rfl) (by kernel_rfl) h

theorem disk_goodName_vc (a0 : ByteArray) (w : World) (R : Ending → World → Prop) (h : (((a0.toList == (ByteArray.mk #[]).toList) || (decide ((a0.size : Int) > (64 : Int)))) = true → (R (.returned (.bool false)) w)) ∧ (((a0.toList == (ByteArray.mk #[]).toList) || (decide ((a0.size : Int) > (64 : Int)))) = false → (∃ (I : Int → World → Prop) (μ : Int → World → Nat), I 0 w ∧ (∀ x13, ∀ w1, I x13 w1 → ((decide (x13 < (a0.size : Int)) = true → (∃ J : Bool → World → Prop, (∃ t18, (Instr.index 9 (.string a0) (.int .i64 x13)).run Tryz.prog w1 = .ok (.int .u8 t18) w1 ∧ ((decide (t18 < (33 : Int)) = true → (J true w1)) ∧ (decide (t18 < (33 : Int)) = false → (∃ t23, (Instr.index 9 (.string a0) (.int .i64 x13)).run Tryz.prog w1 = .ok (.int .u8 t23) w1 ∧ ((decide (t23 > (126 : Int)) = true → (J true w1)) ∧ (decide (t23 > (126 : Int)) = false → (∃ t29, (Instr.index 9 (.string a0) (.int .i64 x13)).run Tryz.prog w1 = .ok (.int .u8 t29) w1 ∧ (J (t29 == (47 : Int)) w1)))))))) ∧ (∀ x31, ∀ w2, J x31 w2 → ((x31 = true → (R (.returned (.bool false)) w2)) ∧ (x31 = false → (I (IntKind.wrap .i64 (x13 + 1)) w2 ∧ μ (IntKind.wrap .i64 (x13 + 1)) w2 < μ x13 w1)))))) ∧ (decide (x13 < (a0.size : Int)) = false → (R (.returned (.bool true)) w1))))))) : Calls Tryz.prog 114 #[(.string a0)] w R := calls_of_ev2 (tc := .sq [.rg 1, .seq (.reg (.pp 3 (.ap 3 .nil))) (.cond (.seq (.rg 1) .leaf) .leaf), .seq (.rg 3) (.blk (.loop (lr [(2, 2), (13, 20)]) [13] [.int .i64] (.sq [.rg 1, .cond .leaf .leaf, .blk (.sq [.rg 2, .join (lr [(16, 16)]) [31] [.bool] (.reg (.pp 2 (.op (.ld (.int .u8)) (.pp 2 (.sp 20 (.pp 11 .nil) (.pp 2 (.op (.ld (.int .u8)) (.pp 3 (.sp 26 (.pp 5 .nil) (.pp 2 (.op (.ld (.int .u8)) (.pp 2 .nil))))))))))))] (.cond (.seq (.rg 1) .leaf) .leaf))] (.rg 2)))), .rg 1] .leaf) Tryz.func114 (by kernel_rfl) (by kernel_rfl) h

theorem disk_meter_step_vc (a0b : Nat) (a0o : Nat) (w : World) (R : Ending → World → Prop) (h : ∃ J : Bool → World → Prop, (∃ t6, LdQ 4 a0b (a0o + 2) (.bool t6) w ∧ ((t6 = true → (∃ t11, LdQ 3 a0b (a0o + 3) (.int .i64 t11) w ∧ (J (t11 == (0 : Int)) w))) ∧ (t6 = false → (J false w)))) ∧ (∀ x13, ∀ w1, J x13 w1 → ((x13 = true → (∃ w2, StQ 4 a0b (a0o + 1) (.bool true) w1 w2 ∧ (R (.returned (.iface 69 (.int .i64 1))) w2))) ∧ (x13 = false → (∃ t21, LdQ 3 a0b a0o (.int .i64 t21) w1 ∧ (∃ w3, StQ 3 a0b a0o (.int .i64 (IntKind.wrap .i64 (t21 + 1))) w1 w3 ∧ (∃ t28, LdQ 3 a0b (a0o + 3) (.int .i64 t28) w3 ∧ (∃ w4, StQ 3 a0b (a0o + 3) (.int .i64 (IntKind.wrap .i64 (t28 - (1 : Int)))) w3 w4 ∧ (∃ t35a t35n t35c, LdQ 53 a0b (a0o + 4) (.slice t35a t35n t35c) w4 ∧ ((((t35n : Int) == (0 : Int)) = true → (R (.returned .nilIface) w4)) ∧ (((t35n : Int) == (0 : Int)) = false → (∃ t41a t41n t41c, LdQ 53 a0b (a0o + 4) (.slice t41a t41n t41c) w4 ∧ (∃ t42b t42o, t41a = some ⟨t42b, t42o, none⟩ ∧ 0 ≤ (0 : Int) ∧ (0 : Int) < (t41n : Int) ∧ (∃ t43, LdQ 3 t42b (t42o + Int.toNat (0 : Int) * 1) (.int .i64 t43) w4 ∧ (((t43 == (0 : Int)) = true → (∃ t49a t49n t49c, LdQ 53 a0b (a0o + 4) (.slice t49a t49n t49c) w4 ∧ (0 ≤ (1 : Int) ∧ (1 : Int) ≤ (t49n : Int) ∧ (t49n : Int) ≤ (t49c : Int) ∧ ∀ t50a, SubA 1 t49a 1 t49c t50a → (∃ w5, StQ 53 a0b (a0o + 4) (.slice t50a ((t49n) - 1) (t49c - 1)) w4 w5 ∧ (R (.returned (.iface 69 (.int .i64 2))) w5))))) ∧ ((t43 == (0 : Int)) = false → (∃ t57a t57n t57c, LdQ 53 a0b (a0o + 4) (.slice t57a t57n t57c) w4 ∧ (∃ t58b t58o, t57a = some ⟨t58b, t58o, none⟩ ∧ 0 ≤ (0 : Int) ∧ (0 : Int) < (t57n : Int) ∧ (∃ t59, LdQ 3 t58b (t58o + Int.toNat (0 : Int) * 1) (.int .i64 t59) w4 ∧ (∃ t61b t61o, t57a = some ⟨t61b, t61o, none⟩ ∧ 0 ≤ (0 : Int) ∧ (0 : Int) < (t57n : Int) ∧ (∃ w6, StQ 3 t61b (t61o + Int.toNat (0 : Int) * 1) (.int .i64 (IntKind.wrap .i64 (t59 - (1 : Int)))) w4 w6 ∧ (R (.returned .nilIface) w6)))))))))))))))))))))) : Calls Tryz.prog 82 #[(.pointer (some ⟨a0b, a0o, none⟩))] w R := calls_of_ev2 (tc := .sq [.rg 1, .seq (.join (lr [(3, 11)]) [13] [.bool] (.reg (.pp 3 (.op (.ld .bool) (.op .p (.sp 7 (.pp 3 (.op (.ld (.int .i64)) (.pp 2 .nil))) (.pp 6 .nil))))))) (.cond (.sq [.reg (.pp 3 (.op .u .nil)), .rg 2] .leaf) .leaf), .reg (.pp 3 (.op (.ld (.int .i64)) (.pp 3 (.op .u .nil)))), .reg (.pp 3 (.op (.ld (.int .i64)) (.pp 3 (.op .u .nil)))), .seq (.reg (.pp 3 (.op (.ld .slice) (.pp 2 .nil)))) (.cond (.seq (.rg 1) .leaf) .leaf), .seq (.reg (.pp 3 (.op (.ld .slice) (.op .ix (.op (.ld (.int .i64)) (.op .p .nil)))))) (.cond (.sq [.reg (.pp 4 (.op (.ld .slice) (.op .sl (.pp 2 (.op .u .nil))))), .rg 2] .leaf) .leaf), .reg (.pp 3 (.op (.ld .slice) (.op .ix (.op (.ld (.int .i64)) (.op .p (.op .ix (.op .u .nil))))))), .rg 1] .leaf) Tryz.func82 (by kernel_rfl) (by kernel_rfl) h

theorem disk_Disk_ready_vc (a0b : Nat) (a0o : Nat) (a1a : Option Addr) (a1n : Nat) (a1c : Nat) (w : World) (R : Ending → World → Prop) (h : ∃ t14, LdQ 4 a0b (a0o + 1) (.bool t14) w ∧ ((t14 = true → (R (.returned (.iface 69 (.int .i64 1))) w)) ∧ (t14 = false → (∃ (I : Int → World → Prop) (μ : Int → World → Nat), I 0 w ∧ (∀ x18, ∀ w1, I x18 w1 → ((decide (x18 < (a1n : Int)) = true → (∃ t20b t20o, a1a = some ⟨t20b, t20o, none⟩ ∧ 0 ≤ x18 ∧ x18 < (a1n : Int) ∧ (∃ t21, LdQ 9 t20b (t20o + Int.toNat x18 * 1) (.string t21) w1 ∧ (Calls Tryz.prog 114 #[(.string t21)] w1 fun e23 w2 => ∃ t23, e23 = .returned (.bool t23) ∧ (((!t23) = true → (R (.returned (.iface 69 (.int .i64 6))) w2)) ∧ ((!t23) = false → (I (IntKind.wrap .i64 (x18 + 1)) w2 ∧ μ (IntKind.wrap .i64 (x18 + 1)) w2 < μ x18 w1))))))) ∧ (decide (x18 < (a1n : Int)) = false → (R (.returned .nilIface) w1)))))))) : Calls Tryz.prog 81 #[(.pointer (some ⟨a0b, a0o, none⟩)), (.slice a1a a1n a1c)] w R := calls_of_ev2 (tc := .sq [.rg 1, .seq (.rg 2) (.cf .leaf), .seq (.reg (.pp 4 (.op (.ld .bool) .nil))) (.cond (.seq (.rg 2) .leaf) .leaf), .seq (.rg 3) (.blk (.loop (lr [(4, 1), (6, 1), (18, 9)]) [18] [.int .i64] (.sq [.rg 1, .cond .leaf .leaf, .blk (.sq [.reg (.op .ix (.op (.ld .str) (.op .p .nil))), .reg (.op .p (.op (.cl [.bool]) (.op .p .nil)))] (.cond (.seq (.rg 2) .leaf) .leaf))] (.rg 2)))), .rg 1] .leaf) Tryz.func81 (by kernel_rfl) (by kernel_rfl) h

theorem disk_Disk_found_vc (a0b : Nat) (a0o : Nat) (a1 : ByteArray) (w : World) (R : Ending → World → Prop) (h : ∃ t11a t11n t11c w1, (Instr.buildSlice 125 1 #[(0, (.string a1))]).run Tryz.prog w = .ok (.slice t11a t11n t11c) w1 ∧ (Calls Tryz.prog 81 #[(.pointer (some ⟨a0b, a0o, none⟩)), (.slice t11a t11n t11c)] w1 fun e12 w2 => ∃ t12, e12 = .returned t12 ∧ (∃ t14, (eqlS .neq 36 (.tmp 13) (.const .nilIface) t12 .nilIface).run Tryz.prog w2 = .ok (.bool t14) w2 ∧ ((t14 = true → (R (.returned (.tuple #[(.pointer none), t12])) w2)) ∧ (t14 = false → (∃ t20, (Instr.loadAt 112 (.pointer (some ⟨a0b, a0o + 6, none⟩))).run Tryz.prog w2 = .ok t20 w2 ∧ (∃ t22_0 t22_1 w3, (Instr.lookup 112 t20 (.string a1) true).run Tryz.prog w2 = .ok (.tuple #[t22_0, (.bool t22_1)]) w3 ∧ (((!t22_1) = true → (R (.returned (.tuple #[(.pointer none), (.iface 69 (.int .i64 5))])) w3)) ∧ ((!t22_1) = false → (R (.returned (.tuple #[t22_0, .nilIface])) w3)))))))))) : Calls Tryz.prog 53 #[(.pointer (some ⟨a0b, a0o, none⟩)), (.string a1)] w R := calls_of_ev2 (tc := .sq [.rg 2, .sq [.reg (.pp 2 (.op (.r .slice) (.op (.cl [.val]) (.op .p .nil)))), .reg (.op .p (.op (.ld .bool) .nil))] (.cond (.seq (.rg 3) .leaf) .leaf), .reg (.pp 3 (.op (.ld .val) (.op .p (.op (.rt [.val, .bool]) (.pp 5 .nil))))), .seq (.rg 2) (.cond (.seq (.rg 3) .leaf) .leaf), .rg 3] .leaf) Tryz.func53 (by kernel_rfl) (by kernel_rfl) h

theorem disk_Disk_Create_vc (a0b : Nat) (a0o : Nat) (a1 : ByteArray) (w : World) (R : Ending → World → Prop) (h : ∃ t12a t12n t12c w1, (Instr.buildSlice 125 1 #[(0, (.string a1))]).run Tryz.prog w = .ok (.slice t12a t12n t12c) w1 ∧ (Calls Tryz.prog 81 #[(.pointer (some ⟨a0b, a0o, none⟩)), (.slice t12a t12n t12c)] w1 fun e13 w2 => ∃ t13, e13 = .returned t13 ∧ (∃ t15, (eqlS .neq 36 (.tmp 14) (.const .nilIface) t13 .nilIface).run Tryz.prog w2 = .ok (.bool t15) w2 ∧ ((t15 = true → (R (.returned t13) w2)) ∧ (t15 = false → (∃ t21, (Instr.loadAt 112 (.pointer (some ⟨a0b, a0o + 6, none⟩))).run Tryz.prog w2 = .ok t21 w2 ∧ (∃ t23_0 t23_1 w3, (Instr.lookup 112 t21 (.string a1) true).run Tryz.prog w2 = .ok (.tuple #[t23_0, (.bool t23_1)]) w3 ∧ ((t23_1 = true → (R (.returned (.iface 69 (.int .i64 4))) w3)) ∧ (t23_1 = false → (∃ t31, (Instr.loadAt 112 (.pointer (some ⟨a0b, a0o + 6, none⟩))).run Tryz.prog w3 = .ok t31 w3 ∧ (∃ t32 w4, (Builtin.len_ #[112] 3 #[t31]).run Tryz.prog w3 = .ok (.int .i64 t32) w4 ∧ ((decide (t32 ≥ (4096 : Int)) = true → (R (.returned (.iface 69 (.int .i64 19))) w4)) ∧ (decide (t32 ≥ (4096 : Int)) = false → (Calls Tryz.prog 82 #[(.pointer (some ⟨a0b, a0o, none⟩))] w4 fun e38 w5 => ∃ t38, e38 = .returned t38 ∧ (∃ t40, (eqlS .neq 36 (.tmp 39) (.const .nilIface) t38 .nilIface).run Tryz.prog w5 = .ok (.bool t40) w5 ∧ ((t40 = true → (R (.returned t38) w5)) ∧ (t40 = false → (∃ t42, (Instr.build 128 #[]).run Tryz.prog w5 = .ok (.agg t42) w5 ∧ (∃ g43 w6, (Instr.box 128 (.agg t42)).run Tryz.prog w5 = .ok (.pointer (some ⟨g43, 0, none⟩)) w6 ∧ (∃ t47, (Instr.loadAt 112 (.pointer (some ⟨a0b, a0o + 6, none⟩))).run Tryz.prog w6 = .ok t47 w6 ∧ (∃ w7, (Instr.mapUpdate 112 t47 (.string a1) (.pointer (some ⟨g43, 0, none⟩))).run Tryz.prog w6 = .ok () w7 ∧ (∃ t54a t54n t54c, LdQ 115 a0b (a0o + 8) (.slice t54a t54n t54c) w7 ∧ (∃ t57, (Instr.build 123 #[(0, (.pointer (some ⟨g43, 0, none⟩))), (2, (.string a1))]).run Tryz.prog w7 = .ok (.agg t57) w7 ∧ (∃ t58a t58n t58c w8, (Instr.buildSlice 115 1 #[(0, (.agg t57))]).run Tryz.prog w7 = .ok (.slice t58a t58n t58c) w8 ∧ (∃ t59a t59n t59c w9, (Builtin.append_ #[115, 115] 115 #[(.slice t54a t54n t54c), (.slice t58a t58n t58c)]).run Tryz.prog w8 = .ok (.slice t59a t59n t59c) w9 ∧ (∃ w10, StQ 115 a0b (a0o + 8) (.slice t59a t59n t59c) w9 w10 ∧ (R (.returned .nilIface) w10))))))))))))))))))))))))))) : Calls Tryz.prog 46 #[(.pointer (some ⟨a0b, a0o, none⟩)), (.string a1)] w R := calls_of_ev2 (tc := .sq [.rg 1, .sq [.reg (.pp 2 (.op (.r .slice) (.op (.cl [.val]) (.op .p .nil)))), .reg (.op .p (.op (.ld .bool) .nil))] (.cond (.seq (.rg 2) .leaf) .leaf), .sq [.reg (.pp 3 (.op (.ld .val) (.op .p (.op (.rt [.val, .bool]) (.pp 5 .nil))))), .rg 1] (.cond (.seq (.rg 2) .leaf) .leaf), .seq (.reg (.pp 3 (.op (.ld .val) (.op (.r (.int .i64)) (.op .p .nil))))) (.cond (.seq (.rg 2) .leaf) .leaf), .sq [.reg (.pp 3 (.op (.cl [.val]) (.op .p .nil))), .reg (.op .p (.op (.ld .bool) .nil))] (.cond (.seq (.rg 2) .leaf) .leaf), .reg (.op (.ld .agg) (.op .bx (.op .p .nil))), .reg (.pp 3 (.op (.ld .val) (.pp 2 (.op .u .nil)))), .reg (.pp 4 (.op (.ld .slice) (.pp 2 (.op (.ld .agg) (.op (.r .slice) (.op (.r .slice) (.pp 2 (.op .u .nil)))))))), .rg 1] .leaf) Tryz.func46 (by kernel_rfl) (by kernel_rfl) h

theorem disk_Disk_Append_vc (a0b : Nat) (a0o : Nat) (a1 : ByteArray) (a2a : Option Addr) (a2n : Nat) (a2c : Nat) (w : World) (R : Ending → World → Prop) (h : Calls Tryz.prog 53 #[(.pointer (some ⟨a0b, a0o, none⟩)), (.string a1)] w fun e18 w1 => ∃ t18_0 t18_1, e18 = .returned (.tuple #[t18_0, t18_1]) ∧ (∃ t22, (eqlS .neq 36 (.tmp 21) (.const .nilIface) t18_1 .nilIface).run Tryz.prog w1 = .ok (.bool t22) w1 ∧ ((t22 = true → (R (.returned t18_1) w1)) ∧ (t22 = false → (∃ S : World → Prop, S w1.drew ∧ (∃ t27, (∀ w', S w' → LdQ 3 a0b (a0o + 5) (.int .i64 t27) w') ∧ (Calls Tryz.prog 83 #[(.pointer (some ⟨a0b, a0o, none⟩))] w1.drew fun e29 w2 => ∃ t29, e29 = .returned (.int .i64 t29) ∧ (∃ S_1 : World → Prop, (∀ w', S_1 w' → S w') ∧ S_1 w2 ∧ (∃ (I : Int → Int → World → Prop) (μ : Int → Int → World → Nat), I (IntKind.wrap .i64 (t27 - t29)) 0 w2 ∧ (∀ x9 x33, ∀ w3, I x9 x33 w3 → ((decide (x33 < (a2n : Int)) = true → (∃ t35b t35o, a2a = some ⟨t35b, t35o, none⟩ ∧ 0 ≤ x33 ∧ x33 < (a2n : Int) ∧ (∃ t36a t36n t36c, LdQ 33 t35b (t35o + Int.toNat x33 * 1) (.slice t36a t36n t36c) w3 ∧ ((decide ((t36n : Int) > x9) = true → (R (.returned (.iface 69 (.int .i64 3))) w3)) ∧ (decide ((t36n : Int) > x9) = false → (I (IntKind.wrap .i64 (x9 - (t36n : Int))) (IntKind.wrap .i64 (x33 + 1)) w3 ∧ μ (IntKind.wrap .i64 (x9 - (t36n : Int))) (IntKind.wrap .i64 (x33 + 1)) w3 < μ x9 x33 w3)))))) ∧ (decide (x33 < (a2n : Int)) = false → (Calls Tryz.prog 82 #[(.pointer (some ⟨a0b, a0o, none⟩))] w3 fun e50 w4 => ∃ t50, e50 = .returned t50 ∧ (∃ t52, (eqlS .neq 36 (.tmp 51) (.const .nilIface) t50 .nilIface).run Tryz.prog w4 = .ok (.bool t52) w4 ∧ ((t52 = true → (R (.returned t50) w4)) ∧ (t52 = false → (∃ (I_1 : Int → World → Prop) (μ_1 : Int → World → Nat), I_1 0 w4 ∧ (∀ x56, ∀ w5, I_1 x56 w5 → ((decide (x56 < (a2n : Int)) = true → (∃ t58b t58o, a2a = some ⟨t58b, t58o, none⟩ ∧ 0 ≤ x56 ∧ x56 < (a2n : Int) ∧ (∃ t59a t59n t59c, LdQ 33 t58b (t58o + Int.toNat x56 * 1) (.slice t59a t59n t59c) w5 ∧ (∃ (t62b t62o : Nat), t18_0 = .pointer (some ⟨t62b, t62o, none⟩) ∧ (∃ t64a t64n t64c, LdQ 33 t62b t62o (.slice t64a t64n t64c) w5 ∧ (∃ t66a t66n t66c w6, (Builtin.append_ #[33, 33] 33 #[(.slice t64a t64n t64c), (.slice t59a t59n t59c)]).run Tryz.prog w5 = .ok (.slice t66a t66n t66c) w6 ∧ (∃ (t67b t67o : Nat), t18_0 = .pointer (some ⟨t67b, t67o, none⟩) ∧ (∃ w7, StQ 33 t67b t67o (.slice t66a t66n t66c) w6 w7 ∧ (I_1 (IntKind.wrap .i64 (x56 + 1)) w7 ∧ μ_1 (IntKind.wrap .i64 (x56 + 1)) w7 < μ_1 x56 w5))))))))) ∧ (decide (x56 < (a2n : Int)) = false → (R (.returned .nilIface) w5))))))))))))))))))))) : Calls Tryz.prog 47 #[(.pointer (some ⟨a0b, a0o, none⟩)), (.string a1), (.slice a2a a2n a2c)] w R := calls_of_ev2 (tc := .sq [.rg 1, .reg (.pp 2 (.op (.cl [.val, .val]) (.pp 5 .nil))), .seq (.reg (.op .p (.op (.ld .bool) .nil))) (.cond (.seq (.rg 2) .leaf) .leaf), .drawS (.tks [0, 1, 2, 4] (.ts 3 (.int .i64) (.go 5 (.cl [.int .i64]) (.tks [6, 7] .nil)))) [], .seq (.rg 3) (.blk (.loop (lr [(6, 1), (9, 1), (11, 1), (33, 14)]) [9, 33] [.int .i64, .int .i64] (.sq [.rg 1, .cond .leaf .leaf, .blk (.sq [.reg (.op .ix (.op (.ld .slice) (.op .p .nil))), .seq (.rg 4) (.cond (.seq (.rg 2) .leaf) .leaf)] (.rg 5))] (.rg 2)))), .sq [.reg (.pp 3 (.op (.cl [.val]) (.op .p .nil))), .reg (.op .p (.op (.ld .bool) .nil))] (.cond (.seq (.rg 2) .leaf) .leaf), .seq (.rg 3) (.blk (.loop (lr [(14, 1), (56, 14)]) [56] [.int .i64] (.sq [.rg 1, .cond .leaf .leaf, .blk (.seq (.reg (.op .ix (.op (.ld .slice) (.op .p .nil)))) (.reg (.pp 2 (.op .nc (.op .p (.op (.ld .slice) (.op .p (.op (.r .slice) (.op .nc (.op .p (.op .u .nil)))))))))))] (.rg 2)))), .rg 1] .leaf) Tryz.func47 (by kernel_rfl) (by kernel_rfl) h

theorem disk_Disk_Sync_vc (a0b : Nat) (a0o : Nat) (a1 : ByteArray) (w : World) (R : Ending → World → Prop) (h : Calls Tryz.prog 53 #[(.pointer (some ⟨a0b, a0o, none⟩)), (.string a1)] w fun e11 w1 => ∃ t11_0 t11_1, e11 = .returned (.tuple #[t11_0, t11_1]) ∧ (∃ t15, (eqlS .neq 36 (.tmp 14) (.const .nilIface) t11_1 .nilIface).run Tryz.prog w1 = .ok (.bool t15) w1 ∧ ((t15 = true → (R (.returned t11_1) w1)) ∧ (t15 = false → (Calls Tryz.prog 82 #[(.pointer (some ⟨a0b, a0o, none⟩))] w1 fun e20 w2 => ∃ t20, e20 = .returned t20 ∧ (∃ t22, (eqlS .neq 36 (.tmp 21) (.const .nilIface) t20 .nilIface).run Tryz.prog w2 = .ok (.bool t22) w2 ∧ ((t22 = true → (R (.returned t20) w2)) ∧ (t22 = false → (∃ (t26b t26o : Nat), t11_0 = .pointer (some ⟨t26b, t26o, none⟩) ∧ (∃ t28a t28n t28c, LdQ 33 t26b t26o (.slice t28a t28n t28c) w2 ∧ (∃ (t30b t30o : Nat), t11_0 = .pointer (some ⟨t30b, t30o, none⟩) ∧ (∃ w3, StQ 3 t30b (t30o + 1) (.int .i64 (t28n : Int)) w2 w3 ∧ (R (.returned .nilIface) w3))))))))))))) : Calls Tryz.prog 48 #[(.pointer (some ⟨a0b, a0o, none⟩)), (.string a1)] w R := calls_of_ev2 (tc := .sq [.rg 1, .reg (.pp 2 (.op (.cl [.val, .val]) (.pp 5 .nil))), .seq (.reg (.op .p (.op (.ld .bool) .nil))) (.cond (.seq (.rg 2) .leaf) .leaf), .sq [.reg (.pp 3 (.op (.cl [.val]) (.op .p .nil))), .reg (.op .p (.op (.ld .bool) .nil))] (.cond (.seq (.rg 2) .leaf) .leaf), .reg (.pp 2 (.op .nc (.op .p (.op (.ld .slice) (.op .p (.op .nc (.op .p (.op .u .nil)))))))), .rg 1] .leaf) Tryz.func48 (by kernel_rfl) (by kernel_rfl) h

theorem disk_dir_make_vc (a0 : Value) (a1 : Array Value) (w : World) (R : Ending → World → Prop) (h : ∃ g3 w1, (Instr.box 123 (.agg a1)).run Tryz.prog w = .ok (.pointer (some ⟨g3, 0, none⟩)) w1 ∧ (∃ t7, (Instr.loadAt 121 (.pointer (some ⟨g3, 0, none⟩))).run Tryz.prog w1 = .ok t7 w1 ∧ (∃ t8, (eqlS .neq 121 (.tmp 7) (.const (.pointer none)) t7 (.pointer none)).run Tryz.prog w1 = .ok (.bool t8) w1 ∧ ((t8 = true → (∃ t11, LdQ 9 g3 2 (.string t11) w1 ∧ (∃ t13, (Instr.loadAt 121 (.pointer (some ⟨g3, 0, none⟩))).run Tryz.prog w1 = .ok t13 w1 ∧ (∃ w2, (Instr.mapUpdate 112 a0 (.string t11) t13).run Tryz.prog w1 = .ok () w2 ∧ (R (.returned (.tuple #[])) w2))))) ∧ (t8 = false → (∃ t17, LdQ 9 g3 1 (.string t17) w1 ∧ (∃ t18_0 t18_1 w3, (Instr.lookup 112 a0 (.string t17) true).run Tryz.prog w1 = .ok (.tuple #[t18_0, (.bool t18_1)]) w3 ∧ (((!t18_1) = true → (R (.returned (.tuple #[])) w3)) ∧ ((!t18_1) = false → (∃ t25, LdQ 9 g3 1 (.string t25) w3 ∧ (∃ tNone w4, (Builtin.delete_ #[112, 9] 0 #[a0, (.string t25)]).run Tryz.prog w3 = .ok tNone w4 ∧ (∃ t27, LdQ 9 g3 2 (.string t27) w4 ∧ (∃ J : World → Prop, (((!(t27.toList == (ByteArray.mk #[]).toList)) = true → (∃ t31, LdQ 9 g3 2 (.string t31) w4 ∧ (∃ w5, (Instr.mapUpdate 112 a0 (.string t31) t18_0).run Tryz.prog w4 = .ok () w5 ∧ (J  w5)))) ∧ ((!(t27.toList == (ByteArray.mk #[]).toList)) = false → (J  w4))) ∧ (∀ w6, J  w6 → (R (.returned (.tuple #[])) w6))))))))))))))) : Calls Tryz.prog 50 #[a0, (.agg a1)] w R := calls_of_ev2 (tc := .sq [.reg (.op .bx .nil), .seq (.reg (.op .p (.op (.ld .val) (.op (.ld .bool) .nil)))) (.cond (.seq (.reg (.pp 2 (.op (.ld .str) (.op .p (.op (.ld .val) (.op .u .nil)))))) .leaf) .leaf), .reg (.pp 2 (.op (.ld .str) (.op (.rt [.val, .bool]) (.pp 5 .nil)))), .seq (.rg 2) (.cond .leaf .leaf), .reg (.pp 2 (.op (.ld .str) (.op (.r .val) .nil))), .reg (.op .p (.op (.ld .str) (.op .p .nil)))] (.join (lr [(29, 4)]) [] [] (.cond (.reg (.pp 2 (.op (.ld .str) (.op .p (.op .u .nil))))) .leaf))) Tryz.func50 (by kernel_rfl) (by kernel_rfl) h

theorem disk_Disk_List_vc (a0b : Nat) (a0o : Nat) (w : World) (R : Ending → World → Prop) (h : ∃ t8, (Instr.loadAt 112 (.pointer (some ⟨a0b, a0o + 6, none⟩))).run Tryz.prog w = .ok t8 w ∧ (Calls Tryz.prog 86 #[t8] w fun e9 w1 => ∃ t9, e9 = .returned t9 ∧ (Calls Tryz.prog 85 #[t9] w1 fun e10 w2 => ∃ t10a t10n t10c, e10 = .returned (.slice t10a t10n t10c) ∧ (R (.returned (.slice t10a t10n t10c)) w2)))) : Calls Tryz.prog 51 #[(.pointer (some ⟨a0b, a0o, none⟩))] w R := calls_of_ev2 (tc := .sq [.rg 1, .seq (.rg 2) (.cf .leaf), .reg (.pp 3 (.op (.ld .val) (.op (.cl [.val]) (.op (.cl [.slice]) (.op .p .nil)))))] .leaf) Tryz.func51 (by kernel_rfl) (by kernel_rfl) h

theorem disk_Disk_Files_vc (a0b : Nat) (a0o : Nat) (w : World) (R : Ending → World → Prop) (h : Calls Tryz.prog 51 #[(.pointer (some ⟨a0b, a0o, none⟩))] w fun e7 w1 => ∃ t7a t7n t7c, e7 = .returned (.slice t7a t7n t7c) ∧ (∃ (I : Option Addr → Nat → Nat → Int → World → Prop) (μ : Option Addr → Nat → Nat → Int → World → Nat), I none 0 0 0 w1 ∧ (∀ x3a x3n x3c x9, ∀ w2, I x3a x3n x3c x9 w2 → ((decide (x9 < (t7n : Int)) = true → (∃ t11b t11o, t7a = some ⟨t11b, t11o, none⟩ ∧ 0 ≤ x9 ∧ x9 < (t7n : Int) ∧ (∃ t12, LdQ 9 t11b (t11o + Int.toNat x9 * 1) (.string t12) w2 ∧ (∃ t18, (Instr.loadAt 112 (.pointer (some ⟨a0b, a0o + 6, none⟩))).run Tryz.prog w2 = .ok t18 w2 ∧ (∃ t20b t20o, (Instr.lookup 112 t18 (.string t12) false).run Tryz.prog w2 = .ok (.pointer (some ⟨t20b, t20o, none⟩)) w2 ∧ (∃ t23a t23n t23c, LdQ 33 t20b t20o (.slice t23a t23n t23c) w2 ∧ (Calls Tryz.prog 54 #[(.slice t23a t23n t23c)] w2 fun e24 w3 => ∃ t24a t24n t24c, e24 = .returned (.slice t24a t24n t24c) ∧ (∃ t25, (Instr.build 146 #[(0, (.string t12)), (1, (.slice t24a t24n t24c))]).run Tryz.prog w3 = .ok (.agg t25) w3 ∧ (∃ t26a t26n t26c w4, (Instr.buildSlice 91 1 #[(0, (.agg t25))]).run Tryz.prog w3 = .ok (.slice t26a t26n t26c) w4 ∧ (∃ t27a t27n t27c w5, (Builtin.append_ #[91, 91] 91 #[(.slice x3a x3n x3c), (.slice t26a t26n t26c)]).run Tryz.prog w4 = .ok (.slice t27a t27n t27c) w5 ∧ (I t27a t27n t27c (IntKind.wrap .i64 (x9 + 1)) w5 ∧ μ t27a t27n t27c (IntKind.wrap .i64 (x9 + 1)) w5 < μ x3a x3n x3c x9 w2))))))))))) ∧ (decide (x9 < (t7n : Int)) = false → (R (.returned (.slice x3a x3n x3c)) w2)))))) : Calls Tryz.prog 32 #[(.pointer (some ⟨a0b, a0o, none⟩))] w R := calls_of_ev2 (tc := .sq [.rg 1, .rg 1, .seq (.reg (.op .p (.op (.cl [.slice]) (.pp 2 .nil)))) (.blk (.loop (lr [(3, 1), (5, 1), (9, 20)]) [3, 9] [.slice, .int .i64] (.sq [.rg 1, .cond .leaf .leaf, .blk (.seq (.reg (.op .ix (.op (.ld .str) (.op .p .nil)))) (.reg (.pp 5 (.op (.ld .val) (.op .p (.op (.ld .ptr) (.pp 2 (.op (.ld .slice) (.op (.cl [.slice]) (.op (.ld .agg) (.op (.r .slice) (.op (.r .slice) (.op .p .nil)))))))))))))] (.rg 2)))), .rg 2] .leaf) Tryz.func32 (by kernel_rfl) (by kernel_rfl) h

theorem disk_Disk_Used_vc (a0b : Nat) (a0o : Nat) (w : World) (R : Ending → World → Prop) (h : ∃ t11, (Instr.loadAt 112 (.pointer (some ⟨a0b, a0o + 6, none⟩))).run Tryz.prog w = .ok t11 w ∧ (∃ t12 w1, (Instr.range 112 t11).run Tryz.prog w = .ok t12 w1 ∧ (∃ (I : Int → World → Prop) (μ : Int → World → Nat), I 0 w1 ∧ (∀ x3, ∀ w2, I x3 w2 → (∃ (t13b : Bool) (t13r : List Value) (w3 : World), (Instr.next t12 false 0).run Tryz.prog w2 = .ok (.tuple ⟨.bool t13b :: t13r⟩) w3 ∧ ((t13b = true → (∃ t15_0 t15_1b t15_1o w4, (Instr.entry t12).run Tryz.prog w3 = .ok (.tuple #[t15_0, (.pointer (some ⟨t15_1b, t15_1o, none⟩))]) w4 ∧ (∃ t21a t21n t21c, LdQ 33 t15_1b t15_1o (.slice t21a t21n t21c) w4 ∧ (I (IntKind.wrap .i64 (x3 + (t21n : Int))) w4 ∧ μ (IntKind.wrap .i64 (x3 + (t21n : Int))) w4 < μ x3 w2)))) ∧ (t13b = false → (R (.returned (.int .i64 x3)) w3)))))))) : Calls Tryz.prog 83 #[(.pointer (some ⟨a0b, a0o, none⟩))] w R := calls_of_ev2 (tc := .sq [.rg 1, .seq (.rg 2) (.cf .leaf), .rg 1, .seq (.reg (.pp 3 (.op (.ld .val) (.op (.r .val) .nil)))) (.blk (.loop (lr [(3, 1), (5, 1), (13, 11)]) [3] [.int .i64] (.sq [.reg (.op .nx (.op .p .nil)), .cond .leaf .leaf] (.blk (.seq (.reg (.op (.rt [.val, .ptr]) (.pp 2 .nil))) (.reg (.pp 4 (.op (.ld .slice) (.pp 3 .nil))))))))), .rg 2] .leaf) Tryz.func83 (by kernel_rfl) (by kernel_rfl) h

theorem disk_Disk_Steps_vc (a0b : Nat) (a0o : Nat) (w : World) (R : Ending → World → Prop) (h : ∃ t9, LdQ 3 a0b a0o (.int .i64 t9) w ∧ (R (.returned (.int .i64 t9)) w)) : Calls Tryz.prog 34 #[(.pointer (some ⟨a0b, a0o, none⟩))] w R := calls_of_ev2 (tc := .sq [.rg 1, .seq (.rg 2) (.cf .leaf), .reg (.pp 4 (.op (.ld (.int .i64)) (.op .p .nil)))] .leaf) Tryz.func34 (by kernel_rfl) (by kernel_rfl) h

theorem disk_Disk_Arm_vc (a0b : Nat) (a0o : Nat) (a1 : Int) (w : World) (R : Ending → World → Prop) (h : (decide (a1 < (0 : Int)) = true → (R (.returned (.iface 69 (.int .i64 7))) w)) ∧ (decide (a1 < (0 : Int)) = false → (∃ w1, StQ 4 a0b (a0o + 2) (.bool true) w w1 ∧ (∃ w2, StQ 3 a0b (a0o + 3) (.int .i64 a1) w1 w2 ∧ (R (.returned .nilIface) w2))))) : Calls Tryz.prog 22 #[(.pointer (some ⟨a0b, a0o, none⟩)), (.int .i64 a1)] w R := calls_of_ev2 (tc := .sq [.rg 1, .seq (.rg 2) (.cf .leaf), .seq (.rg 2) (.cond (.seq (.rg 2) .leaf) .leaf), .reg (.pp 6 (.op .u (.pp 3 (.op .u .nil)))), .rg 1] .leaf) Tryz.func22 (by kernel_rfl) (by kernel_rfl) h

theorem disk_Disk_Fail_vc (a0b : Nat) (a0o : Nat) (a1a : Option Addr) (a1n : Nat) (a1c : Nat) (w : World) (R : Ending → World → Prop) (h : Calls Tryz.prog 61 #[(.slice a1a a1n a1c), (.func (.func 62) #[] #[])] w fun e9 w1 => ∃ t9, e9 = .returned (.bool t9) ∧ ((t9 = true → (R (.returned (.iface 69 (.int .i64 7))) w1)) ∧ (t9 = false → (Calls Tryz.prog 63 #[(.slice a1a a1n a1c)] w1 fun e13 w2 => ∃ t13a t13n t13c, e13 = .returned (.slice t13a t13n t13c) ∧ (∃ w3, StQ 53 a0b (a0o + 4) (.slice t13a t13n t13c) w2 w3 ∧ (R (.returned .nilIface) w3)))))) : Calls Tryz.prog 29 #[(.pointer (some ⟨a0b, a0o, none⟩)), (.slice a1a a1n a1c)] w R := calls_of_ev2 (tc := .sq [.rg 1, .seq (.rg 2) (.cf .leaf), .seq (.reg (.op .p (.op (.cl [.bool]) .nil))) (.cond (.seq (.rg 2) .leaf) .leaf), .reg (.pp 2 (.op (.cl [.slice]) (.pp 3 (.op .u .nil)))), .rg 1] .leaf) Tryz.func29 (by kernel_rfl) (by kernel_rfl) h

theorem disk_Disk_Fail_1_vc (a0 : Int) (w : World) (R : Ending → World → Prop) (h : R (.returned (.bool (decide (a0 < (0 : Int))))) w) : Calls Tryz.prog 62 #[(.int .i64 a0)] w R := calls_of_ev2 (tc := .sq [.rg 1, .rg 3] .leaf) Tryz.func62 (by kernel_rfl) (by kernel_rfl) h

theorem disk_Disk_settle_vc (a0b : Nat) (a0o : Nat) (w : World) (R : Ending → World → Prop) (h : ∃ t7, (Instr.loadAt 112 (.pointer (some ⟨a0b, a0o + 6, none⟩))).run Tryz.prog w = .ok t7 w ∧ (∃ t8 w1, (Instr.range 112 t7).run Tryz.prog w = .ok t8 w1 ∧ (∃ (I : World → Prop) (μ : World → Nat), I  w1 ∧ (∀ w2, I  w2 → (∃ (t9b : Bool) (t9r : List Value) (w3 : World), (Instr.next t8 false 0).run Tryz.prog w2 = .ok (.tuple ⟨.bool t9b :: t9r⟩) w3 ∧ ((t9b = true → (∃ t11_0 t11_1b t11_1o w4, (Instr.entry t8).run Tryz.prog w3 = .ok (.tuple #[t11_0, (.pointer (some ⟨t11_1b, t11_1o, none⟩))]) w4 ∧ (∃ t17a t17n t17c, LdQ 33 t11_1b t11_1o (.slice t17a t17n t17c) w4 ∧ (∃ w5, StQ 3 t11_1b (t11_1o + 1) (.int .i64 (t17n : Int)) w4 w5 ∧ (I  w5 ∧ μ  w5 < μ  w2))))) ∧ (t9b = false → (∃ t25, (Instr.loadAt 112 (.pointer (some ⟨a0b, a0o + 6, none⟩))).run Tryz.prog w3 = .ok t25 w3 ∧ (Calls Tryz.prog 49 #[t25] w3 fun e26 w6 => ∃ t26, e26 = .returned t26 ∧ (∃ w7, (Instr.storeAt 112 (.pointer (some ⟨a0b, a0o + 7, none⟩)) t26).run Tryz.prog w6 = .ok () w7 ∧ (∃ w8, StQ 115 a0b (a0o + 8) (.slice none 0 0) w7 w8 ∧ (R (.returned (.tuple #[])) w8)))))))))))) : Calls Tryz.prog 52 #[(.pointer (some ⟨a0b, a0o, none⟩))] w R := calls_of_ev2 (tc := .sq [.seq (.reg (.pp 3 (.op (.ld .val) (.op (.r .val) .nil)))) (.blk (.loop (lr [(3, 1), (9, 12)]) [] [] (.sq [.reg (.op .nx (.op .p .nil)), .cond .leaf .leaf] (.blk (.seq (.reg (.op (.rt [.val, .ptr]) (.pp 2 .nil))) (.reg (.pp 4 (.op (.ld .slice) (.pp 3 (.op .u .nil)))))))))), .reg (.pp 4 (.op (.ld .val) (.op (.cl [.val]) (.pp 2 (.op .u .nil)))))] (.reg (.pp 3 (.op .u .nil)))) Tryz.func52 (by kernel_rfl) (by kernel_rfl) h

theorem disk_Disk_Crash_vc (a0b : Nat) (a0o : Nat) (a1 : Array Value) (w : World) (R : Ending → World → Prop) (h : ∃ g3 w1, (Instr.box 55 (.agg a1)).run Tryz.prog w = .ok (.pointer (some ⟨g3, 0, none⟩)) w1 ∧ (∃ t16, (Instr.loadAt 112 (.pointer (some ⟨a0b, a0o + 7, none⟩))).run Tryz.prog w1 = .ok t16 w1 ∧ (Calls Tryz.prog 49 #[t16] w1 fun e17 w2 => ∃ t17, e17 = .returned t17 ∧ (∃ w3, (Instr.storeAt 112 (.pointer (some ⟨a0b, a0o + 6, none⟩)) t17).run Tryz.prog w2 = .ok () w3 ∧ (∃ S : World → Prop, S w3.drew ∧ (∃ t23a t23n t23c, (∀ w', S w' → LdQ 115 a0b (a0o + 8) (.slice t23a t23n t23c) w') ∧ (∃ t25, (∀ w', S w' → LdQ 3 g3 0 (.int .i64 t25) w') ∧ (∃ t30a t30n t30c, (∀ w', S w' → LdQ 115 a0b (a0o + 8) (.slice t30a t30n t30c) w') ∧ (0 ≤ (if (t30n : Int) < (if t25 < (0 : Int) then (0 : Int) else t25) then (t30n : Int) else (if t25 < (0 : Int) then (0 : Int) else t25)) ∧ (if (t30n : Int) < (if t25 < (0 : Int) then (0 : Int) else t25) then (t30n : Int) else (if t25 < (0 : Int) then (0 : Int) else t25)) ≤ (t23c : Int) ∧ (∃ (I : Int → World → Prop) (μ : Int → World → Nat), I 0 w3.drew ∧ (∀ x35, ∀ w4, I x35 w4 → (((decide (x35 < (((Int.toNat (if (t30n : Int) < (if t25 < (0 : Int) then (0 : Int) else t25) then (t30n : Int) else (if t25 < (0 : Int) then (0 : Int) else t25))) : Nat) : Int))) = true → (∃ t37b t37o, t23a = some ⟨t37b, t37o, none⟩ ∧ 0 ≤ x35 ∧ x35 < (((Int.toNat (if (t30n : Int) < (if t25 < (0 : Int) then (0 : Int) else t25) then (t30n : Int) else (if t25 < (0 : Int) then (0 : Int) else t25))) : Nat) : Int) ∧ (∃ t38, LdQ 123 t37b (t37o + Int.toNat x35 * 3) (.agg t38) w4 ∧ (∃ g5 w5, AlQ 123 g5 w4 w5 ∧ (∃ w6, StQ 123 g5 0 (.agg t38) w5 w6 ∧ (∃ S_1 : World → Prop, S_1 w6.drew ∧ (∃ t42, (∀ w', S_1 w' → (Instr.loadAt 112 (.pointer (some ⟨a0b, a0o + 6, none⟩))).run Tryz.prog w' = .ok t42 w') ∧ (∃ t43, (∀ w', S_1 w' → LdQ 123 g5 0 (.agg t43) w') ∧ (Calls Tryz.prog 50 #[t42, (.agg t43)] w6.drew fun e44 w7 => e44 = .returned (.tuple #[]) ∧ (∃ S_2 : World → Prop, (∀ w', S_2 w' → S_1 w') ∧ S_2 w7 ∧ (I (IntKind.wrap .i64 (x35 + 1)) w7 ∧ μ (IntKind.wrap .i64 (x35 + 1)) w7 < μ x35 w4))))))))))) ∧ ((decide (x35 < (((Int.toNat (if (t30n : Int) < (if t25 < (0 : Int) then (0 : Int) else t25) then (t30n : Int) else (if t25 < (0 : Int) then (0 : Int) else t25))) : Nat) : Int))) = false → (Calls Tryz.prog 51 #[(.pointer (some ⟨a0b, a0o, none⟩))] w4 fun e47 w8 => ∃ t47a t47n t47c, e47 = .returned (.slice t47a t47n t47c) ∧ (∃ (I_1 : Int → World → Prop) (μ_1 : Int → World → Nat), I_1 0 w8 ∧ (∀ x49, ∀ w9, I_1 x49 w9 → ((decide (x49 < (t47n : Int)) = true → (∃ t52b t52o, t47a = some ⟨t52b, t52o, none⟩ ∧ 0 ≤ x49 ∧ x49 < (t47n : Int) ∧ (∃ t53, LdQ 9 t52b (t52o + Int.toNat x49 * 1) (.string t53) w9 ∧ (∃ t57, (Instr.loadAt 112 (.pointer (some ⟨a0b, a0o + 6, none⟩))).run Tryz.prog w9 = .ok t57 w9 ∧ (∃ t59b t59o, (Instr.lookup 112 t57 (.string t53) false).run Tryz.prog w9 = .ok (.pointer (some ⟨t59b, t59o, none⟩)) w9 ∧ (∃ t62a t62n t62c, LdQ 53 g3 1 (.slice t62a t62n t62c) w9 ∧ (∃ J : Int → World → Prop, ((decide (x49 < (t62n : Int)) = true → (∃ t66a t66n t66c, LdQ 53 g3 1 (.slice t66a t66n t66c) w9 ∧ (∃ t68b t68o, t66a = some ⟨t68b, t68o, none⟩ ∧ 0 ≤ x49 ∧ x49 < (t66n : Int) ∧ (∃ t69, LdQ 3 t68b (t68o + Int.toNat x49 * 1) (.int .i64 t69) w9 ∧ (J (if t69 < (0 : Int) then (0 : Int) else t69) w9))))) ∧ (decide (x49 < (t62n : Int)) = false → (J 0 w9))) ∧ (∀ x9, ∀ w10, J x9 w10 → (∃ S_1 : World → Prop, S_1 w10.drew ∧ (∃ t75a t75n t75c, (∀ w', S_1 w' → LdQ 33 t59b t59o (.slice t75a t75n t75c) w') ∧ (∃ t79, (∀ w', S_1 w' → LdQ 3 t59b (t59o + 1) (.int .i64 t79) w') ∧ (∃ t84a t84n t84c, (∀ w', S_1 w' → LdQ 33 t59b t59o (.slice t84a t84n t84c) w') ∧ (∃ t89, (∀ w', S_1 w' → LdQ 3 t59b (t59o + 1) (.int .i64 t89) w') ∧ (0 ≤ (IntKind.wrap .i64 (t79 + (if (IntKind.wrap .i64 ((t84n : Int) - t89)) < x9 then (IntKind.wrap .i64 ((t84n : Int) - t89)) else x9))) ∧ (IntKind.wrap .i64 (t79 + (if (IntKind.wrap .i64 ((t84n : Int) - t89)) < x9 then (IntKind.wrap .i64 ((t84n : Int) - t89)) else x9))) ≤ (t75c : Int) ∧ (∃ w11, (Instr.storeAt 33 (.pointer (some ⟨t59b, t59o, none⟩)) (.slice t75a (Int.toNat (IntKind.wrap .i64 (t79 + (if (IntKind.wrap .i64 ((t84n : Int) - t89)) < x9 then (IntKind.wrap .i64 ((t84n : Int) - t89)) else x9)))) t75c)).run Tryz.prog w10.drew = .ok () w11 ∧ (I_1 (IntKind.wrap .i64 (x49 + 1)) w11 ∧ μ_1 (IntKind.wrap .i64 (x49 + 1)) w11 < μ_1 x49 w9)))))))))))))))) ∧ (decide (x49 < (t47n : Int)) = false → (Calls Tryz.prog 52 #[(.pointer (some ⟨a0b, a0o, none⟩))] w9 fun e98 w12 => e98 = .returned (.tuple #[]) ∧ (∃ t104, LdQ 3 a0b a0o (.int .i64 t104) w12 ∧ (∃ t105, (Instr.build 114 #[(0, (.int .i64 t104))]).run Tryz.prog w12 = .ok (.agg t105) w12 ∧ (∃ w13, StQ 114 a0b a0o (.agg t105) w12 w13 ∧ (R (.returned (.tuple #[])) w13))))))))))))))))))))))) : Calls Tryz.prog 24 #[(.pointer (some ⟨a0b, a0o, none⟩)), (.agg a1)] w R := calls_of_ev2 (tc := .sq [.reg (.op .bx .nil), .seq (.rg 2) (.cf .leaf), .reg (.pp 4 (.op (.ld .val) (.op (.cl [.val]) (.pp 2 (.op .u .nil))))), .seq (.drawS (.tks [0, 1, 2, 4, 7, 8, 9, 15] (.ts 3 .slice (.ts 5 (.int .i64) (.tk 6 .p (.ts 10 .slice (.tks [11, 12] (.tk 13 .sl (.tk 14 .p .nil)))))))) []) (.blk (.loop (lr [(5, 1), (35, 11)]) [35] [.int .i64] (.sq [.rg 1, .cond .leaf .leaf, .blk (.seq (.reg (.op .ix (.op (.ld .agg) (.op .bx (.op .u .nil))))) (.drawS (.tks [0, 1, 2] (.ts 3 .val (.ts 4 .agg (.go 5 (.cl []) .nil)))) []))] (.rg 2)))), .seq (.reg (.op .p (.op (.cl [.slice]) (.pp 2 .nil)))) (.blk (.loop (lr [(6, 4), (49, 48)]) [49] [.int .i64] (.sq [.rg 1, .cond .leaf .leaf, .blk (.sq [.reg (.op .p (.op .ix (.op (.ld .str) (.pp 2 .nil)))), .reg (.pp 3 (.op (.ld .val) (.op .p (.op (.ld .ptr) (.pp 2 .nil))))), .seq (.reg (.pp 2 (.op (.ld .slice) (.pp 2 .nil)))) (.join (lr [(9, 1), (65, 6)]) [9] [.int .i64] (.cond (.reg (.op .p (.op (.ld .slice) (.op .p (.op .ix (.op (.ld (.int .i64)) (.pp 2 .nil))))))) .leaf))] (.drawS (.tks (lr [(0, 4), (5, 3), (9, 4), (15, 3)]) (.ts 4 .slice (.ts 8 (.int .i64) (.ts 13 .slice (.tk 14 .p (.ts 18 (.int .i64) (.tks [19, 20, 21] (.tk 22 .sl (.tks [23, 24] (.go 25 .u .nil)))))))))) [25]))] (.rg 2)))), .reg (.op .p (.op (.cl []) .nil))] (.reg (.pp 5 (.op (.ld (.int .i64)) (.op (.ld .agg) (.pp 2 (.op .u .nil))))))) Tryz.func24 (by kernel_rfl) (by kernel_rfl) h

theorem slices_Clone_int_int_vc (a0a : Option Addr) (a0n : Nat) (a0c : Nat) (w : World) (R : Ending → World → Prop) (h : (a0a.isNone = true → (R (.returned (.slice none 0 0)) w)) ∧ (a0a.isNone = false → (∃ t5a t5n t5c w1, (Instr.buildSlice 53 0 #[]).run Tryz.prog w = .ok (.slice t5a t5n t5c) w1 ∧ (∃ t7a t7n t7c w2, (Builtin.append_ #[53, 53] 53 #[(.slice t5a t5n t5c), (.slice a0a a0n a0c)]).run Tryz.prog w1 = .ok (.slice t7a t7n t7c) w2 ∧ (R (.returned (.slice t7a t7n t7c)) w2))))) : Calls Tryz.prog 63 #[(.slice a0a a0n a0c)] w R := calls_of_ev2 (tc := .sq [.rg 1, .seq (.rg 2) (.cond (.seq (.rg 1) .leaf) .leaf), .reg (.op (.r .slice) (.op .p (.op (.r .slice) (.op .p .nil))))] .leaf) Tryz.func63 (by kernel_rfl) (by kernel_rfl) h

theorem slices_ContainsFunc_int_int_vc (a0a : Option Addr) (a0n : Nat) (a0c : Nat) (a1 : Value) (w : World) (R : Ending → World → Prop) (h : Calls Tryz.prog 94 #[(.slice a0a a0n a0c), a1] w fun e7 w1 => ∃ t7, e7 = .returned (.int .i64 t7) ∧ (R (.returned (.bool (decide (t7 ≥ (0 : Int))))) w1)) : Calls Tryz.prog 61 #[(.slice a0a a0n a0c), a1] w R := calls_of_ev2 (tc := .sq [.rg 1, .reg (.pp 2 (.op (.cl [.int .i64]) (.pp 2 .nil)))] .leaf) Tryz.func61 (by kernel_rfl) (by kernel_rfl) h

theorem slices_IndexFunc_int_int_vc (a0a : Option Addr) (a0n : Nat) (a0c : Nat) (a1 : Value) (w : World) (R : Ending → World → Prop) (h : ∃ (I : Int → World → Prop) (μ : Int → World → Nat), I 0 w ∧ (∀ x8, ∀ w1, I x8 w1 → ((decide (x8 < (a0n : Int)) = true → (∃ t14b t14o, a0a = some ⟨t14b, t14o, none⟩ ∧ 0 ≤ x8 ∧ x8 < (a0n : Int) ∧ (∃ t15, LdQ 3 t14b (t14o + Int.toNat x8 * 1) (.int .i64 t15) w1 ∧ (∃ (f16 : Nat) (cb16 : List Value), a1 = .func (.func f16) #[] ⟨cb16⟩ ∧ goesIn Tryz.prog f16 = true ∧ Calls Tryz.prog f16 (([(.int .i64 t15)] : List Value) ++ cb16).toArray w1 fun e16 w2 => ∃ t16, e16 = .returned (.bool t16) ∧ ((t16 = true → (R (.returned (.int .i64 x8)) w2)) ∧ (t16 = false → (I (IntKind.wrap .i64 (x8 + 1)) w2 ∧ μ (IntKind.wrap .i64 (x8 + 1)) w2 < μ x8 w1))))))) ∧ (decide (x8 < (a0n : Int)) = false → (R (.returned (.int .i64 (-1))) w1))))) : Calls Tryz.prog 94 #[(.slice a0a a0n a0c), a1] w R := calls_of_ev2 (tc := .sq [.rg 1, .seq (.rg 3) (.blk (.loop (lr [(4, 2), (8, 11)]) [8] [.int .i64] (.sq [.rg 1, .cond .leaf .leaf, .blk (.sq [.rg 2, .reg (.pp 3 (.op .ix (.op (.ld (.int .i64)) (.op (.cv [.bool]) .nil))))] (.cond (.seq (.rg 2) .leaf) .leaf))] (.rg 2)))), .rg 1] .leaf) Tryz.func94 (by kernel_rfl) (by kernel_rfl) h

theorem maps_Clone_disk_dir_string_disk_file_vc (a0 : Value) (w : World) (R : Ending → World → Prop) (h : ∃ t4, (eqlS .eql 112 (.tmp 3) (.const (.map none)) a0 (.map none)).run Tryz.prog w = .ok (.bool t4) w ∧ ((t4 = true → (R (.returned (.map none)) w)) ∧ (t4 = false → (∃ t7 w1, (callFunc 84 #[(.iface 112 a0)]).run Tryz.prog w = .ok (.value t7) w1 ∧ (∃ t8, (Instr.typeAssert t7 20 112 false).run Tryz.prog w1 = .ok t8 w1 ∧ (R (.returned t8) w1)))))) : Calls Tryz.prog 49 #[a0] w R := calls_of_ev2 (tc := .sq [.rg 1, .seq (.reg (.op .p (.op (.ld .bool) .nil))) (.cond (.seq (.rg 1) .leaf) .leaf), .reg (.pp 2 (.op (.cx .val) (.op (.ld .val) (.op .p .nil))))] .leaf) Tryz.func49 (by kernel_rfl) (by kernel_rfl) h

end Go.Proofs.YtmdandkoajocpaaGreatDoor
end

section
namespace Go.Proofs.YtmdandkoajocpaaGreatDoor
open Go.Shelf
def keysD_ren : Go.Shelf.Ren := ⟨fun | 7 => 86 | 10 => 117 | n => n, fun | 23 => 112 | 26 => 9 | 3 => 121 | 28 => 169 | 0 => 0 | 27 => 168 | 33 => 196 | 4 => 4 | n => n, fun | n => n⟩
theorem keysD : Go.Proofs.SlLaysZ.n7 Tryz.prog keysD_ren := {
 mixed := by kernel_rfl
 f7 := ⟨Tryz.f86.name, by decide, Tryz.func86.trans (congrArg some (by kernel_rfl))⟩
 f10 := ⟨Tryz.f117.name, by decide, Tryz.func117.trans (congrArg some (by kernel_rfl))⟩
 t0 := Tryz.underlying0
 a0 := Tryz.isAgg0
 z0 := Tryz.sizeOf0
 v0 := Tryz.zeroValue0
 t4 := Tryz.underlying4
 a4 := Tryz.isAgg4
 z4 := Tryz.sizeOf4
 v4 := Tryz.zeroValue4
 t23 := Tryz.underlying112
 a23 := Tryz.isAgg112
 z23 := Tryz.sizeOf112
 v23 := Tryz.zeroValue112
 t26 := Tryz.underlying9
 a26 := Tryz.isAgg9
 z26 := Tryz.sizeOf9
 v26 := Tryz.zeroValue9
 t27 := Tryz.underlying168
 a27 := Tryz.isAgg168
 z27 := Tryz.sizeOf168
 v27 := Tryz.zeroValue168
 t28 := Tryz.underlying169
 a28 := Tryz.isAgg169
 z28 := Tryz.sizeOf169
 v28 := Tryz.zeroValue169
 t33 := Tryz.underlying196
 a33 := Tryz.isAgg196
 z33 := Tryz.sizeOf196
 v33 := Tryz.zeroValue196 }
def sortedD_ren : Go.Shelf.Ren := ⟨fun | 6 => 85 | 8 => 115 | 9 => 116 | 11 => 135 | 13 => 137 | 12 => 136 | 23 => 165 | 24 => 152 | 14 => 156 | 15 => 157 | 16 => 158 | 17 => 159 | 18 => 160 | 19 => 161 | 20 => 162 | 21 => 163 | 22 => 164 | 25 => 175 | 26 => 176 | 27 => 177 | 28 => 178 | 29 => 179 | 30 => 180 | 31 => 186 | n => n, fun | 26 => 9 | 28 => 169 | 24 => 125 | 0 => 0 | 3 => 3 | 37 => 199 | 48 => 209 | 50 => 177 | 4 => 4 | 40 => 248 | 39 => 247 | 45 => 48 | 5 => 5 | 9 => 9 | 51 => 261 | 55 => 265 | 57 => 275 | 58 => 179 | 33 => 196 | n => n, fun | n => n⟩
theorem sortedD : Go.Proofs.SlLaysZ.n6 Tryz.prog sortedD_ren := {
 mixed := by kernel_rfl
 f6 := ⟨Tryz.f85.name, by decide, Tryz.func85.trans (congrArg some (by kernel_rfl))⟩
 f8 := ⟨Tryz.f115.name, by decide, Tryz.func115.trans (congrArg some (by kernel_rfl))⟩
 f11 := ⟨Tryz.f135.name, by decide, Tryz.func135.trans (congrArg some (by kernel_rfl))⟩
 t0 := Tryz.underlying0
 a0 := Tryz.isAgg0
 z0 := Tryz.sizeOf0
 v0 := Tryz.zeroValue0
 t24 := Tryz.underlying125
 a24 := Tryz.isAgg125
 z24 := Tryz.sizeOf125
 v24 := Tryz.zeroValue125
 t26 := Tryz.underlying9
 a26 := Tryz.isAgg9
 z26 := Tryz.sizeOf9
 v26 := Tryz.zeroValue9
 t28 := Tryz.underlying169
 a28 := Tryz.isAgg169
 z28 := Tryz.sizeOf169
 v28 := Tryz.zeroValue169
 i26 := by kernel_rfl }
def sortD_ren : Go.Shelf.Ren := ⟨fun | 6 => 116 | 8 => 137 | 9 => 136 | 19 => 165 | 20 => 152 | 21 => 156 | 22 => 157 | 23 => 158 | 24 => 159 | 25 => 160 | 26 => 161 | 27 => 162 | 28 => 163 | 29 => 164 | 36 => 175 | 31 => 176 | 32 => 177 | 37 => 178 | 38 => 179 | 39 => 180 | 41 => 186 | n => n, fun | 27 => 125 | 29 => 9 | 3 => 3 | 32 => 199 | 26 => 125 | 0 => 0 | 44 => 209 | 46 => 177 | 4 => 4 | 36 => 248 | 35 => 247 | 41 => 48 | 5 => 5 | 9 => 9 | 53 => 261 | 57 => 265 | 63 => 275 | 64 => 179 | n => n, fun | n => n⟩
theorem sortD : Go.Proofs.SlLaysM.n6 Tryz.prog sortD_ren := {
 mixed := by kernel_rfl
 f6 := ⟨Tryz.f116.name, by decide, Tryz.func116.trans (congrArg some (by kernel_rfl))⟩
 f8 := Tryz.func137.trans (congrArg some (by kernel_rfl))
 f9 := ⟨Tryz.f136.name, by decide, Tryz.func136.trans (congrArg some (by kernel_rfl))⟩
 f19 := Tryz.func165.trans (congrArg some (by kernel_rfl))
 f20 := Tryz.func152.trans (congrArg some (by kernel_rfl))
 f21 := ⟨Tryz.f156.name, by decide, Tryz.func156.trans (congrArg some (by kernel_rfl))⟩
 f22 := ⟨Tryz.f157.name, by decide, Tryz.func157.trans (congrArg some (by kernel_rfl))⟩
 f23 := ⟨Tryz.f158.name, by decide, Tryz.func158.trans (congrArg some (by kernel_rfl))⟩
 f24 := ⟨Tryz.f159.name, by decide, Tryz.func159.trans (congrArg some (by kernel_rfl))⟩
 f25 := ⟨Tryz.f160.name, by decide, Tryz.func160.trans (congrArg some (by kernel_rfl))⟩
 f26 := ⟨Tryz.f161.name, by decide, Tryz.func161.trans (congrArg some (by kernel_rfl))⟩
 f27 := ⟨Tryz.f162.name, by decide, Tryz.func162.trans (congrArg some (by kernel_rfl))⟩
 f28 := ⟨Tryz.f163.name, by decide, Tryz.func163.trans (congrArg some (by kernel_rfl))⟩
 f29 := ⟨Tryz.f164.name, by decide, Tryz.func164.trans (congrArg some (by kernel_rfl))⟩
 f31 := Tryz.func176.trans (congrArg some (by kernel_rfl))
 f32 := Tryz.func177.trans (congrArg some (by kernel_rfl))
 f36 := ⟨Tryz.f175.name, by decide, Tryz.func175.trans (congrArg some (by kernel_rfl))⟩
 f37 := ⟨Tryz.f178.name, by decide, Tryz.func178.trans (congrArg some (by kernel_rfl))⟩
 f38 := ⟨Tryz.f179.name, by decide, Tryz.func179.trans (congrArg some (by kernel_rfl))⟩
 f39 := ⟨Tryz.f180.name, by decide, Tryz.func180.trans (congrArg some (by kernel_rfl))⟩
 f41 := ⟨Tryz.f186.name, by decide, Tryz.func186.trans (congrArg some (by kernel_rfl))⟩
 t0 := Tryz.underlying0
 a0 := Tryz.isAgg0
 z0 := Tryz.sizeOf0
 v0 := Tryz.zeroValue0
 t3 := Tryz.underlying3
 a3 := Tryz.isAgg3
 z3 := Tryz.sizeOf3
 v3 := Tryz.zeroValue3
 t4 := Tryz.underlying4
 a4 := Tryz.isAgg4
 z4 := Tryz.sizeOf4
 v4 := Tryz.zeroValue4
 t5 := Tryz.underlying5
 a5 := Tryz.isAgg5
 z5 := Tryz.sizeOf5
 v5 := Tryz.zeroValue5
 t9 := Tryz.underlying9
 a9 := Tryz.isAgg9
 z9 := Tryz.sizeOf9
 v9 := Tryz.zeroValue9
 t26 := Tryz.underlying125
 a26 := Tryz.isAgg125
 z26 := Tryz.sizeOf125
 v26 := Tryz.zeroValue125
 t27 := Tryz.underlying125
 a27 := Tryz.isAgg125
 z27 := Tryz.sizeOf125
 v27 := Tryz.zeroValue125
 t29 := Tryz.underlying9
 a29 := Tryz.isAgg9
 z29 := Tryz.sizeOf9
 v29 := Tryz.zeroValue9
 t32 := Tryz.underlying199
 a32 := Tryz.isAgg199
 z32 := Tryz.sizeOf199
 v32 := Tryz.zeroValue199
 t35 := Tryz.underlying247
 a35 := Tryz.isAgg247
 z35 := Tryz.sizeOf247
 v35 := Tryz.zeroValue247
 t36 := Tryz.underlying248
 a36 := Tryz.isAgg248
 z36 := Tryz.sizeOf248
 v36 := Tryz.zeroValue248
 t41 := Tryz.underlying48
 a41 := Tryz.isAgg48
 z41 := Tryz.sizeOf48
 v41 := Tryz.zeroValue48
 t44 := Tryz.underlying209
 a44 := Tryz.isAgg209
 z44 := Tryz.sizeOf209
 v44 := Tryz.zeroValue209
 t46 := Tryz.underlying177
 a46 := Tryz.isAgg177
 z46 := Tryz.sizeOf177
 v46 := Tryz.zeroValue177
 t53 := Tryz.underlying261
 a53 := Tryz.isAgg261
 z53 := Tryz.sizeOf261
 v53 := Tryz.zeroValue261
 t57 := Tryz.underlying265
 a57 := Tryz.isAgg265
 z57 := Tryz.sizeOf265
 v57 := Tryz.zeroValue265
 t63 := Tryz.underlying275
 a63 := Tryz.isAgg275
 z63 := Tryz.sizeOf275
 v63 := Tryz.zeroValue275
 t64 := Tryz.underlying179
 a64 := Tryz.isAgg179
 z64 := Tryz.sizeOf179
 v64 := Tryz.zeroValue179 }
end Go.Proofs.YtmdandkoajocpaaGreatDoor
end

section
namespace Go.Proofs.YtmdandkoajocpaaGreatDoor
open Go Sx
set_option maxRecDepth 8000

abbrev Nm := List UInt8
structure Ent where
 name : Nm
 file : Nat
abbrev Dir := List Ent
structure ChM where
 made : Option Nat
 fr : Nm
 to : Nm
structure FileM where
 data : List UInt8
 syn : Nat
structure DiskM where
 size : Int
 files : List FileM
 now : Dir
 syn : Dir
 chs : List ChM
 steps : Nat
 down : Bool
 arm : Option Nat
 fails : List Nat

def goodB (b : UInt8) : Bool := decide (33 ≤ b.toNat) && decide (b.toNat ≤ 126) && !decide (b.toNat = 47)
def goodN (l : Nm) : Bool := decide (0 < l.length) && decide (l.length ≤ 64) && l.all goodB

abbrev findD (d : Dir) (n : Nm) : Option Ent := findA Ent.name d n
def mkD (d : Dir) (c : ChM) : Dir := match c.made with
 | some i => insA Ent.name d ⟨c.to, i⟩
 | none => match findD d c.fr with
   | none => d
   | some e => if c.to = [] then delA Ent.name d c.fr else insA Ent.name (delA Ent.name d c.fr) ⟨c.to, e.file⟩
def replay (d : Dir) (cs : List ChM) : Dir := cs.foldl mkD d
theorem replay_snoc (d : Dir) (cs : List ChM) (c : ChM) : replay d (cs ++ [c]) = mkD (replay d cs) c := by simp [replay]

def file0 : FileM := ⟨[], 0⟩
def fileAt (fs : List FileM) (i : Nat) : FileM := fs.getD i file0
def usedM (m : DiskM) : Nat := (m.now.map fun e => (fileAt m.files e.file).data.length).sum
def setF (fs : List FileM) (i : Nat) (f : FileM → FileM) : List FileM := fs.set i (f (fileAt fs i))

def stepM (m : DiskM) : DiskM × Option Int :=
 if m.arm = some 0 then ({ m with down := true }, some 1)
 else match m.fails with
   | [] => ({ m with steps := m.steps + 1, arm := m.arm.map (· - 1) }, none)
   | 0 :: r => ({ m with steps := m.steps + 1, arm := m.arm.map (· - 1), fails := r }, some 2)
   | (k + 1) :: r => ({ m with steps := m.steps + 1, arm := m.arm.map (· - 1), fails := k :: r }, none)
def readyM (m : DiskM) (ns : List Nm) : Option Int := if m.down then some 1 else if ns.all goodN then none else some 6
def foundE (m : DiskM) (n : Nm) : Option Int := if m.down then some 1 else if !goodN n then some 6 else if (findD m.now n).isNone then some 5 else none
def foundI (m : DiskM) (n : Nm) : Nat := ((findD m.now n).map (·.file)).getD 0

def stepsM (m : DiskM) (f : DiskM → DiskM) : DiskM × Option Int := match (stepM m).2 with
 | some e => ((stepM m).1, some e)
 | none => (f (stepM m).1, none)
def chMade (m : DiskM) (n : Nm) : ChM := ⟨some m.files.length, [], n⟩
def doCh (m : DiskM) (c : ChM) : DiskM := { m with now := mkD m.now c, chs := m.chs ++ [c] }
def createF (m : DiskM) (n : Nm) : DiskM := { doCh m (chMade m n) with files := m.files ++ [file0] }
def createM (m : DiskM) (n : Nm) : DiskM × Option Int := match readyM m [n] with
 | some e => (m, some e)
 | none => if (findD m.now n).isSome then (m, some 4) else if 4096 ≤ m.now.length then (m, some 19) else stepsM m fun m => createF m n
def fits : Int → List (List UInt8) → Bool
 | _, [] => true
 | r, p :: ps => decide ((p.length : Int) ≤ r) && fits (r - p.length) ps
def appendF (m : DiskM) (i : Nat) (ps : List (List UInt8)) : DiskM := { m with files := setF m.files i fun f => ⟨f.data ++ ps.flatten, f.syn⟩ }
def appendM (m : DiskM) (n : Nm) (ps : List (List UInt8)) : DiskM × Option Int := match foundE m n with
 | some e => (m, some e)
 | none => if fits (m.size - usedM m) ps then stepsM m fun m' => appendF m' (foundI m n) ps else (m, some 3)
def syncF (m : DiskM) (i : Nat) : DiskM := { m with files := setF m.files i fun f => ⟨f.data, f.data.length⟩ }
def syncM (m : DiskM) (n : Nm) : DiskM × Option Int := match foundE m n with
 | some e => (m, some e)
 | none => stepsM m fun m' => syncF m' (foundI m n)
def armM (m : DiskM) (n : Int) : DiskM × Option Int := if n < 0 then (m, some 7) else ({ m with arm := some n.toNat }, none)
def failM (m : DiskM) (l : List Int) : DiskM × Option Int := if l.any (· < 0) then (m, some 7) else ({ m with fails := l.map Int.toNat }, none)
def settled (fs : List FileM) (d : Dir) : List FileM := d.foldl (fun fs e => setF fs e.file fun f => ⟨f.data, f.data.length⟩) fs
def settleM (m : DiskM) : DiskM := { m with files := settled m.files m.now, syn := m.now, chs := [] }
def cutF (more : Nat) (f : FileM) : FileM := ⟨f.data.take (f.syn + min more (f.data.length - f.syn)), f.syn⟩
def cutAt (cuts : List Int) (i : Nat) : Nat := (cuts.getD i 0).toNat
def cutAll (cuts : List Int) : Nat → Dir → List FileM → List FileM
 | _, [], fs => fs
 | i, e :: d, fs => cutAll cuts (i + 1) d (setF fs e.file (cutF (cutAt cuts i)))
def crashD (m : DiskM) (dirs : Int) : Dir := replay m.syn (m.chs.take dirs.toNat)
def crashM (m : DiskM) (dirs : Int) (cuts : List Int) : DiskM :=
 { settleM { m with now := crashD m dirs, files := cutAll cuts 0 (crashD m dirs) m.files } with down := false, arm := none, fails := [] }
def newM (size : Int) : DiskM := ⟨size, [], [], [], [], 0, false, none, []⟩

structure OkDir (k : Nat) (d : Dir) : Prop where
 asc : AscBy Ent.name d
 len : d.length ≤ 4096
 ent : ∀ e ∈ d, e.file < k ∧ goodN e.name = true
 inj : d.Pairwise fun x y => x.file ≠ y.file
structure WFD (m : DiskM) : Prop where
 now : m.now = replay m.syn m.chs
 dirs : ∀ k, OkDir m.files.length (replay m.syn (m.chs.take k))
 made : ∀ c ∈ m.chs, ∀ i, c.made = some i → i < m.files.length
 syn : ∀ f ∈ m.files, f.syn ≤ f.data.length ∧ f.data.length ≤ 1099511627776
 size : 0 ≤ m.size ∧ m.size ≤ 67108864

theorem WFD.okNow {m : DiskM} (h : WFD m) : OkDir m.files.length m.now := by
 have := h.dirs m.chs.length
 rw [List.take_length, ← h.now] at this
 exact this
theorem WFD.okSyn {m : DiskM} (h : WFD m) : OkDir m.files.length m.syn := h.dirs 0
theorem OkDir.mono {k k' : Nat} {d : Dir} (h : OkDir k d) (hk : k ≤ k') : OkDir k' d := ⟨h.asc, h.len, fun e he => ⟨by have := (h.ent e he).1; omega, (h.ent e he).2⟩, h.inj⟩
theorem okDir_nil (k : Nat) : OkDir k [] := ⟨List.Pairwise.nil, by simp, by simp, List.Pairwise.nil⟩
theorem OkDir.inj' {k : Nat} {d : Dir} (h : OkDir k d) {x y : Ent} (hx : x ∈ d) (hy : y ∈ d) (he : x.file = y.file) : x = y := by
 have hi := h.inj
 clear h
 induction d with
 | nil => simp at hx
 | cons z d ih =>
   have a := List.pairwise_cons.1 hi
   rcases List.mem_cons.1 hx with e1 | h1 <;> rcases List.mem_cons.1 hy with e2 | h2
   · rw [e1, e2]
   · rw [e1] at he; exact absurd he (a.1 y h2)
   · rw [e2] at he; exact absurd he.symm (a.1 x h1)
   · exact ih h1 h2 a.2
theorem OkDir.ins {k : Nat} {d : Dir} (h : OkDir k d) {n : Nm} {i : Nat} (hi : i < k) (hn : goodN n = true) (hl : d.length + 1 ≤ 4096 ∨ findD d n ≠ none) (hne : ∀ e ∈ d, e.name ≠ n → e.file ≠ i) : OkDir k (insA Ent.name d ⟨n, i⟩) := by
 refine ⟨asc_insA h.asc _, ?_, fun e he => ?_, ?_⟩
 · rcases hl with hl | hl
   · exact Nat.le_trans (insA_len d _) hl
   · exact Nat.le_trans (insA_len_in h.asc hl) h.len
 · rcases mem_insA.1 he with rfl | ⟨he, _⟩
   · exact ⟨hi, hn⟩
   · exact h.ent e he
 · unfold insA
   refine List.pairwise_append.2 ⟨h.inj.sublist List.filter_sublist, List.pairwise_cons.2 ⟨fun x hx => ?_, h.inj.sublist List.filter_sublist⟩, fun x hx y hy => ?_⟩
   · have h1 := List.mem_filter.1 hx
     exact (hne x h1.1 (lex_ne h1.2).symm).symm
   · have h1 := List.mem_filter.1 hx
     rcases List.mem_cons.1 hy with rfl | hy
     · exact hne x h1.1 (lex_ne h1.2)
     · have h2 := List.mem_filter.1 hy
       intro e
       have e2 := h.inj' h1.1 h2.1 e
       subst e2
       have := lex_trans _ _ _ h1.2 h2.2
       rw [lex_irrefl] at this
       cases this

theorem WFD.snoc {m : DiskM} (h : WFD m) {c : ChM} {fs : List FileM} (hfs : m.files.length ≤ fs.length) (hs : ∀ f ∈ fs, f.syn ≤ f.data.length ∧ f.data.length ≤ 1099511627776) (hc : ∀ i, c.made = some i → i < fs.length) (hd : OkDir fs.length (mkD m.now c)) :
   WFD { doCh m c with files := fs } := by
 refine ⟨?_, fun k => ?_, fun c' hc' => ?_, hs, h.size⟩
 · show mkD m.now c = replay m.syn (m.chs ++ [c])
   rw [replay_snoc, ← h.now]
 · show OkDir fs.length (replay m.syn ((m.chs ++ [c]).take k))
   by_cases hk : k ≤ m.chs.length
   · rw [List.take_append_of_le_length hk]
     exact (h.dirs k).mono hfs
   · rw [List.take_of_length_le (by simp; omega), replay_snoc, ← h.now]
     exact hd
 · rcases List.mem_append.1 hc' with h1 | h1
   · exact fun i hi => Nat.lt_of_lt_of_le (h.made c' h1 i hi) hfs
   · simp at h1; rw [h1]; exact hc
theorem stepM_cases (m : DiskM) : ∃ (s : Nat) (d : Bool) (a : Option Nat) (f : List Nat), (stepM m).1 = { m with steps := s, down := d, arm := a, fails := f } := by
 unfold stepM
 split
 · exact ⟨m.steps, true, m.arm, m.fails, by cases m; rfl⟩
 · split
   · rename_i h; exact ⟨_, m.down, _, [], by rw [← h]⟩
   · rename_i r h; exact ⟨_, m.down, _, _, rfl⟩
   · rename_i k r h; exact ⟨_, m.down, _, _, rfl⟩
theorem WFD.upd {m : DiskM} (h : WFD m) (s : Nat) (d : Bool) (a : Option Nat) (f : List Nat) : WFD { m with steps := s, down := d, arm := a, fails := f } := ⟨h.now, h.dirs, h.made, h.syn, h.size⟩
open Go Sx
set_option maxRecDepth 8000

structure FR where
 g : Nat
 a : Option Addr
 c : Nat
 data : List UInt8
 syn : Nat
def FR.m (f : FR) : FileM := ⟨f.data, f.syn⟩
def FR.val (f : FR) : Value := .slice f.a f.data.length f.c
def FR.blk (f : FR) : Res := .arr f.g 128 [f.val, .int .i64 (f.syn : Int)]
def FR.row (f : FR) : Res := .row 5 1 f.val f.data.length (bv f.data)
def DR (FL : List FR) (N : List Res) : List Res := FL.map FR.blk ++ (FL.map FR.row ++ N)

theorem perm_DR {FL : List FR} {i : Nat} {f : FR} (hi : FL[i]? = some f) (R N : List Res) : (R ++ DR FL N).Perm (f.blk :: f.row :: (R ++ DR (FL.eraseIdx i) N)) := by
 obtain ⟨h1, _, h3⟩ := split_at hi
 rw [h3]
 conv => lhs; rw [h1]
 unfold DR
 simp only [List.map_append, List.map_cons]
 have e1 : R ++ ((FL.take i).map FR.blk ++ f.blk :: (FL.drop (i + 1)).map FR.blk ++ ((FL.take i).map FR.row ++ f.row :: (FL.drop (i + 1)).map FR.row ++ N)) = (R ++ (FL.take i).map FR.blk) ++ f.blk :: (((FL.drop (i + 1)).map FR.blk ++ (FL.take i).map FR.row) ++ f.row :: ((FL.drop (i + 1)).map FR.row ++ N)) := by simp [List.append_assoc]
 rw [e1]
 refine List.perm_middle.trans (List.Perm.cons _ ?_)
 have e2 : R ++ (FL.take i).map FR.blk ++ (((FL.drop (i + 1)).map FR.blk ++ (FL.take i).map FR.row) ++ f.row :: ((FL.drop (i + 1)).map FR.row ++ N)) = (R ++ (FL.take i).map FR.blk ++ ((FL.drop (i + 1)).map FR.blk ++ (FL.take i).map FR.row)) ++ f.row :: ((FL.drop (i + 1)).map FR.row ++ N) := by simp [List.append_assoc]
 rw [e2]
 refine List.perm_middle.trans (List.Perm.cons _ (List.Perm.of_eq ?_))
 simp [List.append_assoc]

theorem eraseIdx_set {α : Type} (l : List α) (i : Nat) (x : α) : (l.set i x).eraseIdx i = l.eraseIdx i := by
 rw [List.eraseIdx_eq_take_drop_succ, List.eraseIdx_eq_take_drop_succ, List.take_set_of_le (Nat.le_refl i), List.drop_set_of_lt (by omega)]

def ptrV (gs : List Nat) (i : Nat) : Value := .pointer (some ⟨gs.getD i 0, 0, none⟩)
def chC (gs : List Nat) (c : ChM) : List Value := [match c.made with | some i => ptrV gs i | none => .pointer none, strV c.fr, strV c.to]
theorem chC_len (gs : List Nat) (c : ChM) : (chC gs c).length = 3 := rfl
theorem chC_one (gs : List Nat) (c : ChM) : ∀ v ∈ chC gs c, v.oneCell' = true := by
 intro v hv
 simp only [chC, List.mem_cons, List.not_mem_nil, or_false] at hv
 rcases hv with rfl | rfl | rfl
 · cases c.made <;> rfl
 · rfl
 · rfl
def niv (l : List Nat) : List Value := l.map fun x : Nat => Value.int .i64 (x : Int)

structure FailsR (fl : List Nat) (fa : Option Addr) (fn fc : Nat) (F : Res) : Prop where
 len : fl.length = fn
 le : fn ≤ fc
 at_ : fn = 0 ∨ ∃ gf k L, fa = some ⟨gf, k, none⟩ ∧ F = .arr gf 3 L ∧ (L.drop k).take fn = niv fl
 bd : ∀ x ∈ fl, x ≤ 9223372036854775807

structure DP where
 av : Int
 fa : Option Addr
 fn : Nat
 fc : Nat
 gn : Nat
 gs : Nat
 ca : Option Addr
 cc : Nat
 FL : List FR
 F : Res
 esn : Array MapEntry
 ckn : Nat
 Mn : Dir
 ess : Array MapEntry
 cks : Nat
 Ms : Dir
def DP.ps (p : DP) : List Nat := p.FL.map FR.g
abbrev kyE (e : Ent) : Value := strV e.name
abbrev vlE (gs : List Nat) (e : Ent) : Value := ptrV gs e.file
structure DOk (m : DiskM) (p : DP) : Prop where
 wf : WFD m
 files : p.FL.map FR.m = m.files
 arm : ∀ k, m.arm = some k → p.av = (k : Int) ∧ k ≤ 9223372036854775807
 fails : FailsR m.fails p.fa p.fn p.fc p.F
 mapn : MapE kyE (vlE p.ps) p.esn p.ckn p.Mn
 isn : MapIsA Ent.name p.Mn m.now
 maps : MapE kyE (vlE p.ps) p.ess p.cks p.Ms
 iss : MapIsA Ent.name p.Ms m.syn
def dskL (m : DiskM) (p : DP) : List Value := [.int .i64 (m.steps : Int), .bool m.down, .bool m.arm.isSome, .int .i64 p.av, .slice p.fa p.fn p.fc, .int .i64 m.size, .map (some p.gn), .map (some p.gs), .slice p.ca m.chs.length p.cc]
def resD (gd : Nat) (m : DiskM) (p : DP) : List Res := [.arr gd 117 (dskL m p), .blk p.gn (.map p.esn p.ckn), .blk p.gs (.map p.ess p.cks), .row 123 3 (.slice p.ca m.chs.length p.cc) m.chs.length (m.chs.flatMap (chC p.ps)), p.F]
def DiskIn (w0 : World) (X : List Nat) (w : World) (gd : Nat) (ps : List Nat) (m : DiskM) (N : List Res) : Prop := ∃ p, p.ps = ps ∧ DOk m p ∧ St w0 X w (resD gd m p ++ DR p.FL N)

section
variable {w0 w w' : World} {X : List Nat} {N N' : List Res} {gd : Nat} {ps : List Nat} {m : DiskM}

theorem DiskIn.same (h : DiskIn w0 X w gd ps m N) (hc : Chg [] w w') : DiskIn w0 X w' gd ps m N := by obtain ⟨p, hps, hp, hS⟩ := h; exact ⟨p, hps, hp, hS.same hc⟩
theorem DiskIn.wf (h : DiskIn w0 X w gd ps m N) : WFD m := by obtain ⟨p, _, hp, hS⟩ := h; exact hp.wf
theorem DR_perm {FL : List FR} (h : N.Perm N') : (DR FL N).Perm (DR FL N') := List.Perm.append_left _ (List.Perm.append_left _ h)
theorem DiskIn.permN (h : DiskIn w0 X w gd ps m N) (hn : N.Perm N') : DiskIn w0 X w gd ps m N' := by obtain ⟨p, hps, hp, hS⟩ := h; exact ⟨p, hps, hp, hS.perm (List.Perm.append_left _ (DR_perm hn))⟩
theorem DiskIn.subN (h : DiskIn w0 X w gd ps m N) (hn : N'.Sublist N) : DiskIn w0 X w gd ps m N' := by
 obtain ⟨p, hps, hp, hS⟩ := h
 exact ⟨p, hps, hp, hS.sub (List.Sublist.append_left (List.Sublist.append_left (List.Sublist.append_left hn _) _) _)⟩
theorem DiskIn.rest (h : DiskIn w0 X w gd ps m N) : St w0 X w N := by
 obtain ⟨p, hps, hp, hS⟩ := h
 exact hS.sub (((List.sublist_append_right _ _).trans (List.sublist_append_right _ _)).trans (List.sublist_append_right _ _))

theorem strT : ElemT Tryz.prog 125 9 1 16 (.string ByteArray.empty) := ⟨by kernel_rfl, ⟨Tryz.t9, by kernel_rfl, by kernel_rfl, by kernel_rfl, by kernel_rfl⟩, rfl, by decide⟩
theorem stA' (w : World) : (isAgg 9).run Tryz.prog w = .ok false w := Tryz.isAgg9 w
theorem intA (w : World) : (isAgg 3).run Tryz.prog w = .ok false w := Tryz.isAgg3 w
theorem intS (w : World) : (sizeOf 3).run Tryz.prog w = .ok 1 w := Tryz.sizeOf3 w
theorem boolA (w : World) : (isAgg 4).run Tryz.prog w = .ok false w := Tryz.isAgg4 w
theorem boolS (w : World) : (sizeOf 4).run Tryz.prog w = .ok 1 w := Tryz.sizeOf4 w
theorem dirA (w : World) : (isAgg 112).run Tryz.prog w = .ok false w := Tryz.isAgg112 w
theorem dirS (w : World) : (sizeOf 112).run Tryz.prog w = .ok 1 w := Tryz.sizeOf112 w
theorem insA' (w : World) : (isAgg 53).run Tryz.prog w = .ok false w := Tryz.isAgg53 w
theorem insS (w : World) : (sizeOf 53).run Tryz.prog w = .ok 1 w := Tryz.sizeOf53 w
theorem chsA (w : World) : (isAgg 115).run Tryz.prog w = .ok false w := Tryz.isAgg115 w
theorem chsS (w : World) : (sizeOf 115).run Tryz.prog w = .ok 1 w := Tryz.sizeOf115 w
theorem bsS (w : World) : (sizeOf 33).run Tryz.prog w = .ok 1 w := Tryz.sizeOf33 w
theorem dirT : Tryz.prog.underlying 112 = some (.map 9 121) := Tryz.underlying112
theorem keyD (M : Dir) : KeyM Tryz.prog 9 strV (fun _ => True) kyE Ent.name M := ⟨str_ops Tryz.underlying9, fun _ => rfl, fun _ _ => trivial⟩
theorem pfZ (w : World) : (zeroValue 121).run Tryz.prog w = .ok (.pointer none) w := Tryz.zeroValue121 w

theorem ixStr {T : TypeId} (hT : Tryz.prog.underlying T = some .string) {l : Nm} {i : Nat} (hi : i < l.length) (w : World) : (Instr.index T (.string ⟨l.toArray⟩) (.int .i64 (i : Int))).run Tryz.prog w = .ok (.int .u8 ((l.getD i 0).toNat : Int)) w := by
 have h1 : (⟨l.toArray⟩ : ByteArray)[i]? = some (l.getD i 0) := by
   have h2 : i < (⟨l.toArray⟩ : ByteArray).size := by show i < l.toArray.size; simpa using hi
   rw [getElem?_pos _ i h2]
   show some (l.toArray[i]'(by simpa using hi)) = _
   simp [List.getD, hi]
 have h0 : (0 : Int) ≤ (i : Int) := by omega
 simp only [Instr.index, Sem.run_bind, asIntOf, Sem.run_pure, run_underlying hT, Result.andThen_ok, h0, if_true, Int.toNat_natCast, h1]

theorem size_mk (l : Nm) : ((⟨l.toArray⟩ : ByteArray).size : Int) = (l.length : Int) := by show ((l.toArray.size : Nat) : Int) = _; simp
theorem empty_eq (l : Nm) : ((⟨l.toArray⟩ : ByteArray).toList == (ByteArray.mk #[]).toList) = decide (l.length = 0) := by
 rw [ByteArray.toList_eq, ByteArray.toList_eq]
 cases l <;> rfl

theorem goodName_spec (l : Nm) (w : World) : Calls Tryz.prog 114 #[strV l] w fun e w' => e = .returned (.bool (goodN l)) ∧ w' = w := by
 apply disk_goodName_vc
 rw [empty_eq, size_mk]
 refine ⟨fun h => ?_, fun h => ?_⟩
 · have : goodN l = false := by
     unfold goodN
     simp only [Bool.or_eq_true, decide_eq_true_eq] at h
     have : ¬ (0 < l.length ∧ l.length ≤ 64) := by omega
     by_cases h1 : 0 < l.length <;> by_cases h2 : l.length ≤ 64 <;> simp [h1, h2] <;> omega
   rw [this]
   exact ⟨rfl, rfl⟩
 · have hl : 0 < l.length ∧ l.length ≤ 64 := by
     simp only [Bool.or_eq_false_iff, decide_eq_false_iff_not] at h
     omega
   refine ⟨fun x w' => ∃ i : Nat, x = (i : Int) ∧ i ≤ l.length ∧ (l.take i).all goodB = true ∧ w' = w, fun x _ => l.length - x.toNat, ⟨0, rfl, by omega, by simp, rfl⟩, ?_⟩
   rintro x w1 ⟨i, rfl, hi, hall, rfl⟩
   refine ⟨fun h => ?_, fun h => ?_⟩
   · have hi' : i < l.length := by simp at h; omega
     have hx := ixStr (T := 9) Tryz.underlying9 hi' w1
     have hb : l[i]? = some (l.getD i 0) := by simp [List.getD, hi']
     obtain ⟨b, hbd⟩ : ∃ b, l.getD i 0 = b := ⟨_, rfl⟩
     rw [hbd] at hx hb
     refine ⟨fun y w' => y = !goodB b ∧ w' = w1, ⟨_, hx, fun h1 => ⟨?_, rfl⟩, fun h1 => ⟨_, hx, fun h2 => ⟨?_, rfl⟩, fun h2 => ⟨_, hx, ?_, rfl⟩⟩⟩, ?_⟩
     · simp only [decide_eq_true_eq] at h1
       have : ¬ 33 ≤ b.toNat := by omega
       simp [goodB, this]
     · simp only [decide_eq_true_eq] at h2
       have : ¬ b.toNat ≤ 126 := by omega
       simp [goodB, this]
     · simp only [decide_eq_false_iff_not] at h1 h2
       have e1 : 33 ≤ b.toNat := by omega
       have e2 : b.toNat ≤ 126 := by omega
       by_cases h3 : b.toNat = 47
       · simp [goodB, h3]
       · have : ¬ ((b.toNat : Int) = 47) := by omega
         simp [goodB, e1, e2, h3, this]
     · rintro y w2 ⟨rfl, rfl⟩
       refine ⟨fun hbad => ?_, fun hgd => ⟨⟨i + 1, wrap_succ hi' (by omega), by omega, ?_, rfl⟩, mu_succ hi' (by omega)⟩⟩
       · have : goodN l = false := by
           have h0 : l.all goodB = false := by
             rw [List.all_eq_false]
             exact ⟨b, List.mem_of_getElem? hb, by simpa using hbad⟩
           simp [goodN, h0]
         rw [this]
         exact ⟨rfl, rfl⟩
       · rw [List.take_add_one, hb, List.all_append, hall]
         simpa using hgd
   · have hi' : i = l.length := by simp at h; omega
     rw [hi', List.take_length] at hall
     have : goodN l = true := by simp [goodN, hl.1, hl.2, hall]
     rw [this]
     exact ⟨rfl, rfl⟩

theorem DiskIn.cell {p : DP} (hS : St w0 X w (resD gd m p ++ DR p.FL N)) {i : Nat} {v : Value} {T : TypeId} (hT : (isAgg T).run Tryz.prog w = .ok false w) (hv : (dskL m p)[i]? = some v) : (Instr.loadAt T (.pointer (some ⟨gd, i, none⟩))).run Tryz.prog w = .ok v w :=
 hS.ldL (i := 0) (o := i) rfl hT rfl hv

theorem ready_spec (a : Option Addr) (n c : Nat) (ns : List Nm) (h : DiskIn w0 X w gd ps m N) (hr : Rd w a n c 1 (ns.map strV)) (hb : n ≤ 1000000) :
   Calls Tryz.prog 81 #[.pointer (some ⟨gd, 0, none⟩), .slice a n c] w fun e w' => e = .returned (errV (readyM m ns)) ∧ w' = w := by
 have hln : ns.length = n := by have := hr.len; simpa using this
 obtain ⟨p, hps, hp, hS⟩ := h
 apply disk_Disk_ready_vc
 refine ⟨_, DiskIn.cell hS (i := 1) (boolA _) rfl, fun hd => ?_, fun hd => ?_⟩
 · rw [readyM, hd]
   exact ⟨rfl, rfl⟩
 · refine ⟨fun x w' => ∃ i : Nat, x = (i : Int) ∧ i ≤ n ∧ (ns.take i).all goodN = true ∧ w' = w, fun x _ => n - x.toNat, ⟨0, rfl, by omega, by simp, rfl⟩, ?_⟩
   rintro x w1 ⟨i, rfl, hi, hall, rfl⟩
   refine ⟨fun h => ?_, fun h => ?_⟩
   · have hi' : i < n := by simp at h; omega
     have hx : (ns.map strV)[i]? = some (strV (ns.getD i [])) := by simp [List.getD, show i < ns.length by omega]
     have hx2 : ns[i]? = some (ns.getD i []) := by simp [List.getD, show i < ns.length by omega]
     obtain ⟨nm, hnm⟩ : ∃ nm, ns.getD i [] = nm := ⟨_, rfl⟩
     rw [hnm] at hx hx2
     obtain ⟨b, o, ha, hcell⟩ := hr.cells.at_ hx
     refine ⟨b, o, ha, by omega, by omega, _, by rw [Int.toNat_natCast, Nat.mul_one]; exact ld1 (stA' _) hcell, (goodName_spec nm w1).mono ?_⟩
     rintro e w2 ⟨rfl, rfl⟩
     refine ⟨_, rfl, fun hbad => ?_, fun hgd => ⟨⟨i + 1, wrap_succ hi' (by omega), by omega, ?_, rfl⟩, mu_succ hi' (by omega)⟩⟩
     · have : ns.all goodN = false := by
         rw [List.all_eq_false]
         exact ⟨nm, List.mem_of_getElem? hx2, by simpa using hbad⟩
       rw [readyM, hd, this]
       exact ⟨rfl, rfl⟩
     · rw [List.take_add_one, hx2, List.all_append, hall]
       simpa using hgd
   · have hi' : i = n := by simp at h; omega
     rw [hi', List.take_of_length_le (by omega)] at hall
     rw [readyM, hd, hall]
     exact ⟨rfl, rfl⟩

theorem look_spec {p : DP} (hp : DOk m p) (hg : w.heap[p.gn]? = some (.map p.esn p.ckn)) (n : Nm) : (Instr.lookup 112 (.map (some p.gn)) (strV n) true).run Tryz.prog w = .ok (.tuple #[((findD m.now n).map (vlE p.ps)).getD (.pointer none), .bool (findD m.now n).isSome]) w := by
 have hl := hp.mapn.lookupK (P := Tryz.prog) (keyD p.Mn) dirT hg (id := n) trivial pfZ
 have hf := hp.isn.find n
 rw [hl]
 cases hq : fndM Ent.name p.Mn n with
 | none => rw [hq] at hf; rw [show findD m.now n = none from hf.symm]; rfl
 | some q => rw [hq] at hf; rw [show findD m.now n = some q.2 from hf.symm]; rfl

theorem found_spec (n : Nm) (h : DiskIn w0 X w gd ps m N) :
   Calls Tryz.prog 53 #[.pointer (some ⟨gd, 0, none⟩), strV n] w fun e w' => e = .returned (.tuple #[if foundE m n = none then ptrV ps (foundI m n) else .pointer none, errV (foundE m n)]) ∧ Chg [] w w' := by
 obtain ⟨mI, hI⟩ := eI
 apply disk_Disk_found_vc
 obtain ⟨g, w1, r1, h1⟩ := (St.start w).lit strT [strV n] (by simp [Value.oneCell', strV]) (by simp)
 have h1' := h1.chg
 refine ⟨_, _, _, w1, r1, (ready_spec _ _ _ [n] (h.same h1') (h1.rd (i := 0) rfl) (by simp)).mono ?_⟩
 rintro e w2 ⟨rfl, rfl⟩
 obtain ⟨p, hps, hp, hS⟩ := h
 have hrd : readyM m [n] = if m.down then some 1 else if goodN n then none else some 6 := by simp [readyM]
 refine ⟨_, rfl, _, neqS_nil hI _ _ _, fun hne => ?_, fun hok => ?_⟩
 · have hfr : foundE m n = readyM m [n] := by
     rw [hrd] at hne ⊢
     unfold foundE
     cases hd : m.down <;> cases hg : goodN n <;> simp [hd, hg] at hne ⊢
   have hn0 : ¬ foundE m n = none := fun e => by rw [hfr] at e; rw [e] at hne; simp at hne
   rw [if_neg hn0, hfr]
   exact ⟨rfl, h1'⟩
 · have hdn : m.down = false ∧ goodN n = true := by
     rw [hrd] at hok
     cases hd : m.down <;> cases hg : goodN n <;> simp [hd, hg] at hok ⊢
   have hS1 := hS.same h1'
   have hlk := look_spec hp (w := w2) (hS1.holds 1 _ rfl) n
   refine ⟨_, DiskIn.cell hS1 (i := 6) (dirA _) rfl, _, _, w2, hlk, fun hno => ?_, fun hyes => ?_⟩
   · have hf : findD m.now n = none := by
       cases hq : findD m.now n with
       | none => rfl
       | some e => rw [hq] at hno; simp at hno
     have : foundE m n = some 5 := by simp [foundE, hdn.1, hdn.2, hf]
     rw [this]
     exact ⟨rfl, h1'⟩
   · obtain ⟨e, hf⟩ : ∃ e, findD m.now n = some e := by
       cases hq : findD m.now n with
       | none => rw [hq] at hyes; simp at hyes
       | some e => exact ⟨e, rfl⟩
     have hfe : foundE m n = none := by simp [foundE, hdn.1, hdn.2, hf]
     have hfi : foundI m n = e.file := by simp [foundI, hf]
     rw [hfe, hf, hfi, ← hps]
     exact ⟨rfl, h1'⟩

theorem DOk.file {p : DP} (hp : DOk m p) {i : Nat} (hi : i < m.files.length) : ∃ f, p.FL[i]? = some f ∧ p.ps.getD i 0 = f.g ∧ fileAt m.files i = ⟨f.data, f.syn⟩ := by
 have hl : p.FL.length = m.files.length := by have := congrArg List.length hp.files; simpa using this
 have hf : p.FL[i]? = some p.FL[i] := List.getElem?_eq_getElem (by omega)
 refine ⟨p.FL[i], hf, ?_, ?_⟩
 · simp [DP.ps, List.getD, show i < p.FL.length by omega]
 · rw [← hp.files]
   simp [fileAt, List.getD, show i < p.FL.length by omega, FR.m]

theorem St.ldFile {R : List Res} {FL : List FR} {i : Nat} {f : FR} (h : St w0 X w (R ++ DR FL N)) (hf : FL[i]? = some f) :
   (Instr.loadAt 33 (.pointer (some ⟨f.g, 0, none⟩))).run Tryz.prog w = .ok (.slice f.a f.data.length f.c) w ∧ (Instr.loadAt 3 (.pointer (some ⟨f.g, 1, none⟩))).run Tryz.prog w = .ok (.int .i64 (f.syn : Int)) w ∧ RdB w f.a f.data.length f.c f.data := by
 have h1 := h.perm (perm_DR hf R N)
 exact ⟨h1.ldL (i := 0) (o := 0) rfl (bsA _) rfl rfl, h1.ldL (i := 0) (o := 1) rfl (intA _) rfl rfl, h1.rd (i := 1) rfl⟩

theorem foundI_lt (hw : WFD m) {n : Nm} (h : foundE m n = none) : foundI m n < m.files.length ∧ ∃ e ∈ m.now, e.name = n ∧ e.file = foundI m n ∧ findD m.now n = some e := by
 have hf : ∃ e, findD m.now n = some e := by
   unfold foundE at h
   split at h
   · cases h
   · split at h
     · cases h
     · split at h
       · cases h
       · rename_i hq
         cases hz : findD m.now n with
         | none => rw [hz] at hq; simp at hq
         | some e => exact ⟨e, rfl⟩
 obtain ⟨e, hf⟩ := hf
 obtain ⟨h1, h2⟩ := findA_mem hf
 have hfi : foundI m n = e.file := by simp [foundI, hf]
 rw [hfi]
 exact ⟨(hw.okNow.ent e h1).1, e, h1, h2, rfl, hf⟩

theorem St.putBlk {M : List Res} (h : St w0 X w M) {i g : Nat} {o o' : Obj} (hi : M[i]? = some (.blk g o)) : St w0 X (w.putObj g o') (M.set i (.blk g o')) := by
 have hg : w.heap[g]? = some o := h.holds i _ hi
 have hlt := (Array.getElem?_eq_some_iff.1 hg).1
 refine h.upd hi ⟨rfl, rfl, rfl, by simp, fun k hk hx => ?_⟩ (World.putObj_heap_same hlt) (by simp [Res.fp])
 exact World.putObj_heap_other fun e => hx (by simp [Res.fp, e])

end

section
variable {w0 w w' : World} {X : List Nat} {N N' T T' : List Res} {gd : Nat} {ps : List Nat} {m : DiskM}

theorem DiskIn.addSt (h : DiskIn w0 X w gd ps m N) (h' : St w [] w' T) : DiskIn w0 X w' gd ps m (N ++ T) := by
 obtain ⟨p, hps, hp, hS⟩ := h
 refine ⟨p, hps, hp, ?_⟩
 have h1 : St w0 X w' ((resD gd m p ++ DR p.FL N) ++ T) := Sx.St.callPart (N := []) (by rw [List.append_nil]; exact hS) h'
 have e : (resD gd m p ++ DR p.FL N) ++ T = resD gd m p ++ DR p.FL (N ++ T) := by simp [DR, List.append_assoc]
 rw [← e]; exact h1

theorem DiskIn.callN (h : DiskIn w0 X w gd ps m (N ++ T)) (h' : St w (fpsL T) w' T') : DiskIn w0 X w' gd ps m (N ++ T') := by
 obtain ⟨p, hps, hp, hS⟩ := h
 have e : ∀ U, resD gd m p ++ DR p.FL (N ++ U) = (resD gd m p ++ DR p.FL N) ++ U := fun U => by simp [DR, List.append_assoc]
 rw [e] at hS
 refine ⟨p, hps, hp, ?_⟩
 rw [e]
 exact Sx.St.callPart hS h'

theorem DiskIn.under (k : St w0 X w N) (h : DiskIn w [] w' gd ps m []) : DiskIn w0 X w' gd ps m N := by
 obtain ⟨p, hps, hp, hS⟩ := h
 have h1 := Sx.St.callPart (M := N) (N := []) (by rw [List.append_nil]; exact k) hS
 refine ⟨p, hps, hp, h1.perm ?_⟩
 have e : resD gd m p ++ DR p.FL N = (resD gd m p ++ DR p.FL []) ++ N := by simp [DR, List.append_assoc]
 rw [e]
 exact List.perm_append_comm
end

theorem dkT : Tryz.prog.underlying 58 = some (.pointer 117) := Tryz.underlying58

open Go Sx
set_option maxRecDepth 8000

section
variable {w0 w w' : World} {X : List Nat} {N N' : List Res} {gd : Nat} {ps : List Nat} {m : DiskM}

theorem DOk.upd {p : DP} (hp : DOk m p) (s : Nat) (d : Bool) (a : Option Nat) (f : List Nat) {av : Int} {fa : Option Addr} {fn fc : Nat} {F : Res} (ha : ∀ k, a = some k → av = (k : Int) ∧ k ≤ 9223372036854775807) (hf : FailsR f fa fn fc F) :
   DOk { m with steps := s, down := d, arm := a, fails := f } { p with av := av, fa := fa, fn := fn, fc := fc, F := F } :=
 ⟨hp.wf.upd s d a f, hp.files, ha, hf, hp.mapn, hp.isn, hp.maps, hp.iss⟩

theorem niv_cons (x : Nat) (l : List Nat) : niv (x :: l) = .int .i64 (x : Int) :: niv l := rfl

set_option maxHeartbeats 1000000 in
theorem step_spec (h : DiskIn w0 X w gd ps m N) (hb : m.steps < 4611686018427387904) :
   Calls Tryz.prog 82 #[.pointer (some ⟨gd, 0, none⟩)] w fun e w' => e = .returned (errV (stepM m).2) ∧ DiskIn w0 X w' gd ps (stepM m).1 N := by
 obtain ⟨p, hps, hp, hS⟩ := h
 apply disk_meter_step_vc
 refine ⟨fun x w' => x = decide (m.arm = some 0) ∧ w' = w, ⟨_, DiskIn.cell hS (i := 2) (boolA _) rfl, fun ha => ⟨_, DiskIn.cell hS (i := 3) (intA _) rfl, ?_, rfl⟩, fun ha => ⟨?_, rfl⟩⟩, ?_⟩
 · obtain ⟨k, hk⟩ := Option.isSome_iff_exists.1 ha
   rw [(hp.arm k hk).1, hk]
   by_cases h0 : k = 0
   · subst h0; rfl
   · have : ¬ ((k : Int) = 0) := by omega
     simp [h0, this]
 · have : m.arm = none := by simpa using ha
   rw [this]; rfl
 rintro x w1 ⟨rfl, rfl⟩
 refine ⟨fun h0 => ?_, fun h0 => ?_⟩
 · have h0 : m.arm = some 0 := by simpa using h0
   obtain ⟨w2, r2, h2⟩ := hS.stL (i := 0) (o := 1) (off := 1) (T := 4) (v := .bool true) rfl (boolS _) rfl (by simp [dskL]) rfl
   refine ⟨w2, r2, ?_, ?_⟩
   · rw [stepM, if_pos h0]; rfl
   · rw [stepM, if_pos h0]
     exact ⟨p, hps, hp.upd m.steps true m.arm m.fails hp.arm hp.fails, h2⟩
 have h0 : ¬ m.arm = some 0 := by simpa using h0
 have w1s : IntKind.wrap .i64 ((m.steps : Int) + 1) = ((m.steps + 1 : Nat) : Int) := by rw [wrap_i64 (by omega) (by omega)]; omega
 obtain ⟨w3, r3, h3⟩ := hS.stL (i := 0) (o := 0) (off := 0) (T := 3) (v := .int .i64 ((m.steps + 1 : Nat) : Int)) rfl (intS _) rfl (by simp [dskL]) rfl
 obtain ⟨av', hav⟩ : ∃ av', IntKind.wrap .i64 (p.av - 1) = av' := ⟨_, rfl⟩
 have ha' : ∀ k : Nat, m.arm.map (fun x : Nat => x - 1) = some k → av' = (k : Int) ∧ k ≤ 9223372036854775807 := by
   intro k hk
   obtain ⟨j, hj, rfl⟩ := Option.map_eq_some_iff.1 hk
   obtain ⟨e1, e2⟩ := hp.arm j hj
   have : j ≠ 0 := fun e => h0 (by rw [hj, e])
   rw [← hav, e1, wrap_i64 (by omega) (by omega)]
   omega
 have h3 : St w0 X w3 (resD gd { m with steps := m.steps + 1 } p ++ DR p.FL N) := h3
 obtain ⟨w4, r4, h4⟩ := h3.stL (i := 0) (o := 3) (off := 3) (T := 3) (v := .int .i64 av') rfl (intS _) rfl (by simp [dskL]) rfl
 have hsome : (m.arm.map (fun x : Nat => x - 1)).isSome = m.arm.isSome := by cases m.arm <;> rfl
 have h4 : St w0 X w4 (resD gd { m with steps := m.steps + 1, arm := m.arm.map (fun x : Nat => x - 1) } { p with av := av' } ++ DR p.FL N) := by
   unfold resD dskL
   simp only [hsome]
   exact h4
 have C4 := fun {i v T} (hT : (isAgg T).run Tryz.prog w4 = .ok false w4) hv => DiskIn.cell h4 (i := i) (v := v) (T := T) hT hv
 refine ⟨_, DiskIn.cell hS (i := 0) (intA _) rfl, w3, by rw [w1s]; exact r3, _, DiskIn.cell h3 (i := 3) (intA _) rfl, w4, by show (Instr.storeAt _ _ (.int .i64 (IntKind.wrap .i64 (p.av - 1)))).run _ _ = _; rw [hav]; exact r4, _, _, _, C4 (i := 4) (insA' _) rfl, fun hz => ?_, fun hz => ?_⟩
 · have hfn : m.fails = [] := List.eq_nil_of_length_eq_zero (by have := hp.fails.len; simp at hz; omega)
   have e : stepM m = ({ m with steps := m.steps + 1, arm := m.arm.map (fun x : Nat => x - 1) }, none) := by rw [stepM, if_neg h0, hfn]
   rw [e]
   exact ⟨rfl, { p with av := av' }, hps, hp.upd (m.steps + 1) m.down _ m.fails ha' hp.fails, h4⟩
 · have hfn : p.fn ≠ 0 := by simpa using hz
   obtain ⟨gf, k, L, hfa, hF, hL⟩ := hp.fails.at_.resolve_left hfn
   have hlen := hp.fails.len
   have hle := hp.fails.le
   obtain ⟨x, r, hxr⟩ : ∃ x r, m.fails = x :: r := by
     cases hq : m.fails with
     | nil => rw [hq] at hlen; simp at hlen; omega
     | cons x r => exact ⟨x, r, rfl⟩
   have hx63 : x ≤ 9223372036854775807 := hp.fails.bd x (by rw [hxr]; simp)
   rw [hxr, niv_cons] at hL
   have hLk : L[k]? = some (.int .i64 (x : Int)) := by
     have := congrArg (fun l => l[0]?) hL
     simp only [List.getElem?_take, List.getElem?_drop, Nat.add_zero, List.getElem?_cons_zero] at this
     rwa [if_pos (by omega)] at this
   have hkl : k < L.length := (List.getElem?_eq_some_iff.1 hLk).1
   have hLr : (L.drop (k + 1)).take (p.fn - 1) = niv r := by
     have := congrArg (List.drop 1) hL
     rw [List.drop_take, List.drop_drop] at this
     simpa using this
   have h4F : (resD gd { m with steps := m.steps + 1, arm := m.arm.map (fun x : Nat => x - 1) } { p with av := av' } ++ DR p.FL N)[4]? = some (.arr gf 3 L) := by
     show some p.F = _
     rw [hF]
   have hld : (Instr.loadAt 3 (.pointer (some ⟨gf, k + Int.toNat (0 : Int) * 1, none⟩))).run Tryz.prog w4 = .ok (.int .i64 (x : Int)) w4 := h4.ldL h4F (intA _) rfl hLk
   refine ⟨_, _, _, C4 (i := 4) (insA' _) rfl, gf, k, hfa, by omega, by show (0 : Int) < ((p.fn : Nat) : Int); omega, _, hld, fun hx0 => ?_, fun hx0 => ?_⟩
   · have hx0 : x = 0 := by simp at hx0; omega
     subst hx0
     refine ⟨_, _, _, C4 (i := 4) (insA' _) rfl, by omega, by show (1 : Int) ≤ ((p.fn : Nat) : Int); omega, by show ((p.fn : Nat) : Int) ≤ ((p.fc : Nat) : Int); omega, fun a' hsub => ?_⟩
     obtain ⟨w5, r5, h5⟩ := h4.stL (i := 0) (o := 4) (off := 4) (T := 53) (v := .slice a' (p.fn - 1) (p.fc - 1)) rfl (insS _) rfl (by simp [dskL]) rfl
     have e : stepM m = ({ m with steps := m.steps + 1, arm := m.arm.map (fun x : Nat => x - 1), fails := r }, some 2) := by rw [stepM, if_neg h0, hxr]
     rw [e]
     refine ⟨w5, r5, rfl, { p with av := av', fa := a', fn := p.fn - 1, fc := p.fc - 1 }, hps, hp.upd (m.steps + 1) m.down _ r ha' ⟨?_, by omega, ?_, ?_⟩, h5⟩
     · rw [hxr] at hlen; simp at hlen; omega
     · by_cases h1 : p.fn - 1 = 0
       · exact .inl h1
       · right
         refine ⟨gf, k + 1, L, ?_, hF, hLr⟩
         have hne : p.fc ≠ 1 := by omega
         have h2 := hsub.2 hne
         show a' = _
         rw [h2]
         show p.fa.map _ = _
         rw [hfa]
         simp [Addr.add]
     · exact fun y hy => hp.fails.bd y (by rw [hxr]; simp [hy])
   · obtain ⟨y, rfl⟩ : ∃ y, x = y + 1 := ⟨x - 1, by simp at hx0; omega⟩
     have wy : IntKind.wrap .i64 (((y + 1 : Nat) : Int) - 1) = (y : Int) := by rw [wrap_i64 (by omega) (by omega)]; omega
     obtain ⟨w6, r6, h6⟩ := h4.stL (i := 4) (o := k) (off := k + Int.toNat (0 : Int) * 1) (T := 3) (v := .int .i64 (y : Int)) h4F (intS _) rfl hkl rfl
     have e : stepM m = ({ m with steps := m.steps + 1, arm := m.arm.map (fun x : Nat => x - 1), fails := y :: r }, none) := by rw [stepM, if_neg h0, hxr]
     rw [e]
     refine ⟨_, _, _, C4 (i := 4) (insA' _) rfl, gf, k, hfa, by omega, by show (0 : Int) < ((p.fn : Nat) : Int); omega, _, hld, gf, k, hfa, by omega, by show (0 : Int) < ((p.fn : Nat) : Int); omega, w6, by rw [wy]; exact r6, rfl, { p with av := av', F := .arr gf 3 (L.set k (.int .i64 (y : Int))) }, hps, hp.upd (m.steps + 1) m.down _ (y :: r) ha' ⟨?_, hle, ?_, ?_⟩, h6⟩
     · rw [hxr] at hlen; exact hlen
     · right
       refine ⟨gf, k, _, hfa, rfl, ?_⟩
       rw [niv_cons, ← hLr]
       have e1 : (L.set k (.int .i64 (y : Int))).drop k = .int .i64 (y : Int) :: L.drop (k + 1) := by
         rw [List.drop_eq_getElem_cons (by simpa using hkl), List.getElem_set_self, List.drop_set_of_lt (by omega)]
       rw [e1]
       obtain ⟨q, hq⟩ : ∃ q, p.fn = q + 1 := ⟨p.fn - 1, by omega⟩
       rw [hq, List.take_succ_cons]
       rfl
     · intro z hz
       rcases List.mem_cons.1 hz with rfl | hz
       · omega
       · exact hp.fails.bd z (by rw [hxr]; simp [hz])

end

open Go Sx
set_option maxRecDepth 8000

theorem sum_le_mul {B : Nat} : ∀ l : List Nat, (∀ x ∈ l, x ≤ B) → l.sum ≤ l.length * B
 | [], _ => by simp
 | x :: l, h => by
   have h1 := sum_le_mul l fun y hy => h y (by simp [hy])
   have h2 := h x (by simp)
   rw [List.sum_cons, List.length_cons, Nat.succ_mul]
   omega

section
variable {w0 w w' : World} {X : List Nat} {N N' : List Res} {gd : Nat} {ps : List Nat} {m : DiskM}

def lenE (fs : List FileM) (e : Ent) : Nat := (fileAt fs e.file).data.length
theorem lenE_le (hw : WFD m) (e : Ent) : lenE m.files e ≤ 1099511627776 := by
 unfold lenE fileAt
 by_cases hi : e.file < m.files.length
 · rw [List.getD, List.getElem?_eq_getElem hi]
   exact (hw.syn _ (List.getElem_mem hi)).2
 · rw [List.getD, List.getElem?_eq_none (by omega)]
   simp [file0]
theorem usedM_le (hw : WFD m) : usedM m ≤ 4503599627370496 := by
 have h1 := sum_le_mul (B := 1099511627776) (m.now.map (lenE m.files)) fun x hx => by
   obtain ⟨e, _, rfl⟩ := List.mem_map.1 hx
   exact lenE_le hw e
 rw [List.length_map] at h1
 have h2 := hw.okNow.len
 have h3 : m.now.length * 1099511627776 ≤ 4096 * 1099511627776 := Nat.mul_le_mul_right _ h2
 show (m.now.map (lenE m.files)).sum ≤ _
 omega

theorem used_spec (h : DiskIn w0 X w gd ps m N) :
   Calls Tryz.prog 83 #[.pointer (some ⟨gd, 0, none⟩)] w fun e w' => e = .returned (.int .i64 (usedM m : Int)) ∧ Chg [] w w' := by
 obtain ⟨p, hps, hp, hS⟩ := h
 have hw := hp.wf
 apply disk_Disk_Used_vc
 have hg : w.heap[p.gn]? = some (.map p.esn p.ckn) := hS.holds 1 _ rfl
 have hit : St w [] (w.alloc (.mapIter (some p.gn) p.ckn #[] p.ckn)) [.blk w.heap.size (.mapIter (some p.gn) p.ckn #[] p.ckn)] := (St.start w).add (Chg.alloc _ _) (heap_alloc_new w _) (by simp [Res.fp])
 obtain ⟨gr, hgr⟩ : ∃ gr, w.heap.size = gr := ⟨_, rfl⟩
 rw [hgr] at hit
 refine ⟨_, DiskIn.cell hS (i := 6) (dirA _) rfl, _, _, run_range_map w 112 9 121 p.gn p.esn p.ckn dirT hg, fun x w' => ∃ (seen : Array Nat) (out : Dir), x = ((out.map (lenE m.files)).sum : Int) ∧ (out ++ (leftA p.esn p.Mn seen).map (·.2)).Perm p.Mn ∧ St w [] w' [.blk gr (.mapIter (some p.gn) p.ckn seen p.ckn)],
   fun _ w' => muR p.gn gr w', ⟨#[], [], rfl, by rw [leftA_all hp.mapn, List.nil_append], hit⟩, ?_⟩
 rw [hgr]
 rintro x w2 ⟨seen, out, rfl, hperm, h2⟩
 have hS2 := hS.same h2.chg
 have hr2 : w2.heap[gr]? = some (.mapIter (some p.gn) p.ckn seen p.ckn) := h2.holds 0 _ rfl
 have hg2 : w2.heap[p.gn]? = some (.map p.esn p.ckn) := hS2.holds 1 _ rfl
 rcases range_step (P := Tryz.prog) hp.mapn hr2 hg2 with ⟨hz, hrun⟩ | ⟨e, r, w3, hw3, hrun, hrM, hent, hleft, hlt⟩
 · refine ⟨false, [], w2, hrun, fun h => (by cases h), fun _ => ⟨?_, h2.chg⟩⟩
   rw [hz, List.map_nil, List.append_nil] at hperm
   have hsum : (out.map (lenE m.files)).sum = usedM m := ((hperm.trans hp.isn.perm).map (lenE m.files)).sum_nat
   rw [hsum]
 · refine ⟨true, _, _, hrun, fun _ => ?_, fun h => (by cases h)⟩
   have h3 : St w [] w3 [.blk gr (.mapIter (some p.gn) p.ckn seen p.ckn)] := by
     rcases hw3 with rfl | rfl
     · exact h2
     · exact h2.drew
   have h4 := St.putBlk h3 (i := 0) (o' := .mapIter (some p.gn) p.ckn (seen.push e.born) p.ckn) rfl
   have h4 : St w [] (w3.putObj gr (.mapIter (some p.gn) p.ckn (seen.push e.born) p.ckn)) [.blk gr (.mapIter (some p.gn) p.ckn (seen.push e.born) p.ckn)] := h4
   have hS4 := hS.same h4.chg
   have hr4 := h4.holds 0 _ rfl
   have hg4 : (w3.putObj gr (.mapIter (some p.gn) p.ckn (seen.push e.born) p.ckn)).heap[p.gn]? = some (.map p.esn p.ckn) := hS4.holds 1 _ rfl
   have hrn := hp.isn.perm.mem_iff.1 hrM
   obtain ⟨f, hf, hpg, hfm⟩ := hp.file (hw.okNow.ent r hrn).1
   have hlr : lenE m.files r = f.data.length := by rw [lenE, hfm]
   have hp2 : (out ++ [r] ++ (leftA p.esn p.Mn (seen.push e.born)).map (·.2)).Perm p.Mn := by
     refine List.Perm.trans ?_ hperm
     rw [List.append_assoc]
     exact List.Perm.append_left out hleft.symm
   have hle : ((out ++ [r]).map (lenE m.files)).sum ≤ 4503599627370496 := by
     have h1 := sum_le_mul (B := 1099511627776) ((out ++ [r]).map (lenE m.files)) fun x hx => by
       obtain ⟨e, _, rfl⟩ := List.mem_map.1 hx
       exact lenE_le hw e
     rw [List.length_map] at h1
     have h2 : (out ++ [r]).length ≤ 4096 := by
       have := hp2.length_eq
       have h5 := hp.isn.perm.length_eq
       have h6 := hw.okNow.len
       rw [List.length_append] at this
       omega
     have h3 : (out ++ [r]).length * 1099511627776 ≤ 4096 * 1099511627776 := Nat.mul_le_mul_right _ h2
     omega
   have hsumr : ((out ++ [r]).map (lenE m.files)).sum = (out.map (lenE m.files)).sum + f.data.length := by rw [List.map_append, List.sum_append, List.map_singleton, List.sum_singleton, hlr]
   have hent' := hent _ hr4 hg4
   have hvl : vlE p.ps r = .pointer (some ⟨f.g, 0, none⟩) := by show Value.pointer (some ⟨p.ps.getD r.file 0, 0, none⟩) = _; rw [hpg]
   rw [hvl] at hent'
   refine ⟨_, f.g, 0, _, hent', _, _, _, (St.ldFile hS4 hf).1, ⟨seen.push e.born, out ++ [r], ?_, hp2, h4⟩, ?_⟩
   · rw [wrap_i64 (by omega) (by omega), hsumr]; omega
   · show muR p.gn gr _ < muR p.gn gr _
     rw [muR_eq hg4 hr4, muR_eq hg2 hr2, leftA_size hp.mapn, leftA_size hp.mapn]
     exact hlt

theorem ch_ext {ps : List Nat} {cs : List ChM} {k g : Nat} (hk : k = ps.length) (h : ∀ c ∈ cs, ∀ i, c.made = some i → i < k) : cs.flatMap (chC (ps ++ [g])) = cs.flatMap (chC ps) := by
 induction cs with
 | nil => rfl
 | cons c cs ih =>
   rw [List.flatMap_cons, List.flatMap_cons, ih fun c' hc' => h c' (by simp [hc'])]
   congr 1
   unfold chC
   cases hm : c.made with
   | none => rfl
   | some i =>
     have hi := h c (by simp) i hm
     have : (ps ++ [g]).getD i 0 = ps.getD i 0 := by simp [List.getD, List.getElem?_append_left (show i < ps.length by omega)]
     simp only [ptrV, this]
theorem ptr_ext {ps : List Nat} {i g : Nat} (hi : i < ps.length) : ptrV (ps ++ [g]) i = ptrV ps i := by
 have : (ps ++ [g]).getD i 0 = ps.getD i 0 := by simp [List.getD, List.getElem?_append_left hi]
 simp only [ptrV, this]
theorem ptr_new (ps : List Nat) (g : Nat) : ptrV (ps ++ [g]) ps.length = .pointer (some ⟨g, 0, none⟩) := by simp [ptrV, List.getD]

theorem DOk.psl {p : DP} (hp : DOk m p) : p.ps.length = m.files.length := by have := congrArg List.length hp.files; simpa [DP.ps] using this

theorem WFD.addFile (h : WFD m) {f : FileM} (hf : f.syn ≤ f.data.length ∧ f.data.length ≤ 1099511627776) : WFD { m with files := m.files ++ [f] } :=
 ⟨h.now, fun k => (h.dirs k).mono (by simp), fun c hc i hi => by have := h.made c hc i hi; simp; omega, fun g hg => by
   rcases List.mem_append.1 hg with hg | hg
   · exact h.syn g hg
   · simp at hg; rw [hg]; exact hf, h.size⟩
theorem DOk.addFile {p : DP} (hp : DOk m p) (f : FR) (hf : f.syn ≤ f.data.length ∧ f.data.length ≤ 1099511627776) : DOk { m with files := m.files ++ [f.m] } { p with FL := p.FL ++ [f] } := by
 have hl := hp.psl
 have hps : ({ p with FL := p.FL ++ [f] } : DP).ps = p.ps ++ [f.g] := by simp [DP.ps]
 refine ⟨hp.wf.addFile hf, by simp [hp.files], hp.arm, hp.fails, ?_, hp.isn, ?_, hp.iss⟩
 · rw [hps]
   refine MapE.congr hp.mapn fun r hr => ?_
   have := (hp.wf.okNow.ent r (hp.isn.perm.mem_iff.1 hr)).1
   exact (ptr_ext (by omega)).symm
 · rw [hps]
   refine MapE.congr hp.maps fun r hr => ?_
   have := (hp.wf.okSyn.ent r (hp.iss.perm.mem_iff.1 hr)).1
   exact (ptr_ext (by omega)).symm
theorem St.addFile {p : DP} (hp : DOk m p) {f : FR} (h : St w0 X w ((resD gd m p ++ DR p.FL N) ++ [f.blk] ++ [f.row])) : St w0 X w (resD gd { m with files := m.files ++ [f.m] } { p with FL := p.FL ++ [f] } ++ DR (p.FL ++ [f]) N) := by
 have hps : ({ p with FL := p.FL ++ [f] } : DP).ps = p.ps ++ [f.g] := by simp [DP.ps]
 have e : resD gd { m with files := m.files ++ [f.m] } { p with FL := p.FL ++ [f] } = resD gd m p := by
   unfold resD
   rw [hps]
   have := ch_ext (g := f.g) hp.psl.symm hp.wf.made
   simp only [this]
   rfl
 rw [e]
 refine h.perm ?_
 have h1 := perm_DR (FL := p.FL ++ [f]) (i := p.FL.length) (f := f) (by simp) (resD gd m p) N
 have h2 : (p.FL ++ [f]).eraseIdx p.FL.length = p.FL := by simp [List.eraseIdx_append_of_length_le]
 rw [h2] at h1
 refine List.Perm.trans ?_ h1.symm
 rw [List.append_assoc]
 exact List.perm_append_comm

theorem fileZ (w : World) : (Instr.build 128 #[]).run Tryz.prog w = .ok (.agg #[.slice none 0 0, .int .i64 0]) w := by
 apply run_build
 kernel_rfl
theorem chT : ElemT Tryz.prog 115 123 3 40 (.agg #[.pointer none, .string ByteArray.empty, .string ByteArray.empty]) := ⟨by kernel_rfl, ⟨Tryz.t123, by kernel_rfl, by kernel_rfl, by kernel_rfl, by kernel_rfl⟩, rfl, by decide⟩
theorem built_ch : Tryz.prog.built 123 = fun parts => Instr.fill (fun i => (#[(0, 1), (1, 1), (2, 1)] : Array (Nat × Nat))[i]?) #[.pointer none, .string ⟨#[]⟩, .string ⟨#[]⟩] parts := by kernel_rfl
theorem ch_build02 (g : Nat) (n : Nm) (w : World) : (Instr.build 123 #[(0, .pointer (some ⟨g, 0, none⟩)), (2, strV n)]).run Tryz.prog w = .ok (.agg #[.pointer (some ⟨g, 0, none⟩), .string ⟨#[]⟩, strV n]) w := by
 apply run_build
 rw [built_ch]
 show Instr.fill _ _ [(0, _), (2, strV n)] = _
 rw [fill_step (off := 0) (sz := 1) rfl rfl (by simp), fill_step (off := 2) (sz := 1) rfl rfl (by simp [Value.cells, strV])]
 rfl
theorem stepM_same (m : DiskM) : (stepM m).1.files = m.files ∧ (stepM m).1.now = m.now ∧ (stepM m).1.chs = m.chs ∧ (stepM m).1.syn = m.syn ∧ (stepM m).1.size = m.size := by
 obtain ⟨s, d, a, f, e⟩ := stepM_cases m
 rw [e]; exact ⟨rfl, rfl, rfl, rfl, rfl⟩

set_option maxHeartbeats 1000000 in
theorem create_spec (n : Nm) (h : DiskIn w0 X w gd ps m N) (hb : m.steps < 4611686018427387904) (hc : m.chs.length < 1000000000) :
   Calls Tryz.prog 46 #[.pointer (some ⟨gd, 0, none⟩), strV n] w fun e w' => e = .returned (errV (createM m n).2) ∧ ∃ ps', DiskIn w0 X w' gd ps' (createM m n).1 N := by
 obtain ⟨mI, hI⟩ := eI
 apply disk_Disk_Create_vc
 obtain ⟨g, w1, r1, h1⟩ := (St.start w).lit strT [strV n] (by simp [Value.oneCell', strV]) (by simp)
 have hD1 := h.same h1.chg
 refine ⟨_, _, _, w1, r1, (ready_spec _ _ _ [n] hD1 (h1.rd (i := 0) rfl) (by simp)).mono ?_⟩
 rintro e w2 ⟨rfl, rfl⟩
 obtain ⟨p, hps, hp, hS⟩ := hD1
 have hw := hp.wf
 refine ⟨_, rfl, _, neqS_nil hI _ _ _, fun hne => ?_, fun hok => ?_⟩
 · obtain ⟨e, he⟩ := Option.isSome_iff_exists.1 hne
   have : createM m n = (m, some e) := by unfold createM; rw [he]
   rw [this, he]
   exact ⟨rfl, ps, p, hps, hp, hS⟩
 have hrn : readyM m [n] = none := by simpa using hok
 have hgood : goodN n = true := by
   unfold readyM at hrn
   cases hg : goodN n with
   | true => rfl
   | false => simp [hg] at hrn; split at hrn <;> cases hrn
 have hcr : createM m n = if (findD m.now n).isSome then (m, some 4) else if 4096 ≤ m.now.length then (m, some 19) else stepsM m fun m => createF m n := by unfold createM; rw [hrn]
 have hlk := look_spec hp (w := w2) (hS.holds 1 _ rfl) n
 refine ⟨_, DiskIn.cell hS (i := 6) (dirA _) rfl, _, _, w2, hlk, fun hyes => ?_, fun hno => ?_⟩
 · rw [hcr, if_pos hyes]
   exact ⟨rfl, ps, p, hps, hp, hS⟩
 have hno' : ¬ (findD m.now n).isSome = true := by rw [hno]; simp
 rw [if_neg hno'] at hcr
 have hfn : findD m.now n = none := by simpa using hno
 refine ⟨_, DiskIn.cell hS (i := 6) (dirA _) rfl, _, w2, hp.mapn.lenOf (P := Tryz.prog) dirT (hS.holds 1 _ rfl) _, fun hge => ?_, fun hlt => ?_⟩
 · have : 4096 ≤ m.now.length := by have := hp.isn.perm.length_eq; simp at hge; omega
   rw [hcr, if_pos this]
   exact ⟨rfl, ps, p, hps, hp, hS⟩
 have hlen : ¬ 4096 ≤ m.now.length := by have := hp.isn.perm.length_eq; simp at hlt; omega
 rw [if_neg hlen] at hcr
 refine (step_spec ⟨p, hps, hp, hS⟩ hb).mono ?_
 rintro e w5 ⟨rfl, hD5⟩
 refine ⟨_, rfl, _, neqS_nil hI _ _ _, fun hne => ?_, fun hok => ?_⟩
 · obtain ⟨e, he⟩ := Option.isSome_iff_exists.1 hne
   rw [hcr]
   unfold stepsM
   rw [he]
   exact ⟨rfl, ps, hD5⟩
 have hst : (stepM m).2 = none := by simpa using hok
 have hres : createM m n = (createF (stepM m).1 n, none) := by rw [hcr]; unfold stepsM; rw [hst]
 rw [hres]
 obtain ⟨m1, hm1⟩ : ∃ m1, (stepM m).1 = m1 := ⟨_, rfl⟩
 obtain ⟨e1, e2, e3, e4, _⟩ := stepM_same m
 rw [hm1] at hD5 e1 e2 e3 e4 ⊢
 clear hS hp hps hlk hlt
 clear p
 obtain ⟨p, hps, hp, hS⟩ := hD5
 obtain ⟨g, w6, r6, h6⟩ := hS.box (P := Tryz.prog) 128 (.agg #[.slice none 0 0, .int .i64 0])
 have h6' := h6.addNil 5 1
 let f : FR := ⟨g, none, 0, [], 0⟩
 have h6' : St w0 X w6 ((resD gd m1 p ++ DR p.FL N) ++ [f.blk] ++ [f.row]) := h6'
 have h7 := St.addFile hp h6'
 have hp7 := hp.addFile f ⟨Nat.le_refl _, by simp [f]⟩
 have hfz : f.m = file0 := rfl
 rw [hfz] at h7 hp7
 obtain ⟨m2, hm2⟩ : ∃ m2, ({ m1 with files := m1.files ++ [file0] } : DiskM) = m2 := ⟨_, rfl⟩
 obtain ⟨p2, hp2⟩ : ∃ p2, ({ p with FL := p.FL ++ [f] } : DP) = p2 := ⟨_, rfl⟩
 have hps2 : p2.ps = ps ++ [g] := by rw [← hp2, ← hps]; simp [DP.ps, f]
 have hpsl : ps.length = m1.files.length := by rw [← hps]; exact hp.psl
 have hFL : p.FL ++ [f] = p2.FL := by rw [← hp2]
 rw [hm2, hp2] at hp7
 rw [hm2, hp2, hFL] at h7
 have hm2n : m2.now = m1.now := by rw [← hm2]
 have hm2c : m2.chs = m1.chs := by rw [← hm2]
 have hm2f : m2.files = m1.files ++ [file0] := by rw [← hm2]
 have hgn : w6.heap[p2.gn]? = some (.map p2.esn p2.ckn) := h7.holds 1 _ rfl
 obtain ⟨es', ck', rU, hE'⟩ := hp7.mapn.updateK (P := Tryz.prog) (keyD p2.Mn) dirT hgn (⟨n, m1.files.length⟩ : Ent) trivial
 have hval : vlE p2.ps (⟨n, m1.files.length⟩ : Ent) = .pointer (some ⟨g, 0, none⟩) := by
   show ptrV p2.ps m1.files.length = _
   rw [hps2, ← hpsl]
   exact ptr_new ps g
 rw [hval] at rU
 have h8 := St.putBlk h7 (i := 1) (o' := .map es' ck') rfl
 have h8 : St w0 X (w6.putObj p2.gn (.map es' ck')) (resD gd m2 { p2 with esn := es', ckn := ck' } ++ DR p2.FL N) := h8
 have hl8 : m2.chs.length < 1000000000 := by rw [hm2c, e3]; exact hc
 obtain ⟨g9, w9, vb, vd, w10, r9, r10, h10, _⟩ := h8.pushA (i := 3) (ty := 115) chT rfl (chC p2.ps (chMade m1 n)) (chC_len _ _) (by decide) (chC_one _ _) (by omega) (by simp only [maxLen]; omega)
 have hcc : (chC p2.ps (chMade m1 n)).toArray = #[.pointer (some ⟨g, 0, none⟩), .string ⟨#[]⟩, strV n] := by
   show ([ptrV p2.ps m1.files.length, strV [], strV n] : List Value).toArray = _
   have : ptrV p2.ps m1.files.length = .pointer (some ⟨g, 0, none⟩) := hval
   rw [this]; rfl
 rw [hcc] at r9
 obtain ⟨w11, r11, h11⟩ := h10.stL (i := 0) (o := 8) (off := 8) (T := 115) (v := .slice vb (m2.chs.length + 1) vd) rfl (chsS _) rfl (by simp [dskL]) rfl
 have hfin : createF m1 n = { doCh m2 (chMade m1 n) with files := m2.files } := by
   rw [← hm2]; rfl
 refine ⟨_, fileZ w5, g, w6, r6, _, DiskIn.cell h7 (i := 6) (dirA _) rfl, _, rU, _, _, _, DiskIn.cell h8 (i := 8) (chsA _) rfl, _, ch_build02 g n _, _, _, _, w9, r9, vb, _, vd, w10, r10, w11, r11, rfl, p2.ps, { p2 with esn := es', ckn := ck', ca := vb, cc := vd, Mn := updM Ent.name p2.Mn ⟨n, m1.files.length⟩ }, rfl, ?_, ?_⟩
 · rw [hfin]
   have hno1 : findD m1.now n = none := by rw [e2]; exact hfn
   have hmk : mkD m2.now (chMade m1 n) = insA Ent.name m2.now ⟨n, m1.files.length⟩ := rfl
   refine ⟨hp7.wf.snoc (Nat.le_refl _) hp7.wf.syn (fun i hi => ?_) ?_, hp7.files, hp7.arm, hp7.fails, hE', hp7.isn.upd _, hp7.maps, hp7.iss⟩
   · have : i = m1.files.length := by
       have : some m1.files.length = some i := hi
       exact (Option.some.inj this).symm
     rw [hm2f, this]; simp
   · rw [hmk]
     refine hp7.wf.okNow.ins (by rw [hm2f]; simp) hgood (.inl ?_) fun x hx _ => ?_
     · rw [hm2n, e2]; omega
     · rw [hm2n] at hx
       have := (hp.wf.okNow.ent x hx).1
       omega
 · rw [hfin]
   show St w0 X w11 (resD gd { doCh m2 (chMade m1 n) with files := m2.files } { p2 with esn := es', ckn := ck', ca := vb, cc := vd, Mn := updM Ent.name p2.Mn ⟨n, m1.files.length⟩ } ++ DR p2.FL N)
   have el : (m2.chs ++ [chMade m1 n]).length = m2.chs.length + 1 := by simp
   have ef : (m2.chs ++ [chMade m1 n]).flatMap (chC p2.ps) = m2.chs.flatMap (chC p2.ps) ++ chC p2.ps (chMade m1 n) := by simp
   unfold resD dskL doCh
   show St w0 X w11 (.arr gd 117 _ :: .blk _ _ :: .blk _ _ :: .row _ _ (.slice vb (m2.chs ++ [chMade m1 n]).length vd) (m2.chs ++ [chMade m1 n]).length ((m2.chs ++ [chMade m1 n]).flatMap (chC p2.ps)) :: _ :: _)
   simp only [el, ef]
   exact h11

end

open Go Sx
set_option maxRecDepth 8000

section
variable {w0 w w' : World} {X : List Nat} {N N' : List Res} {gd : Nat} {ps : List Nat} {m : DiskM}

theorem fileAt_setF {fs : List FileM} {i : Nat} {f : FileM → FileM} (hi : i < fs.length) : fileAt (setF fs i f) i = f (fileAt fs i) := by
 simp [fileAt, setF, List.getD, hi]
theorem fileAt_setF_ne {fs : List FileM} {i j : Nat} {f : FileM → FileM} (h : i ≠ j) : fileAt (setF fs i f) j = fileAt fs j := by
 simp [fileAt, setF, List.getD, List.getElem?_set_ne h]
theorem setF_len (fs : List FileM) (i : Nat) (f : FileM → FileM) : (setF fs i f).length = fs.length := by simp [setF]
theorem setF_same {fs : List FileM} {i : Nat} {f : FileM → FileM} (h : f (fileAt fs i) = fileAt fs i) : setF fs i f = fs := by
 unfold setF
 rw [h]
 by_cases hi : i < fs.length
 · have : fileAt fs i = fs[i] := by simp [fileAt, List.getD, hi]
   rw [this, List.set_getElem_self]
 · rw [List.set_eq_of_length_le (by omega)]
theorem setF_setF {fs : List FileM} {i : Nat} {f g : FileM → FileM} (hi : i < fs.length) : setF (setF fs i f) i g = setF fs i fun x => g (f x) := by
 unfold setF
 have : fileAt (fs.set i (f (fileAt fs i))) i = f (fileAt fs i) := by simp [fileAt, List.getD, hi]
 rw [this, List.set_set]

theorem WFD.files (h : WFD m) {fs : List FileM} (hl : fs.length = m.files.length) (hs : ∀ f ∈ fs, f.syn ≤ f.data.length ∧ f.data.length ≤ 1099511627776) : WFD { m with files := fs } :=
 ⟨h.now, fun k => by show OkDir fs.length _; rw [hl]; exact h.dirs k, fun c hc i hi => by show i < fs.length; rw [hl]; exact h.made c hc i hi, hs, h.size⟩
theorem syn_setF (h : ∀ f ∈ m.files, f.syn ≤ f.data.length ∧ f.data.length ≤ 1099511627776) {i : Nat} {g : FileM} (hg : g.syn ≤ g.data.length ∧ g.data.length ≤ 1099511627776) : ∀ f ∈ setF m.files i (fun _ => g), f.syn ≤ f.data.length ∧ f.data.length ≤ 1099511627776 := by
 intro f hf
 rcases List.mem_or_eq_of_mem_set hf with h1 | h1
 · exact h f h1
 · rw [h1]; exact hg

theorem DOk.updFile {p : DP} (hp : DOk m p) {i : Nat} {f f' : FR} (hf : p.FL[i]? = some f) (hg : f'.g = f.g) (hs : f'.syn ≤ f'.data.length ∧ f'.data.length ≤ 1099511627776) : DOk { m with files := setF m.files i fun _ => f'.m } { p with FL := p.FL.set i f' } ∧ ({ p with FL := p.FL.set i f' } : DP).ps = p.ps := by
 have hps : ({ p with FL := p.FL.set i f' } : DP).ps = p.ps := by
   unfold DP.ps
   rw [List.map_set, hg]
   have : (p.FL.map FR.g)[i]? = some f.g := by rw [List.getElem?_map, hf]; rfl
   obtain ⟨h1, h2⟩ := List.getElem?_eq_some_iff.1 this
   rw [← h2, List.set_getElem_self]
 refine ⟨⟨hp.wf.files (setF_len _ _ _) (syn_setF hp.wf.syn hs), ?_, hp.arm, hp.fails, ?_, hp.isn, ?_, hp.iss⟩, hps⟩
 · show (p.FL.set i f').map FR.m = setF m.files i fun _ => f'.m
   rw [List.map_set, hp.files]; rfl
 · rw [hps]; exact hp.mapn
 · rw [hps]; exact hp.maps

theorem St.updFile {p : DP} {i : Nat} {f f' : FR} (hf : p.FL[i]? = some f) (hps : ({ p with FL := p.FL.set i f' } : DP).ps = p.ps) (h : St w0 X w' (f'.blk :: f'.row :: (resD gd m p ++ DR (p.FL.eraseIdx i) N))) : St w0 X w' (resD gd { m with files := setF m.files i fun _ => f'.m } { p with FL := p.FL.set i f' } ++ DR (p.FL.set i f') N) := by
 have hl := (List.getElem?_eq_some_iff.1 hf).1
 have e : resD gd { m with files := setF m.files i fun _ => f'.m } { p with FL := p.FL.set i f' } = resD gd m p := by
   unfold resD
   rw [hps]
   rfl
 rw [e]
 have h1 := perm_DR (FL := p.FL.set i f') (i := i) (f := f') (by simp [hl]) (resD gd m p) N
 rw [eraseIdx_set] at h1
 exact h.perm h1.symm

theorem le_sum_of_mem : ∀ (l : List Nat) (x : Nat), x ∈ l → x ≤ l.sum
 | [], x, h => by simp at h
 | y :: l, x, h => by
   rw [List.sum_cons]
   rcases List.mem_cons.1 h with rfl | h
   · omega
   · have := le_sum_of_mem l x h; omega
theorem fits_le : ∀ (qs : List (List UInt8)) (r : Int), fits r qs = true → qs = [] ∨ (qs.flatten.length : Int) ≤ r
 | [], r, _ => .inl rfl
 | p :: qs, r, h => by
   simp only [fits, Bool.and_eq_true, decide_eq_true_eq] at h
   right
   rcases fits_le qs _ h.2 with rfl | h2
   · simpa using h.1
   · rw [List.flatten_cons, List.length_append]; omega

theorem appendF_files (m : DiskM) (i : Nat) (qs : List (List UInt8)) : (appendF m i qs).files = setF m.files i fun f => ⟨f.data ++ qs.flatten, f.syn⟩ := rfl

set_option maxHeartbeats 1000000 in
theorem append_spec (n : Nm) (a : Option Addr) (k c : Nat) (vs : List Value) (qs : List (List UInt8)) (h : DiskIn w0 X w gd ps m N) (hq : ∀ {w' ps' m'}, DiskIn w0 X w' gd ps' m' N → Rd w' a k c 1 vs ∧ Row2 w' vs qs) (hb : m.steps < 4611686018427387904) (hk : k ≤ 1000000000) :
   Calls Tryz.prog 47 #[.pointer (some ⟨gd, 0, none⟩), strV n, .slice a k c] w fun e w' => e = .returned (errV (appendM m n qs).2) ∧ DiskIn w0 X w' gd ps (appendM m n qs).1 N := by
 obtain ⟨mI, hI⟩ := eI
 have hw := h.wf
 have hqk : qs.length = k := by
   obtain ⟨h1, h2⟩ := hq h
   have := h1.len
   have := h2.len
   omega
 apply disk_Disk_Append_vc
 refine (found_spec n h).mono ?_
 rintro e w1 ⟨rfl, c1⟩
 have hD1 := h.same c1
 refine ⟨_, _, rfl, _, neqS_nil hI _ _ _, fun hne => ?_, fun hok => ?_⟩
 · obtain ⟨e, he⟩ := Option.isSome_iff_exists.1 hne
   have : appendM m n qs = (m, some e) := by unfold appendM; rw [he]
   rw [this, he]
   exact ⟨rfl, hD1⟩
 have hfn : foundE m n = none := by simpa using hok
 rw [if_pos hfn]
 obtain ⟨hil, e0, he0, hen, hef, _⟩ := foundI_lt hw hfn
 have hap : appendM m n qs = if fits (m.size - usedM m) qs then stepsM m fun m' => appendF m' (foundI m n) qs else (m, some 3) := by simp only [appendM, hfn]
 have hsz := hw.size
 have hus := usedM_le hw
 refine ⟨fun w' => DiskIn w0 X w' gd ps m N, hD1.same (Chg.drew [] w1), m.size, fun w' h' => ?_, (used_spec (hD1.same (Chg.drew [] w1))).mono ?_⟩
 · obtain ⟨p, _, _, hS⟩ := h'
   exact DiskIn.cell hS (i := 5) (intA _) rfl
 rintro e w2 ⟨rfl, c2⟩
 have hD2 := (hD1.same (Chg.drew [] w1)).same c2
 have wr : IntKind.wrap .i64 (m.size - (usedM m : Int)) = m.size - (usedM m : Int) := wrap_i64 (by omega) (by omega)
 refine ⟨_, rfl, fun w' => DiskIn w0 X w' gd ps m N, fun _ h => h, hD2, ?_⟩
 rw [wr]
 refine ⟨fun x y w' => ∃ i : Nat, y = (i : Int) ∧ i ≤ k ∧ x ≤ 67108864 ∧ -9007199254740992 ≤ x ∧ fits (m.size - usedM m) qs = fits x (qs.drop i) ∧ w' = w2, fun _ y _ => k - y.toNat, ⟨0, rfl, by omega, by omega, by omega, by simp, rfl⟩, ?_⟩
 rintro x y w3 ⟨i, rfl, hi, hx1, hx2, hfit, rfl⟩
 obtain ⟨hr, h2⟩ := hq hD2
 refine ⟨fun hlt => ?_, fun hge => ?_⟩
 · have hi' : i < k := by simp at hlt; omega
   obtain ⟨b, o, a', n', c', ha, hv, hrd, q⟩ := ixS hr.cells h2 (i := i) (by omega)
   have hln := hrd.lenB
   have hdr : qs.drop i = qs.getD i [] :: qs.drop (i + 1) := by rw [List.drop_eq_getElem_cons (by omega)]; simp [List.getD, show i < qs.length by omega]
   rw [hdr, fits, hln] at hfit
   refine ⟨b, o, ha, by omega, by omega, _, _, _, q w3 hr.cells, fun hgt => ?_, fun hle => ?_⟩
   · have : ¬ ((n' : Int) ≤ x) := by simp at hgt; omega
     rw [hap, hfit]
     simp only [this, decide_false, Bool.false_and, Bool.false_eq_true, if_false]
     exact ⟨rfl, hD2⟩
   · have hle : (n' : Int) ≤ x := by simp at hle; omega
     refine ⟨⟨i + 1, wrap_succ hi' (by omega), by omega, ?_, ?_, ?_, rfl⟩, mu_succ hi' (by omega)⟩
     · rw [wrap_i64 (by omega) (by omega)]; omega
     · rw [wrap_i64 (by omega) (by omega)]; omega
     · rw [wrap_i64 (by omega) (by omega), hfit, decide_eq_true hle, Bool.true_and]
 have hi' : i = k := by simp at hge; omega
 have hft : fits (m.size - usedM m) qs = true := by rw [hfit, hi', List.drop_of_length_le (by omega)]; rfl
 rw [hft, if_pos rfl] at hap
 refine (step_spec hD2 hb).mono ?_
 rintro e w4 ⟨rfl, hD4⟩
 refine ⟨_, rfl, _, neqS_nil hI _ _ _, fun hne => ?_, fun hok => ?_⟩
 · obtain ⟨e, he⟩ := Option.isSome_iff_exists.1 hne
   rw [hap]
   unfold stepsM
   rw [he]
   exact ⟨rfl, hD4⟩
 have hst : (stepM m).2 = none := by simpa using hok
 have hres : appendM m n qs = (appendF (stepM m).1 (foundI m n) qs, none) := by rw [hap]; unfold stepsM; rw [hst]
 rw [hres]
 obtain ⟨m1, hm1⟩ : ∃ m1, (stepM m).1 = m1 := ⟨_, rfl⟩
 obtain ⟨e1, e2, e3, e4, _⟩ := stepM_same m
 rw [hm1] at hD4 e1 e2 e3 e4 ⊢
 obtain ⟨j, hj⟩ : ∃ j, foundI m n = j := ⟨_, rfl⟩
 rw [hj] at hil hef ⊢
 -- how long the file may grow
 have hbound : ∀ t, (fileAt m1.files j).data.length + (qs.take t).flatten.length ≤ 1099511627776 := by
   intro t
   have hdl := (hw.syn (fileAt m.files j) (by simp [fileAt, List.getD, hil])).2
   rcases fits_le qs _ hft with rfl | hle
   · rw [e1]; simpa using hdl
   · have h1 : (fileAt m.files j).data.length ≤ usedM m := le_sum_of_mem _ _ (List.mem_map.2 ⟨e0, he0, by rw [hef]⟩)
     have h2 := flat_take_le qs t
     rw [e1]; omega
 have happ0 : appendF m1 j ([] : List (List UInt8)) = m1 := by
   unfold appendF
   rw [setF_same (by simp)]
 refine ⟨fun y w' => ∃ i : Nat, y = (i : Int) ∧ i ≤ k ∧ DiskIn w0 X w' gd ps (appendF m1 j (qs.take i)) N, fun y _ => k - y.toNat, ⟨0, rfl, by omega, by rw [List.take_zero, happ0]; exact hD4⟩, ?_⟩
 rintro y w5 ⟨i, rfl, hi, hD5⟩
 refine ⟨fun hlt => ?_, fun hge => ?_⟩
 · have hi' : i < k := by simp at hlt; omega
   obtain ⟨hr, h2⟩ := hq hD5
   obtain ⟨b, o, a', n', c', ha, hv, hrd, q⟩ := ixS hr.cells h2 (i := i) (by omega)
   have hln := hrd.lenB
   obtain ⟨p, hps, hp, hS⟩ := hD5
   have hjl : j < (appendF m1 j (qs.take i)).files.length := by rw [appendF_files, setF_len, e1]; exact hil
   obtain ⟨f, hf, hpg, hfm⟩ := hp.file hjl
   have hfm2 : fileAt (appendF m1 j (qs.take i)).files j = ⟨(fileAt m1.files j).data ++ (qs.take i).flatten, (fileAt m1.files j).syn⟩ := by rw [appendF_files, fileAt_setF (by rw [e1]; exact hil)]
   have hfd : f.data = (fileAt m1.files j).data ++ (qs.take i).flatten := by rw [hfm2] at hfm; exact (congrArg FileM.data hfm).symm
   have hfs : f.syn = (fileAt m1.files j).syn := by rw [hfm2] at hfm; exact (congrArg FileM.syn hfm).symm
   have hptr : ptrV ps j = .pointer (some ⟨f.g, 0, none⟩) := by rw [← hps]; show Value.pointer (some ⟨p.ps.getD j 0, 0, none⟩) = _; rw [hpg]
   have hfo := hS.perm (perm_DR hf (resD gd _ p) N)
   have htk := flat_take (ls := qs) (i := i) (by omega)
   have hb1 := hbound (i + 1)
   rw [htk, List.length_append] at hb1
   have hfl : f.data.length = (fileAt m1.files j).data.length + (qs.take i).flatten.length := by rw [hfd, List.length_append]
   obtain ⟨va, vc, w6, r6, h6⟩ := hfo.appendB (i := 1) rfl hrd (by omega)
   obtain ⟨w7, r7, h7⟩ := h6.stL (i := 0) (o := 0) (off := 0) (T := 33) (v := .slice va (f.data.length + n') vc) rfl (bsS _) rfl (by simp) rfl
   let f' : FR := ⟨f.g, va, vc, f.data ++ qs.getD i [], f.syn⟩
   have hf'l : f'.data.length = f.data.length + n' := by show (f.data ++ qs.getD i []).length = _; rw [List.length_append, hln]
   have h8 : St w0 X w7 (f'.blk :: f'.row :: (resD gd (appendF m1 j (qs.take i)) p ++ DR (p.FL.eraseIdx j) N)) := by
     unfold FR.blk FR.row FR.val
     rw [hf'l]
     exact h7
   have hsyn : f.syn ≤ f.data.length := by
     have := hp.wf.syn (fileAt (appendF m1 j (qs.take i)).files j) (by simp [fileAt, List.getD, hjl])
     rw [hfm] at this
     exact this.1
   obtain ⟨hp', hps'⟩ := hp.updFile (f' := f') hf rfl ⟨by rw [hf'l]; show f.syn ≤ _; omega, by rw [hf'l]; omega⟩
   have h9 := St.updFile hf hps' h8
   refine ⟨b, o, ha, by omega, by omega, _, _, _, q w5 hr.cells, f.g, 0, hptr, _, _, _, (St.ldFile hS hf).1, va, _, vc, w6, r6, f.g, 0, hptr, w7, r7, ⟨i + 1, wrap_succ hi' (by omega), by omega, ?_⟩, mu_succ hi' (by omega)⟩
   have hmm : appendF m1 j (qs.take (i + 1)) = { appendF m1 j (qs.take i) with files := setF (appendF m1 j (qs.take i)).files j fun _ => f'.m } := by
     have e0 : appendF m1 j (qs.take (i + 1)) = { m1 with files := setF m1.files j fun f => ⟨f.data ++ (qs.take (i + 1)).flatten, f.syn⟩ } := rfl
     have e1' : ({ appendF m1 j (qs.take i) with files := setF (appendF m1 j (qs.take i)).files j fun _ => f'.m } : DiskM) = { m1 with files := setF (appendF m1 j (qs.take i)).files j fun _ => f'.m } := rfl
     rw [e0, e1', appendF_files, setF_setF (by rw [e1]; exact hil), htk]
     have e2' : setF m1.files j (fun f => ⟨f.data ++ ((qs.take i).flatten ++ qs.getD i []), f.syn⟩) = setF m1.files j fun _ => f'.m := by
       unfold setF
       have : (⟨(fileAt m1.files j).data ++ ((qs.take i).flatten ++ qs.getD i []), (fileAt m1.files j).syn⟩ : FileM) = f'.m := by
         show _ = (⟨f.data ++ qs.getD i [], f.syn⟩ : FileM)
         rw [hfd, hfs, List.append_assoc]
       simp only [this]
     rw [e2']
   rw [hmm]
   exact ⟨_, hps'.trans hps, hp', h9⟩
 · have hi' : i = k := by simp at hge; omega
   rw [hi', List.take_of_length_le (by omega)] at hD5
   exact ⟨rfl, hD5⟩

theorem sync_spec (n : Nm) (h : DiskIn w0 X w gd ps m N) (hb : m.steps < 4611686018427387904) :
   Calls Tryz.prog 48 #[.pointer (some ⟨gd, 0, none⟩), strV n] w fun e w' => e = .returned (errV (syncM m n).2) ∧ DiskIn w0 X w' gd ps (syncM m n).1 N := by
 obtain ⟨mI, hI⟩ := eI
 have hw := h.wf
 apply disk_Disk_Sync_vc
 refine (found_spec n h).mono ?_
 rintro e w1 ⟨rfl, c1⟩
 have hD1 := h.same c1
 refine ⟨_, _, rfl, _, neqS_nil hI _ _ _, fun hne => ?_, fun hok => ?_⟩
 · obtain ⟨e, he⟩ := Option.isSome_iff_exists.1 hne
   have : syncM m n = (m, some e) := by unfold syncM; rw [he]
   rw [this, he]
   exact ⟨rfl, hD1⟩
 have hfn : foundE m n = none := by simpa using hok
 rw [if_pos hfn]
 obtain ⟨hil, _⟩ := foundI_lt hw hfn
 have hap : syncM m n = stepsM m fun m' => syncF m' (foundI m n) := by simp only [syncM, hfn]
 refine (step_spec hD1 hb).mono ?_
 rintro e w4 ⟨rfl, hD4⟩
 refine ⟨_, rfl, _, neqS_nil hI _ _ _, fun hne => ?_, fun hok => ?_⟩
 · obtain ⟨e, he⟩ := Option.isSome_iff_exists.1 hne
   rw [hap]
   unfold stepsM
   rw [he]
   exact ⟨rfl, hD4⟩
 have hst : (stepM m).2 = none := by simpa using hok
 have hres : syncM m n = (syncF (stepM m).1 (foundI m n), none) := by rw [hap]; unfold stepsM; rw [hst]
 rw [hres]
 obtain ⟨m1, hm1⟩ : ∃ m1, (stepM m).1 = m1 := ⟨_, rfl⟩
 obtain ⟨e1, e2, e3, e4, _⟩ := stepM_same m
 rw [hm1] at hD4 e1 e2 e3 e4 ⊢
 obtain ⟨j, hj⟩ : ∃ j, foundI m n = j := ⟨_, rfl⟩
 rw [hj] at hil ⊢
 obtain ⟨p, hps, hp, hS⟩ := hD4
 obtain ⟨f, hf, hpg, hfm⟩ := hp.file (i := j) (by rw [e1]; exact hil)
 have hptr : ptrV ps j = .pointer (some ⟨f.g, 0, none⟩) := by rw [← hps]; show Value.pointer (some ⟨p.ps.getD j 0, 0, none⟩) = _; rw [hpg]
 have hfo := hS.perm (perm_DR hf (resD gd _ p) N)
 obtain ⟨w7, r7, h7⟩ := hfo.stL (i := 0) (o := 1) (off := 1) (T := 3) (v := .int .i64 (f.data.length : Int)) rfl (intS _) rfl (by simp) rfl
 let f' : FR := ⟨f.g, f.a, f.c, f.data, f.data.length⟩
 have h8 : St w0 X w7 (f'.blk :: f'.row :: (resD gd m1 p ++ DR (p.FL.eraseIdx j) N)) := h7
 have hdl : f.data.length ≤ 1099511627776 := by
   have := hp.wf.syn (fileAt m1.files j) (by simp [fileAt, List.getD, show j < m1.files.length by rw [e1]; exact hil])
   rw [hfm] at this
   exact this.2
 obtain ⟨hp', hps'⟩ := hp.updFile (f' := f') hf rfl ⟨Nat.le_refl _, hdl⟩
 have h9 := St.updFile hf hps' h8
 refine ⟨f.g, 0, hptr, _, _, _, (St.ldFile hS hf).1, f.g, 0, hptr, w7, r7, rfl, ?_⟩
 have hmm : syncF m1 j = { m1 with files := setF m1.files j fun _ => f'.m } := by
   unfold syncF setF
   rw [hfm]; rfl
 rw [hmm]
 exact ⟨_, hps'.trans hps, hp', h9⟩

theorem eqMap (op : BinOp) (hop : op = .eql ∨ op = .neq) (x y : Operand) (g : Nat) (w : World) : (eqlS op 112 x y (.map (some g)) (.map none)).run Tryz.prog w = .ok (.bool (op == .neq)) w := by
 have h1 : ∀ d, (Op.equalIn (d + 1) 112 (.map (some g)) (.map none)).run Tryz.prog w = .ok false w := fun d => by simp [Op.equalIn, run_underlying dirT]
 have h2 : (eqGuard op 112 x y (.map (some g)) (.map none)).run Tryz.prog w = .ok () w := by rcases hop with rfl | rfl <;> rfl
 rcases hop with rfl | rfl <;> simp [eqlS, h2, binOp, Op.equal, show Op.maxDepth = 9999 + 1 from rfl, h1 9999]

theorem clone_map (g : Nat) (es : Array MapEntry) (ck : Nat) (w : World) (hg : w.heap[g]? = some (.map es ck)) :
   Calls Tryz.prog 49 #[.map (some g)] w fun e w' => ∃ g', e = .returned (.map (some g')) ∧ w.heap.size ≤ g' ∧ Chg [] w w' ∧ w'.heap[g']? = some (.map es ck) := by
 apply maps_Clone_disk_dir_string_disk_file_vc
 refine ⟨_, eqMap .eql (.inl rfl) _ _ g w, fun h => by simp at h, fun _ => ⟨.iface 112 (.map (some w.heap.size)), w.alloc (.map es ck), ?_, _, ?_, w.heap.size, rfl, Nat.le_refl _, Chg.alloc _ _, heap_alloc_new w _⟩⟩
 · rw [run_callFunc_extern Tryz.func84 (by kernel_rfl) (by kernel_rfl) (by kernel_rfl) (e := Extern.MapsClone.clone) (by kernel_rfl)]
   have e : Extern.MapsClone.clone #[.iface 112 (.map (some g))] = (do
       match ← getObj g with
       | .map entries clock => do pure (.iface 112 (.map (some (← newObj (.map entries clock)))))
       | _ => stuck "maps.clone: a map expected" : Sem Value) := rfl
   rw [e]
   have e2 : (getObj g).run Tryz.prog w = .ok (.map es ck) w := by simp [getObj, Sem.run, hg]
   simp only [Sem.run_bind, e2, Result.andThen_ok, run_newObj_alloc]
   rfl
 · simp [Instr.typeAssert, run_underlying dirT]

end

open Go Sx
set_option maxRecDepth 8000

section
variable {w0 w w' : World} {X : List Nat} {N N' : List Res} {gd : Nat} {ps : List Nat} {m : DiskM}

theorem eqPtr (op : BinOp) (hop : op = .eql ∨ op = .neq) {T e : TypeId} (hT : Tryz.prog.underlying T = some (.pointer e)) (x y : Operand) (a : Option Addr) (w : World) : (eqlS op T x y (.pointer a) (.pointer none)).run Tryz.prog w = .ok (.bool (if op == .neq then a.isSome else a.isNone)) w := by
 have h1 : ∀ d, (Op.equalIn (d + 1) T (.pointer a) (.pointer none)).run Tryz.prog w = .ok a.isNone w := fun d => by cases a <;> simp [Op.equalIn, run_underlying hT]
 have h2 : (eqGuard op T x y (.pointer a) (.pointer none)).run Tryz.prog w = .ok () w := by rcases hop with rfl | rfl <;> rfl
 rcases hop with rfl | rfl <;> cases a <;> simp [eqlS, h2, binOp, Op.equal, show Op.maxDepth = 9999 + 1 from rfl, h1 9999]

theorem lookD {gs : List Nat} {g : Nat} {es : Array MapEntry} {ck : Nat} {Mn d : Dir} (hE : MapE kyE (vlE gs) es ck Mn) (hD : MapIsA Ent.name Mn d) (hg : w.heap[g]? = some (.map es ck)) (n : Nm) (ok : Bool) :
   (Instr.lookup 112 (.map (some g)) (strV n) true).run Tryz.prog w = .ok (.tuple #[((findD d n).map (vlE gs)).getD (.pointer none), .bool (findD d n).isSome]) w := by
 have hl := hE.lookupK (P := Tryz.prog) (keyD Mn) dirT hg (id := n) trivial pfZ
 have hf := hD.find n
 rw [hl]
 cases hq : fndM Ent.name Mn n with
 | none => rw [hq] at hf; rw [show findD d n = none from hf.symm]; rfl
 | some q => rw [hq] at hf; rw [show findD d n = some q.2 from hf.symm]; rfl

theorem pfT : Tryz.prog.underlying 121 = some (.pointer 128) := Tryz.underlying121
theorem pfA (w : World) : (isAgg 121).run Tryz.prog w = .ok false w := Tryz.isAgg121 w
theorem getLast' {M : List Res} {x : Res} : (M ++ [x])[M.length]? = some x := by simp

theorem make_spec {M : List Res} {i g : Nat} {gs : List Nat} {es : Array MapEntry} {ck : Nat} {Mn d : Dir} (hS : St w0 X w M) (hi : M[i]? = some (.blk g (.map es ck))) (hE : MapE kyE (vlE gs) es ck Mn) (hD : MapIsA Ent.name Mn d) (c : ChM) :
   Calls Tryz.prog 50 #[.map (some g), .agg (chC gs c).toArray] w fun e w' => e = .returned (.tuple #[]) ∧ ∃ es' ck' Mn', MapE kyE (vlE gs) es' ck' Mn' ∧ MapIsA Ent.name Mn' (mkD d c) ∧ St w0 X w' (M.set i (.blk g (.map es' ck'))) := by
 have him := (List.getElem?_eq_some_iff.1 hi).1
 apply disk_dir_make_vc
 obtain ⟨g3, w1, r1, h1⟩ := hS.boxA (P := Tryz.prog) 123 (chC gs c)
 have hi1 : ∀ y : Res, (M ++ [y])[i]? = some (.blk g (.map es ck)) := fun y => by rw [List.getElem?_append_left him]; exact hi
 have hg1 : w1.heap[g]? = some (.map es ck) := h1.holds i _ (hi1 _)
 have ldT : ∀ {w'' : World} {M' : List Res}, St w0 X w'' (M' ++ [Res.arr g3 123 (chC gs c)]) → (Instr.loadAt 9 (.pointer (some ⟨g3, 2, none⟩))).run Tryz.prog w'' = .ok (strV c.to) w'' ∧ (Instr.loadAt 9 (.pointer (some ⟨g3, 1, none⟩))).run Tryz.prog w'' = .ok (strV c.fr) w'' := fun h =>
   ⟨h.ldL (o := 2) getLast' (stA' _) rfl rfl, h.ldL (o := 1) getLast' (stA' _) rfl rfl⟩
 have ldM : (Instr.loadAt 121 (.pointer (some ⟨g3, 0, none⟩))).run Tryz.prog w1 = .ok (match c.made with | some i => ptrV gs i | none => .pointer none) w1 := h1.ldL (o := 0) getLast' (pfA _) rfl rfl
 have setM : ∀ {w'' : World} {o : Obj}, St w0 X w'' ((M ++ [Res.arr g3 123 (chC gs c)]).set i (.blk g o)) → St w0 X w'' (M.set i (.blk g o) ++ [Res.arr g3 123 (chC gs c)]) := fun h => by
   rw [List.set_append_left _ _ him] at h; exact h
 cases hm : c.made with
 | some k =>
   rw [hm] at ldM
   obtain ⟨es', ck', rU, hE'⟩ := hE.updateK (P := Tryz.prog) (keyD Mn) dirT hg1 (⟨c.to, k⟩ : Ent) trivial
   have h2 := setM (St.putBlk h1 (i := i) (o' := .map es' ck') (hi1 _))
   refine ⟨g3, w1, r1, _, ldM, _, eqPtr .neq (.inr rfl) pfT _ _ (some ⟨gs.getD k 0, 0, none⟩) w1, fun _ => ⟨_, (ldT h1).1, _, ldM, _, rU, rfl, es', ck', _, hE', ?_, St.pop h2⟩, fun h => by simp at h⟩
   have : mkD d c = insA Ent.name d ⟨c.to, k⟩ := by unfold mkD; rw [hm]
   rw [this]
   exact hD.upd _
 | none =>
   rw [hm] at ldM
   have hlk := lookD hE hD hg1 c.fr true
   refine ⟨g3, w1, r1, _, ldM, _, eqPtr .neq (.inr rfl) pfT _ _ none w1, fun h => by simp at h, fun _ => ⟨_, (ldT h1).2, _, _, w1, hlk, fun hno => ?_, fun hyes => ?_⟩⟩
   · have hf : findD d c.fr = none := by
       cases hq : findD d c.fr with
       | none => rfl
       | some e => rw [hq] at hno; simp at hno
     have : mkD d c = d := by unfold mkD; rw [hm]; simp only [hf]
     rw [this]
     refine ⟨rfl, es, ck, Mn, hE, hD, ?_⟩
     have e : M.set i (.blk g (.map es ck)) = M := by
       obtain ⟨h1, h2⟩ := List.getElem?_eq_some_iff.1 hi
       rw [← h2, List.set_getElem_self]
     rw [e]
     exact St.pop h1
   · obtain ⟨e, hf⟩ : ∃ e, findD d c.fr = some e := by
       cases hq : findD d c.fr with
       | none => rw [hq] at hyes; simp at hyes
       | some e => exact ⟨e, rfl⟩
     have hfnd : ∃ j, fndM Ent.name Mn c.fr = some (j, e) := by
       have h := hD.find c.fr
       have hf' : findA Ent.name d c.fr = some e := hf
       rw [hf'] at h
       obtain ⟨⟨j, e'⟩, h1, h2⟩ := Option.map_eq_some_iff.1 h
       exact ⟨j, by rw [h1]; simp only at h2; rw [h2]⟩
     obtain ⟨j, hj⟩ := hfnd
     obtain ⟨es', rD, hD1, _⟩ := hE.deleteK (P := Tryz.prog) (keyD Mn) dirT hg1 (id := c.fr) trivial #[112, 9] rfl 0
     obtain ⟨_, hE'⟩ := hD1 j e hj
     have hD' := hD.del hj
     have h2 := setM (St.putBlk h1 (i := i) (o' := .map es' ck) (hi1 _))
     have hi2 : (M.set i (.blk g (.map es' ck)) ++ [Res.arr g3 123 (chC gs c)])[i]? = some (.blk g (.map es' ck)) := by
       rw [List.getElem?_append_left (by simpa using him), List.getElem?_set_self him]
     have hval : ((some e).map (vlE gs)).getD (.pointer none) = ptrV gs e.file := rfl
     rw [hf, hval]
     have ldTo := (ldT h2).1
     refine ⟨_, (ldT h1).2, _, _, rD, _, ldTo, fun w' => ∃ es2 ck2 Mn2, MapE kyE (vlE gs) es2 ck2 Mn2 ∧ MapIsA Ent.name Mn2 (mkD d c) ∧ St w0 X w' (M.set i (.blk g (.map es2 ck2))), ⟨fun hne => ?_, fun heq => ?_⟩, ?_⟩
     · rw [empty_eq] at hne
       have hto : ¬ c.to = [] := by
         intro h0; rw [h0] at hne; simp at hne
       obtain ⟨es2, ck2, rU, hE2⟩ := hE'.updateK (P := Tryz.prog) (keyD _) dirT (h2.holds i _ hi2) (⟨c.to, e.file⟩ : Ent) trivial
       have h3 := St.putBlk h2 (i := i) (o' := .map es2 ck2) hi2
       rw [List.set_append_left _ _ (by simpa using him), List.set_set] at h3
       refine ⟨_, ldTo, _, rU, es2, ck2, _, hE2, ?_, St.pop h3⟩
       have : mkD d c = insA Ent.name (delA Ent.name d c.fr) ⟨c.to, e.file⟩ := by unfold mkD; rw [hm]; simp only [hf, if_neg hto]
       rw [this]
       exact hD'.upd _
     · rw [empty_eq] at heq
       have hto : c.to = [] := List.eq_nil_of_length_eq_zero (by simpa using heq)
       refine ⟨es', ck, _, hE', ?_, St.pop h2⟩
       have : mkD d c = delA Ent.name d c.fr := by unfold mkD; rw [hm]; simp only [hf, if_pos hto]
       rw [this]
       exact hD'
     · rintro w6 ⟨es2, ck2, Mn2, h1, h2, h3⟩
       exact ⟨rfl, es2, ck2, Mn2, h1, h2, h3⟩

theorem Sx.St.varA {P : Program} {w0 w : World} {X : List Nat} {M : List Res} (h : St w0 X w M) {T n : Nat} {z v : List Value} (hz : ∀ w, (zeroValue T).run P w = .ok (.agg z.toArray) w) (hS : ∀ w, (sizeOf T).run P w = .ok n w) (hzl : z.length = n) (hv : v.length = n) (h1 : ∀ u ∈ v, u.oneCell' = true) :
   ∃ g w1 w2, (Instr.alloc T true (.tuple #[])).run P w = .ok (.pointer (some ⟨g, 0, none⟩)) w1 ∧ (Instr.storeAt T (.pointer (some ⟨g, 0, none⟩)) (.agg v.toArray)).run P w1 = .ok () w2 ∧ St w0 X w2 (M ++ [.arr g T v]) := by
 obtain ⟨g, w1, r1, h2⟩ := h.zeroA hz
 obtain ⟨w2, r2, h3⟩ := h2.stA (i := M.length) (v := v) getLast' (hS _) hzl hv h1
 rw [List.set_append_right _ _ (Nat.le_refl _), Nat.sub_self] at h3
 exact ⟨g, w1, w2, r1, r2, h3⟩

theorem chZ (w : World) : (zeroValue 123).run Tryz.prog w = .ok (.agg [Value.pointer none, strV [], strV []].toArray) w := Tryz.zeroValue123 w
theorem chSz (w : World) : (sizeOf 123).run Tryz.prog w = .ok 3 w := Tryz.sizeOf123 w
theorem chAg (w : World) : (isAgg 123).run Tryz.prog w = .ok true w := Tryz.isAgg123 w

theorem DR_snoc (R : List Res) (FL : List FR) (N : List Res) (x : Res) : (R ++ DR FL N) ++ [x] = R ++ DR FL (N ++ [x]) := by simp [DR, List.append_assoc]

end

open Go Sx
set_option maxRecDepth 8000

section
variable {w0 w w' : World} {X : List Nat} {N N' : List Res} {gd : Nat} {ps : List Nat} {m : DiskM}

structure DMem (m : DiskM) (p : DP) : Prop where
 okn : OkDir m.files.length m.now
 fsyn : ∀ f ∈ m.files, f.syn ≤ f.data.length ∧ f.data.length ≤ 1099511627776
 size : 0 ≤ m.size ∧ m.size ≤ 67108864
 files : p.FL.map FR.m = m.files
 arm : ∀ k, m.arm = some k → p.av = (k : Int) ∧ k ≤ 9223372036854775807
 fails : FailsR m.fails p.fa p.fn p.fc p.F
 mapn : MapE kyE (vlE p.ps) p.esn p.ckn p.Mn
 isn : MapIsA Ent.name p.Mn m.now
theorem DOk.mem {p : DP} (hp : DOk m p) : DMem m p := ⟨hp.wf.okNow, hp.wf.syn, hp.wf.size, hp.files, hp.arm, hp.fails, hp.mapn, hp.isn⟩

def sync1 (f : FileM) : FileM := ⟨f.data, f.data.length⟩
theorem settled_snoc (fs : List FileM) (d : Dir) (e : Ent) : settled fs (d ++ [e]) = setF (settled fs d) e.file sync1 := by rw [settled, List.foldl_append]; rfl
theorem setF_comm (fs : List FileM) (i j : Nat) (f : FileM → FileM) : setF (setF fs i f) j f = setF (setF fs j f) i f := by
 by_cases h : i = j
 · rw [h]
 · have h1 : fileAt (setF fs i f) j = fileAt fs j := fileAt_setF_ne h
   have h2 : fileAt (setF fs j f) i = fileAt fs i := fileAt_setF_ne (Ne.symm h)
   have e : ∀ (l : List FileM) (k : Nat), setF l k f = l.set k (f (fileAt l k)) := fun _ _ => rfl
   rw [e (setF fs i f), e (setF fs j f), h1, h2, e, e]
   exact List.set_comm _ _ h
theorem settled_perm {fs : List FileM} {d d' : Dir} (h : d.Perm d') : settled fs d = settled fs d' :=
 h.foldl_eq' (fun x _ y _ z => setF_comm z x.file y.file sync1) fs
theorem settled_len (d : Dir) : ∀ fs : List FileM, (settled fs d).length = fs.length := by
 induction d with
 | nil => intro fs; rfl
 | cons e d ih => intro fs; show (settled (setF fs e.file sync1) d).length = _; rw [ih, setF_len]
theorem settled_ok (d : Dir) : ∀ fs : List FileM, (∀ f ∈ fs, f.syn ≤ f.data.length ∧ f.data.length ≤ 1099511627776) → ∀ f ∈ settled fs d, f.syn ≤ f.data.length ∧ f.data.length ≤ 1099511627776 := by
 induction d with
 | nil => intro fs h; exact h
 | cons e d ih =>
   intro fs h
   refine ih (setF fs e.file sync1) fun f hf => ?_
   rcases List.mem_or_eq_of_mem_set hf with h1 | h1
   · exact h f h1
   · rw [h1]
     refine ⟨Nat.le_refl _, ?_⟩
     show (fileAt fs e.file).data.length ≤ _
     by_cases hi : e.file < fs.length
     · rw [fileAt, List.getD, List.getElem?_eq_getElem hi]
       exact (h _ (List.getElem_mem hi)).2
     · rw [fileAt, List.getD, List.getElem?_eq_none (by omega)]
       simp [file0]

set_option maxHeartbeats 1000000 in
theorem settle_spec {p : DP} (hp : DMem m p) (hS : St w0 X w (resD gd m p ++ DR p.FL N)) :
   Calls Tryz.prog 52 #[.pointer (some ⟨gd, 0, none⟩)] w fun e w' => e = .returned (.tuple #[]) ∧ DiskIn w0 X w' gd p.ps (settleM m) N := by
 apply disk_Disk_settle_vc
 have hg : w.heap[p.gn]? = some (.map p.esn p.ckn) := hS.holds 1 _ rfl
 have hit := hS.add (r := .blk w.heap.size (.mapIter (some p.gn) p.ckn #[] p.ckn)) (Chg.alloc _ _) (heap_alloc_new w _) (by simp [Res.fp])
 obtain ⟨gr, hgr⟩ : ∃ gr, w.heap.size = gr := ⟨_, rfl⟩
 rw [hgr] at hit
 refine ⟨_, DiskIn.cell hS (i := 6) (dirA _) rfl, _, _, run_range_map w 112 9 121 p.gn p.esn p.ckn dirT hg, fun w' => ∃ (seen : Array Nat) (out : Dir) (FL : List FR), FL.map FR.g = p.ps ∧ FL.map FR.m = settled m.files out ∧ (out ++ (leftA p.esn p.Mn seen).map (·.2)).Perm p.Mn ∧ St w0 X w' ((resD gd m p ++ DR FL N) ++ [.blk gr (.mapIter (some p.gn) p.ckn seen p.ckn)]),
   fun w' => muR p.gn gr w', ⟨#[], [], p.FL, rfl, hp.files, by rw [leftA_all hp.mapn, List.nil_append], hit⟩, ?_⟩
 rw [hgr]
 rintro w2 ⟨seen, out, FL, hFg, hFm, hperm, h2⟩
 have hr2 : w2.heap[gr]? = some (.mapIter (some p.gn) p.ckn seen p.ckn) := h2.holds _ _ getLast'
 have hg2 : w2.heap[p.gn]? = some (.map p.esn p.ckn) := h2.holds 1 _ rfl
 rcases range_step (P := Tryz.prog) hp.mapn hr2 hg2 with ⟨hz, hrun⟩ | ⟨e, r, w3, hw3, hrun, hrM, hent, hleft, hlt⟩
 · refine ⟨false, [], w2, hrun, fun h => (by cases h), fun _ => ?_⟩
   rw [hz, List.map_nil, List.append_nil] at hperm
   rw [settled_perm (hperm.trans hp.isn.perm)] at hFm
   have hS2 := St.pop h2
   refine ⟨_, hS2.ldL (i := 0) (o := 6) rfl (dirA _) rfl rfl, (clone_map p.gn p.esn p.ckn w2 hg2).mono ?_⟩
   rintro e w3 ⟨g', rfl, hg', c3, hh⟩
   have h3 := hS2.upd (i := 2) (r' := .blk g' (.map p.esn p.ckn)) rfl (c3.mono (by simp)) hh (by simp [Res.fp]; exact .inr hg')
   obtain ⟨w4, r4, h4⟩ := h3.stL (i := 0) (o := 7) (off := 7) (T := 112) (v := .map (some g')) rfl (dirS _) rfl (by simp [dskL]) rfl
   obtain ⟨w5, r5, h5⟩ := h4.stL (i := 0) (o := 8) (off := 8) (T := 115) (v := .slice none 0 0) rfl (chsS _) rfl (by simp [dskL]) rfl
   have h6 := h5.upd (i := 3) (r' := .row 123 3 (.slice none 0 0) 0 []) rfl (Chg.refl _ _) (World.ownsRow_nil _ _ _ _) (by simp [Res.fp, Value.ownBlock])
   refine ⟨_, rfl, w4, r4, w5, r5, rfl, { p with FL := FL, gs := g', ess := p.esn, cks := p.ckn, Ms := p.Mn, ca := none, cc := 0 }, hFg, ?_, h6⟩
   have hmp : MapE kyE (vlE (FL.map FR.g)) p.esn p.ckn p.Mn := by rw [hFg]; exact hp.mapn
   refine ⟨⟨rfl, fun k => ?_, by simp [settleM], settled_ok _ _ hp.fsyn, hp.size⟩, hFm, hp.arm, hp.fails, hmp, hp.isn, hmp, hp.isn⟩
   show OkDir (settled m.files m.now).length (replay m.now (([] : List ChM).take k))
   rw [List.take_nil, settled_len]
   exact hp.okn
 · refine ⟨true, _, _, hrun, fun _ => ?_, fun h => (by cases h)⟩
   have h3 : St w0 X w3 ((resD gd m p ++ DR FL N) ++ [.blk gr (.mapIter (some p.gn) p.ckn seen p.ckn)]) := by
     rcases hw3 with rfl | rfl
     · exact h2
     · exact h2.drew
   have h4 := St.putBlk h3 (i := (resD gd m p ++ DR FL N).length) (o' := .mapIter (some p.gn) p.ckn (seen.push e.born) p.ckn) getLast'
   rw [List.set_append_right _ _ (Nat.le_refl _), Nat.sub_self] at h4
   have h4 : St w0 X (w3.putObj gr (.mapIter (some p.gn) p.ckn (seen.push e.born) p.ckn)) ((resD gd m p ++ DR FL N) ++ [.blk gr (.mapIter (some p.gn) p.ckn (seen.push e.born) p.ckn)]) := h4
   have hr4 := h4.holds _ _ getLast'
   have hg4 : (w3.putObj gr (.mapIter (some p.gn) p.ckn (seen.push e.born) p.ckn)).heap[p.gn]? = some (.map p.esn p.ckn) := h4.holds 1 _ rfl
   have hrn := hp.isn.perm.mem_iff.1 hrM
   have hil := (hp.okn.ent r hrn).1
   have hFl : FL.length = m.files.length := by have := congrArg List.length hFm; rw [settled_len] at this; simpa using this
   obtain ⟨f, hf⟩ : ∃ f, FL[r.file]? = some f := ⟨_, List.getElem?_eq_getElem (by omega)⟩
   have hfm : fileAt (settled m.files out) r.file = f.m := by
     rw [← hFm, fileAt, List.getD, List.getElem?_map, hf]; rfl
   have hpg : p.ps.getD r.file 0 = f.g := by
     rw [← hFg, List.getD, List.getElem?_map, hf]; rfl
   have hp2 : (out ++ [r] ++ (leftA p.esn p.Mn (seen.push e.born)).map (·.2)).Perm p.Mn := by
     refine List.Perm.trans ?_ hperm
     rw [List.append_assoc]
     exact List.Perm.append_left out hleft.symm
   have hent' := hent _ hr4 hg4
   have hvl : vlE p.ps r = .pointer (some ⟨f.g, 0, none⟩) := by show Value.pointer (some ⟨p.ps.getD r.file 0, 0, none⟩) = _; rw [hpg]
   rw [hvl] at hent'
   have h5 := h4.perm ((perm_DR hf (resD gd m p) N).append_right [_])
   obtain ⟨w6, r6, h6⟩ := h5.stL (i := 0) (o := 1) (off := 1) (T := 3) (v := .int .i64 (f.data.length : Int)) rfl (intS _) rfl (by simp) rfl
   let f' : FR := ⟨f.g, f.a, f.c, f.data, f.data.length⟩
   have h7 : St w0 X w6 ((f'.blk :: f'.row :: (resD gd m p ++ DR (FL.eraseIdx r.file) N)) ++ [.blk gr (.mapIter (some p.gn) p.ckn (seen.push e.born) p.ckn)]) := h6
   have hq := perm_DR (FL := FL.set r.file f') (i := r.file) (f := f') (by rw [List.getElem?_set_self (by omega)]) (resD gd m p) N
   rw [eraseIdx_set] at hq
   have h8 := h7.perm (hq.symm.append_right [_])
   have hr8 := h8.holds _ _ getLast'
   have hg8 : w6.heap[p.gn]? = some (.map p.esn p.ckn) := h8.holds 1 _ rfl
   refine ⟨_, f.g, 0, _, hent', _, _, _, (St.ldFile (St.pop h4) hf).1, w6, r6, ⟨seen.push e.born, out ++ [r], FL.set r.file f', ?_, ?_, hp2, h8⟩, ?_⟩
   · rw [List.map_set, ← hFg]
     have : (FL.map FR.g)[r.file]? = some f'.g := by rw [List.getElem?_map, hf]; rfl
     obtain ⟨h1, h2⟩ := List.getElem?_eq_some_iff.1 this
     rw [← h2, List.set_getElem_self]
   · rw [List.map_set, settled_snoc, hFm, setF, hfm]; rfl
   · show muR p.gn gr _ < muR p.gn gr _
     rw [muR_eq hg8 hr8, muR_eq hg2 hr2, leftA_size hp.mapn, leftA_size hp.mapn]
     exact hlt

end

open Go Sx
set_option maxRecDepth 8000

section
variable {w0 w w' : World} {X : List Nat} {N N' : List Res} {gd : Nat} {ps : List Nat} {m : DiskM}

theorem steps_spec (h : DiskIn w0 X w gd ps m N) : Calls Tryz.prog 34 #[.pointer (some ⟨gd, 0, none⟩)] w fun e w' => e = .returned (.int .i64 (m.steps : Int)) ∧ w' = w := by
 obtain ⟨p, hps, hp, hS⟩ := h
 apply disk_Disk_Steps_vc
 exact ⟨_, DiskIn.cell hS (i := 0) (intA _) rfl, rfl, rfl⟩
theorem arm_spec (i : Int) (hi : i ≤ 9223372036854775807) (h : DiskIn w0 X w gd ps m N) : Calls Tryz.prog 22 #[.pointer (some ⟨gd, 0, none⟩), .int .i64 i] w fun e w' => e = .returned (errV (armM m i).2) ∧ DiskIn w0 X w' gd ps (armM m i).1 N := by
 apply disk_Disk_Arm_vc
 refine ⟨fun hneg => ?_, fun hpos => ?_⟩
 · have : armM m i = (m, some 7) := by unfold armM; rw [if_pos (by simpa using hneg)]
   rw [this]
   exact ⟨rfl, h⟩
 · have hp0 : ¬ i < 0 := by simpa using hpos
   have : armM m i = ({ m with arm := some i.toNat }, none) := by unfold armM; rw [if_neg hp0]
   rw [this]
   obtain ⟨p, hps, hp, hS⟩ := h
   obtain ⟨w1, r1, h1⟩ := hS.stL (i := 0) (o := 2) (off := 2) (T := 4) (v := .bool true) rfl (boolS _) rfl (by simp [dskL]) rfl
   obtain ⟨w2, r2, h2⟩ := h1.stL (i := 0) (o := 3) (off := 3) (T := 3) (v := .int .i64 i) rfl (intS _) rfl (by simp [dskL]) rfl
   exact ⟨w1, r1, w2, r2, rfl, { p with av := i }, hps, hp.upd m.steps m.down (some i.toNat) m.fails (fun k hk => by have := Option.some.inj hk; omega) hp.fails, h2⟩

abbrev zv (l : List Int) : List Value := l.map (Value.int .i64)
theorem intT : ElemT Tryz.prog 53 3 1 8 (.int .i64 0) := ⟨by kernel_rfl, ⟨Tryz.t3, by kernel_rfl, by kernel_rfl, by kernel_rfl, by kernel_rfl⟩, rfl, by decide⟩

theorem anyNeg_spec (a : Option Addr) (n c : Nat) (l : List Int) (w : World) (hr : Rd w a n c 1 (zv l)) (hb : n ≤ 4611686018427387904) :
   Calls Tryz.prog 61 #[.slice a n c, .func (.func 62) #[] #[]] w fun e w' => e = .returned (.bool (l.any (· < 0))) ∧ w' = w := by
 have hln : l.length = n := by have := hr.len; simpa using this
 apply slices_ContainsFunc_int_int_vc
 have key : Calls Tryz.prog 94 #[.slice a n c, .func (.func 62) #[] #[]] w fun e w' => ∃ t : Int, e = .returned (.int .i64 t) ∧ decide (t ≥ 0) = l.any (· < 0) ∧ w' = w := by
   apply slices_IndexFunc_int_int_vc
   refine ⟨fun x w' => ∃ i : Nat, x = (i : Int) ∧ i ≤ n ∧ (l.take i).any (· < 0) = false ∧ w' = w, fun x _ => n - x.toNat, ⟨0, rfl, by omega, by simp, rfl⟩, ?_⟩
   rintro x w1 ⟨i, rfl, hi, hall, rfl⟩
   refine ⟨fun h => ?_, fun h => ?_⟩
   · have hi' : i < n := by simp at h; omega
     have hx2 : l[i]? = some (l.getD i 0) := by simp [List.getD, show i < l.length by omega]
     have hx : (zv l)[i]? = some (.int .i64 (l.getD i 0)) := by rw [List.getElem?_map, hx2]; rfl
     obtain ⟨z, hz⟩ : ∃ z, l.getD i 0 = z := ⟨_, rfl⟩
     rw [hz] at hx hx2
     obtain ⟨b, o, ha, hcell⟩ := hr.cells.at_ hx
     refine ⟨b, o, ha, by omega, by omega, _, by rw [Int.toNat_natCast, Nat.mul_one]; exact ld1 (intA _) hcell, 62, [], rfl, by kernel_rfl, ?_⟩
     apply disk_Disk_Fail_1_vc
     refine ⟨_, rfl, fun h => ⟨_, rfl, ?_, rfl⟩, fun h => ⟨⟨i + 1, wrap_succ hi' hb, by omega, ?_, rfl⟩, mu_succ hi' hb⟩⟩
     · have : l.any (· < 0) = true := by
         rw [List.any_eq_true]
         exact ⟨z, List.mem_of_getElem? hx2, by simpa using h⟩
       rw [this]
       simp
     · rw [List.take_add_one, hx2, List.any_append, hall]
       simpa using h
   · have hi' : i = n := by simp at h; omega
     rw [hi', List.take_of_length_le (by omega)] at hall
     exact ⟨_, rfl, by rw [hall]; rfl, rfl⟩
 refine Calls.mono key ?_
 rintro e w' ⟨t, rfl, h1, h2⟩
 exact ⟨t, rfl, by rw [h1], h2⟩

theorem cloneI_spec (a : Option Addr) (n c : Nat) (l : List Int) (w : World) (hr : Rd w a n c 1 (zv l)) (hb : n * 8 ≤ 140737488355328) :
   Calls Tryz.prog 63 #[.slice a n c] w fun e w' => ∃ a' c', e = .returned (.slice a' n c') ∧ St w [] w' [.row 3 1 (.slice a' n c') n (zv l)] := by
 apply slices_Clone_int_int_vc
 have hl : l.length = n := by have := hr.len; simpa using this
 refine ⟨fun h => ?_, fun _ => ?_⟩
 · have ha : a = none := by cases a with
     | none => rfl
     | some _ => simp at h
   have hc := hr.nil ha
   have hle := hr.le
   obtain rfl : n = 0 := by omega
   obtain rfl : l = [] := List.eq_nil_of_length_eq_zero hl
   exact ⟨_, _, rfl, (St.start w).addNil _ _⟩
 · obtain ⟨g, w1, r1, h1⟩ := (St.start w).lit intT [] (by simp) (by simp)
   obtain ⟨va, vc, w2, r2, h2, _, _⟩ := h1.append (i := 0) (ty := 53) intT rfl (h1.rd1 hr) (fun u hu => by obtain ⟨x, _, rfl⟩ := List.mem_map.1 hu; rfl) (by simp; omega) (by simp only [maxLen]; simp; omega)
   simp only [List.length_nil, Nat.zero_add, List.nil_append] at r2 h2
   exact ⟨_, _, _, _, r1, _, _, _, _, r2, _, _, rfl, h2⟩

theorem dfail_spec (a : Option Addr) (n c : Nat) (l : List Int) (hr : Rd w a n c 1 (zv l)) (hz : ∀ x ∈ l, x ≤ 9223372036854775807) (hb : n * 8 ≤ 140737488355328) (h : DiskIn w0 X w gd ps m N) :
   Calls Tryz.prog 29 #[.pointer (some ⟨gd, 0, none⟩), .slice a n c] w fun e w' => e = .returned (errV (failM m l).2) ∧ DiskIn w0 X w' gd ps (failM m l).1 N := by
 apply disk_Disk_Fail_vc
 have hl : l.length = n := by have := hr.len; simpa using this
 refine (anyNeg_spec a n c l w hr (by omega)).mono ?_
 rintro e w1 ⟨rfl, rfl⟩
 refine ⟨_, rfl, fun hneg => ?_, fun hpos => ?_⟩
 · have : failM m l = (m, some 7) := by unfold failM; rw [if_pos hneg]
   rw [this]
   exact ⟨rfl, h⟩
 · have hres : failM m l = ({ m with fails := l.map Int.toNat }, none) := by unfold failM; rw [if_neg (by rw [hpos]; simp)]
   rw [hres]
   refine (cloneI_spec a n c l w1 hr hb).mono ?_
   rintro e w2 ⟨a', c', rfl, h2⟩
   obtain ⟨p, hps, hp, hS⟩ := h
   have hpos' : ∀ x ∈ l, 0 ≤ x := by
     intro x hx
     rw [List.any_eq_false] at hpos
     have := hpos x hx
     simpa using this
   have hniv : niv (l.map Int.toNat) = zv l := by
     rw [niv, List.map_map]
     refine List.map_congr_left fun x hx => ?_
     have := hpos' x hx
     simp only [Function.comp, Int.toNat_of_nonneg this]
   have h3 : St w0 X w2 ((resD gd m p ++ DR p.FL N) ++ [.row 3 1 (.slice a' n c') n (zv l)]) := Sx.St.callPart (N := []) (by rw [List.append_nil]; exact hS) h2
   obtain ⟨w3, r3, h4⟩ := h3.stL (i := 0) (o := 4) (off := 4) (T := 53) (v := .slice a' n c') rfl (insS _) rfl (by simp [dskL]) rfl
   have h4 : St w0 X w3 ((resD gd { m with fails := l.map Int.toNat } { p with fa := a', fn := n, fc := c' } ++ DR p.FL N) ++ [.row 3 1 (.slice a' n c') n (zv l)]) := h4
   refine ⟨_, _, _, rfl, w3, r3, rfl, ?_⟩
   have hown : w3.ownsRow 0 3 1 (.slice a' n c') n (zv l) := h4.holds _ _ getLast'
   have hbd : ∀ x ∈ l.map Int.toNat, x ≤ 9223372036854775807 := by
     intro x hx
     obtain ⟨y, hy, rfl⟩ := List.mem_map.1 hx
     have := hz y hy
     omega
   rcases hown.2 with ⟨hv, hn⟩ | ⟨g, cap, cur, hv, _, hg, hnc, _, hsz, htk⟩
   · simp only [Value.slice.injEq] at hv
     exact ⟨{ p with fa := a', fn := n, fc := c' }, hps, hp.upd m.steps m.down m.arm (l.map Int.toNat) hp.arm ⟨by simp [hl], by omega, .inl hn, hbd⟩, St.pop h4⟩
   · simp only [Value.slice.injEq] at hv
     obtain ⟨rfl, _, rfl⟩ := hv
     have h5 := h4.upd (r' := .arr g 3 cur.toList) getLast' (Chg.refl _ _) hg (by simp [Res.fp, Value.ownBlock])
     rw [List.set_append_right _ _ (Nat.le_refl _), Nat.sub_self] at h5
     refine ⟨{ p with fa := some ⟨g, 0, none⟩, fn := n, fc := c', F := .arr g 3 cur.toList }, hps, hp.upd m.steps m.down m.arm (l.map Int.toNat) hp.arm ⟨by simp [hl], by omega, .inr ⟨g, 0, _, rfl, rfl, ?_⟩, hbd⟩, ?_⟩
     · rw [hniv, ← htk]; simp
     · have h6 : St w0 X w3 ([.arr gd 117 (dskL { m with fails := l.map Int.toNat } { p with fa := some ⟨g, 0, none⟩, fn := n, fc := c' }), .blk p.gn (.map p.esn p.ckn), .blk p.gs (.map p.ess p.cks), .row 123 3 (.slice p.ca m.chs.length p.cc) m.chs.length (m.chs.flatMap (chC p.ps))] ++ ((p.F :: DR p.FL N) ++ [.arr g 3 cur.toList])) := h5
       have h7 := h6.sub (List.Sublist.append_left (List.Sublist.append_right (List.sublist_cons_self _ _) _) _)
       exact h7.perm (List.Perm.append_left _ List.perm_append_comm)

theorem built_disk : Tryz.prog.built 117 = fun parts => Instr.fill (fun i => (#[(0, 5), (5, 1), (6, 1), (7, 1), (8, 1)] : Array (Nat × Nat))[i]?) #[.int .i64 0, .bool false, .bool false, .int .i64 0, .slice none 0 0, .int .i64 0, .map none, .map none, .slice none 0 0] parts := by kernel_rfl
theorem disk_build (s : Int) (g1 g2 : Nat) (w : World) : (Instr.build 117 #[(1, .int .i64 s), (2, .map (some g1)), (3, .map (some g2))]).run Tryz.prog w = .ok (.agg #[.int .i64 0, .bool false, .bool false, .int .i64 0, .slice none 0 0, .int .i64 s, .map (some g1), .map (some g2), .slice none 0 0]) w := by
 apply run_build
 rw [built_disk]
 show Instr.fill _ _ [(1, _), (2, _), (3, _)] = _
 rw [fill_step (off := 5) (sz := 1) rfl rfl (by simp), fill_step (off := 6) (sz := 1) rfl rfl (by simp [Value.cells]), fill_step (off := 7) (sz := 1) rfl rfl (by simp [Value.cells])]
 rfl

theorem wfd_new {s : Int} (h : 0 ≤ s ∧ s ≤ 67108864) : WFD (newM s) :=
 ⟨rfl, fun k => by show OkDir _ (replay [] (([] : List ChM).take k)); rw [List.take_nil]; exact okDir_nil _, by simp [newM], by simp [newM], h⟩

theorem newDisk_spec (s : Int) (w : World) : Calls Tryz.prog 21 #[.int .i64 s] w fun e w' => (s < 0 ∨ 67108864 < s) ∧ e = .returned (.tuple #[.pointer none, errV (some 7)]) ∧ w' = w ∨ ¬ (s < 0 ∨ 67108864 < s) ∧ ∃ gd, e = .returned (.tuple #[.pointer (some ⟨gd, 0, none⟩), errV none]) ∧ DiskIn w [] w' gd [] (newM s) [] := by
 apply disk_New_vc
 refine ⟨fun h => .inl ⟨by simpa using h, rfl, rfl⟩, fun h => ?_⟩
 have hs : ¬ (s < 0 ∨ 67108864 < s) := by simp at h; omega
 have h1 := (St.start w).add (r := .blk w.heap.size (.map #[] 0)) (Chg.alloc _ _) (heap_alloc_new w _) (by simp [Res.fp])
 obtain ⟨w1, hw1⟩ : ∃ w1, w.alloc (.map #[] 0) = w1 := ⟨_, rfl⟩
 rw [hw1] at h1
 have h2 := h1.add (r := .blk w1.heap.size (.map #[] 0)) (Chg.alloc _ _) (heap_alloc_new w1 _) (by simp [Res.fp])
 obtain ⟨g, w3, r3, h3⟩ := h2.boxA (P := Tryz.prog) 117 [.int .i64 0, .bool false, .bool false, .int .i64 0, .slice none 0 0, .int .i64 s, .map (some w.heap.size), .map (some w1.heap.size), .slice none 0 0]
 refine ⟨.map (some w.heap.size), w1, by rw [← hw1]; rfl, .map (some w1.heap.size), _, rfl, _, disk_build s _ _ _, g, w3, r3, .inr ⟨hs, g, rfl, ?_⟩⟩
 have h4 := (h3.addNil 123 3).add (r := Res.emp) (Chg.refl _ _) (Res.emp_holds _) (by simp [Res.emp, Res.fp, Value.ownBlock])
 refine ⟨{ av := 0, fa := none, fn := 0, fc := 0, gn := w.heap.size, gs := w1.heap.size, ca := none, cc := 0, FL := [], F := Res.emp, esn := #[], ckn := 0, Mn := [], ess := #[], cks := 0, Ms := [] }, rfl, ⟨wfd_new (by omega), rfl, fun k hk => (by cases hk), ⟨rfl, Nat.le_refl _, .inl rfl, by simp [newM]⟩, MapE.nil _ _, MapIsA.nil, MapE.nil _ _, MapIsA.nil⟩, ?_⟩
 refine h4.perm ?_
 show List.Perm [_, _, _, _, _] [_, _, _, _, _]
 refine List.Perm.trans (l₂ := [.blk w.heap.size (.map #[] 0), .arr g 117 [.int .i64 0, .bool false, .bool false, .int .i64 0, .slice none 0 0, .int .i64 s, .map (some w.heap.size), .map (some w1.heap.size), .slice none 0 0], .blk w1.heap.size (.map #[] 0), .row 123 3 (.slice none 0 0) 0 [], Res.emp]) (.cons _ (.swap _ _ _)) (.swap _ _ _)

end

open Go Sx Go.RowKit Go.Maps Go.Sort Go.Shelf
set_option maxRecDepth 8000

theorem lex_le : ∀ l m : List UInt8, lexLt l m = true → l ≤ m
 | [], [], h => by simp [lexLt] at h
 | [], _ :: _, _ => List.nil_le _
 | _ :: _, [], h => by simp [lexLt] at h
 | a :: l, b :: m, h => by
   rw [List.cons_le_cons_iff]
   simp only [lexLt] at h
   split at h
   · rename_i h1
     exact .inl (UInt8.lt_iff_toNat_lt.2 h1)
   · rename_i h1
     split at h
     · cases h
     · rename_i h2
       have : a = b := UInt8.toNat_inj.1 (by omega)
       exact .inr ⟨this, lex_le l m h⟩

theorem sort_names {d : Dir} (h : AscBy Ent.name d) {ss : List (List UInt8)} (hp : ss.Perm (d.map Ent.name)) : ss.mergeSort (fun x y => decide (x ≤ y)) = d.map Ent.name := by
 rw [show ss.mergeSort (fun x y => decide (x ≤ y)) = (d.map Ent.name).mergeSort (fun x y => decide (x ≤ y)) from mergeSort_of_perm hp]
 refine List.mergeSort_of_pairwise ?_
 rw [List.pairwise_map]
 exact List.Pairwise.imp (fun {a b} hab => by simpa using lex_le _ _ hab) h

def blindR (_ : Value) : Option (DataW Unit × List MemPlace) := some (.nil, [])
theorem keyOf_nm (e : Ent) (h : e.name.length ≤ 64) : keyOf Tryz.prog 9 (kyE e) = some (.string e.name) := by
 have h1 : Tryz.prog.underlying 9 = some .string := Tryz.underlying9
 have h2 : (⟨e.name.toArray⟩ : ByteArray).size ≤ maxLen := by show e.name.toArray.size ≤ _; simp [maxLen]; omega
 simp only [keyOf, h1, kyE, strV, mapKey]
 simp [h2]

theorem owns_names {w : World} {g : Nat} {es : Array MapEntry} {ck : Nat} {gs : List Nat} {Mn d : Dir} (hE : MapE kyE (vlE gs) es ck Mn) (hD : MapIsA Ent.name Mn d) (hg : w.heap[g]? = some (.map es ck)) (hlen : Mn.length ≤ 4096) (hn : ∀ e ∈ Mn, e.name.length ≤ 64) :
   ∃ D : DataW Unit, w.ownsMap Tryz.prog 9 blindR g 4096 D ∧ (strKeys D).Perm (Mn.map Ent.name) ∧ Maps.size D = Mn.length := by
 have hsz := hE.len
 have hrd : ∀ x ∈ es.toList, ∃ r ∈ Mn, x.key = kyE r ∧ WideElems.rd Tryz.prog 9 blindR x = some (.string r.name, .nil) := by
   intro x hx
   obtain ⟨i, hi⟩ := List.getElem?_of_mem hx
   obtain ⟨r, h1, h2, h3⟩ := hE.at_ hi
   have hr := List.mem_of_getElem? h1
   refine ⟨r, hr, h2, ?_⟩
   unfold WideElems.rd
   rw [h2, keyOf_nm r (hn r hr)]
   rfl
 have hkeys : es.toList.map (fun x => x.key) = Mn.map kyE := by
   have := congrArg (List.map Prod.fst) hE.ents
   rw [List.map_map, List.map_map] at this
   exact this
 have hnd : (Mn.map kyE).Nodup := by
   have h1 : Mn.Pairwise fun x y => x.name ≠ y.name := (hD.perm.pairwise_iff (fun {a b} (h : a.name ≠ b.name) => h.symm)).2 (asc_ne hD.asc)
   rw [List.Nodup, List.pairwise_map]
   refine h1.imp fun {a b} h e => h ?_
   have : strV a.name = strV b.name := e
   exact encStr_inj this
 have F : WideElems.Fit Tryz.prog 9 blindR es ck := ⟨by rw [hsz]; simp only [maxLen]; omega, ⟨hE.old, hE.born, by rw [hkeys]; exact hnd⟩, fun x hx => by obtain ⟨r, _, _, h⟩ := hrd x hx; exact ⟨_, h⟩⟩
 refine ⟨_, ⟨es, ck, hg, F, by omega, rfl⟩, ?_, ?_⟩
 · show (((es.toList.map (WideElems.rg Tryz.prog 9 blindR)).foldr DataW.insert []).map fun p => strOf p.1).Perm _
   refine ((WideShapes.sorted_perm _).map _).trans (List.Perm.of_eq ?_)
   rw [List.map_map]
   have e1 : es.toList.map ((fun p : Lit × DataW Unit => strOf p.1) ∘ WideElems.rg Tryz.prog 9 blindR) = es.toList.map fun x => strOf ((keyOf Tryz.prog 9 x.key).getD (.bool false)) := by
     refine List.map_congr_left fun x hx => ?_
     obtain ⟨r, hr, hk, h⟩ := hrd x hx
     show strOf (WideElems.rg Tryz.prog 9 blindR x).1 = _
     rw [WideElems.rg, h, hk, keyOf_nm r (hn r hr)]
     rfl
   rw [e1]
   have e2 : es.toList.map (fun x => strOf ((keyOf Tryz.prog 9 x.key).getD (.bool false))) = (es.toList.map fun x => x.key).map fun k => strOf ((keyOf Tryz.prog 9 k).getD (.bool false)) := by rw [List.map_map]; rfl
   rw [e2, hkeys, List.map_map]
   refine List.map_congr_left fun r hr => ?_
   show strOf ((keyOf Tryz.prog 9 (kyE r)).getD (.bool false)) = r.name
   rw [keyOf_nm r (hn r hr)]
   rfl
 · show ((es.toList.map (WideElems.rg Tryz.prog 9 blindR)).foldr DataW.insert []).length = _
   rw [(WideShapes.sorted_perm _).length_eq, List.length_map, Array.length_toList, hsz]

theorem sorts_nm (m : Nat) : AnyZ.SortsIn Tryz.prog sortedD_ren Fence.wide m :=
 ⟨fun blk off cap ss W hH hblk hsz => callsIn_wide.2 (AnyM.slices_Sort_string sortD blk off cap ss W hH hblk hsz),
  fun p cap W => callsIn_wide.2 (AnyM.slices_Sort_string_none sortD p cap W)⟩

def namesM (m : DiskM) : List Nm := m.now.map Ent.name

section
variable {w0 w w' : World} {X : List Nat} {N N' : List Res} {gd : Nat} {ps : List Nat} {m : DiskM}

theorem list_spec {p : DP} (hp : DMem m p) (hS : St w0 X w (resD gd m p ++ DR p.FL N)) :
   Calls Tryz.prog 51 #[.pointer (some ⟨gd, 0, none⟩)] w fun e w' => ∃ a c, e = .returned (.slice a (namesM m).length c) ∧ St w [] w' [.row 9 1 (.slice a (namesM m).length c) (namesM m).length ((namesM m).map strV)] := by
 have hg : w.heap[p.gn]? = some (.map p.esn p.ckn) := hS.holds 1 _ rfl
 have hln : p.Mn.length ≤ 4096 := by rw [hp.isn.perm.length_eq]; exact hp.okn.len
 have hgood : ∀ e ∈ p.Mn, e.name.length ≤ 64 := by
   intro e he
   have := (hp.okn.ent e (hp.isn.perm.mem_iff.1 he)).2
   unfold goodN at this
   simp only [Bool.and_eq_true, decide_eq_true_eq] at this
   omega
 obtain ⟨D, hown, hperm, hsz⟩ := owns_names hp.mapn hp.isn hg hln hgood
 apply disk_Disk_List_vc
 have hbl := hown.lt
 have hseq : SeqGives Fence.wide 2 Tryz.prog 117 #[.pointer (some ⟨w.heap.size, 0, none⟩)] encStr (fun ss => ss.Perm (strKeys D)) (Maps.size D) (w.alloc (.cells #[.map (some p.gn)] 112)) :=
   AnyZ.keys_gives (ρ := keysD_ren) { keysD with } Fence.wide _ trivial rfl (by omega) w.heap.size p.gn 4096 D _ (by simp) (by simp) (by
     obtain ⟨es, clock, hb, Ft, hs, hD⟩ := hown
     exact ⟨es, clock, (Below.heap_alloc _ _ p.gn hbl).trans hb, Ft, hs, hD⟩)
 have cK : Calls Tryz.prog 86 #[.map (some p.gn)] w fun e w' => e = .returned (.func (.func 117) #[] #[.pointer (some ⟨w.heap.size, 0, none⟩)]) ∧ w' = w.alloc (.cells #[.map (some p.gn)] 112) := callsIn_wide.1 (AnyZ.keys_in keysD Fence.wide 5 trivial rfl (some p.gn) w)
 have cS := AnyZ.sorted_in sortedD Fence.wide 5 trivial trivial trivial trivial rfl (by omega) (sorts_nm _) (enters_of Tryz.func116 (by kernel_rfl) rfl) 117 #[.pointer (some ⟨w.heap.size, 0, none⟩)] trivial (enters_of Tryz.func117 (by kernel_rfl) rfl) _ _ (by rw [hsz]; simp only [maxLen]; omega) (by rw [hsz]; omega) _ hseq
 change CallsIn _ _ Tryz.prog 85 _ _ _ at cS
 refine ⟨_, hS.ldL (i := 0) (o := 6) rfl (dirA _) rfl rfl, cK.mono ?_⟩
 rintro e w1 ⟨rfl, rfl⟩
 refine ⟨_, rfl, (callsIn_wide.1 cS).mono ?_⟩
 rintro e w2 ⟨v, ss, rfl, hS', hrow, hnil, hb⟩
 have hss : ss.Perm (m.now.map Ent.name) := (hS'.trans hperm).trans (hp.isn.perm.map _)
 have hsort := sort_names hp.okn.asc hss
 have hlen : ss.length = (namesM m).length := by rw [hss.length_eq]; rfl
 rw [hsort, hlen] at hrow
 have hb' : Below w.heap.size w w2 := ((Below.refl _ w).alloc (Nat.le_refl _) _).trans (hb.mono (by simp))
 have hrow' : w2.ownsRow w.heap.size 9 1 v (namesM m).length ((namesM m).map strV) := ownsRow_base hrow (by simp)
 have hst : St w [] w2 [.row 9 1 v (namesM m).length ((namesM m).map strV)] := (St.start w).add (Chg.of_below hb') (ownsRow_base hrow' (Nat.zero_le _)) (fun k hk => (World.ownsRow.lt hrow' k (by simpa [Res.fp] using hk)).1)
 rcases hrow'.2 with ⟨rfl, hz⟩ | ⟨g, cap, cur, rfl, _⟩
 · refine ⟨none, 0, 0, rfl, none, 0, by rw [hz], ?_⟩
   rw [hz] at hst ⊢
   exact hst
 · exact ⟨_, _, _, rfl, _, _, rfl, hst⟩

theorem lookF {gs : List Nat} {g : Nat} {es : Array MapEntry} {ck : Nat} {Mn d : Dir} (hE : MapE kyE (vlE gs) es ck Mn) (hD : MapIsA Ent.name Mn d) (hg : w.heap[g]? = some (.map es ck)) {e : Ent} (he : e ∈ d) :
   (Instr.lookup 112 (.map (some g)) (strV e.name) false).run Tryz.prog w = .ok (ptrV gs e.file) w := by
 have hf := hE.findK (P := Tryz.prog) (keyD Mn) (id := e.name) trivial w
 have hc := (keyD Mn).ops.chk e.name trivial es.isEmpty w
 have h1 := hD.find e.name
 rw [(findA_iff hD.asc).2 he] at h1
 obtain ⟨⟨j, e'⟩, hj, h2⟩ := Option.map_eq_some_iff.1 h1
 simp only at h2
 subst h2
 rw [hj] at hf
 simp [Instr.lookup, getObj, run_underlying dirT, Sem.run, hg, Result.andThen, hc, hf]

end

end Go.Proofs.YtmdandkoajocpaaGreatDoor
end

section
namespace Go.Proofs.YtmdandkoajocpaaGreatDoor
open Go Sx
set_option maxRecDepth 8000

def appendsM (m : DiskM) (n : Nm) : List (List UInt8) → DiskM × Option Int
 | [] => (m, none)
 | p :: ps => match (appendM m n [p]).2 with
   | some e => ((appendM m n [p]).1, some e)
   | none => appendsM (appendM m n [p]).1 n ps
def saveM (m : DiskM) (n : Nm) (ps : List (List UInt8)) : DiskM × Option Int := match (createM m n).2 with
 | some e => ((createM m n).1, some e)
 | none => match (appendsM (createM m n).1 n ps).2 with
   | some e => ((appendsM (createM m n).1 n ps).1, some e)
   | none => syncM (appendsM (createM m n).1 n ps).1 n

end Go.Proofs.YtmdandkoajocpaaGreatDoor
end

section
namespace Go.Proofs.YtmdandkoajocpaaGreatDoor
open Go.Shelf
def laysItoa_ren : Go.Shelf.Ren := ⟨fun | 171 => 44 | 243 => 80 | 246 => 113 | 283 => 131 | 284 => 132 | 285 => 133 | 286 => 134 | 129 => 152 | 317 => 151 | 318 => 153 | 319 => 154 | 320 => 155 | 337 => 173 | 338 => 174 | n => n, fun | 3 => 3 | 9 => 9 | 2 => 2 | 4 => 4 | 171 => 215 | 0 => 0 | 53 => 177 | 37 => 33 | 5 => 5 | 173 => 218 | 212 => 244 | 51 => 209 | 20 => 20 | 213 => 245 | 46 => 199 | 232 => 22 | 233 => 207 | n => n, fun | 17 => 2 | 18 => 3 | 19 => 4 | n => n⟩
theorem laysItoa : Go.Proofs.LaysM.n171 Tryz.prog laysItoa_ren := {
 mixed := by kernel_rfl
 f129 := Tryz.func152.trans (congrArg some (by kernel_rfl))
 f171 := Tryz.func44.trans (congrArg some (by kernel_rfl))
 f243 := Tryz.func80.trans (congrArg some (by kernel_rfl))
 f246 := Tryz.func113.trans (congrArg some (by kernel_rfl))
 f283 := Tryz.func131.trans (congrArg some (by kernel_rfl))
 f284 := Tryz.func132.trans (congrArg some (by kernel_rfl))
 f285 := Tryz.func133.trans (congrArg some (by kernel_rfl))
 f286 := Tryz.func134.trans (congrArg some (by kernel_rfl))
 f317 := Tryz.func151.trans (congrArg some (by kernel_rfl))
 f318 := Tryz.func153.trans (congrArg some (by kernel_rfl))
 f319 := Tryz.func154.trans (congrArg some (by kernel_rfl))
 f320 := Tryz.func155.trans (congrArg some (by kernel_rfl))
 f337 := Tryz.func173.trans (congrArg some (by kernel_rfl))
 f338 := Tryz.func174.trans (congrArg some (by kernel_rfl))
 t0 := Tryz.underlying0
 a0 := Tryz.isAgg0
 z0 := Tryz.sizeOf0
 v0 := Tryz.zeroValue0
 t2 := Tryz.underlying2
 a2 := Tryz.isAgg2
 z2 := Tryz.sizeOf2
 v2 := Tryz.zeroValue2
 t3 := Tryz.underlying3
 a3 := Tryz.isAgg3
 z3 := Tryz.sizeOf3
 v3 := Tryz.zeroValue3
 t4 := Tryz.underlying4
 a4 := Tryz.isAgg4
 z4 := Tryz.sizeOf4
 v4 := Tryz.zeroValue4
 t5 := Tryz.underlying5
 a5 := Tryz.isAgg5
 z5 := Tryz.sizeOf5
 v5 := Tryz.zeroValue5
 t9 := Tryz.underlying9
 a9 := Tryz.isAgg9
 z9 := Tryz.sizeOf9
 v9 := Tryz.zeroValue9
 t20 := Tryz.underlying20
 a20 := Tryz.isAgg20
 z20 := Tryz.sizeOf20
 v20 := Tryz.zeroValue20
 t37 := Tryz.underlying33
 a37 := Tryz.isAgg33
 z37 := Tryz.sizeOf33
 v37 := Tryz.zeroValue33
 t46 := Tryz.underlying199
 a46 := Tryz.isAgg199
 z46 := Tryz.sizeOf199
 v46 := Tryz.zeroValue199
 t51 := Tryz.underlying209
 a51 := Tryz.isAgg209
 z51 := Tryz.sizeOf209
 v51 := Tryz.zeroValue209
 t53 := Tryz.underlying177
 a53 := Tryz.isAgg177
 z53 := Tryz.sizeOf177
 v53 := Tryz.zeroValue177
 t171 := Tryz.underlying215
 a171 := Tryz.isAgg215
 z171 := Tryz.sizeOf215
 v171 := Tryz.zeroValue215
 t173 := Tryz.underlying218
 a173 := Tryz.isAgg218
 z173 := Tryz.sizeOf218
 v173 := Tryz.zeroValue218
 t212 := Tryz.underlying244
 a212 := Tryz.isAgg244
 z212 := Tryz.sizeOf244
 v212 := Tryz.zeroValue244
 t213 := Tryz.underlying245
 a213 := Tryz.isAgg245
 z213 := Tryz.sizeOf245
 t232 := Tryz.underlying22
 a232 := Tryz.isAgg22
 z232 := Tryz.sizeOf22
 v232 := Tryz.zeroValue22
 t233 := Tryz.underlying207
 a233 := Tryz.isAgg207
 z233 := Tryz.sizeOf207
 v233 := Tryz.zeroValue207
 g17 := by kernel_rfl
 g18 := by kernel_rfl
 g19 := by kernel_rfl
 i0 := by kernel_rfl
 i2 := by kernel_rfl
 i3 := by kernel_rfl
 i4 := by kernel_rfl
 i5 := by kernel_rfl
 i9 := by kernel_rfl
 i20 := by kernel_rfl
 i37 := by kernel_rfl
 i46 := by kernel_rfl
 i51 := by kernel_rfl
 i53 := by kernel_rfl
 i171 := by kernel_rfl
 i173 := by kernel_rfl
 i212 := by kernel_rfl
 i232 := by kernel_rfl
 i233 := by kernel_rfl
 m17 := by kernel_rfl
 m18 := by kernel_rfl
 m19 := by kernel_rfl }
end Go.Proofs.YtmdandkoajocpaaGreatDoor
end

section
namespace Go.Proofs.YtmdandkoajocpaaGreatDoor
open Go Sx
set_option maxRecDepth 8000

def PTab (w : World) : Prop := Lib.TabIs Tryz.prog w "internal/strconv.uint64pow10" .u64 Lib.pow10Tab
theorem PTab.keep0 {w w' : World} (h : PTab w) (hc : Chg [] w w') : PTab w' := by
 have hg : Tryz.prog.globalNamed "internal/strconv.uint64pow10" = some 2 := by kernel_rfl
 unfold PTab Lib.TabIs World.var? at *
 rw [hg] at h ⊢
 simp only [Option.bind_some] at h ⊢
 cases hh : w.heap[2]? with
 | none => rw [hh] at h; simp at h
 | some o =>
   have hlt := (Array.getElem?_eq_some_iff.1 hh).1
   rw [hc.block _ hlt (by simp), hh]
   rw [hh] at h
   exact h

theorem grow_chg (w : World) (q : Nat) (os : Array Obj) : Chg [] w (Sort.grow (w.drewN q) os) := ⟨rfl, rfl, rfl, by simp [Sort.grow, World.drewN], fun k hk _ => by simp [Sort.grow, World.drewN, Array.getElem?_append_left hk]⟩

def nameP (num : Int) : Nm := 112 :: Lib.itoa num
theorem itoa_spec (num : Int) (h : -9223372036854775808 ≤ num ∧ num ≤ 9223372036854775807) (w : World) (hT : PTab w) : Calls Tryz.prog 44 #[.int .i64 num] w fun e w' => e = .returned (.string ⟨(Lib.itoa num).toArray⟩) ∧ Chg [] w w' := by
 refine Calls.mono (Any.strconv_Itoa laysItoa num h.1 h.2 w hT) ?_
 rintro e w' ⟨rfl, q, os, rfl⟩
 exact ⟨rfl, grow_chg w q os⟩

theorem addS (a b : ByteArray) (x y : Operand) (w : World) (h : (a.size : Int) + (b.size : Int) ≤ 9223372036854775807) : (eqlS .add 9 x y (.string a) (.string b)).run Tryz.prog w = .ok (.string (a ++ b)) w := by
 simp [eqlS, eqGuard, binOp, Op.stringOp, h]

theorem pkname_spec (num : Int) (w : World) (hT : PTab w) (hg : goodP num = true) : Calls Tryz.prog 19 #[.int .i64 num] w fun e w' => e = .returned (strV (nameP num)) ∧ Chg [] w w' := by
 have h := goodP_iff.1 hg
 apply pack_Name_vc
 refine (pkgood_spec num w).mono ?_
 rintro e w1 ⟨rfl, rfl⟩
 rw [hg]
 refine ⟨_, rfl, fun h => (by cases h), fun _ => (itoa_spec num (by omega) w1 hT).mono ?_⟩
 rintro e w2 ⟨rfl, c2⟩
 have hsz : ((ByteArray.mk #[112]).size : Int) + ((ByteArray.mk (Lib.itoa num).toArray).size : Int) ≤ 9223372036854775807 := by
   have := Lib.itoa_length_le num (by omega) (by omega)
   have e1 : (ByteArray.mk (Lib.itoa num).toArray).size = (Lib.itoa num).length := by simp [ByteArray.size]
   have e2 : (ByteArray.mk #[112]).size = 1 := rfl
   rw [e1, e2]
   omega
 refine ⟨_, rfl, _, addS _ _ _ _ _ hsz, ?_, c2⟩
 have e : (ByteArray.mk #[112] ++ ByteArray.mk (Lib.itoa num).toArray) = ByteArray.mk (112 :: Lib.itoa num).toArray := by
   apply ByteArray.ext
   simp [ByteArray.data_append]
 exact congrArg (fun b => Ending.returned (.string b)) e

end Go.Proofs.YtmdandkoajocpaaGreatDoor
end

section
namespace Go.Proofs.YtmdandkoajocpaaGreatDoor
open Go Sx
set_option maxRecDepth 8000

theorem stepM_count (m : DiskM) : (stepM m).1.steps ≤ m.steps + 1 ∧ (stepM m).1.chs = m.chs := by
 unfold stepM
 split
 · exact ⟨Nat.le_succ _, rfl⟩
 · split <;> exact ⟨Nat.le_refl _, rfl⟩
theorem append_count (m : DiskM) (n : Nm) (ps : List (List UInt8)) : (appendM m n ps).1.steps ≤ m.steps + 1 := by
 unfold appendM
 split
 · exact Nat.le_succ _
 · split
   · unfold stepsM
     have := (stepM_count m).1
     split
     · exact this
     · exact this
   · exact Nat.le_succ _
theorem create_count (m : DiskM) (n : Nm) : (createM m n).1.steps ≤ m.steps + 1 := by
 unfold createM
 split
 · exact Nat.le_succ _
 · split
   · exact Nat.le_succ _
   · split
     · exact Nat.le_succ _
     · unfold stepsM
       have := (stepM_count m).1
       split
       · exact this
       · exact this

theorem pkA (w : World) : (isAgg 63).run Tryz.prog w = .ok true w := Tryz.isAgg63 w
theorem pkS (w : World) : (sizeOf 63).run Tryz.prog w = .ok 3 w := Tryz.sizeOf63 w
def pk3 (x y z : Int) : List Value := [.int .i64 x, .int .i64 y, .int .i64 z]
theorem pk3_one (x y z : Int) : ∀ v ∈ pk3 x y z, v.oneCell' = true := fun v hv => by
 simp only [pk3, List.mem_cons, List.not_mem_nil, or_false] at hv
 rcases hv with rfl | rfl | rfl <;> rfl
theorem pkZ (w : World) : (zeroValue 63).run Tryz.prog w = .ok (.agg (pk3 0 0 0).toArray) w := Tryz.zeroValue63 w
theorem built_pk : Tryz.prog.built 63 = fun parts => Instr.fill (fun i => (#[(0, 1), (1, 1), (2, 1)] : Array (Nat × Nat))[i]?) (pk3 0 0 0).toArray parts := by kernel_rfl
theorem pk_build0 (w : World) : (Instr.build 63 #[]).run Tryz.prog w = .ok (.agg (pk3 0 0 0).toArray) w := by
 apply run_build
 rw [built_pk]
 rfl
theorem pk_build (x y z : Int) (w : World) : (Instr.build 63 #[(0, .int .i64 x), (1, .int .i64 y), (2, .int .i64 z)]).run Tryz.prog w = .ok (.agg (pk3 x y z).toArray) w := by
 apply run_build
 rw [built_pk]
 show Instr.fill _ _ [(0, _), (1, _), (2, _)] = _
 rw [fill_step (off := 0) (sz := 1) rfl rfl (by simp [Value.cells, pk3]), fill_step (off := 1) (sz := 1) rfl rfl (by simp [Value.cells, pk3]), fill_step (off := 2) (sz := 1) rfl rfl (by simp [Value.cells, pk3])]
 rfl

section
variable {w0 w w' : World} {X : List Nat} {N N' T T' : List Res} {gd : Nat} {ps : List Nat} {m : DiskM}

theorem pkRet {g9 : Nat} {l : List Value} (h : DiskIn w0 X w gd ps m (N ++ [.arr g9 63 l])) (hl : l.length = 3) (x y z : Int) :
   ∃ w', (Instr.storeAt 63 (.pointer (some ⟨g9, 0, none⟩)) (.agg (pk3 x y z).toArray)).run Tryz.prog w = .ok () w' ∧ (loadVar 63 ⟨g9, 0, none⟩).run Tryz.prog w' = .ok (.agg (pk3 x y z).toArray) w' ∧ DiskIn w0 X w' gd ps m N := by
 have h1 := (h.rest.sub (List.sublist_append_right N _)).self
 obtain ⟨w2, r2, h2⟩ := h1.stA (i := 0) (v := pk3 x y z) rfl (pkS _) hl rfl (pk3_one _ _ _)
 have h2 : St w (fpsL [.arr g9 63 l]) w2 [.arr g9 63 (pk3 x y z)] := h2
 exact ⟨w2, r2, h2.ldVarA (i := 0) rfl (pkA _) (pkS _) rfl, (h.callN h2).subN (List.sublist_append_left _ _)⟩

end

end Go.Proofs.YtmdandkoajocpaaGreatDoor
end

section
namespace Go.Proofs.YtmdandkoajocpaaGreatDoor
open Go Sx
set_option maxRecDepth 8000

theorem d12B (w : World) : (Instr.build 187 #[]).run Tryz.prog w = .ok (.agg (bv (List.replicate 12 0)).toArray) w := by
 have := build_arr (P := Tryz.prog) (w := w) (T := 187) (d12Z w) Tryz.underlying187 (sB1 w) [] (by simp) (by simp)
 simpa using this

theorem rtag_spec (K : List UInt8) (k : UInt8) (a2 : Option Addr) (n2 c2 : Nat) (ctx : List UInt8) (a3 : Option Addr) (n3 c3 : Nat) (nonce : List UInt8) (a4 : Option Addr) (n4 c4 : Nat) (body : List UInt8) (w : World) (hk : K.length = 96) (hr2 : RdB w a2 n2 c2 ctx) (hr3 : RdB w a3 n3 c3 nonce) (hr4 : RdB w a4 n4 c4 body) (hb : n2 + n3 + n4 ≤ 67108000) :
   Calls Tryz.prog 107 #[.agg (bv K).toArray, .int .u8 (k.toNat : Int), .slice a2 n2 c2, .slice a3 n3 c3, .slice a4 n4 c4] w fun e w' => e = .returned (.agg (bv (tagF K k ctx nonce body)).toArray) ∧ Chg [] w w' := by
 have e2 := hr2.lenB
 have e3 := hr3.lenB
 have e4 := hr4.lenB
 apply amphoraref05_Tag_vc
 obtain ⟨g1, w1, r1, h1⟩ := (St.start w).boxA 28 (bv K)
 obtain ⟨g2, w2, r2, h2⟩ := h1.zeroA d32Z
 have h2d := h2.drew
 obtain ⟨g3, w3, r3, c3', q3⟩ := litK k w2.drew
 have h3 := h2d.same c3'
 obtain ⟨g4, w4, r4, c4', q4, _⟩ := litC bbT [.slice (some ⟨g3, 0, none⟩) 1 1, .slice a2 n2 c2, .slice a3 n3 c3, .slice a4 n4 c4] (by simp [Value.oneCell']) (by simp) w3
 have h4 := h3.same c4'
 have hrow : Row2 w4 [.slice (some ⟨g3, 0, none⟩) 1 1, .slice a2 n2 c2, .slice a3 n3 c3, .slice a4 n4 c4] [[k], ctx, nonce, body] :=
   (row2_three (h4.rd1 hr2) (h4.rd1 hr3) (h4.rd1 hr4)).cons (q3.keep0 c4')
 refine ⟨g1, w1, r1, g2, w2, r2, by omega, by omega, _, _, _, _, r3, _, _, _, _, r4, (rpack_spec _ 4 4 _ [[k], ctx, nonce, body] w4 q4 hrow (by simp; omega) (by simp)).mono ?_⟩
 rintro e w5 ⟨a5, n5, c5, rfl, hf5⟩
 have h5 := h4.same hf5.1
 obtain ⟨g6, w6, r6, c6', q6, _⟩ := litC bbT [.slice a5 n5 c5] (by simp [Value.oneCell']) (by simp) w5
 have h6 := h5.same c6'
 have hpl : (packL [[k], ctx, nonce, body]).length ≤ 67109864 := by
   have := packL_len [[k], ctx, nonce, body] (by simp; omega)
   simp at this ⊢
   omega
 refine ⟨_, _, _, rfl, _, _, _, _, r6, (rmac_spec _ 32 32 (macKy K) _ 1 1 _ [packL [[k], ctx, nonce, body]] w6 (macK_rd h6 (i := 0) rfl hk).1 (by omega) q6 (row2_one (hf5.rdB.keep0 c6')) (by rw [List.flatten_cons, List.flatten_nil, List.append_nil]; omega) (by decide)).mono ?_⟩
 rintro e w7 ⟨rfl, c7⟩
 have e1 : [packL [[k], ctx, nonce, body]].flatten = packL [[k], ctx, nonce, body] := by rw [List.flatten_cons, List.flatten_nil, List.append_nil]
 rw [e1]
 obtain ⟨w8, r8, h8⟩ := (h6.same c7).stA (i := 1) (v := bv (tagF K k ctx nonce body)) rfl (d32S _) (by simp) (by simp) (bv_one _)
 exact ⟨_, rfl, w8, r8, _, h8.ldVarA (i := 1) (l := bv (tagF K k ctx nonce body)) rfl (d32A _) (d32S _) (by simp), rfl, h8.chg⟩

end Go.Proofs.YtmdandkoajocpaaGreatDoor
end

section
namespace Go.Proofs.YtmdandkoajocpaaGreatDoor
open Go Sx
set_option maxRecDepth 8000

theorem rseal_spec (K : List UInt8) (k : UInt8) (a2 : Option Addr) (n2 c2 : Nat) (ctx : List UInt8) (a3 : Option Addr) (n3 c3 : Nat) (plain : List UInt8) (w : World)
   (hk : K.length = 96) (hr2 : RdB w a2 n2 c2 ctx) (hr3 : RdB w a3 n3 c3 plain) (hb : n2 + n3 ≤ 67100000) :
   Calls Tryz.prog 76 #[.agg (bv K).toArray, .int .u8 (k.toNat : Int), .slice a2 n2 c2, .slice a3 n3 c3] w fun e w' => ∃ a n c, e = .returned (.slice a n c) ∧ FreshB w w' a n c (sealF K k ctx plain) := by
 have e2 := hr2.lenB
 have e3 := hr3.lenB
 apply amphoraref05_Seal_vc
 obtain ⟨g1, w1, r1, h1⟩ := (St.start w).boxA 28 (bv K)
 have hd := Chg.drew [] w1
 have P20 : ∀ w' g, Chg [] w1 w' → RdB w' (some ⟨g, 0, none⟩) 1 1 [k] → ∃ g2 w'', (Instr.buildSlice 23 3 #[(0, .slice (some ⟨g, 0, none⟩) 1 1), (1, .slice a2 n2 c2), (2, .slice a3 n3 c3)]).run Tryz.prog w' = .ok (.slice (some ⟨g2, 0, none⟩) 3 3) w'' ∧ Chg [] w' w'' ∧
     Rd w'' (some ⟨g2, 0, none⟩) 3 3 1 [.slice (some ⟨g, 0, none⟩) 1 1, .slice a2 n2 c2, .slice a3 n3 c3] ∧ Row2 w'' [.slice (some ⟨g, 0, none⟩) 1 1, .slice a2 n2 c2, .slice a3 n3 c3] [[k], ctx, plain] := fun w' g hc hr => by
   obtain ⟨g2, w2, r2, c2', q2, _⟩ := litC bbT [.slice (some ⟨g, 0, none⟩) 1 1, .slice a2 n2 c2, .slice a3 n3 c3] (by simp [Value.oneCell']) (by simp) w'
   have hcc := h1.chg.trans (hc.trans c2')
   exact ⟨g2, w2, r2, c2', q2, row2_three (hr.keep0 c2') (hr2.keep0 hcc) (hr3.keep0 hcc)⟩
 obtain ⟨P, hP⟩ : ∃ P, packL [[k], ctx, plain] = P := ⟨_, rfl⟩
 have hpl : P.length ≤ 67109864 := by
   have := packL_len [[k], ctx, plain] (by simp; omega)
   rw [hP] at this
   simp at this
   omega
 have Ppk : ∀ w' g2 vs, Rd w' (some ⟨g2, 0, none⟩) 3 3 1 vs → Row2 w' vs [[k], ctx, plain] → Calls Tryz.prog 105 #[.slice (some ⟨g2, 0, none⟩) 3 3] w' fun e w'' => ∃ a n c, e = .returned (.slice a n c) ∧ FreshB w' w'' a n c P := fun w' g2 vs q qr => by
   have := rpack_spec _ 3 3 vs [[k], ctx, plain] w' q qr (by simp; omega) (by simp)
   rw [hP] at this; exact this
 have P22 : ∀ w' a n c, RdB w' a n c P → ∃ g2 w'', (Instr.buildSlice 23 1 #[(0, .slice a n c)]).run Tryz.prog w' = .ok (.slice (some ⟨g2, 0, none⟩) 1 1) w'' ∧ Chg [] w' w'' ∧ Rd w'' (some ⟨g2, 0, none⟩) 1 1 1 [.slice a n c] ∧ Row2 w'' [.slice a n c] [P] := fun w' a n c hr => by
   obtain ⟨g2, w2, r2, c2', q2, _⟩ := litC bbT [.slice a n c] (by simp [Value.oneCell']) (by simp) w'
   exact ⟨g2, w2, r2, c2', q2, row2_one (hr.keep0 c2')⟩
 obtain ⟨d, hdd⟩ : ∃ d, macF (nameK K) P = d := ⟨_, rfl⟩
 have hdl : d.length = 32 := by rw [← hdd]; exact macF_len _ _
 have Pm : ∀ w' g2 vs, Chg [] w1 w' → Rd w' (some ⟨g2, 0, none⟩) 1 1 1 vs → Row2 w' vs [P] → Calls Tryz.prog 101 #[.slice (some ⟨g1, 64, none⟩) 32 32, .slice (some ⟨g2, 0, none⟩) 1 1] w' fun e w'' => e = .returned (.agg (bv d).toArray) ∧ Chg [] w' w'' := fun w' g2 vs hc q qr => by
   have e1 : [P].flatten = P := by rw [List.flatten_cons, List.flatten_nil, List.append_nil]
   have := rmac_spec _ 32 32 (nameK K) _ 1 1 vs [P] w' (macK_rd (h1.same hc) (i := 0) rfl hk).2 (by omega) q qr (by rw [e1]; omega) (by decide)
   rw [e1, hdd] at this; exact this
 have hsf : sealF K k ctx plain = [k] ++ d.take 12 ++ overF K (d.take 12) plain ++ tagF K k ctx (d.take 12) (overF K (d.take 12) plain) := by rw [sealF, nonceF, hP, hdd]
 have fin : ∀ g9 w7, St w [] w7 [.arr g1 28 (bv K), .arr g9 22 (bv (List.replicate 32 0))] → ∃ w8, (Instr.storeAt 22 (.pointer (some ⟨g9, 0, none⟩)) (.agg (bv d).toArray)).run Tryz.prog w7 = .ok () w8 ∧ (0 = 0 ∧ St w [] w8 [.arr g1 28 (bv K), .arr g9 22 (bv d)]) := fun g9 w7 h7 => by
   obtain ⟨w8, r8, h8⟩ := h7.stA (i := 1) (v := bv d) rfl (d32S _) (by simp) (by simp [hdl]) (bv_one _)
   exact ⟨w8, r8, rfl, h8⟩
 obtain ⟨g3, w3, r3, c3', q3⟩ := litK k w1.drew
 have d3 := hd.trans c3'
 obtain ⟨g4, w4, r4, c4', q4, qr4⟩ := P20 w3 g3 d3 q3
 have d4 := d3.trans c4'
 refine ⟨g1, w1, r1, fun b o w' => o = 0 ∧ St w [] w' [.arr g1 28 (bv K), .arr b 22 (bv d)], ⟨by omega, by omega, ⟨_, _, _, _, r3, ⟨_, _, _, _, r4, (Ppk w4 g4 _ q4 qr4).mono ?_, ?_⟩, ?_⟩, ?_⟩, ?_⟩
 · rintro e w5 ⟨a5, n5, c5, rfl, hf5⟩
   have d5 := d4.trans hf5.1
   refine ⟨_, _, _, rfl, ?_, ?_⟩
   · obtain ⟨g6, w6, r6, c6', q6, qr6⟩ := P22 w5 _ _ _ hf5.rdB
     have d6 := d5.trans c6'
     refine ⟨_, _, _, _, r6, (Pm w6 g6 _ d6 q6 qr6).mono ?_, ?_⟩
     · rintro e w7 ⟨rfl, c7⟩
       obtain ⟨g9, w9, r9, h9⟩ := (h1.same (d6.trans c7)).zeroA d32Z
       exact ⟨_, rfl, g9, w9, r9, fin g9 w9 h9⟩
     · obtain ⟨g9, w9, r9, h9, c9⟩ := (h1.same d6).zeroAC d32Z
       refine ⟨g9, w9, r9, (Pm w9 g6 _ (d6.trans c9) (q6.keep0 c9) (qr6.keep0 c9)).mono ?_⟩
       rintro e w10 ⟨rfl, c10⟩
       exact ⟨_, rfl, fin g9 w10 (h9.same c10)⟩
   · obtain ⟨g9, w9, r9, h9, c9⟩ := (h1.same d5).zeroAC d32Z
     obtain ⟨g6, w6, r6, c6', q6, qr6⟩ := P22 w9 _ _ _ (hf5.rdB.keep0 c9)
     refine ⟨g9, w9, r9, _, _, _, _, r6, (Pm w6 g6 _ ((d5.trans c9).trans c6') q6 qr6).mono ?_⟩
     rintro e w10 ⟨rfl, c10⟩
     exact ⟨_, rfl, fin g9 w10 (h9.same (c6'.trans c10))⟩
 · obtain ⟨g9, w9, r9, h9, c9⟩ := (h1.same d4).zeroAC d32Z
   refine ⟨g9, w9, r9, (Ppk w9 g4 _ (q4.keep0 c9) (qr4.keep0 c9)).mono ?_⟩
   rintro e w5 ⟨a5, n5, c5, rfl, hf5⟩
   have d5 := (d4.trans c9).trans hf5.1
   obtain ⟨g6, w6, r6, c6', q6, qr6⟩ := P22 w5 _ _ _ hf5.rdB
   refine ⟨_, _, _, rfl, _, _, _, _, r6, (Pm w6 g6 _ (d5.trans c6') q6 qr6).mono ?_⟩
   rintro e w10 ⟨rfl, c10⟩
   exact ⟨_, rfl, fin g9 w10 (h9.same (hf5.1.trans (c6'.trans c10)))⟩
 · obtain ⟨g9, w9, r9, h9, c9⟩ := (h1.same d3).zeroAC d32Z
   obtain ⟨g4, w4, r4, c4', q4, qr4⟩ := P20 w9 g3 (d3.trans c9) (q3.keep0 c9)
   refine ⟨g9, w9, r9, _, _, _, _, r4, (Ppk w4 g4 _ q4 qr4).mono ?_⟩
   rintro e w5 ⟨a5, n5, c5, rfl, hf5⟩
   have d5 := ((d3.trans c9).trans c4').trans hf5.1
   obtain ⟨g6, w6, r6, c6', q6, qr6⟩ := P22 w5 _ _ _ hf5.rdB
   refine ⟨_, _, _, rfl, _, _, _, _, r6, (Pm w6 g6 _ (d5.trans c6') q6 qr6).mono ?_⟩
   rintro e w10 ⟨rfl, c10⟩
   exact ⟨_, rfl, fin g9 w10 (h9.same ((c4'.trans hf5.1).trans (c6'.trans c10)))⟩
 · obtain ⟨g9, w9, r9, h9, c9⟩ := (h1.same hd).zeroAC d32Z
   obtain ⟨g3, w3, r3, c3', q3⟩ := litK k w9
   have d3 := (hd.trans c9).trans c3'
   obtain ⟨g4, w4, r4, c4', q4, qr4⟩ := P20 w3 g3 d3 q3
   refine ⟨g9, w9, r9, _, _, _, _, r3, _, _, _, _, r4, (Ppk w4 g4 _ q4 qr4).mono ?_⟩
   rintro e w5 ⟨a5, n5, c5, rfl, hf5⟩
   have d5 := (d3.trans c4').trans hf5.1
   obtain ⟨g6, w6, r6, c6', q6, qr6⟩ := P22 w5 _ _ _ hf5.rdB
   refine ⟨_, _, _, rfl, _, _, _, _, r6, (Pm w6 g6 _ (d5.trans c6') q6 qr6).mono ?_⟩
   rintro e w10 ⟨rfl, c10⟩
   exact ⟨_, rfl, fin g9 w10 (h9.same ((c3'.trans (c4'.trans hf5.1)).trans (c6'.trans c10)))⟩
 clear fin Pm P22 Ppk P20 q4 qr4 r4 r3 q3 c3' c4' d3 d4
 obtain ⟨nn, hnn⟩ : ∃ n, d.take 12 = n := ⟨_, rfl⟩
 have hnl : nn.length = 12 := by rw [← hnn, List.length_take]; omega
 rw [hnn] at hsf
 rintro g9 o w7 ⟨rfl, h7⟩
 obtain ⟨g10, w8, r8, h8⟩ := h7.zeroA d12Z
 obtain ⟨w9, r9, h9⟩ := h8.stA (i := 2) (v := bv (mixG nn (List.replicate 12 0) 0)) rfl (d12S _) (by simp) (by rw [mixG_zero]; simp) (bv_one _)
 rw [mixG_zero] at r9
 refine ⟨_, d12B _, g10, w8, r8, w9, r9, fun x w' => ∃ i : Nat, x = (i : Int) ∧ i ≤ 12 ∧ St w [] w' [.arr g1 28 (bv K), .arr g9 22 (bv d), .arr g10 187 (bv (mixG nn (List.replicate 12 0) i))], fun x _ => 12 - x.toNat, ⟨0, rfl, by omega, h9⟩, ?_⟩
 rintro x w10 ⟨i, rfl, hi, h10⟩
 refine ⟨fun h => ?_, fun h => ?_⟩
 · have hi' : i < 12 := by simp at h; omega
   have hbi : nn[i]? = some (d.getD i 0) := by
     rw [← hnn, List.getElem?_take, if_pos hi', List.getD, List.getElem?_eq_getElem (by omega)]
     rfl
   have hml : (mixG nn (List.replicate 12 (0 : UInt8)) i).length = 12 := by simp [mixG]; omega
   obtain ⟨w11, r11, h11⟩ := h10.stB (i := 2) (o := i) (T := 5) (b := d.getD i 0) rfl (sB1 _) (show 0 + Int.toNat (i : Int) * 1 = i by omega) (by omega)
   rw [mixG_set (by rw [hnl, List.length_replicate]) hbi] at h11
   exact ⟨by omega, by omega, _, h10.ldB (i := 1) (o := i) rfl (bA _) (show 0 + Int.toNat (i : Int) * 1 = i by omega) (by omega), by omega, by omega, w11, r11, ⟨i + 1, wrap_succ hi' (by omega), by omega, h11⟩, mu_succ hi' (by omega)⟩
 have hi' : i = 12 := by simp at h; omega
 have f1 : mixG nn (List.replicate 12 (0 : UInt8)) i = nn := by
   have := mixG_all (x := nn) (l := List.replicate 12 (0 : UInt8)) (by rw [hnl, List.length_replicate])
   rw [List.length_replicate] at this; rw [hi', this]
 rw [f1] at h10
 clear f1 hi' h hi h9 h8 r8 r9 h7
 have hov := overF_len K nn plain
 refine ⟨_, h10.ldPre (T := 22) (i := 0) (l := bv K) rfl (d32A _) (d32S _) (by simp [hk]), _, h10.ldA (i := 2) (l := bv nn) rfl (d12A _) (d12S _) (by simp [hnl]), ?_⟩
 rw [← bv_take]
 refine (rxor_spec (ciphK K) nn 0 a3 n3 c3 plain w10 (by simp [ciphK, hk]) hnl (by omega) (by omega) (h10.rd1 hr3) (by omega)).mono ?_
 rintro e w11 ⟨a11, n11, c11, rfl, hf11⟩
 have hbody : xorR (ciphK K) nn (Int.toNat 0) plain = overF K nn plain := rfl
 obtain ⟨body, hbd⟩ : ∃ b, overF K nn plain = b := ⟨_, rfl⟩
 have hf11' : FreshB w10 w11 a11 n11 c11 body := by rw [← hbd]; exact hf11
 rw [hbd] at hsf hov
 have e11 := hf11'.2.1
 have h11 := (hf11'.add h10).drew
 have hz := Chg.refl [] w11.drew
 have ld : ∀ w', Chg [] w11.drew w' → (Instr.loadAt 28 (.pointer (some ⟨g1, 0, none⟩))).run Tryz.prog w' = .ok (.agg (bv K).toArray) w' := fun w' hc => (h11.same hc).ldA (i := 0) (l := bv K) rfl (kyA _) (kyS _) (by simp [hk])
 obtain ⟨tg, htg⟩ : ∃ t, tagF K k ctx nn body = t := ⟨_, rfl⟩
 have htl : tg.length = 32 := by rw [← htg]; simp
 rw [htg] at hsf
 have Pt : ∀ w', Chg [] w11.drew w' → Calls Tryz.prog 107 #[.agg (bv K).toArray, .int .u8 (k.toNat : Int), .slice a2 n2 c2, .slice (some ⟨g10, 0, none⟩) 12 12, .slice a11 n11 c11] w' fun e w'' => e = .returned (.agg (bv tg).toArray) ∧ Chg [] w' w'' := fun w' hc => by
   have := rtag_spec K k a2 n2 c2 ctx _ 12 12 nn a11 n11 c11 body w' hk ((h11.same hc).rd1 hr2) ((h11.same hc).rdA (i := 2) rfl (by simp [hnl])) ((h11.same hc).rd (i := 3) rfl) (by omega)
   rw [htg] at this
   exact this
 have fin : ∀ g w', St w [] w' [.arr g1 28 (bv K), .arr g9 22 (bv d), .arr g10 187 (bv nn), .row 5 1 (.slice a11 n11 c11) n11 (bv body), .arr g 22 (bv (List.replicate 32 0))] → ∃ w8, (Instr.storeAt 22 (.pointer (some ⟨g, 0, none⟩)) (.agg (bv tg).toArray)).run Tryz.prog w' = .ok () w8 ∧ (0 = 0 ∧ St w [] w8 [.arr g1 28 (bv K), .arr g9 22 (bv d), .arr g10 187 (bv nn), .row 5 1 (.slice a11 n11 c11) n11 (bv body), .arr g 22 (bv tg)]) := fun g w' h => by
   obtain ⟨w8, r8, h8⟩ := h.stA (i := 4) (v := bv tg) rfl (d32S _) (by simp) (by simp [htl]) (bv_one _)
   exact ⟨w8, r8, rfl, h8⟩
 refine ⟨_, _, _, _, rfl, fun b o w' => o = 0 ∧ St w [] w' [.arr g1 28 (bv K), .arr g9 22 (bv d), .arr g10 187 (bv nn), .row 5 1 (.slice a11 n11 c11) n11 (bv body), .arr b 22 (bv tg)], ⟨fun w' => Chg [] w11.drew w', hz, by omega, by omega, _, ld, (Pt _ hz).mono ?_, ?_⟩, ?_⟩
 · rintro e w12 ⟨rfl, c12⟩
   obtain ⟨g14, w13, r13, h13, c13⟩ := (h11.same c12).zeroAC d32Z
   exact ⟨_, rfl, fun w' => Chg [] w11.drew w', fun _ h => h, c12, g14, w13, r13, fun w' => Chg [] w11.drew w', fun _ h => h, c12.trans c13, fin g14 w13 h13⟩
 · obtain ⟨g14, w13, r13, h13, c13⟩ := h11.zeroAC d32Z
   refine ⟨g14, w13, r13, fun w' => Chg [] w11.drew w', fun _ h => h, c13, (Pt _ c13).mono ?_⟩
   rintro e w12 ⟨rfl, c12⟩
   exact ⟨_, rfl, fun w' => Chg [] w11.drew w', fun _ h => h, c13.trans c12, fin g14 w12 (h13.same c12)⟩
 rintro g14 o w12 ⟨rfl, h12⟩
 obtain ⟨g15, w13, r13, h13⟩ := h12.lit bT [.int .u8 (k.toNat : Int)] (by simp [Value.oneCell']) (by simp)
 have h13' : St w [] w13 [.arr g1 28 (bv K), .arr g9 22 (bv d), .arr g10 187 (bv nn), .row 5 1 (.slice a11 n11 c11) n11 (bv body), .arr g14 22 (bv tg), .row 5 1 (.slice (some ⟨g15, 0, none⟩) 1 1) 1 (bv [k])] := h13
 obtain ⟨vb, vd, w16, r16, h16⟩ := h13'.appendB (i := 5) (m := 12) (l := nn) rfl (h13'.rdA (i := 2) rfl (by simp [hnl])) (by omega)
 have h16' : St w [] w16 [.arr g1 28 (bv K), .arr g9 22 (bv d), .arr g10 187 (bv nn), .row 5 1 (.slice a11 n11 c11) n11 (bv body), .arr g14 22 (bv tg), .row 5 1 (.slice vb (1 + 12) vd) (1 + 12) (bv ([k] ++ nn))] := h16
 obtain ⟨ve, vf, w17, r17, h17⟩ := h16'.appendB (i := 5) rfl (h16'.rd (i := 3) (xs := bv body) rfl) (by omega)
 have h17' : St w [] w17 [.arr g1 28 (bv K), .arr g9 22 (bv d), .arr g10 187 (bv nn), .row 5 1 (.slice a11 n11 c11) n11 (bv body), .arr g14 22 (bv tg), .row 5 1 (.slice ve (1 + 12 + n11) vf) (1 + 12 + n11) (bv ([k] ++ nn ++ body))] := h17
 obtain ⟨vg, vh, w18, r18, h18⟩ := h17'.appendB (i := 5) (m := 32) (l := tg) rfl (h17'.rdA (i := 4) rfl (by simp [htl])) (by omega)
 refine ⟨_, _, _, _, r13, by omega, by omega, _, _, _, _, r16, _, _, _, _, r17, by omega, by omega, _, _, _, _, r18, _, _, _, rfl, ?_⟩
 rw [hsf]
 exact h18.freshB (i := 5) rfl

end Go.Proofs.YtmdandkoajocpaaGreatDoor
end

section
namespace Go.Proofs.YtmdandkoajocpaaGreatDoor
open Go Sx
set_option maxRecDepth 8000

section
variable {w0 w w' : World} {X : List Nat} {M N N' T : List Res}

theorem rnum8 (x : Int) (w : World) : Calls Tryz.prog 74 #[.int .i64 x] w fun e w' => ∃ a c, e = .returned (.slice a 8 c) ∧ FreshB w w' a 8 c (numL (n64 x)) := by
 refine (rnum_bytes x w).mono ?_
 rintro e w' ⟨a, n, c, rfl, hf⟩
 have hn : n = 8 := by rw [← hf.2.1]; exact numL_len _
 subst hn
 exact ⟨a, c, rfl, hf⟩

theorem idIn {α : Type} {enc : α → List Value} {k : Nat} {a : Option Addr} {n c i : Nat} {l : List α} {x : α} {id : List UInt8} {tl : List Value} (h : RdE enc k w a n c l) (hk : 0 < k) (hx : l[i]? = some x) (he : enc x = bv id ++ tl) (hl : id.length = 32) :
   ∃ b o, a = some ⟨b, o, none⟩ ∧ ∀ w', RdE enc k w' a n c l → RdB w' (some ⟨b, o + Int.toNat (i : Int) * k, none⟩) 32 32 id := by
 obtain ⟨b, o, hab, hr⟩ := h.at_ hk hx
 refine ⟨b, o, hab, fun w' h' => ⟨.inr ⟨b, _, rfl, fun j v hj => ?_⟩, by simp [hl], Nat.le_refl _, by simp⟩⟩
 rw [Int.toNat_natCast]
 refine hr w' h' j v ?_
 rw [he, List.getElem?_append_left (List.getElem?_eq_some_iff.1 hj).1]; exact hj

theorem refAt3 (r : RefD) : (refC r)[33]? = some (.int .i64 r.at_) ∧ (refC r)[34]? = some (.int .i64 r.len) := by
 constructor <;> rw [refC, List.getElem?_append_right (by simp [r.idl])] <;> simp [r.idl]

theorem rfoot_spec (a : Option Addr) (n c : Nat) (l : List RefD) (w : World) (hr : RdR w a n c l) (hb : n ≤ 1000000) :
   Calls Tryz.prog 77 #[.slice a n c] w fun e w' => ∃ a' n' c', e = .returned (.slice a' n' c') ∧ FreshB w w' a' n' c' (footL l) := by
 have hln := hr.num (by decide)
 apply amphoraref13_foot_vc
 have h1 : St w [] w [.row 5 1 (.slice none 0 0) 0 (bv (footL (l.take 0)))] := (St.start w).addNil _ _
 refine ⟨fun xa xn xc x w' => ∃ i : Nat, x = (i : Int) ∧ i ≤ n ∧ St w [] w' [.row 5 1 (.slice xa xn xc) xn (bv (footL (l.take i)))], fun _ _ _ x _ => n - x.toNat, ⟨0, rfl, by omega, h1⟩, ?_⟩
 rintro xa xn xc x w2 ⟨i, rfl, hi, h2⟩
 have hxn : xn = 48 * i := by
   have e1 := (h2.rd (i := 0) rfl).lenB
   rw [footL_len, List.length_take] at e1
   omega
 refine ⟨fun h => ?_, fun h => ?_⟩
 · have hi' : i < n := by simp at h; omega
   have ha : l[i]? = some l[i] := List.getElem?_eq_getElem (by omega)
   obtain ⟨r, hrr⟩ : ∃ r, l[i] = r := ⟨_, rfl⟩
   rw [hrr] at ha
   obtain ⟨b1, o1, hab1, q1⟩ := idIn hr (by decide) ha (show refC r = bv r.id ++ _ from rfl) r.idl
   obtain ⟨b2, o2, hab2, q2⟩ := hr.fld (P := Tryz.prog) (by decide) inA (j := 33) ha (refAt3 r).1
   obtain ⟨b3, o3, hab3, q3⟩ := hr.fld (P := Tryz.prog) (by decide) inA (j := 34) ha (refAt3 r).2
   obtain ⟨va, vc, w3, r3, h3⟩ := h2.appendB (i := 0) rfl (q1 w2 (hr.keep0 h2.chg)) (by omega)
   have h3 : St w [] w3 [.row 5 1 (.slice va (xn + 32) vc) (xn + 32) (bv (footL (l.take i) ++ r.id))] := h3
   refine ⟨b1, o1, hab1, by omega, by omega, by omega, by omega, _, _, _, w3, r3, b2, o2, hab2, by omega, by omega, _, q2 w3 (hr.keep0 h3.chg), (rnum8 r.at_ w3).mono ?_⟩
   rintro e w6 ⟨a6, c6, rfl, hf6⟩
   have h6 : St w [] w6 [.row 5 1 (.slice va (xn + 32) vc) (xn + 32) (bv (footL (l.take i) ++ r.id)), .row 5 1 (.slice a6 8 c6) 8 (bv (numL (n64 r.at_)))] := hf6.add h3
   obtain ⟨vd, ve, w7, r7, h7⟩ := h6.appendB (i := 0) rfl (h6.rd (i := 1) rfl) (by omega)
   have h7 : St w [] w7 [.row 5 1 (.slice vd (xn + 32 + 8) ve) (xn + 32 + 8) (bv (footL (l.take i) ++ r.id ++ numL (n64 r.at_))), .row 5 1 (.slice a6 8 c6) 8 (bv (numL (n64 r.at_)))] := h7
   refine ⟨_, _, _, rfl, _, _, _, w7, r7, b3, o3, hab3, by omega, by omega, _, q3 w7 (hr.keep0 h7.chg), (rnum8 r.len w7).mono ?_⟩
   rintro e w8 ⟨a8, c8, rfl, hf8⟩
   have h8 : St w [] w8 [.row 5 1 (.slice vd (xn + 32 + 8) ve) (xn + 32 + 8) (bv (footL (l.take i) ++ r.id ++ numL (n64 r.at_))), .row 5 1 (.slice a6 8 c6) 8 (bv (numL (n64 r.at_))), .row 5 1 (.slice a8 8 c8) 8 (bv (numL (n64 r.len)))] := hf8.add h7
   obtain ⟨vf, vg, w9, r9, h9⟩ := h8.appendB (i := 0) rfl (h8.rd (i := 2) rfl) (by omega)
   refine ⟨_, _, _, rfl, _, _, _, w9, r9, ⟨i + 1, wrap_succ hi' (by omega), by omega, ?_⟩, mu_succ hi' (by omega)⟩
   have e2 : footL (l.take (i + 1)) = footL (l.take i) ++ r.id ++ numL (n64 r.at_) ++ numL (n64 r.len) := by
     rw [List.take_add_one, ha]; simp [footL, refBy, List.append_assoc]
   rw [e2]
   exact h9.sub (List.Sublist.cons_cons _ (List.nil_sublist _))
 · have hi' : i = n := by simp at h; omega
   rw [hi', List.take_of_length_le (by omega)] at h2
   exact ⟨_, _, _, rfl, h2.freshB (i := 0) rfl⟩

set_option maxHeartbeats 2000000 in
theorem rpieces_spec (K : List UInt8) (hk : K.length = 96) (num : Int) (a : Option Addr) (n c : Nat) (l : List ItD) (w : World) (hg : goodP num = true) (hr : ItR w a n c l) (hs : SmallI (l.map ItD.t)) :
   Calls Tryz.prog 41 #[.agg (bv K).toArray, .int .i64 num, .slice a n c] w fun e w' => ∃ (ps : List PcD) (la : Option Addr) (lc : Nat) (ra : Option Addr) (rc : Nat), e = .returned (.tuple #[.slice la ps.length lc, .slice ra (refsP num 16 (l.map ItD.t)).length rc]) ∧ ps.map PcD.l = piecesP K num (l.map ItD.t) ∧
     St w [] w' ([.row 33 1 (.slice la ps.length lc) ps.length (ps.map PcD.v), .row 75 35 (.slice ra (refsP num 16 (l.map ItD.t)).length rc) (refsP num 16 (l.map ItD.t)).length ((refsP num 16 (l.map ItD.t)).flatMap refC)] ++ ps.map PcD.row) := by
 have hln := hr.rd.num (by decide)
 have hnum := hs.num
 rw [List.length_map] at hnum
 have hgi := goodP_iff.1 hg
 have hbl : ∀ x ∈ l, x.n ≤ 16777216 ∧ x.blob.length = x.n := fun x hx => by
   have h1 := (hr.blobs x hx).lenB
   have h2 : x.blob.length ≤ 16777216 := hs.blob (List.mem_map_of_mem hx)
   omega
 apply amphoraref13_Pieces_vc
 obtain ⟨g3, w1, r1, k1⟩ := (St.start w).boxA (P := Tryz.prog) 28 (bv K)
 obtain ⟨g2, w2, r2, k2⟩ := k1.lit bT (bv magicL) (bv_one _) (by decide)
 have k2 : St w [] w2 [.arr g3 28 (bv K), .row 5 1 (.slice (some ⟨g2, 0, none⟩) 8 8) 8 (bv magicL)] := k2
 obtain ⟨w3, o, r3, k3, ho⟩ := convHold k2 (i := 1) rfl
 have k3 : St w [] w3 [.arr g3 28 (bv K), .blk g2 o] := k3
 refine ⟨g3, w1, r1, _, _, _, w2, r2, _, _, _, w3, r3, (rnum8 num w3).mono ?_⟩
 rintro e w4 ⟨a4, c4, rfl, hf4⟩
 have k4 : St w [] w4 [.arr g3 28 (bv K), .blk g2 o, .row 5 1 (.slice a4 8 c4) 8 (bv (numL (n64 num)))] := hf4.add k3
 obtain ⟨va, vc, w5, r5, k5⟩ := k4.appendRdB (ho _ (k4.holds 1 _ rfl)) (by simp) (k4.rd (i := 2) rfl) (by decide) (by decide)
 have k5 : St w [] w5 [.arr g3 28 (bv K), .blk g2 o, .row 5 1 (.slice a4 8 c4) 8 (bv (numL (n64 num))), .row 5 1 (.slice va 16 vc) 16 (bv (headP num))] := k5
 have k5n := k5.addNil 33 1
 obtain ⟨g6, w6, vb, vd, w7, r6, r7, k7, _, _⟩ := k5n.pushV (i := 4) (ty := 23) bbT rfl (.slice va 16 vc) rfl (by omega) (by simp only [maxLen]; omega)
 have k7 : St w [] w7 [.arr g3 28 (bv K), .blk g2 o, .row 5 1 (.slice a4 8 c4) 8 (bv (numL (n64 num))), .row 5 1 (.slice va 16 vc) 16 (bv (headP num)), .row 33 1 (.slice vb 1 vd) 1 [.slice va 16 vc]] := k7
 have k7n := k7.addNil 75 35
 have start : St w [] w7 ([.arr g3 28 (bv K), .row 33 1 (.slice vb ([(⟨va, vc, headP num⟩ : PcD)]).length vd) ([(⟨va, vc, headP num⟩ : PcD)]).length (([(⟨va, vc, headP num⟩ : PcD)]).map PcD.v), .row 75 35 (.slice none (refsP num 16 ((l.map ItD.t).take 0)).length 0) (refsP num 16 ((l.map ItD.t).take 0)).length ((refsP num 16 ((l.map ItD.t).take 0)).flatMap refC)] ++ ([(⟨va, vc, headP num⟩ : PcD)]).map PcD.row) := by
   have e16 : (headP num).length = 16 := headP_len num
   have h1 := k7n.sub (N := [.arr g3 28 (bv K), .row 5 1 (.slice va 16 vc) 16 (bv (headP num)), .row 33 1 (.slice vb 1 vd) 1 [.slice va 16 vc], .row 75 35 (.slice none 0 0) 0 []]) (by simp)
   have h2 := h1.perm (N := [.arr g3 28 (bv K), .row 33 1 (.slice vb 1 vd) 1 [.slice va 16 vc], .row 75 35 (.slice none 0 0) 0 [], .row 5 1 (.slice va 16 vc) 16 (bv (headP num))]) (List.Perm.cons _ (List.perm_append_comm (l₁ := [_])))
   simpa [PcD.v, PcD.row, e16, refsP] using h2
 refine ⟨_, _, _, rfl, _, _, _, w5, r5, _, _, _, w6, r6, _, _, _, w7, r7, fun xa xn xc ya yn yc sz x w' => ∃ (i : Nat) (ps : List PcD), x = (i : Int) ∧ i ≤ n ∧ xn = ps.length ∧ yn = (refsP num 16 ((l.map ItD.t).take i)).length ∧ sz = ((sizeP 16 ((l.map ItD.t).take i) : Nat) : Int) ∧ ps.map PcD.l = headP num :: ((l.map ItD.t).take i).map frmT ∧
   St w [] w' ([.arr g3 28 (bv K), .row 33 1 (.slice xa ps.length xc) ps.length (ps.map PcD.v), .row 75 35 (.slice ya (refsP num 16 ((l.map ItD.t).take i)).length yc) (refsP num 16 ((l.map ItD.t).take i)).length ((refsP num 16 ((l.map ItD.t).take i)).flatMap refC)] ++ ps.map PcD.row), fun _ _ _ _ _ _ _ x _ => n - x.toNat, ⟨0, [⟨va, vc, headP num⟩], rfl, by omega, rfl, rfl, rfl, rfl, start⟩, ?_⟩
 rintro xa xn xc ya yn yc sz x w8 ⟨i, ps, rfl, hi, rfl, rfl, rfl, hps, k8⟩
 have hst := hs.take i
 have hby := hst.bytes
 have hpl : ps.length = i + 1 := by
   have := congrArg List.length hps
   simp only [List.length_map, List.length_cons, List.length_take] at this
   omega
 have hsz : sizeP 16 ((l.map ItD.t).take i) ≤ 16950016 := by rw [sizeP_eq]; omega
 have hrl : (refsP num 16 ((l.map ItD.t).take i)).length = i := by rw [refsP_len, List.length_take, List.length_map]; omega
 refine ⟨fun h => ?_, fun h => ?_⟩
 · have hi' : i < n := by simp at h; omega
   have hx : l[i]? = some l[i] := List.getElem?_eq_getElem (by omega)
   obtain ⟨x, hxx⟩ : ∃ x, l[i] = x := ⟨_, rfl⟩
   rw [hxx] at hx
   have hxm := List.mem_of_getElem? hx
   obtain ⟨hxn, hxl⟩ := hbl x hxm
   have hid := x.idl
   obtain ⟨b1, o1, hab1, q1⟩ := idIn hr.rd (by decide) hx (show itC x = bv x.id ++ _ from rfl) x.idl
   obtain ⟨b2, o2, hab2, q2⟩ := hr.rd.fld (P := Tryz.prog) (by decide) bsA' (j := 32) hx (itC_blob x)
   obtain ⟨b3, o3, hab3, q3⟩ := itId hr.rd hx
   obtain ⟨L, hL⟩ : ∃ L, ([.arr g3 28 (bv K), .row 33 1 (.slice xa ps.length xc) ps.length (ps.map PcD.v), .row 75 35 (.slice ya (refsP num 16 ((l.map ItD.t).take i)).length yc) (refsP num 16 ((l.map ItD.t).take i)).length ((refsP num 16 ((l.map ItD.t).take i)).flatMap refC)] ++ ps.map PcD.row : List Res) = L := ⟨_, rfl⟩
   rw [hL] at k8
   obtain ⟨g9, w9, r9, k9⟩ := k8.lit bT [] (by simp) (by simp)
   have k9 : St w [] w9 (L ++ [.row 5 1 (.slice (some ⟨g9, 0, none⟩) 0 0) 0 (bv [])]) := k9
   obtain ⟨vd, ve, w10, r10, k10⟩ := k9.appendB (i := L.length) (by rw [List.getElem?_append_right (Nat.le_refl _), Nat.sub_self]; rfl) (q1 w9 (hr.rd.keep0 k9.chg)) (by omega)
   rw [List.set_append_right _ _ (Nat.le_refl _), Nat.sub_self] at k10
   have k10 : St w [] w10 (L ++ [.row 5 1 (.slice vd (0 + 32) ve) (0 + 32) (bv x.id)]) := k10
   have hblob := (hr.blobs x hxm).keep0 k10.chg
   obtain ⟨vf, vg, w11, r11, k11⟩ := k10.appendB (i := L.length) (by rw [List.getElem?_append_right (Nat.le_refl _), Nat.sub_self]; rfl) hblob (by omega)
   rw [List.set_append_right _ _ (Nat.le_refl _), Nat.sub_self] at k11
   have k11 : St w [] w11 (L ++ [.row 5 1 (.slice vf (0 + 32 + x.n) vg) (0 + 32 + x.n) (bv (x.id ++ x.blob))]) := k11
   refine ⟨_, _, _, w9, r9, b1, o1, hab1, by omega, by omega, by omega, by omega, _, _, _, w10, r10, b2, o2, hab2, by omega, by omega, _, _, _, q2 w10 (hr.rd.keep0 k10.chg), _, _, _, w11, r11, (rframe_spec 2 vf (0 + 32 + x.n) vg (x.id ++ x.blob) w11 (k11.rd (i := L.length) (by rw [List.getElem?_append_right (Nat.le_refl _), Nat.sub_self]; rfl)) (by omega)).mono ?_⟩
   rintro e w12 ⟨a12, n12, c12, rfl, hf12⟩
   obtain ⟨F, hF⟩ : ∃ F, frmT x.t = F := ⟨_, rfl⟩
   obtain ⟨fl1, fl2⟩ := frmT_len x.t hid (by show x.blob.length ≤ _; omega)
   have hxt2 : x.t.2.length = x.n := hxl
   rw [hF] at fl1 fl2
   have hf12 : FreshB w11 w12 a12 n12 c12 F := by rw [← hF]; exact hf12
   have hfn : F.length = n12 := hf12.2.1
   subst hfn
   have k12 : St w [] w12 (L ++ [.row 5 1 (.slice a12 F.length c12) F.length (bv F)]) := by
     have := (hf12.add k11).sub (N := L ++ [.row 5 1 (.slice a12 F.length c12) F.length (bv F)]) (List.Sublist.append_right (List.sublist_append_left _ _) _)
     exact this
   obtain ⟨g13, w13, vh, vi, w14, r13, r14, k14, _, _⟩ := k12.pushV (i := 1) (ty := 23) bbT (by rw [← hL]; rfl) (.slice a12 F.length c12) rfl (by omega) (by simp only [maxLen]; omega)
   have k14 : St w [] w14.drew ([.arr g3 28 (bv K), .row 33 1 (.slice vh (ps.length + 1) vi) (ps.length + 1) (ps.map PcD.v ++ [.slice a12 F.length c12]), .row 75 35 (.slice ya (refsP num 16 ((l.map ItD.t).take i)).length yc) (refsP num 16 ((l.map ItD.t).take i)).length ((refsP num 16 ((l.map ItD.t).take i)).flatMap refC)] ++ (ps.map PcD.row ++ [.row 5 1 (.slice a12 F.length c12) F.length (bv F)])) := by
     rw [← hL] at k14
     simpa using k14.drew
   let S : World → Prop := fun w' => Chg [] w w'
   have ei : IntKind.wrap .i64 (((sizeP 16 ((l.map ItD.t).take i) : Nat) : Int) + ((F.length : Nat) : Int)) = ((sizeP 16 ((l.map ItD.t).take i) + F.length : Nat) : Int) := by rw [wrap_i64 (by omega) (by omega)]; omega
   have eA : IntKind.wrap .i64 (((sizeP 16 ((l.map ItD.t).take i) + F.length : Nat) : Int) - ((x.n : Nat) : Int)) = ((sizeP 16 ((l.map ItD.t).take i) + F.length : Nat) : Int) - ((x.n : Nat) : Int) := wrap_i64 (by omega) (by omega)
   have eC := refC_mk hid (p := num) (q := ((sizeP 16 ((l.map ItD.t).take i) + F.length : Nat) : Int) - ((x.n : Nat) : Int)) (n := ((x.n : Nat) : Int)) ⟨by omega, by omega⟩ ⟨by omega, by omega⟩ ⟨by omega, by omega⟩
   obtain ⟨r, hrr⟩ : ∃ r, mkRef x.id num (((sizeP 16 ((l.map ItD.t).take i) + F.length : Nat) : Int) - ((x.n : Nat) : Int)) ((x.n : Nat) : Int) = r := ⟨_, rfl⟩
   rw [hrr] at eC
   obtain ⟨g15, w15, vj, vk, w16, r15, r16, k16, k15⟩ := k14.pushA (i := 2) (ty := 34) rfT rfl (refC r) (refC_len r) (by decide) (refC_one r) (by omega) (by simp only [maxLen]; omega)
   have k16 : St w [] w16 ([.arr g3 28 (bv K), .row 33 1 (.slice vh (ps.length + 1) vi) (ps.length + 1) (ps.map PcD.v ++ [.slice a12 F.length c12]), .row 75 35 (.slice vj ((refsP num 16 ((l.map ItD.t).take i)).length + 1) vk) ((refsP num 16 ((l.map ItD.t).take i)).length + 1) ((refsP num 16 ((l.map ItD.t).take i)).flatMap refC ++ refC r)] ++ (ps.map PcD.row ++ [.row 5 1 (.slice a12 F.length c12) F.length (bv F)])) := k16
   have et : (l.map ItD.t).take (i + 1) = (l.map ItD.t).take i ++ [x.t] := by
     rw [List.take_add_one, List.getElem?_map, hx]; rfl
   have hrt : refsP num 16 ((l.map ItD.t).take (i + 1)) = refsP num 16 ((l.map ItD.t).take i) ++ [r] := by
     rw [et, refsP_snoc, hF, ← hrr, hxt2]; rfl
   refine ⟨_, _, _, rfl, _, _, _, w13, r13, _, _, _, w14, r14, S, k14.chg, b3, o3, hab3, by omega, by omega, b2, o2, hab2, by omega, by omega, b2, o2, hab2, by omega, by omega, _, fun w' hw => q3 w' (hr.rd.keep0 hw), _, _, _, fun w' hw => q2 w' (hr.rd.keep0 hw), _, _, _, fun w' hw => q2 w' (hr.rd.keep0 hw), _, fun w' _ => by rw [ei, eA]; exact ref_parts x.id num _ _ w' hid, _, _, _, w15, by rw [← eC]; exact r15, S, fun _ h => h, k15.chg, _, _, _, w16, r16, S, fun _ h => h, k16.chg, ?_, mu_succ hi' (by omega)⟩
   refine ⟨i + 1, ps ++ [⟨a12, c12, F⟩], wrap_succ hi' (by omega), by omega, by simp, by rw [hrt]; simp, ?_, ?_, ?_⟩
   · rw [et, sizeP_snoc, hF, ei]
   · rw [List.map_append, hps, et, List.map_append, ← hF]; simp
   · rw [hrt]
     simpa [PcD.v, PcD.row] using k16
 · have hi' : i = n := by simp at h; omega
   rw [hi', List.take_of_length_le (by simp; omega)] at k8 hps hrl
   have k8d := k8.drew
   let S : World → Prop := fun w' => St w [] w' [.arr g3 28 (bv K)]
   have sub1 : ∀ {w' : World} {L : List Res}, St w [] w' (.arr g3 28 (bv K) :: L) → S w' := fun h => h.sub (List.Sublist.cons_cons _ (List.nil_sublist _))
   obtain ⟨xs, hxs⟩ : ∃ xs, l.map ItD.t = xs := ⟨_, rfl⟩
   have hsl : (refsP num 16 (l.map ItD.t)).length ≤ 4096 := by rw [refsP_len, List.length_map]; omega
   rw [hi', List.take_of_length_le (by simp; omega)]
   rw [hxs] at k8d hps hrl hsl ⊢
   refine ⟨S, sub1 k8d, _, fun w' hw => Sx.St.ldA hw (i := 0) (l := bv K) rfl (kyA' _) (kyS' _) (by simp [hk]), (rnum8 num _).mono ?_⟩
   rintro e w17 ⟨a17, c17, rfl, hf17⟩
   have k17 := k8d.same hf17.1
   refine ⟨_, _, _, rfl, S, fun _ h => h, sub1 k17, (rfoot_spec ya (refsP num 16 xs).length yc (refsP num 16 xs) w17 (rdRefs k17 (i := 2) rfl) (by omega)).mono ?_⟩
   rintro e w18 ⟨a18, n18, c18, rfl, hf18⟩
   have k18 := k17.same hf18.1
   have hn18 : n18 = 48 * (refsP num 16 xs).length := by rw [← hf18.2.1, footL_len]
   refine ⟨_, _, _, rfl, S, fun _ h => h, sub1 k18, (rseal_spec K 3 a17 8 c17 (numL (n64 num)) a18 n18 c18 (footL (refsP num 16 xs)) w18 hk (hf17.rdB.keep0 hf18.1) hf18.rdB (by omega)).mono ?_⟩
   rintro e w19 ⟨a19, n19, c19, rfl, hf19⟩
   have k19 := k18.same hf19.1
   have hfl := sealF_len K 3 (numL (n64 num)) (footL (refsP num 16 xs)) (by rw [footL_len]; omega)
   rw [footL_len] at hfl
   have hn19 : n19 = 48 * (refsP num 16 xs).length + 45 := by rw [← hf19.2.1, hfl]
   refine ⟨_, _, _, rfl, S, fun _ h => h, sub1 k19, (rframe_spec 3 a19 n19 c19 (sealF K 3 (numL (n64 num)) (footL (refsP num 16 xs))) w19 hf19.rdB (by omega)).mono ?_⟩
   rintro e w20 ⟨a20, n20, c20, rfl, hf20⟩
   have hf20 : FreshB w19 w20 a20 n20 c20 (footP K num (refsP num 16 xs)) := hf20
   obtain ⟨F, hF⟩ : ∃ F, footP K num (refsP num 16 xs) = F := ⟨_, rfl⟩
   rw [hF] at hf20
   have hfn : F.length = n20 := hf20.2.1
   subst hfn
   have k20 := hf20.add k19
   obtain ⟨g21, w21, vh, vi, w22, r21, r22, k22, k21, _⟩ := k20.pushV (i := 1) (ty := 23) bbT rfl (.slice a20 F.length c20) rfl (by omega) (by simp only [maxLen]; omega)
   have k22 : St w [] w22 (.arr g3 28 (bv K) :: ([.row 33 1 (.slice vh (ps.length + 1) vi) (ps.length + 1) (ps.map PcD.v ++ [.slice a20 F.length c20]), .row 75 35 (.slice ya (refsP num 16 xs).length yc) (refsP num 16 xs).length ((refsP num 16 xs).flatMap refC)] ++ (ps.map PcD.row ++ [.row 5 1 (.slice a20 F.length c20) F.length (bv F)]))) := by simpa using k22
   refine ⟨_, _, _, rfl, S, fun _ h => h, sub1 (L := _) k20, _, _, _, w21, r21, S, fun _ h => h, sub1 (L := _) k21, _, _, _, w22, r22, S, fun _ h => h, sub1 k22, ps ++ [⟨a20, c20, F⟩], vh, vi, ya, yc, by simp, by rw [List.map_append, hps, ← hF]; simp [piecesP], ?_⟩
   simpa [PcD.v, PcD.row] using k22.tail

end

end Go.Proofs.YtmdandkoajocpaaGreatDoor
end

section
namespace Go.Proofs.YtmdandkoajocpaaGreatDoor
open Go Sx
set_option maxRecDepth 8000

theorem dig_nat {k : Nat} (h : k < 10) : (UInt8.ofNat (48 + k)).toNat = 48 + k := by rw [UInt8.toNat_ofNat']; omega
theorem itoa_nat (u : Nat) : Lib.itoa (u : Int) = Lib.decDigits u := Lib.itoa_nonneg u
theorem dec_len : ∀ (k u : Nat), u < 10 ^ (k + 1) → (Lib.decDigits u).length ≤ k + 1
 | 0, u, h => by rw [Lib.decDigits, dif_pos (by simpa using h)]; simp
 | k + 1, u, h => by
   rw [Lib.decDigits]
   split
   · simp
   · rw [List.length_append, List.length_singleton]
     rw [Nat.pow_succ] at h
     have := dec_len k (u / 10) (by omega)
     omega

def nameD (c : UInt8) (n : Int) : List UInt8 := c :: Lib.itoa n
end Go.Proofs.YtmdandkoajocpaaGreatDoor
end

section
namespace Go.Proofs.YtmdandkoajocpaaGreatDoor
open Go Sx
set_option maxRecDepth 8000

theorem addSL (a b : List UInt8) (x y : Operand) (w : World) (h : a.length + b.length ≤ 9223372036854775807) : (eqlS .add 9 x y (.string ⟨a.toArray⟩) (.string ⟨b.toArray⟩)).run Tryz.prog w = .ok (.string ⟨(a ++ b).toArray⟩) w := by
 have h2 : ((⟨a.toArray⟩ : ByteArray).size : Int) + ((⟨b.toArray⟩ : ByteArray).size : Int) ≤ 9223372036854775807 := by
   have e1 : (⟨a.toArray⟩ : ByteArray).size = a.length := by show a.toArray.size = _; simp
   have e2 : (⟨b.toArray⟩ : ByteArray).size = b.length := by show b.toArray.size = _; simp
   omega
 have e : (ByteArray.mk a.toArray ++ ByteArray.mk b.toArray) = ByteArray.mk (a ++ b).toArray := by
   apply ByteArray.ext
   simp [ByteArray.data_append]
 rw [← e]
 simp [eqlS, eqGuard, binOp, Op.stringOp, h2]
theorem emptyS (l : List UInt8) : ((⟨l.toArray⟩ : ByteArray).toList == (ByteArray.mk #[]).toList) = decide (l = []) := by
 rw [ByteArray.toList_eq, ByteArray.toList_eq]
 cases l <;> simp
theorem decimal_spec (u : Nat) (hu : u < 9223372036854775808) (w : World) : Calls Tryz.prog 45 #[.int .i64 (u : Int)] w fun e w' => e = .returned (.string ⟨(Lib.decDigits u).toArray⟩) ∧ Chg [] w w' := by
 apply amphoranum_Decimal_vc
 refine ⟨fun h => by simp at h, fun _ => ⟨fun x w' => x = (u : Int) ∧ w' = w, ⟨fun h => by exfalso; simp at h; omega, fun _ => ⟨rfl, rfl⟩⟩, ?_⟩⟩
 rintro x w1 ⟨rfl, rfl⟩
 have hul : (Lib.decDigits u).length ≤ 20 := dec_len 19 u (by omega)
 have big : ∀ n : Nat, ¬ n < 10 → Lib.decDigits n = Lib.decDigits (n / 10) ++ [UInt8.ofNat (48 + n % 10)] := fun n h => by rw [Lib.decDigits, dif_neg h]
 have small : ∀ n : Nat, n < 10 → Lib.decDigits n = [UInt8.ofNat (48 + n % 10)] := fun n h => by rw [Lib.decDigits, dif_pos h, Nat.mod_eq_of_lt h]
 refine ⟨fun x s w' => ∃ (n : Nat) (r : List UInt8), x = (n : Int) ∧ s = ⟨r.toArray⟩ ∧ n ≤ u ∧ ((r = [] ∧ n = u) ∨ (r ≠ [] ∧ ((n = 0 ∧ r = Lib.decDigits u) ∨ (0 < n ∧ Lib.decDigits n ++ r = Lib.decDigits u)))) ∧ Chg [] w1 w', fun x s _ => 2 * x.toNat + if s.toList.isEmpty then 1 else 0, ⟨u, [], rfl, rfl, Nat.le_refl _, .inl ⟨rfl, rfl⟩, Chg.refl _ _⟩, ?_⟩
 rintro x s w2 ⟨n, r, rfl, rfl, hn, hcase, c2⟩
 have hrl : r.length ≤ 20 := by
   rcases hcase with ⟨h, _⟩ | ⟨_, ⟨_, h⟩ | ⟨_, h⟩⟩
   · rw [h]; simp
   · rw [h]; exact hul
   · have := congrArg List.length h; rw [List.length_append] at this; omega
 rw [emptyS]
 refine ⟨fun hgo => ?_, fun hend => ⟨fun h => by exfalso; simp at h; omega, fun _ => ?_⟩⟩
 · have hb : n % 10 < 10 := Nat.mod_lt _ (by decide)
   obtain ⟨b, hbe⟩ : ∃ b : UInt8, UInt8.ofNat (48 + n % 10) = b := ⟨_, rfl⟩
   have hbn : (b.toNat : Int) = 48 + ((n % 10 : Nat) : Int) := by rw [← hbe, dig_nat hb]; omega
   have hx : IntKind.wrap .u8 (IntKind.wrap .i64 (48 + Int.tmod (n : Int) 10)) = (b.toNat : Int) := by
     rw [hbn, Int.tmod_eq_emod_of_nonneg (by omega), wrap_i64 (by omega) (by omega), wrap_u8]; omega
   have hd : IntKind.wrap .i64 (Int.tdiv (n : Int) 10) = ((n / 10 : Nat) : Int) := by
     rw [Int.tdiv_eq_ediv_of_nonneg (by omega), wrap_i64 (by omega) (by omega)]; omega
   obtain ⟨g, w3, r3, k3⟩ := (St.start w2).lit bT (bv [b]) (bv_one _) (by simp)
   have k3 : St w2 [] w3 [.row 5 1 (.slice (some ⟨g, 0, none⟩) 1 1) 1 (bv [b])] := k3
   rw [hx, hd]
   refine ⟨_, _, _, w3, r3, _, toStr bS bE sS (k3.cells (i := 0) rfl) rfl, _, addSL [b] r _ _ w3 (by simp; omega), ⟨n / 10, b :: r, rfl, rfl, by omega, ?_, c2.trans k3.chg⟩, ?_⟩
   · right
     refine ⟨by simp, ?_⟩
     by_cases h10 : n < 10
     · left
       refine ⟨Nat.div_eq_of_lt h10, ?_⟩
       have hs := small n h10
       rw [hbe] at hs
       rcases hcase with ⟨h, hu⟩ | ⟨h0, ⟨hz, _⟩ | ⟨_, h⟩⟩
       · rw [h, ← hu, hs]
       · exfalso; subst hz; simp at hgo; exact h0 hgo
       · rw [hs] at h; simpa using h
     · right
       refine ⟨by omega, ?_⟩
       have hs := big n h10
       rw [hbe] at hs
       rcases hcase with ⟨h, hu⟩ | ⟨h0, ⟨hz, _⟩ | ⟨_, h⟩⟩
       · rw [h, ← hu, hs]
       · omega
       · rw [hs] at h; simpa using h
   · have e1 : (⟨([b] ++ r).toArray⟩ : ByteArray).toList.isEmpty = false := by rw [ByteArray.toList_eq]; rfl
     have e2 : (⟨r.toArray⟩ : ByteArray).toList.isEmpty = r.isEmpty := by rw [ByteArray.toList_eq]
     dsimp only
     rw [e1, e2, Int.toNat_natCast, Int.toNat_natCast]
     cases r with
     | nil => simp; omega
     | cons c r =>
       have : 0 < n := by simp at hgo; omega
       simp; omega
 · have hr : r ≠ [] := by intro h; rw [h] at hend; simp at hend
   have hn0 : n = 0 := by simp at hend; omega
   rcases hcase with ⟨h, _⟩ | ⟨_, ⟨_, h⟩ | ⟨h, _⟩⟩
   · exact absurd h hr
   · rw [h]; exact ⟨rfl, c2⟩
   · omega

end Go.Proofs.YtmdandkoajocpaaGreatDoor
end

section
namespace Go.Proofs.YtmdandkoajocpaaGreatDoor
open Go Sx
set_option maxRecDepth 8000

theorem refname_spec (num : Int) (hg : goodP num = true) (w : World) : Calls Tryz.prog 20 #[.int .i64 num] w fun e w' => e = .returned (strV (nameD 112 num)) ∧ Chg [] w w' := by
 have h := goodP_iff.1 hg
 obtain ⟨u, rfl⟩ : ∃ u : Nat, num = (u : Int) := ⟨num.toNat, by omega⟩
 apply amphoraref13_Name_vc
 refine (decimal_spec u (by omega) w).mono ?_
 rintro e w1 ⟨rfl, c1⟩
 have hl := dec_len 12 u (by omega)
 refine ⟨_, rfl, _, addSL [112] (Lib.decDigits u) _ _ w1 (by simp; omega), ?_, c1⟩
 rw [nameD, itoa_nat]; rfl
end Go.Proofs.YtmdandkoajocpaaGreatDoor
end

section
namespace Go.Proofs.YtmdandkoajocpaaGreatDoor
open Go Sx
set_option maxRecDepth 8000

structure FV where
 name : Nm
 a : Option Addr
 c : Nat
 data : List UInt8
def FV.cells (v : FV) : List Value := [strV v.name, .slice v.a v.data.length v.c]
def FV.row (v : FV) : Res := .row 5 1 (.slice v.a v.data.length v.c) v.data.length (bv v.data)
def FV.t (v : FV) : Nm × List UInt8 := (v.name, v.data)
def filesM (m : DiskM) : List (Nm × List UInt8) := m.now.map fun e => (e.name, (fileAt m.files e.file).data)

section
variable {w0 w w' : World} {X : List Nat} {N N' : List Res} {gd : Nat} {ps : List Nat} {m : DiskM}

theorem DMem.file {p : DP} (hp : DMem m p) {i : Nat} (hi : i < m.files.length) : ∃ f, p.FL[i]? = some f ∧ p.ps.getD i 0 = f.g ∧ fileAt m.files i = ⟨f.data, f.syn⟩ ∧ f.data.length ≤ 1099511627776 ∧ f.syn ≤ f.data.length := by
 have hl : p.FL.length = m.files.length := by have := congrArg List.length hp.files; simpa using this
 have hf : p.FL[i]? = some p.FL[i] := List.getElem?_eq_getElem (by omega)
 have hfm : fileAt m.files i = ⟨p.FL[i].data, p.FL[i].syn⟩ := by
   rw [← hp.files]
   simp [fileAt, List.getD, show i < p.FL.length by omega, FR.m]
 have := hp.fsyn (fileAt m.files i) (by simp [fileAt, List.getD, hi])
 rw [hfm] at this
 exact ⟨p.FL[i], hf, by simp [DP.ps, List.getD, show i < p.FL.length by omega], hfm, this.2, this.1⟩

theorem fileT : ElemT Tryz.prog 91 146 2 40 (.agg #[.string ByteArray.empty, .slice none 0 0]) := ⟨by kernel_rfl, ⟨Tryz.t146, by kernel_rfl, by kernel_rfl, by kernel_rfl, by kernel_rfl⟩, rfl, by decide⟩
theorem built_file : Tryz.prog.built 146 = fun parts => Instr.fill (fun i => (#[(0, 1), (1, 1)] : Array (Nat × Nat))[i]?) #[.string ⟨#[]⟩, .slice none 0 0] parts := by kernel_rfl
theorem file_build (n : Nm) (a : Option Addr) (k c : Nat) (w : World) : (Instr.build 146 #[(0, strV n), (1, .slice a k c)]).run Tryz.prog w = .ok (.agg #[strV n, .slice a k c]) w := by
 apply run_build
 rw [built_file]
 show Instr.fill _ _ [(0, strV n), (1, _)] = _
 rw [fill_step (off := 0) (sz := 1) rfl rfl (by simp), fill_step (off := 1) (sz := 1) rfl rfl (by simp [Value.cells, strV])]
 rfl
theorem files_spec {p : DP} (hp : DMem m p) (hS : St w0 X w (resD gd m p ++ DR p.FL N)) :
   Calls Tryz.prog 32 #[.pointer (some ⟨gd, 0, none⟩)] w fun e w' => ∃ (a : Option Addr) (c : Nat) (L : List FV), e = .returned (.slice a L.length c) ∧ L.map FV.t = filesM m ∧ St w [] w' (.row 146 2 (.slice a L.length c) L.length (L.flatMap FV.cells) :: L.map FV.row) := by
 apply disk_Disk_Files_vc
 have hnl : (namesM m).length = m.now.length := by simp [namesM]
 have hlen := hp.okn.len
 refine (list_spec hp hS).mono ?_
 rintro e w1 ⟨na, nc, rfl, h1⟩
 refine ⟨_, _, _, rfl, fun xa xn xc x w' => ∃ (i : Nat) (L : List FV), x = (i : Int) ∧ i ≤ m.now.length ∧ xn = L.length ∧ L.map FV.t = (filesM m).take i ∧ St w [] w' ([.row 9 1 (.slice na (namesM m).length nc) (namesM m).length ((namesM m).map strV), .row 146 2 (.slice xa L.length xc) L.length (L.flatMap FV.cells)] ++ L.map FV.row), fun _ _ _ x _ => m.now.length - x.toNat,
   ⟨0, [], rfl, by omega, rfl, rfl, h1.addNil _ _⟩, ?_⟩
 rintro xa xn xc x w2 ⟨i, L, rfl, hi, rfl, hL, h2⟩
 have hLl : L.length = i := by have := congrArg List.length hL; simp [filesM] at this; omega
 refine ⟨fun hlt => ?_, fun hge => ?_⟩
 · have hi' : i < m.now.length := by simp at hlt; omega
   have he : m.now[i]? = some m.now[i] := List.getElem?_eq_getElem hi'
   obtain ⟨e, hed⟩ : ∃ e, m.now[i] = e := ⟨_, rfl⟩
   rw [hed] at he
   have hem : e ∈ m.now := List.mem_of_getElem? he
   have hnm : ((namesM m).map strV)[i]? = some (strV e.name) := by rw [namesM, List.getElem?_map, List.getElem?_map, he]; rfl
   obtain ⟨b, o, ha, hcell⟩ := (h2.rd (i := 0) rfl).cells.at_ hnm
   have hS2 := hS.same h2.chg
   have hg2 : w2.heap[p.gn]? = some (.map p.esn p.ckn) := hS2.holds 1 _ rfl
   obtain ⟨f, hf, hpg, hfm, hdl, _⟩ := hp.file (hp.okn.ent e hem).1
   have hlk := lookF hp.mapn hp.isn hg2 hem
   have hptr : ptrV p.ps e.file = .pointer (some ⟨f.g, 0, none⟩) := by show Value.pointer (some ⟨p.ps.getD _ 0, 0, none⟩) = _; rw [hpg]
   rw [hptr] at hlk
   obtain ⟨l1, _, l3⟩ := St.ldFile hS2 hf
   refine ⟨b, o, ha, by omega, by omega, _, by rw [Int.toNat_natCast, Nat.mul_one]; exact ld1 (stA' _) hcell, _, hS2.ldL (i := 0) (o := 6) rfl (dirA _) rfl rfl, f.g, 0, hlk, _, _, _, l1, (clone_spec _ _ _ _ _ l3 (by omega)).mono ?_⟩
   rintro e3 w3 ⟨a3, c3, rfl, h3⟩
   let v : FV := ⟨e.name, a3, c3, f.data⟩
   have h4 := h3.add h2
   obtain ⟨g4, w4, va, vc, w5, r4, r5, h5, _⟩ := h4.pushA (i := 1) (ty := 91) fileT rfl v.cells rfl (by decide) (fun u hu => by simp only [v, FV.cells, List.mem_cons, List.not_mem_nil, or_false] at hu; rcases hu with rfl | rfl <;> rfl) (by omega) (by simp only [maxLen]; omega)
   refine ⟨_, _, _, rfl, _, file_build e.name a3 _ c3 w3, _, _, _, w4, r4, va, _, vc, w5, r5, ⟨i + 1, L ++ [v], wrap_succ hi' (by omega), by omega, by simp, ?_, ?_⟩, mu_succ hi' (by omega)⟩
   · rw [List.map_append, hL, List.take_add_one, filesM, List.getElem?_map, he]
     simp only [Option.map_some, Option.toList_some, hfm]
     rfl
   · have e1 : (L ++ [v]).flatMap FV.cells = L.flatMap FV.cells ++ v.cells := by simp
     have e2 : (L ++ [v]).length = L.length + 1 := by simp
     have e3 : (L ++ [v]).map FV.row = L.map FV.row ++ [v.row] := by simp
     rw [e1, e2, e3, ← List.append_assoc]
     exact h5
 · have hi' : i = m.now.length := by simp at hge; omega
   refine ⟨xa, xc, L, rfl, ?_, h2.tail⟩
   rw [hL, hi', List.take_of_length_le (by simp [filesM])]

end

end Go.Proofs.YtmdandkoajocpaaGreatDoor
end

section
namespace Go.Proofs.YtmdandkoajocpaaGreatDoor
open Go Sx
set_option maxRecDepth 8000

theorem Sx.St.stP {P : Program} {w0 w : World} {X : List Nat} {M : List Res} (h : St w0 X w M) {i g n : Nat} {l v : List Value} {T' T : TypeId} (hi : M[i]? = some (.arr g T' l)) (hS : (sizeOf T).run P w = .ok n w) (hl : n ≤ l.length) (hv : v.length = n) (h1 : ∀ u ∈ v, u.oneCell' = true) :
   ∃ w', (Instr.storeAt T (.pointer (some ⟨g, 0, none⟩)) (.agg v.toArray)).run P w = .ok () w' ∧ St w0 X w' (M.set i (.arr g T' (v ++ l.drop n))) := by
 have hg := h.holds i _ hi
 have hst := run_storeCells_at P g 0 T' v 0 l.toArray w hg (by simp; omega) h1
 have hset : (l.toArray.toList.take (0 + 0) ++ v ++ l.toArray.toList.drop (0 + 0 + v.length)).toArray = (v ++ l.drop n).toArray := by
   simp only [Nat.zero_add, List.take_zero, List.nil_append, hv]
 rw [hset] at hst
 refine ⟨_, ?_, h.upd hi (w' := w.setRow g (v ++ l.drop n).toArray) ⟨rfl, rfl, rfl, by simp, fun k _ hk => setRow_other w g k _ (fun e => hk (by simp [Res.fp, e]))⟩ (setRow_heap w g _ _ T' _ hg) (by simp [Res.fp])⟩
 simp [Instr.storeAt, Instr.sureAddr, storeVar, hS, Value.cells, hv, hst]

theorem rowTake {w : World} {a : Option Addr} {n c k : Nat} {l : List UInt8} (h : w.ownsRow 0 5 1 (.slice a n c) n (bv l)) (hk : k ≤ n) : w.ownsRow 0 5 1 (.slice a k c) k (bv (l.take k)) := by
 obtain ⟨h1, h2⟩ := h
 have hl : l.length = n := by simpa using h1
 refine ⟨by simp; omega, ?_⟩
 rcases h2 with ⟨hv, hn⟩ | ⟨g, cap, cur, hv, hb, hg, hnc, hcm, hcs, ht⟩
 · left
   simp only [Value.slice.injEq] at hv
   obtain ⟨rfl, _, rfl⟩ := hv
   have : k = 0 := by omega
   rw [this]
   exact ⟨rfl, rfl⟩
 · right
   simp only [Value.slice.injEq] at hv
   obtain ⟨rfl, _, rfl⟩ := hv
   refine ⟨g, c, cur, rfl, hb, hg, by omega, hcm, hcs, ?_⟩
   have := congrArg (List.take k) ht
   rw [List.take_take, ← bv_take] at this
   rw [← this]
   congr 1
   omega

theorem cutAll_snoc (cuts : List Int) (e : Ent) : ∀ (d : Dir) (i : Nat) (fs : List FileM), cutAll cuts i (d ++ [e]) fs = setF (cutAll cuts i d fs) e.file (cutF (cutAt cuts (i + d.length)))
 | [], i, fs => by simp [cutAll]
 | x :: d, i, fs => by
   show cutAll cuts (i + 1) (d ++ [e]) _ = setF (cutAll cuts (i + 1) d _) e.file _
   rw [cutAll_snoc cuts e d (i + 1)]
   congr 2
   simp only [List.length_cons]
   congr 1
   omega
theorem cutAll_len (cuts : List Int) : ∀ (d : Dir) (i : Nat) (fs : List FileM), (cutAll cuts i d fs).length = fs.length
 | [], _, _ => rfl
 | x :: d, i, fs => by show (cutAll cuts (i + 1) d _).length = _; rw [cutAll_len cuts d, setF_len]
theorem cutF_ok (k : Nat) {f : FileM} (h : f.syn ≤ f.data.length ∧ f.data.length ≤ 1099511627776) : (cutF k f).syn ≤ (cutF k f).data.length ∧ (cutF k f).data.length ≤ 1099511627776 := by
 simp only [cutF, List.length_take]
 omega
theorem fileAt_ok {fs : List FileM} (h : ∀ f ∈ fs, f.syn ≤ f.data.length ∧ f.data.length ≤ 1099511627776) (i : Nat) : (fileAt fs i).syn ≤ (fileAt fs i).data.length ∧ (fileAt fs i).data.length ≤ 1099511627776 := by
 by_cases hi : i < fs.length
 · rw [fileAt, List.getD, List.getElem?_eq_getElem hi]
   exact h _ (List.getElem_mem hi)
 · rw [fileAt, List.getD, List.getElem?_eq_none (by omega)]
   simp [file0]
theorem cutAll_ok (cuts : List Int) : ∀ (d : Dir) (i : Nat) (fs : List FileM), (∀ f ∈ fs, f.syn ≤ f.data.length ∧ f.data.length ≤ 1099511627776) → ∀ f ∈ cutAll cuts i d fs, f.syn ≤ f.data.length ∧ f.data.length ≤ 1099511627776
 | [], _, _, h => h
 | x :: d, i, fs, h => cutAll_ok cuts d (i + 1) _ fun f hf => by
   rcases List.mem_or_eq_of_mem_set hf with h1 | h1
   · exact h f h1
   · rw [h1]; exact cutF_ok _ (fileAt_ok h _)

theorem built_meter : Tryz.prog.built 114 = fun parts => Instr.fill (fun i => (#[(0, 1), (1, 1), (2, 1), (3, 1), (4, 1)] : Array (Nat × Nat))[i]?) #[.int .i64 0, .bool false, .bool false, .int .i64 0, .slice none 0 0] parts := by kernel_rfl
theorem meter_build (n : Int) (w : World) : (Instr.build 114 #[(0, .int .i64 n)]).run Tryz.prog w = .ok (.agg [.int .i64 n, .bool false, .bool false, .int .i64 0, .slice none 0 0].toArray) w := by
 apply run_build
 rw [built_meter]
 show Instr.fill _ _ [(0, _)] = _
 rw [fill_step (off := 0) (sz := 1) rfl rfl (by simp)]
 rfl
theorem meterS (w : World) : (sizeOf 114).run Tryz.prog w = .ok 5 w := Tryz.sizeOf114 w

section
variable {w0 w w' : World} {X : List Nat} {N N' : List Res} {gd : Nat} {ps : List Nat} {m : DiskM}

theorem St.lasts {R T : List Res} {FL : List FR} (h : St w0 X w (R ++ DR FL (N ++ T))) : St w0 X w T :=
 h.sub (((List.sublist_append_right _ _).trans (List.sublist_append_right _ _)).trans ((List.sublist_append_right _ _).trans (List.sublist_append_right _ _)))
theorem St.mids {R T : List Res} {FL : List FR} (h : St w0 X w (R ++ DR FL (N ++ T))) : St w0 X w N :=
 h.sub ((List.sublist_append_left N T).trans ((List.sublist_append_right _ _).trans ((List.sublist_append_right _ _).trans (List.sublist_append_right _ _))))

set_option maxHeartbeats 2000000 in
theorem crash_spec (dirs : Int) (ca : Option Addr) (cn cc : Nat) (cuts : List Int) (h : DiskIn w0 X w gd ps m N) (hq : ∀ w', St w0 X w' N → Rd w' ca cn cc 1 (zv cuts)) (hb : m.chs.length < 1000000000) :
   Calls Tryz.prog 24 #[.pointer (some ⟨gd, 0, none⟩), .agg #[.int .i64 dirs, .slice ca cn cc]] w fun e w' => e = .returned (.tuple #[]) ∧ DiskIn w0 X w' gd ps (crashM m dirs cuts) N := by
 apply disk_Disk_Crash_vc
 have hcl : cuts.length = cn := by have := (hq w h.rest).len; simpa using this
 obtain ⟨p, hps, hp, hS⟩ := h
 have hw := hp.wf
 obtain ⟨g3, w1, r1, h1⟩ := hS.boxA (P := Tryz.prog) 55 [.int .i64 dirs, .slice ca cn cc]
 refine ⟨g3, w1, r1, .map (some p.gs), h1.ldL (i := 0) (o := 7) rfl (dirA _) rfl rfl, (clone_map p.gs p.ess p.cks w1 (h1.holds 2 _ rfl)).mono ?_⟩
 rintro e w2 ⟨g', rfl, hg', c2, hh⟩
 have h2 := h1.upd (i := 1) (r' := .blk g' (.map p.ess p.cks)) rfl (c2.mono (by simp)) hh (by simp [Res.fp]; exact .inr hg')
 obtain ⟨w3, r3, h3⟩ := h2.stL (i := 0) (o := 6) (off := 6) (T := 112) (v := .map (some g')) rfl (dirS _) rfl (by simp [dskL]) rfl
 obtain ⟨sv, hsv⟩ : ∃ sv : Res, (.arr g3 55 [.int .i64 dirs, .slice ca cn cc] : Res) = sv := ⟨_, rfl⟩
 let q0 : DP := { p with gn := g', esn := p.ess, ckn := p.cks, Mn := p.Ms }
 have h3 : St w0 X w3 ((resD gd m q0 ++ DR p.FL N) ++ [sv]) := by rw [← hsv]; exact h3
 have hcap : m.chs.length ≤ p.cc := (h3.rd (i := 3) rfl).le
 obtain ⟨K, hKd⟩ : ∃ K : Nat, min dirs.toNat m.chs.length = K := ⟨_, rfl⟩
 have hK : (if (m.chs.length : Int) < (if dirs < 0 then 0 else dirs) then (m.chs.length : Int) else (if dirs < 0 then 0 else dirs)) = (K : Int) := by
   rw [← hKd]; split <;> split <;> omega
 have hgl : ∀ {w' : World} {R : List Res}, St w0 X w' (R ++ [sv]) → (Instr.loadAt 3 (.pointer (some ⟨g3, 0, none⟩))).run Tryz.prog w' = .ok (.int .i64 dirs) w' := fun h => by
   rw [← hsv] at h
   exact h.ldL (o := 0) getLast' (intA _) rfl rfl
 refine ⟨_, rfl, w3, r3, fun w' => ∃ Y, St w0 X w' ((.arr gd 117 (dskL m q0) :: Y) ++ [sv]), ⟨_, h3.drew⟩, p.ca, m.chs.length, p.cc, fun w' ⟨Y, hY⟩ => hY.ldL (i := 0) (o := 8) rfl (chsA _) rfl rfl, dirs, fun w' ⟨Y, hY⟩ => hgl hY, p.ca, m.chs.length, p.cc, fun w' ⟨Y, hY⟩ => hY.ldL (i := 0) (o := 8) rfl (chsA _) rfl rfl, ?_⟩
 rw [hK, Int.toNat_natCast]
 have hKle : K ≤ m.chs.length := by omega
 refine ⟨by omega, by omega, fun x w' => ∃ (i : Nat) (es : Array MapEntry) (ck : Nat) (Mn : Dir), x = (i : Int) ∧ i ≤ K ∧ MapE kyE (vlE p.ps) es ck Mn ∧ MapIsA Ent.name Mn (replay m.syn (m.chs.take i)) ∧ St w0 X w' ((resD gd m { p with gn := g', esn := es, ckn := ck, Mn := Mn } ++ DR p.FL N) ++ [sv]), fun x _ => K - x.toNat,
   ⟨0, p.ess, p.cks, p.Ms, rfl, by omega, hp.maps, hp.iss, h3.drew⟩, ?_⟩
 rintro x w4 ⟨i, es, ck, Mn, rfl, hi, hE, hD, h4⟩
 refine ⟨fun hlt => ?_, fun hge => ?_⟩
 · have hi' : i < K := by simp at hlt; omega
   have hx : m.chs[i]? = some m.chs[i] := List.getElem?_eq_getElem (by omega)
   obtain ⟨c, hc⟩ : ∃ c, m.chs[i] = c := ⟨_, rfl⟩
   rw [hc] at hx
   have hcells : Cells w4 p.ca (m.chs.flatMap (chC p.ps)) := h4.cells (i := 3) rfl
   have hxs : ((m.chs.flatMap (chC p.ps)).drop (i * 3)).take 3 = chC p.ps c := by
     rw [flatMap_drop i fun y _ => chC_len p.ps y, List.drop_eq_getElem_cons (by omega), hc, List.flatMap_cons, List.take_left' (chC_len _ _)]
   obtain ⟨b, o, g5, w5, w6, ha, hld, r5, r6, h6⟩ := copyAgg (T := 123) (sz := 3) h4 chAg chSz chZ rfl hcells hxs (chC_len _ _) (by decide) (chC_one _ _)
   have hmk := make_spec (i := 1) (c := c) h6.drew rfl hE hD
   refine ⟨b, o, ha, by omega, by omega, _, hld _ (by rw [Int.toNat_natCast]), g5, w5, r5, w6, r6, fun w' => ∃ Y, St w0 X w' ((.arr gd 117 (dskL m q0) :: Y) ++ [.arr g5 123 (chC p.ps c)]), ⟨_, h6.drew⟩, .map (some g'), fun w' ⟨Y, hY⟩ => hY.ldL (i := 0) (o := 6) rfl (dirA _) rfl rfl, (chC p.ps c).toArray, fun w' ⟨Y, hY⟩ => hY.ldA (l := chC p.ps c) getLast' (chAg _) (chSz _) (chC_len _ _), hmk.mono ?_⟩
   rintro e w7 ⟨rfl, es', ck', Mn', hE', hD', h7⟩
   have h7 : St w0 X w7 (((resD gd m { p with gn := g', esn := es', ckn := ck', Mn := Mn' } ++ DR p.FL N) ++ [sv]) ++ [.arr g5 123 (chC p.ps c)]) := h7
   refine ⟨rfl, fun w' => ∃ Y, St w0 X w' ((.arr gd 117 (dskL m q0) :: Y) ++ [.arr g5 123 (chC p.ps c)]), fun _ h => h, ⟨_, h7⟩, ⟨i + 1, es', ck', Mn', wrap_succ hi' (by omega), by omega, hE', ?_, St.pop h7⟩, mu_succ hi' (by omega)⟩
   rw [List.take_add_one, hx]
   simp only [Option.toList_some, replay_snoc]
   exact hD'
 have hi' : i = K := by simp at hge; omega
 subst hi'
 obtain ⟨d, hd⟩ : ∃ d, crashD m dirs = d := ⟨_, rfl⟩
 have hrd : replay m.syn (m.chs.take i) = d := by
   rw [← hd, crashD]
   congr 1
   rw [← hKd]
   by_cases hle : dirs.toNat ≤ m.chs.length
   · rw [Nat.min_eq_left hle]
   · rw [Nat.min_eq_right (by omega), List.take_of_length_le (Nat.le_refl _), List.take_of_length_le (by omega)]
 have hokd : OkDir m.files.length d := by rw [← hrd]; exact hw.dirs _
 rw [hrd] at hD
 let q : DP := { p with gn := g', esn := es, ckn := ck, Mn := Mn }
 have hmem : DMem { m with now := d } q := ⟨hokd, hw.syn, hw.size, hp.files, hp.arm, hp.fails, hE, hD⟩
 have h4 : St w0 X w4 ((resD gd { m with now := d } q ++ DR q.FL N) ++ [sv]) := h4
 rw [DR_snoc] at h4
 refine (list_spec hmem h4).mono ?_
 rintro e w8 ⟨na, nc, rfl, h8⟩
 obtain ⟨nm, hnmd⟩ : ∃ nm : Res, (.row 9 1 (.slice na (namesM { m with now := d }).length nc) (namesM { m with now := d }).length ((namesM { m with now := d }).map strV) : Res) = nm := ⟨_, rfl⟩
 have hnl : (namesM { m with now := d }).length = d.length := by simp [namesM]
 rw [hnmd] at h8
 have h9 : St w0 X w8 ((resD gd { m with now := d } q ++ DR q.FL (N ++ [sv])) ++ [nm]) := Sx.St.callPart (N := []) (by rw [List.append_nil]; exact h4) h8
 rw [DR_snoc, List.append_assoc] at h9
 rw [hnl]
 have hdl := hokd.len
 refine ⟨_, _, _, rfl, fun x w' => ∃ (i : Nat) (FL : List FR), x = (i : Int) ∧ i ≤ d.length ∧ FL.map FR.g = p.ps ∧ FL.map FR.m = cutAll cuts 0 (d.take i) m.files ∧ St w0 X w' (resD gd m q ++ DR FL (N ++ ([sv] ++ [nm]))), fun x _ => d.length - x.toNat, ⟨0, p.FL, rfl, by omega, rfl, by rw [List.take_zero]; exact hp.files, h9⟩, ?_⟩
 clear hge
 rintro x w9 ⟨i, FL, rfl, hi, hFg, hFm, h9⟩
 refine ⟨fun hlt => ?_, fun hge => ?_⟩
 · have hi' : i < d.length := by simp at hlt; omega
   have he : d[i]? = some d[i] := List.getElem?_eq_getElem hi'
   obtain ⟨e, hed⟩ : ∃ e, d[i] = e := ⟨_, rfl⟩
   rw [hed] at he
   have hem : e ∈ d := List.mem_of_getElem? he
   have hil := (hokd.ent e hem).1
   have hT := St.lasts h9
   have hN := hq w9 (St.mids h9)
   have hnmv : ((namesM { m with now := d }).map strV)[i]? = some (strV e.name) := by rw [namesM, List.getElem?_map, List.getElem?_map, he]; rfl
   have hnr : Rd w9 na (namesM { m with now := d }).length nc 1 ((namesM { m with now := d }).map strV) := by
     rw [← hnmd] at hT
     exact hT.rd (i := 1) rfl
   obtain ⟨b, o, ha, hcell⟩ := hnr.cells.at_ hnmv
   have hg9 : w9.heap[g']? = some (.map es ck) := h9.holds 1 _ rfl
   have hlk := lookF hE hD hg9 hem
   have hFl : FL.length = m.files.length := by have := congrArg List.length hFm; rw [cutAll_len] at this; simpa using this
   obtain ⟨f, hf⟩ : ∃ f, FL[e.file]? = some f := ⟨_, List.getElem?_eq_getElem (by omega)⟩
   have hfm : fileAt (cutAll cuts 0 (d.take i) m.files) e.file = f.m := by
     rw [← hFm, fileAt, List.getD, List.getElem?_map, hf]; rfl
   have hpg : p.ps.getD e.file 0 = f.g := by
     rw [← hFg, List.getD, List.getElem?_map, hf]; rfl
   have hfok := fileAt_ok (cutAll_ok cuts (d.take i) 0 m.files hw.syn) e.file
   rw [hfm] at hfok
   have hfok : f.syn ≤ f.data.length ∧ f.data.length ≤ 1099511627776 := hfok
   have hptr : ptrV p.ps e.file = .pointer (some ⟨f.g, 0, none⟩) := by show Value.pointer (some ⟨p.ps.getD _ 0, 0, none⟩) = _; rw [hpg]
   rw [hptr] at hlk
   have hld1 : (Instr.loadAt 53 (.pointer (some ⟨g3, 1, none⟩))).run Tryz.prog w9 = .ok (.slice ca cn cc) w9 := by
     rw [← hsv] at hT
     exact hT.ldL (i := 0) (o := 1) rfl (insA' _) rfl rfl
   obtain ⟨more, hmore⟩ : ∃ more, cutAt cuts i = more := ⟨_, rfl⟩
   refine ⟨b, o, ha, by omega, by omega, _, by rw [Int.toNat_natCast, Nat.mul_one]; exact ld1 (stA' _) hcell, _, h9.ldL (i := 0) (o := 6) rfl (dirA _) rfl rfl, f.g, 0, hlk, ca, cn, cc, hld1, fun x w' => x = (more : Int) ∧ w' = w9, ⟨fun hic => ?_, fun hic => ⟨?_, rfl⟩⟩, ?_⟩
   · have hic' : i < cn := by simp at hic; omega
     have hcx : cuts[i]? = some (cuts.getD i 0) := by simp [List.getD, show i < cuts.length by omega]
     have hcv : (zv cuts)[i]? = some (.int .i64 (cuts.getD i 0)) := by rw [List.getElem?_map, hcx]; rfl
     obtain ⟨b2, o2, ha2, hcell2⟩ := hN.cells.at_ hcv
     refine ⟨ca, cn, cc, hld1, b2, o2, ha2, by omega, by omega, _, by rw [Int.toNat_natCast, Nat.mul_one]; exact ld1 (intA _) hcell2, ?_, rfl⟩
     rw [← hmore, cutAt]
     split <;> omega
   · have hic' : ¬ i < cn := by simp at hic; omega
     rw [← hmore, cutAt, List.getD, List.getElem?_eq_none (by omega)]
     rfl
   rintro x w10 ⟨rfl, rfl⟩
   have h10 := (h9.drew).perm (perm_DR hf (resD gd m q) (N ++ ([sv] ++ [nm])))
   have hcap2 : f.data.length ≤ f.c := (h10.rd (i := 1) rfl).le
   obtain ⟨Z, hZ⟩ : ∃ Z, f.syn + min more (f.data.length - f.syn) = Z := ⟨_, rfl⟩
   have hZl : Z ≤ f.data.length := by omega
   have hWW : IntKind.wrap .i64 ((f.syn : Int) + (if IntKind.wrap .i64 ((f.data.length : Int) - (f.syn : Int)) < (more : Int) then IntKind.wrap .i64 ((f.data.length : Int) - (f.syn : Int)) else (more : Int))) = (Z : Int) := by
     have e1 : IntKind.wrap .i64 ((f.data.length : Int) - (f.syn : Int)) = (f.data.length : Int) - (f.syn : Int) := wrap_i64 (by omega) (by omega)
     rw [e1]
     have e2 : ((f.syn : Int) + (if (f.data.length : Int) - (f.syn : Int) < (more : Int) then (f.data.length : Int) - (f.syn : Int) else (more : Int))) = (Z : Int) := by
       rw [← hZ]; split <;> omega
     rw [e2, wrap_i64 (by omega) (by omega)]
   refine ⟨fun w' => ∃ Y, St w0 X w' (f.blk :: Y), ⟨_, h10⟩, f.a, f.data.length, f.c, fun w' ⟨Y, hY⟩ => hY.ldL (i := 0) (o := 0) rfl (bsA _) rfl rfl, f.syn, fun w' ⟨Y, hY⟩ => hY.ldL (i := 0) (o := 1) rfl (intA _) rfl rfl, f.a, f.data.length, f.c, fun w' ⟨Y, hY⟩ => hY.ldL (i := 0) (o := 0) rfl (bsA _) rfl rfl, f.syn, fun w' ⟨Y, hY⟩ => hY.ldL (i := 0) (o := 1) rfl (intA _) rfl rfl, ?_⟩
   rw [hWW, Int.toNat_natCast]
   obtain ⟨w11, r11, h11⟩ := h10.stL (i := 0) (o := 0) (off := 0) (T := 33) (v := .slice f.a Z f.c) rfl (bsS _) rfl (by simp) rfl
   have h12 := h11.upd (i := 1) (r' := .row 5 1 (.slice f.a Z f.c) Z (bv (f.data.take Z))) rfl (Chg.refl _ _) (rowTake (h11.holds 1 _ rfl) hZl) (fun k hk => .inl (by revert hk; unfold FR.row FR.val Res.fp; cases f.a <;> exact id))
   let f' : FR := ⟨f.g, f.a, f.c, f.data.take Z, f.syn⟩
   have hf'l : f'.data.length = Z := by show (f.data.take Z).length = Z; rw [List.length_take]; omega
   have h13 : St w0 X w11 (f'.blk :: f'.row :: (resD gd m q ++ DR (FL.eraseIdx e.file) (N ++ ([sv] ++ [nm])))) := by
     unfold FR.blk FR.row FR.val
     rw [hf'l]
     exact h12
   have hq2 := perm_DR (FL := FL.set e.file f') (i := e.file) (f := f') (by rw [List.getElem?_set_self (by omega)]) (resD gd m q) (N ++ ([sv] ++ [nm]))
   rw [eraseIdx_set] at hq2
   have h14 := h13.perm hq2.symm
   refine ⟨by omega, by omega, w11, r11, ⟨i + 1, FL.set e.file f', wrap_succ hi' (by omega), by omega, ?_, ?_, h14⟩, mu_succ hi' (by omega)⟩
   · rw [List.map_set, ← hFg]
     have : (FL.map FR.g)[e.file]? = some f'.g := by rw [List.getElem?_map, hf]; rfl
     obtain ⟨h1, h2⟩ := List.getElem?_eq_some_iff.1 this
     rw [← h2, List.set_getElem_self]
   · rw [List.map_set, List.take_add_one, he]
     simp only [Option.toList_some]
     rw [cutAll_snoc, hFm, setF, hfm, List.length_take, Nat.min_eq_left hi, Nat.zero_add, hmore]
     show _ = List.set _ _ (⟨f.data.take (f.syn + min more (f.data.length - f.syn)), f.syn⟩ : FileM)
     rw [hZ]; rfl
 · have hi' : i = d.length := by simp at hge; omega
   rw [hi', List.take_of_length_le (Nat.le_refl _)] at hFm
   obtain ⟨m2, hm2⟩ : ∃ m2 : DiskM, { m with now := d, files := cutAll cuts 0 d m.files } = m2 := ⟨_, rfl⟩
   have hmem2 : DMem { m with now := d, files := cutAll cuts 0 d m.files } { q with FL := FL } := ⟨by show OkDir (cutAll cuts 0 d m.files).length d; rw [cutAll_len]; exact hokd, cutAll_ok _ _ _ _ hw.syn, hw.size, hFm, hp.arm, hp.fails, by show MapE kyE (vlE (FL.map FR.g)) _ _ _; rw [hFg]; exact hE, hD⟩
   have h15 : St w0 X w9 (resD gd { m with now := d, files := cutAll cuts 0 d m.files } { q with FL := FL } ++ DR FL (N ++ ([sv] ++ [nm]))) := by
     have e : resD gd { m with now := d, files := cutAll cuts 0 d m.files } { q with FL := FL } = resD gd m q := by
       have : ({ q with FL := FL } : DP).ps = q.ps := hFg
       unfold resD
       rw [this]
       rfl
     rw [e]; exact h9
   refine (settle_spec hmem2 h15).mono ?_
   rintro e w12 ⟨rfl, h16⟩
   have h17 := h16.subN (N' := N) (List.sublist_append_left _ _)
   have hps2 : ({ q with FL := FL } : DP).ps = ps := by rw [← hps]; exact hFg
   rw [hps2] at h17
   obtain ⟨p4, hps4, hp4, h18⟩ := h17
   obtain ⟨w13, r13, h19⟩ := h18.stP (i := 0) (T := 114) (n := 5) (v := [.int .i64 (m.steps : Int), .bool false, .bool false, .int .i64 0, .slice none 0 0]) rfl (meterS _) (by simp [dskL]) rfl (by intro u hu; simp only [List.mem_cons, List.not_mem_nil, or_false] at hu; rcases hu with rfl | rfl | rfl | rfl | rfl <;> rfl)
   refine ⟨rfl, _, DiskIn.cell h18 (i := 0) (intA _) rfl, _, meter_build _ _, w13, r13, rfl, { p4 with av := 0, fa := none, fn := 0, fc := 0 }, hps4, ?_, ?_⟩
   · have := hp4.upd m.steps false none [] (av := 0) (fa := none) (fn := 0) (fc := 0) (F := p4.F) (fun k hk => by cases hk) ⟨rfl, Nat.le_refl _, .inl rfl, by simp⟩
     rw [crashM, hd]
     exact this
   · rw [crashM, hd]
     exact h19

end

end Go.Proofs.YtmdandkoajocpaaGreatDoor
end
