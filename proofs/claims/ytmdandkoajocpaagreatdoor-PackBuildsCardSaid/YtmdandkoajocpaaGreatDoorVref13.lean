/- Verification conditions of functions, printed by the session's own program vc.py: out of each, Calls (conditions: none). -/
import Derived.Test.YtmdandkoajocpaaGreatDoorRows
import Derived.Test.YtmdandkoajocpaaGreatDoorSxRun
namespace Go.Proofs.YtmdandkoajocpaaGreatDoor
open Go Go.Proofs.YtmdandkoajocpaaGreatDoor.Sx

set_option maxRecDepth 100000 in
theorem amphoraref13_Good_vc (a0 : Int) (w : World) (R : Ending → World → Prop) (h :
  R (.returned (.bool ((decide (a0 ≥ (0 : Int))) && (decide (a0 ≤ (1099511627776 : Int)))))) w) : Calls Tryz.prog 18 #[(.int .i64 a0)] w R :=
  calls_of_ev (args := [(.int .i64 a0)])
    (tc := .seq (.reg (.op .p (.nil))) (.seq (.reg (.op .p (.op .p (.op .p (.ap 2 (.op .p (.nil))))))) (.leaf)))
    (by kernel_rfl) Tryz.func18 (by kernel_rfl) (by kernel_rfl) (by kernel_rfl) (by kernel_rfl) h

set_option maxRecDepth 100000 in
theorem amphoraref13_Name_vc (a0 : Int) (w : World) (R : Ending → World → Prop) (h :
  Calls Tryz.prog 45 #[(.int .i64 a0)] w fun (e4 : Ending) (w1 : World) => ∃ (t4 : ByteArray), e4 = .returned (.string t4) ∧
  (∃ (t5 : ByteArray), (eqlS .add 9 (.const (.string (ByteArray.mk #[112]))) (.tmp 4) (.string (ByteArray.mk #[112])) (.string t4)).run Tryz.prog w1 = .ok (.string t5) w1 ∧
    (R (.returned (.string t5)) w1))) : Calls Tryz.prog 20 #[(.int .i64 a0)] w R :=
  calls_of_ev (args := [(.int .i64 a0)])
    (tc := .seq (.reg (.op .p (.nil))) (.seq (.reg (.op .p (.op (.cl [.str]) (.op (.ld (.str)) (.op .p (.nil)))))) (.leaf)))
    (by kernel_rfl) Tryz.func20 (by kernel_rfl) (by kernel_rfl) (by kernel_rfl) (by kernel_rfl) h

set_option maxRecDepth 100000 in
theorem amphoraref13_Number_vc (a0 : ByteArray) (w : World) (R : Ending → World → Prop) (h :
  ∃ J : Bool → World → Prop, ((((decide ((a0.size : Int) < (2 : Int))) || (decide ((a0.size : Int) > (15 : Int)))) = true →
      (J true w)) ∧
    (((decide ((a0.size : Int) < (2 : Int))) || (decide ((a0.size : Int) > (15 : Int)))) = false →
      (∃ (t16 : Int), (Instr.index 9 (.string a0) (.int .i64 0)).run Tryz.prog w = .ok (.int .u8 t16) w ∧
        (J (t16 != (112 : Int)) w)))) ∧
  (∀ (x18 : Bool), ∀ w1 : World, J x18 w1 →
    ((x18 = true →
        (R (.returned (.tuple #[(.int .i64 0), (.bool false)])) w1)) ∧
      (x18 = false →
        (∃ (I : Int → Int → World → Prop) (μ : Int → Int → World → Nat), I 0 1 w1 ∧
          (∀ (x4 : Int) (x5 : Int), ∀ w2 : World, I x4 x5 w2 →
            (((decide (x5 < (a0.size : Int))) = true →
                (∃ J_1 : Bool → World → Prop, (∃ (t27 : Int), (Instr.index 9 (.string a0) (.int .i64 x5)).run Tryz.prog w2 = .ok (.int .u8 t27) w2 ∧
                    (((decide (t27 < (48 : Int))) = true →
                        (J_1 true w2)) ∧
                      ((decide (t27 < (48 : Int))) = false →
                        (∃ (t32 : Int), (Instr.index 9 (.string a0) (.int .i64 x5)).run Tryz.prog w2 = .ok (.int .u8 t32) w2 ∧
                          (J_1 (decide (t32 > (57 : Int))) w2))))) ∧
                  (∀ (x34 : Bool), ∀ w3 : World, J_1 x34 w3 →
                    ((x34 = true →
                        (R (.returned (.tuple #[(.int .i64 0), (.bool false)])) w3)) ∧
                      (x34 = false →
                        (∃ (t39 : Int), (Instr.index 9 (.string a0) (.int .i64 x5)).run Tryz.prog w3 = .ok (.int .u8 t39) w3 ∧
                          (I (IntKind.wrap .i64 ((IntKind.wrap .i64 ((10 : Int) * x4)) + (IntKind.wrap .i64 (IntKind.wrap .u8 (t39 - (48 : Int)))))) (IntKind.wrap .i64 (x5 + (1 : Int))) w3 ∧ μ (IntKind.wrap .i64 ((IntKind.wrap .i64 ((10 : Int) * x4)) + (IntKind.wrap .i64 (IntKind.wrap .u8 (t39 - (48 : Int)))))) (IntKind.wrap .i64 (x5 + (1 : Int))) w3 < μ x4 x5 w2))))))) ∧
              ((decide (x5 < (a0.size : Int))) = false →
                (∃ J_1 : Bool → World → Prop, (Calls Tryz.prog 18 #[(.int .i64 x4)] w2 fun (e44 : Ending) (w4 : World) => ∃ (t44 : Bool), e44 = .returned (.bool t44) ∧
                    (((!t44) = true →
                        (J_1 true w4)) ∧
                      ((!t44) = false →
                        (Calls Tryz.prog 20 #[(.int .i64 x4)] w4 fun (e48 : Ending) (w5 : World) => ∃ (t48 : ByteArray), e48 = .returned (.string t48) ∧
                          (J_1 (!(t48.toList == a0.toList)) w5))))) ∧
                  (∀ (x51 : Bool), ∀ w6 : World, J_1 x51 w6 →
                    ((x51 = true →
                        (R (.returned (.tuple #[(.int .i64 0), (.bool false)])) w6)) ∧
                      (x51 = false →
                        (R (.returned (.tuple #[(.int .i64 x4), (.bool true)])) w6))))))))))))) : Calls Tryz.prog 17 #[(.string a0)] w R :=
  calls_of_ev (args := [(.string a0)])
    (tc := .seq (.reg (.op .p (.op .p (.nil)))) (.seq (.reg (.op .p (.nil))) (.seq (.seq (.join [6, 7, 8, 9, 10, 11, 12, 13, 14, 15, 16, 17, 18] [18] [.bool] (.reg (.op .p (.op .p (.op .p (.op .p (.ap 3 (.op .p (.sp 14 (.op .p (.op .p (.op .p (.op .p (.nil))))) (.op .p (.op (.ld (.int .u8)) (.op .p (.op .p (.nil)))))))))))))) (.cond (.seq (.reg (.op .p (.op .p (.nil)))) (.leaf)) (.leaf))) (.seq (.seq (.reg (.op .p (.nil))) (.blk (.loop [2, 3, 4, 5, 19, 20, 21, 22, 23, 24, 25, 26, 27, 28, 29, 30, 31, 32, 33, 34, 35, 36, 37, 38, 39, 40, 41, 42] [4, 5] [.int .i64, .int .i64] (.seq (.seq (.reg (.op .p (.op .p (.op .p (.op .p (.nil)))))) (.cond (.leaf) (.leaf))) (.seq (.blk (.seq (.seq (.join [25, 26, 27, 28, 29, 30, 31, 32, 33, 34] [34] [.bool] (.reg (.op .p (.op .p (.op (.ld (.int .u8)) (.op .p (.op .p (.sp 29 (.op .p (.op .p (.op .p (.op .p (.op .p (.nil)))))) (.op .p (.op .p (.op (.ld (.int .u8)) (.op .p (.op .p (.nil)))))))))))))) (.cond (.seq (.reg (.op .p (.op .p (.nil)))) (.leaf)) (.leaf))) (.reg (.op .p (.op .p (.op .p (.op .p (.op (.ld (.int .u8)) (.op .p (.op .p (.op .p (.op .p (.nil))))))))))))) (.reg (.op .p (.op .p (.op .p (.nil)))))))))) (.seq (.seq (.join [43, 44, 45, 46, 47, 48, 49, 50, 51] [51] [.bool] (.reg (.op .p (.op (.cl [.bool]) (.op .p (.op .p (.sp 46 (.op .p (.op .p (.op .p (.op .p (.op .p (.nil)))))) (.op .p (.op (.cl [.str]) (.op .p (.op .p (.op .p (.nil))))))))))))) (.cond (.seq (.reg (.op .p (.op .p (.nil)))) (.leaf)) (.leaf))) (.seq (.reg (.op .p (.op .p (.op .p (.nil))))) (.leaf)))))))
    (by kernel_rfl) Tryz.func17 (by kernel_rfl) (by kernel_rfl) (by kernel_rfl) (by kernel_rfl) h

set_option maxRecDepth 100000 in
theorem amphoraref13_foot_vc (a0a : Option Addr) (a0n : Nat) (a0c : Nat) (w : World) (R : Ending → World → Prop) (h :
  ∃ (I : Option Addr → Nat → Nat → Int → World → Prop) (μ : Option Addr → Nat → Nat → Int → World → Nat), I none 0 0 0 w ∧
  (∀ (x3a : Option Addr) (x3n : Nat) (x3c : Nat) (x4 : Int), ∀ w1 : World, I x3a x3n x3c x4 w1 →
    (((decide (x4 < ((a0n : Nat) : Int))) = true →
        (∃ (t14b t14o : Nat), a0a = some ⟨t14b, t14o, none⟩ ∧ 0 ≤ x4 ∧ x4 < ((a0n : Nat) : Int) ∧
          (0 ≤ ((32 : Nat) : Int) ∧ ((32 : Nat) : Int) ≤ ((32 : Nat) : Int) ∧
            (∃ (t17a : Option Addr) (t17n : Nat) (t17c : Nat) (w2 : World), (Builtin.append_ #[33, 33] 33 #[(.slice x3a x3n x3c), (.slice (some ⟨t14b, t14o + Int.toNat x4 * 35, none⟩) (32) 32)]).run Tryz.prog w1 = .ok (.slice t17a t17n t17c) w2 ∧
              (∃ (t21b t21o : Nat), a0a = some ⟨t21b, t21o, none⟩ ∧ 0 ≤ x4 ∧ x4 < ((a0n : Nat) : Int) ∧
                (∃ (t23 : Int), (Instr.loadAt 3 (.pointer (some ⟨t21b, t21o + Int.toNat x4 * 35 + 33, none⟩))).run Tryz.prog w2 = .ok (.int .i64 t23) w2 ∧
                  (Calls Tryz.prog 74 #[(.int .i64 t23)] w2 fun (e24 : Ending) (w3 : World) => ∃ (t24a : Option Addr) (t24n : Nat) (t24c : Nat), e24 = .returned (.slice t24a t24n t24c) ∧
                    (∃ (t25a : Option Addr) (t25n : Nat) (t25c : Nat) (w4 : World), (Builtin.append_ #[33, 33] 33 #[(.slice t17a t17n t17c), (.slice t24a t24n t24c)]).run Tryz.prog w3 = .ok (.slice t25a t25n t25c) w4 ∧
                      (∃ (t29b t29o : Nat), a0a = some ⟨t29b, t29o, none⟩ ∧ 0 ≤ x4 ∧ x4 < ((a0n : Nat) : Int) ∧
                        (∃ (t31 : Int), (Instr.loadAt 3 (.pointer (some ⟨t29b, t29o + Int.toNat x4 * 35 + 34, none⟩))).run Tryz.prog w4 = .ok (.int .i64 t31) w4 ∧
                          (Calls Tryz.prog 74 #[(.int .i64 t31)] w4 fun (e32 : Ending) (w5 : World) => ∃ (t32a : Option Addr) (t32n : Nat) (t32c : Nat), e32 = .returned (.slice t32a t32n t32c) ∧
                            (∃ (t33a : Option Addr) (t33n : Nat) (t33c : Nat) (w6 : World), (Builtin.append_ #[33, 33] 33 #[(.slice t25a t25n t25c), (.slice t32a t32n t32c)]).run Tryz.prog w5 = .ok (.slice t33a t33n t33c) w6 ∧
                              (I t33a t33n t33c (IntKind.wrap .i64 (x4 + (1 : Int))) w6 ∧ μ t33a t33n t33c (IntKind.wrap .i64 (x4 + (1 : Int))) w6 < μ x3a x3n x3c x4 w1))))))))))))) ∧
      ((decide (x4 < ((a0n : Nat) : Int))) = false →
        (R (.returned (.slice x3a x3n x3c)) w1))))) : Calls Tryz.prog 77 #[(.slice a0a a0n a0c)] w R :=
  calls_of_ev (args := [(.slice a0a a0n a0c)])
    (tc := .seq (.reg (.op .p (.nil))) (.seq (.reg (.op .p (.nil))) (.seq (.seq (.reg (.op .p (.nil))) (.blk (.loop [3, 4, 5, 6, 7, 8, 9, 10, 11, 12, 13, 14, 15, 16, 17, 18, 19, 20, 21, 22, 23, 24, 25, 26, 27, 28, 29, 30, 31, 32, 33] [3, 4] [.slice, .int .i64] (.seq (.seq (.reg (.op .p (.op .p (.op .p (.op .p (.nil)))))) (.cond (.leaf) (.leaf))) (.seq (.blk (.seq (.reg (.op .p (.op .p (.op .p (.op .ix (.op .p (.op .sl (.op (.r (.slice)) (.op .p (.nil)))))))))) (.seq (.reg (.op .p (.op .p (.op .p (.op .ix (.op .p (.op (.ld (.int .i64)) (.op (.cl [.slice]) (.op (.r (.slice)) (.op .p (.nil))))))))))) (.reg (.op .p (.op .p (.op .p (.op .ix (.op .p (.op (.ld (.int .i64)) (.op (.cl [.slice]) (.op (.r (.slice)) (.op .p (.nil)))))))))))))) (.reg (.op .p (.op .p (.op .p (.nil)))))))))) (.seq (.reg (.op .p (.op .p (.nil)))) (.leaf)))))
    (by kernel_rfl) Tryz.func77 (by kernel_rfl) (by kernel_rfl) (by kernel_rfl) (by kernel_rfl) h

set_option maxRecDepth 100000 in
theorem amphoraref13_Pieces_vc (a0 : Array Value) (a1 : Int) (a2a : Option Addr) (a2n : Nat) (a2c : Nat) (w : World) (R : Ending → World → Prop) (h :
  ∃ (g3 : Nat) (w1 : World), (Instr.box 28 (.agg a0)).run Tryz.prog w = .ok (.pointer (some ⟨g3, 0, none⟩)) w1 ∧
  (∃ (t15a : Option Addr) (t15n : Nat) (t15c : Nat) (w2 : World), (Instr.buildSlice 33 8 #[(0, (.int .u8 97)), (1, (.int .u8 109)), (2, (.int .u8 112)), (3, (.int .u8 104)), (4, (.int .u8 112)), (5, (.int .u8 97)), (6, (.int .u8 99)), (7, (.int .u8 107))]).run Tryz.prog w1 = .ok (.slice t15a t15n t15c) w2 ∧
    (∃ (t16a : Option Addr) (t16n : Nat) (t16c : Nat) (w3 : World), (convert 33 33 (.slice t15a t15n t15c)).run Tryz.prog w2 = .ok (.slice t16a t16n t16c) w3 ∧
      (Calls Tryz.prog 74 #[(.int .i64 a1)] w3 fun (e18 : Ending) (w4 : World) => ∃ (t18a : Option Addr) (t18n : Nat) (t18c : Nat), e18 = .returned (.slice t18a t18n t18c) ∧
        (∃ (t19a : Option Addr) (t19n : Nat) (t19c : Nat) (w5 : World), (Builtin.append_ #[33, 33] 33 #[(.slice t16a t16n t16c), (.slice t18a t18n t18c)]).run Tryz.prog w4 = .ok (.slice t19a t19n t19c) w5 ∧
          (∃ (t20a : Option Addr) (t20n : Nat) (t20c : Nat) (w6 : World), (Instr.buildSlice 23 1 #[(0, (.slice t19a t19n t19c))]).run Tryz.prog w5 = .ok (.slice t20a t20n t20c) w6 ∧
            (∃ (t21a : Option Addr) (t21n : Nat) (t21c : Nat) (w7 : World), (Builtin.append_ #[23, 23] 23 #[(.slice none 0 0), (.slice t20a t20n t20c)]).run Tryz.prog w6 = .ok (.slice t21a t21n t21c) w7 ∧
              (∃ (I : Option Addr → Nat → Nat → Option Addr → Nat → Nat → Int → Int → World → Prop) (μ : Option Addr → Nat → Nat → Option Addr → Nat → Nat → Int → Int → World → Nat), I t21a t21n t21c none 0 0 16 0 w7 ∧
                (∀ (x8a : Option Addr) (x8n : Nat) (x8c : Nat) (x9a : Option Addr) (x9n : Nat) (x9c : Nat) (x10 : Int) (x11 : Int), ∀ w8 : World, I x8a x8n x8c x9a x9n x9c x10 x11 w8 →
                  (((decide (x11 < ((a2n : Nat) : Int))) = true →
                      (∃ (t28a : Option Addr) (t28n : Nat) (t28c : Nat) (w9 : World), (Instr.buildSlice 33 0 #[]).run Tryz.prog w8 = .ok (.slice t28a t28n t28c) w9 ∧
                        (∃ (t31b t31o : Nat), a2a = some ⟨t31b, t31o, none⟩ ∧ 0 ≤ x11 ∧ x11 < ((a2n : Nat) : Int) ∧
                          (0 ≤ ((32 : Nat) : Int) ∧ ((32 : Nat) : Int) ≤ ((32 : Nat) : Int) ∧
                            (∃ (t34a : Option Addr) (t34n : Nat) (t34c : Nat) (w10 : World), (Builtin.append_ #[33, 33] 33 #[(.slice t28a t28n t28c), (.slice (some ⟨t31b, t31o + Int.toNat x11 * 33, none⟩) (32) 32)]).run Tryz.prog w9 = .ok (.slice t34a t34n t34c) w10 ∧
                              (∃ (t38b t38o : Nat), a2a = some ⟨t38b, t38o, none⟩ ∧ 0 ≤ x11 ∧ x11 < ((a2n : Nat) : Int) ∧
                                (∃ (t40a : Option Addr) (t40n : Nat) (t40c : Nat), (Instr.loadAt 33 (.pointer (some ⟨t38b, t38o + Int.toNat x11 * 33 + 32, none⟩))).run Tryz.prog w10 = .ok (.slice t40a t40n t40c) w10 ∧
                                  (∃ (t41a : Option Addr) (t41n : Nat) (t41c : Nat) (w11 : World), (Builtin.append_ #[33, 33] 33 #[(.slice t34a t34n t34c), (.slice t40a t40n t40c)]).run Tryz.prog w10 = .ok (.slice t41a t41n t41c) w11 ∧
                                    (Calls Tryz.prog 75 #[(.int .u8 2), (.slice t41a t41n t41c)] w11 fun (e43 : Ending) (w12 : World) => ∃ (t43a : Option Addr) (t43n : Nat) (t43c : Nat), e43 = .returned (.slice t43a t43n t43c) ∧
                                      (∃ (t50a : Option Addr) (t50n : Nat) (t50c : Nat) (w13 : World), (Instr.buildSlice 23 1 #[(0, (.slice t43a t43n t43c))]).run Tryz.prog w12 = .ok (.slice t50a t50n t50c) w13 ∧
                                        (∃ (t51a : Option Addr) (t51n : Nat) (t51c : Nat) (w14 : World), (Builtin.append_ #[23, 23] 23 #[(.slice x8a x8n x8c), (.slice t50a t50n t50c)]).run Tryz.prog w13 = .ok (.slice t51a t51n t51c) w14 ∧
                                          (∃ S : World → Prop, S w14.drew ∧
                                            (∃ (t55b t55o : Nat), a2a = some ⟨t55b, t55o, none⟩ ∧ 0 ≤ x11 ∧ x11 < ((a2n : Nat) : Int) ∧
                                              (∃ (t62b t62o : Nat), a2a = some ⟨t62b, t62o, none⟩ ∧ 0 ≤ x11 ∧ x11 < ((a2n : Nat) : Int) ∧
                                                (∃ (t69b t69o : Nat), a2a = some ⟨t69b, t69o, none⟩ ∧ 0 ≤ x11 ∧ x11 < ((a2n : Nat) : Int) ∧
                                                  (∃ (t57 : Array Value), (∀ w' : World, S w' → (Instr.loadAt 44 (.pointer (some ⟨t55b, t55o + Int.toNat x11 * 33, none⟩))).run Tryz.prog w' = .ok (.agg t57) w') ∧
                                                    (∃ (t64a : Option Addr) (t64n : Nat) (t64c : Nat), (∀ w' : World, S w' → (Instr.loadAt 33 (.pointer (some ⟨t62b, t62o + Int.toNat x11 * 33 + 32, none⟩))).run Tryz.prog w' = .ok (.slice t64a t64n t64c) w') ∧
                                                      (∃ (t71a : Option Addr) (t71n : Nat) (t71c : Nat), (∀ w' : World, S w' → (Instr.loadAt 33 (.pointer (some ⟨t69b, t69o + Int.toNat x11 * 33 + 32, none⟩))).run Tryz.prog w' = .ok (.slice t71a t71n t71c) w') ∧
                                                        (∃ (t73 : Array Value), (∀ w' : World, S w' → (Instr.build 75 #[(0, (.agg t57)), (1, (.int .i64 a1)), (2, (.int .i64 (IntKind.wrap .i64 ((IntKind.wrap .i64 (x10 + ((t43n : Nat) : Int))) - ((t64n : Nat) : Int))))), (3, (.int .i64 ((t71n : Nat) : Int)))]).run Tryz.prog w' = .ok (.agg t73) w') ∧
                                                          (∃ (t74a : Option Addr) (t74n : Nat) (t74c : Nat) (w15 : World), (Instr.buildSlice 34 1 #[(0, (.agg t73))]).run Tryz.prog w14.drew = .ok (.slice t74a t74n t74c) w15 ∧
                                                            (∃ S_1 : World → Prop, (∀ w' : World, S_1 w' → S w') ∧ S_1 w15 ∧
                                                              (∃ (t75a : Option Addr) (t75n : Nat) (t75c : Nat) (w16 : World), (Builtin.append_ #[34, 34] 34 #[(.slice x9a x9n x9c), (.slice t74a t74n t74c)]).run Tryz.prog w15 = .ok (.slice t75a t75n t75c) w16 ∧
                                                                (∃ S_2 : World → Prop, (∀ w' : World, S_2 w' → S_1 w') ∧ S_2 w16 ∧
                                                                  (I t51a t51n t51c t75a t75n t75c (IntKind.wrap .i64 (x10 + ((t43n : Nat) : Int))) (IntKind.wrap .i64 (x11 + (1 : Int))) w16 ∧ μ t51a t51n t51c t75a t75n t75c (IntKind.wrap .i64 (x10 + ((t43n : Nat) : Int))) (IntKind.wrap .i64 (x11 + (1 : Int))) w16 < μ x8a x8n x8c x9a x9n x9c x10 x11 w8)))))))))))))))))))))))) ∧
                    ((decide (x11 < ((a2n : Nat) : Int))) = false →
                      (∃ S : World → Prop, S w8.drew ∧
                        (∃ (t77 : Array Value), (∀ w' : World, S w' → (Instr.loadAt 28 (.pointer (some ⟨g3, 0, none⟩))).run Tryz.prog w' = .ok (.agg t77) w') ∧
                          (Calls Tryz.prog 74 #[(.int .i64 a1)] w8.drew fun (e79 : Ending) (w17 : World) => ∃ (t79a : Option Addr) (t79n : Nat) (t79c : Nat), e79 = .returned (.slice t79a t79n t79c) ∧
                            (∃ S_1 : World → Prop, (∀ w' : World, S_1 w' → S w') ∧ S_1 w17 ∧
                              (Calls Tryz.prog 77 #[(.slice x9a x9n x9c)] w17 fun (e81 : Ending) (w18 : World) => ∃ (t81a : Option Addr) (t81n : Nat) (t81c : Nat), e81 = .returned (.slice t81a t81n t81c) ∧
                                (∃ S_2 : World → Prop, (∀ w' : World, S_2 w' → S_1 w') ∧ S_2 w18 ∧
                                  (Calls Tryz.prog 76 #[(.agg t77), (.int .u8 3), (.slice t79a t79n t79c), (.slice t81a t81n t81c)] w18 fun (e82 : Ending) (w19 : World) => ∃ (t82a : Option Addr) (t82n : Nat) (t82c : Nat), e82 = .returned (.slice t82a t82n t82c) ∧
                                    (∃ S_3 : World → Prop, (∀ w' : World, S_3 w' → S_2 w') ∧ S_3 w19 ∧
                                      (Calls Tryz.prog 75 #[(.int .u8 3), (.slice t82a t82n t82c)] w19 fun (e83 : Ending) (w20 : World) => ∃ (t83a : Option Addr) (t83n : Nat) (t83c : Nat), e83 = .returned (.slice t83a t83n t83c) ∧
                                        (∃ S_4 : World → Prop, (∀ w' : World, S_4 w' → S_3 w') ∧ S_4 w20 ∧
                                          (∃ (t84a : Option Addr) (t84n : Nat) (t84c : Nat) (w21 : World), (Instr.buildSlice 23 1 #[(0, (.slice t83a t83n t83c))]).run Tryz.prog w20 = .ok (.slice t84a t84n t84c) w21 ∧
                                            (∃ S_5 : World → Prop, (∀ w' : World, S_5 w' → S_4 w') ∧ S_5 w21 ∧
                                              (∃ (t85a : Option Addr) (t85n : Nat) (t85c : Nat) (w22 : World), (Builtin.append_ #[23, 23] 23 #[(.slice x8a x8n x8c), (.slice t84a t84n t84c)]).run Tryz.prog w21 = .ok (.slice t85a t85n t85c) w22 ∧
                                                (∃ S_6 : World → Prop, (∀ w' : World, S_6 w' → S_5 w') ∧ S_6 w22 ∧
                                                  (R (.returned (.tuple #[(.slice t85a t85n t85c), (.slice x9a x9n x9c)])) w22)))))))))))))))))))))))))) : Calls Tryz.prog 41 #[(.agg a0), (.int .i64 a1), (.slice a2a a2n a2c)] w R :=
  calls_of_ev (args := [(.agg a0), (.int .i64 a1), (.slice a2a a2n a2c)])
    (tc := .seq (.reg (.op .bx (.op .p (.op .p (.nil))))) (.seq (.reg (.op .p (.nil))) (.seq (.reg (.op .p (.nil))) (.seq (.reg (.op .p (.nil))) (.seq (.reg (.op .p (.op (.r (.slice)) (.op (.r (.slice)) (.op .p (.op (.cl [.slice]) (.op (.r (.slice)) (.op (.r (.slice)) (.op (.r (.slice)) (.op .p (.nil))))))))))) (.seq (.seq (.reg (.op .p (.nil))) (.blk (.loop [8, 9, 10, 11, 12, 13, 22, 23, 24, 25, 26, 27, 28, 29, 30, 31, 32, 33, 34, 35, 36, 37, 38, 39, 40, 41, 42, 43, 44, 45, 46, 47, 48, 49, 50, 51, 52, 53, 54, 55, 56, 57, 58, 59, 60, 61, 62, 63, 64, 65, 66, 67, 68, 69, 70, 71, 72, 73, 74, 75] [8, 9, 10, 11] [.slice, .slice, .int .i64, .int .i64] (.seq (.seq (.reg (.op .p (.op .p (.op .p (.op .p (.nil)))))) (.cond (.leaf) (.leaf))) (.seq (.blk (.seq (.reg (.op (.r (.slice)) (.op .p (.op .p (.op .ix (.op .p (.op .sl (.op (.r (.slice)) (.op .p (.nil)))))))))) (.seq (.reg (.op .p (.op .p (.op .p (.op .ix (.op .p (.op (.ld (.slice)) (.op (.r (.slice)) (.op .p (.nil)))))))))) (.seq (.reg (.op .p (.op (.cl [.slice]) (.op .p (.nil))))) (.seq (.reg (.op .p (.op .p (.op .p (.op .p (.op .p (.nil))))))) (.seq (.reg (.op .p (.op .p (.op (.r (.slice)) (.op (.r (.slice)) (.op .p (.nil))))))) (.drawS (.tk 0 .p (.tk 1 .p (.tk 2 .p (.tk 3 .ix (.tk 4 .p (.tk 6 .p (.tk 7 .p (.tk 8 .p (.tk 9 .p (.tk 10 .ix (.tk 11 .p (.tk 15 .p (.tk 16 .p (.tk 17 .ix (.tk 18 .p (.ts 5 (.agg) (.ts 12 (.slice) (.tk 13 .p (.tk 14 .p (.ts 19 (.slice) (.tk 20 .p (.ts 21 (.agg) (.go 22 (.r (.slice)) (.go 23 (.r (.slice)) (.tk 24 .p (.nil)))))))))))))))))))))))))) []))))))) (.reg (.op .p (.op .p (.op .p (.nil)))))))))) (.seq (.drawS (.tk 0 .p (.tk 2 .p (.tk 4 .p (.tk 10 .p (.ts 1 (.agg) (.go 3 (.cl [.slice]) (.go 5 (.cl [.slice]) (.go 6 (.cl [.slice]) (.go 7 (.cl [.slice]) (.go 8 (.r (.slice)) (.go 9 (.r (.slice)) (.tk 11 .p (.tk 12 .p (.nil)))))))))))))) []) (.leaf))))))))
    (by kernel_rfl) Tryz.func41 (by kernel_rfl) (by kernel_rfl) (by kernel_rfl) (by kernel_rfl) h

set_option maxRecDepth 100000 in
theorem amphoraref13_Build_vc (a0 : Array Value) (a1 : Int) (a2a : Option Addr) (a2n : Nat) (a2c : Nat) (w : World) (R : Ending → World → Prop) (h :
  ∃ (g3 : Nat) (w1 : World), (Instr.box 28 (.agg a0)).run Tryz.prog w = .ok (.pointer (some ⟨g3, 0, none⟩)) w1 ∧
  (Calls Tryz.prog 18 #[(.int .i64 a1)] w1 fun (e15 : Ending) (w2 : World) => ∃ (t15 : Bool), e15 = .returned (.bool t15) ∧
    (((!t15) = true →
        (R (.returned (.tuple #[(.slice none 0 0), (.slice none 0 0), (.int .i64 28)])) w2)) ∧
      ((!t15) = false →
        (∃ (I : Int → World → Prop) (μ : Int → World → Nat), I 0 w2 ∧
          (∀ (x9 : Int), ∀ w3 : World, I x9 w3 →
            (((decide (x9 < ((a2n : Nat) : Int))) = true →
                (∃ (t25b t25o : Nat), a2a = some ⟨t25b, t25o, none⟩ ∧ 0 ≤ x9 ∧ x9 < ((a2n : Nat) : Int) ∧
                  (∃ (t27a : Option Addr) (t27n : Nat) (t27c : Nat), (Instr.loadAt 33 (.pointer (some ⟨t25b, t25o + Int.toNat x9 * 33 + 32, none⟩))).run Tryz.prog w3 = .ok (.slice t27a t27n t27c) w3 ∧
                    (((decide (((t27n : Nat) : Int) > (67108832 : Int))) = true →
                        (R (.returned (.tuple #[(.slice none 0 0), (.slice none 0 0), (.int .i64 7)])) w3)) ∧
                      ((decide (((t27n : Nat) : Int) > (67108832 : Int))) = false →
                        (I (IntKind.wrap .i64 (x9 + (1 : Int))) w3 ∧ μ (IntKind.wrap .i64 (x9 + (1 : Int))) w3 < μ x9 w3)))))) ∧
              ((decide (x9 < ((a2n : Nat) : Int))) = false →
                (∃ (t31 : Array Value), (Instr.loadAt 28 (.pointer (some ⟨g3, 0, none⟩))).run Tryz.prog w3 = .ok (.agg t31) w3 ∧
                  (Calls Tryz.prog 41 #[(.agg t31), (.int .i64 a1), (.slice a2a a2n a2c)] w3 fun (e34 : Ending) (w4 : World) => ∃ (t34_0a : Option Addr) (t34_0n : Nat) (t34_0c : Nat) (t34_1a : Option Addr) (t34_1n : Nat) (t34_1c : Nat), e34 = .returned (.tuple #[(.slice t34_0a t34_0n t34_0c), (.slice t34_1a t34_1n t34_1c)]) ∧
                    (∃ (t37a : Option Addr) (t37n : Nat) (t37c : Nat) (w5 : World), (Instr.buildSlice 33 0 #[]).run Tryz.prog w4 = .ok (.slice t37a t37n t37c) w5 ∧
                      (∃ (I_1 : Option Addr → Nat → Nat → Int → World → Prop) (μ_1 : Option Addr → Nat → Nat → Int → World → Nat), I_1 t37a t37n t37c 0 w5 ∧
                        (∀ (x12a : Option Addr) (x12n : Nat) (x12c : Nat) (x13 : Int), ∀ w6 : World, I_1 x12a x12n x12c x13 w6 →
                          (((decide (x13 < ((t34_0n : Nat) : Int))) = true →
                              (∃ (t47b t47o : Nat), t34_0a = some ⟨t47b, t47o, none⟩ ∧ 0 ≤ x13 ∧ x13 < ((t34_0n : Nat) : Int) ∧
                                (∃ (t48a : Option Addr) (t48n : Nat) (t48c : Nat), (Instr.loadAt 33 (.pointer (some ⟨t47b, t47o + Int.toNat x13 * 1, none⟩))).run Tryz.prog w6 = .ok (.slice t48a t48n t48c) w6 ∧
                                  (∃ (t49a : Option Addr) (t49n : Nat) (t49c : Nat) (w7 : World), (Builtin.append_ #[33, 33] 33 #[(.slice x12a x12n x12c), (.slice t48a t48n t48c)]).run Tryz.prog w6 = .ok (.slice t49a t49n t49c) w7 ∧
                                    (I_1 t49a t49n t49c (IntKind.wrap .i64 (x13 + (1 : Int))) w7 ∧ μ_1 t49a t49n t49c (IntKind.wrap .i64 (x13 + (1 : Int))) w7 < μ_1 x12a x12n x12c x13 w6))))) ∧
                            ((decide (x13 < ((t34_0n : Nat) : Int))) = false →
                              (R (.returned (.tuple #[(.slice x12a x12n x12c), (.slice t34_1a t34_1n t34_1c), (.int .i64 0)])) w6)))))))))))))))) : Calls Tryz.prog 12 #[(.agg a0), (.int .i64 a1), (.slice a2a a2n a2c)] w R :=
  calls_of_ev (args := [(.agg a0), (.int .i64 a1), (.slice a2a a2n a2c)])
    (tc := .seq (.reg (.op .bx (.op .p (.op .p (.op .p (.nil)))))) (.seq (.seq (.reg (.op .p (.op (.cl [.bool]) (.op .p (.nil))))) (.cond (.seq (.reg (.op .p (.op .p (.op .p (.nil))))) (.leaf)) (.leaf))) (.seq (.seq (.reg (.op .p (.nil))) (.blk (.loop [6, 7, 8, 9, 17, 18, 19, 20, 21, 22, 23, 24, 25, 26, 27, 28, 29] [9] [.int .i64] (.seq (.seq (.reg (.op .p (.op .p (.op .p (.op .p (.nil)))))) (.cond (.leaf) (.leaf))) (.seq (.blk (.seq (.reg (.op .p (.op .p (.op .ix (.op .p (.op (.ld (.slice)) (.op .p (.op .p (.nil))))))))) (.cond (.seq (.reg (.op .p (.op .p (.op .p (.nil))))) (.leaf)) (.leaf)))) (.reg (.op .p (.op .p (.op .p (.nil)))))))))) (.seq (.reg (.op (.ld (.agg)) (.op .p (.op .p (.op (.cl [.slice, .slice]) (.op .p (.op .p (.op .p (.op .p (.op .p (.nil))))))))))) (.seq (.reg (.op (.r (.slice)) (.op .p (.nil)))) (.seq (.seq (.reg (.op .p (.nil))) (.blk (.loop [12, 13, 38, 39, 40, 41, 42, 43, 44, 45, 46, 47, 48, 49] [12, 13] [.slice, .int .i64] (.seq (.seq (.reg (.op .p (.op .p (.op .p (.op .p (.nil)))))) (.cond (.leaf) (.leaf))) (.seq (.blk (.reg (.op .p (.op .p (.op .p (.op .ix (.op (.ld (.slice)) (.op (.r (.slice)) (.op .p (.nil)))))))))) (.reg (.op .p (.op .p (.op .p (.nil)))))))))) (.seq (.reg (.op .p (.op .p (.op .p (.op .p (.op .p (.nil))))))) (.leaf))))))))
    (by kernel_rfl) Tryz.func12 (by kernel_rfl) (by kernel_rfl) (by kernel_rfl) (by kernel_rfl) h

set_option maxRecDepth 100000 in
theorem amphoraref13_Save_vc (a0b : Nat) (a0o : Nat) (a1 : Array Value) (a2 : Int) (a3a : Option Addr) (a3n : Nat) (a3c : Nat) (w : World) (R : Ending → World → Prop) (h :
  ∃ (g5 : Nat) (w1 : World), (Instr.box 28 (.agg a1)).run Tryz.prog w = .ok (.pointer (some ⟨g5, 0, none⟩)) w1 ∧
  (∃ (g9 : Nat) (w2 : World), (Instr.alloc 63 true (.tuple #[])).run Tryz.prog w1 = .ok (.pointer (some ⟨g9, 0, none⟩)) w2 ∧
    (∃ (t18 : Array Value), (Instr.loadAt 28 (.pointer (some ⟨g5, 0, none⟩))).run Tryz.prog w2 = .ok (.agg t18) w2 ∧
      (Calls Tryz.prog 12 #[(.agg t18), (.int .i64 a2), (.slice a3a a3n a3c)] w2 fun (e21 : Ending) (w3 : World) => ∃ (t21_0a : Option Addr) (t21_0n : Nat) (t21_0c : Nat) (t21_1a : Option Addr) (t21_1n : Nat) (t21_1c : Nat) (t21_2 : Int), e21 = .returned (.tuple #[(.slice t21_0a t21_0n t21_0c), (.slice t21_1a t21_1n t21_1c), (.int .i64 t21_2)]) ∧
        (((t21_2 != (0 : Int)) = true →
            (∃ (t27 : Array Value), (Instr.build 63 #[]).run Tryz.prog w3 = .ok (.agg t27) w3 ∧
              (∃ w4 : World, (Instr.storeAt 63 (.pointer (some ⟨g9, 0, none⟩)) (.agg t27)).run Tryz.prog w3 = .ok () w4 ∧
                (∃ r9 : Value, (loadVar 63 ⟨g9, 0, none⟩).run Tryz.prog w4 = .ok r9 w4 ∧
                  (R (.returned (.tuple #[(.slice none 0 0), r9, (.int .i64 t21_2)])) w4))))) ∧
          ((t21_2 != (0 : Int)) = false →
            (∃ (t30 : Array Value), (Instr.loadAt 28 (.pointer (some ⟨g5, 0, none⟩))).run Tryz.prog w3 = .ok (.agg t30) w3 ∧
              (Calls Tryz.prog 41 #[(.agg t30), (.int .i64 a2), (.slice a3a a3n a3c)] w3 fun (e33 : Ending) (w5 : World) => ∃ (t33_0a : Option Addr) (t33_0n : Nat) (t33_0c : Nat) (t33_1a : Option Addr) (t33_1n : Nat) (t33_1c : Nat), e33 = .returned (.tuple #[(.slice t33_0a t33_0n t33_0c), (.slice t33_1a t33_1n t33_1c)]) ∧
                (Calls Tryz.prog 20 #[(.int .i64 a2)] w5 fun (e38 : Ending) (w6 : World) => ∃ (t38 : ByteArray), e38 = .returned (.string t38) ∧
                  (Calls Tryz.prog 64 #[(.pointer (some ⟨a0b, a0o, none⟩)), (.string t38)] w6 fun (e39 : Ending) (w7 : World) => ∃ (t39 : Int), e39 = .returned (.int .i64 t39) ∧
                    (∃ (I : Int → Int → World → Prop) (μ : Int → Int → World → Nat), I t39 0 w7 ∧
                      (∀ (x13 : Int) (x16 : Int), ∀ w8 : World, I x13 x16 w8 →
                        ((((decide (x16 < ((t33_0n : Nat) : Int))) && (x13 == (0 : Int))) = true →
                            (∃ J : Int → World → Prop, (∃ S : World → Prop, S w8.drew ∧
                                (∃ (t55b t55o : Nat), t33_0a = some ⟨t55b, t55o, none⟩ ∧ 0 ≤ x16 ∧ x16 < ((t33_0n : Nat) : Int) ∧
                                  (∃ (t56a : Option Addr) (t56n : Nat) (t56c : Nat), (∀ w' : World, S w' → (Instr.loadAt 33 (.pointer (some ⟨t55b, t55o + Int.toNat x16 * 1, none⟩))).run Tryz.prog w' = .ok (.slice t56a t56n t56c) w') ∧
                                    ((Calls Tryz.prog 20 #[(.int .i64 a2)] w8.drew fun (e52 : Ending) (w9 : World) => ∃ (t52 : ByteArray), e52 = .returned (.string t52) ∧
                                        (∃ S_1 : World → Prop, (∀ w' : World, S_1 w' → S w') ∧ S_1 w9 ∧
                                          (∃ (t57a : Option Addr) (t57n : Nat) (t57c : Nat) (w10 : World), (Instr.buildSlice 23 1 #[(0, (.slice t56a t56n t56c))]).run Tryz.prog w9 = .ok (.slice t57a t57n t57c) w10 ∧
                                            (∃ S_2 : World → Prop, (∀ w' : World, S_2 w' → S_1 w') ∧ S_2 w10 ∧
                                              (Calls Tryz.prog 65 #[(.pointer (some ⟨a0b, a0o, none⟩)), (.string t52), (.slice t57a t57n t57c)] w10 fun (e58 : Ending) (w11 : World) => ∃ (t58 : Int), e58 = .returned (.int .i64 t58) ∧
                                                (∃ S_3 : World → Prop, (∀ w' : World, S_3 w' → S_2 w') ∧ S_3 w11 ∧
                                                  (J t58 w11))))))) ∧
                                      (∃ (t57a : Option Addr) (t57n : Nat) (t57c : Nat) (w12 : World), (Instr.buildSlice 23 1 #[(0, (.slice t56a t56n t56c))]).run Tryz.prog w8.drew = .ok (.slice t57a t57n t57c) w12 ∧
                                        (∃ S_1 : World → Prop, (∀ w' : World, S_1 w' → S w') ∧ S_1 w12 ∧
                                          (Calls Tryz.prog 20 #[(.int .i64 a2)] w12 fun (e52 : Ending) (w13 : World) => ∃ (t52 : ByteArray), e52 = .returned (.string t52) ∧
                                            (∃ S_2 : World → Prop, (∀ w' : World, S_2 w' → S_1 w') ∧ S_2 w13 ∧
                                              (Calls Tryz.prog 65 #[(.pointer (some ⟨a0b, a0o, none⟩)), (.string t52), (.slice t57a t57n t57c)] w13 fun (e58 : Ending) (w14 : World) => ∃ (t58 : Int), e58 = .returned (.int .i64 t58) ∧
                                                (∃ S_3 : World → Prop, (∀ w' : World, S_3 w' → S_2 w') ∧ S_3 w14 ∧
                                                  (J t58 w14))))))))))) ∧
                              (∀ (x13_1 : Int), ∀ w15 : World, J x13_1 w15 →
                                (I x13_1 (IntKind.wrap .i64 (x16 + (1 : Int))) w15 ∧ μ x13_1 (IntKind.wrap .i64 (x16 + (1 : Int))) w15 < μ x13 x16 w8)))) ∧
                          (((decide (x16 < ((t33_0n : Nat) : Int))) && (x13 == (0 : Int))) = false →
                            (∃ J : Int → World → Prop, (((x13 == (0 : Int)) = true →
                                  (Calls Tryz.prog 20 #[(.int .i64 a2)] w8 fun (e63 : Ending) (w16 : World) => ∃ (t63 : ByteArray), e63 = .returned (.string t63) ∧
                                    (Calls Tryz.prog 66 #[(.pointer (some ⟨a0b, a0o, none⟩)), (.string t63)] w16 fun (e64 : Ending) (w17 : World) => ∃ (t64 : Int), e64 = .returned (.int .i64 t64) ∧
                                      (J t64 w17)))) ∧
                                ((x13 == (0 : Int)) = false →
                                  (J x13 w8))) ∧
                              (∀ (x13_1 : Int), ∀ w18 : World, J x13_1 w18 →
                                (((x13_1 != (0 : Int)) = true →
                                    (∃ (t67 : Array Value), (Instr.build 63 #[]).run Tryz.prog w18 = .ok (.agg t67) w18 ∧
                                      (∃ w19 : World, (Instr.storeAt 63 (.pointer (some ⟨g9, 0, none⟩)) (.agg t67)).run Tryz.prog w18 = .ok () w19 ∧
                                        (∃ r9 : Value, (loadVar 63 ⟨g9, 0, none⟩).run Tryz.prog w19 = .ok r9 w19 ∧
                                          (R (.returned (.tuple #[(.slice none 0 0), r9, (.int .i64 x13_1)])) w19))))) ∧
                                  ((x13_1 != (0 : Int)) = false →
                                    (∃ (t75 : Array Value), (Instr.build 63 #[(0, (.int .i64 a2)), (1, (.int .i64 ((t21_0n : Nat) : Int))), (2, (.int .i64 ((a3n : Nat) : Int)))]).run Tryz.prog w18 = .ok (.agg t75) w18 ∧
                                      (∃ w20 : World, (Instr.storeAt 63 (.pointer (some ⟨g9, 0, none⟩)) (.agg t75)).run Tryz.prog w18 = .ok () w20 ∧
                                        (∃ r9 : Value, (loadVar 63 ⟨g9, 0, none⟩).run Tryz.prog w20 = .ok r9 w20 ∧
                                          (R (.returned (.tuple #[(.slice t21_1a t21_1n t21_1c), r9, (.int .i64 0)])) w20)))))))))))))))))))))) : Calls Tryz.prog 30 #[(.pointer (some ⟨a0b, a0o, none⟩)), (.agg a1), (.int .i64 a2), (.slice a3a a3n a3c)] w R :=
  calls_of_ev (args := [(.pointer (some ⟨a0b, a0o, none⟩)), (.agg a1), (.int .i64 a2), (.slice a3a a3n a3c)])
    (tc := .seq (.reg (.op .bx (.op .p (.op .bx (.op .p (.nil)))))) (.seq (.reg (.op (.ld (.agg)) (.op .p (.op .p (.op (.cl [.slice, .slice, .int .i64]) (.op .p (.op .p (.op .p (.op .p (.op .p (.op .p (.op .p (.nil))))))))))))) (.seq (.seq (.reg (.op .p (.op .p (.nil)))) (.cond (.seq (.reg (.op (.ld (.agg)) (.op .p (.op .p (.op .u (.op .p (.nil))))))) (.leaf)) (.leaf))) (.seq (.reg (.op (.ld (.agg)) (.op .p (.op .p (.op (.cl [.slice, .slice]) (.op .p (.op .p (.op .p (.op .p (.op .p (.nil))))))))))) (.seq (.reg (.op .p (.op .p (.op (.cl [.str]) (.op (.cl [.int .i64]) (.op .p (.nil))))))) (.seq (.seq (.reg (.op .p (.nil))) (.blk (.loop [13, 16, 40, 41, 42, 43, 44, 45, 46, 47, 48, 49, 50, 51, 52, 53, 54, 55, 56, 57, 58] [13, 16] [.int .i64, .int .i64] (.seq (.seq (.reg (.op .p (.op .p (.op .p (.op .p (.op .p (.ap 2 (.nil)))))))) (.cond (.leaf) (.leaf))) (.seq (.blk (.join [13, 50, 51, 52, 53, 54, 55, 56, 57, 58] [13] [.int .i64] (.drawS (.tk 0 .p (.tk 1 .p (.tk 3 .p (.tk 4 .p (.tk 5 .ix (.ts 6 (.slice) (.two 2 (.cl [.str]) (.go 7 (.r (.slice)) (.go 8 (.cl [.int .i64]) (.tk 9 .p (.nil)))) 7 (.r (.slice)) (.go 2 (.cl [.str]) (.go 8 (.cl [.int .i64]) (.tk 9 .p (.nil))))))))))) []))) (.reg (.op .p (.op .p (.op .p (.nil)))))))))) (.seq (.seq (.reg (.op .p (.op .p (.nil)))) (.join [13, 61, 62, 63, 64] [13] [.int .i64] (.cond (.reg (.op .p (.op .p (.op (.cl [.str]) (.op (.cl [.int .i64]) (.op .p (.nil))))))) (.leaf)))) (.seq (.seq (.reg (.op .p (.op .p (.nil)))) (.cond (.seq (.reg (.op (.ld (.agg)) (.op .p (.op .p (.op .u (.op .p (.nil))))))) (.leaf)) (.leaf))) (.seq (.reg (.op .p (.op .p (.op .p (.op .p (.op .p (.op .p (.op (.ld (.agg)) (.op .p (.op .u (.op .p (.nil)))))))))))) (.leaf))))))))))
    (by kernel_rfl) Tryz.func30 (by kernel_rfl) (by kernel_rfl) (by kernel_rfl) (by kernel_rfl) h

set_option maxRecDepth 100000 in
theorem amphoraref13_Same_vc (a0a : Option Addr) (a0n : Nat) (a0c : Nat) (a1a : Option Addr) (a1n : Nat) (a1c : Nat) (w : World) (R : Ending → World → Prop) (h :
  ((((a0n : Nat) : Int) != ((a1n : Nat) : Int)) = true →
    (R (.returned (.bool false)) w)) ∧
  ((((a0n : Nat) : Int) != ((a1n : Nat) : Int)) = false →
    (∃ (I : Int → World → Prop) (μ : Int → World → Nat), I 0 w ∧
      (∀ (x5 : Int), ∀ w1 : World, I x5 w1 →
        (((decide (x5 < ((a0n : Nat) : Int))) = true →
            (∃ S : World → Prop, S w1.drew ∧
              (∃ (t19b t19o : Nat), a0a = some ⟨t19b, t19o, none⟩ ∧ 0 ≤ x5 ∧ x5 < ((a0n : Nat) : Int) ∧
                (∃ (t23b t23o : Nat), a1a = some ⟨t23b, t23o, none⟩ ∧ 0 ≤ x5 ∧ x5 < ((a1n : Nat) : Int) ∧
                  (∃ (t20 : Array Value), (∀ w' : World, S w' → (Instr.loadAt 75 (.pointer (some ⟨t19b, t19o + Int.toNat x5 * 35, none⟩))).run Tryz.prog w' = .ok (.agg t20) w') ∧
                    (∃ (t24 : Array Value), (∀ w' : World, S w' → (Instr.loadAt 75 (.pointer (some ⟨t23b, t23o + Int.toNat x5 * 35, none⟩))).run Tryz.prog w' = .ok (.agg t24) w') ∧
                      (∃ (t25 : Bool), (∀ w' : World, S w' → (eqlS .neq 75 (.tmp 20) (.tmp 24) (.agg t20) (.agg t24)).run Tryz.prog w' = .ok (.bool t25) w') ∧
                        ((t25 = true →
                            (R (.returned (.bool false)) w1.drew)) ∧
                          (t25 = false →
                            (I (IntKind.wrap .i64 (x5 + (1 : Int))) w1.drew ∧ μ (IntKind.wrap .i64 (x5 + (1 : Int))) w1.drew < μ x5 w1)))))))))) ∧
          ((decide (x5 < ((a0n : Nat) : Int))) = false →
            (R (.returned (.bool true)) w1))))))) : Calls Tryz.prog 13 #[(.slice a0a a0n a0c), (.slice a1a a1n a1c)] w R :=
  calls_of_ev (args := [(.slice a0a a0n a0c), (.slice a1a a1n a1c)])
    (tc := .seq (.reg (.op .p (.nil))) (.seq (.seq (.reg (.op .p (.op .p (.op .p (.op .p (.op .p (.nil))))))) (.cond (.seq (.reg (.op .p (.nil))) (.leaf)) (.leaf))) (.seq (.seq (.reg (.op .p (.nil))) (.blk (.loop [4, 5, 11, 12, 13, 14, 15, 16, 17, 18, 19, 20, 21, 22, 23, 24, 25] [5] [.int .i64] (.seq (.seq (.reg (.op .p (.op .p (.op .p (.op .p (.nil)))))) (.cond (.leaf) (.leaf))) (.seq (.blk (.seq (.drawS (.tk 0 .p (.tk 1 .p (.tk 2 .ix (.tk 4 .p (.tk 5 .p (.tk 6 .ix (.ts 3 (.agg) (.ts 7 (.agg) (.ts 8 (.bool) (.nil)))))))))) []) (.cond (.seq (.reg (.op .p (.nil))) (.leaf)) (.leaf)))) (.reg (.op .p (.op .p (.op .p (.nil)))))))))) (.seq (.reg (.op .p (.nil))) (.leaf)))))
    (by kernel_rfl) Tryz.func13 (by kernel_rfl) (by kernel_rfl) (by kernel_rfl) (by kernel_rfl) h

set_option maxRecDepth 100000 in
theorem amphoranum_Decimal_vc (a0 : Int) (w : World) (R : Ending → World → Prop) (h :
  ((a0 == ((-9223372036854775808) : Int)) = true →
    (R (.returned (.string (ByteArray.mk #[45, 57, 50, 50, 51, 51, 55, 50, 48, 51, 54, 56, 53, 52, 55, 55, 53, 56, 48, 56]))) w)) ∧
  ((a0 == ((-9223372036854775808) : Int)) = false →
    (∃ J : Int → World → Prop, (((decide (a0 < (0 : Int))) = true →
          (J (IntKind.wrap .i64 (0 - a0)) w)) ∧
        ((decide (a0 < (0 : Int))) = false →
          (J a0 w))) ∧
      (∀ (x0 : Int), ∀ w1 : World, J x0 w1 →
        (∃ (I : Int → ByteArray → World → Prop) (μ : Int → ByteArray → World → Nat), I x0 (ByteArray.mk #[]) w1 ∧
          (∀ (x0_1 : Int) (x3 : ByteArray), ∀ w2 : World, I x0_1 x3 w2 →
            ((((x3.toList == (ByteArray.mk #[]).toList) || (decide (x0_1 > (0 : Int)))) = true →
                (∃ (t22a : Option Addr) (t22n : Nat) (t22c : Nat) (w3 : World), (Instr.buildSlice 33 1 #[(0, (.int .u8 (IntKind.wrap .u8 (IntKind.wrap .i64 ((48 : Int) + (Int.tmod x0_1 (10 : Int)))))))]).run Tryz.prog w2 = .ok (.slice t22a t22n t22c) w3 ∧
                  (∃ (t23 : ByteArray), (convert 33 9 (.slice t22a t22n t22c)).run Tryz.prog w3 = .ok (.string t23) w3 ∧
                    (∃ (t25 : ByteArray), (eqlS .add 9 (.tmp 23) (.tmp 24) (.string t23) (.string x3)).run Tryz.prog w3 = .ok (.string t25) w3 ∧
                      (I (IntKind.wrap .i64 (Int.tdiv x0_1 (10 : Int))) t25 w3 ∧ μ (IntKind.wrap .i64 (Int.tdiv x0_1 (10 : Int))) t25 w3 < μ x0_1 x3 w2))))) ∧
              (((x3.toList == (ByteArray.mk #[]).toList) || (decide (x0_1 > (0 : Int)))) = false →
                (((decide (a0 < (0 : Int))) = true →
                    (∃ (t30 : ByteArray), (eqlS .add 9 (.const (.string (ByteArray.mk #[45]))) (.tmp 29) (.string (ByteArray.mk #[45])) (.string x3)).run Tryz.prog w2 = .ok (.string t30) w2 ∧
                      (R (.returned (.string t30)) w2))) ∧
                  ((decide (a0 < (0 : Int))) = false →
                    (R (.returned (.string x3)) w2))))))))))) : Calls Tryz.prog 45 #[(.int .i64 a0)] w R :=
  calls_of_ev (args := [(.int .i64 a0)])
    (tc := .seq (.reg (.op .p (.nil))) (.seq (.seq (.reg (.op .p (.op .p (.nil)))) (.cond (.seq (.reg (.op .p (.nil))) (.leaf)) (.leaf))) (.seq (.reg (.op .p (.nil))) (.seq (.reg (.op .p (.op .p (.op .p (.nil))))) (.seq (.seq (.reg (.op .p (.nil))) (.join [0, 10, 11] [0] [.int .i64] (.cond (.reg (.op .p (.op .p (.op .p (.nil))))) (.leaf)))) (.seq (.blk (.loop [0, 3, 12, 13, 14, 15, 16, 17, 18, 19, 20, 21, 22, 23, 24, 25, 26, 27] [0, 3] [.int .i64, .str] (.seq (.seq (.reg (.op .p (.op .p (.op .p (.ap 2 (.nil)))))) (.cond (.leaf) (.leaf))) (.blk (.seq (.reg (.op .p (.op .p (.op .p (.op .p (.op (.r (.slice)) (.op (.ld (.str)) (.op .p (.op (.ld (.str)) (.op .p (.nil))))))))))) (.reg (.op .p (.op .p (.op .p (.nil)))))))))) (.seq (.seq (.reg (.op .p (.nil))) (.cond (.seq (.reg (.op .p (.op (.ld (.str)) (.op .p (.nil))))) (.leaf)) (.leaf))) (.seq (.reg (.op .p (.op .p (.nil)))) (.leaf)))))))))
    (by kernel_rfl) Tryz.func45 (by kernel_rfl) (by kernel_rfl) (by kernel_rfl) (by kernel_rfl) h

end Go.Proofs.YtmdandkoajocpaaGreatDoor
