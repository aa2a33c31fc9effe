/- Verification conditions of functions, printed by the session's own program vc.py: out of each, Calls (conditions: none). -/
import Derived.Test.YtmdandkoajocpaaGreatDoorRows
import Derived.Test.YtmdandkoajocpaaGreatDoorSxRun
namespace Go.Proofs.YtmdandkoajocpaaGreatDoor
open Go Go.Proofs.YtmdandkoajocpaaGreatDoor.Sx

set_option maxRecDepth 100000 in
theorem pack_Build_vc (a0 : Array Value) (a1 : Int) (a2a : Option Addr) (a2n : Nat) (a2c : Nat) (w : World) (R : Ending → World → Prop) (h :
  ∃ (g3 : Nat) (w1 : World), (Instr.box 28 (.agg a0)).run Tryz.prog w = .ok (.pointer (some ⟨g3, 0, none⟩)) w1 ∧
  (∃ (t12 : Array Value), (Instr.loadAt 28 (.pointer (some ⟨g3, 0, none⟩))).run Tryz.prog w1 = .ok (.agg t12) w1 ∧
    (Calls Tryz.prog 39 #[(.agg t12), (.int .i64 a1), (.slice a2a a2n a2c)] w1 fun (e15 : Ending) (w2 : World) => ∃ (t15_0 : Value) (t15_1 : Value), e15 = .returned (.tuple #[t15_0, t15_1]) ∧
      (∃ (t19 : Bool), (eqlS .neq 36 (.tmp 18) (.const .nilIface) t15_1 .nilIface).run Tryz.prog w2 = .ok (.bool t19) w2 ∧
        ((t19 = true →
            (R (.returned (.tuple #[(.slice none 0 0), (.slice none 0 0), t15_1])) w2)) ∧
          (t19 = false →
            (∃ S : World → Prop, S w2.drew ∧
              (∃ (t22b t22o : Nat), t15_0 = .pointer (some ⟨t22b, t22o, none⟩) ∧
                (∃ (t28b t28o : Nat), t15_0 = .pointer (some ⟨t28b, t28o, none⟩) ∧
                  (∃ (t25a : Option Addr) (t25n : Nat) (t25c : Nat), (∀ w' : World, S w' → (Instr.loadAt 23 (.pointer (some ⟨t22b, t22o, none⟩))).run Tryz.prog w' = .ok (.slice t25a t25n t25c) w') ∧
                    (∃ (t30a : Option Addr) (t30n : Nat) (t30c : Nat), (∀ w' : World, S w' → (Instr.loadAt 34 (.pointer (some ⟨t28b, t28o + 3, none⟩))).run Tryz.prog w' = .ok (.slice t30a t30n t30c) w') ∧
                      (Calls Tryz.prog 40 #[(.slice t25a t25n t25c)] w2.drew fun (e26 : Ending) (w3 : World) => ∃ (t26a : Option Addr) (t26n : Nat) (t26c : Nat), e26 = .returned (.slice t26a t26n t26c) ∧
                        (∃ S_1 : World → Prop, (∀ w' : World, S_1 w' → S w') ∧ S_1 w3 ∧
                          (R (.returned (.tuple #[(.slice t26a t26n t26c), (.slice t30a t30n t30c), .nilIface])) w3)))))))))))))) : Calls Tryz.prog 11 #[(.agg a0), (.int .i64 a1), (.slice a2a a2n a2c)] w R :=
  calls_of_ev (args := [(.agg a0), (.int .i64 a1), (.slice a2a a2n a2c)])
    (tc := .seq (.reg (.op .bx (.op .p (.op .p (.op .p (.nil)))))) (.seq (.reg (.op (.ld (.agg)) (.op .p (.op .p (.op (.cl [.val, .val]) (.op .p (.op .p (.op .p (.op .p (.op .p (.nil))))))))))) (.seq (.seq (.reg (.op .p (.op (.ld (.bool)) (.nil)))) (.cond (.seq (.reg (.op .p (.op .p (.op .p (.op .p (.nil)))))) (.leaf)) (.leaf))) (.seq (.drawS (.tk 0 .p (.tk 1 .nc (.tk 2 .p (.tk 3 .p (.tk 6 .p (.tk 7 .nc (.tk 8 .p (.ts 4 (.slice) (.ts 9 (.slice) (.go 5 (.cl [.slice]) (.tk 10 .p (.tk 11 .p (.tk 12 .p (.nil)))))))))))))) []) (.leaf)))))
    (by kernel_rfl) Tryz.func11 (by kernel_rfl) (by kernel_rfl) (by kernel_rfl) (by kernel_rfl) h

set_option maxRecDepth 100000 in
theorem pack_made_vc (a0 : Array Value) (a1 : Int) (a2a : Option Addr) (a2n : Nat) (a2c : Nat) (w : World) (R : Ending → World → Prop) (h :
  ∃ (g3 : Nat) (w1 : World), (Instr.box 28 (.agg a0)).run Tryz.prog w = .ok (.pointer (some ⟨g3, 0, none⟩)) w1 ∧
  (Calls Tryz.prog 43 #[(.int .i64 a1)] w1 fun (e14 : Ending) (w2 : World) => ∃ (t14 : Bool), e14 = .returned (.bool t14) ∧
    (((!t14) = true →
        (R (.returned (.tuple #[(.pointer none), (.iface 69 (.int .i64 28))])) w2)) ∧
      ((!t14) = false →
        (∃ (I : Int → World → Prop) (μ : Int → World → Nat), I 0 w2 ∧
          (∀ (x19 : Int), ∀ w3 : World, I x19 w3 →
            (((decide (x19 < ((a2n : Nat) : Int))) = true →
                (∃ (t21b t21o : Nat), a2a = some ⟨t21b, t21o, none⟩ ∧ 0 ≤ x19 ∧ x19 < ((a2n : Nat) : Int) ∧
                  (∃ (t22 : Array Value), (Instr.loadAt 46 (.pointer (some ⟨t21b, t21o + Int.toNat x19 * 33, none⟩))).run Tryz.prog w3 = .ok (.agg t22) w3 ∧
                    (∃ (g9 : Nat) (w4 : World), (Instr.alloc 46 true (.tuple #[])).run Tryz.prog w3 = .ok (.pointer (some ⟨g9, 0, none⟩)) w4 ∧
                      (∃ w5 : World, (Instr.storeAt 46 (.pointer (some ⟨g9, 0, none⟩)) (.agg t22)).run Tryz.prog w4 = .ok () w5 ∧
                        (∃ (t24a : Option Addr) (t24n : Nat) (t24c : Nat), (Instr.loadAt 33 (.pointer (some ⟨g9, 32, none⟩))).run Tryz.prog w5 = .ok (.slice t24a t24n t24c) w5 ∧
                          (((decide (((t24n : Nat) : Int) > (67108832 : Int))) = true →
                              (R (.returned (.tuple #[(.pointer none), (.iface 69 (.int .i64 7))])) w5)) ∧
                            ((decide (((t24n : Nat) : Int) > (67108832 : Int))) = false →
                              (I (IntKind.wrap .i64 (x19 + (1 : Int))) w5 ∧ μ (IntKind.wrap .i64 (x19 + (1 : Int))) w5 < μ x19 w3))))))))) ∧
              ((decide (x19 < ((a2n : Nat) : Int))) = false →
                (Calls Tryz.prog 70 #[(.int .i64 a1)] w3 fun (e30 : Ending) (w6 : World) => ∃ (t30b : Nat) (t30o : Nat), e30 = .returned (.pointer (some ⟨t30b, t30o, none⟩)) ∧
                  (∃ (I_1 : Int → World → Prop) (μ_1 : Int → World → Nat), I_1 0 w6 ∧
                    (∀ (x33 : Int), ∀ w7 : World, I_1 x33 w7 →
                      (((decide (x33 < ((a2n : Nat) : Int))) = true →
                          (∃ (t35b t35o : Nat), a2a = some ⟨t35b, t35o, none⟩ ∧ 0 ≤ x33 ∧ x33 < ((a2n : Nat) : Int) ∧
                            (∃ (t36 : Array Value), (Instr.loadAt 46 (.pointer (some ⟨t35b, t35o + Int.toNat x33 * 33, none⟩))).run Tryz.prog w7 = .ok (.agg t36) w7 ∧
                              (∃ (g12 : Nat) (w8 : World), (Instr.alloc 46 true (.tuple #[])).run Tryz.prog w7 = .ok (.pointer (some ⟨g12, 0, none⟩)) w8 ∧
                                (∃ w9 : World, (Instr.storeAt 46 (.pointer (some ⟨g12, 0, none⟩)) (.agg t36)).run Tryz.prog w8 = .ok () w9 ∧
                                  (∃ (t38 : Array Value), (Instr.loadAt 46 (.pointer (some ⟨g12, 0, none⟩))).run Tryz.prog w9 = .ok (.agg t38) w9 ∧
                                    (Calls Tryz.prog 71 #[(.pointer (some ⟨t30b, t30o, none⟩)), (.agg t38)] w9 fun (e39 : Ending) (w10 : World) => e39 = .returned (.tuple #[]) ∧
                                      (I_1 (IntKind.wrap .i64 (x33 + (1 : Int))) w10 ∧ μ_1 (IntKind.wrap .i64 (x33 + (1 : Int))) w10 < μ_1 x33 w7)))))))) ∧
                        ((decide (x33 < ((a2n : Nat) : Int))) = false →
                          (∃ (t42 : Array Value), (Instr.loadAt 28 (.pointer (some ⟨g3, 0, none⟩))).run Tryz.prog w7 = .ok (.agg t42) w7 ∧
                            (Calls Tryz.prog 72 #[(.pointer (some ⟨t30b, t30o, none⟩)), (.agg t42)] w7 fun (e43 : Ending) (w11 : World) => e43 = .returned (.tuple #[]) ∧
                              (R (.returned (.tuple #[(.pointer (some ⟨t30b, t30o, none⟩)), .nilIface])) w11)))))))))))))))) : Calls Tryz.prog 39 #[(.agg a0), (.int .i64 a1), (.slice a2a a2n a2c)] w R :=
  calls_of_ev (args := [(.agg a0), (.int .i64 a1), (.slice a2a a2n a2c)])
    (tc := .seq (.reg (.op .bx (.op .p (.op .p (.nil))))) (.seq (.seq (.reg (.op .p (.op (.cl [.bool]) (.op .p (.nil))))) (.cond (.seq (.reg (.op .p (.op .p (.op .p (.nil))))) (.leaf)) (.leaf))) (.seq (.seq (.reg (.op .p (.op .p (.op .p (.nil))))) (.blk (.loop [6, 7, 9, 19, 20, 21, 22, 23, 24, 25, 26, 27, 28] [19] [.int .i64] (.seq (.reg (.op .p (.nil))) (.seq (.cond (.leaf) (.leaf)) (.seq (.blk (.seq (.reg (.op .ix (.op (.ld (.agg)) (.op .bx (.op .u (.nil)))))) (.seq (.reg (.op .p (.op (.ld (.slice)) (.op .p (.op .p (.nil)))))) (.cond (.seq (.reg (.op .p (.op .p (.op .p (.nil))))) (.leaf)) (.leaf))))) (.reg (.op .p (.op .p (.nil)))))))))) (.seq (.reg (.op .p (.op (.cl [.ptr]) (.op .p (.nil))))) (.seq (.seq (.reg (.op .p (.op .p (.op .p (.nil))))) (.blk (.loop [12, 33, 34, 35, 36, 37, 38, 39, 40] [33] [.int .i64] (.seq (.reg (.op .p (.nil))) (.seq (.cond (.leaf) (.leaf)) (.seq (.blk (.seq (.reg (.op .ix (.op (.ld (.agg)) (.op .bx (.op .u (.nil)))))) (.reg (.op .p (.op (.ld (.agg)) (.op (.cl []) (.nil))))))) (.reg (.op .p (.op .p (.nil)))))))))) (.seq (.reg (.op .p (.op (.ld (.agg)) (.op (.cl []) (.nil))))) (.seq (.reg (.op .p (.op .p (.op .p (.nil))))) (.leaf))))))))
    (by kernel_rfl) Tryz.func39 (by kernel_rfl) (by kernel_rfl) (by kernel_rfl) (by kernel_rfl) h

set_option maxRecDepth 100000 in
theorem pack_begin_vc (a0 : Int) (w : World) (R : Ending → World → Prop) (h :
  ∃ (t5 : Array Value), (Instr.build 105 #[(1, (.int .i64 a0))]).run Tryz.prog w = .ok (.agg t5) w ∧
  (∃ (g6 : Nat) (w1 : World), (Instr.box 105 (.agg t5)).run Tryz.prog w = .ok (.pointer (some ⟨g6, 0, none⟩)) w1 ∧
    (∃ J : World → Prop, ((∃ (t10a : Option Addr) (t10n : Nat) (t10c : Nat) (w2 : World), (Instr.buildSlice 33 8 #[(0, (.int .u8 97)), (1, (.int .u8 109)), (2, (.int .u8 112)), (3, (.int .u8 104)), (4, (.int .u8 112)), (5, (.int .u8 97)), (6, (.int .u8 99)), (7, (.int .u8 107))]).run Tryz.prog w1.drew = .ok (.slice t10a t10n t10c) w2 ∧
          ((∃ (t11a : Option Addr) (t11n : Nat) (t11c : Nat) (w3 : World), (convert 33 33 (.slice t10a t10n t10c)).run Tryz.prog w2 = .ok (.slice t11a t11n t11c) w3 ∧
              (Calls Tryz.prog 58 #[(.int .i64 a0)] w3 fun (e13 : Ending) (w4 : World) => ∃ (t13a : Option Addr) (t13n : Nat) (t13c : Nat), e13 = .returned (.slice t13a t13n t13c) ∧
                (∃ (t14a : Option Addr) (t14n : Nat) (t14c : Nat) (w5 : World), (Builtin.append_ #[33, 33] 33 #[(.slice t11a t11n t11c), (.slice t13a t13n t13c)]).run Tryz.prog w4 = .ok (.slice t14a t14n t14c) w5 ∧
                  (Calls Tryz.prog 102 #[(.pointer (some ⟨g6, 0, none⟩)), (.slice t14a t14n t14c)] w5 fun (e15 : Ending) (w6 : World) => e15 = .returned (.tuple #[]) ∧
                    (J  w6))))) ∧
            (Calls Tryz.prog 58 #[(.int .i64 a0)] w2 fun (e13 : Ending) (w7 : World) => ∃ (t13a : Option Addr) (t13n : Nat) (t13c : Nat), e13 = .returned (.slice t13a t13n t13c) ∧
              (∃ (t11a : Option Addr) (t11n : Nat) (t11c : Nat) (w8 : World), (convert 33 33 (.slice t10a t10n t10c)).run Tryz.prog w7 = .ok (.slice t11a t11n t11c) w8 ∧
                (∃ (t14a : Option Addr) (t14n : Nat) (t14c : Nat) (w9 : World), (Builtin.append_ #[33, 33] 33 #[(.slice t11a t11n t11c), (.slice t13a t13n t13c)]).run Tryz.prog w8 = .ok (.slice t14a t14n t14c) w9 ∧
                  (Calls Tryz.prog 102 #[(.pointer (some ⟨g6, 0, none⟩)), (.slice t14a t14n t14c)] w9 fun (e15 : Ending) (w10 : World) => e15 = .returned (.tuple #[]) ∧
                    (J  w10))))))) ∧
        (Calls Tryz.prog 58 #[(.int .i64 a0)] w1.drew fun (e13 : Ending) (w11 : World) => ∃ (t13a : Option Addr) (t13n : Nat) (t13c : Nat), e13 = .returned (.slice t13a t13n t13c) ∧
          (∃ (t10a : Option Addr) (t10n : Nat) (t10c : Nat) (w12 : World), (Instr.buildSlice 33 8 #[(0, (.int .u8 97)), (1, (.int .u8 109)), (2, (.int .u8 112)), (3, (.int .u8 104)), (4, (.int .u8 112)), (5, (.int .u8 97)), (6, (.int .u8 99)), (7, (.int .u8 107))]).run Tryz.prog w11 = .ok (.slice t10a t10n t10c) w12 ∧
            (∃ (t11a : Option Addr) (t11n : Nat) (t11c : Nat) (w13 : World), (convert 33 33 (.slice t10a t10n t10c)).run Tryz.prog w12 = .ok (.slice t11a t11n t11c) w13 ∧
              (∃ (t14a : Option Addr) (t14n : Nat) (t14c : Nat) (w14 : World), (Builtin.append_ #[33, 33] 33 #[(.slice t11a t11n t11c), (.slice t13a t13n t13c)]).run Tryz.prog w13 = .ok (.slice t14a t14n t14c) w14 ∧
                (Calls Tryz.prog 102 #[(.pointer (some ⟨g6, 0, none⟩)), (.slice t14a t14n t14c)] w14 fun (e15 : Ending) (w15 : World) => e15 = .returned (.tuple #[]) ∧
                  (J  w15))))))) ∧
      (∀ w16 : World, J  w16 →
        (R (.returned (.pointer (some ⟨g6, 0, none⟩))) w16))))) : Calls Tryz.prog 70 #[(.int .i64 a0)] w R :=
  calls_of_ev (args := [(.int .i64 a0)])
    (tc := .seq (.reg (.op .p (.nil))) (.seq (.reg (.op .p (.op (.ld (.agg)) (.op .bx (.op .p (.nil)))))) (.seq (.join [7, 8, 9, 10, 11, 12, 13, 14, 15] [] [] (.draw (.tk 0 .p (.tk 1 .p (.tk 2 .p (.tk 5 .p (.two 3 (.r (.slice)) (.two 4 (.r (.slice)) (.go 6 (.cl [.slice]) (.go 7 (.r (.slice)) (.go 8 (.cl []) (.nil)))) 6 (.cl [.slice]) (.go 4 (.r (.slice)) (.go 7 (.r (.slice)) (.go 8 (.cl []) (.nil))))) 6 (.cl [.slice]) (.go 3 (.r (.slice)) (.go 4 (.r (.slice)) (.go 7 (.r (.slice)) (.go 8 (.cl []) (.nil)))))))))) [0, 1, 2, 3, 4, 5, 6, 7, 8])) (.seq (.reg (.op .p (.op .p (.nil)))) (.leaf)))))
    (by kernel_rfl) Tryz.func70 (by kernel_rfl) (by kernel_rfl) (by kernel_rfl) (by kernel_rfl) h

set_option maxRecDepth 100000 in
theorem pack_pieces_put_vc (a0b : Nat) (a0o : Nat) (a1a : Option Addr) (a1n : Nat) (a1c : Nat) (w : World) (R : Ending → World → Prop) (h :
  ∃ (t8a : Option Addr) (t8n : Nat) (t8c : Nat), (Instr.loadAt 23 (.pointer (some ⟨a0b, a0o, none⟩))).run Tryz.prog w = .ok (.slice t8a t8n t8c) w ∧
  (∃ (t10a : Option Addr) (t10n : Nat) (t10c : Nat) (w1 : World), (Instr.buildSlice 23 1 #[(0, (.slice a1a a1n a1c))]).run Tryz.prog w = .ok (.slice t10a t10n t10c) w1 ∧
    (∃ (t11a : Option Addr) (t11n : Nat) (t11c : Nat) (w2 : World), (Builtin.append_ #[23, 23] 23 #[(.slice t8a t8n t8c), (.slice t10a t10n t10c)]).run Tryz.prog w1 = .ok (.slice t11a t11n t11c) w2 ∧
      (∃ w3 : World, (Instr.storeAt 23 (.pointer (some ⟨a0b, a0o, none⟩)) (.slice t11a t11n t11c)).run Tryz.prog w2 = .ok () w3 ∧
        (∃ (t17 : Int), (Instr.loadAt 3 (.pointer (some ⟨a0b, a0o + 1, none⟩))).run Tryz.prog w3 = .ok (.int .i64 t17) w3 ∧
          (∃ w4 : World, (Instr.storeAt 3 (.pointer (some ⟨a0b, a0o + 1, none⟩)) (.int .i64 (IntKind.wrap .i64 (t17 + ((a1n : Nat) : Int))))).run Tryz.prog w3 = .ok () w4 ∧
            (R (.returned (.tuple #[])) w4))))))) : Calls Tryz.prog 102 #[(.pointer (some ⟨a0b, a0o, none⟩)), (.slice a1a a1n a1c)] w R :=
  calls_of_ev (args := [(.pointer (some ⟨a0b, a0o, none⟩)), (.slice a1a a1n a1c)])
    (tc := .seq (.reg (.op .p (.op .p (.op .p (.op .p (.op (.ld (.slice)) (.op .p (.op (.r (.slice)) (.op (.r (.slice)) (.op .p (.op .p (.op .u (.nil))))))))))))) (.reg (.op .p (.op .p (.op .p (.op (.ld (.int .i64)) (.op .p (.op .p (.op .p (.op .p (.op .p (.op .u (.nil)))))))))))))
    (by kernel_rfl) Tryz.func102 (by kernel_rfl) (by kernel_rfl) (by kernel_rfl) (by kernel_rfl) h

set_option maxRecDepth 100000 in
theorem pack_file_item_vc (a0b : Nat) (a0o : Nat) (a1 : Array Value) (w : World) (R : Ending → World → Prop) (h :
  ∃ (g3 : Nat) (w1 : World), (Instr.box 46 (.agg a1)).run Tryz.prog w = .ok (.pointer (some ⟨g3, 0, none⟩)) w1 ∧
  (∃ S : World → Prop, S w1.drew ∧
    (0 ≤ ((32 : Nat) : Int) ∧ ((32 : Nat) : Int) ≤ ((32 : Nat) : Int) ∧
      (∃ (t9a : Option Addr) (t9n : Nat) (t9c : Nat), (∀ w' : World, S w' → (Instr.loadAt 33 (.pointer (some ⟨g3, 32, none⟩))).run Tryz.prog w' = .ok (.slice t9a t9n t9c) w') ∧
        (∃ (t10a : Option Addr) (t10n : Nat) (t10c : Nat) (w2 : World), (Instr.buildSlice 23 2 #[(0, (.slice (some ⟨g3, 0, none⟩) (32) 32)), (1, (.slice t9a t9n t9c))]).run Tryz.prog w1.drew = .ok (.slice t10a t10n t10c) w2 ∧
          (∃ S_1 : World → Prop, (∀ w' : World, S_1 w' → S w') ∧ S_1 w2 ∧
            (Calls Tryz.prog 103 #[(.int .u8 2), (.slice t10a t10n t10c)] w2 fun (e11 : Ending) (w3 : World) => ∃ (t11a : Option Addr) (t11n : Nat) (t11c : Nat), e11 = .returned (.slice t11a t11n t11c) ∧
              (∃ S_2 : World → Prop, (∀ w' : World, S_2 w' → S_1 w') ∧ S_2 w3 ∧
                (∃ S_3 : World → Prop, S_3 w3.drew ∧
                  (∃ (t16 : Int), (∀ w' : World, S_3 w' → (Instr.loadAt 3 (.pointer (some ⟨a0b, a0o + 1, none⟩))).run Tryz.prog w' = .ok (.int .i64 t16) w') ∧
                    (∃ (t21a : Option Addr) (t21n : Nat) (t21c : Nat), (∀ w' : World, S_3 w' → (Instr.loadAt 33 (.pointer (some ⟨g3, 32, none⟩))).run Tryz.prog w' = .ok (.slice t21a t21n t21c) w') ∧
                      (Calls Tryz.prog 102 #[(.pointer (some ⟨a0b, a0o, none⟩)), (.slice t11a t11n t11c)] w3.drew fun (e28 : Ending) (w4 : World) => e28 = .returned (.tuple #[]) ∧
                        (∃ S_4 : World → Prop, S_4 w4.drew ∧
                          (∃ (t33a : Option Addr) (t33n : Nat) (t33c : Nat), (∀ w' : World, S_4 w' → (Instr.loadAt 34 (.pointer (some ⟨a0b, a0o + 3, none⟩))).run Tryz.prog w' = .ok (.slice t33a t33n t33c) w') ∧
                            (∃ (t35 : Array Value), (∀ w' : World, S_4 w' → (Instr.loadAt 44 (.pointer (some ⟨g3, 0, none⟩))).run Tryz.prog w' = .ok (.agg t35) w') ∧
                              (∃ (t39 : Int), (∀ w' : World, S_4 w' → (Instr.loadAt 3 (.pointer (some ⟨a0b, a0o + 2, none⟩))).run Tryz.prog w' = .ok (.int .i64 t39) w') ∧
                                (∃ (t42a : Option Addr) (t42n : Nat) (t42c : Nat), (∀ w' : World, S_4 w' → (Instr.loadAt 33 (.pointer (some ⟨g3, 32, none⟩))).run Tryz.prog w' = .ok (.slice t42a t42n t42c) w') ∧
                                  (∃ (t44 : Array Value), (∀ w' : World, S_4 w' → (Instr.build 75 #[(0, (.agg t35)), (1, (.int .i64 t39)), (2, (.int .i64 (IntKind.wrap .i64 ((IntKind.wrap .i64 (t16 + ((t11n : Nat) : Int))) - ((t21n : Nat) : Int))))), (3, (.int .i64 ((t42n : Nat) : Int)))]).run Tryz.prog w' = .ok (.agg t44) w') ∧
                                    (∃ (t45a : Option Addr) (t45n : Nat) (t45c : Nat) (w5 : World), (Instr.buildSlice 34 1 #[(0, (.agg t44))]).run Tryz.prog w4.drew = .ok (.slice t45a t45n t45c) w5 ∧
                                      (∃ S_5 : World → Prop, (∀ w' : World, S_5 w' → S_4 w') ∧ S_5 w5 ∧
                                        (∃ (t46a : Option Addr) (t46n : Nat) (t46c : Nat) (w6 : World), (Builtin.append_ #[34, 34] 34 #[(.slice t33a t33n t33c), (.slice t45a t45n t45c)]).run Tryz.prog w5 = .ok (.slice t46a t46n t46c) w6 ∧
                                          (∃ S_6 : World → Prop, (∀ w' : World, S_6 w' → S_5 w') ∧ S_6 w6 ∧
                                            (∃ w7 : World, (Instr.storeAt 34 (.pointer (some ⟨a0b, a0o + 3, none⟩)) (.slice t46a t46n t46c)).run Tryz.prog w6 = .ok () w7 ∧
                                              (R (.returned (.tuple #[])) w7)))))))))))))))))))))))) : Calls Tryz.prog 71 #[(.pointer (some ⟨a0b, a0o, none⟩)), (.agg a1)] w R :=
  calls_of_ev (args := [(.pointer (some ⟨a0b, a0o, none⟩)), (.agg a1)])
    (tc := .seq (.reg (.op .bx (.nil))) (.seq (.drawS (.tk 0 .p (.tk 1 .sl (.tk 2 .p (.ts 3 (.slice) (.go 4 (.r (.slice)) (.go 5 (.cl [.slice]) (.tk 6 .p (.nil)))))))) []) (.seq (.drawS (.tk 0 .p (.tk 1 .p (.tk 2 .p (.tk 3 .p (.tk 5 .p (.tk 6 .p (.tk 8 .p (.ts 4 (.int .i64) (.tk 7 .p (.ts 9 (.slice) (.tk 10 .p (.tk 11 .p (.tk 12 .p (.nil)))))))))))))) []) (.seq (.reg (.op .p (.op .p (.op .p (.op .p (.op (.cl []) (.nil))))))) (.drawS (.tk 0 .p (.tk 1 .p (.tk 2 .p (.tk 3 .p (.tk 5 .p (.tk 7 .p (.tk 8 .p (.tk 9 .p (.tk 11 .p (.tk 12 .p (.ts 4 (.slice) (.ts 6 (.agg) (.ts 10 (.int .i64) (.ts 13 (.slice) (.tk 14 .p (.ts 15 (.agg) (.go 16 (.r (.slice)) (.go 17 (.r (.slice)) (.tk 18 .p (.tk 19 .p (.go 20 .u (.nil)))))))))))))))))))))) [20])))))
    (by kernel_rfl) Tryz.func71 (by kernel_rfl) (by kernel_rfl) (by kernel_rfl) (by kernel_rfl) h

set_option maxRecDepth 100000 in
theorem pack_file_foot_vc (a0b : Nat) (a0o : Nat) (a1 : Array Value) (w : World) (R : Ending → World → Prop) (h :
  ∃ (g3 : Nat) (w1 : World), (Instr.box 28 (.agg a1)).run Tryz.prog w = .ok (.pointer (some ⟨g3, 0, none⟩)) w1 ∧
  (∃ S : World → Prop, S w1.drew ∧
    (∃ (t7 : Array Value), (∀ w' : World, S w' → (Instr.loadAt 28 (.pointer (some ⟨g3, 0, none⟩))).run Tryz.prog w' = .ok (.agg t7) w') ∧
      (∃ (t11 : Int), (∀ w' : World, S w' → (Instr.loadAt 3 (.pointer (some ⟨a0b, a0o + 2, none⟩))).run Tryz.prog w' = .ok (.int .i64 t11) w') ∧
        (∃ (t16a : Option Addr) (t16n : Nat) (t16c : Nat), (∀ w' : World, S w' → (Instr.loadAt 34 (.pointer (some ⟨a0b, a0o + 3, none⟩))).run Tryz.prog w' = .ok (.slice t16a t16n t16c) w') ∧
          (Calls Tryz.prog 58 #[(.int .i64 t11)] w1.drew fun (e12 : Ending) (w2 : World) => ∃ (t12a : Option Addr) (t12n : Nat) (t12c : Nat), e12 = .returned (.slice t12a t12n t12c) ∧
            (∃ S_1 : World → Prop, (∀ w' : World, S_1 w' → S w') ∧ S_1 w2 ∧
              (Calls Tryz.prog 60 #[(.slice t16a t16n t16c)] w2 fun (e17 : Ending) (w3 : World) => ∃ (t17a : Option Addr) (t17n : Nat) (t17c : Nat), e17 = .returned (.slice t17a t17n t17c) ∧
                (∃ S_2 : World → Prop, (∀ w' : World, S_2 w' → S_1 w') ∧ S_2 w3 ∧
                  (Calls Tryz.prog 104 #[(.agg t7), (.int .u8 3), (.slice t12a t12n t12c), (.slice t17a t17n t17c)] w3 fun (e18 : Ending) (w4 : World) => ∃ (t18a : Option Addr) (t18n : Nat) (t18c : Nat), e18 = .returned (.slice t18a t18n t18c) ∧
                    (∃ S_3 : World → Prop, (∀ w' : World, S_3 w' → S_2 w') ∧ S_3 w4 ∧
                      (∃ (t19a : Option Addr) (t19n : Nat) (t19c : Nat) (w5 : World), (Instr.buildSlice 23 1 #[(0, (.slice t18a t18n t18c))]).run Tryz.prog w4 = .ok (.slice t19a t19n t19c) w5 ∧
                        (∃ S_4 : World → Prop, (∀ w' : World, S_4 w' → S_3 w') ∧ S_4 w5 ∧
                          (Calls Tryz.prog 103 #[(.int .u8 3), (.slice t19a t19n t19c)] w5 fun (e20 : Ending) (w6 : World) => ∃ (t20a : Option Addr) (t20n : Nat) (t20c : Nat), e20 = .returned (.slice t20a t20n t20c) ∧
                            (∃ S_5 : World → Prop, (∀ w' : World, S_5 w' → S_4 w') ∧ S_5 w6 ∧
                              (Calls Tryz.prog 102 #[(.pointer (some ⟨a0b, a0o, none⟩)), (.slice t20a t20n t20c)] w6 fun (e21 : Ending) (w7 : World) => e21 = .returned (.tuple #[]) ∧
                                (∃ S_6 : World → Prop, (∀ w' : World, S_6 w' → S_5 w') ∧ S_6 w7 ∧
                                  (R (.returned (.tuple #[])) w7)))))))))))))))))) : Calls Tryz.prog 72 #[(.pointer (some ⟨a0b, a0o, none⟩)), (.agg a1)] w R :=
  calls_of_ev (args := [(.pointer (some ⟨a0b, a0o, none⟩)), (.agg a1)])
    (tc := .seq (.reg (.op .bx (.nil))) (.drawS (.tk 0 .p (.tk 1 .p (.tk 2 .p (.tk 4 .p (.tk 5 .p (.tk 6 .p (.tk 9 .p (.tk 10 .p (.tk 11 .p (.ts 3 (.agg) (.ts 7 (.int .i64) (.ts 12 (.slice) (.go 8 (.cl [.slice]) (.go 13 (.cl [.slice]) (.go 14 (.cl [.slice]) (.go 15 (.r (.slice)) (.go 16 (.cl [.slice]) (.go 17 (.cl []) (.nil))))))))))))))))))) []))
    (by kernel_rfl) Tryz.func72 (by kernel_rfl) (by kernel_rfl) (by kernel_rfl) (by kernel_rfl) h

set_option maxRecDepth 100000 in
theorem pack_footPlain_vc (a0a : Option Addr) (a0n : Nat) (a0c : Nat) (w : World) (R : Ending → World → Prop) (h :
  ∃ (I : Option Addr → Nat → Nat → Int → World → Prop) (μ : Option Addr → Nat → Nat → Int → World → Nat), I none 0 0 0 w ∧
  (∀ (x3a : Option Addr) (x3n : Nat) (x3c : Nat) (x8 : Int), ∀ w1 : World, I x3a x3n x3c x8 w1 →
    (((decide (x8 < ((a0n : Nat) : Int))) = true →
        (∃ (t10b t10o : Nat), a0a = some ⟨t10b, t10o, none⟩ ∧ 0 ≤ x8 ∧ x8 < ((a0n : Nat) : Int) ∧
          (∃ (t11 : Array Value), (Instr.loadAt 75 (.pointer (some ⟨t10b, t10o + Int.toNat x8 * 35, none⟩))).run Tryz.prog w1 = .ok (.agg t11) w1 ∧
            (∃ (g5 : Nat) (w2 : World), (Instr.alloc 75 true (.tuple #[])).run Tryz.prog w1 = .ok (.pointer (some ⟨g5, 0, none⟩)) w2 ∧
              (∃ w3 : World, (Instr.storeAt 75 (.pointer (some ⟨g5, 0, none⟩)) (.agg t11)).run Tryz.prog w2 = .ok () w3 ∧
                (0 ≤ ((32 : Nat) : Int) ∧ ((32 : Nat) : Int) ≤ ((32 : Nat) : Int) ∧
                  (∃ (t15a : Option Addr) (t15n : Nat) (t15c : Nat) (w4 : World), (Builtin.append_ #[33, 33] 33 #[(.slice x3a x3n x3c), (.slice (some ⟨g5, 0, none⟩) (32) 32)]).run Tryz.prog w3 = .ok (.slice t15a t15n t15c) w4 ∧
                    (∃ (t18 : Int), (Instr.loadAt 3 (.pointer (some ⟨g5, 33, none⟩))).run Tryz.prog w4 = .ok (.int .i64 t18) w4 ∧
                      (Calls Tryz.prog 58 #[(.int .i64 t18)] w4 fun (e19 : Ending) (w5 : World) => ∃ (t19a : Option Addr) (t19n : Nat) (t19c : Nat), e19 = .returned (.slice t19a t19n t19c) ∧
                        (∃ (t20a : Option Addr) (t20n : Nat) (t20c : Nat) (w6 : World), (Builtin.append_ #[33, 33] 33 #[(.slice t15a t15n t15c), (.slice t19a t19n t19c)]).run Tryz.prog w5 = .ok (.slice t20a t20n t20c) w6 ∧
                          (∃ (t23 : Int), (Instr.loadAt 3 (.pointer (some ⟨g5, 34, none⟩))).run Tryz.prog w6 = .ok (.int .i64 t23) w6 ∧
                            (Calls Tryz.prog 58 #[(.int .i64 t23)] w6 fun (e24 : Ending) (w7 : World) => ∃ (t24a : Option Addr) (t24n : Nat) (t24c : Nat), e24 = .returned (.slice t24a t24n t24c) ∧
                              (∃ (t25a : Option Addr) (t25n : Nat) (t25c : Nat) (w8 : World), (Builtin.append_ #[33, 33] 33 #[(.slice t20a t20n t20c), (.slice t24a t24n t24c)]).run Tryz.prog w7 = .ok (.slice t25a t25n t25c) w8 ∧
                                (I t25a t25n t25c (IntKind.wrap .i64 (x8 + (1 : Int))) w8 ∧ μ t25a t25n t25c (IntKind.wrap .i64 (x8 + (1 : Int))) w8 < μ x3a x3n x3c x8 w1)))))))))))))) ∧
      ((decide (x8 < ((a0n : Nat) : Int))) = false →
        (R (.returned (.slice x3a x3n x3c)) w1))))) : Calls Tryz.prog 60 #[(.slice a0a a0n a0c)] w R :=
  calls_of_ev (args := [(.slice a0a a0n a0c)])
    (tc := .seq (.reg (.op .p (.nil))) (.seq (.reg (.op .p (.nil))) (.seq (.seq (.reg (.op .p (.op .p (.op .p (.nil))))) (.blk (.loop [3, 5, 8, 9, 10, 11, 12, 13, 14, 15, 16, 17, 18, 19, 20, 21, 22, 23, 24, 25, 26] [3, 8] [.slice, .int .i64] (.seq (.reg (.op .p (.nil))) (.seq (.cond (.leaf) (.leaf)) (.seq (.blk (.seq (.reg (.op .ix (.op (.ld (.agg)) (.op .bx (.op .u (.nil)))))) (.seq (.reg (.op .p (.op .p (.op .sl (.op (.r (.slice)) (.op .p (.nil))))))) (.seq (.reg (.op .p (.op .p (.op (.ld (.int .i64)) (.op (.cl [.slice]) (.op (.r (.slice)) (.op .p (.nil)))))))) (.reg (.op .p (.op .p (.op (.ld (.int .i64)) (.op (.cl [.slice]) (.op (.r (.slice)) (.op .p (.nil)))))))))))) (.reg (.op .p (.op .p (.nil)))))))))) (.seq (.reg (.op .p (.op .p (.nil)))) (.leaf)))))
    (by kernel_rfl) Tryz.func60 (by kernel_rfl) (by kernel_rfl) (by kernel_rfl) (by kernel_rfl) h

set_option maxRecDepth 100000 in
theorem pack_good_vc (a0 : Int) (w : World) (R : Ending → World → Prop) (h :
  R (.returned (.bool ((decide (a0 ≥ (0 : Int))) && (decide (a0 ≤ (1099511627776 : Int)))))) w) : Calls Tryz.prog 43 #[(.int .i64 a0)] w R :=
  calls_of_ev (args := [(.int .i64 a0)])
    (tc := .seq (.reg (.op .p (.nil))) (.seq (.reg (.op .p (.op .p (.op .p (.ap 2 (.op .p (.nil))))))) (.leaf)))
    (by kernel_rfl) Tryz.func43 (by kernel_rfl) (by kernel_rfl) (by kernel_rfl) (by kernel_rfl) h

set_option maxRecDepth 100000 in
theorem pack_head_vc (a0a : Option Addr) (a0n : Nat) (a0c : Nat) (w : World) (R : Ending → World → Prop) (h :
  ∃ J : Bool → World → Prop, (((decide (((a0n : Nat) : Int) < (16 : Int))) = true →
      (J true w)) ∧
    ((decide (((a0n : Nat) : Int) < (16 : Int))) = false →
      (0 ≤ (8 : Int) ∧ (8 : Int) ≤ ((a0c : Nat) : Int) ∧
        (∃ (t12 : ByteArray), (convert 33 9 (.slice a0a 8 a0c)).run Tryz.prog w = .ok (.string t12) w ∧
          (J (!(t12.toList == (ByteArray.mk #[97, 109, 112, 104, 112, 97, 99, 107]).toList)) w))))) ∧
  (∀ (x14 : Bool), ∀ w1 : World, J x14 w1 →
    ((x14 = true →
        (R (.returned (.tuple #[(.int .i64 0), (.bool false)])) w1)) ∧
      (x14 = false →
        (0 ≤ (8 : Int) ∧ (8 : Int) ≤ (16 : Int) ∧ (16 : Int) ≤ ((a0c : Nat) : Int) ∧ ∀ t17a : Option Addr, SubA 1 a0a 8 a0c t17a →
          (Calls Tryz.prog 87 #[(.slice t17a 8 (a0c - 8))] w1 fun (e18 : Ending) (w2 : World) => ∃ (t18_0 : Int) (t18_1 : Value), e18 = .returned (.tuple #[(.int .i64 t18_0), t18_1]) ∧
            (∃ (t23 : Bool), (eqlS .eql 36 (.tmp 22) (.const .nilIface) t18_1 .nilIface).run Tryz.prog w2 = .ok (.bool t23) w2 ∧
              ((t23 = true →
                  (Calls Tryz.prog 43 #[(.int .i64 t18_0)] w2 fun (e26 : Ending) (w3 : World) => ∃ (t26 : Bool), e26 = .returned (.bool t26) ∧
                    (R (.returned (.tuple #[(.int .i64 t18_0), (.bool t26)])) w3))) ∧
                (t23 = false →
                  (R (.returned (.tuple #[(.int .i64 t18_0), (.bool false)])) w2)))))))))) : Calls Tryz.prog 55 #[(.slice a0a a0n a0c)] w R :=
  calls_of_ev (args := [(.slice a0a a0n a0c)])
    (tc := .seq (.reg (.op .p (.op .p (.nil)))) (.seq (.seq (.join [6, 7, 8, 9, 10, 11, 12, 13, 14] [14] [.bool] (.reg (.op .p (.op .p (.op .p (.op .p (.sp 9 (.op .p (.op .p (.op .p (.op .p (.op .p (.nil)))))) (.op .p (.op .sl (.op (.ld (.str)) (.op .p (.op .p (.nil))))))))))))) (.cond (.seq (.reg (.op .p (.op .p (.nil)))) (.leaf)) (.leaf))) (.seq (.reg (.op .p (.op .sl (.op (.cl [.int .i64, .val]) (.op .p (.op .p (.op .p (.op .p (.op .p (.nil)))))))))) (.seq (.reg (.op .p (.op .p (.op (.ld (.bool)) (.op .p (.sp 24 (.op .p (.op (.cl [.bool]) (.op .p (.op .p (.op .p (.nil)))))) (.op .p (.op .p (.op .p (.op .p (.op .p (.nil)))))))))))) (.leaf)))))
    (by kernel_rfl) Tryz.func55 (by kernel_rfl) (by kernel_rfl) (by kernel_rfl) (by kernel_rfl) h

set_option maxRecDepth 100000 in
theorem pack_scanned_vc (a0 : Int) (a1a : Option Addr) (a1n : Nat) (a1c : Nat) (w : World) (R : Ending → World → Prop) (h :
  0 ≤ (16 : Int) ∧ (16 : Int) ≤ ((a1n : Nat) : Int) ∧ ((a1n : Nat) : Int) ≤ ((a1c : Nat) : Int) ∧ ∀ t13a : Option Addr, SubA 1 a1a 16 a1c t13a →
  (Calls Tryz.prog 88 #[(.slice t13a ((a1n) - 16) (a1c - 16))] w fun (e14 : Ending) (w1 : World) => ∃ (t14_0a : Option Addr) (t14_0n : Nat) (t14_0c : Nat) (t14_1 : Int), e14 = .returned (.tuple #[(.slice t14_0a t14_0n t14_0c), (.int .i64 t14_1)]) ∧
    (∃ (g8 : Nat) (w2 : World), (Instr.alloc 132 true (.tuple #[])).run Tryz.prog w1 = .ok (.pointer (some ⟨g8, 0, none⟩)) w2 ∧
      (∃ (g9 : Nat) (w3 : World), (Instr.alloc 3 true (.tuple #[])).run Tryz.prog w2 = .ok (.pointer (some ⟨g9, 0, none⟩)) w3 ∧
        (∃ w4 : World, (Instr.storeAt 132 (.pointer (some ⟨g8, 0, none⟩)) (.slice t14_0a t14_0n t14_0c)).run Tryz.prog w3 = .ok () w4 ∧
          (∃ w5 : World, (Instr.storeAt 3 (.pointer (some ⟨g9, 0, none⟩)) (.int .i64 t14_1)).run Tryz.prog w4 = .ok () w5 ∧
            (∃ (t17 : Value) (w6 : World), (Instr.makeFunc (.func 89) #[] #[(.pointer (some ⟨g8, 0, none⟩)), (.pointer (some ⟨g9, 0, none⟩))]).run Tryz.prog w5 = .ok t17 w6 ∧
              (∃ S : World → Prop, S w6.drew ∧
                (∃ (t18a : Option Addr) (t18n : Nat) (t18c : Nat), (∀ w' : World, S w' → (Instr.loadAt 132 (.pointer (some ⟨g8, 0, none⟩))).run Tryz.prog w' = .ok (.slice t18a t18n t18c) w') ∧
                  (∃ (t20a : Option Addr) (t20n : Nat) (t20c : Nat), (∀ w' : World, S w' → (Instr.loadAt 132 (.pointer (some ⟨g8, 0, none⟩))).run Tryz.prog w' = .ok (.slice t20a t20n t20c) w') ∧
                    (∃ (t24 : Int), (∀ w' : World, S w' → (Instr.loadAt 3 (.pointer (some ⟨g9, 0, none⟩))).run Tryz.prog w' = .ok (.int .i64 t24) w') ∧
                      (Calls Tryz.prog 90 #[(.int .i64 a0), (.slice t20a t20n t20c), t17] w6.drew fun (e22 : Ending) (w7 : World) => ∃ (t22a : Option Addr) (t22n : Nat) (t22c : Nat), e22 = .returned (.slice t22a t22n t22c) ∧
                        (∃ S_1 : World → Prop, (∀ w' : World, S_1 w' → S w') ∧ S_1 w7 ∧
                          (R (.returned (.tuple #[(.slice t18a t18n t18c), (.slice t22a t22n t22c), t17, (.int .i64 (IntKind.wrap .i64 ((16 : Int) + t24)))])) w7)))))))))))))) : Calls Tryz.prog 56 #[(.int .i64 a0), (.slice a1a a1n a1c)] w R :=
  calls_of_ev (args := [(.int .i64 a0), (.slice a1a a1n a1c)])
    (tc := .seq (.reg (.op .p (.op .p (.op .p (.op .p (.nil)))))) (.seq (.reg (.op .p (.op .sl (.op (.cl [.slice, .int .i64]) (.op .p (.op .p (.op .p (.op .bx (.op .bx (.op .u (.op .u (.nil)))))))))))) (.seq (.reg (.op (.r (.val)) (.op .p (.nil)))) (.seq (.drawS (.tk 1 .p (.tk 3 .p (.tk 5 .p (.ts 0 (.slice) (.ts 2 (.slice) (.ts 6 (.int .i64) (.tk 7 .p (.go 4 (.cl [.slice]) (.tk 8 .p (.tk 9 .p (.tk 10 .p (.tk 11 .p (.nil))))))))))))) []) (.leaf)))))
    (by kernel_rfl) Tryz.func56 (by kernel_rfl) (by kernel_rfl) (by kernel_rfl) (by kernel_rfl) h

set_option maxRecDepth 100000 in
theorem pack_scanned_1_vc (a0 : Int) (a1b : Nat) (a1o : Nat) (a2b : Nat) (a2o : Nat) (w : World) (R : Ending → World → Prop) (h :
  ∃ (t7a : Option Addr) (t7n : Nat) (t7c : Nat), (Instr.loadAt 132 (.pointer (some ⟨a1b, a1o, none⟩))).run Tryz.prog w = .ok (.slice t7a t7n t7c) w ∧
  (((decide ((IntKind.wrap .i64 (a0 + (1 : Int))) < ((t7n : Nat) : Int))) = true →
      (∃ (t10a : Option Addr) (t10n : Nat) (t10c : Nat), (Instr.loadAt 132 (.pointer (some ⟨a1b, a1o, none⟩))).run Tryz.prog w = .ok (.slice t10a t10n t10c) w ∧
        (∃ (t13b t13o : Nat), t10a = some ⟨t13b, t13o, none⟩ ∧ 0 ≤ (IntKind.wrap .i64 (a0 + (1 : Int))) ∧ (IntKind.wrap .i64 (a0 + (1 : Int))) < ((t10n : Nat) : Int) ∧
          (∃ (t15 : Int), (Instr.loadAt 3 (.pointer (some ⟨t13b, t13o + Int.toNat (IntKind.wrap .i64 (a0 + (1 : Int))) * 3 + 2, none⟩))).run Tryz.prog w = .ok (.int .i64 t15) w ∧
            (R (.returned (.int .i64 (IntKind.wrap .i64 ((16 : Int) + t15)))) w))))) ∧
    ((decide ((IntKind.wrap .i64 (a0 + (1 : Int))) < ((t7n : Nat) : Int))) = false →
      (∃ (t17 : Int), (Instr.loadAt 3 (.pointer (some ⟨a2b, a2o, none⟩))).run Tryz.prog w = .ok (.int .i64 t17) w ∧
        (R (.returned (.int .i64 (IntKind.wrap .i64 ((16 : Int) + t17)))) w))))) : Calls Tryz.prog 89 #[(.int .i64 a0), (.pointer (some ⟨a1b, a1o, none⟩)), (.pointer (some ⟨a2b, a2o, none⟩))] w R :=
  calls_of_ev (args := [(.int .i64 a0), (.pointer (some ⟨a1b, a1o, none⟩)), (.pointer (some ⟨a2b, a2o, none⟩))])
    (tc := .seq (.reg (.op .p (.nil))) (.seq (.seq (.reg (.op .p (.op .p (.op (.ld (.slice)) (.op .p (.op .p (.nil))))))) (.cond (.seq (.reg (.op (.ld (.slice)) (.op .p (.op .p (.op .ix (.op .p (.op (.ld (.int .i64)) (.op .p (.op .p (.nil)))))))))) (.leaf)) (.leaf))) (.seq (.reg (.op (.ld (.int .i64)) (.op .p (.op .p (.nil))))) (.leaf))))
    (by kernel_rfl) Tryz.func89 (by kernel_rfl) (by kernel_rfl) (by kernel_rfl) (by kernel_rfl) h

set_option maxRecDepth 100000 in
theorem pack_refs_vc (a0 : Int) (a1a : Option Addr) (a1n : Nat) (a1c : Nat) (a2 : Value) (w : World) (R : Ending → World → Prop) (h :
  ∃ (I : Option Addr → Nat → Nat → Int → World → Prop) (μ : Option Addr → Nat → Nat → Int → World → Nat), I none 0 0 0 w ∧
  (∀ (x7a : Option Addr) (x7n : Nat) (x7c : Nat) (x13 : Int), ∀ w1 : World, I x7a x7n x7c x13 w1 →
    (((decide (x13 < ((a1n : Nat) : Int))) = true →
        (∃ (t16b t16o : Nat), a1a = some ⟨t16b, t16o, none⟩ ∧ 0 ≤ x13 ∧ x13 < ((a1n : Nat) : Int) ∧
          (∃ (t17 : Array Value), (Instr.loadAt 137 (.pointer (some ⟨t16b, t16o + Int.toNat x13 * 3, none⟩))).run Tryz.prog w1 = .ok (.agg t17) w1 ∧
            (∃ (g9 : Nat) (w2 : World), (Instr.alloc 137 true (.tuple #[])).run Tryz.prog w1 = .ok (.pointer (some ⟨g9, 0, none⟩)) w2 ∧
              (∃ w3 : World, (Instr.storeAt 137 (.pointer (some ⟨g9, 0, none⟩)) (.agg t17)).run Tryz.prog w2 = .ok () w3 ∧
                (∃ J : Bool → World → Prop, (∃ (t19 : Int), (Instr.loadAt 3 (.pointer (some ⟨g9, 0, none⟩))).run Tryz.prog w3 = .ok (.int .i64 t19) w3 ∧
                    (((t19 != (2 : Int)) = true →
                        (J true w3)) ∧
                      ((t19 != (2 : Int)) = false →
                        (∃ (t23a : Option Addr) (t23n : Nat) (t23c : Nat), (Instr.loadAt 33 (.pointer (some ⟨g9, 1, none⟩))).run Tryz.prog w3 = .ok (.slice t23a t23n t23c) w3 ∧
                          (J (decide (((t23n : Nat) : Int) < (32 : Int))) w3))))) ∧
                  (∀ (x26 : Bool), ∀ w4 : World, J x26 w4 →
                    ((x26 = true →
                        (R (.returned (.slice x7a x7n x7c)) w4)) ∧
                      (x26 = false →
                        (∃ (t28a : Option Addr) (t28n : Nat) (t28c : Nat), (Instr.loadAt 33 (.pointer (some ⟨g9, 1, none⟩))).run Tryz.prog w4 = .ok (.slice t28a t28n t28c) w4 ∧
                          (∃ S : World → Prop, S w4.drew ∧
                            (∃ (t33a : Option Addr) (t33n : Nat) (t33c : Nat), (∀ w' : World, S w' → (Instr.loadAt 33 (.pointer (some ⟨g9, 1, none⟩))).run Tryz.prog w' = .ok (.slice t33a t33n t33c) w') ∧
                              (0 ≤ (32 : Int) ∧ (32 : Int) ≤ ((t33c : Nat) : Int) ∧
                                (∃ (t35 : Value), (∀ w' : World, S w' → (Instr.arrayAt 44 (.slice t33a 32 t33c)).run Tryz.prog w' = .ok t35 w') ∧
                                  (∃ (t36 : Array Value), (∀ w' : World, S w' → (Instr.loadAt 44 t35).run Tryz.prog w' = .ok (.agg t36) w') ∧
                                    (∃ (f40 : Nat) (cb40 : List Value), a2 = .func (.func f40) #[] ⟨cb40⟩ ∧ goesIn Tryz.prog f40 = true ∧
                                      Calls Tryz.prog f40 (([(.int .i64 x13)] : List Value) ++ cb40).toArray w4.drew fun (e40 : Ending) (w5 : World) => ∃ (t40 : Int), e40 = .returned (.int .i64 t40) ∧
                                      (∃ S_1 : World → Prop, (∀ w' : World, S_1 w' → S w') ∧ S_1 w5 ∧
                                        (∃ (t44 : Array Value), (∀ w' : World, S_1 w' → (Instr.build 75 #[(0, (.agg t36)), (1, (.int .i64 a0)), (2, (.int .i64 (IntKind.wrap .i64 (t40 - (IntKind.wrap .i64 (((t28n : Nat) : Int) - (32 : Int))))))), (3, (.int .i64 (IntKind.wrap .i64 (((t28n : Nat) : Int) - (32 : Int)))))]).run Tryz.prog w' = .ok (.agg t44) w') ∧
                                          (∃ (t45a : Option Addr) (t45n : Nat) (t45c : Nat) (w6 : World), (Instr.buildSlice 34 1 #[(0, (.agg t44))]).run Tryz.prog w5 = .ok (.slice t45a t45n t45c) w6 ∧
                                            (∃ S_2 : World → Prop, (∀ w' : World, S_2 w' → S_1 w') ∧ S_2 w6 ∧
                                              (∃ (t46a : Option Addr) (t46n : Nat) (t46c : Nat) (w7 : World), (Builtin.append_ #[34, 34] 34 #[(.slice x7a x7n x7c), (.slice t45a t45n t45c)]).run Tryz.prog w6 = .ok (.slice t46a t46n t46c) w7 ∧
                                                (∃ S_3 : World → Prop, (∀ w' : World, S_3 w' → S_2 w') ∧ S_3 w7 ∧
                                                  (I t46a t46n t46c (IntKind.wrap .i64 (x13 + (1 : Int))) w7 ∧ μ t46a t46n t46c (IntKind.wrap .i64 (x13 + (1 : Int))) w7 < μ x7a x7n x7c x13 w1))))))))))))))))))))))) ∧
      ((decide (x13 < ((a1n : Nat) : Int))) = false →
        (R (.returned (.slice x7a x7n x7c)) w1))))) : Calls Tryz.prog 90 #[(.int .i64 a0), (.slice a1a a1n a1c), a2] w R :=
  calls_of_ev (args := [(.int .i64 a0), (.slice a1a a1n a1c), a2])
    (tc := .seq (.reg (.op .p (.nil))) (.seq (.reg (.op .p (.nil))) (.seq (.seq (.reg (.op .p (.op .p (.op .p (.nil))))) (.blk (.loop [7, 8, 9, 10, 13, 14, 15, 16, 17, 18, 19, 20, 21, 22, 23, 24, 25, 26, 27, 28, 29, 30, 31, 32, 33, 34, 35, 36, 37, 38, 39, 40, 41, 42, 43, 44, 45, 46, 47] [7, 13] [.slice, .int .i64] (.seq (.reg (.op .p (.nil))) (.seq (.cond (.leaf) (.leaf)) (.seq (.blk (.seq (.reg (.op .p (.op .ix (.op (.ld (.agg)) (.op .bx (.op .p (.op .u (.nil)))))))) (.seq (.seq (.join [18, 19, 20, 21, 22, 23, 24, 25, 26] [26] [.bool] (.reg (.op .p (.op (.ld (.int .i64)) (.op .p (.op .p (.sp 21 (.op .p (.op .p (.op .p (.op .p (.op .p (.nil)))))) (.op .p (.op (.ld (.slice)) (.op .p (.op .p (.op .p (.nil))))))))))))) (.cond (.leaf) (.leaf))) (.seq (.reg (.op .p (.op (.ld (.slice)) (.op .p (.op .p (.op .p (.nil))))))) (.drawS (.tk 0 .p (.tk 1 .p (.tk 6 .p (.tk 7 .p (.tk 8 .p (.tk 10 .p (.tk 12 .p (.ts 2 (.slice) (.tk 3 .sl (.ts 4 (.val) (.ts 5 (.agg) (.go 9 (.cv [.int .i64]) (.tk 11 .p (.ts 13 (.agg) (.go 14 (.r (.slice)) (.go 15 (.r (.slice)) (.tk 16 .p (.nil)))))))))))))))))) []))))) (.reg (.op .p (.op .p (.nil)))))))))) (.seq (.reg (.op .p (.op .p (.nil)))) (.leaf)))))
    (by kernel_rfl) Tryz.func90 (by kernel_rfl) (by kernel_rfl) (by kernel_rfl) (by kernel_rfl) h

set_option maxRecDepth 100000 in
theorem pack_Open_vc (a0 : Array Value) (a1 : Int) (a2a : Option Addr) (a2n : Nat) (a2c : Nat) (w : World) (R : Ending → World → Prop) (h :
  ∃ (g3 : Nat) (w1 : World), (Instr.box 28 (.agg a0)).run Tryz.prog w = .ok (.pointer (some ⟨g3, 0, none⟩)) w1 ∧
  (Calls Tryz.prog 43 #[(.int .i64 a1)] w1 fun (e17 : Ending) (w2 : World) => ∃ (t17 : Bool), e17 = .returned (.bool t17) ∧
    (((!t17) = true →
        (R (.returned (.tuple #[(.slice none 0 0), (.iface 69 (.int .i64 28))])) w2)) ∧
      ((!t17) = false →
        (Calls Tryz.prog 55 #[(.slice a2a a2n a2c)] w2 fun (e22 : Ending) (w3 : World) => ∃ (t22_0 : Int) (t22_1 : Bool), e22 = .returned (.tuple #[(.int .i64 t22_0), (.bool t22_1)]) ∧
          ((((!t22_1) || (t22_0 != a1)) = true →
              (R (.returned (.tuple #[(.slice none 0 0), (.iface 69 (.int .i64 17))])) w3)) ∧
            (((!t22_1) || (t22_0 != a1)) = false →
              (Calls Tryz.prog 56 #[(.int .i64 a1), (.slice a2a a2n a2c)] w3 fun (e36 : Ending) (w4 : World) => ∃ (t36_0a : Option Addr) (t36_0n : Nat) (t36_0c : Nat) (t36_1a : Option Addr) (t36_1n : Nat) (t36_1c : Nat) (t36_2 : Value) (t36_3 : Int), e36 = .returned (.tuple #[(.slice t36_0a t36_0n t36_0c), (.slice t36_1a t36_1n t36_1c), t36_2, (.int .i64 t36_3)]) ∧
                (∃ J : Bool → World → Prop, ((((t36_3 != ((a2n : Nat) : Int)) || (((t36_0n : Nat) : Int) != (IntKind.wrap .i64 (((t36_1n : Nat) : Int) + (1 : Int))))) = true →
                      (J true w4)) ∧
                    (((t36_3 != ((a2n : Nat) : Int)) || (((t36_0n : Nat) : Int) != (IntKind.wrap .i64 (((t36_1n : Nat) : Int) + (1 : Int))))) = false →
                      (∃ (t57b t57o : Nat), t36_0a = some ⟨t57b, t57o, none⟩ ∧ 0 ≤ ((t36_1n : Nat) : Int) ∧ ((t36_1n : Nat) : Int) < ((t36_0n : Nat) : Int) ∧
                        (∃ (t59 : Int), (Instr.loadAt 3 (.pointer (some ⟨t57b, t57o + Int.toNat ((t36_1n : Nat) : Int) * 3, none⟩))).run Tryz.prog w4 = .ok (.int .i64 t59) w4 ∧
                          (J (t59 != (3 : Int)) w4))))) ∧
                  (∀ (x61 : Bool), ∀ w5 : World, J x61 w5 →
                    ((x61 = true →
                        (R (.returned (.tuple #[(.slice none 0 0), (.iface 69 (.int .i64 17))])) w5)) ∧
                      (x61 = false →
                        (∃ S : World → Prop, S w5.drew ∧
                          (∃ (t70b t70o : Nat), t36_0a = some ⟨t70b, t70o, none⟩ ∧ 0 ≤ ((t36_1n : Nat) : Int) ∧ ((t36_1n : Nat) : Int) < ((t36_0n : Nat) : Int) ∧
                            (∃ (t64 : Array Value), (∀ w' : World, S w' → (Instr.loadAt 28 (.pointer (some ⟨g3, 0, none⟩))).run Tryz.prog w' = .ok (.agg t64) w') ∧
                              (∃ (t72a : Option Addr) (t72n : Nat) (t72c : Nat), (∀ w' : World, S w' → (Instr.loadAt 33 (.pointer (some ⟨t70b, t70o + Int.toNat ((t36_1n : Nat) : Int) * 3 + 1, none⟩))).run Tryz.prog w' = .ok (.slice t72a t72n t72c) w') ∧
                                (Calls Tryz.prog 58 #[(.int .i64 a1)] w5.drew fun (e66 : Ending) (w6 : World) => ∃ (t66a : Option Addr) (t66n : Nat) (t66c : Nat), e66 = .returned (.slice t66a t66n t66c) ∧
                                  (∃ S_1 : World → Prop, (∀ w' : World, S_1 w' → S w') ∧ S_1 w6 ∧
                                    (Calls Tryz.prog 57 #[(.agg t64), (.int .u8 3), (.slice t66a t66n t66c), (.slice t72a t72n t72c)] w6 fun (e73 : Ending) (w7 : World) => ∃ (t73_0a : Option Addr) (t73_0n : Nat) (t73_0c : Nat) (t73_1 : Value), e73 = .returned (.tuple #[(.slice t73_0a t73_0n t73_0c), t73_1]) ∧
                                      (∃ S_2 : World → Prop, (∀ w' : World, S_2 w' → S_1 w') ∧ S_2 w7 ∧
                                        (∃ (t77 : Bool), (eqlS .neq 36 (.tmp 76) (.const .nilIface) t73_1 .nilIface).run Tryz.prog w7 = .ok (.bool t77) w7 ∧
                                          ((t77 = true →
                                              (R (.returned (.tuple #[(.slice none 0 0), t73_1])) w7)) ∧
                                            (t77 = false →
                                              (Calls Tryz.prog 60 #[(.slice t36_1a t36_1n t36_1c)] w7 fun (e81 : Ending) (w8 : World) => ∃ (t81a : Option Addr) (t81n : Nat) (t81c : Nat), e81 = .returned (.slice t81a t81n t81c) ∧
                                                (Calls Tryz.prog 59 #[(.slice t73_0a t73_0n t73_0c), (.slice t81a t81n t81c)] w8 fun (e82 : Ending) (w9 : World) => ∃ (t82 : Bool), e82 = .returned (.bool t82) ∧
                                                  (((!t82) = true →
                                                      (R (.returned (.tuple #[(.slice none 0 0), (.iface 69 (.int .i64 10))])) w9)) ∧
                                                    ((!t82) = false →
                                                      (R (.returned (.tuple #[(.slice t36_1a t36_1n t36_1c), .nilIface])) w9)))))))))))))))))))))))))))) : Calls Tryz.prog 26 #[(.agg a0), (.int .i64 a1), (.slice a2a a2n a2c)] w R :=
  calls_of_ev (args := [(.agg a0), (.int .i64 a1), (.slice a2a a2n a2c)])
    (tc := .seq (.reg (.op .bx (.op .p (.op .p (.nil))))) (.seq (.seq (.reg (.op .p (.op (.cl [.bool]) (.op .p (.nil))))) (.cond (.seq (.reg (.op .p (.op .p (.op .p (.nil))))) (.leaf)) (.leaf))) (.seq (.reg (.op .p (.op (.cl [.int .i64, .bool]) (.op .p (.op .p (.op .p (.op .p (.op .p (.nil))))))))) (.seq (.seq (.reg (.op .p (.op .p (.op .p (.ap 3 (.nil)))))) (.cond (.seq (.reg (.op .p (.op .p (.op .p (.nil))))) (.leaf)) (.leaf))) (.seq (.reg (.op .p (.op .p (.op (.cl [.slice, .slice, .val, .int .i64]) (.op .p (.op .p (.op .p (.op .p (.op .p (.op .p (.op .p (.op .p (.op .p (.nil)))))))))))))) (.seq (.seq (.join [41, 42, 43, 44, 45, 46, 47, 48, 49, 50, 51, 52, 53, 54, 55, 56, 57, 58, 59, 60, 61] [61] [.bool] (.reg (.op .p (.op .p (.op .p (.op .p (.op .p (.ap 6 (.op .p (.sp 53 (.op .p (.op .p (.op .p (.op .p (.op .p (.op .p (.op .p (.op .p (.nil))))))))) (.op .p (.op .p (.op .p (.op .ix (.op .p (.op (.ld (.int .i64)) (.op .p (.op .p (.nil))))))))))))))))))) (.cond (.seq (.reg (.op .p (.op .p (.op .p (.nil))))) (.leaf)) (.leaf))) (.seq (.drawS (.tk 1 .p (.tk 3 .p (.tk 4 .p (.tk 5 .p (.tk 6 .ix (.tk 7 .p (.ts 0 (.agg) (.ts 8 (.slice) (.go 2 (.cl [.slice]) (.go 9 (.cl [.slice, .val]) (.tk 10 .p (.tk 11 .p (.tk 12 .p (.tk 13 .p (.tk 14 .p (.nil)))))))))))))))) []) (.seq (.seq (.reg (.op .p (.op (.ld (.bool)) (.nil)))) (.cond (.seq (.reg (.op .p (.op .p (.op .p (.nil))))) (.leaf)) (.leaf))) (.seq (.seq (.reg (.op .p (.op .p (.op (.cl [.slice]) (.op (.cl [.bool]) (.op .p (.nil))))))) (.cond (.seq (.reg (.op .p (.op .p (.op .p (.nil))))) (.leaf)) (.leaf))) (.seq (.reg (.op .p (.op .p (.op .p (.nil))))) (.leaf)))))))))))
    (by kernel_rfl) Tryz.func26 (by kernel_rfl) (by kernel_rfl) (by kernel_rfl) (by kernel_rfl) h

set_option maxRecDepth 100000 in
theorem pack_Scan_vc (a0a : Option Addr) (a0n : Nat) (a0c : Nat) (w : World) (R : Ending → World → Prop) (h :
  Calls Tryz.prog 55 #[(.slice a0a a0n a0c)] w fun (e15 : Ending) (w1 : World) => ∃ (t15_0 : Int) (t15_1 : Bool), e15 = .returned (.tuple #[(.int .i64 t15_0), (.bool t15_1)]) ∧
  (((!t15_1) = true →
      (R (.returned (.tuple #[(.int .i64 0), (.slice none 0 0), (.int .i64 0), (.iface 69 (.int .i64 17))])) w1)) ∧
    ((!t15_1) = false →
      (Calls Tryz.prog 56 #[(.int .i64 t15_0), (.slice a0a a0n a0c)] w1 fun (e24 : Ending) (w2 : World) => ∃ (t24_0a : Option Addr) (t24_0n : Nat) (t24_0c : Nat) (t24_1a : Option Addr) (t24_1n : Nat) (t24_1c : Nat) (t24_2 : Value) (t24_3 : Int), e24 = .returned (.tuple #[(.slice t24_0a t24_0n t24_0c), (.slice t24_1a t24_1n t24_1c), t24_2, (.int .i64 t24_3)]) ∧
        (∃ J : Int → World → Prop, (((decide (((t24_1n : Nat) : Int) > (0 : Int))) = true →
              (∃ (f36 : Nat) (cb36 : List Value), t24_2 = .func (.func f36) #[] ⟨cb36⟩ ∧ goesIn Tryz.prog f36 = true ∧
                Calls Tryz.prog f36 (([(.int .i64 (IntKind.wrap .i64 (((t24_1n : Nat) : Int) - (1 : Int))))] : List Value) ++ cb36).toArray w2 fun (e36 : Ending) (w3 : World) => ∃ (t36 : Int), e36 = .returned (.int .i64 t36) ∧
                (J t36 w3))) ∧
            ((decide (((t24_1n : Nat) : Int) > (0 : Int))) = false →
              (J 16 w2))) ∧
          (∀ (x12 : Int), ∀ w4 : World, J x12 w4 →
            (R (.returned (.tuple #[(.int .i64 t15_0), (.slice t24_1a t24_1n t24_1c), (.int .i64 x12), .nilIface])) w4))))))) : Calls Tryz.prog 27 #[(.slice a0a a0n a0c)] w R :=
  calls_of_ev (args := [(.slice a0a a0n a0c)])
    (tc := .seq (.reg (.op .p (.op .p (.op .p (.op .p (.nil)))))) (.seq (.reg (.op .p (.op (.cl [.int .i64, .bool]) (.op .p (.op .p (.op .p (.op .p (.op .p (.nil))))))))) (.seq (.seq (.reg (.op .p (.op .p (.nil)))) (.cond (.seq (.reg (.op .p (.op .p (.op .p (.op .p (.op .p (.nil))))))) (.leaf)) (.leaf))) (.seq (.reg (.op .p (.op .p (.op (.cl [.slice, .slice, .val, .int .i64]) (.op .p (.op .p (.op .p (.op .p (.op .p (.op .p (.op .p (.op .p (.op .p (.nil)))))))))))))) (.seq (.reg (.op .p (.nil))) (.seq (.seq (.reg (.op .p (.op .p (.op .p (.nil))))) (.join [12, 32, 33, 34, 35, 36] [12] [.int .i64] (.cond (.reg (.op .p (.op .p (.op .p (.op .p (.op (.cv [.int .i64]) (.op .p (.nil)))))))) (.leaf)))) (.seq (.reg (.op .p (.op .p (.op .p (.op .p (.op .p (.op .p (.op .p (.nil))))))))) (.leaf))))))))
    (by kernel_rfl) Tryz.func27 (by kernel_rfl) (by kernel_rfl) (by kernel_rfl) (by kernel_rfl) h

set_option maxRecDepth 100000 in
theorem pack_Name_vc (a0 : Int) (w : World) (R : Ending → World → Prop) (h :
  Calls Tryz.prog 43 #[(.int .i64 a0)] w fun (e4 : Ending) (w1 : World) => ∃ (t4 : Bool), e4 = .returned (.bool t4) ∧
  (((!t4) = true →
      (R (.returned (.string (ByteArray.mk #[]))) w1)) ∧
    ((!t4) = false →
      (Calls Tryz.prog 44 #[(.int .i64 a0)] w1 fun (e7 : Ending) (w2 : World) => ∃ (t7 : ByteArray), e7 = .returned (.string t7) ∧
        (∃ (t8 : ByteArray), (eqlS .add 9 (.const (.string (ByteArray.mk #[112]))) (.tmp 7) (.string (ByteArray.mk #[112])) (.string t7)).run Tryz.prog w2 = .ok (.string t8) w2 ∧
          (R (.returned (.string t8)) w2)))))) : Calls Tryz.prog 19 #[(.int .i64 a0)] w R :=
  calls_of_ev (args := [(.int .i64 a0)])
    (tc := .seq (.reg (.op .p (.nil))) (.seq (.seq (.reg (.op .p (.op (.cl [.bool]) (.op .p (.nil))))) (.cond (.seq (.reg (.op .p (.nil))) (.leaf)) (.leaf))) (.seq (.reg (.op .p (.op (.cl [.str]) (.op (.ld (.str)) (.op .p (.nil)))))) (.leaf))))
    (by kernel_rfl) Tryz.func19 (by kernel_rfl) (by kernel_rfl) (by kernel_rfl) (by kernel_rfl) h

set_option maxRecDepth 100000 in
theorem pack_Number_vc (a0 : ByteArray) (w : World) (R : Ending → World → Prop) (h :
  ((a0.toList == (ByteArray.mk #[]).toList) = true →
    (R (.returned (.tuple #[(.int .i64 0), (.bool false)])) w)) ∧
  ((a0.toList == (ByteArray.mk #[]).toList) = false →
    (0 ≤ (1 : Int) ∧ (1 : Int) ≤ (a0.size : Int) ∧
      (Calls Tryz.prog 42 #[(.string (a0.extract (Int.toNat (1 : Int)) a0.size))] w fun (e11 : Ending) (w1 : World) => ∃ (t11_0 : Int) (t11_1 : Value), e11 = .returned (.tuple #[(.int .i64 t11_0), t11_1]) ∧
        (∃ J : Bool → World → Prop, (∃ (t15 : Bool), (eqlS .neq 36 (.tmp 14) (.const .nilIface) t11_1 .nilIface).run Tryz.prog w1 = .ok (.bool t15) w1 ∧
            ((t15 = true →
                (J true w1)) ∧
              (t15 = false →
                (Calls Tryz.prog 19 #[(.int .i64 t11_0)] w1 fun (e18 : Ending) (w2 : World) => ∃ (t18 : ByteArray), e18 = .returned (.string t18) ∧
                  (J (!(t18.toList == a0.toList)) w2))))) ∧
          (∀ (x21 : Bool), ∀ w3 : World, J x21 w3 →
            ((x21 = true →
                (R (.returned (.tuple #[(.int .i64 0), (.bool false)])) w3)) ∧
              (x21 = false →
                (R (.returned (.tuple #[(.int .i64 t11_0), (.bool true)])) w3))))))))) : Calls Tryz.prog 16 #[(.string a0)] w R :=
  calls_of_ev (args := [(.string a0)])
    (tc := .seq (.reg (.op .p (.op .p (.nil)))) (.seq (.seq (.reg (.op .p (.op .p (.nil)))) (.cond (.seq (.reg (.op .p (.op .p (.nil)))) (.leaf)) (.leaf))) (.seq (.reg (.op .p (.op .sl (.op (.cl [.int .i64, .val]) (.op .p (.op .p (.op .p (.op .p (.op .p (.nil)))))))))) (.seq (.seq (.join [14, 15, 16, 17, 18, 19, 20, 21] [21] [.bool] (.reg (.op .p (.op (.ld (.bool)) (.op .p (.sp 16 (.op .p (.op .p (.op .p (.op .p (.op .p (.nil)))))) (.op .p (.op (.cl [.str]) (.op .p (.op .p (.op .p (.nil)))))))))))) (.cond (.seq (.reg (.op .p (.op .p (.nil)))) (.leaf)) (.leaf))) (.seq (.reg (.op .p (.op .p (.op .p (.nil))))) (.leaf))))))
    (by kernel_rfl) Tryz.func16 (by kernel_rfl) (by kernel_rfl) (by kernel_rfl) (by kernel_rfl) h

set_option maxRecDepth 100000 in
theorem pack_Save_vc (a0b : Nat) (a0o : Nat) (a1 : Array Value) (a2 : Int) (a3a : Option Addr) (a3n : Nat) (a3c : Nat) (w : World) (R : Ending → World → Prop) (h :
  ∃ (g5 : Nat) (w1 : World), (Instr.box 28 (.agg a1)).run Tryz.prog w = .ok (.pointer (some ⟨g5, 0, none⟩)) w1 ∧
  (∃ (g9 : Nat) (w2 : World), (Instr.alloc 63 true (.tuple #[])).run Tryz.prog w1 = .ok (.pointer (some ⟨g9, 0, none⟩)) w2 ∧
    (∃ (t20 : Array Value), (Instr.loadAt 28 (.pointer (some ⟨g5, 0, none⟩))).run Tryz.prog w2 = .ok (.agg t20) w2 ∧
      (Calls Tryz.prog 39 #[(.agg t20), (.int .i64 a2), (.slice a3a a3n a3c)] w2 fun (e23 : Ending) (w3 : World) => ∃ (t23_0 : Value) (t23_1 : Value), e23 = .returned (.tuple #[t23_0, t23_1]) ∧
        (∃ (t27 : Bool), (eqlS .neq 36 (.tmp 26) (.const .nilIface) t23_1 .nilIface).run Tryz.prog w3 = .ok (.bool t27) w3 ∧
          ((t27 = true →
              (∃ (t28 : Array Value), (Instr.build 63 #[]).run Tryz.prog w3 = .ok (.agg t28) w3 ∧
                (∃ w4 : World, (Instr.storeAt 63 (.pointer (some ⟨g9, 0, none⟩)) (.agg t28)).run Tryz.prog w3 = .ok () w4 ∧
                  (∃ r9 : Value, (loadVar 63 ⟨g9, 0, none⟩).run Tryz.prog w4 = .ok r9 w4 ∧
                    (R (.returned (.tuple #[(.slice none 0 0), r9, t23_1])) w4))))) ∧
            (t27 = false →
              (Calls Tryz.prog 19 #[(.int .i64 a2)] w3 fun (e31 : Ending) (w5 : World) => ∃ (t31 : ByteArray), e31 = .returned (.string t31) ∧
                (Calls Tryz.prog 46 #[(.pointer (some ⟨a0b, a0o, none⟩)), (.string t31)] w5 fun (e34 : Ending) (w6 : World) => ∃ (t34 : Value), e34 = .returned t34 ∧
                  (∃ (t36 : Bool), (eqlS .neq 36 (.tmp 35) (.const .nilIface) t34 .nilIface).run Tryz.prog w6 = .ok (.bool t36) w6 ∧
                    ((t36 = true →
                        (∃ (t37 : Array Value), (Instr.build 63 #[]).run Tryz.prog w6 = .ok (.agg t37) w6 ∧
                          (∃ w7 : World, (Instr.storeAt 63 (.pointer (some ⟨g9, 0, none⟩)) (.agg t37)).run Tryz.prog w6 = .ok () w7 ∧
                            (∃ r9 : Value, (loadVar 63 ⟨g9, 0, none⟩).run Tryz.prog w7 = .ok r9 w7 ∧
                              (R (.returned (.tuple #[(.slice none 0 0), r9, t34])) w7))))) ∧
                      (t36 = false →
                        (∃ (t40b t40o : Nat), t23_0 = .pointer (some ⟨t40b, t40o, none⟩) ∧
                          (∃ (t43a : Option Addr) (t43n : Nat) (t43c : Nat), (Instr.loadAt 23 (.pointer (some ⟨t40b, t40o, none⟩))).run Tryz.prog w6 = .ok (.slice t43a t43n t43c) w6 ∧
                            (∃ (I : Int → World → Prop) (μ : Int → World → Nat), I 0 w6 ∧
                              (∀ (x45 : Int), ∀ w8 : World, I x45 w8 →
                                (((decide (x45 < ((t43n : Nat) : Int))) = true →
                                    (∃ (t47b t47o : Nat), t43a = some ⟨t47b, t47o, none⟩ ∧ 0 ≤ x45 ∧ x45 < ((t43n : Nat) : Int) ∧
                                      (∃ (t48a : Option Addr) (t48n : Nat) (t48c : Nat), (Instr.loadAt 33 (.pointer (some ⟨t47b, t47o + Int.toNat x45 * 1, none⟩))).run Tryz.prog w8 = .ok (.slice t48a t48n t48c) w8 ∧
                                        (∃ (t52a : Option Addr) (t52n : Nat) (t52c : Nat) (w9 : World), (Instr.buildSlice 23 1 #[(0, (.slice t48a t48n t48c))]).run Tryz.prog w8 = .ok (.slice t52a t52n t52c) w9 ∧
                                          (Calls Tryz.prog 47 #[(.pointer (some ⟨a0b, a0o, none⟩)), (.string t31), (.slice t52a t52n t52c)] w9 fun (e53 : Ending) (w10 : World) => ∃ (t53 : Value), e53 = .returned t53 ∧
                                            (∃ (t55 : Bool), (eqlS .neq 36 (.tmp 54) (.const .nilIface) t53 .nilIface).run Tryz.prog w10 = .ok (.bool t55) w10 ∧
                                              ((t55 = true →
                                                  (∃ (t56 : Array Value), (Instr.build 63 #[]).run Tryz.prog w10 = .ok (.agg t56) w10 ∧
                                                    (∃ w11 : World, (Instr.storeAt 63 (.pointer (some ⟨g9, 0, none⟩)) (.agg t56)).run Tryz.prog w10 = .ok () w11 ∧
                                                      (∃ r9 : Value, (loadVar 63 ⟨g9, 0, none⟩).run Tryz.prog w11 = .ok r9 w11 ∧
                                                        (R (.returned (.tuple #[(.slice none 0 0), r9, t53])) w11))))) ∧
                                                (t55 = false →
                                                  (I (IntKind.wrap .i64 (x45 + (1 : Int))) w10 ∧ μ (IntKind.wrap .i64 (x45 + (1 : Int))) w10 < μ x45 w8))))))))) ∧
                                  ((decide (x45 < ((t43n : Nat) : Int))) = false →
                                    (Calls Tryz.prog 48 #[(.pointer (some ⟨a0b, a0o, none⟩)), (.string t31)] w8 fun (e61 : Ending) (w12 : World) => ∃ (t61 : Value), e61 = .returned t61 ∧
                                      (∃ (t63 : Bool), (eqlS .neq 36 (.tmp 62) (.const .nilIface) t61 .nilIface).run Tryz.prog w12 = .ok (.bool t63) w12 ∧
                                        ((t63 = true →
                                            (∃ (t64 : Array Value), (Instr.build 63 #[]).run Tryz.prog w12 = .ok (.agg t64) w12 ∧
                                              (∃ w13 : World, (Instr.storeAt 63 (.pointer (some ⟨g9, 0, none⟩)) (.agg t64)).run Tryz.prog w12 = .ok () w13 ∧
                                                (∃ r9 : Value, (loadVar 63 ⟨g9, 0, none⟩).run Tryz.prog w13 = .ok r9 w13 ∧
                                                  (R (.returned (.tuple #[(.slice none 0 0), r9, t61])) w13))))) ∧
                                          (t63 = false →
                                            (∃ S : World → Prop, S w12.drew ∧
                                              (∃ (t67b t67o : Nat), t23_0 = .pointer (some ⟨t67b, t67o, none⟩) ∧
                                                (∃ (t72b t72o : Nat), t23_0 = .pointer (some ⟨t72b, t72o, none⟩) ∧
                                                  (∃ (t69a : Option Addr) (t69n : Nat) (t69c : Nat), (∀ w' : World, S w' → (Instr.loadAt 34 (.pointer (some ⟨t67b, t67o + 3, none⟩))).run Tryz.prog w' = .ok (.slice t69a t69n t69c) w') ∧
                                                    (∃ (t75 : Int), (∀ w' : World, S w' → (Instr.loadAt 3 (.pointer (some ⟨t72b, t72o + 1, none⟩))).run Tryz.prog w' = .ok (.int .i64 t75) w') ∧
                                                      (∃ (t78 : Array Value), (∀ w' : World, S w' → (Instr.build 63 #[(0, (.int .i64 a2)), (1, (.int .i64 t75)), (2, (.int .i64 ((a3n : Nat) : Int)))]).run Tryz.prog w' = .ok (.agg t78) w') ∧
                                                        (∃ w14 : World, (Instr.storeAt 63 (.pointer (some ⟨g9, 0, none⟩)) (.agg t78)).run Tryz.prog w12.drew = .ok () w14 ∧
                                                          (∃ r9 : Value, (loadVar 63 ⟨g9, 0, none⟩).run Tryz.prog w14 = .ok r9 w14 ∧
                                                            (R (.returned (.tuple #[(.slice t69a t69n t69c), r9, .nilIface])) w14))))))))))))))))))))))))))))))) : Calls Tryz.prog 23 #[(.pointer (some ⟨a0b, a0o, none⟩)), (.agg a1), (.int .i64 a2), (.slice a3a a3n a3c)] w R :=
  calls_of_ev (args := [(.pointer (some ⟨a0b, a0o, none⟩)), (.agg a1), (.int .i64 a2), (.slice a3a a3n a3c)])
    (tc := .seq (.reg (.op .bx (.op .p (.op .bx (.op .p (.nil)))))) (.seq (.reg (.op (.ld (.agg)) (.op .p (.op .p (.op (.cl [.val, .val]) (.op .p (.op .p (.op .p (.op .p (.op .p (.nil))))))))))) (.seq (.seq (.reg (.op .p (.op (.ld (.bool)) (.nil)))) (.cond (.seq (.reg (.op (.ld (.agg)) (.op .p (.op .p (.op .u (.op .p (.nil))))))) (.leaf)) (.leaf))) (.seq (.reg (.op .p (.op (.cl [.str]) (.op .p (.nil))))) (.seq (.seq (.reg (.op .p (.op .p (.op (.cl [.val]) (.op .p (.nil)))))) (.seq (.reg (.op .p (.op (.ld (.bool)) (.nil)))) (.cond (.seq (.reg (.op (.ld (.agg)) (.op .p (.op .p (.op .u (.op .p (.nil))))))) (.leaf)) (.leaf)))) (.seq (.seq (.reg (.op .p (.op .nc (.op .p (.op .p (.op (.ld (.slice)) (.op .p (.op .p (.nil))))))))) (.blk (.loop [8, 10, 16, 17, 45, 46, 47, 48, 49, 50, 51, 52, 53, 54, 55, 56, 57, 58] [45] [.int .i64] (.seq (.reg (.op .p (.nil))) (.seq (.cond (.leaf) (.leaf)) (.seq (.blk (.seq (.reg (.op .ix (.op (.ld (.slice)) (.op .p (.nil))))) (.seq (.reg (.op .p (.op .p (.op .p (.op (.r (.slice)) (.op (.cl [.val]) (.op .p (.nil)))))))) (.seq (.reg (.op .p (.op (.ld (.bool)) (.nil)))) (.cond (.seq (.reg (.op (.ld (.agg)) (.op .p (.op .p (.op .u (.op .p (.nil))))))) (.leaf)) (.leaf)))))) (.reg (.op .p (.op .p (.nil)))))))))) (.seq (.seq (.reg (.op .p (.op .p (.op (.cl [.val]) (.op .p (.nil)))))) (.seq (.reg (.op .p (.op (.ld (.bool)) (.nil)))) (.cond (.seq (.reg (.op (.ld (.agg)) (.op .p (.op .p (.op .u (.op .p (.nil))))))) (.leaf)) (.leaf)))) (.seq (.drawS (.tk 0 .p (.tk 1 .nc (.tk 2 .p (.tk 4 .p (.tk 5 .p (.tk 6 .nc (.tk 7 .p (.tk 8 .p (.tk 10 .p (.tk 11 .p (.ts 3 (.slice) (.tk 13 .p (.ts 9 (.int .i64) (.ts 12 (.agg) (.go 14 .u (.tk 15 .p (.nil))))))))))))))))) [14, 15]) (.leaf)))))))))
    (by kernel_rfl) Tryz.func23 (by kernel_rfl) (by kernel_rfl) (by kernel_rfl) (by kernel_rfl) h

set_option maxRecDepth 100000 in
theorem slices_Concat_byte_byte_vc (a0a : Option Addr) (a0n : Nat) (a0c : Nat) (w : World) (R : Ending → World → Prop) (h :
  ∃ (I : Int → Int → World → Prop) (μ : Int → Int → World → Nat), I 0 0 w ∧
  (∀ (x3 : Int) (x11 : Int), ∀ w1 : World, I x3 x11 w1 →
    (((decide (x11 < ((a0n : Nat) : Int))) = true →
        (∃ (t13b t13o : Nat), a0a = some ⟨t13b, t13o, none⟩ ∧ 0 ≤ x11 ∧ x11 < ((a0n : Nat) : Int) ∧
          (∃ (t14a : Option Addr) (t14n : Nat) (t14c : Nat), (Instr.loadAt 33 (.pointer (some ⟨t13b, t13o + Int.toNat x11 * 1, none⟩))).run Tryz.prog w1 = .ok (.slice t14a t14n t14c) w1 ∧
            (∃ J : World → Prop, (((decide ((IntKind.wrap .i64 (x3 + ((t14n : Nat) : Int))) < (0 : Int))) = true →
                  (False)) ∧
                ((decide ((IntKind.wrap .i64 (x3 + ((t14n : Nat) : Int))) < (0 : Int))) = false →
                  (J  w1))) ∧
              (∀ w2 : World, J  w2 →
                (I (IntKind.wrap .i64 (x3 + ((t14n : Nat) : Int))) (IntKind.wrap .i64 (x11 + (1 : Int))) w2 ∧ μ (IntKind.wrap .i64 (x3 + ((t14n : Nat) : Int))) (IntKind.wrap .i64 (x11 + (1 : Int))) w2 < μ x3 x11 w1)))))) ∧
      ((decide (x11 < ((a0n : Nat) : Int))) = false →
        (Calls Tryz.prog 73 #[(.slice none 0 0), (.int .i64 x3)] w1 fun (e24 : Ending) (w3 : World) => ∃ (t24a : Option Addr) (t24n : Nat) (t24c : Nat), e24 = .returned (.slice t24a t24n t24c) ∧
          (∃ (I_1 : Option Addr → Nat → Nat → Int → World → Prop) (μ_1 : Option Addr → Nat → Nat → Int → World → Nat), I_1 t24a t24n t24c 0 w3 ∧
            (∀ (x6a : Option Addr) (x6n : Nat) (x6c : Nat) (x27 : Int), ∀ w4 : World, I_1 x6a x6n x6c x27 w4 →
              (((decide (x27 < ((a0n : Nat) : Int))) = true →
                  (∃ (t29b t29o : Nat), a0a = some ⟨t29b, t29o, none⟩ ∧ 0 ≤ x27 ∧ x27 < ((a0n : Nat) : Int) ∧
                    (∃ (t30a : Option Addr) (t30n : Nat) (t30c : Nat), (Instr.loadAt 33 (.pointer (some ⟨t29b, t29o + Int.toNat x27 * 1, none⟩))).run Tryz.prog w4 = .ok (.slice t30a t30n t30c) w4 ∧
                      (∃ (t33a : Option Addr) (t33n : Nat) (t33c : Nat) (w5 : World), (Builtin.append_ #[33, 33] 33 #[(.slice x6a x6n x6c), (.slice t30a t30n t30c)]).run Tryz.prog w4 = .ok (.slice t33a t33n t33c) w5 ∧
                        (I_1 t33a t33n t33c (IntKind.wrap .i64 (x27 + (1 : Int))) w5 ∧ μ_1 t33a t33n t33c (IntKind.wrap .i64 (x27 + (1 : Int))) w5 < μ_1 x6a x6n x6c x27 w4))))) ∧
                ((decide (x27 < ((a0n : Nat) : Int))) = false →
                  (R (.returned (.slice x6a x6n x6c)) w4)))))))))) : Calls Tryz.prog 40 #[(.slice a0a a0n a0c)] w R :=
  calls_of_ev (args := [(.slice a0a a0n a0c)])
    (tc := .seq (.reg (.op .p (.nil))) (.seq (.reg (.op .p (.nil))) (.seq (.seq (.reg (.op .p (.op .p (.op .p (.nil))))) (.blk (.loop [3, 5, 11, 12, 13, 14, 15, 16, 17, 18, 19, 20, 21, 22] [3, 11] [.int .i64, .int .i64] (.seq (.reg (.op .p (.nil))) (.seq (.cond (.leaf) (.leaf)) (.seq (.blk (.seq (.reg (.op .ix (.op (.ld (.slice)) (.op .p (.nil))))) (.seq (.reg (.op .p (.op .p (.op .p (.op .p (.op .p (.nil))))))) (.seq (.reg (.op .p (.op .p (.nil)))) (.join [21] [] [] (.cond (.reg (.op .p (.op .bx (.nil)))) (.leaf))))))) (.reg (.op .p (.op .p (.nil)))))))))) (.seq (.reg (.op .p (.op (.cl [.slice]) (.op .p (.nil))))) (.seq (.seq (.reg (.op .p (.op .p (.op .p (.nil))))) (.blk (.loop [6, 8, 27, 28, 29, 30, 31, 32, 33, 34] [6, 27] [.slice, .int .i64] (.seq (.reg (.op .p (.nil))) (.seq (.cond (.leaf) (.leaf)) (.seq (.blk (.seq (.reg (.op .ix (.op (.ld (.slice)) (.op .p (.nil))))) (.reg (.op .p (.op .p (.op (.r (.slice)) (.op .p (.nil)))))))) (.reg (.op .p (.op .p (.nil)))))))))) (.seq (.reg (.op .p (.op .p (.nil)))) (.leaf)))))))
    (by kernel_rfl) Tryz.func40 (by kernel_rfl) (by kernel_rfl) (by kernel_rfl) (by kernel_rfl) h

set_option maxRecDepth 100000 in
theorem slices_Grow_byte_byte_vc (a0a : Option Addr) (a0n : Nat) (a0c : Nat) (a1 : Int) (w : World) (R : Ending → World → Prop) (h :
  ∃ J : World → Prop, (((decide (a1 < (0 : Int))) = true →
      (False)) ∧
    ((decide (a1 < (0 : Int))) = false →
      (J  w))) ∧
  (∀ w1 : World, J  w1 →
    (∃ J_1 : Option Addr → Nat → Nat → World → Prop, (((decide ((IntKind.wrap .i64 (a1 - (IntKind.wrap .i64 (((a0c : Nat) : Int) - ((a0n : Nat) : Int))))) > (0 : Int))) = true →
          (0 ≤ ((a0c : Nat) : Int) ∧ ((a0c : Nat) : Int) ≤ ((a0c : Nat) : Int) ∧
            (∃ (t22a : Option Addr) (t22n : Nat) (t22c : Nat) (w2 : World), (Builtin.append_ #[33, 3] 33 #[(.slice a0a (a0c) a0c), (.int .i64 (IntKind.wrap .i64 (a1 - (IntKind.wrap .i64 (((a0c : Nat) : Int) - ((a0n : Nat) : Int))))))]).run Tryz.prog w1 = .ok (.slice t22a t22n t22c) w2 ∧
              (0 ≤ ((a0n : Nat) : Int) ∧ ((a0n : Nat) : Int) ≤ ((t22c : Nat) : Int) ∧
                (J_1 t22a (a0n) t22c w2))))) ∧
        ((decide ((IntKind.wrap .i64 (a1 - (IntKind.wrap .i64 (((a0c : Nat) : Int) - ((a0n : Nat) : Int))))) > (0 : Int))) = false →
          (J_1 a0a a0n a0c w1))) ∧
      (∀ (x0a : Option Addr) (x0n : Nat) (x0c : Nat), ∀ w3 : World, J_1 x0a x0n x0c w3 →
        (R (.returned (.slice x0a x0n x0c)) w3))))) : Calls Tryz.prog 73 #[(.slice a0a a0n a0c), (.int .i64 a1)] w R :=
  calls_of_ev (args := [(.slice a0a a0n a0c), (.int .i64 a1)])
    (tc := .seq (.reg (.op .p (.nil))) (.seq (.seq (.reg (.op .p (.op .p (.nil)))) (.join [7] [] [] (.cond (.reg (.op .p (.op .bx (.nil)))) (.leaf)))) (.seq (.seq (.reg (.op .p (.op .p (.op .p (.op .p (.op .p (.op .p (.op .p (.op .p (.nil)))))))))) (.seq (.reg (.op .p (.op .p (.nil)))) (.join [0, 17, 18, 19, 20, 21, 22, 23, 24, 25] [0] [.slice] (.cond (.reg (.op .p (.op .p (.op .p (.op .sl (.op .p (.op (.r (.slice)) (.op .p (.op .p (.op .sl (.op .p (.nil)))))))))))) (.leaf))))) (.seq (.reg (.op .p (.op .p (.nil)))) (.leaf)))))
    (by kernel_rfl) Tryz.func73 (by kernel_rfl) (by kernel_rfl) (by kernel_rfl) (by kernel_rfl) h

set_option maxRecDepth 100000 in
theorem bytes_Equal_vc (a0a : Option Addr) (a0n : Nat) (a0c : Nat) (a1a : Option Addr) (a1n : Nat) (a1c : Nat) (w : World) (R : Ending → World → Prop) (h :
  ∃ (t6 : ByteArray), (convert 33 9 (.slice a0a a0n a0c)).run Tryz.prog w = .ok (.string t6) w ∧
  (∃ (t8 : ByteArray), (convert 33 9 (.slice a1a a1n a1c)).run Tryz.prog w = .ok (.string t8) w ∧
    (R (.returned (.bool (t6.toList == t8.toList))) w))) : Calls Tryz.prog 59 #[(.slice a0a a0n a0c), (.slice a1a a1n a1c)] w R :=
  calls_of_ev (args := [(.slice a0a a0n a0c), (.slice a1a a1n a1c)])
    (tc := .seq (.reg (.op .p (.nil))) (.seq (.reg (.op .p (.op (.ld (.str)) (.op .p (.op (.ld (.str)) (.op .p (.op .p (.nil)))))))) (.leaf)))
    (by kernel_rfl) Tryz.func59 (by kernel_rfl) (by kernel_rfl) (by kernel_rfl) (by kernel_rfl) h

set_option maxRecDepth 100000 in
theorem strconv_Itoa_vc (a0 : Int) (w : World) (R : Ending → World → Prop) (h :
  Calls Tryz.prog 80 #[(.int .i64 a0)] w fun (e4 : Ending) (w1 : World) => ∃ (t4 : ByteArray), e4 = .returned (.string t4) ∧
  (R (.returned (.string t4)) w1)) : Calls Tryz.prog 44 #[(.int .i64 a0)] w R :=
  calls_of_ev (args := [(.int .i64 a0)])
    (tc := .seq (.reg (.op .p (.nil))) (.seq (.reg (.op .p (.op (.cl [.str]) (.op .p (.nil))))) (.leaf)))
    (by kernel_rfl) Tryz.func44 (by kernel_rfl) (by kernel_rfl) (by kernel_rfl) (by kernel_rfl) h

set_option maxRecDepth 100000 in
theorem internal_strconv_Itoa_vc (a0 : Int) (w : World) (R : Ending → World → Prop) (h :
  Calls Tryz.prog 113 #[(.int .i64 a0), (.int .i64 10)] w fun (e4 : Ending) (w1 : World) => ∃ (t4 : ByteArray), e4 = .returned (.string t4) ∧
  (R (.returned (.string t4)) w1)) : Calls Tryz.prog 80 #[(.int .i64 a0)] w R :=
  calls_of_ev (args := [(.int .i64 a0)])
    (tc := .seq (.reg (.op .p (.nil))) (.seq (.reg (.op .p (.op (.cl [.str]) (.op .p (.nil))))) (.leaf)))
    (by kernel_rfl) Tryz.func80 (by kernel_rfl) (by kernel_rfl) (by kernel_rfl) (by kernel_rfl) h

set_option maxRecDepth 100000 in
theorem internal_strconv_FormatInt_vc (a0 : Int) (a1 : Int) (w : World) (R : Ending → World → Prop) (h :
  ((a1 == (10 : Int)) = true →
    ((((decide ((0 : Int) ≤ a0)) && (decide (a0 < (100 : Int)))) = true →
        (Calls Tryz.prog 131 #[(.int .i64 a0)] w fun (e19 : Ending) (w1 : World) => ∃ (t19 : ByteArray), e19 = .returned (.string t19) ∧
          (R (.returned (.string t19)) w1))) ∧
      (((decide ((0 : Int) ≤ a0)) && (decide (a0 < (100 : Int)))) = false →
        (∃ (g5 : Nat) (w2 : World), (Instr.alloc 215 true (.tuple #[])).run Tryz.prog w = .ok (.pointer (some ⟨g5, 0, none⟩)) w2 ∧
          (∃ J : Int → World → Prop, (((decide (a0 < (0 : Int))) = true →
                (J (IntKind.wrap .u64 (0 - (IntKind.wrap .u64 a0))) w2)) ∧
              ((decide (a0 < (0 : Int))) = false →
                (J (IntKind.wrap .u64 a0) w2))) ∧
            (∀ (x6 : Int), ∀ w3 : World, J x6 w3 →
              (Calls Tryz.prog 132 #[(.int .u64 x6)] w3 fun (e27 : Ending) (w4 : World) => ∃ (t27 : Int), e27 = .returned (.int .i64 t27) ∧
                (0 ≤ (1 : Int) ∧ (1 : Int) ≤ (IntKind.wrap .i64 ((1 : Int) + t27)) ∧ (IntKind.wrap .i64 ((1 : Int) + t27)) ≤ ((24 : Nat) : Int) ∧ ∀ t30a : Option Addr, SubA 1 (some ⟨g5, 0, none⟩) 1 24 t30a →
                  (Calls Tryz.prog 133 #[(.slice t30a ((Int.toNat (IntKind.wrap .i64 ((1 : Int) + t27))) - 1) 23), (.int .u64 x6)] w4 fun (e32 : Ending) (w5 : World) => e32 = .returned (.tuple #[]) ∧
                    (((decide (a0 < (0 : Int))) = true →
                        (∃ w6 : World, (Instr.storeAt 5 (.pointer (some ⟨g5, 0, none⟩)) (.int .u8 45)).run Tryz.prog w5 = .ok () w6 ∧
                          (0 ≤ (IntKind.wrap .i64 ((1 : Int) + t27)) ∧ (IntKind.wrap .i64 ((1 : Int) + t27)) ≤ ((24 : Nat) : Int) ∧
                            (∃ (t39 : ByteArray), (convert 33 9 (.slice (some ⟨g5, 0, none⟩) (Int.toNat (IntKind.wrap .i64 ((1 : Int) + t27))) 24)).run Tryz.prog w6 = .ok (.string t39) w6 ∧
                              (R (.returned (.string t39)) w6))))) ∧
                      ((decide (a0 < (0 : Int))) = false →
                        (0 ≤ (1 : Int) ∧ (1 : Int) ≤ (IntKind.wrap .i64 ((1 : Int) + t27)) ∧ (IntKind.wrap .i64 ((1 : Int) + t27)) ≤ ((24 : Nat) : Int) ∧ ∀ t42a : Option Addr, SubA 1 (some ⟨g5, 0, none⟩) 1 24 t42a →
                          (∃ (t43 : ByteArray), (convert 33 9 (.slice t42a ((Int.toNat (IntKind.wrap .i64 ((1 : Int) + t27))) - 1) 23)).run Tryz.prog w5 = .ok (.string t43) w5 ∧
                            (R (.returned (.string t43)) w5)))))))))))))) ∧
  ((a1 == (10 : Int)) = false →
    (Calls Tryz.prog 134 #[(.slice none 0 0), (.int .u64 (IntKind.wrap .u64 a0)), (.int .i64 a1), (.bool (decide (a0 < (0 : Int)))), (.bool false)] w fun (e50 : Ending) (w7 : World) => ∃ (t50_0a : Option Addr) (t50_0n : Nat) (t50_0c : Nat) (t50_1 : ByteArray), e50 = .returned (.tuple #[(.slice t50_0a t50_0n t50_0c), (.string t50_1)]) ∧
      (R (.returned (.string t50_1)) w7)))) : Calls Tryz.prog 113 #[(.int .i64 a0), (.int .i64 a1)] w R :=
  calls_of_ev (args := [(.int .i64 a0), (.int .i64 a1)])
    (tc := .seq (.reg (.op .p (.nil))) (.seq (.seq (.reg (.op .p (.op .p (.nil)))) (.cond (.seq (.seq (.reg (.op .p (.op .p (.op .p (.ap 2 (.nil)))))) (.cond (.seq (.reg (.op .p (.op (.cl [.str]) (.op .p (.nil))))) (.leaf)) (.leaf))) (.seq (.reg (.op .bx (.nil))) (.seq (.reg (.op .p (.op .p (.op .p (.nil))))) (.seq (.seq (.reg (.op .p (.op .p (.nil)))) (.join [6, 24, 25] [6] [.int .u64] (.cond (.reg (.op .p (.op .p (.op .p (.nil))))) (.leaf)))) (.seq (.reg (.op .p (.op (.cl [.int .i64]) (.op .p (.nil))))) (.seq (.reg (.op .p (.op .p (.op .sl (.op .p (.op (.cl []) (.nil))))))) (.seq (.seq (.reg (.op .p (.op .p (.nil)))) (.cond (.seq (.reg (.op .p (.op .u (.nil)))) (.seq (.reg (.op .p (.op .p (.op .sl (.op (.ld (.str)) (.op .p (.nil))))))) (.leaf))) (.leaf))) (.seq (.reg (.op .p (.op .p (.op .sl (.op (.ld (.str)) (.op .p (.nil))))))) (.leaf))))))))) (.leaf))) (.seq (.reg (.op .p (.op .p (.op .p (.op .p (.op .p (.op (.cl [.slice, .str]) (.op .p (.op .p (.op .p (.op .p (.op .p (.nil))))))))))))) (.seq (.reg (.op .p (.op .p (.nil)))) (.leaf)))))
    (by kernel_rfl) Tryz.func113 (by kernel_rfl) (by kernel_rfl) (by kernel_rfl) (by kernel_rfl) h

set_option maxRecDepth 100000 in
theorem internal_strconv_small_vc (a0 : Int) (w : World) (R : Ending → World → Prop) (h :
  ((decide (a0 < (10 : Int))) = true →
    (0 ≤ a0 ∧ a0 ≤ (IntKind.wrap .i64 (a0 + (1 : Int))) ∧ (IntKind.wrap .i64 (a0 + (1 : Int))) ≤ ((ByteArray.mk #[48, 49, 50, 51, 52, 53, 54, 55, 56, 57, 97, 98, 99, 100, 101, 102, 103, 104, 105, 106, 107, 108, 109, 110, 111, 112, 113, 114, 115, 116, 117, 118, 119, 120, 121, 122]).size : Int) ∧
      (R (.returned (.string ((ByteArray.mk #[48, 49, 50, 51, 52, 53, 54, 55, 56, 57, 97, 98, 99, 100, 101, 102, 103, 104, 105, 106, 107, 108, 109, 110, 111, 112, 113, 114, 115, 116, 117, 118, 119, 120, 121, 122]).extract (Int.toNat a0) (Int.toNat (IntKind.wrap .i64 (a0 + (1 : Int))))))) w))) ∧
  ((decide (a0 < (10 : Int))) = false →
    (0 ≤ (IntKind.wrap .i64 (a0 * (2 : Int))) ∧ (IntKind.wrap .i64 (a0 * (2 : Int))) ≤ (IntKind.wrap .i64 ((IntKind.wrap .i64 (a0 * (2 : Int))) + (2 : Int))) ∧ (IntKind.wrap .i64 ((IntKind.wrap .i64 (a0 * (2 : Int))) + (2 : Int))) ≤ ((ByteArray.mk #[48, 48, 48, 49, 48, 50, 48, 51, 48, 52, 48, 53, 48, 54, 48, 55, 48, 56, 48, 57, 49, 48, 49, 49, 49, 50, 49, 51, 49, 52, 49, 53, 49, 54, 49, 55, 49, 56, 49, 57, 50, 48, 50, 49, 50, 50, 50, 51, 50, 52, 50, 53, 50, 54, 50, 55, 50, 56, 50, 57, 51, 48, 51, 49, 51, 50, 51, 51, 51, 52, 51, 53, 51, 54, 51, 55, 51, 56, 51, 57, 52, 48, 52, 49, 52, 50, 52, 51, 52, 52, 52, 53, 52, 54, 52, 55, 52, 56, 52, 57, 53, 48, 53, 49, 53, 50, 53, 51, 53, 52, 53, 53, 53, 54, 53, 55, 53, 56, 53, 57, 54, 48, 54, 49, 54, 50, 54, 51, 54, 52, 54, 53, 54, 54, 54, 55, 54, 56, 54, 57, 55, 48, 55, 49, 55, 50, 55, 51, 55, 52, 55, 53, 55, 54, 55, 55, 55, 56, 55, 57, 56, 48, 56, 49, 56, 50, 56, 51, 56, 52, 56, 53, 56, 54, 56, 55, 56, 56, 56, 57, 57, 48, 57, 49, 57, 50, 57, 51, 57, 52, 57, 53, 57, 54, 57, 55, 57, 56, 57, 57]).size : Int) ∧
      (R (.returned (.string ((ByteArray.mk #[48, 48, 48, 49, 48, 50, 48, 51, 48, 52, 48, 53, 48, 54, 48, 55, 48, 56, 48, 57, 49, 48, 49, 49, 49, 50, 49, 51, 49, 52, 49, 53, 49, 54, 49, 55, 49, 56, 49, 57, 50, 48, 50, 49, 50, 50, 50, 51, 50, 52, 50, 53, 50, 54, 50, 55, 50, 56, 50, 57, 51, 48, 51, 49, 51, 50, 51, 51, 51, 52, 51, 53, 51, 54, 51, 55, 51, 56, 51, 57, 52, 48, 52, 49, 52, 50, 52, 51, 52, 52, 52, 53, 52, 54, 52, 55, 52, 56, 52, 57, 53, 48, 53, 49, 53, 50, 53, 51, 53, 52, 53, 53, 53, 54, 53, 55, 53, 56, 53, 57, 54, 48, 54, 49, 54, 50, 54, 51, 54, 52, 54, 53, 54, 54, 54, 55, 54, 56, 54, 57, 55, 48, 55, 49, 55, 50, 55, 51, 55, 52, 55, 53, 55, 54, 55, 55, 55, 56, 55, 57, 56, 48, 56, 49, 56, 50, 56, 51, 56, 52, 56, 53, 56, 54, 56, 55, 56, 56, 56, 57, 57, 48, 57, 49, 57, 50, 57, 51, 57, 52, 57, 53, 57, 54, 57, 55, 57, 56, 57, 57]).extract (Int.toNat (IntKind.wrap .i64 (a0 * (2 : Int)))) (Int.toNat (IntKind.wrap .i64 ((IntKind.wrap .i64 (a0 * (2 : Int))) + (2 : Int))))))) w)))) : Calls Tryz.prog 131 #[(.int .i64 a0)] w R :=
  calls_of_ev (args := [(.int .i64 a0)])
    (tc := .seq (.reg (.op .p (.nil))) (.seq (.seq (.reg (.op .p (.op .p (.nil)))) (.cond (.seq (.reg (.op .p (.op .p (.op .p (.op .sl (.op .p (.nil))))))) (.leaf)) (.leaf))) (.seq (.reg (.op .p (.op .p (.op .p (.op .p (.op .p (.op .sl (.op .p (.nil))))))))) (.leaf))))
    (by kernel_rfl) Tryz.func131 (by kernel_rfl) (by kernel_rfl) (by kernel_rfl) (by kernel_rfl) h

end Go.Proofs.YtmdandkoajocpaaGreatDoor
