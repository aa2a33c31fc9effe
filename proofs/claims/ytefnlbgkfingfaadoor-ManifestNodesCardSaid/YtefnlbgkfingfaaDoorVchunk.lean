/- Verification conditions of functions, printed by the session's own program vc.py: out of each, Calls (conditions: none). -/
import Derived.Test.YtefnlbgkfingfaaDoorRows
import Derived.Test.YtefnlbgkfingfaaDoorSxD
namespace Go.Proofs.YtefnlbgkfingfaaDoor
open Go Go.Proofs.YtefnlbgkfingfaaDoor.Sx

set_option maxRecDepth 100000 in
theorem slices_Chunk_api_Id_api_Id_vc (a0a : Option Addr) (a0n : Nat) (a0c : Nat) (a1 : Int) (w : World) (R : Ending → World → Prop) (h :
  ∃ (g2 : Nat) (w1 : World), (Instr.box 30 (.slice a0a a0n a0c)).run Tryd.prog w = .ok (.pointer (some ⟨g2, 0, none⟩)) w1 ∧
  (∃ (g3 : Nat) (w2 : World), (Instr.box 3 (.int .i64 a1)).run Tryd.prog w1 = .ok (.pointer (some ⟨g3, 0, none⟩)) w2 ∧
    (∃ (t5 : Int), (Instr.loadAt 3 (.pointer (some ⟨g3, 0, none⟩))).run Tryd.prog w2 = .ok (.int .i64 t5) w2 ∧
      (∃ J : World → Prop, (((decide (t5 < (1 : Int))) = true →
            (False)) ∧
          ((decide (t5 < (1 : Int))) = false →
            (J  w2))) ∧
        (∀ w3 : World, J  w3 →
          (∃ (t8 : Value) (w4 : World), (Instr.makeFunc (.func 43) #[] #[(.pointer (some ⟨g2, 0, none⟩)), (.pointer (some ⟨g3, 0, none⟩))]).run Tryd.prog w3 = .ok t8 w4 ∧
            (R (.returned t8) w4))))))) : Calls Tryd.prog 29 #[(.slice a0a a0n a0c), (.int .i64 a1)] w R :=
  calls_of_ev (args := [(.slice a0a a0n a0c), (.int .i64 a1)])
    (tc := .seq (.reg (.op .bx (.op .bx (.op .p (.nil))))) (.seq (.seq (.reg (.op (.ld (.int .i64)) (.op .p (.nil)))) (.join [7] [] [] (.cond (.reg (.op .p (.op .bx (.nil)))) (.leaf)))) (.seq (.reg (.op (.r (.val)) (.op .p (.nil)))) (.leaf))))
    (by kernel_rfl) Tryd.func29 (by kernel_rfl) (by kernel_rfl) (by kernel_rfl) (by kernel_rfl) h

set_option maxRecDepth 100000 in
theorem slices_Chunk_api_Id_api_Id_1_vc (l : Nat) (a1b : Nat) (a1o : Nat) (a2b : Nat) (a2o : Nat) (w : World) (R : Ending → World → Prop) (h :
  ∃ (I : List Nat → Int → World → Prop) (μ : Int → World → Nat), I ([]) 0 w ∧
  (∀ (x4 : Int), ∀ (ds : List Nat) (w1 : World), I ds x4 w1 →
    (∃ (t7a : Option Addr) (t7n : Nat) (t7c : Nat), (Instr.loadAt 30 (.pointer (some ⟨a1b, a1o, none⟩))).run Tryd.prog w1 = .ok (.slice t7a t7n t7c) w1 ∧
      (((decide (x4 < ((t7n : Nat) : Int))) = true →
          (∃ S : World → Prop, S w1.drew ∧
            (∃ (t13 : Int), (∀ w' : World, S w' → (Instr.loadAt 3 (.pointer (some ⟨a2b, a2o, none⟩))).run Tryd.prog w' = .ok (.int .i64 t13) w') ∧
              (∃ (t14a : Option Addr) (t14n : Nat) (t14c : Nat), (∀ w' : World, S w' → (Instr.loadAt 30 (.pointer (some ⟨a1b, a1o, none⟩))).run Tryd.prog w' = .ok (.slice t14a t14n t14c) w') ∧
                (0 ≤ x4 ∧ x4 ≤ ((t14n : Nat) : Int) ∧ ((t14n : Nat) : Int) ≤ ((t14c : Nat) : Int) ∧ ∀ t16a : Option Addr, SubA 32 t14a (Int.toNat x4) t14c t16a →
                  (∃ (t20a : Option Addr) (t20n : Nat) (t20c : Nat), (Instr.loadAt 30 (.pointer (some ⟨a1b, a1o, none⟩))).run Tryd.prog w1.drew = .ok (.slice t20a t20n t20c) w1.drew ∧
                    (0 ≤ x4 ∧ x4 ≤ (IntKind.wrap .i64 (x4 + (if ((((t14n) - (Int.toNat x4)) : Nat) : Int) < t13 then ((((t14n) - (Int.toNat x4)) : Nat) : Int) else t13))) ∧ (IntKind.wrap .i64 (x4 + (if ((((t14n) - (Int.toNat x4)) : Nat) : Int) < t13 then ((((t14n) - (Int.toNat x4)) : Nat) : Int) else t13))) ≤ (IntKind.wrap .i64 (x4 + (if ((((t14n) - (Int.toNat x4)) : Nat) : Int) < t13 then ((((t14n) - (Int.toNat x4)) : Nat) : Int) else t13))) ∧ (IntKind.wrap .i64 (x4 + (if ((((t14n) - (Int.toNat x4)) : Nat) : Int) < t13 then ((((t14n) - (Int.toNat x4)) : Nat) : Int) else t13))) ≤ ((t20c : Nat) : Int) ∧ ∀ t28a : Option Addr, SubA 32 t20a (Int.toNat x4) (Int.toNat (IntKind.wrap .i64 (x4 + (if ((((t14n) - (Int.toNat x4)) : Nat) : Int) < t13 then ((((t14n) - (Int.toNat x4)) : Nat) : Int) else t13)))) t28a →
                      (YieldAt Fence.wide 4 Tryd.prog l #[(.slice t28a ((Int.toNat (IntKind.wrap .i64 (x4 + (if ((((t14n) - (Int.toNat x4)) : Nat) : Int) < t13 then ((((t14n) - (Int.toNat x4)) : Nat) : Int) else t13)))) - (Int.toNat x4)) ((Int.toNat (IntKind.wrap .i64 (x4 + (if ((((t14n) - (Int.toNat x4)) : Nat) : Int) < t13 then ((((t14n) - (Int.toNat x4)) : Nat) : Int) else t13)))) - (Int.toNat x4)))] w1.drew fun (e29 : Ending) (w2 : World) => ∃ t29 : Bool, e29 = .returned (.bool t29) ∧
                        (((!t29) = true →
                            (downs Tryd.prog ds w2 fun (w3 : World) =>
                              ((∃ v : Value, Ending.returned (.tuple #[]) = .returned v) ∧ R (.returned (.tuple #[])) w3))) ∧
                          ((!t29) = false →
                            (∃ (t11 : Int), (Instr.loadAt 3 (.pointer (some ⟨a2b, a2o, none⟩))).run Tryd.prog w2 = .ok (.int .i64 t11) w2 ∧
                              (I ds (IntKind.wrap .i64 (x4 + t11)) w2 ∧ μ (IntKind.wrap .i64 (x4 + t11)) w2 < μ x4 w1)))))))))))) ∧
        ((decide (x4 < ((t7n : Nat) : Int))) = false →
          (downs Tryd.prog ds w1 fun (w4 : World) =>
            ((∃ v : Value, Ending.returned (.tuple #[]) = .returned v) ∧ R (.returned (.tuple #[])) w4))))))) : Calls Tryd.prog 43 #[(.func (.yield l) #[] #[]), (.pointer (some ⟨a1b, a1o, none⟩)), (.pointer (some ⟨a2b, a2o, none⟩))] w R :=
  callsD_of_ev (args := [(.func (.yield l) #[] #[]), (.pointer (some ⟨a1b, a1o, none⟩)), (.pointer (some ⟨a2b, a2o, none⟩))])
    (td := .seq (.c (.reg (.op .p (.nil)))) (.blk (.loop [4, 5, 6, 7, 8, 9, 10, 11, 12, 13, 14, 15, 16, 17, 18, 19, 20, 21, 22, 23, 24, 25, 26, 27, 28, 29, 30] [4] [.int .i64] (.seq (.c (.seq (.reg (.op .p (.op (.ld (.slice)) (.op .p (.op .p (.nil)))))) (.cond (.leaf) (.leaf)))) (.seq (.blk (.seq (.c (.drawS (.tk 2 .p (.ts 0 (.int .i64) (.ts 1 (.slice) (.tk 3 .sl (.tk 4 .p (.tk 5 .p (.tk 6 .p (.nil)))))))) [])) (.seq (.regY 10 (.op .p (.op (.ld (.slice)) (.op .p (.op .p (.op .p (.op .p (.op .p (.op .p (.op .p (.op .sl (.nil))))))))))) (.op .p (.nil))) (.c (.cond (.leaf) (.leaf)))))) (.c (.reg (.op .p (.op (.ld (.int .i64)) (.op .p (.op .p (.nil))))))))))))
    (by kernel_rfl) Tryd.func43 (by kernel_rfl) (by kernel_rfl) (by kernel_rfl) (by kernel_rfl) (by kernel_rfl) h

set_option maxRecDepth 100000 in
theorem manifest_Build_vc (a0 : Array Value) (a1a : Option Addr) (a1n : Nat) (a1c : Nat) (w : World) (R : Ending → World → Prop) (h :
  ∃ (g2 : Nat) (w1 : World), (Instr.box 28 (.agg a0)).run Tryd.prog w = .ok (.pointer (some ⟨g2, 0, none⟩)) w1 ∧
  (∃ (g5 : Nat) (w2 : World), (Instr.alloc 33 true (.tuple #[])).run Tryd.prog w1 = .ok (.pointer (some ⟨g5, 0, none⟩)) w2 ∧
    (((decide (((a1n : Nat) : Int) > (65536 : Int))) = true →
        (∃ (t16 : Array Value), (Instr.build 33 #[]).run Tryd.prog w2 = .ok (.agg t16) w2 ∧
          (∃ w3 : World, (Instr.storeAt 33 (.pointer (some ⟨g5, 0, none⟩)) (.agg t16)).run Tryd.prog w2 = .ok () w3 ∧
            (downs Tryd.prog ([]) w3 fun (w4 : World) =>
              (∃ r5 : Value, (loadVar 33 ⟨g5, 0, none⟩).run Tryd.prog w4 = .ok r5 w4 ∧
                ((∃ v : Value, Ending.returned (.tuple #[(.slice none 0 0), r5, (.iface 65 (.int .i64 19))]) = .returned v) ∧ R (.returned (.tuple #[(.slice none 0 0), r5, (.iface 65 (.int .i64 19))])) w4)))))) ∧
      ((decide (((a1n : Nat) : Int) > (65536 : Int))) = false →
        (∃ (g7 : Nat) (w5 : World), (Instr.alloc 32 true (.tuple #[])).run Tryd.prog w2 = .ok (.pointer (some ⟨g7, 0, none⟩)) w5 ∧
          (∃ (g8 : Nat) (w6 : World), (Instr.alloc 3 true (.tuple #[])).run Tryd.prog w5 = .ok (.pointer (some ⟨g8, 0, none⟩)) w6 ∧
            (∃ w7 : World, (Instr.storeAt 3 (.pointer (some ⟨g8, 0, none⟩)) (.int .i64 0)).run Tryd.prog w6 = .ok () w7 ∧
              (∃ (I : List Nat → Option Addr → Nat → Nat → Nat → Nat → World → Prop) (μ : Option Addr → Nat → Nat → Nat → Nat → World → Nat), I ([]) a1a a1n a1c g8 0 w7 ∧
                (∀ (x1a : Option Addr) (x1n : Nat) (x1c : Nat) (x8b : Nat) (x8o : Nat), ∀ (ds : List Nat) (w8 : World), I ds x1a x1n x1c x8b x8o w8 →
                  (∃ (g9 : Nat) (w9 : World), (Instr.alloc 30 true (.tuple #[])).run Tryd.prog w8 = .ok (.pointer (some ⟨g9, 0, none⟩)) w9 ∧
                    (Calls Tryd.prog 29 #[(.slice x1a x1n x1c), (.int .i64 16)] w9 fun (e21 : Ending) (w10 : World) => ∃ (t21 : Value), e21 = .returned t21 ∧
                      (∃ J : Nat → World → Prop, HoleOk Tryd.prog 55 (subC [1, 1, 1, 1, 0, 0, 0, 0, 1, 0, 1, 0] (Tryd.f12.body.getD .skip)) [(21, some t21), (9, some (.pointer (some ⟨g9, 0, none⟩))), (8, some (.pointer (some ⟨x8b, x8o, none⟩))), (7, some (.pointer (some ⟨g7, 0, none⟩))), (2, some (.pointer (some ⟨g2, 0, none⟩)))] ds w10 J ∧
                        (∀ (D : Nat) (w11 : World), J D w11 →
                          (((((x1n : Nat) : Int) == (0 : Int)) = true →
                              (∃ (t39 : Int), (Instr.loadAt 3 (.pointer (some ⟨x8b, x8o, none⟩))).run Tryd.prog w11 = .ok (.int .i64 t39) w11 ∧
                                (Calls Tryd.prog 30 #[(.int .i64 t39), (.slice none 0 0)] w11 fun (e40 : Ending) (w12 : World) => ∃ (t40a : Option Addr) (t40n : Nat) (t40c : Nat), e40 = .returned (.slice t40a t40n t40c) ∧
                                  (∃ (t42a : Option Addr) (t42n : Nat) (t42c : Nat) (w13 : World), (Instr.buildSlice 32 1 #[(0, (.slice t40a t40n t40c))]).run Tryd.prog w12 = .ok (.slice t42a t42n t42c) w13 ∧
                                    (∃ (t43 : Array Value), (Instr.loadAt 28 (.pointer (some ⟨g2, 0, none⟩))).run Tryd.prog w13 = .ok (.agg t43) w13 ∧
                                      (Calls Tryd.prog 26 #[(.agg t43), (.slice t40a t40n t40c)] w13 fun (e45 : Ending) (w14 : World) => ∃ (t45 : Array Value), e45 = .returned (.agg t45) ∧
                                        (∃ w15 : World, (Instr.storeAt 33 (.pointer (some ⟨g5, 0, none⟩)) (.agg t45)).run Tryd.prog w14 = .ok () w15 ∧
                                          (downs Tryd.prog (D :: ds) w15 fun (w16 : World) =>
                                            (∃ r5 : Value, (loadVar 33 ⟨g5, 0, none⟩).run Tryd.prog w16 = .ok r5 w16 ∧
                                              ((∃ v : Value, Ending.returned (.tuple #[(.slice t42a t42n t42c), r5, .nilIface]) = .returned v) ∧ R (.returned (.tuple #[(.slice t42a t42n t42c), r5, .nilIface])) w16)))))))))) ∧
                            ((((x1n : Nat) : Int) == (0 : Int)) = false →
                              (∃ (t46a : Option Addr) (t46n : Nat) (t46c : Nat), (Instr.loadAt 30 (.pointer (some ⟨g9, 0, none⟩))).run Tryd.prog w11 = .ok (.slice t46a t46n t46c) w11 ∧
                                (((((t46n : Nat) : Int) == (1 : Int)) = true →
                                    (∃ S : World → Prop, S w11.drew ∧
                                      (∃ (t49a : Option Addr) (t49n : Nat) (t49c : Nat), (∀ w' : World, S w' → (Instr.loadAt 32 (.pointer (some ⟨g7, 0, none⟩))).run Tryd.prog w' = .ok (.slice t49a t49n t49c) w') ∧
                                        (∃ (t50a : Option Addr) (t50n : Nat) (t50c : Nat), (∀ w' : World, S w' → (Instr.loadAt 30 (.pointer (some ⟨g9, 0, none⟩))).run Tryd.prog w' = .ok (.slice t50a t50n t50c) w') ∧
                                          (∃ (t51b t51o : Nat), t50a = some ⟨t51b, t51o, none⟩ ∧ 0 ≤ (0 : Int) ∧ (0 : Int) < ((t50n : Nat) : Int) ∧
                                            (∃ (t52 : Array Value), (∀ w' : World, S w' → (Instr.loadAt 33 (.pointer (some ⟨t51b, t51o + Int.toNat (0 : Int) * 32, none⟩))).run Tryd.prog w' = .ok (.agg t52) w') ∧
                                              (∃ w17 : World, (Instr.storeAt 33 (.pointer (some ⟨g5, 0, none⟩)) (.agg t52)).run Tryd.prog w11.drew = .ok () w17 ∧
                                                (downs Tryd.prog (D :: ds) w17 fun (w18 : World) =>
                                                  (∃ r5 : Value, (loadVar 33 ⟨g5, 0, none⟩).run Tryd.prog w18 = .ok r5 w18 ∧
                                                    ((∃ v : Value, Ending.returned (.tuple #[(.slice t49a t49n t49c), r5, .nilIface]) = .returned v) ∧ R (.returned (.tuple #[(.slice t49a t49n t49c), r5, .nilIface])) w18)))))))))) ∧
                                  ((((t46n : Nat) : Int) == (1 : Int)) = false →
                                    (∃ (t53a : Option Addr) (t53n : Nat) (t53c : Nat), (Instr.loadAt 30 (.pointer (some ⟨g9, 0, none⟩))).run Tryd.prog w11 = .ok (.slice t53a t53n t53c) w11 ∧
                                      (∃ (t54 : Int), (Instr.loadAt 3 (.pointer (some ⟨x8b, x8o, none⟩))).run Tryd.prog w11 = .ok (.int .i64 t54) w11 ∧
                                        (∃ (g8_1 : Nat) (w19 : World), (Instr.alloc 3 true (.tuple #[])).run Tryd.prog w11 = .ok (.pointer (some ⟨g8_1, 0, none⟩)) w19 ∧
                                          (∃ w20 : World, (Instr.storeAt 3 (.pointer (some ⟨g8_1, 0, none⟩)) (.int .i64 t54)).run Tryd.prog w19 = .ok () w20 ∧
                                            (∃ (t18 : Int), (Instr.loadAt 3 (.pointer (some ⟨g8_1, 0, none⟩))).run Tryd.prog w20 = .ok (.int .i64 t18) w20 ∧
                                              (∃ w21 : World, (Instr.storeAt 3 (.pointer (some ⟨g8_1, 0, none⟩)) (.int .i64 (IntKind.wrap .i64 (t18 + (1 : Int))))).run Tryd.prog w20 = .ok () w21 ∧
                                                (I (D :: ds) t53a t53n t53c g8_1 0 w21 ∧ μ t53a t53n t53c g8_1 0 w21 < μ x1a x1n x1c x8b x8o w8))))))))))))))))))))))))) : Calls Tryd.prog 12 #[(.agg a0), (.slice a1a a1n a1c)] w R :=
  callsD_of_ev (args := [(.agg a0), (.slice a1a a1n a1c)])
    (td := .seq (.c (.reg (.op .bx (.op .p (.op .bx (.op .p (.nil))))))) (.seq (.c (.seq (.reg (.op .p (.op .p (.op .p (.nil))))) (.cond (.seq (.reg (.op (.ld (.agg)) (.op .p (.op .p (.op .u (.op .p (.nil))))))) (.leaf)) (.leaf)))) (.seq (.c (.reg (.op .bx (.nil)))) (.seq (.c (.reg (.op .bx (.op .u (.nil))))) (.blk (.loop [1, 4, 6, 8, 9, 12, 18, 19, 20, 21, 36, 37, 38, 39, 40, 41, 42, 43, 44, 45, 46, 47, 48, 49, 50, 51, 52, 53, 54] [1, 8] [.slice, .ptr] (.seq (.blk (.seq (.c (.reg (.op .bx (.nil)))) (.seq (.seq (.c (.reg (.op .p (.op (.cl [.val]) (.nil))))) (.blk (.hole [21, 9, 8, 7, 2]))) (.c (.seq (.seq (.reg (.op .p (.op .p (.op .p (.nil))))) (.cond (.seq (.reg (.op (.ld (.int .i64)) (.op (.cl [.slice]) (.op .p (.nil))))) (.seq (.reg (.op .p (.op (.r (.slice)) (.op (.ld (.agg)) (.op .p (.op (.cl [.agg]) (.op .p (.op .u (.op .p (.nil)))))))))) (.leaf))) (.leaf))) (.seq (.seq (.reg (.op (.ld (.slice)) (.op .p (.op .p (.nil))))) (.cond (.seq (.drawS (.ts 0 (.slice) (.tk 4 .p (.ts 1 (.slice) (.tk 2 .ix (.ts 3 (.agg) (.go 5 .u (.tk 6 .p (.nil)))))))) [5, 6]) (.leaf)) (.leaf))) (.reg (.op (.ld (.slice)) (.op .p (.nil)))))))))) (.c (.seq (.seq (.reg (.op (.ld (.int .i64)) (.nil))) (.reg (.op .bx (.op .u (.nil))))) (.reg (.op (.ld (.int .i64)) (.op .p (.op .u (.nil))))))))))))))
    (by kernel_rfl) Tryd.func12 (by kernel_rfl) (by kernel_rfl) (by kernel_rfl) (by kernel_rfl) (by kernel_rfl) h

set_option maxRecDepth 100000 in
theorem manifest_Build_vc_round0 (xa : Option Addr) (xn : Nat) (xc : Nat) (c21 : Value) (c9b : Nat) (c9o : Nat) (c8b : Nat) (c8o : Nat) (c7b : Nat) (c7o : Nat) (c2b : Nat) (c2o : Nat) (w : World) (K : World → Prop) (h :
  ∃ (t23 : Int), (Instr.loadAt 3 (.pointer (some ⟨c8b, c8o, none⟩))).run Tryd.prog w = .ok (.int .i64 t23) w ∧
  (Calls Tryd.prog 30 #[(.int .i64 t23), (.slice xa xn xc)] w fun (e25 : Ending) (w1 : World) => ∃ (t25a : Option Addr) (t25n : Nat) (t25c : Nat), e25 = .returned (.slice t25a t25n t25c) ∧
    (∃ (t26a : Option Addr) (t26n : Nat) (t26c : Nat), (Instr.loadAt 32 (.pointer (some ⟨c7b, c7o, none⟩))).run Tryd.prog w1 = .ok (.slice t26a t26n t26c) w1 ∧
      (∃ (t28a : Option Addr) (t28n : Nat) (t28c : Nat) (w2 : World), (Instr.buildSlice 32 1 #[(0, (.slice t25a t25n t25c))]).run Tryd.prog w1 = .ok (.slice t28a t28n t28c) w2 ∧
        (∃ (t29a : Option Addr) (t29n : Nat) (t29c : Nat) (w3 : World), (Builtin.append_ #[32, 32] 32 #[(.slice t26a t26n t26c), (.slice t28a t28n t28c)]).run Tryd.prog w2 = .ok (.slice t29a t29n t29c) w3 ∧
          (∃ w4 : World, (Instr.storeAt 32 (.pointer (some ⟨c7b, c7o, none⟩)) (.slice t29a t29n t29c)).run Tryd.prog w3 = .ok () w4 ∧
            (∃ S : World → Prop, S w4.drew ∧
              (∃ (t30a : Option Addr) (t30n : Nat) (t30c : Nat), (∀ w' : World, S w' → (Instr.loadAt 30 (.pointer (some ⟨c9b, c9o, none⟩))).run Tryd.prog w' = .ok (.slice t30a t30n t30c) w') ∧
                (∃ (t31 : Array Value), (∀ w' : World, S w' → (Instr.loadAt 28 (.pointer (some ⟨c2b, c2o, none⟩))).run Tryd.prog w' = .ok (.agg t31) w') ∧
                  (Calls Tryd.prog 26 #[(.agg t31), (.slice t25a t25n t25c)] w4.drew fun (e33 : Ending) (w5 : World) => ∃ (t33 : Array Value), e33 = .returned (.agg t33) ∧
                    (∃ S_1 : World → Prop, (∀ w' : World, S_1 w' → S w') ∧ S_1 w5 ∧
                      (∃ (t34a : Option Addr) (t34n : Nat) (t34c : Nat) (w6 : World), (Instr.buildSlice 30 1 #[(0, (.agg t33))]).run Tryd.prog w5 = .ok (.slice t34a t34n t34c) w6 ∧
                        (∃ S_2 : World → Prop, (∀ w' : World, S_2 w' → S_1 w') ∧ S_2 w6 ∧
                          (∃ (t35a : Option Addr) (t35n : Nat) (t35c : Nat) (w7 : World), (Builtin.append_ #[30, 30] 30 #[(.slice t30a t30n t30c), (.slice t34a t34n t34c)]).run Tryd.prog w6 = .ok (.slice t35a t35n t35c) w7 ∧
                            (∃ S_3 : World → Prop, (∀ w' : World, S_3 w' → S_2 w') ∧ S_3 w7 ∧
                              (∃ w8 : World, (Instr.storeAt 30 (.pointer (some ⟨c9b, c9o, none⟩)) (.slice t35a t35n t35c)).run Tryd.prog w7 = .ok () w8 ∧
                                (K w8))))))))))))))))) : evC Tryd.prog 55 (.blk (.seq (.reg (.op (.ld (.int .i64)) (.op .p (.op (.cl [.slice]) (.op .p (.nil)))))) (.seq (.reg (.op (.ld (.slice)) (.op .p (.op (.r (.slice)) (.op (.r (.slice)) (.op .u (.nil))))))) (.drawS (.tk 2 .p (.ts 0 (.slice) (.ts 1 (.agg) (.go 3 (.cl [.agg]) (.go 4 (.r (.slice)) (.go 5 (.r (.slice)) (.go 6 .u (.nil)))))))) [6])))) (subC [1, 1, 1, 1, 0, 0, 0, 0, 1, 0, 1, 0, 1] (Tryd.f12.body.getD .skip)) [(10, some (.slice xa xn xc)), (22, some (.slice xa xn xc)), (21, some c21), (9, some (.pointer (some ⟨c9b, c9o, none⟩))), (8, some (.pointer (some ⟨c8b, c8o, none⟩))), (7, some (.pointer (some ⟨c7b, c7o, none⟩))), (2, some (.pointer (some ⟨c2b, c2o, none⟩)))] w fun e _ w' => roundK e (K w') := by
  have hV : evC Tryd.prog 55 (.blk (.seq (.reg (.op (.ld (.int .i64)) (.op .p (.op (.cl [.slice]) (.op .p (.nil)))))) (.seq (.reg (.op (.ld (.slice)) (.op .p (.op (.r (.slice)) (.op (.r (.slice)) (.op .u (.nil))))))) (.drawS (.tk 2 .p (.ts 0 (.slice) (.ts 1 (.agg) (.go 3 (.cl [.agg]) (.go 4 (.r (.slice)) (.go 5 (.r (.slice)) (.go 6 .u (.nil)))))))) [6])))) (subC [1, 1, 1, 1, 0, 0, 0, 0, 1, 0, 1, 0, 1] (Tryd.f12.body.getD .skip)) [(10, some (.slice xa xn xc)), (22, some (.slice xa xn xc)), (21, some c21), (9, some (.pointer (some ⟨c9b, c9o, none⟩))), (8, some (.pointer (some ⟨c8b, c8o, none⟩))), (7, some (.pointer (some ⟨c7b, c7o, none⟩))), (2, some (.pointer (some ⟨c2b, c2o, none⟩)))] w (fun e _ w' => roundK e (K w')) =
    (∃ (t23 : Int), (Instr.loadAt 3 (.pointer (some ⟨c8b, c8o, none⟩))).run Tryd.prog w = .ok (.int .i64 t23) w ∧
(Calls Tryd.prog 30 #[(.int .i64 t23), (.slice xa xn xc)] w fun (e25 : Ending) (w1 : World) => ∃ (t25a : Option Addr) (t25n : Nat) (t25c : Nat), e25 = .returned (.slice t25a t25n t25c) ∧
(∃ (t26a : Option Addr) (t26n : Nat) (t26c : Nat), (Instr.loadAt 32 (.pointer (some ⟨c7b, c7o, none⟩))).run Tryd.prog w1 = .ok (.slice t26a t26n t26c) w1 ∧
(∃ (t28a : Option Addr) (t28n : Nat) (t28c : Nat) (w2 : World), (Instr.buildSlice 32 1 #[(0, (.slice t25a t25n t25c))]).run Tryd.prog w1 = .ok (.slice t28a t28n t28c) w2 ∧
(∃ (t29a : Option Addr) (t29n : Nat) (t29c : Nat) (w3 : World), (Builtin.append_ #[32, 32] 32 #[(.slice t26a t26n t26c), (.slice t28a t28n t28c)]).run Tryd.prog w2 = .ok (.slice t29a t29n t29c) w3 ∧
(∃ w4 : World, (Instr.storeAt 32 (.pointer (some ⟨c7b, c7o, none⟩)) (.slice t29a t29n t29c)).run Tryd.prog w3 = .ok () w4 ∧
(∃ S : World → Prop, S w4.drew ∧
(∃ (t30a : Option Addr) (t30n : Nat) (t30c : Nat), (∀ w' : World, S w' → (Instr.loadAt 30 (.pointer (some ⟨c9b, c9o, none⟩))).run Tryd.prog w' = .ok (.slice t30a t30n t30c) w') ∧
(∃ (t31 : Array Value), (∀ w' : World, S w' → (Instr.loadAt 28 (.pointer (some ⟨c2b, c2o, none⟩))).run Tryd.prog w' = .ok (.agg t31) w') ∧
(Calls Tryd.prog 26 #[(.agg t31), (.slice t25a t25n t25c)] w4.drew fun (e33 : Ending) (w5 : World) => ∃ (t33 : Array Value), e33 = .returned (.agg t33) ∧
(∃ S_1 : World → Prop, (∀ w' : World, S_1 w' → S w') ∧ S_1 w5 ∧
(∃ (t34a : Option Addr) (t34n : Nat) (t34c : Nat) (w6 : World), (Instr.buildSlice 30 1 #[(0, (.agg t33))]).run Tryd.prog w5 = .ok (.slice t34a t34n t34c) w6 ∧
(∃ S_2 : World → Prop, (∀ w' : World, S_2 w' → S_1 w') ∧ S_2 w6 ∧
(∃ (t35a : Option Addr) (t35n : Nat) (t35c : Nat) (w7 : World), (Builtin.append_ #[30, 30] 30 #[(.slice t30a t30n t30c), (.slice t34a t34n t34c)]).run Tryd.prog w6 = .ok (.slice t35a t35n t35c) w7 ∧
(∃ S_3 : World → Prop, (∀ w' : World, S_3 w' → S_2 w') ∧ S_3 w7 ∧
(∃ w8 : World, (Instr.storeAt 30 (.pointer (some ⟨c9b, c9o, none⟩)) (.slice t35a t35n t35c)).run Tryd.prog w7 = .ok () w8 ∧
(K w8))))))))))))))))) := by kernel_rfl
  rw [hV]
  exact h

end Go.Proofs.YtefnlbgkfingfaaDoor
