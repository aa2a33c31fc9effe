/- Verification conditions of functions, printed by the session's own program vc.py: out of each, Calls (conditions: none). -/
import Derived.Test.YtmdandkoajocpaaGreatDoorRows
import Derived.Test.YtmdandkoajocpaaGreatDoorSxRun
namespace Go.Proofs.YtmdandkoajocpaaGreatDoor
open Go Go.Proofs.YtmdandkoajocpaaGreatDoor.Sx

set_option maxRecDepth 100000 in
theorem sha_begin_vc  (w : World) (R : Ending → World → Prop) (h :
  ∃ (g0 : Nat) (w1 : World), (Instr.alloc 268 true (.tuple #[])).run Tryz.prog w = .ok (.pointer (some ⟨g0, 0, none⟩)) w1 ∧
  (∃ (t1 : Array Value), (Instr.build 233 #[(0, (.int .u32 1779033703)), (1, (.int .u32 3144134277)), (2, (.int .u32 1013904242)), (3, (.int .u32 2773480762)), (4, (.int .u32 1359893119)), (5, (.int .u32 2600822924)), (6, (.int .u32 528734635)), (7, (.int .u32 1541459225))]).run Tryz.prog w1 = .ok (.agg t1) w1 ∧
    (∃ (t2 : Array Value), (Instr.build 268 #[(0, (.agg t1))]).run Tryz.prog w1 = .ok (.agg t2) w1 ∧
      (∃ w2 : World, (Instr.storeAt 268 (.pointer (some ⟨g0, 0, none⟩)) (.agg t2)).run Tryz.prog w1 = .ok () w2 ∧
        (∃ r0 : Value, (loadVar 268 ⟨g0, 0, none⟩).run Tryz.prog w2 = .ok r0 w2 ∧
          (R (.returned r0) w2)))))) : Calls Tryz.prog 181 #[] w R :=
  calls_of_ev (args := [])
    (tc := .seq (.reg (.op .bx (.nil))) (.seq (.reg (.op (.ld (.agg)) (.op (.ld (.agg)) (.op .u (.nil))))) (.leaf)))
    (by kernel_rfl) Tryz.func181 (by kernel_rfl) (by kernel_rfl) (by kernel_rfl) (by kernel_rfl) h

set_option maxRecDepth 100000 in
theorem sha_rotr_vc (a0 : Int) (a1 : Int) (w : World) (R : Ending → World → Prop) (h :
  Calls Tryz.prog 189 #[(.int .u32 a0), (.int .i64 (IntKind.wrap .i64 (0 - a1)))] w fun (e8 : Ending) (w1 : World) => ∃ (t8 : Int), e8 = .returned (.int .u32 t8) ∧
  (R (.returned (.int .u32 t8)) w1)) : Calls Tryz.prog 191 #[(.int .u32 a0), (.int .i64 a1)] w R :=
  calls_of_ev (args := [(.int .u32 a0), (.int .i64 a1)])
    (tc := .seq (.reg (.op .p (.nil))) (.seq (.reg (.op .p (.op .p (.op .p (.op (.cl [.int .u32]) (.op .p (.nil))))))) (.leaf)))
    (by kernel_rfl) Tryz.func191 (by kernel_rfl) (by kernel_rfl) (by kernel_rfl) (by kernel_rfl) h

set_option maxRecDepth 100000 in
theorem sha_schedule_vc (a0a : Option Addr) (a0n : Nat) (a0c : Nat) (w : World) (R : Ending → World → Prop) (h :
  ∃ (g2 : Nat) (w1 : World), (Instr.alloc 232 true (.tuple #[])).run Tryz.prog w = .ok (.pointer (some ⟨g2, 0, none⟩)) w1 ∧
  (∃ (g3 : Nat) (w2 : World), (Instr.alloc 232 true (.tuple #[])).run Tryz.prog w1 = .ok (.pointer (some ⟨g3, 0, none⟩)) w2 ∧
    (∃ (I : Int → World → Prop) (μ : Int → World → Nat), I 0 w2 ∧
      (∀ (x8 : Int), ∀ w3 : World, I x8 w3 →
        (((decide (x8 < (16 : Int))) = true →
            (∃ S : World → Prop, S w3.drew ∧
              (∃ (t15b t15o : Nat), a0a = some ⟨t15b, t15o, none⟩ ∧ 0 ≤ (IntKind.wrap .i64 ((4 : Int) * x8)) ∧ (IntKind.wrap .i64 ((4 : Int) * x8)) < ((a0n : Nat) : Int) ∧
                (∃ (t23b t23o : Nat), a0a = some ⟨t23b, t23o, none⟩ ∧ 0 ≤ (IntKind.wrap .i64 ((IntKind.wrap .i64 ((4 : Int) * x8)) + (1 : Int))) ∧ (IntKind.wrap .i64 ((IntKind.wrap .i64 ((4 : Int) * x8)) + (1 : Int))) < ((a0n : Nat) : Int) ∧
                  (∃ (t32b t32o : Nat), a0a = some ⟨t32b, t32o, none⟩ ∧ 0 ≤ (IntKind.wrap .i64 ((IntKind.wrap .i64 ((4 : Int) * x8)) + (2 : Int))) ∧ (IntKind.wrap .i64 ((IntKind.wrap .i64 ((4 : Int) * x8)) + (2 : Int))) < ((a0n : Nat) : Int) ∧
                    (∃ (t41b t41o : Nat), a0a = some ⟨t41b, t41o, none⟩ ∧ 0 ≤ (IntKind.wrap .i64 ((IntKind.wrap .i64 ((4 : Int) * x8)) + (3 : Int))) ∧ (IntKind.wrap .i64 ((IntKind.wrap .i64 ((4 : Int) * x8)) + (3 : Int))) < ((a0n : Nat) : Int) ∧
                      (∃ (t16 : Int), (∀ w' : World, S w' → (Instr.loadAt 5 (.pointer (some ⟨t15b, t15o + Int.toNat (IntKind.wrap .i64 ((4 : Int) * x8)) * 1, none⟩))).run Tryz.prog w' = .ok (.int .u8 t16) w') ∧
                        (∃ (t24 : Int), (∀ w' : World, S w' → (Instr.loadAt 5 (.pointer (some ⟨t23b, t23o + Int.toNat (IntKind.wrap .i64 ((IntKind.wrap .i64 ((4 : Int) * x8)) + (1 : Int))) * 1, none⟩))).run Tryz.prog w' = .ok (.int .u8 t24) w') ∧
                          (∃ (t33 : Int), (∀ w' : World, S w' → (Instr.loadAt 5 (.pointer (some ⟨t32b, t32o + Int.toNat (IntKind.wrap .i64 ((IntKind.wrap .i64 ((4 : Int) * x8)) + (2 : Int))) * 1, none⟩))).run Tryz.prog w' = .ok (.int .u8 t33) w') ∧
                            (∃ (t42 : Int), (∀ w' : World, S w' → (Instr.loadAt 5 (.pointer (some ⟨t41b, t41o + Int.toNat (IntKind.wrap .i64 ((IntKind.wrap .i64 ((4 : Int) * x8)) + (3 : Int))) * 1, none⟩))).run Tryz.prog w' = .ok (.int .u8 t42) w') ∧
                              (0 ≤ x8 ∧ x8 < (64 : Int) ∧
                                (∃ w4 : World, (Instr.storeAt 209 (.pointer (some ⟨g3, 0 + Int.toNat x8 * 1, none⟩)) (.int .u32 (bor .u32 (bor .u32 (bor .u32 (shlI .u32 (IntKind.wrap .u32 t16) (24 : Int)) (shlI .u32 (IntKind.wrap .u32 t24) (16 : Int))) (shlI .u32 (IntKind.wrap .u32 t33) (8 : Int))) (IntKind.wrap .u32 t42)))).run Tryz.prog w3.drew = .ok () w4 ∧
                                  (I (IntKind.wrap .i64 (x8 + (1 : Int))) w4 ∧ μ (IntKind.wrap .i64 (x8 + (1 : Int))) w4 < μ x8 w3))))))))))))) ∧
          ((decide (x8 < (16 : Int))) = false →
            (∃ (I_1 : Int → World → Prop) (μ_1 : Int → World → Nat), I_1 16 w3 ∧
              (∀ (x5 : Int), ∀ w5 : World, I_1 x5 w5 →
                (((decide (x5 < (64 : Int))) = true →
                    (∃ S : World → Prop, S w5.drew ∧
                      (0 ≤ (IntKind.wrap .i64 (x5 - (15 : Int))) ∧ (IntKind.wrap .i64 (x5 - (15 : Int))) < (64 : Int) ∧
                        (0 ≤ (IntKind.wrap .i64 (x5 - (15 : Int))) ∧ (IntKind.wrap .i64 (x5 - (15 : Int))) < (64 : Int) ∧
                          (0 ≤ (IntKind.wrap .i64 (x5 - (15 : Int))) ∧ (IntKind.wrap .i64 (x5 - (15 : Int))) < (64 : Int) ∧
                            (∃ (t54 : Int), (∀ w' : World, S w' → (Instr.loadAt 209 (.pointer (some ⟨g3, 0 + Int.toNat (IntKind.wrap .i64 (x5 - (15 : Int))) * 1, none⟩))).run Tryz.prog w' = .ok (.int .u32 t54) w') ∧
                              (∃ (t59 : Int), (∀ w' : World, S w' → (Instr.loadAt 209 (.pointer (some ⟨g3, 0 + Int.toNat (IntKind.wrap .i64 (x5 - (15 : Int))) * 1, none⟩))).run Tryz.prog w' = .ok (.int .u32 t59) w') ∧
                                (∃ (t65 : Int), (∀ w' : World, S w' → (Instr.loadAt 209 (.pointer (some ⟨g3, 0 + Int.toNat (IntKind.wrap .i64 (x5 - (15 : Int))) * 1, none⟩))).run Tryz.prog w' = .ok (.int .u32 t65) w') ∧
                                  (Calls Tryz.prog 191 #[(.int .u32 t54), (.int .i64 7)] w5.drew fun (e55 : Ending) (w6 : World) => ∃ (t55 : Int), e55 = .returned (.int .u32 t55) ∧
                                    (∃ S_1 : World → Prop, (∀ w' : World, S_1 w' → S w') ∧ S_1 w6 ∧
                                      (Calls Tryz.prog 191 #[(.int .u32 t59), (.int .i64 18)] w6 fun (e60 : Ending) (w7 : World) => ∃ (t60 : Int), e60 = .returned (.int .u32 t60) ∧
                                        (∃ S_2 : World → Prop, (∀ w' : World, S_2 w' → S_1 w') ∧ S_2 w7 ∧
                                          (∃ S_3 : World → Prop, S_3 w7.drew ∧
                                            (0 ≤ (IntKind.wrap .i64 (x5 - (2 : Int))) ∧ (IntKind.wrap .i64 (x5 - (2 : Int))) < (64 : Int) ∧
                                              (0 ≤ (IntKind.wrap .i64 (x5 - (2 : Int))) ∧ (IntKind.wrap .i64 (x5 - (2 : Int))) < (64 : Int) ∧
                                                (0 ≤ (IntKind.wrap .i64 (x5 - (2 : Int))) ∧ (IntKind.wrap .i64 (x5 - (2 : Int))) < (64 : Int) ∧
                                                  (∃ (t71 : Int), (∀ w' : World, S_3 w' → (Instr.loadAt 209 (.pointer (some ⟨g3, 0 + Int.toNat (IntKind.wrap .i64 (x5 - (2 : Int))) * 1, none⟩))).run Tryz.prog w' = .ok (.int .u32 t71) w') ∧
                                                    (∃ (t76 : Int), (∀ w' : World, S_3 w' → (Instr.loadAt 209 (.pointer (some ⟨g3, 0 + Int.toNat (IntKind.wrap .i64 (x5 - (2 : Int))) * 1, none⟩))).run Tryz.prog w' = .ok (.int .u32 t76) w') ∧
                                                      (∃ (t82 : Int), (∀ w' : World, S_3 w' → (Instr.loadAt 209 (.pointer (some ⟨g3, 0 + Int.toNat (IntKind.wrap .i64 (x5 - (2 : Int))) * 1, none⟩))).run Tryz.prog w' = .ok (.int .u32 t82) w') ∧
                                                        (Calls Tryz.prog 191 #[(.int .u32 t71), (.int .i64 17)] w7.drew fun (e72 : Ending) (w8 : World) => ∃ (t72 : Int), e72 = .returned (.int .u32 t72) ∧
                                                          (∃ S_4 : World → Prop, (∀ w' : World, S_4 w' → S_3 w') ∧ S_4 w8 ∧
                                                            (Calls Tryz.prog 191 #[(.int .u32 t76), (.int .i64 19)] w8 fun (e77 : Ending) (w9 : World) => ∃ (t77 : Int), e77 = .returned (.int .u32 t77) ∧
                                                              (∃ S_5 : World → Prop, (∀ w' : World, S_5 w' → S_4 w') ∧ S_5 w9 ∧
                                                                (∃ S_6 : World → Prop, S_6 w9.drew ∧
                                                                  (0 ≤ (IntKind.wrap .i64 (x5 - (7 : Int))) ∧ (IntKind.wrap .i64 (x5 - (7 : Int))) < (64 : Int) ∧
                                                                    (0 ≤ (IntKind.wrap .i64 (x5 - (16 : Int))) ∧ (IntKind.wrap .i64 (x5 - (16 : Int))) < (64 : Int) ∧
                                                                      (∃ (t90 : Int), (∀ w' : World, S_6 w' → (Instr.loadAt 209 (.pointer (some ⟨g3, 0 + Int.toNat (IntKind.wrap .i64 (x5 - (7 : Int))) * 1, none⟩))).run Tryz.prog w' = .ok (.int .u32 t90) w') ∧
                                                                        (∃ (t97 : Int), (∀ w' : World, S_6 w' → (Instr.loadAt 209 (.pointer (some ⟨g3, 0 + Int.toNat (IntKind.wrap .i64 (x5 - (16 : Int))) * 1, none⟩))).run Tryz.prog w' = .ok (.int .u32 t97) w') ∧
                                                                          (0 ≤ x5 ∧ x5 < (64 : Int) ∧
                                                                            (∃ w10 : World, (Instr.storeAt 209 (.pointer (some ⟨g3, 0 + Int.toNat x5 * 1, none⟩)) (.int .u32 (IntKind.wrap .u32 ((IntKind.wrap .u32 ((IntKind.wrap .u32 ((bxor .u32 (bxor .u32 t72 t77) (shrI .u32 t82 (10 : Int))) + t90)) + (bxor .u32 (bxor .u32 t55 t60) (shrI .u32 t65 (3 : Int))))) + t97)))).run Tryz.prog w9.drew = .ok () w10 ∧
                                                                              (I_1 (IntKind.wrap .i64 (x5 + (1 : Int))) w10 ∧ μ_1 (IntKind.wrap .i64 (x5 + (1 : Int))) w10 < μ_1 x5 w5))))))))))))))))))))))))))))))) ∧
                  ((decide (x5 < (64 : Int))) = false →
                    (∃ (t100 : Array Value), (Instr.loadAt 232 (.pointer (some ⟨g3, 0, none⟩))).run Tryz.prog w5 = .ok (.agg t100) w5 ∧
                      (∃ w11 : World, (Instr.storeAt 232 (.pointer (some ⟨g2, 0, none⟩)) (.agg t100)).run Tryz.prog w5 = .ok () w11 ∧
                        (∃ r2 : Value, (loadVar 232 ⟨g2, 0, none⟩).run Tryz.prog w11 = .ok r2 w11 ∧
                          (R (.returned r2) w11)))))))))))))) : Calls Tryz.prog 190 #[(.slice a0a a0n a0c)] w R :=
  calls_of_ev (args := [(.slice a0a a0n a0c)])
    (tc := .seq (.reg (.op .bx (.nil))) (.seq (.reg (.op .bx (.nil))) (.seq (.seq (.reg (.op .p (.nil))) (.blk (.loop [4, 8, 9, 10, 11, 12, 13, 14, 15, 16, 17, 18, 19, 20, 21, 22, 23, 24, 25, 26, 27, 28, 29, 30, 31, 32, 33, 34, 35, 36, 37, 38, 39, 40, 41, 42, 43, 44, 45, 46] [8] [.int .i64] (.seq (.reg (.op .p (.nil))) (.seq (.cond (.leaf) (.leaf)) (.seq (.blk (.seq (.reg (.op .p (.op .p (.nil)))) (.drawS (.tk 0 .p (.tk 1 .p (.tk 2 .p (.tk 3 .p (.tk 4 .ix (.tk 8 .p (.tk 9 .p (.tk 10 .p (.tk 11 .p (.tk 12 .ix (.tk 17 .p (.tk 18 .p (.tk 19 .p (.tk 20 .p (.tk 21 .ix (.tk 26 .p (.tk 27 .p (.tk 28 .p (.tk 29 .p (.tk 30 .ix (.ts 5 (.int .u8) (.tk 6 .p (.tk 7 .p (.ts 13 (.int .u8) (.tk 14 .p (.tk 15 .p (.tk 16 .p (.ts 22 (.int .u8) (.tk 23 .p (.tk 24 .p (.tk 25 .p (.ts 31 (.int .u8) (.tk 32 .p (.tk 33 .p (.tk 34 .ix (.go 35 .u (.nil))))))))))))))))))))))))))))))))))))) [35]))) (.reg (.op .p (.op .p (.nil)))))))))) (.seq (.seq (.reg (.op .p (.nil))) (.blk (.loop [5, 6, 7, 47, 48, 49, 50, 51, 52, 53, 54, 55, 56, 57, 58, 59, 60, 61, 62, 63, 64, 65, 66, 67, 68, 69, 70, 71, 72, 73, 74, 75, 76, 77, 78, 79, 80, 81, 82, 83, 84, 85, 86, 87, 88, 89, 90, 91, 92, 93, 94, 95, 96, 97, 98, 99] [5] [.int .i64] (.seq (.seq (.reg (.op .p (.op .p (.nil)))) (.cond (.leaf) (.leaf))) (.seq (.blk (.seq (.drawS (.tk 0 .p (.tk 1 .p (.tk 2 .ix (.tk 5 .p (.tk 6 .p (.tk 7 .ix (.tk 11 .p (.tk 12 .p (.tk 13 .ix (.ts 3 (.int .u32) (.ts 8 (.int .u32) (.ts 14 (.int .u32) (.tk 15 .p (.go 4 (.cl [.int .u32]) (.go 9 (.cl [.int .u32]) (.tk 10 .p (.tk 16 .p (.tk 17 .p (.nil))))))))))))))))))) []) (.seq (.drawS (.tk 0 .p (.tk 1 .p (.tk 2 .ix (.tk 5 .p (.tk 6 .p (.tk 7 .ix (.tk 11 .p (.tk 12 .p (.tk 13 .ix (.ts 3 (.int .u32) (.ts 8 (.int .u32) (.ts 14 (.int .u32) (.tk 15 .p (.go 4 (.cl [.int .u32]) (.go 9 (.cl [.int .u32]) (.tk 10 .p (.tk 16 .p (.tk 17 .p (.nil))))))))))))))))))) []) (.drawS (.tk 0 .p (.tk 1 .p (.tk 2 .p (.tk 3 .p (.tk 4 .ix (.tk 7 .p (.tk 9 .p (.tk 10 .p (.tk 11 .ix (.ts 5 (.int .u32) (.tk 6 .p (.tk 8 .p (.ts 12 (.int .u32) (.tk 13 .p (.tk 14 .ix (.go 15 .u (.nil))))))))))))))))) [15])))) (.reg (.op .p (.op .p (.op .p (.nil)))))))))) (.seq (.reg (.op (.ld (.agg)) (.op .u (.nil)))) (.leaf))))))
    (by kernel_rfl) Tryz.func190 (by kernel_rfl) (by kernel_rfl) (by kernel_rfl) (by kernel_rfl) h

set_option maxRecDepth 100000 in
theorem sha_state_block_vc (a0b : Nat) (a0o : Nat) (a1a : Option Addr) (a1n : Nat) (a1c : Nat) (w : World) (R : Ending → World → Prop) (h :
  Calls Tryz.prog 190 #[(.slice a1a a1n a1c)] w fun (e19 : Ending) (w1 : World) => ∃ (t19 : Array Value), e19 = .returned (.agg t19) ∧
  (∃ (g4 : Nat) (w2 : World), (Instr.alloc 232 true (.tuple #[])).run Tryz.prog w1 = .ok (.pointer (some ⟨g4, 0, none⟩)) w2 ∧
    (∃ w3 : World, (Instr.storeAt 232 (.pointer (some ⟨g4, 0, none⟩)) (.agg t19)).run Tryz.prog w2 = .ok () w3 ∧
      (∃ S : World → Prop, S w3.drew ∧
        (∃ (t24 : Int), (∀ w' : World, S w' → (Instr.loadAt 209 (.pointer (some ⟨a0b, a0o, none⟩))).run Tryz.prog w' = .ok (.int .u32 t24) w') ∧
          (∃ (t29 : Int), (∀ w' : World, S w' → (Instr.loadAt 209 (.pointer (some ⟨a0b, a0o + 1, none⟩))).run Tryz.prog w' = .ok (.int .u32 t29) w') ∧
            (∃ (t34 : Int), (∀ w' : World, S w' → (Instr.loadAt 209 (.pointer (some ⟨a0b, a0o + 2, none⟩))).run Tryz.prog w' = .ok (.int .u32 t34) w') ∧
              (∃ (t39 : Int), (∀ w' : World, S w' → (Instr.loadAt 209 (.pointer (some ⟨a0b, a0o + 3, none⟩))).run Tryz.prog w' = .ok (.int .u32 t39) w') ∧
                (∃ (t44 : Int), (∀ w' : World, S w' → (Instr.loadAt 209 (.pointer (some ⟨a0b, a0o + 4, none⟩))).run Tryz.prog w' = .ok (.int .u32 t44) w') ∧
                  (∃ (t49 : Int), (∀ w' : World, S w' → (Instr.loadAt 209 (.pointer (some ⟨a0b, a0o + 5, none⟩))).run Tryz.prog w' = .ok (.int .u32 t49) w') ∧
                    (∃ (t54 : Int), (∀ w' : World, S w' → (Instr.loadAt 209 (.pointer (some ⟨a0b, a0o + 6, none⟩))).run Tryz.prog w' = .ok (.int .u32 t54) w') ∧
                      (∃ (t59 : Int), (∀ w' : World, S w' → (Instr.loadAt 209 (.pointer (some ⟨a0b, a0o + 7, none⟩))).run Tryz.prog w' = .ok (.int .u32 t59) w') ∧
                        (∃ (I : Int → Int → Int → Int → Int → Int → Int → Int → Int → World → Prop) (μ : Int → Int → Int → Int → Int → Int → Int → Int → Int → World → Nat), I t24 t29 t34 t39 t44 t49 t54 t59 0 w3.drew ∧
                          (∀ (x5 : Int) (x6 : Int) (x7 : Int) (x8 : Int) (x9 : Int) (x10 : Int) (x11 : Int) (x12 : Int) (x60 : Int), ∀ w4 : World, I x5 x6 x7 x8 x9 x10 x11 x12 x60 w4 →
                            (((decide (x60 < (64 : Int))) = true →
                                (∃ S_1 : World → Prop, S_1 w4.drew ∧
                                  (0 ≤ x60 ∧ x60 < (64 : Int) ∧
                                    (0 ≤ x60 ∧ x60 < (64 : Int) ∧
                                      (∃ (t84 : Int), (∀ w' : World, S_1 w' → (Instr.loadAt 209 (.pointer (some ⟨5, 0 + Int.toNat x60 * 1, none⟩))).run Tryz.prog w' = .ok (.int .u32 t84) w') ∧
                                        (∃ (t88 : Int), (∀ w' : World, S_1 w' → (Instr.loadAt 209 (.pointer (some ⟨g4, 0 + Int.toNat x60 * 1, none⟩))).run Tryz.prog w' = .ok (.int .u32 t88) w') ∧
                                          (Calls Tryz.prog 191 #[(.int .u32 x9), (.int .i64 6)] w4.drew fun (e65 : Ending) (w5 : World) => ∃ (t65 : Int), e65 = .returned (.int .u32 t65) ∧
                                            (∃ S_2 : World → Prop, (∀ w' : World, S_2 w' → S_1 w') ∧ S_2 w5 ∧
                                              (Calls Tryz.prog 191 #[(.int .u32 x9), (.int .i64 11)] w5 fun (e67 : Ending) (w6 : World) => ∃ (t67 : Int), e67 = .returned (.int .u32 t67) ∧
                                                (∃ S_3 : World → Prop, (∀ w' : World, S_3 w' → S_2 w') ∧ S_3 w6 ∧
                                                  (Calls Tryz.prog 191 #[(.int .u32 x9), (.int .i64 25)] w6 fun (e70 : Ending) (w7 : World) => ∃ (t70 : Int), e70 = .returned (.int .u32 t70) ∧
                                                    (∃ S_4 : World → Prop, (∀ w' : World, S_4 w' → S_3 w') ∧ S_4 w7 ∧
                                                      (Calls Tryz.prog 191 #[(.int .u32 x5), (.int .i64 2)] w7 fun (e91 : Ending) (w8 : World) => ∃ (t91 : Int), e91 = .returned (.int .u32 t91) ∧
                                                        (Calls Tryz.prog 191 #[(.int .u32 x5), (.int .i64 13)] w8 fun (e93 : Ending) (w9 : World) => ∃ (t93 : Int), e93 = .returned (.int .u32 t93) ∧
                                                          (Calls Tryz.prog 191 #[(.int .u32 x5), (.int .i64 22)] w9 fun (e96 : Ending) (w10 : World) => ∃ (t96 : Int), e96 = .returned (.int .u32 t96) ∧
                                                            (I (IntKind.wrap .u32 ((IntKind.wrap .u32 ((IntKind.wrap .u32 ((IntKind.wrap .u32 ((IntKind.wrap .u32 (x12 + (bxor .u32 (bxor .u32 t65 t67) t70))) + (bxor .u32 (band .u32 x9 x10) (band .u32 (bxor .u32 ((IntKind.max .u32)) x9) x11)))) + t84)) + t88)) + (IntKind.wrap .u32 ((bxor .u32 (bxor .u32 t91 t93) t96) + (bxor .u32 (bxor .u32 (band .u32 x5 x6) (band .u32 x5 x7)) (band .u32 x6 x7)))))) x5 x6 x7 (IntKind.wrap .u32 (x8 + (IntKind.wrap .u32 ((IntKind.wrap .u32 ((IntKind.wrap .u32 ((IntKind.wrap .u32 (x12 + (bxor .u32 (bxor .u32 t65 t67) t70))) + (bxor .u32 (band .u32 x9 x10) (band .u32 (bxor .u32 ((IntKind.max .u32)) x9) x11)))) + t84)) + t88)))) x9 x10 x11 (IntKind.wrap .i64 (x60 + (1 : Int))) w10 ∧ μ (IntKind.wrap .u32 ((IntKind.wrap .u32 ((IntKind.wrap .u32 ((IntKind.wrap .u32 ((IntKind.wrap .u32 (x12 + (bxor .u32 (bxor .u32 t65 t67) t70))) + (bxor .u32 (band .u32 x9 x10) (band .u32 (bxor .u32 ((IntKind.max .u32)) x9) x11)))) + t84)) + t88)) + (IntKind.wrap .u32 ((bxor .u32 (bxor .u32 t91 t93) t96) + (bxor .u32 (bxor .u32 (band .u32 x5 x6) (band .u32 x5 x7)) (band .u32 x6 x7)))))) x5 x6 x7 (IntKind.wrap .u32 (x8 + (IntKind.wrap .u32 ((IntKind.wrap .u32 ((IntKind.wrap .u32 ((IntKind.wrap .u32 (x12 + (bxor .u32 (bxor .u32 t65 t67) t70))) + (bxor .u32 (band .u32 x9 x10) (band .u32 (bxor .u32 ((IntKind.max .u32)) x9) x11)))) + t84)) + t88)))) x9 x10 x11 (IntKind.wrap .i64 (x60 + (1 : Int))) w10 < μ x5 x6 x7 x8 x9 x10 x11 x12 x60 w4)))))))))))))))) ∧
                              ((decide (x60 < (64 : Int))) = false →
                                (∃ (t131 : Array Value), (Instr.build 233 #[(0, (.int .u32 x5)), (1, (.int .u32 x6)), (2, (.int .u32 x7)), (3, (.int .u32 x8)), (4, (.int .u32 x9)), (5, (.int .u32 x10)), (6, (.int .u32 x11)), (7, (.int .u32 x12))]).run Tryz.prog w4 = .ok (.agg t131) w4 ∧
                                  (∃ (I_1 : Int → World → Prop) (μ_1 : Int → World → Nat), I_1 0 w4 ∧
                                    (∀ (x132 : Int), ∀ w11 : World, I_1 x132 w11 →
                                      (((decide (x132 < (8 : Int))) = true →
                                          (∃ (t135 : Int), (Instr.index 233 (.agg t131) (.int .i64 x132)).run Tryz.prog w11 = .ok (.int .u32 t135) w11 ∧
                                            (∃ S_1 : World → Prop, S_1 w11.drew ∧
                                              (0 ≤ x132 ∧ x132 < (8 : Int) ∧
                                                (∃ (t141 : Int), (∀ w' : World, S_1 w' → (Instr.loadAt 209 (.pointer (some ⟨a0b, a0o + Int.toNat x132 * 1, none⟩))).run Tryz.prog w' = .ok (.int .u32 t141) w') ∧
                                                  (0 ≤ x132 ∧ x132 < (8 : Int) ∧
                                                    (∃ w12 : World, (Instr.storeAt 209 (.pointer (some ⟨a0b, a0o + Int.toNat x132 * 1, none⟩)) (.int .u32 (IntKind.wrap .u32 (t141 + t135)))).run Tryz.prog w11.drew = .ok () w12 ∧
                                                      (I_1 (IntKind.wrap .i64 (x132 + (1 : Int))) w12 ∧ μ_1 (IntKind.wrap .i64 (x132 + (1 : Int))) w12 < μ_1 x132 w11)))))))) ∧
                                        ((decide (x132 < (8 : Int))) = false →
                                          (R (.returned (.tuple #[])) w11)))))))))))))))))))))) : Calls Tryz.prog 187 #[(.pointer (some ⟨a0b, a0o, none⟩)), (.slice a1a a1n a1c)] w R :=
  calls_of_ev (args := [(.pointer (some ⟨a0b, a0o, none⟩)), (.slice a1a a1n a1c)])
    (tc := .seq (.reg (.op .p (.op (.cl [.agg]) (.op .bx (.op .u (.nil)))))) (.seq (.drawS (.tk 0 .p (.tk 1 .p (.tk 2 .p (.tk 3 .p (.tk 5 .p (.tk 6 .p (.tk 7 .p (.tk 8 .p (.tk 10 .p (.tk 11 .p (.tk 12 .p (.tk 13 .p (.tk 15 .p (.tk 16 .p (.tk 17 .p (.tk 18 .p (.tk 20 .p (.tk 21 .p (.tk 22 .p (.tk 23 .p (.tk 25 .p (.tk 26 .p (.tk 27 .p (.tk 28 .p (.tk 30 .p (.tk 31 .p (.tk 32 .p (.tk 33 .p (.tk 35 .p (.tk 36 .p (.tk 37 .p (.tk 38 .p (.ts 4 (.int .u32) (.tk 40 .p (.ts 9 (.int .u32) (.tk 41 .p (.ts 14 (.int .u32) (.tk 42 .p (.ts 19 (.int .u32) (.tk 43 .p (.ts 24 (.int .u32) (.tk 44 .p (.ts 29 (.int .u32) (.tk 45 .p (.ts 34 (.int .u32) (.tk 46 .p (.ts 39 (.int .u32) (.tk 47 .p (.nil))))))))))))))))))))))))))))))))))))))))))))))))) []) (.seq (.seq (.reg (.op .p (.nil))) (.blk (.loop [5, 6, 7, 8, 9, 10, 11, 12, 13, 14, 15, 60, 61, 62, 63, 64, 65, 66, 67, 68, 69, 70, 71, 72, 73, 74, 75, 76, 77, 78, 79, 80, 81, 82, 83, 84, 85, 86, 87, 88, 89, 90, 91, 92, 93, 94, 95, 96, 97, 98, 99, 100, 101, 102, 103, 104, 105, 106, 107, 108, 109, 110, 111, 112, 113, 114, 115, 116, 117, 118, 119, 120, 121, 122] [5, 6, 7, 8, 9, 10, 11, 12, 60] [.int .u32, .int .u32, .int .u32, .int .u32, .int .u32, .int .u32, .int .u32, .int .u32, .int .i64] (.seq (.reg (.op .p (.nil))) (.seq (.cond (.leaf) (.leaf)) (.seq (.blk (.seq (.reg (.op .p (.op .p (.nil)))) (.seq (.drawS (.tk 0 .p (.tk 1 .p (.tk 3 .p (.tk 6 .p (.tk 10 .p (.tk 11 .p (.tk 12 .p (.tk 13 .p (.tk 14 .p (.tk 15 .p (.tk 16 .p (.tk 17 .p (.tk 19 .p (.tk 20 .ix (.tk 23 .p (.tk 24 .ix (.ts 21 (.int .u32) (.ts 25 (.int .u32) (.go 2 (.cl [.int .u32]) (.go 4 (.cl [.int .u32]) (.tk 5 .p (.go 7 (.cl [.int .u32]) (.tk 8 .p (.tk 9 .p (.tk 18 .p (.tk 22 .p (.tk 26 .p (.tk 27 .p (.nil))))))))))))))))))))))))))))) []) (.seq (.reg (.op .p (.op (.cl [.int .u32]) (.op .p (.op (.cl [.int .u32]) (.op .p (.op .p (.op (.cl [.int .u32]) (.op .p (.op .p (.op .p (.op .p (.op .p (.op .p (.op .p (.op .p (.op .p (.op .p (.op .p (.op .p (.op .p (.op .p (.nil))))))))))))))))))))))) (.reg (.op .p (.op .p (.op .p (.op .p (.op .p (.op .p (.op .p (.op .p (.op .p (.op .p (.op .p (.op .p (.op .p (.op .p (.op .p (.op .p (.op .p (.op .p (.op .p (.op .p (.nil)))))))))))))))))))))))))) (.reg (.op .p (.op .p (.nil)))))))))) (.seq (.reg (.op .p (.op .p (.op .p (.op .p (.op .p (.op .p (.op .p (.op .p (.op (.ld (.agg)) (.op .p (.nil)))))))))))) (.blk (.loop [16, 17, 132, 133, 134, 135, 136, 137, 138, 139, 140, 141, 142, 143, 144, 145, 146, 147] [132] [.int .i64] (.seq (.reg (.op .p (.nil))) (.seq (.cond (.leaf) (.leaf)) (.seq (.blk (.seq (.reg (.op .p (.op (.ld (.int .u32)) (.op .p (.op .p (.nil)))))) (.drawS (.tk 0 .p (.tk 1 .p (.tk 2 .p (.tk 3 .p (.tk 4 .ix (.tk 6 .p (.tk 8 .p (.tk 9 .p (.ts 5 (.int .u32) (.tk 7 .p (.tk 10 .ix (.go 11 .u (.nil))))))))))))) [11]))) (.reg (.op .p (.op .p (.nil)))))))))))))
    (by kernel_rfl) Tryz.func187 (by kernel_rfl) (by kernel_rfl) (by kernel_rfl) (by kernel_rfl) h

set_option maxRecDepth 100000 in
theorem sha_state_write_vc (a0b : Nat) (a0o : Nat) (a1a : Option Addr) (a1n : Nat) (a1c : Nat) (w : World) (R : Ending → World → Prop) (h :
  ∃ (t8 : Int), (Instr.loadAt 3 (.pointer (some ⟨a0b, a0o + 9, none⟩))).run Tryz.prog w = .ok (.int .i64 t8) w ∧
  (∃ w1 : World, (Instr.storeAt 3 (.pointer (some ⟨a0b, a0o + 9, none⟩)) (.int .i64 (IntKind.wrap .i64 (t8 + ((a1n : Nat) : Int))))).run Tryz.prog w = .ok () w1 ∧
    (∃ (t17a : Option Addr) (t17n : Nat) (t17c : Nat), (Instr.loadAt 33 (.pointer (some ⟨a0b, a0o + 8, none⟩))).run Tryz.prog w1 = .ok (.slice t17a t17n t17c) w1 ∧
      (∃ J : Option Addr → Nat → Nat → World → Prop, (((decide (((t17n : Nat) : Int) > (0 : Int))) = true →
            (∃ (t23a : Option Addr) (t23n : Nat) (t23c : Nat), (Instr.loadAt 33 (.pointer (some ⟨a0b, a0o + 8, none⟩))).run Tryz.prog w1 = .ok (.slice t23a t23n t23c) w1 ∧
              (∃ S : World → Prop, S w1.drew ∧
                (0 ≤ (if ((a1n : Nat) : Int) < (IntKind.wrap .i64 ((64 : Int) - ((t23n : Nat) : Int))) then ((a1n : Nat) : Int) else (IntKind.wrap .i64 ((64 : Int) - ((t23n : Nat) : Int)))) ∧ (if ((a1n : Nat) : Int) < (IntKind.wrap .i64 ((64 : Int) - ((t23n : Nat) : Int))) then ((a1n : Nat) : Int) else (IntKind.wrap .i64 ((64 : Int) - ((t23n : Nat) : Int)))) ≤ ((a1c : Nat) : Int) ∧
                  (∃ (t33a : Option Addr) (t33n : Nat) (t33c : Nat), (∀ w' : World, S w' → (Instr.loadAt 33 (.pointer (some ⟨a0b, a0o + 8, none⟩))).run Tryz.prog w' = .ok (.slice t33a t33n t33c) w') ∧
                    (∃ (t37a : Option Addr) (t37n : Nat) (t37c : Nat) (w2 : World), (Builtin.append_ #[33, 33] 33 #[(.slice t33a t33n t33c), (.slice a1a (Int.toNat (if ((a1n : Nat) : Int) < (IntKind.wrap .i64 ((64 : Int) - ((t23n : Nat) : Int))) then ((a1n : Nat) : Int) else (IntKind.wrap .i64 ((64 : Int) - ((t23n : Nat) : Int))))) a1c)]).run Tryz.prog w1.drew = .ok (.slice t37a t37n t37c) w2 ∧
                      (∃ S_1 : World → Prop, (∀ w' : World, S_1 w' → S w') ∧ S_1 w2 ∧
                        (∃ w3 : World, (Instr.storeAt 33 (.pointer (some ⟨a0b, a0o + 8, none⟩)) (.slice t37a t37n t37c)).run Tryz.prog w2 = .ok () w3 ∧
                          (0 ≤ (if ((a1n : Nat) : Int) < (IntKind.wrap .i64 ((64 : Int) - ((t23n : Nat) : Int))) then ((a1n : Nat) : Int) else (IntKind.wrap .i64 ((64 : Int) - ((t23n : Nat) : Int)))) ∧ (if ((a1n : Nat) : Int) < (IntKind.wrap .i64 ((64 : Int) - ((t23n : Nat) : Int))) then ((a1n : Nat) : Int) else (IntKind.wrap .i64 ((64 : Int) - ((t23n : Nat) : Int)))) ≤ ((a1n : Nat) : Int) ∧ ((a1n : Nat) : Int) ≤ ((a1c : Nat) : Int) ∧ ∀ t42a : Option Addr, SubA 1 a1a (Int.toNat (if ((a1n : Nat) : Int) < (IntKind.wrap .i64 ((64 : Int) - ((t23n : Nat) : Int))) then ((a1n : Nat) : Int) else (IntKind.wrap .i64 ((64 : Int) - ((t23n : Nat) : Int))))) a1c t42a →
                            (∃ (t46a : Option Addr) (t46n : Nat) (t46c : Nat), (Instr.loadAt 33 (.pointer (some ⟨a0b, a0o + 8, none⟩))).run Tryz.prog w3 = .ok (.slice t46a t46n t46c) w3 ∧
                              (((decide (((t46n : Nat) : Int) < (64 : Int))) = true →
                                  (R (.returned (.tuple #[])) w3)) ∧
                                ((decide (((t46n : Nat) : Int) < (64 : Int))) = false →
                                  (∃ (t53a : Option Addr) (t53n : Nat) (t53c : Nat), (Instr.loadAt 33 (.pointer (some ⟨a0b, a0o + 8, none⟩))).run Tryz.prog w3 = .ok (.slice t53a t53n t53c) w3 ∧
                                    (Calls Tryz.prog 187 #[(.pointer (some ⟨a0b, a0o, none⟩)), (.slice t53a t53n t53c)] w3 fun (e54 : Ending) (w4 : World) => e54 = .returned (.tuple #[]) ∧
                                      (∃ (t59a : Option Addr) (t59n : Nat) (t59c : Nat), (Instr.loadAt 33 (.pointer (some ⟨a0b, a0o + 8, none⟩))).run Tryz.prog w4 = .ok (.slice t59a t59n t59c) w4 ∧
                                        (0 ≤ (0 : Int) ∧ (0 : Int) ≤ ((t59c : Nat) : Int) ∧
                                          (∃ w5 : World, (Instr.storeAt 33 (.pointer (some ⟨a0b, a0o + 8, none⟩)) (.slice t59a 0 t59c)).run Tryz.prog w4 = .ok () w5 ∧
                                            (J t42a ((a1n) - (Int.toNat (if ((a1n : Nat) : Int) < (IntKind.wrap .i64 ((64 : Int) - ((t23n : Nat) : Int))) then ((a1n : Nat) : Int) else (IntKind.wrap .i64 ((64 : Int) - ((t23n : Nat) : Int)))))) (a1c - (Int.toNat (if ((a1n : Nat) : Int) < (IntKind.wrap .i64 ((64 : Int) - ((t23n : Nat) : Int))) then ((a1n : Nat) : Int) else (IntKind.wrap .i64 ((64 : Int) - ((t23n : Nat) : Int)))))) w5)))))))))))))))))) ∧
          ((decide (((t17n : Nat) : Int) > (0 : Int))) = false →
            (J a1a a1n a1c w1))) ∧
        (∀ (x1a : Option Addr) (x1n : Nat) (x1c : Nat), ∀ w6 : World, J x1a x1n x1c w6 →
          (∃ (I : Option Addr → Nat → Nat → World → Prop) (μ : Option Addr → Nat → Nat → World → Nat), I x1a x1n x1c w6 ∧
            (∀ (x1a_1 : Option Addr) (x1n_1 : Nat) (x1c_1 : Nat), ∀ w7 : World, I x1a_1 x1n_1 x1c_1 w7 →
              (((decide (((x1n_1 : Nat) : Int) ≥ (64 : Int))) = true →
                  (0 ≤ (64 : Int) ∧ (64 : Int) ≤ ((x1c_1 : Nat) : Int) ∧
                    (Calls Tryz.prog 187 #[(.pointer (some ⟨a0b, a0o, none⟩)), (.slice x1a_1 64 x1c_1)] w7 fun (e69 : Ending) (w8 : World) => e69 = .returned (.tuple #[]) ∧
                      (0 ≤ (64 : Int) ∧ (64 : Int) ≤ ((x1n_1 : Nat) : Int) ∧ ((x1n_1 : Nat) : Int) ≤ ((x1c_1 : Nat) : Int) ∧ ∀ t71a : Option Addr, SubA 1 x1a_1 64 x1c_1 t71a →
                        (I t71a ((x1n_1) - 64) (x1c_1 - 64) w8 ∧ μ t71a ((x1n_1) - 64) (x1c_1 - 64) w8 < μ x1a_1 x1n_1 x1c_1 w7))))) ∧
                ((decide (((x1n_1 : Nat) : Int) ≥ (64 : Int))) = false →
                  (∃ (t76a : Option Addr) (t76n : Nat) (t76c : Nat), (Instr.loadAt 33 (.pointer (some ⟨a0b, a0o + 8, none⟩))).run Tryz.prog w7 = .ok (.slice t76a t76n t76c) w7 ∧
                    (∃ (t78a : Option Addr) (t78n : Nat) (t78c : Nat) (w9 : World), (Builtin.append_ #[33, 33] 33 #[(.slice t76a t76n t76c), (.slice x1a_1 x1n_1 x1c_1)]).run Tryz.prog w7 = .ok (.slice t78a t78n t78c) w9 ∧
                      (∃ w10 : World, (Instr.storeAt 33 (.pointer (some ⟨a0b, a0o + 8, none⟩)) (.slice t78a t78n t78c)).run Tryz.prog w9 = .ok () w10 ∧
                        (R (.returned (.tuple #[])) w10))))))))))))) : Calls Tryz.prog 182 #[(.pointer (some ⟨a0b, a0o, none⟩)), (.slice a1a a1n a1c)] w R :=
  calls_of_ev (args := [(.pointer (some ⟨a0b, a0o, none⟩)), (.slice a1a a1n a1c)])
    (tc := .seq (.reg (.op .p (.op .p (.op .p (.op (.ld (.int .i64)) (.op .p (.op .p (.op .p (.op .p (.op .p (.op .u (.nil)))))))))))) (.seq (.seq (.reg (.op .p (.op .p (.op .p (.op (.ld (.slice)) (.op .p (.op .p (.nil)))))))) (.join [1, 4, 20, 21, 22, 23, 24, 25, 26, 27, 28, 29, 30, 31, 32, 33, 34, 35, 36, 37, 38, 39, 40, 41, 42, 43, 44, 45, 46, 47, 48, 49, 50, 51, 52, 53, 54, 55, 56, 57, 58, 59, 60, 61, 62] [1] [.slice] (.cond (.seq (.reg (.op .p (.op .p (.op .p (.op (.ld (.slice)) (.op .p (.op .p (.op .p (.op .p (.op .p (.op .p (.nil)))))))))))) (.seq (.drawS (.tk 0 .p (.tk 1 .p (.tk 2 .p (.tk 3 .p (.tk 5 .p (.tk 6 .p (.tk 7 .sl (.ts 4 (.slice) (.go 8 (.r (.slice)) (.tk 9 .p (.tk 10 .p (.go 11 .u (.nil))))))))))))) [11]) (.seq (.reg (.op .p (.op .p (.op .sl (.op .p (.nil)))))) (.seq (.seq (.reg (.op .p (.op .p (.op .p (.op (.ld (.slice)) (.op .p (.op .p (.nil)))))))) (.cond (.leaf) (.leaf))) (.seq (.reg (.op .p (.op .p (.op .p (.op .p (.op (.ld (.slice)) (.op (.cl []) (.nil)))))))) (.reg (.op .p (.op .p (.op .p (.op .p (.op (.ld (.slice)) (.op .sl (.op .p (.op .p (.op .u (.nil)))))))))))))))) (.leaf)))) (.seq (.blk (.loop [1, 63, 64, 65, 66, 67, 68, 69, 70, 71] [1] [.slice] (.seq (.seq (.reg (.op .p (.op .p (.op .p (.nil))))) (.cond (.leaf) (.leaf))) (.blk (.seq (.reg (.op .p (.op .p (.op .sl (.op (.cl []) (.nil)))))) (.reg (.op .p (.op .sl (.op .p (.nil)))))))))) (.reg (.op .p (.op .p (.op .p (.op .p (.op (.ld (.slice)) (.op .p (.op (.r (.slice)) (.op .p (.op .p (.op .u (.nil)))))))))))))))
    (by kernel_rfl) Tryz.func182 (by kernel_rfl) (by kernel_rfl) (by kernel_rfl) (by kernel_rfl) h

set_option maxRecDepth 100000 in
theorem sha_state_sum_vc (a0 : Array Value) (w : World) (R : Ending → World → Prop) (h :
  ∃ (g1 : Nat) (w1 : World), (Instr.box 268 (.agg a0)).run Tryz.prog w = .ok (.pointer (some ⟨g1, 0, none⟩)) w1 ∧
  (∃ (g2 : Nat) (w2 : World), (Instr.alloc 22 true (.tuple #[])).run Tryz.prog w1 = .ok (.pointer (some ⟨g2, 0, none⟩)) w2 ∧
    (∃ (t10 : Int), (Instr.loadAt 3 (.pointer (some ⟨g1, 9, none⟩))).run Tryz.prog w2 = .ok (.int .i64 t10) w2 ∧
      (∃ (t14a : Option Addr) (t14n : Nat) (t14c : Nat), (Instr.loadAt 33 (.pointer (some ⟨g1, 8, none⟩))).run Tryz.prog w2 = .ok (.slice t14a t14n t14c) w2 ∧
        (Calls Tryz.prog 54 #[(.slice t14a t14n t14c)] w2 fun (e15 : Ending) (w3 : World) => ∃ (t15a : Option Addr) (t15n : Nat) (t15c : Nat), e15 = .returned (.slice t15a t15n t15c) ∧
          (∃ w4 : World, (Instr.storeAt 33 (.pointer (some ⟨g1, 8, none⟩)) (.slice t15a t15n t15c)).run Tryz.prog w3 = .ok () w4 ∧
            (∃ (t17a : Option Addr) (t17n : Nat) (t17c : Nat) (w5 : World), (Instr.makeSlice 33 (.int .i64 0) (.int .i64 80)).run Tryz.prog w4 = .ok (.slice t17a t17n t17c) w5 ∧
              (∃ (t18a : Option Addr) (t18n : Nat) (t18c : Nat) (w6 : World), (Instr.buildSlice 33 1 #[(0, (.int .u8 128))]).run Tryz.prog w5 = .ok (.slice t18a t18n t18c) w6 ∧
                (∃ (t19a : Option Addr) (t19n : Nat) (t19c : Nat) (w7 : World), (Builtin.append_ #[33, 33] 33 #[(.slice t17a t17n t17c), (.slice t18a t18n t18c)]).run Tryz.prog w6 = .ok (.slice t19a t19n t19c) w7 ∧
                  (∃ (I : Option Addr → Nat → Nat → World → Prop) (μ : Option Addr → Nat → Nat → World → Nat), I t19a t19n t19c w7 ∧
                    (∀ (x4a : Option Addr) (x4n : Nat) (x4c : Nat), ∀ w8 : World, I x4a x4n x4c w8 →
                      (∃ (t21 : Int), (Instr.loadAt 3 (.pointer (some ⟨g1, 9, none⟩))).run Tryz.prog w8 = .ok (.int .i64 t21) w8 ∧
                        ((((Int.tmod (IntKind.wrap .i64 ((IntKind.wrap .i64 (t21 + ((x4n : Nat) : Int))) + (8 : Int))) (64 : Int)) != (0 : Int)) = true →
                            (∃ (t29a : Option Addr) (t29n : Nat) (t29c : Nat) (w9 : World), (Instr.buildSlice 33 1 #[(0, (.int .u8 0))]).run Tryz.prog w8 = .ok (.slice t29a t29n t29c) w9 ∧
                              (∃ (t30a : Option Addr) (t30n : Nat) (t30c : Nat) (w10 : World), (Builtin.append_ #[33, 33] 33 #[(.slice x4a x4n x4c), (.slice t29a t29n t29c)]).run Tryz.prog w9 = .ok (.slice t30a t30n t30c) w10 ∧
                                (I t30a t30n t30c w10 ∧ μ t30a t30n t30c w10 < μ x4a x4n x4c w8)))) ∧
                          (((Int.tmod (IntKind.wrap .i64 ((IntKind.wrap .i64 (t21 + ((x4n : Nat) : Int))) + (8 : Int))) (64 : Int)) != (0 : Int)) = false →
                            (∃ (I_1 : Option Addr → Nat → Nat → Int → World → Prop) (μ_1 : Option Addr → Nat → Nat → Int → World → Nat), I_1 x4a x4n x4c 0 w8 ∧
                              (∀ (x4a_1 : Option Addr) (x4n_1 : Nat) (x4c_1 : Nat) (x31 : Int), ∀ w11 : World, I_1 x4a_1 x4n_1 x4c_1 x31 w11 →
                                (((decide (x31 < (8 : Int))) = true →
                                    (0 ≤ (IntKind.wrap .i64 ((56 : Int) - (IntKind.wrap .i64 ((8 : Int) * x31)))) ∧
                                      (∃ (t41a : Option Addr) (t41n : Nat) (t41c : Nat) (w12 : World), (Instr.buildSlice 33 1 #[(0, (.int .u8 (IntKind.wrap .u8 (shrI .u64 (IntKind.wrap .u64 ((IntKind.wrap .u64 t10) * (8 : Int))) (IntKind.wrap .i64 ((56 : Int) - (IntKind.wrap .i64 ((8 : Int) * x31))))))))]).run Tryz.prog w11 = .ok (.slice t41a t41n t41c) w12 ∧
                                        (∃ (t42a : Option Addr) (t42n : Nat) (t42c : Nat) (w13 : World), (Builtin.append_ #[33, 33] 33 #[(.slice x4a_1 x4n_1 x4c_1), (.slice t41a t41n t41c)]).run Tryz.prog w12 = .ok (.slice t42a t42n t42c) w13 ∧
                                          (I_1 t42a t42n t42c (IntKind.wrap .i64 (x31 + (1 : Int))) w13 ∧ μ_1 t42a t42n t42c (IntKind.wrap .i64 (x31 + (1 : Int))) w13 < μ_1 x4a_1 x4n_1 x4c_1 x31 w11))))) ∧
                                  ((decide (x31 < (8 : Int))) = false →
                                    (Calls Tryz.prog 182 #[(.pointer (some ⟨g1, 0, none⟩)), (.slice x4a_1 x4n_1 x4c_1)] w11 fun (e45 : Ending) (w14 : World) => e45 = .returned (.tuple #[]) ∧
                                      (∃ (g6 : Nat) (w15 : World), (Instr.alloc 22 true (.tuple #[])).run Tryz.prog w14 = .ok (.pointer (some ⟨g6, 0, none⟩)) w15 ∧
                                        (∃ (t47 : Array Value), (Instr.loadAt 233 (.pointer (some ⟨g1, 0, none⟩))).run Tryz.prog w15 = .ok (.agg t47) w15 ∧
                                          (∃ (I_2 : Int → World → Prop) (μ_2 : Int → World → Nat), I_2 0 w15 ∧
                                            (∀ (x48 : Int), ∀ w16 : World, I_2 x48 w16 →
                                              (((decide (x48 < (8 : Int))) = true →
                                                  (∃ (t51 : Int), (Instr.index 233 (.agg t47) (.int .i64 x48)).run Tryz.prog w16 = .ok (.int .u32 t51) w16 ∧
                                                    (0 ≤ (IntKind.wrap .i64 ((4 : Int) * x48)) ∧ (IntKind.wrap .i64 ((4 : Int) * x48)) < (32 : Int) ∧
                                                      (∃ w17 : World, (Instr.storeAt 5 (.pointer (some ⟨g6, 0 + Int.toNat (IntKind.wrap .i64 ((4 : Int) * x48)) * 1, none⟩)) (.int .u8 (IntKind.wrap .u8 (shrI .u32 t51 (24 : Int))))).run Tryz.prog w16 = .ok () w17 ∧
                                                        (0 ≤ (IntKind.wrap .i64 ((IntKind.wrap .i64 ((4 : Int) * x48)) + (1 : Int))) ∧ (IntKind.wrap .i64 ((IntKind.wrap .i64 ((4 : Int) * x48)) + (1 : Int))) < (32 : Int) ∧
                                                          (∃ w18 : World, (Instr.storeAt 5 (.pointer (some ⟨g6, 0 + Int.toNat (IntKind.wrap .i64 ((IntKind.wrap .i64 ((4 : Int) * x48)) + (1 : Int))) * 1, none⟩)) (.int .u8 (IntKind.wrap .u8 (shrI .u32 t51 (16 : Int))))).run Tryz.prog w17 = .ok () w18 ∧
                                                            (0 ≤ (IntKind.wrap .i64 ((IntKind.wrap .i64 ((4 : Int) * x48)) + (2 : Int))) ∧ (IntKind.wrap .i64 ((IntKind.wrap .i64 ((4 : Int) * x48)) + (2 : Int))) < (32 : Int) ∧
                                                              (∃ w19 : World, (Instr.storeAt 5 (.pointer (some ⟨g6, 0 + Int.toNat (IntKind.wrap .i64 ((IntKind.wrap .i64 ((4 : Int) * x48)) + (2 : Int))) * 1, none⟩)) (.int .u8 (IntKind.wrap .u8 (shrI .u32 t51 (8 : Int))))).run Tryz.prog w18 = .ok () w19 ∧
                                                                (0 ≤ (IntKind.wrap .i64 ((IntKind.wrap .i64 ((4 : Int) * x48)) + (3 : Int))) ∧ (IntKind.wrap .i64 ((IntKind.wrap .i64 ((4 : Int) * x48)) + (3 : Int))) < (32 : Int) ∧
                                                                  (∃ w20 : World, (Instr.storeAt 5 (.pointer (some ⟨g6, 0 + Int.toNat (IntKind.wrap .i64 ((IntKind.wrap .i64 ((4 : Int) * x48)) + (3 : Int))) * 1, none⟩)) (.int .u8 (IntKind.wrap .u8 t51))).run Tryz.prog w19 = .ok () w20 ∧
                                                                    (I_2 (IntKind.wrap .i64 (x48 + (1 : Int))) w20 ∧ μ_2 (IntKind.wrap .i64 (x48 + (1 : Int))) w20 < μ_2 x48 w16))))))))))) ∧
                                                ((decide (x48 < (8 : Int))) = false →
                                                  (∃ (t79 : Array Value), (Instr.loadAt 22 (.pointer (some ⟨g6, 0, none⟩))).run Tryz.prog w16 = .ok (.agg t79) w16 ∧
                                                    (∃ w21 : World, (Instr.storeAt 22 (.pointer (some ⟨g2, 0, none⟩)) (.agg t79)).run Tryz.prog w16 = .ok () w21 ∧
                                                      (∃ r2 : Value, (loadVar 22 ⟨g2, 0, none⟩).run Tryz.prog w21 = .ok r2 w21 ∧
                                                        (R (.returned r2) w21))))))))))))))))))))))))))))) : Calls Tryz.prog 183 #[(.agg a0)] w R :=
  calls_of_ev (args := [(.agg a0)])
    (tc := .seq (.reg (.op .bx (.op .bx (.nil)))) (.seq (.reg (.op .p (.op (.ld (.int .i64)) (.op .p (.op .p (.op .p (.nil))))))) (.seq (.reg (.op .p (.op (.ld (.slice)) (.op (.cl [.slice]) (.op .p (.op .u (.nil))))))) (.seq (.reg (.op (.r (.slice)) (.op (.r (.slice)) (.op (.r (.slice)) (.op .p (.nil)))))) (.seq (.blk (.loop [4, 20, 21, 22, 23, 24, 25, 26, 27, 28, 29, 30] [4] [.slice] (.seq (.seq (.reg (.op .p (.op (.ld (.int .i64)) (.op .p (.op .p (.op .p (.op .p (.op .p (.op .p (.nil)))))))))) (.cond (.leaf) (.leaf))) (.blk (.reg (.op .p (.op (.r (.slice)) (.op (.r (.slice)) (.op .p (.nil)))))))))) (.seq (.seq (.reg (.op .p (.nil))) (.blk (.loop [4, 5, 31, 32, 33, 34, 35, 36, 37, 38, 39, 40, 41, 42, 43] [4, 31] [.slice, .int .i64] (.seq (.reg (.op .p (.nil))) (.seq (.cond (.leaf) (.leaf)) (.seq (.blk (.seq (.reg (.op .p (.op .p (.nil)))) (.reg (.op .p (.op .p (.op .p (.op .p (.op .p (.op .sc (.op .p (.op (.r (.slice)) (.op (.r (.slice)) (.op .p (.nil)))))))))))))) (.reg (.op .p (.op .p (.nil)))))))))) (.seq (.reg (.op .p (.op (.cl []) (.nil)))) (.seq (.reg (.op .bx (.nil))) (.seq (.seq (.reg (.op .p (.op (.ld (.agg)) (.op .p (.nil))))) (.blk (.loop [7, 8, 48, 49, 50, 51, 52, 53, 54, 55, 56, 57, 58, 59, 60, 61, 62, 63, 64, 65, 66, 67, 68, 69, 70, 71, 72, 73, 74, 75, 76, 77, 78] [48] [.int .i64] (.seq (.reg (.op .p (.nil))) (.seq (.cond (.leaf) (.leaf)) (.seq (.blk (.seq (.reg (.op .p (.op (.ld (.int .u32)) (.op .p (.op .p (.nil)))))) (.reg (.op .p (.op .p (.op .p (.op .p (.op .p (.op .p (.op .p (.op .p (.op .p (.op .p (.op .p (.op .p (.op .p (.op .p (.op .p (.op .p (.op .p (.op .p (.op .p (.op .p (.op .p (.op .p (.op .ix (.op .u (.op .ix (.op .u (.op .ix (.op .u (.op .ix (.op .u (.nil)))))))))))))))))))))))))))))))))) (.reg (.op .p (.op .p (.nil)))))))))) (.seq (.reg (.op (.ld (.agg)) (.op .u (.nil)))) (.leaf)))))))))))
    (by kernel_rfl) Tryz.func183 (by kernel_rfl) (by kernel_rfl) (by kernel_rfl) (by kernel_rfl) h

set_option maxRecDepth 100000 in
theorem sha_New_vc  (w : World) (R : Ending → World → Prop) (h :
  Calls Tryz.prog 181 #[] w fun (e1 : Ending) (w1 : World) => ∃ (t1 : Array Value), e1 = .returned (.agg t1) ∧
  (∃ (t2 : Array Value), (Instr.build 271 #[(0, (.agg t1))]).run Tryz.prog w1 = .ok (.agg t2) w1 ∧
    (∃ (g3 : Nat) (w2 : World), (Instr.box 271 (.agg t2)).run Tryz.prog w1 = .ok (.pointer (some ⟨g3, 0, none⟩)) w2 ∧
      (R (.returned (.pointer (some ⟨g3, 0, none⟩))) w2)))) : Calls Tryz.prog 168 #[] w R :=
  calls_of_ev (args := [])
    (tc := .seq (.reg (.op .p (.nil))) (.seq (.reg (.op (.cl [.agg]) (.op (.ld (.agg)) (.op .bx (.op .p (.nil)))))) (.leaf)))
    (by kernel_rfl) Tryz.func168 (by kernel_rfl) (by kernel_rfl) (by kernel_rfl) (by kernel_rfl) h

set_option maxRecDepth 100000 in
theorem sha_Hasher_Write_vc (a0b : Nat) (a0o : Nat) (a1a : Option Addr) (a1n : Nat) (a1c : Nat) (w : World) (R : Ending → World → Prop) (h :
  ∃ (I : Int → World → Prop) (μ : Int → World → Nat), I 0 w ∧
  (∀ (x10 : Int), ∀ w1 : World, I x10 w1 →
    (((decide (x10 < ((a1n : Nat) : Int))) = true →
        (∃ (t12b t12o : Nat), a1a = some ⟨t12b, t12o, none⟩ ∧ 0 ≤ x10 ∧ x10 < ((a1n : Nat) : Int) ∧
          (∃ (t13a : Option Addr) (t13n : Nat) (t13c : Nat), (Instr.loadAt 33 (.pointer (some ⟨t12b, t12o + Int.toNat x10 * 1, none⟩))).run Tryz.prog w1 = .ok (.slice t13a t13n t13c) w1 ∧
            (Calls Tryz.prog 182 #[(.pointer (some ⟨a0b, a0o, none⟩)), (.slice t13a t13n t13c)] w1 fun (e18 : Ending) (w2 : World) => e18 = .returned (.tuple #[]) ∧
              (I (IntKind.wrap .i64 (x10 + (1 : Int))) w2 ∧ μ (IntKind.wrap .i64 (x10 + (1 : Int))) w2 < μ x10 w1))))) ∧
      ((decide (x10 < ((a1n : Nat) : Int))) = false →
        (R (.returned (.tuple #[])) w1))))) : Calls Tryz.prog 169 #[(.pointer (some ⟨a0b, a0o, none⟩)), (.slice a1a a1n a1c)] w R :=
  calls_of_ev (args := [(.pointer (some ⟨a0b, a0o, none⟩)), (.slice a1a a1n a1c)])
    (tc := .seq (.seq (.reg (.op .p (.op .p (.nil)))) (.cf (.leaf))) (.seq (.reg (.op .p (.op .p (.op .p (.nil))))) (.blk (.loop [5, 10, 11, 12, 13, 14, 15, 16, 17, 18, 19] [10] [.int .i64] (.seq (.reg (.op .p (.nil))) (.seq (.cond (.leaf) (.leaf)) (.seq (.blk (.seq (.reg (.op .ix (.op (.ld (.slice)) (.op .p (.nil))))) (.reg (.op .p (.op .p (.op .p (.op .p (.op (.cl []) (.nil))))))))) (.reg (.op .p (.op .p (.nil)))))))))))
    (by kernel_rfl) Tryz.func169 (by kernel_rfl) (by kernel_rfl) (by kernel_rfl) (by kernel_rfl) h

set_option maxRecDepth 100000 in
theorem sha_Hasher_Write_vc_nil (a1a : Option Addr) (a1n : Nat) (a1c : Nat) (w : World) (R : Ending → World → Prop) (h :
  R (.returned (.tuple #[])) w) : Calls Tryz.prog 169 #[(.pointer none), (.slice a1a a1n a1c)] w R :=
  calls_of_ev (args := [(.pointer none), (.slice a1a a1n a1c)])
    (tc := .seq (.seq (.reg (.op .p (.op .p (.nil)))) (.ct (.leaf))) (.leaf))
    (by kernel_rfl) Tryz.func169 (by kernel_rfl) (by kernel_rfl) (by kernel_rfl) (by kernel_rfl) h

set_option maxRecDepth 100000 in
theorem sha_Hasher_Sum_vc (a0b : Nat) (a0o : Nat) (w : World) (R : Ending → World → Prop) (h :
  ∃ (g2 : Nat) (w1 : World), (Instr.alloc 22 true (.tuple #[])).run Tryz.prog w = .ok (.pointer (some ⟨g2, 0, none⟩)) w1 ∧
  (∃ (t9 : Array Value), (Instr.loadAt 268 (.pointer (some ⟨a0b, a0o, none⟩))).run Tryz.prog w1 = .ok (.agg t9) w1 ∧
    (Calls Tryz.prog 183 #[(.agg t9)] w1 fun (e10 : Ending) (w2 : World) => ∃ (t10 : Array Value), e10 = .returned (.agg t10) ∧
      (∃ w3 : World, (Instr.storeAt 22 (.pointer (some ⟨g2, 0, none⟩)) (.agg t10)).run Tryz.prog w2 = .ok () w3 ∧
        (∃ r2 : Value, (loadVar 22 ⟨g2, 0, none⟩).run Tryz.prog w3 = .ok r2 w3 ∧
          (R (.returned r2) w3)))))) : Calls Tryz.prog 170 #[(.pointer (some ⟨a0b, a0o, none⟩))] w R :=
  calls_of_ev (args := [(.pointer (some ⟨a0b, a0o, none⟩))])
    (tc := .seq (.reg (.op .bx (.nil))) (.seq (.seq (.reg (.op .p (.op .p (.nil)))) (.cf (.leaf))) (.seq (.reg (.op .p (.op .p (.op .p (.op (.ld (.agg)) (.op (.cl [.agg]) (.op .u (.nil)))))))) (.leaf))))
    (by kernel_rfl) Tryz.func170 (by kernel_rfl) (by kernel_rfl) (by kernel_rfl) (by kernel_rfl) h

set_option maxRecDepth 100000 in
theorem sha_Hasher_Sum_vc_nil  (w : World) (R : Ending → World → Prop) (h :
  ∃ (g2 : Nat) (w1 : World), (Instr.alloc 22 true (.tuple #[])).run Tryz.prog w = .ok (.pointer (some ⟨g2, 0, none⟩)) w1 ∧
  (∃ (t5 : Array Value), (Instr.build 22 #[]).run Tryz.prog w1 = .ok (.agg t5) w1 ∧
    (∃ w2 : World, (Instr.storeAt 22 (.pointer (some ⟨g2, 0, none⟩)) (.agg t5)).run Tryz.prog w1 = .ok () w2 ∧
      (∃ r2 : Value, (loadVar 22 ⟨g2, 0, none⟩).run Tryz.prog w2 = .ok r2 w2 ∧
        (R (.returned r2) w2))))) : Calls Tryz.prog 170 #[(.pointer none)] w R :=
  calls_of_ev (args := [(.pointer none)])
    (tc := .seq (.reg (.op .bx (.nil))) (.seq (.seq (.reg (.op .p (.op .p (.nil)))) (.ct (.seq (.reg (.op (.ld (.agg)) (.op .u (.nil)))) (.leaf)))) (.leaf)))
    (by kernel_rfl) Tryz.func170 (by kernel_rfl) (by kernel_rfl) (by kernel_rfl) (by kernel_rfl) h

set_option maxRecDepth 100000 in
theorem sha_Sum_vc (a0a : Option Addr) (a0n : Nat) (a0c : Nat) (w : World) (R : Ending → World → Prop) (h :
  ∃ (g2 : Nat) (w1 : World), (Instr.alloc 22 true (.tuple #[])).run Tryz.prog w = .ok (.pointer (some ⟨g2, 0, none⟩)) w1 ∧
  (Calls Tryz.prog 168 #[] w1 fun (e4 : Ending) (w2 : World) => ∃ (t4b : Nat) (t4o : Nat), e4 = .returned (.pointer (some ⟨t4b, t4o, none⟩)) ∧
    (Calls Tryz.prog 169 #[(.pointer (some ⟨t4b, t4o, none⟩)), (.slice a0a a0n a0c)] w2 fun (e7 : Ending) (w3 : World) => e7 = .returned (.tuple #[]) ∧
      (Calls Tryz.prog 170 #[(.pointer (some ⟨t4b, t4o, none⟩))] w3 fun (e9 : Ending) (w4 : World) => ∃ (t9 : Array Value), e9 = .returned (.agg t9) ∧
        (∃ w5 : World, (Instr.storeAt 22 (.pointer (some ⟨g2, 0, none⟩)) (.agg t9)).run Tryz.prog w4 = .ok () w5 ∧
          (∃ r2 : Value, (loadVar 22 ⟨g2, 0, none⟩).run Tryz.prog w5 = .ok r2 w5 ∧
            (R (.returned r2) w5))))))) : Calls Tryz.prog 167 #[(.slice a0a a0n a0c)] w R :=
  calls_of_ev (args := [(.slice a0a a0n a0c)])
    (tc := .seq (.reg (.op .bx (.nil))) (.seq (.reg (.op (.cl [.ptr]) (.op .p (.nil)))) (.seq (.reg (.op .p (.op .p (.op (.cl []) (.nil))))) (.seq (.reg (.op .p (.op (.cl [.agg]) (.op .u (.nil))))) (.leaf)))))
    (by kernel_rfl) Tryz.func167 (by kernel_rfl) (by kernel_rfl) (by kernel_rfl) (by kernel_rfl) h

set_option maxRecDepth 100000 in
theorem sha_NewMac_vc (a0a : Option Addr) (a0n : Nat) (a0c : Nat) (w : World) (R : Ending → World → Prop) (h :
  ∃ (g3 : Nat) (w1 : World), (Instr.alloc 207 true (.tuple #[])).run Tryz.prog w = .ok (.pointer (some ⟨g3, 0, none⟩)) w1 ∧
  (∃ J : World → Prop, (((decide (((a0n : Nat) : Int) > (64 : Int))) = true →
        (∃ (t12a : Option Addr) (t12n : Nat) (t12c : Nat) (w2 : World), (Instr.buildSlice 23 1 #[(0, (.slice a0a a0n a0c))]).run Tryz.prog w1 = .ok (.slice t12a t12n t12c) w2 ∧
          (Calls Tryz.prog 167 #[(.slice t12a t12n t12c)] w2 fun (e13 : Ending) (w3 : World) => ∃ (t13 : Array Value), e13 = .returned (.agg t13) ∧
            (∃ (g4 : Nat) (w4 : World), (Instr.alloc 22 true (.tuple #[])).run Tryz.prog w3 = .ok (.pointer (some ⟨g4, 0, none⟩)) w4 ∧
              (∃ w5 : World, (Instr.storeAt 22 (.pointer (some ⟨g4, 0, none⟩)) (.agg t13)).run Tryz.prog w4 = .ok () w5 ∧
                (0 ≤ ((64 : Nat) : Int) ∧ ((64 : Nat) : Int) ≤ ((64 : Nat) : Int) ∧
                  (0 ≤ ((32 : Nat) : Int) ∧ ((32 : Nat) : Int) ≤ ((32 : Nat) : Int) ∧
                    (∃ (t16 : Int) (w6 : World), (Builtin.copy_ #[33, 33] 3 #[(.slice (some ⟨g3, 0, none⟩) (64) 64), (.slice (some ⟨g4, 0, none⟩) (32) 32)]).run Tryz.prog w5.drew = .ok (.int .i64 t16) w6 ∧
                      (J  w6))))))))) ∧
      ((decide (((a0n : Nat) : Int) > (64 : Int))) = false →
        (0 ≤ ((64 : Nat) : Int) ∧ ((64 : Nat) : Int) ≤ ((64 : Nat) : Int) ∧
          (∃ (t19 : Int) (w7 : World), (Builtin.copy_ #[33, 33] 3 #[(.slice (some ⟨g3, 0, none⟩) (64) 64), (.slice a0a a0n a0c)]).run Tryz.prog w1 = .ok (.int .i64 t19) w7 ∧
            (J  w7))))) ∧
    (∀ w8 : World, J  w8 →
      (Calls Tryz.prog 168 #[] w8 fun (e20 : Ending) (w9 : World) => ∃ (t20b : Nat) (t20o : Nat), e20 = .returned (.pointer (some ⟨t20b, t20o, none⟩)) ∧
        (∃ (t21 : Array Value), (Instr.build 260 #[(0, (.pointer (some ⟨t20b, t20o, none⟩)))]).run Tryz.prog w9 = .ok (.agg t21) w9 ∧
          (∃ (g22 : Nat) (w10 : World), (Instr.box 260 (.agg t21)).run Tryz.prog w9 = .ok (.pointer (some ⟨g22, 0, none⟩)) w10 ∧
            (∃ (t23 : Array Value), (Instr.loadAt 207 (.pointer (some ⟨g3, 0, none⟩))).run Tryz.prog w10 = .ok (.agg t23) w10 ∧
              (∃ (I : Int → World → Prop) (μ : Int → World → Nat), I 0 w10 ∧
                (∀ (x24 : Int), ∀ w11 : World, I x24 w11 →
                  (((decide (x24 < (64 : Int))) = true →
                      (∃ (t27 : Int), (Instr.index 207 (.agg t23) (.int .i64 x24)).run Tryz.prog w11 = .ok (.int .u8 t27) w11 ∧
                        (0 ≤ x24 ∧ x24 < (64 : Int) ∧
                          (∃ w12 : World, (Instr.storeAt 5 (.pointer (some ⟨g22, 1 + Int.toNat x24 * 1, none⟩)) (.int .u8 (bxor .u8 t27 (92 : Int)))).run Tryz.prog w11 = .ok () w12 ∧
                            (0 ≤ x24 ∧ x24 < (64 : Int) ∧
                              (∃ w13 : World, (Instr.storeAt 5 (.pointer (some ⟨g3, 0 + Int.toNat x24 * 1, none⟩)) (.int .u8 (bxor .u8 t27 (54 : Int)))).run Tryz.prog w12 = .ok () w13 ∧
                                (I (IntKind.wrap .i64 (x24 + (1 : Int))) w13 ∧ μ (IntKind.wrap .i64 (x24 + (1 : Int))) w13 < μ x24 w11))))))) ∧
                    ((decide (x24 < (64 : Int))) = false →
                      (0 ≤ ((64 : Nat) : Int) ∧ ((64 : Nat) : Int) ≤ ((64 : Nat) : Int) ∧
                        (∃ (t42a : Option Addr) (t42n : Nat) (t42c : Nat) (w14 : World), (Instr.buildSlice 23 1 #[(0, (.slice (some ⟨g3, 0, none⟩) (64) 64))]).run Tryz.prog w11 = .ok (.slice t42a t42n t42c) w14 ∧
                          (Calls Tryz.prog 142 #[(.pointer (some ⟨g22, 0, none⟩)), (.slice t42a t42n t42c)] w14 fun (e43 : Ending) (w15 : World) => e43 = .returned (.tuple #[]) ∧
                            (R (.returned (.pointer (some ⟨g22, 0, none⟩))) w15))))))))))))))) : Calls Tryz.prog 141 #[(.slice a0a a0n a0c)] w R :=
  calls_of_ev (args := [(.slice a0a a0n a0c)])
    (tc := .seq (.reg (.op .p (.nil))) (.seq (.reg (.op .bx (.nil))) (.seq (.seq (.reg (.op .p (.op .p (.op .p (.nil))))) (.join [4, 11, 12, 13, 14, 15, 16, 17, 18, 19] [] [] (.cond (.seq (.reg (.op .p (.op (.r (.slice)) (.op (.cl [.agg]) (.op .bx (.op .u (.nil))))))) (.draw (.tk 0 .sl (.tk 1 .sl (.go 2 (.r (.int .i64)) (.nil)))) [0, 1, 2])) (.reg (.op .sl (.op .p (.op (.r (.int .i64)) (.nil)))))))) (.seq (.reg (.op (.cl [.ptr]) (.op (.ld (.agg)) (.op .bx (.op .p (.nil)))))) (.seq (.seq (.reg (.op (.ld (.agg)) (.op .p (.nil)))) (.blk (.loop [6, 7, 24, 25, 26, 27, 28, 29, 30, 31, 32, 33, 34, 35, 36, 37, 38, 39] [24] [.int .i64] (.seq (.reg (.op .p (.nil))) (.seq (.cond (.leaf) (.leaf)) (.seq (.blk (.seq (.reg (.op .p (.op (.ld (.int .u8)) (.op .p (.op .p (.nil)))))) (.seq (.reg (.op .p (.op .p (.op .p (.op .p (.op .p (.op .p (.op .ix (.op .u (.nil)))))))))) (.reg (.op .p (.op .p (.op .p (.op .ix (.op .u (.nil)))))))))) (.reg (.op .p (.op .p (.nil)))))))))) (.seq (.reg (.op .p (.op .sl (.op (.r (.slice)) (.op (.cl []) (.nil)))))) (.seq (.reg (.op .p (.op .p (.nil)))) (.leaf))))))))
    (by kernel_rfl) Tryz.func141 (by kernel_rfl) (by kernel_rfl) (by kernel_rfl) (by kernel_rfl) h

set_option maxRecDepth 100000 in
theorem sha_Keyed_Write_vc (a0b : Nat) (a0o : Nat) (a1a : Option Addr) (a1n : Nat) (a1c : Nat) (w : World) (R : Ending → World → Prop) (h :
  ∃ (t9b : Nat) (t9o : Nat), (Instr.loadAt 257 (.pointer (some ⟨a0b, a0o, none⟩))).run Tryz.prog w = .ok (.pointer (some ⟨t9b, t9o, none⟩)) w ∧
  (Calls Tryz.prog 169 #[(.pointer (some ⟨t9b, t9o, none⟩)), (.slice a1a a1n a1c)] w fun (e11 : Ending) (w1 : World) => e11 = .returned (.tuple #[]) ∧
    (R (.returned (.tuple #[])) w1))) : Calls Tryz.prog 142 #[(.pointer (some ⟨a0b, a0o, none⟩)), (.slice a1a a1n a1c)] w R :=
  calls_of_ev (args := [(.pointer (some ⟨a0b, a0o, none⟩)), (.slice a1a a1n a1c)])
    (tc := .seq (.reg (.op .p (.op .p (.nil)))) (.ct (.reg (.op .p (.op .p (.op .p (.op (.ld (.ptr)) (.op .p (.op (.cl []) (.nil))))))))))
    (by kernel_rfl) Tryz.func142 (by kernel_rfl) (by kernel_rfl) (by kernel_rfl) (by kernel_rfl) h

set_option maxRecDepth 100000 in
theorem sha_Keyed_Write_vc_nil (a1a : Option Addr) (a1n : Nat) (a1c : Nat) (w : World) (R : Ending → World → Prop) (h :
  R (.returned (.tuple #[])) w) : Calls Tryz.prog 142 #[(.pointer none), (.slice a1a a1n a1c)] w R :=
  calls_of_ev (args := [(.pointer none), (.slice a1a a1n a1c)])
    (tc := .seq (.reg (.op .p (.op .p (.nil)))) (.cf (.leaf)))
    (by kernel_rfl) Tryz.func142 (by kernel_rfl) (by kernel_rfl) (by kernel_rfl) (by kernel_rfl) h

set_option maxRecDepth 100000 in
theorem sha_Keyed_Sum_vc (a0b : Nat) (a0o : Nat) (w : World) (R : Ending → World → Prop) (h :
  ∃ (g2 : Nat) (w1 : World), (Instr.alloc 22 true (.tuple #[])).run Tryz.prog w = .ok (.pointer (some ⟨g2, 0, none⟩)) w1 ∧
  (∃ (t10b : Nat) (t10o : Nat), (Instr.loadAt 257 (.pointer (some ⟨a0b, a0o, none⟩))).run Tryz.prog w1 = .ok (.pointer (some ⟨t10b, t10o, none⟩)) w1 ∧
    (Calls Tryz.prog 170 #[(.pointer (some ⟨t10b, t10o, none⟩))] w1 fun (e11 : Ending) (w2 : World) => ∃ (t11 : Array Value), e11 = .returned (.agg t11) ∧
      (∃ (g3 : Nat) (w3 : World), (Instr.alloc 22 true (.tuple #[])).run Tryz.prog w2 = .ok (.pointer (some ⟨g3, 0, none⟩)) w3 ∧
        (∃ w4 : World, (Instr.storeAt 22 (.pointer (some ⟨g3, 0, none⟩)) (.agg t11)).run Tryz.prog w3 = .ok () w4 ∧
          (0 ≤ ((64 : Nat) : Int) ∧ ((64 : Nat) : Int) ≤ ((64 : Nat) : Int) ∧
            (0 ≤ ((32 : Nat) : Int) ∧ ((32 : Nat) : Int) ≤ ((32 : Nat) : Int) ∧
              (∃ (t17a : Option Addr) (t17n : Nat) (t17c : Nat) (w5 : World), (Instr.buildSlice 23 2 #[(0, (.slice (some ⟨a0b, a0o + 1, none⟩) (64) 64)), (1, (.slice (some ⟨g3, 0, none⟩) (32) 32))]).run Tryz.prog w4.drew = .ok (.slice t17a t17n t17c) w5 ∧
                (Calls Tryz.prog 167 #[(.slice t17a t17n t17c)] w5 fun (e18 : Ending) (w6 : World) => ∃ (t18 : Array Value), e18 = .returned (.agg t18) ∧
                  (∃ w7 : World, (Instr.storeAt 22 (.pointer (some ⟨g2, 0, none⟩)) (.agg t18)).run Tryz.prog w6 = .ok () w7 ∧
                    (∃ r2 : Value, (loadVar 22 ⟨g2, 0, none⟩).run Tryz.prog w7 = .ok r2 w7 ∧
                      (R (.returned r2) w7)))))))))))) : Calls Tryz.prog 143 #[(.pointer (some ⟨a0b, a0o, none⟩))] w R :=
  calls_of_ev (args := [(.pointer (some ⟨a0b, a0o, none⟩))])
    (tc := .seq (.reg (.op .bx (.nil))) (.seq (.seq (.reg (.op .p (.op .p (.nil)))) (.cf (.leaf))) (.seq (.reg (.op .p (.op .p (.op .p (.op (.ld (.ptr)) (.op (.cl [.agg]) (.op .bx (.op .u (.nil))))))))) (.seq (.draw (.tk 0 .p (.tk 1 .p (.tk 2 .p (.tk 3 .sl (.tk 4 .sl (.go 5 (.r (.slice)) (.go 6 (.cl [.agg]) (.go 7 .u (.nil))))))))) [0, 1, 2, 3, 4, 5, 6, 7]) (.leaf)))))
    (by kernel_rfl) Tryz.func143 (by kernel_rfl) (by kernel_rfl) (by kernel_rfl) (by kernel_rfl) h

set_option maxRecDepth 100000 in
theorem sha_Keyed_Sum_vc_nil  (w : World) (R : Ending → World → Prop) (h :
  ∃ (g2 : Nat) (w1 : World), (Instr.alloc 22 true (.tuple #[])).run Tryz.prog w = .ok (.pointer (some ⟨g2, 0, none⟩)) w1 ∧
  (∃ (t6 : Array Value), (Instr.build 22 #[]).run Tryz.prog w1 = .ok (.agg t6) w1 ∧
    (∃ w2 : World, (Instr.storeAt 22 (.pointer (some ⟨g2, 0, none⟩)) (.agg t6)).run Tryz.prog w1 = .ok () w2 ∧
      (∃ r2 : Value, (loadVar 22 ⟨g2, 0, none⟩).run Tryz.prog w2 = .ok r2 w2 ∧
        (R (.returned r2) w2))))) : Calls Tryz.prog 143 #[(.pointer none)] w R :=
  calls_of_ev (args := [(.pointer none)])
    (tc := .seq (.reg (.op .bx (.nil))) (.seq (.seq (.reg (.op .p (.op .p (.nil)))) (.ct (.seq (.reg (.op (.ld (.agg)) (.op .u (.nil)))) (.leaf)))) (.leaf)))
    (by kernel_rfl) Tryz.func143 (by kernel_rfl) (by kernel_rfl) (by kernel_rfl) (by kernel_rfl) h

set_option maxRecDepth 100000 in
theorem sha_Mac_vc (a0a : Option Addr) (a0n : Nat) (a0c : Nat) (a1a : Option Addr) (a1n : Nat) (a1c : Nat) (w : World) (R : Ending → World → Prop) (h :
  ∃ (g4 : Nat) (w1 : World), (Instr.alloc 22 true (.tuple #[])).run Tryz.prog w = .ok (.pointer (some ⟨g4, 0, none⟩)) w1 ∧
  (Calls Tryz.prog 141 #[(.slice a0a a0n a0c)] w1 fun (e7 : Ending) (w2 : World) => ∃ (t7b : Nat) (t7o : Nat), e7 = .returned (.pointer (some ⟨t7b, t7o, none⟩)) ∧
    (Calls Tryz.prog 142 #[(.pointer (some ⟨t7b, t7o, none⟩)), (.slice a1a a1n a1c)] w2 fun (e10 : Ending) (w3 : World) => e10 = .returned (.tuple #[]) ∧
      (Calls Tryz.prog 143 #[(.pointer (some ⟨t7b, t7o, none⟩))] w3 fun (e12 : Ending) (w4 : World) => ∃ (t12 : Array Value), e12 = .returned (.agg t12) ∧
        (∃ w5 : World, (Instr.storeAt 22 (.pointer (some ⟨g4, 0, none⟩)) (.agg t12)).run Tryz.prog w4 = .ok () w5 ∧
          (∃ r4 : Value, (loadVar 22 ⟨g4, 0, none⟩).run Tryz.prog w5 = .ok r4 w5 ∧
            (R (.returned r4) w5))))))) : Calls Tryz.prog 120 #[(.slice a0a a0n a0c), (.slice a1a a1n a1c)] w R :=
  calls_of_ev (args := [(.slice a0a a0n a0c), (.slice a1a a1n a1c)])
    (tc := .seq (.reg (.op .bx (.nil))) (.seq (.reg (.op .p (.op (.cl [.ptr]) (.op .p (.nil))))) (.seq (.reg (.op .p (.op .p (.op (.cl []) (.nil))))) (.seq (.reg (.op .p (.op (.cl [.agg]) (.op .u (.nil))))) (.leaf)))))
    (by kernel_rfl) Tryz.func120 (by kernel_rfl) (by kernel_rfl) (by kernel_rfl) (by kernel_rfl) h

set_option maxRecDepth 100000 in
theorem sha_Equal_vc (a0a : Option Addr) (a0n : Nat) (a0c : Nat) (a1a : Option Addr) (a1n : Nat) (a1c : Nat) (w : World) (R : Ending → World → Prop) (h :
  ((((a0n : Nat) : Int) != ((a1n : Nat) : Int)) = true →
    (R (.returned (.bool false)) w)) ∧
  ((((a0n : Nat) : Int) != ((a1n : Nat) : Int)) = false →
    (∃ (I : Int → Int → World → Prop) (μ : Int → Int → World → Nat), I 0 0 w ∧
      (∀ (x5 : Int) (x14 : Int), ∀ w1 : World, I x5 x14 w1 →
        (((decide (x14 < ((a0n : Nat) : Int))) = true →
            (∃ S : World → Prop, S w1.drew ∧
              (∃ (t20b t20o : Nat), a0a = some ⟨t20b, t20o, none⟩ ∧ 0 ≤ x14 ∧ x14 < ((a0n : Nat) : Int) ∧
                (∃ (t24b t24o : Nat), a1a = some ⟨t24b, t24o, none⟩ ∧ 0 ≤ x14 ∧ x14 < ((a1n : Nat) : Int) ∧
                  (∃ (t21 : Int), (∀ w' : World, S w' → (Instr.loadAt 5 (.pointer (some ⟨t20b, t20o + Int.toNat x14 * 1, none⟩))).run Tryz.prog w' = .ok (.int .u8 t21) w') ∧
                    (∃ (t25 : Int), (∀ w' : World, S w' → (Instr.loadAt 5 (.pointer (some ⟨t24b, t24o + Int.toNat x14 * 1, none⟩))).run Tryz.prog w' = .ok (.int .u8 t25) w') ∧
                      (I (bor .u8 x5 (bxor .u8 t21 t25)) (IntKind.wrap .i64 (x14 + (1 : Int))) w1.drew ∧ μ (bor .u8 x5 (bxor .u8 t21 t25)) (IntKind.wrap .i64 (x14 + (1 : Int))) w1.drew < μ x5 x14 w1))))))) ∧
          ((decide (x14 < ((a0n : Nat) : Int))) = false →
            (R (.returned (.bool (x5 == (0 : Int)))) w1))))))) : Calls Tryz.prog 92 #[(.slice a0a a0n a0c), (.slice a1a a1n a1c)] w R :=
  calls_of_ev (args := [(.slice a0a a0n a0c), (.slice a1a a1n a1c)])
    (tc := .seq (.reg (.op .p (.nil))) (.seq (.seq (.reg (.op .p (.op .p (.op .p (.op .p (.op .p (.nil))))))) (.cond (.seq (.reg (.op .p (.nil))) (.leaf)) (.leaf))) (.seq (.reg (.op .p (.nil))) (.seq (.seq (.reg (.op .p (.op .p (.op .p (.nil))))) (.blk (.loop [5, 6, 14, 15, 16, 17, 18, 19, 20, 21, 22, 23, 24, 25, 26, 27, 28] [5, 14] [.int .u8, .int .i64] (.seq (.reg (.op .p (.nil))) (.seq (.cond (.leaf) (.leaf)) (.seq (.blk (.seq (.reg (.op .p (.op .p (.nil)))) (.drawS (.tk 0 .p (.tk 1 .p (.tk 2 .p (.tk 3 .ix (.tk 5 .p (.tk 6 .p (.tk 7 .ix (.ts 4 (.int .u8) (.ts 8 (.int .u8) (.tk 9 .p (.tk 10 .p (.tk 11 .p (.nil))))))))))))) []))) (.reg (.op .p (.op .p (.nil)))))))))) (.seq (.reg (.op .p (.op .p (.op .p (.nil))))) (.leaf))))))
    (by kernel_rfl) Tryz.func92 (by kernel_rfl) (by kernel_rfl) (by kernel_rfl) (by kernel_rfl) h

set_option maxRecDepth 100000 in
theorem amphoraref02_turn_vc (a0 : Int) (a1 : Int) (w : World) (R : Ending → World → Prop) (h :
  0 ≤ a1 ∧
  (0 ≤ (IntKind.wrap .u64 ((32 : Int) - a1)) ∧
    (R (.returned (.int .u32 (bor .u32 (shrI .u32 a0 a1) (shlI .u32 a0 (IntKind.wrap .u64 ((32 : Int) - a1)))))) w))) : Calls Tryz.prog 147 #[(.int .u32 a0), (.int .u64 a1)] w R :=
  calls_of_ev (args := [(.int .u32 a0), (.int .u64 a1)])
    (tc := .seq (.reg (.op .p (.nil))) (.seq (.reg (.op .p (.op .p (.op .sc (.op .p (.op .p (.op .p (.op .sc (.op .p (.op .p (.nil))))))))))) (.leaf)))
    (by kernel_rfl) Tryz.func147 (by kernel_rfl) (by kernel_rfl) (by kernel_rfl) (by kernel_rfl) h

set_option maxRecDepth 100000 in
theorem amphoraref02_filled_vc (a0a : Option Addr) (a0n : Nat) (a0c : Nat) (w : World) (R : Ending → World → Prop) (h :
  ∃ (t6a : Option Addr) (t6n : Nat) (t6c : Nat) (w1 : World), (Instr.buildSlice 33 0 #[]).run Tryz.prog w = .ok (.slice t6a t6n t6c) w1 ∧
  (∃ (t8a : Option Addr) (t8n : Nat) (t8c : Nat) (w2 : World), (Builtin.append_ #[33, 33] 33 #[(.slice t6a t6n t6c), (.slice a0a a0n a0c)]).run Tryz.prog w1 = .ok (.slice t8a t8n t8c) w2 ∧
    (∃ (t10a : Option Addr) (t10n : Nat) (t10c : Nat) (w3 : World), (Instr.buildSlice 33 1 #[(0, (.int .u8 128))]).run Tryz.prog w2 = .ok (.slice t10a t10n t10c) w3 ∧
      (∃ (t11a : Option Addr) (t11n : Nat) (t11c : Nat) (w4 : World), (Builtin.append_ #[33, 33] 33 #[(.slice t8a t8n t8c), (.slice t10a t10n t10c)]).run Tryz.prog w3 = .ok (.slice t11a t11n t11c) w4 ∧
        (∃ (I : Option Addr → Nat → Nat → World → Prop) (μ : Option Addr → Nat → Nat → World → Nat), I t11a t11n t11c w4 ∧
          (∀ (x3a : Option Addr) (x3n : Nat) (x3c : Nat), ∀ w5 : World, I x3a x3n x3c w5 →
            ((((Int.tmod ((x3n : Nat) : Int) (64 : Int)) != (56 : Int)) = true →
                (∃ (t17a : Option Addr) (t17n : Nat) (t17c : Nat) (w6 : World), (Instr.buildSlice 33 1 #[(0, (.int .u8 0))]).run Tryz.prog w5 = .ok (.slice t17a t17n t17c) w6 ∧
                  (∃ (t18a : Option Addr) (t18n : Nat) (t18c : Nat) (w7 : World), (Builtin.append_ #[33, 33] 33 #[(.slice x3a x3n x3c), (.slice t17a t17n t17c)]).run Tryz.prog w6 = .ok (.slice t18a t18n t18c) w7 ∧
                    (I t18a t18n t18c w7 ∧ μ t18a t18n t18c w7 < μ x3a x3n x3c w5)))) ∧
              (((Int.tmod ((x3n : Nat) : Int) (64 : Int)) != (56 : Int)) = false →
                (∃ (I_1 : Option Addr → Nat → Nat → Int → World → Prop) (μ_1 : Option Addr → Nat → Nat → Int → World → Nat), I_1 x3a x3n x3c 0 w5 ∧
                  (∀ (x3a_1 : Option Addr) (x3n_1 : Nat) (x3c_1 : Nat) (x5 : Int), ∀ w8 : World, I_1 x3a_1 x3n_1 x3c_1 x5 w8 →
                    (((decide (x5 < (8 : Int))) = true →
                        (0 ≤ (IntKind.wrap .u64 ((56 : Int) - (IntKind.wrap .u64 ((8 : Int) * (IntKind.wrap .u64 x5))))) ∧
                          (∃ (t35a : Option Addr) (t35n : Nat) (t35c : Nat) (w9 : World), (Instr.buildSlice 33 1 #[(0, (.int .u8 (IntKind.wrap .u8 (shrI .u64 (IntKind.wrap .u64 ((IntKind.wrap .u64 ((a0n : Nat) : Int)) * (8 : Int))) (IntKind.wrap .u64 ((56 : Int) - (IntKind.wrap .u64 ((8 : Int) * (IntKind.wrap .u64 x5)))))))))]).run Tryz.prog w8 = .ok (.slice t35a t35n t35c) w9 ∧
                            (∃ (t36a : Option Addr) (t36n : Nat) (t36c : Nat) (w10 : World), (Builtin.append_ #[33, 33] 33 #[(.slice x3a_1 x3n_1 x3c_1), (.slice t35a t35n t35c)]).run Tryz.prog w9 = .ok (.slice t36a t36n t36c) w10 ∧
                              (I_1 t36a t36n t36c (IntKind.wrap .i64 (x5 + (1 : Int))) w10 ∧ μ_1 t36a t36n t36c (IntKind.wrap .i64 (x5 + (1 : Int))) w10 < μ_1 x3a_1 x3n_1 x3c_1 x5 w8))))) ∧
                      ((decide (x5 < (8 : Int))) = false →
                        (R (.returned (.slice x3a_1 x3n_1 x3c_1)) w8))))))))))))) : Calls Tryz.prog 146 #[(.slice a0a a0n a0c)] w R :=
  calls_of_ev (args := [(.slice a0a a0n a0c)])
    (tc := .seq (.reg (.op .p (.nil))) (.seq (.reg (.op (.r (.slice)) (.op .p (.op (.r (.slice)) (.op .p (.nil)))))) (.seq (.reg (.op .p (.op (.r (.slice)) (.op (.r (.slice)) (.op .p (.nil)))))) (.seq (.blk (.loop [3, 12, 13, 14, 15, 16, 17, 18] [3] [.slice] (.seq (.seq (.reg (.op .p (.op .p (.op .p (.op .p (.nil)))))) (.cond (.leaf) (.leaf))) (.blk (.reg (.op .p (.op (.r (.slice)) (.op (.r (.slice)) (.op .p (.nil)))))))))) (.seq (.reg (.op .p (.op .p (.op .p (.op .p (.op .p (.nil))))))) (.seq (.seq (.reg (.op .p (.nil))) (.blk (.loop [3, 5, 23, 24, 25, 26, 27, 28, 29, 30, 31, 32, 33, 34, 35, 36] [3, 5] [.slice, .int .i64] (.seq (.seq (.reg (.op .p (.op .p (.nil)))) (.cond (.leaf) (.leaf))) (.seq (.blk (.reg (.op .p (.op .p (.op .p (.op .p (.op .p (.op .p (.op .sc (.op .p (.op (.r (.slice)) (.op (.r (.slice)) (.op .p (.nil)))))))))))))) (.reg (.op .p (.op .p (.op .p (.nil)))))))))) (.seq (.reg (.op .p (.op .p (.nil)))) (.leaf))))))))
    (by kernel_rfl) Tryz.func146 (by kernel_rfl) (by kernel_rfl) (by kernel_rfl) (by kernel_rfl) h

set_option maxRecDepth 100000 in
theorem amphoraref02_Sum_vc (a0a : Option Addr) (a0n : Nat) (a0c : Nat) (w : World) (R : Ending → World → Prop) (h :
  ∃ (g2 : Nat) (w1 : World), (Instr.alloc 22 true (.tuple #[])).run Tryz.prog w = .ok (.pointer (some ⟨g2, 0, none⟩)) w1 ∧
  (∃ (t23 : Array Value), (Instr.build 232 #[(0, (.int .u32 1116352408)), (1, (.int .u32 1899447441)), (2, (.int .u32 3049323471)), (3, (.int .u32 3921009573)), (4, (.int .u32 961987163)), (5, (.int .u32 1508970993)), (6, (.int .u32 2453635748)), (7, (.int .u32 2870763221)), (8, (.int .u32 3624381080)), (9, (.int .u32 310598401)), (10, (.int .u32 607225278)), (11, (.int .u32 1426881987)), (12, (.int .u32 1925078388)), (13, (.int .u32 2162078206)), (14, (.int .u32 2614888103)), (15, (.int .u32 3248222580)), (16, (.int .u32 3835390401)), (17, (.int .u32 4022224774)), (18, (.int .u32 264347078)), (19, (.int .u32 604807628)), (20, (.int .u32 770255983)), (21, (.int .u32 1249150122)), (22, (.int .u32 1555081692)), (23, (.int .u32 1996064986)), (24, (.int .u32 2554220882)), (25, (.int .u32 2821834349)), (26, (.int .u32 2952996808)), (27, (.int .u32 3210313671)), (28, (.int .u32 3336571891)), (29, (.int .u32 3584528711)), (30, (.int .u32 113926993)), (31, (.int .u32 338241895)), (32, (.int .u32 666307205)), (33, (.int .u32 773529912)), (34, (.int .u32 1294757372)), (35, (.int .u32 1396182291)), (36, (.int .u32 1695183700)), (37, (.int .u32 1986661051)), (38, (.int .u32 2177026350)), (39, (.int .u32 2456956037)), (40, (.int .u32 2730485921)), (41, (.int .u32 2820302411)), (42, (.int .u32 3259730800)), (43, (.int .u32 3345764771)), (44, (.int .u32 3516065817)), (45, (.int .u32 3600352804)), (46, (.int .u32 4094571909)), (47, (.int .u32 275423344)), (48, (.int .u32 430227734)), (49, (.int .u32 506948616)), (50, (.int .u32 659060556)), (51, (.int .u32 883997877)), (52, (.int .u32 958139571)), (53, (.int .u32 1322822218)), (54, (.int .u32 1537002063)), (55, (.int .u32 1747873779)), (56, (.int .u32 1955562222)), (57, (.int .u32 2024104815)), (58, (.int .u32 2227730452)), (59, (.int .u32 2361852424)), (60, (.int .u32 2428436474)), (61, (.int .u32 2756734187)), (62, (.int .u32 3204031479)), (63, (.int .u32 3329325298))]).run Tryz.prog w1 = .ok (.agg t23) w1 ∧
    (∃ (g3 : Nat) (w2 : World), (Instr.alloc 232 true (.tuple #[])).run Tryz.prog w1 = .ok (.pointer (some ⟨g3, 0, none⟩)) w2 ∧
      (∃ w3 : World, (Instr.storeAt 232 (.pointer (some ⟨g3, 0, none⟩)) (.agg t23)).run Tryz.prog w2 = .ok () w3 ∧
        (∃ (I : Option Addr → Nat → Nat → Int → World → Prop) (μ : Option Addr → Nat → Nat → Int → World → Nat), I none 0 0 0 w3 ∧
          (∀ (x4a : Option Addr) (x4n : Nat) (x4c : Nat) (x5 : Int), ∀ w4 : World, I x4a x4n x4c x5 w4 →
            (((decide (x5 < ((a0n : Nat) : Int))) = true →
                (∃ (t33b t33o : Nat), a0a = some ⟨t33b, t33o, none⟩ ∧ 0 ≤ x5 ∧ x5 < ((a0n : Nat) : Int) ∧
                  (∃ (t34a : Option Addr) (t34n : Nat) (t34c : Nat), (Instr.loadAt 33 (.pointer (some ⟨t33b, t33o + Int.toNat x5 * 1, none⟩))).run Tryz.prog w4 = .ok (.slice t34a t34n t34c) w4 ∧
                    (∃ (t35a : Option Addr) (t35n : Nat) (t35c : Nat) (w5 : World), (Builtin.append_ #[33, 33] 33 #[(.slice x4a x4n x4c), (.slice t34a t34n t34c)]).run Tryz.prog w4 = .ok (.slice t35a t35n t35c) w5 ∧
                      (I t35a t35n t35c (IntKind.wrap .i64 (x5 + (1 : Int))) w5 ∧ μ t35a t35n t35c (IntKind.wrap .i64 (x5 + (1 : Int))) w5 < μ x4a x4n x4c x5 w4))))) ∧
              ((decide (x5 < ((a0n : Nat) : Int))) = false →
                (Calls Tryz.prog 146 #[(.slice x4a x4n x4c)] w4 fun (e37 : Ending) (w6 : World) => ∃ (t37a : Option Addr) (t37n : Nat) (t37c : Nat), e37 = .returned (.slice t37a t37n t37c) ∧
                  (∃ (t38 : Array Value), (Instr.build 233 #[(0, (.int .u32 1779033703)), (1, (.int .u32 3144134277)), (2, (.int .u32 1013904242)), (3, (.int .u32 2773480762)), (4, (.int .u32 1359893119)), (5, (.int .u32 2600822924)), (6, (.int .u32 528734635)), (7, (.int .u32 1541459225))]).run Tryz.prog w6 = .ok (.agg t38) w6 ∧
                    (∃ (g6 : Nat) (w7 : World), (Instr.alloc 233 true (.tuple #[])).run Tryz.prog w6 = .ok (.pointer (some ⟨g6, 0, none⟩)) w7 ∧
                      (∃ w8 : World, (Instr.storeAt 233 (.pointer (some ⟨g6, 0, none⟩)) (.agg t38)).run Tryz.prog w7 = .ok () w8 ∧
                        (∃ (I_1 : Int → World → Prop) (μ_1 : Int → World → Nat), I_1 0 w8 ∧
                          (∀ (x7 : Int), ∀ w9 : World, I_1 x7 w9 →
                            (((decide (x7 < ((t37n : Nat) : Int))) = true →
                                (∃ (t45 : Array Value), (Instr.build 232 #[]).run Tryz.prog w9 = .ok (.agg t45) w9 ∧
                                  (∃ (g8 : Nat) (w10 : World), (Instr.alloc 232 true (.tuple #[])).run Tryz.prog w9 = .ok (.pointer (some ⟨g8, 0, none⟩)) w10 ∧
                                    (∃ w11 : World, (Instr.storeAt 232 (.pointer (some ⟨g8, 0, none⟩)) (.agg t45)).run Tryz.prog w10 = .ok () w11 ∧
                                      (∃ (I_2 : Int → World → Prop) (μ_2 : Int → World → Nat), I_2 0 w11 ∧
                                        (∀ (x9 : Int), ∀ w12 : World, I_2 x9 w12 →
                                          (((decide (x9 < (64 : Int))) = true →
                                              (((decide (x9 < (16 : Int))) = true →
                                                  (∃ (I_3 : Int → World → Prop) (μ_3 : Int → World → Nat), I_3 0 w12 ∧
                                                    (∀ (x10 : Int), ∀ w13 : World, I_3 x10 w13 →
                                                      (((decide (x10 < (4 : Int))) = true →
                                                          (∃ S : World → Prop, S w13.drew ∧
                                                            (0 ≤ x9 ∧ x9 < (64 : Int) ∧
                                                              (∃ (t68b t68o : Nat), t37a = some ⟨t68b, t68o, none⟩ ∧ 0 ≤ (IntKind.wrap .i64 ((IntKind.wrap .i64 (x7 + (IntKind.wrap .i64 ((4 : Int) * x9)))) + x10)) ∧ (IntKind.wrap .i64 ((IntKind.wrap .i64 (x7 + (IntKind.wrap .i64 ((4 : Int) * x9)))) + x10)) < ((t37n : Nat) : Int) ∧
                                                                (∃ (t59 : Int), (∀ w' : World, S w' → (Instr.loadAt 209 (.pointer (some ⟨g8, 0 + Int.toNat x9 * 1, none⟩))).run Tryz.prog w' = .ok (.int .u32 t59) w') ∧
                                                                  (∃ (t69 : Int), (∀ w' : World, S w' → (Instr.loadAt 5 (.pointer (some ⟨t68b, t68o + Int.toNat (IntKind.wrap .i64 ((IntKind.wrap .i64 (x7 + (IntKind.wrap .i64 ((4 : Int) * x9)))) + x10)) * 1, none⟩))).run Tryz.prog w' = .ok (.int .u8 t69) w') ∧
                                                                    (0 ≤ x9 ∧ x9 < (64 : Int) ∧
                                                                      (∃ w14 : World, (Instr.storeAt 209 (.pointer (some ⟨g8, 0 + Int.toNat x9 * 1, none⟩)) (.int .u32 (bor .u32 (shlI .u32 t59 (8 : Int)) (IntKind.wrap .u32 t69)))).run Tryz.prog w13.drew = .ok () w14 ∧
                                                                        (I_3 (IntKind.wrap .i64 (x10 + (1 : Int))) w14 ∧ μ_3 (IntKind.wrap .i64 (x10 + (1 : Int))) w14 < μ_3 x10 w13))))))))) ∧
                                                        ((decide (x10 < (4 : Int))) = false →
                                                          (I_2 (IntKind.wrap .i64 (x9 + (1 : Int))) w13 ∧ μ_2 (IntKind.wrap .i64 (x9 + (1 : Int))) w13 < μ_2 x9 w12)))))) ∧
                                                ((decide (x9 < (16 : Int))) = false →
                                                  (0 ≤ (IntKind.wrap .i64 (x9 - (15 : Int))) ∧ (IntKind.wrap .i64 (x9 - (15 : Int))) < (64 : Int) ∧
                                                    (∃ (t76 : Int), (Instr.loadAt 209 (.pointer (some ⟨g8, 0 + Int.toNat (IntKind.wrap .i64 (x9 - (15 : Int))) * 1, none⟩))).run Tryz.prog w12 = .ok (.int .u32 t76) w12 ∧
                                                      (0 ≤ (IntKind.wrap .i64 (x9 - (2 : Int))) ∧ (IntKind.wrap .i64 (x9 - (2 : Int))) < (64 : Int) ∧
                                                        (∃ (t80 : Int), (Instr.loadAt 209 (.pointer (some ⟨g8, 0 + Int.toNat (IntKind.wrap .i64 (x9 - (2 : Int))) * 1, none⟩))).run Tryz.prog w12 = .ok (.int .u32 t80) w12 ∧
                                                          (∃ S : World → Prop, S w12.drew ∧
                                                            (0 ≤ (IntKind.wrap .i64 (x9 - (7 : Int))) ∧ (IntKind.wrap .i64 (x9 - (7 : Int))) < (64 : Int) ∧
                                                              (0 ≤ (IntKind.wrap .i64 (x9 - (16 : Int))) ∧ (IntKind.wrap .i64 (x9 - (16 : Int))) < (64 : Int) ∧
                                                                (∃ (t93 : Int), (∀ w' : World, S w' → (Instr.loadAt 209 (.pointer (some ⟨g8, 0 + Int.toNat (IntKind.wrap .i64 (x9 - (7 : Int))) * 1, none⟩))).run Tryz.prog w' = .ok (.int .u32 t93) w') ∧
                                                                  (∃ (t107 : Int), (∀ w' : World, S w' → (Instr.loadAt 209 (.pointer (some ⟨g8, 0 + Int.toNat (IntKind.wrap .i64 (x9 - (16 : Int))) * 1, none⟩))).run Tryz.prog w' = .ok (.int .u32 t107) w') ∧
                                                                    (Calls Tryz.prog 147 #[(.int .u32 t80), (.int .u64 17)] w12.drew fun (e83 : Ending) (w15 : World) => ∃ (t83 : Int), e83 = .returned (.int .u32 t83) ∧
                                                                      (∃ S_1 : World → Prop, (∀ w' : World, S_1 w' → S w') ∧ S_1 w15 ∧
                                                                        (Calls Tryz.prog 147 #[(.int .u32 t80), (.int .u64 19)] w15 fun (e85 : Ending) (w16 : World) => ∃ (t85 : Int), e85 = .returned (.int .u32 t85) ∧
                                                                          (∃ S_2 : World → Prop, (∀ w' : World, S_2 w' → S_1 w') ∧ S_2 w16 ∧
                                                                            (Calls Tryz.prog 147 #[(.int .u32 t76), (.int .u64 7)] w16 fun (e96 : Ending) (w17 : World) => ∃ (t96 : Int), e96 = .returned (.int .u32 t96) ∧
                                                                              (∃ S_3 : World → Prop, (∀ w' : World, S_3 w' → S_2 w') ∧ S_3 w17 ∧
                                                                                (Calls Tryz.prog 147 #[(.int .u32 t76), (.int .u64 18)] w17 fun (e98 : Ending) (w18 : World) => ∃ (t98 : Int), e98 = .returned (.int .u32 t98) ∧
                                                                                (∃ S_4 : World → Prop, (∀ w' : World, S_4 w' → S_3 w') ∧ S_4 w18 ∧
                                                                                (0 ≤ x9 ∧ x9 < (64 : Int) ∧
                                                                                (∃ w19 : World, (Instr.storeAt 209 (.pointer (some ⟨g8, 0 + Int.toNat x9 * 1, none⟩)) (.int .u32 (IntKind.wrap .u32 ((IntKind.wrap .u32 ((IntKind.wrap .u32 ((bxor .u32 (bxor .u32 t83 t85) (shrI .u32 t80 (10 : Int))) + t93)) + (bxor .u32 (bxor .u32 t96 t98) (shrI .u32 t76 (3 : Int))))) + t107)))).run Tryz.prog w18 = .ok () w19 ∧
                                                                                (I_2 (IntKind.wrap .i64 (x9 + (1 : Int))) w19 ∧ μ_2 (IntKind.wrap .i64 (x9 + (1 : Int))) w19 < μ_2 x9 w12))))))))))))))))))))))) ∧
                                            ((decide (x9 < (64 : Int))) = false →
                                              (∃ (t110 : Array Value), (Instr.loadAt 233 (.pointer (some ⟨g6, 0, none⟩))).run Tryz.prog w12 = .ok (.agg t110) w12 ∧
                                                (∃ (g13 : Nat) (w20 : World), (Instr.alloc 233 true (.tuple #[])).run Tryz.prog w12 = .ok (.pointer (some ⟨g13, 0, none⟩)) w20 ∧
                                                  (∃ w21 : World, (Instr.storeAt 233 (.pointer (some ⟨g13, 0, none⟩)) (.agg t110)).run Tryz.prog w20 = .ok () w21 ∧
                                                    (∃ (I_3 : Int → World → Prop) (μ_3 : Int → World → Nat), I_3 0 w21 ∧
                                                      (∀ (x14 : Int), ∀ w22 : World, I_3 x14 w22 →
                                                        (((decide (x14 < (64 : Int))) = true →
                                                            (∃ (t116 : Int), (Instr.loadAt 209 (.pointer (some ⟨g13, 4, none⟩))).run Tryz.prog w22 = .ok (.int .u32 t116) w22 ∧
                                                              (∃ (t118 : Int), (Instr.loadAt 209 (.pointer (some ⟨g13, 5, none⟩))).run Tryz.prog w22 = .ok (.int .u32 t118) w22 ∧
                                                                (∃ (t121 : Int), (Instr.loadAt 209 (.pointer (some ⟨g13, 4, none⟩))).run Tryz.prog w22 = .ok (.int .u32 t121) w22 ∧
                                                                  (∃ (t124 : Int), (Instr.loadAt 209 (.pointer (some ⟨g13, 6, none⟩))).run Tryz.prog w22 = .ok (.int .u32 t124) w22 ∧
                                                                    (∃ (t128 : Int), (Instr.loadAt 209 (.pointer (some ⟨g13, 0, none⟩))).run Tryz.prog w22 = .ok (.int .u32 t128) w22 ∧
                                                                      (∃ (t130 : Int), (Instr.loadAt 209 (.pointer (some ⟨g13, 1, none⟩))).run Tryz.prog w22 = .ok (.int .u32 t130) w22 ∧
                                                                        (∃ (t133 : Int), (Instr.loadAt 209 (.pointer (some ⟨g13, 0, none⟩))).run Tryz.prog w22 = .ok (.int .u32 t133) w22 ∧
                                                                          (∃ (t135 : Int), (Instr.loadAt 209 (.pointer (some ⟨g13, 2, none⟩))).run Tryz.prog w22 = .ok (.int .u32 t135) w22 ∧
                                                                            (∃ (t139 : Int), (Instr.loadAt 209 (.pointer (some ⟨g13, 1, none⟩))).run Tryz.prog w22 = .ok (.int .u32 t139) w22 ∧
                                                                              (∃ (t141 : Int), (Instr.loadAt 209 (.pointer (some ⟨g13, 2, none⟩))).run Tryz.prog w22 = .ok (.int .u32 t141) w22 ∧
                                                                                (∃ S : World → Prop, S w22.drew ∧
                                                                                (0 ≤ x14 ∧ x14 < (64 : Int) ∧
                                                                                (0 ≤ x14 ∧ x14 < (64 : Int) ∧
                                                                                (∃ (t145 : Int), (∀ w' : World, S w' → (Instr.loadAt 209 (.pointer (some ⟨g13, 7, none⟩))).run Tryz.prog w' = .ok (.int .u32 t145) w') ∧
                                                                                (∃ (t147 : Int), (∀ w' : World, S w' → (Instr.loadAt 209 (.pointer (some ⟨g13, 4, none⟩))).run Tryz.prog w' = .ok (.int .u32 t147) w') ∧
                                                                                (∃ (t150 : Int), (∀ w' : World, S w' → (Instr.loadAt 209 (.pointer (some ⟨g13, 4, none⟩))).run Tryz.prog w' = .ok (.int .u32 t150) w') ∧
                                                                                (∃ (t154 : Int), (∀ w' : World, S w' → (Instr.loadAt 209 (.pointer (some ⟨g13, 4, none⟩))).run Tryz.prog w' = .ok (.int .u32 t154) w') ∧
                                                                                (∃ (t162 : Int), (∀ w' : World, S w' → (Instr.loadAt 209 (.pointer (some ⟨g3, 0 + Int.toNat x14 * 1, none⟩))).run Tryz.prog w' = .ok (.int .u32 t162) w') ∧
                                                                                (∃ (t166 : Int), (∀ w' : World, S w' → (Instr.loadAt 209 (.pointer (some ⟨g8, 0 + Int.toNat x14 * 1, none⟩))).run Tryz.prog w' = .ok (.int .u32 t166) w') ∧
                                                                                (Calls Tryz.prog 147 #[(.int .u32 t147), (.int .u64 6)] w22.drew fun (e148 : Ending) (w23 : World) => ∃ (t148 : Int), e148 = .returned (.int .u32 t148) ∧
                                                                                (∃ S_1 : World → Prop, (∀ w' : World, S_1 w' → S w') ∧ S_1 w23 ∧
                                                                                (Calls Tryz.prog 147 #[(.int .u32 t150), (.int .u64 11)] w23 fun (e151 : Ending) (w24 : World) => ∃ (t151 : Int), e151 = .returned (.int .u32 t151) ∧
                                                                                (∃ S_2 : World → Prop, (∀ w' : World, S_2 w' → S_1 w') ∧ S_2 w24 ∧
                                                                                (Calls Tryz.prog 147 #[(.int .u32 t154), (.int .u64 25)] w24 fun (e155 : Ending) (w25 : World) => ∃ (t155 : Int), e155 = .returned (.int .u32 t155) ∧
                                                                                (∃ S_3 : World → Prop, (∀ w' : World, S_3 w' → S_2 w') ∧ S_3 w25 ∧
                                                                                (∃ S_4 : World → Prop, S_4 w25.drew ∧
                                                                                (∃ (t169 : Int), (∀ w' : World, S_4 w' → (Instr.loadAt 209 (.pointer (some ⟨g13, 0, none⟩))).run Tryz.prog w' = .ok (.int .u32 t169) w') ∧
                                                                                (∃ (t172 : Int), (∀ w' : World, S_4 w' → (Instr.loadAt 209 (.pointer (some ⟨g13, 0, none⟩))).run Tryz.prog w' = .ok (.int .u32 t172) w') ∧
                                                                                (∃ (t176 : Int), (∀ w' : World, S_4 w' → (Instr.loadAt 209 (.pointer (some ⟨g13, 0, none⟩))).run Tryz.prog w' = .ok (.int .u32 t176) w') ∧
                                                                                (Calls Tryz.prog 147 #[(.int .u32 t169), (.int .u64 2)] w25.drew fun (e170 : Ending) (w26 : World) => ∃ (t170 : Int), e170 = .returned (.int .u32 t170) ∧
                                                                                (∃ S_5 : World → Prop, (∀ w' : World, S_5 w' → S_4 w') ∧ S_5 w26 ∧
                                                                                (Calls Tryz.prog 147 #[(.int .u32 t172), (.int .u64 13)] w26 fun (e173 : Ending) (w27 : World) => ∃ (t173 : Int), e173 = .returned (.int .u32 t173) ∧
                                                                                (∃ S_6 : World → Prop, (∀ w' : World, S_6 w' → S_5 w') ∧ S_6 w27 ∧
                                                                                (Calls Tryz.prog 147 #[(.int .u32 t176), (.int .u64 22)] w27 fun (e177 : Ending) (w28 : World) => ∃ (t177 : Int), e177 = .returned (.int .u32 t177) ∧
                                                                                (∃ S_7 : World → Prop, (∀ w' : World, S_7 w' → S_6 w') ∧ S_7 w28 ∧
                                                                                (∃ (I_4 : Int → World → Prop) (μ_4 : Int → World → Nat), I_4 7 w28 ∧
                                                                                (∀ (x19 : Int), ∀ w29 : World, I_4 x19 w29 →
                                                                                (((decide (x19 > (0 : Int))) = true →
                                                                                (0 ≤ (IntKind.wrap .i64 (x19 - (1 : Int))) ∧ (IntKind.wrap .i64 (x19 - (1 : Int))) < (8 : Int) ∧
                                                                                (∃ (t189 : Int), (Instr.loadAt 209 (.pointer (some ⟨g13, 0 + Int.toNat (IntKind.wrap .i64 (x19 - (1 : Int))) * 1, none⟩))).run Tryz.prog w29 = .ok (.int .u32 t189) w29 ∧
                                                                                (0 ≤ x19 ∧ x19 < (8 : Int) ∧
                                                                                (∃ w30 : World, (Instr.storeAt 209 (.pointer (some ⟨g13, 0 + Int.toNat x19 * 1, none⟩)) (.int .u32 t189)).run Tryz.prog w29 = .ok () w30 ∧
                                                                                (I_4 (IntKind.wrap .i64 (x19 - (1 : Int))) w30 ∧ μ_4 (IntKind.wrap .i64 (x19 - (1 : Int))) w30 < μ_4 x19 w29)))))) ∧
                                                                                ((decide (x19 > (0 : Int))) = false →
                                                                                (∃ (t192 : Int), (Instr.loadAt 209 (.pointer (some ⟨g13, 4, none⟩))).run Tryz.prog w29 = .ok (.int .u32 t192) w29 ∧
                                                                                (∃ w31 : World, (Instr.storeAt 209 (.pointer (some ⟨g13, 4, none⟩)) (.int .u32 (IntKind.wrap .u32 (t192 + (IntKind.wrap .u32 ((IntKind.wrap .u32 ((IntKind.wrap .u32 ((IntKind.wrap .u32 (t145 + (bxor .u32 (bxor .u32 t148 t151) t155))) + (bxor .u32 (band .u32 t116 t118) (band .u32 (bxor .u32 ((IntKind.max .u32)) t121) t124)))) + t162)) + t166)))))).run Tryz.prog w29 = .ok () w31 ∧
                                                                                (∃ w32 : World, (Instr.storeAt 209 (.pointer (some ⟨g13, 0, none⟩)) (.int .u32 (IntKind.wrap .u32 ((IntKind.wrap .u32 ((IntKind.wrap .u32 ((IntKind.wrap .u32 ((IntKind.wrap .u32 (t145 + (bxor .u32 (bxor .u32 t148 t151) t155))) + (bxor .u32 (band .u32 t116 t118) (band .u32 (bxor .u32 ((IntKind.max .u32)) t121) t124)))) + t162)) + t166)) + (IntKind.wrap .u32 ((bxor .u32 (bxor .u32 t170 t173) t177) + (bxor .u32 (bxor .u32 (band .u32 t128 t130) (band .u32 t133 t135)) (band .u32 t139 t141)))))))).run Tryz.prog w31 = .ok () w32 ∧
                                                                                (I_3 (IntKind.wrap .i64 (x14 + (1 : Int))) w32 ∧ μ_3 (IntKind.wrap .i64 (x14 + (1 : Int))) w32 < μ_3 x14 w22)))))))))))))))))))))))))))))))))))))))))))) ∧
                                                          ((decide (x14 < (64 : Int))) = false →
                                                            (∃ (I_4 : Int → World → Prop) (μ_4 : Int → World → Nat), I_4 0 w22 ∧
                                                              (∀ (x20 : Int), ∀ w33 : World, I_4 x20 w33 →
                                                                (((decide (x20 < (8 : Int))) = true →
                                                                    (∃ S : World → Prop, S w33.drew ∧
                                                                      (0 ≤ x20 ∧ x20 < (8 : Int) ∧
                                                                        (0 ≤ x20 ∧ x20 < (8 : Int) ∧
                                                                          (∃ (t207 : Int), (∀ w' : World, S w' → (Instr.loadAt 209 (.pointer (some ⟨g6, 0 + Int.toNat x20 * 1, none⟩))).run Tryz.prog w' = .ok (.int .u32 t207) w') ∧
                                                                            (∃ (t210 : Int), (∀ w' : World, S w' → (Instr.loadAt 209 (.pointer (some ⟨g13, 0 + Int.toNat x20 * 1, none⟩))).run Tryz.prog w' = .ok (.int .u32 t210) w') ∧
                                                                              (0 ≤ x20 ∧ x20 < (8 : Int) ∧
                                                                                (∃ w34 : World, (Instr.storeAt 209 (.pointer (some ⟨g6, 0 + Int.toNat x20 * 1, none⟩)) (.int .u32 (IntKind.wrap .u32 (t207 + t210)))).run Tryz.prog w33.drew = .ok () w34 ∧
                                                                                (I_4 (IntKind.wrap .i64 (x20 + (1 : Int))) w34 ∧ μ_4 (IntKind.wrap .i64 (x20 + (1 : Int))) w34 < μ_4 x20 w33))))))))) ∧
                                                                  ((decide (x20 < (8 : Int))) = false →
                                                                    (I_1 (IntKind.wrap .i64 (x7 + (64 : Int))) w33 ∧ μ_1 (IntKind.wrap .i64 (x7 + (64 : Int))) w33 < μ_1 x7 w9)))))))))))))))))))) ∧
                              ((decide (x7 < ((t37n : Nat) : Int))) = false →
                                (∃ (t213 : Array Value), (Instr.build 22 #[]).run Tryz.prog w9 = .ok (.agg t213) w9 ∧
                                  (∃ (g21 : Nat) (w35 : World), (Instr.alloc 22 true (.tuple #[])).run Tryz.prog w9 = .ok (.pointer (some ⟨g21, 0, none⟩)) w35 ∧
                                    (∃ w36 : World, (Instr.storeAt 22 (.pointer (some ⟨g21, 0, none⟩)) (.agg t213)).run Tryz.prog w35 = .ok () w36 ∧
                                      (∃ (I_2 : Int → World → Prop) (μ_2 : Int → World → Nat), I_2 0 w36 ∧
                                        (∀ (x22 : Int), ∀ w37 : World, I_2 x22 w37 →
                                          (((decide (x22 < (32 : Int))) = true →
                                              (0 ≤ (IntKind.wrap .i64 (Int.tdiv x22 (4 : Int))) ∧ (IntKind.wrap .i64 (Int.tdiv x22 (4 : Int))) < (8 : Int) ∧
                                                (∃ (t222 : Int), (Instr.loadAt 209 (.pointer (some ⟨g6, 0 + Int.toNat (IntKind.wrap .i64 (Int.tdiv x22 (4 : Int))) * 1, none⟩))).run Tryz.prog w37 = .ok (.int .u32 t222) w37 ∧
                                                  (0 ≤ (IntKind.wrap .u64 ((24 : Int) - (IntKind.wrap .u64 ((8 : Int) * (IntKind.wrap .u64 (Int.tmod x22 (4 : Int))))))) ∧
                                                    (0 ≤ x22 ∧ x22 < (32 : Int) ∧
                                                      (∃ w38 : World, (Instr.storeAt 5 (.pointer (some ⟨g21, 0 + Int.toNat x22 * 1, none⟩)) (.int .u8 (IntKind.wrap .u8 (shrI .u32 t222 (IntKind.wrap .u64 ((24 : Int) - (IntKind.wrap .u64 ((8 : Int) * (IntKind.wrap .u64 (Int.tmod x22 (4 : Int))))))))))).run Tryz.prog w37 = .ok () w38 ∧
                                                        (I_2 (IntKind.wrap .i64 (x22 + (1 : Int))) w38 ∧ μ_2 (IntKind.wrap .i64 (x22 + (1 : Int))) w38 < μ_2 x22 w37))))))) ∧
                                            ((decide (x22 < (32 : Int))) = false →
                                              (∃ (t231 : Array Value), (Instr.loadAt 22 (.pointer (some ⟨g21, 0, none⟩))).run Tryz.prog w37 = .ok (.agg t231) w37 ∧
                                                (∃ w39 : World, (Instr.storeAt 22 (.pointer (some ⟨g2, 0, none⟩)) (.agg t231)).run Tryz.prog w37 = .ok () w39 ∧
                                                  (∃ r2 : Value, (loadVar 22 ⟨g2, 0, none⟩).run Tryz.prog w39 = .ok r2 w39 ∧
                                                    (R (.returned r2) w39))))))))))))))))))))))))))) : Calls Tryz.prog 124 #[(.slice a0a a0n a0c)] w R :=
  calls_of_ev (args := [(.slice a0a a0n a0c)])
    (tc := .seq (.reg (.op .bx (.nil))) (.seq (.reg (.op (.ld (.agg)) (.op .bx (.op .u (.nil))))) (.seq (.reg (.op .p (.nil))) (.seq (.seq (.reg (.op .p (.nil))) (.blk (.loop [4, 5, 24, 25, 26, 27, 28, 29, 30, 31, 32, 33, 34, 35] [4, 5] [.slice, .int .i64] (.seq (.seq (.reg (.op .p (.op .p (.op .p (.op .p (.nil)))))) (.cond (.leaf) (.leaf))) (.seq (.blk (.reg (.op .p (.op .p (.op .p (.op .ix (.op (.ld (.slice)) (.op (.r (.slice)) (.op .p (.nil)))))))))) (.reg (.op .p (.op .p (.op .p (.nil)))))))))) (.seq (.reg (.op .p (.op (.cl [.slice]) (.op .p (.nil))))) (.seq (.reg (.op (.ld (.agg)) (.op .bx (.op .u (.nil))))) (.seq (.seq (.reg (.op .p (.nil))) (.blk (.loop [7, 8, 9, 10, 11, 12, 13, 14, 15, 16, 17, 18, 19, 20, 39, 40, 41, 42, 43, 44, 45, 46, 47, 48, 49, 50, 51, 52, 53, 54, 55, 56, 57, 58, 59, 60, 61, 62, 63, 64, 65, 66, 67, 68, 69, 70, 71, 72, 73, 74, 75, 76, 77, 78, 79, 80, 81, 82, 83, 84, 85, 86, 87, 88, 89, 90, 91, 92, 93, 94, 95, 96, 97, 98, 99, 100, 101, 102, 103, 104, 105, 106, 107, 108, 109, 110, 111, 112, 113, 114, 115, 116, 117, 118, 119, 120, 121, 122, 123, 124, 125, 126, 127, 128, 129, 130, 131, 132, 133, 134, 135, 136, 137, 138, 139, 140, 141, 142, 143, 144, 145, 146, 147, 148, 149, 150, 151, 152, 153, 154, 155, 156, 157, 158, 159, 160, 161, 162, 163, 164, 165, 166, 167, 168, 169, 170, 171, 172, 173, 174, 175, 176, 177, 178, 179, 180, 181, 182, 183, 184, 185, 186, 187, 188, 189, 190, 191, 192, 193, 194, 195, 196, 197, 198, 199, 200, 201, 202, 203, 204, 205, 206, 207, 208, 209, 210, 211, 212] [7] [.int .i64] (.seq (.seq (.reg (.op .p (.op .p (.op .p (.op .p (.nil)))))) (.cond (.leaf) (.leaf))) (.seq (.blk (.seq (.reg (.op (.ld (.agg)) (.op .bx (.op .u (.nil))))) (.seq (.seq (.reg (.op .p (.nil))) (.blk (.loop [9, 10, 11, 12, 46, 47, 48, 49, 50, 51, 52, 53, 54, 55, 56, 57, 58, 59, 60, 61, 62, 63, 64, 65, 66, 67, 68, 69, 70, 71, 72, 73, 74, 75, 76, 77, 78, 79, 80, 81, 82, 83, 84, 85, 86, 87, 88, 89, 90, 91, 92, 93, 94, 95, 96, 97, 98, 99, 100, 101, 102, 103, 104, 105, 106, 107, 108, 109] [9] [.int .i64] (.seq (.seq (.reg (.op .p (.op .p (.nil)))) (.cond (.leaf) (.leaf))) (.seq (.blk (.seq (.seq (.reg (.op .p (.op .p (.nil)))) (.cond (.seq (.seq (.reg (.op .p (.nil))) (.blk (.loop [10, 52, 53, 54, 55, 56, 57, 58, 59, 60, 61, 62, 63, 64, 65, 66, 67, 68, 69, 70, 71, 72] [10] [.int .i64] (.seq (.seq (.reg (.op .p (.op .p (.nil)))) (.cond (.leaf) (.leaf))) (.seq (.blk (.drawS (.tk 0 .p (.tk 1 .p (.tk 2 .ix (.tk 5 .p (.tk 6 .p (.tk 7 .p (.tk 8 .p (.tk 9 .p (.tk 10 .p (.tk 11 .p (.tk 12 .ix (.ts 3 (.int .u32) (.tk 4 .p (.ts 13 (.int .u8) (.tk 14 .p (.tk 15 .p (.tk 16 .ix (.go 17 .u (.nil))))))))))))))))))) [17])) (.reg (.op .p (.op .p (.op .p (.nil)))))))))) (.leaf)) (.leaf))) (.seq (.reg (.op .p (.op .p (.op .ix (.op (.ld (.int .u32)) (.op .p (.nil))))))) (.seq (.reg (.op .p (.op .p (.op .ix (.op (.ld (.int .u32)) (.op .p (.nil))))))) (.drawS (.tk 0 .p (.tk 1 .p (.tk 3 .p (.tk 6 .p (.tk 7 .p (.tk 9 .p (.tk 10 .p (.tk 11 .ix (.tk 14 .p (.tk 16 .p (.tk 19 .p (.tk 20 .p (.tk 23 .p (.tk 24 .p (.tk 25 .ix (.ts 12 (.int .u32) (.ts 26 (.int .u32) (.go 2 (.cl [.int .u32]) (.go 4 (.cl [.int .u32]) (.tk 5 .p (.tk 8 .p (.tk 13 .p (.go 15 (.cl [.int .u32]) (.go 17 (.cl [.int .u32]) (.tk 18 .p (.tk 21 .p (.tk 22 .p (.tk 27 .p (.tk 28 .ix (.go 29 .u (.nil))))))))))))))))))))))))))))))) [29]))))) (.reg (.op .p (.op .p (.op .p (.nil)))))))))) (.seq (.reg (.op (.ld (.agg)) (.op .bx (.op .u (.nil))))) (.seq (.seq (.reg (.op .p (.nil))) (.blk (.loop [14, 15, 16, 17, 18, 19, 111, 112, 113, 114, 115, 116, 117, 118, 119, 120, 121, 122, 123, 124, 125, 126, 127, 128, 129, 130, 131, 132, 133, 134, 135, 136, 137, 138, 139, 140, 141, 142, 143, 144, 145, 146, 147, 148, 149, 150, 151, 152, 153, 154, 155, 156, 157, 158, 159, 160, 161, 162, 163, 164, 165, 166, 167, 168, 169, 170, 171, 172, 173, 174, 175, 176, 177, 178, 179, 180, 181, 182, 183, 184, 185, 186, 187, 188, 189, 190, 191, 192, 193, 194, 195, 196, 197, 198, 199] [14] [.int .i64] (.seq (.seq (.reg (.op .p (.op .p (.nil)))) (.cond (.leaf) (.leaf))) (.seq (.blk (.seq (.reg (.op .p (.op (.ld (.int .u32)) (.op .p (.op (.ld (.int .u32)) (.op .p (.op .p (.op (.ld (.int .u32)) (.op .p (.op .p (.op (.ld (.int .u32)) (.op .p (.op .p (.op .p (.nil))))))))))))))) (.seq (.reg (.op .p (.op (.ld (.int .u32)) (.op .p (.op (.ld (.int .u32)) (.op .p (.op .p (.op (.ld (.int .u32)) (.op .p (.op (.ld (.int .u32)) (.op .p (.op .p (.op .p (.op (.ld (.int .u32)) (.op .p (.op (.ld (.int .u32)) (.op .p (.op .p (.op .p (.nil)))))))))))))))))))) (.seq (.drawS (.tk 0 .p (.tk 2 .p (.tk 5 .p (.tk 9 .p (.tk 14 .p (.tk 16 .p (.tk 17 .ix (.tk 20 .p (.tk 21 .ix (.ts 1 (.int .u32) (.ts 3 (.int .u32) (.ts 6 (.int .u32) (.ts 10 (.int .u32) (.ts 18 (.int .u32) (.ts 22 (.int .u32) (.go 4 (.cl [.int .u32]) (.go 7 (.cl [.int .u32]) (.tk 8 .p (.go 11 (.cl [.int .u32]) (.tk 12 .p (.tk 13 .p (.tk 15 .p (.tk 19 .p (.tk 23 .p (.tk 24 .p (.nil)))))))))))))))))))))))))) []) (.seq (.drawS (.tk 0 .p (.tk 3 .p (.tk 7 .p (.tk 11 .p (.ts 1 (.int .u32) (.ts 4 (.int .u32) (.ts 8 (.int .u32) (.go 2 (.cl [.int .u32]) (.go 5 (.cl [.int .u32]) (.tk 6 .p (.go 9 (.cl [.int .u32]) (.tk 10 .p (.tk 12 .p (.tk 13 .p (.nil))))))))))))))) []) (.seq (.seq (.reg (.op .p (.nil))) (.blk (.loop [19, 181, 182, 183, 184, 185, 186, 187, 188, 189, 190] [19] [.int .i64] (.seq (.seq (.reg (.op .p (.op .p (.nil)))) (.cond (.leaf) (.leaf))) (.seq (.blk (.reg (.op .p (.op .p (.op .p (.op .ix (.op (.ld (.int .u32)) (.op .ix (.op .u (.nil)))))))))) (.reg (.op .p (.op .p (.op .p (.nil)))))))))) (.seq (.reg (.op .p (.op (.ld (.int .u32)) (.op .p (.op .p (.op .p (.op .u (.nil)))))))) (.reg (.op .p (.op .p (.op .p (.op .p (.op .u (.nil)))))))))))))) (.reg (.op .p (.op .p (.op .p (.nil)))))))))) (.seq (.reg (.op .p (.nil))) (.blk (.loop [20, 200, 201, 202, 203, 204, 205, 206, 207, 208, 209, 210, 211, 212] [20] [.int .i64] (.seq (.seq (.reg (.op .p (.op .p (.nil)))) (.cond (.leaf) (.leaf))) (.seq (.blk (.drawS (.tk 0 .p (.tk 1 .p (.tk 2 .ix (.tk 4 .p (.tk 5 .ix (.ts 3 (.int .u32) (.ts 6 (.int .u32) (.tk 7 .p (.tk 8 .ix (.go 9 .u (.nil))))))))))) [9])) (.reg (.op .p (.op .p (.op .p (.nil))))))))))))))) (.reg (.op .p (.op .p (.op .p (.nil)))))))))) (.seq (.reg (.op (.ld (.agg)) (.op .bx (.op .u (.nil))))) (.seq (.seq (.reg (.op .p (.nil))) (.blk (.loop [22, 214, 215, 216, 217, 218, 219, 220, 221, 222, 223, 224, 225, 226, 227, 228, 229, 230] [22] [.int .i64] (.seq (.seq (.reg (.op .p (.op .p (.nil)))) (.cond (.leaf) (.leaf))) (.seq (.blk (.reg (.op .p (.op .p (.op .p (.op .ix (.op (.ld (.int .u32)) (.op .p (.op .p (.op .p (.op .p (.op .p (.op .sc (.op .p (.op .ix (.op .u (.nil))))))))))))))))) (.reg (.op .p (.op .p (.op .p (.nil)))))))))) (.seq (.reg (.op (.ld (.agg)) (.op .u (.nil)))) (.leaf)))))))))))
    (by kernel_rfl) Tryz.func124 (by kernel_rfl) (by kernel_rfl) (by kernel_rfl) (by kernel_rfl) h

set_option maxRecDepth 100000 in
theorem amphoraref02_Mac_vc (a0a : Option Addr) (a0n : Nat) (a0c : Nat) (a1a : Option Addr) (a1n : Nat) (a1c : Nat) (w : World) (R : Ending → World → Prop) (h :
  ∃ (g4 : Nat) (w1 : World), (Instr.alloc 22 true (.tuple #[])).run Tryz.prog w = .ok (.pointer (some ⟨g4, 0, none⟩)) w1 ∧
  (∃ J : Option Addr → Nat → Nat → World → Prop, (((decide (((a0n : Nat) : Int) > (64 : Int))) = true →
        (∃ (t16a : Option Addr) (t16n : Nat) (t16c : Nat) (w2 : World), (Instr.buildSlice 23 1 #[(0, (.slice a0a a0n a0c))]).run Tryz.prog w1 = .ok (.slice t16a t16n t16c) w2 ∧
          (Calls Tryz.prog 124 #[(.slice t16a t16n t16c)] w2 fun (e17 : Ending) (w3 : World) => ∃ (t17 : Array Value), e17 = .returned (.agg t17) ∧
            (∃ (g5 : Nat) (w4 : World), (Instr.alloc 22 true (.tuple #[])).run Tryz.prog w3 = .ok (.pointer (some ⟨g5, 0, none⟩)) w4 ∧
              (∃ w5 : World, (Instr.storeAt 22 (.pointer (some ⟨g5, 0, none⟩)) (.agg t17)).run Tryz.prog w4 = .ok () w5 ∧
                (0 ≤ ((32 : Nat) : Int) ∧ ((32 : Nat) : Int) ≤ ((32 : Nat) : Int) ∧
                  (J (some ⟨g5, 0, none⟩) (32) 32 w5))))))) ∧
      ((decide (((a0n : Nat) : Int) > (64 : Int))) = false →
        (J a0a a0n a0c w1))) ∧
    (∀ (x0a : Option Addr) (x0n : Nat) (x0c : Nat), ∀ w6 : World, J x0a x0n x0c w6 →
      (∃ (t19a : Option Addr) (t19n : Nat) (t19c : Nat) (w7 : World), (Instr.makeSlice 33 (.int .i64 64) (.int .i64 64)).run Tryz.prog w6 = .ok (.slice t19a t19n t19c) w7 ∧
        (∃ (t20a : Option Addr) (t20n : Nat) (t20c : Nat) (w8 : World), (Instr.makeSlice 33 (.int .i64 64) (.int .i64 64)).run Tryz.prog w7 = .ok (.slice t20a t20n t20c) w8 ∧
          (∃ (I : Int → World → Prop) (μ : Int → World → Nat), I 0 w8 ∧
            (∀ (x8 : Int), ∀ w9 : World, I x8 w9 →
              (((decide (x8 < (64 : Int))) = true →
                  (∃ J_1 : Int → World → Prop, (((decide (x8 < ((x0n : Nat) : Int))) = true →
                        (∃ (t31b t31o : Nat), x0a = some ⟨t31b, t31o, none⟩ ∧ 0 ≤ x8 ∧ x8 < ((x0n : Nat) : Int) ∧
                          (∃ (t32 : Int), (Instr.loadAt 5 (.pointer (some ⟨t31b, t31o + Int.toNat x8 * 1, none⟩))).run Tryz.prog w9 = .ok (.int .u8 t32) w9 ∧
                            (J_1 t32 w9)))) ∧
                      ((decide (x8 < ((x0n : Nat) : Int))) = false →
                        (J_1 0 w9))) ∧
                    (∀ (x9 : Int), ∀ w10 : World, J_1 x9 w10 →
                      (∃ (t37b t37o : Nat), t19a = some ⟨t37b, t37o, none⟩ ∧ 0 ≤ x8 ∧ x8 < ((t19n : Nat) : Int) ∧
                        (∃ w11 : World, (Instr.storeAt 5 (.pointer (some ⟨t37b, t37o + Int.toNat x8 * 1, none⟩)) (.int .u8 (bxor .u8 x9 (54 : Int)))).run Tryz.prog w10 = .ok () w11 ∧
                          (∃ (t42b t42o : Nat), t20a = some ⟨t42b, t42o, none⟩ ∧ 0 ≤ x8 ∧ x8 < ((t20n : Nat) : Int) ∧
                            (∃ w12 : World, (Instr.storeAt 5 (.pointer (some ⟨t42b, t42o + Int.toNat x8 * 1, none⟩)) (.int .u8 (bxor .u8 x9 (92 : Int)))).run Tryz.prog w11 = .ok () w12 ∧
                              (I (IntKind.wrap .i64 (x8 + (1 : Int))) w12 ∧ μ (IntKind.wrap .i64 (x8 + (1 : Int))) w12 < μ x8 w9)))))))) ∧
                ((decide (x8 < (64 : Int))) = false →
                  (∃ (I_1 : Option Addr → Nat → Nat → Int → World → Prop) (μ_1 : Option Addr → Nat → Nat → Int → World → Nat), I_1 t19a t19n t19c 0 w9 ∧
                    (∀ (x6a : Option Addr) (x6n : Nat) (x6c : Nat) (x10 : Int), ∀ w13 : World, I_1 x6a x6n x6c x10 w13 →
                      (((decide (x10 < ((a1n : Nat) : Int))) = true →
                          (∃ (t52b t52o : Nat), a1a = some ⟨t52b, t52o, none⟩ ∧ 0 ≤ x10 ∧ x10 < ((a1n : Nat) : Int) ∧
                            (∃ (t53a : Option Addr) (t53n : Nat) (t53c : Nat), (Instr.loadAt 33 (.pointer (some ⟨t52b, t52o + Int.toNat x10 * 1, none⟩))).run Tryz.prog w13 = .ok (.slice t53a t53n t53c) w13 ∧
                              (∃ (t54a : Option Addr) (t54n : Nat) (t54c : Nat) (w14 : World), (Builtin.append_ #[33, 33] 33 #[(.slice x6a x6n x6c), (.slice t53a t53n t53c)]).run Tryz.prog w13 = .ok (.slice t54a t54n t54c) w14 ∧
                                (I_1 t54a t54n t54c (IntKind.wrap .i64 (x10 + (1 : Int))) w14 ∧ μ_1 t54a t54n t54c (IntKind.wrap .i64 (x10 + (1 : Int))) w14 < μ_1 x6a x6n x6c x10 w13))))) ∧
                        ((decide (x10 < ((a1n : Nat) : Int))) = false →
                          (∃ (t56a : Option Addr) (t56n : Nat) (t56c : Nat) (w15 : World), (Instr.buildSlice 23 1 #[(0, (.slice x6a x6n x6c))]).run Tryz.prog w13 = .ok (.slice t56a t56n t56c) w15 ∧
                            (Calls Tryz.prog 124 #[(.slice t56a t56n t56c)] w15 fun (e57 : Ending) (w16 : World) => ∃ (t57 : Array Value), e57 = .returned (.agg t57) ∧
                              (∃ (g11 : Nat) (w17 : World), (Instr.alloc 22 true (.tuple #[])).run Tryz.prog w16 = .ok (.pointer (some ⟨g11, 0, none⟩)) w17 ∧
                                (∃ w18 : World, (Instr.storeAt 22 (.pointer (some ⟨g11, 0, none⟩)) (.agg t57)).run Tryz.prog w17 = .ok () w18 ∧
                                  (0 ≤ ((32 : Nat) : Int) ∧ ((32 : Nat) : Int) ≤ ((32 : Nat) : Int) ∧
                                    (∃ (t60a : Option Addr) (t60n : Nat) (t60c : Nat) (w19 : World), (Instr.buildSlice 23 2 #[(0, (.slice t20a t20n t20c)), (1, (.slice (some ⟨g11, 0, none⟩) (32) 32))]).run Tryz.prog w18 = .ok (.slice t60a t60n t60c) w19 ∧
                                      (Calls Tryz.prog 124 #[(.slice t60a t60n t60c)] w19 fun (e61 : Ending) (w20 : World) => ∃ (t61 : Array Value), e61 = .returned (.agg t61) ∧
                                        (∃ w21 : World, (Instr.storeAt 22 (.pointer (some ⟨g4, 0, none⟩)) (.agg t61)).run Tryz.prog w20 = .ok () w21 ∧
                                          (∃ r4 : Value, (loadVar 22 ⟨g4, 0, none⟩).run Tryz.prog w21 = .ok r4 w21 ∧
                                            (R (.returned r4) w21))))))))))))))))))))))) : Calls Tryz.prog 101 #[(.slice a0a a0n a0c), (.slice a1a a1n a1c)] w R :=
  calls_of_ev (args := [(.slice a0a a0n a0c), (.slice a1a a1n a1c)])
    (tc := .seq (.reg (.op .bx (.nil))) (.seq (.seq (.reg (.op .p (.op .p (.op .p (.nil))))) (.join [0, 5, 15, 16, 17, 18] [0] [.slice] (.cond (.seq (.reg (.op .p (.op (.r (.slice)) (.op (.cl [.agg]) (.op .bx (.op .u (.nil))))))) (.reg (.op .sl (.op .p (.nil))))) (.leaf)))) (.seq (.reg (.op (.r (.slice)) (.op .p (.nil)))) (.seq (.reg (.op (.r (.slice)) (.op .p (.nil)))) (.seq (.seq (.reg (.op .p (.nil))) (.blk (.loop [8, 9, 21, 22, 23, 24, 25, 26, 27, 28, 29, 30, 31, 32, 33, 34, 35, 36, 37, 38, 39, 40, 41, 42] [8] [.int .i64] (.seq (.seq (.reg (.op .p (.op .p (.nil)))) (.cond (.leaf) (.leaf))) (.seq (.blk (.seq (.reg (.op .p (.nil))) (.seq (.seq (.reg (.op .p (.op .p (.op .p (.op .p (.nil)))))) (.join [9, 29, 30, 31, 32] [9] [.int .u8] (.cond (.reg (.op .p (.op .p (.op .ix (.op (.ld (.int .u8)) (.op .p (.nil))))))) (.leaf)))) (.seq (.reg (.op .p (.op .p (.op .p (.op .p (.op .ix (.op .u (.nil)))))))) (.reg (.op .p (.op .p (.op .p (.op .p (.op .ix (.op .u (.nil)))))))))))) (.reg (.op .p (.op .p (.op .p (.nil)))))))))) (.seq (.seq (.reg (.op .p (.nil))) (.blk (.loop [6, 10, 43, 44, 45, 46, 47, 48, 49, 50, 51, 52, 53, 54] [6, 10] [.slice, .int .i64] (.seq (.seq (.reg (.op .p (.op .p (.op .p (.op .p (.nil)))))) (.cond (.leaf) (.leaf))) (.seq (.blk (.reg (.op .p (.op .p (.op .p (.op .ix (.op (.ld (.slice)) (.op (.r (.slice)) (.op .p (.nil)))))))))) (.reg (.op .p (.op .p (.op .p (.nil)))))))))) (.seq (.reg (.op .p (.op (.r (.slice)) (.op (.cl [.agg]) (.op .bx (.op .u (.nil))))))) (.seq (.reg (.op .p (.op .sl (.op (.r (.slice)) (.op (.cl [.agg]) (.op .u (.nil))))))) (.leaf)))))))))
    (by kernel_rfl) Tryz.func101 (by kernel_rfl) (by kernel_rfl) (by kernel_rfl) (by kernel_rfl) h

set_option maxRecDepth 100000 in
theorem amphoraref02_Derive_vc (a0a : Option Addr) (a0n : Nat) (a0c : Nat) (a1a : Option Addr) (a1n : Nat) (a1c : Nat) (a2a : Option Addr) (a2n : Nat) (a2c : Nat) (a3 : Int) (w : World) (R : Ending → World → Prop) (h :
  (((decide (a3 < (0 : Int))) || (decide (a3 > (8160 : Int)))) = true →
    (R (.returned (.tuple #[(.slice none 0 0), (.int .i64 7)])) w)) ∧
  (((decide (a3 < (0 : Int))) || (decide (a3 > (8160 : Int)))) = false →
    (∃ J : Option Addr → Nat → Nat → World → Prop, (((((a0n : Nat) : Int) == (0 : Int)) = true →
          (∃ (t24a : Option Addr) (t24n : Nat) (t24c : Nat) (w1 : World), (Instr.makeSlice 33 (.int .i64 32) (.int .i64 32)).run Tryz.prog w = .ok (.slice t24a t24n t24c) w1 ∧
            (J t24a t24n t24c w1))) ∧
        ((((a0n : Nat) : Int) == (0 : Int)) = false →
          (J a0a a0n a0c w))) ∧
      (∀ (x0a : Option Addr) (x0n : Nat) (x0c : Nat), ∀ w2 : World, J x0a x0n x0c w2 →
        (∃ (t27a : Option Addr) (t27n : Nat) (t27c : Nat) (w3 : World), (Instr.buildSlice 23 1 #[(0, (.slice a1a a1n a1c))]).run Tryz.prog w2 = .ok (.slice t27a t27n t27c) w3 ∧
          (Calls Tryz.prog 101 #[(.slice x0a x0n x0c), (.slice t27a t27n t27c)] w3 fun (e28 : Ending) (w4 : World) => ∃ (t28 : Array Value), e28 = .returned (.agg t28) ∧
            (∃ (g10 : Nat) (w5 : World), (Instr.alloc 22 true (.tuple #[])).run Tryz.prog w4 = .ok (.pointer (some ⟨g10, 0, none⟩)) w5 ∧
              (∃ w6 : World, (Instr.storeAt 22 (.pointer (some ⟨g10, 0, none⟩)) (.agg t28)).run Tryz.prog w5 = .ok () w6 ∧
                (∃ (t29a : Option Addr) (t29n : Nat) (t29c : Nat) (w7 : World), (Instr.buildSlice 33 0 #[]).run Tryz.prog w6 = .ok (.slice t29a t29n t29c) w7 ∧
                  (∃ (I : Option Addr → Nat → Nat → Option Addr → Nat → Nat → Int → World → Prop) (μ : Option Addr → Nat → Nat → Option Addr → Nat → Nat → Int → World → Nat), I none 0 0 t29a t29n t29c 1 w7 ∧
                    (∀ (x11a : Option Addr) (x11n : Nat) (x11c : Nat) (x12a : Option Addr) (x12n : Nat) (x12c : Nat) (x13 : Int), ∀ w8 : World, I x11a x11n x11c x12a x12n x12c x13 w8 →
                      (((decide (((x11n : Nat) : Int) < a3)) = true →
                          (0 ≤ ((32 : Nat) : Int) ∧ ((32 : Nat) : Int) ≤ ((32 : Nat) : Int) ∧
                            (∃ (t41a : Option Addr) (t41n : Nat) (t41c : Nat) (w9 : World), (Instr.buildSlice 33 1 #[(0, (.int .u8 (IntKind.wrap .u8 x13)))]).run Tryz.prog w8 = .ok (.slice t41a t41n t41c) w9 ∧
                              (∃ (t42a : Option Addr) (t42n : Nat) (t42c : Nat) (w10 : World), (Instr.buildSlice 23 3 #[(0, (.slice x12a x12n x12c)), (1, (.slice a2a a2n a2c)), (2, (.slice t41a t41n t41c))]).run Tryz.prog w9 = .ok (.slice t42a t42n t42c) w10 ∧
                                (Calls Tryz.prog 101 #[(.slice (some ⟨g10, 0, none⟩) (32) 32), (.slice t42a t42n t42c)] w10 fun (e43 : Ending) (w11 : World) => ∃ (t43 : Array Value), e43 = .returned (.agg t43) ∧
                                  (∃ (g14 : Nat) (w12 : World), (Instr.alloc 22 true (.tuple #[])).run Tryz.prog w11 = .ok (.pointer (some ⟨g14, 0, none⟩)) w12 ∧
                                    (∃ w13 : World, (Instr.storeAt 22 (.pointer (some ⟨g14, 0, none⟩)) (.agg t43)).run Tryz.prog w12 = .ok () w13 ∧
                                      (∃ (t44a : Option Addr) (t44n : Nat) (t44c : Nat) (w14 : World), (Instr.buildSlice 33 0 #[]).run Tryz.prog w13 = .ok (.slice t44a t44n t44c) w14 ∧
                                        (0 ≤ ((32 : Nat) : Int) ∧ ((32 : Nat) : Int) ≤ ((32 : Nat) : Int) ∧
                                          (∃ (t46a : Option Addr) (t46n : Nat) (t46c : Nat) (w15 : World), (Builtin.append_ #[33, 33] 33 #[(.slice t44a t44n t44c), (.slice (some ⟨g14, 0, none⟩) (32) 32)]).run Tryz.prog w14 = .ok (.slice t46a t46n t46c) w15 ∧
                                            (∃ (t49a : Option Addr) (t49n : Nat) (t49c : Nat) (w16 : World), (Builtin.append_ #[33, 33] 33 #[(.slice x11a x11n x11c), (.slice t46a t46n t46c)]).run Tryz.prog w15 = .ok (.slice t49a t49n t49c) w16 ∧
                                              (I t49a t49n t49c t46a t46n t46c (IntKind.wrap .i64 (x13 + (1 : Int))) w16 ∧ μ t49a t49n t49c t46a t46n t46c (IntKind.wrap .i64 (x13 + (1 : Int))) w16 < μ x11a x11n x11c x12a x12n x12c x13 w8)))))))))))) ∧
                        ((decide (((x11n : Nat) : Int) < a3)) = false →
                          (0 ≤ a3 ∧ a3 ≤ ((x11c : Nat) : Int) ∧
                            (R (.returned (.tuple #[(.slice x11a (Int.toNat a3) x11c), (.int .i64 0)])) w8))))))))))))))) : Calls Tryz.prog 69 #[(.slice a0a a0n a0c), (.slice a1a a1n a1c), (.slice a2a a2n a2c), (.int .i64 a3)] w R :=
  calls_of_ev (args := [(.slice a0a a0n a0c), (.slice a1a a1n a1c), (.slice a2a a2n a2c), (.int .i64 a3)])
    (tc := .seq (.reg (.op .p (.op .p (.nil)))) (.seq (.seq (.reg (.op .p (.op .p (.op .p (.ap 2 (.nil)))))) (.cond (.seq (.reg (.op .p (.op .p (.nil)))) (.leaf)) (.leaf))) (.seq (.seq (.reg (.op .p (.op .p (.op .p (.nil))))) (.join [0, 24] [0] [.slice] (.cond (.reg (.op (.r (.slice)) (.op .p (.nil)))) (.leaf)))) (.seq (.reg (.op .p (.op .p (.op (.r (.slice)) (.op (.cl [.agg]) (.op .bx (.op .u (.nil)))))))) (.seq (.reg (.op .p (.nil))) (.seq (.reg (.op (.r (.slice)) (.op .p (.nil)))) (.seq (.seq (.reg (.op .p (.nil))) (.blk (.loop [11, 12, 13, 14, 30, 31, 32, 33, 34, 35, 36, 37, 38, 39, 40, 41, 42, 43, 44, 45, 46, 47, 48, 49] [11, 12, 13] [.slice, .slice, .int .i64] (.seq (.seq (.reg (.op .p (.op .p (.op .p (.op .p (.nil)))))) (.cond (.leaf) (.leaf))) (.seq (.blk (.seq (.reg (.op .sl (.op .p (.op .p (.op .p (.op .p (.op (.r (.slice)) (.op (.r (.slice)) (.op (.cl [.agg]) (.op .bx (.op .u (.nil)))))))))))) (.seq (.reg (.op (.r (.slice)) (.op .sl (.op (.r (.slice)) (.op .p (.nil)))))) (.reg (.op .p (.op .p (.op (.r (.slice)) (.op .p (.nil))))))))) (.reg (.op .p (.op .p (.op .p (.nil)))))))))) (.seq (.reg (.op .p (.op .p (.op .sl (.op .p (.op .p (.nil))))))) (.leaf)))))))))
    (by kernel_rfl) Tryz.func69 (by kernel_rfl) (by kernel_rfl) (by kernel_rfl) (by kernel_rfl) h

end Go.Proofs.YtmdandkoajocpaaGreatDoor
