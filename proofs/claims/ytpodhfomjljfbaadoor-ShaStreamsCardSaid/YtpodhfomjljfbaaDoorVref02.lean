/- Verification conditions of functions, printed by the session's own program vc.py: out of each, Calls (conditions: none). -/
import Derived.Test.YtpodhfomjljfbaaDoorRows
import Derived.Test.YtpodhfomjljfbaaDoorSxRun
namespace Go.Proofs.YtpodhfomjljfbaaDoor
open Go Go.Proofs.YtpodhfomjljfbaaDoor.Sx

set_option maxRecDepth 100000 in
theorem amphoraref02_turn_vc (a0 : Int) (a1 : Int) (w : World) (R : Ending → World → Prop) (h :
  0 ≤ a1 ∧
  (0 ≤ (IntKind.wrap .u64 ((32 : Int) - a1)) ∧
    (R (.returned (.int .u32 (bor .u32 (shrI .u32 a0 a1) (shlI .u32 a0 (IntKind.wrap .u64 ((32 : Int) - a1)))))) w))) : Calls Tryd.prog 34 #[(.int .u32 a0), (.int .u64 a1)] w R :=
  calls_of_ev (args := [(.int .u32 a0), (.int .u64 a1)])
    (tc := .seq (.reg (.op .p (.nil))) (.seq (.reg (.op .p (.op .p (.op .sc (.op .p (.op .p (.op .p (.op .sc (.op .p (.op .p (.nil))))))))))) (.leaf)))
    (by kernel_rfl) Tryd.func34 (by kernel_rfl) (by kernel_rfl) (by kernel_rfl) (by kernel_rfl) h

set_option maxRecDepth 100000 in
theorem amphoraref02_filled_vc (a0a : Option Addr) (a0n : Nat) (a0c : Nat) (w : World) (R : Ending → World → Prop) (h :
  ∃ (t6a : Option Addr) (t6n : Nat) (t6c : Nat) (w1 : World), (Instr.buildSlice 22 0 #[]).run Tryd.prog w = .ok (.slice t6a t6n t6c) w1 ∧
  (∃ (t8a : Option Addr) (t8n : Nat) (t8c : Nat) (w2 : World), (Builtin.append_ #[22, 22] 22 #[(.slice t6a t6n t6c), (.slice a0a a0n a0c)]).run Tryd.prog w1 = .ok (.slice t8a t8n t8c) w2 ∧
    (∃ (t10a : Option Addr) (t10n : Nat) (t10c : Nat) (w3 : World), (Instr.buildSlice 22 1 #[(0, (.int .u8 128))]).run Tryd.prog w2 = .ok (.slice t10a t10n t10c) w3 ∧
      (∃ (t11a : Option Addr) (t11n : Nat) (t11c : Nat) (w4 : World), (Builtin.append_ #[22, 22] 22 #[(.slice t8a t8n t8c), (.slice t10a t10n t10c)]).run Tryd.prog w3 = .ok (.slice t11a t11n t11c) w4 ∧
        (∃ (I : Option Addr → Nat → Nat → World → Prop) (μ : Option Addr → Nat → Nat → World → Nat), I t11a t11n t11c w4 ∧
          (∀ (x3a : Option Addr) (x3n : Nat) (x3c : Nat), ∀ w5 : World, I x3a x3n x3c w5 →
            ((((Int.tmod ((x3n : Nat) : Int) (64 : Int)) != (56 : Int)) = true →
                (∃ (t17a : Option Addr) (t17n : Nat) (t17c : Nat) (w6 : World), (Instr.buildSlice 22 1 #[(0, (.int .u8 0))]).run Tryd.prog w5 = .ok (.slice t17a t17n t17c) w6 ∧
                  (∃ (t18a : Option Addr) (t18n : Nat) (t18c : Nat) (w7 : World), (Builtin.append_ #[22, 22] 22 #[(.slice x3a x3n x3c), (.slice t17a t17n t17c)]).run Tryd.prog w6 = .ok (.slice t18a t18n t18c) w7 ∧
                    (I t18a t18n t18c w7 ∧ μ t18a t18n t18c w7 < μ x3a x3n x3c w5)))) ∧
              (((Int.tmod ((x3n : Nat) : Int) (64 : Int)) != (56 : Int)) = false →
                (∃ (I_1 : Option Addr → Nat → Nat → Int → World → Prop) (μ_1 : Option Addr → Nat → Nat → Int → World → Nat), I_1 x3a x3n x3c 0 w5 ∧
                  (∀ (x3a_1 : Option Addr) (x3n_1 : Nat) (x3c_1 : Nat) (x5 : Int), ∀ w8 : World, I_1 x3a_1 x3n_1 x3c_1 x5 w8 →
                    (((decide (x5 < (8 : Int))) = true →
                        (0 ≤ (IntKind.wrap .u64 ((56 : Int) - (IntKind.wrap .u64 ((8 : Int) * (IntKind.wrap .u64 x5))))) ∧
                          (∃ (t35a : Option Addr) (t35n : Nat) (t35c : Nat) (w9 : World), (Instr.buildSlice 22 1 #[(0, (.int .u8 (IntKind.wrap .u8 (shrI .u64 (IntKind.wrap .u64 ((IntKind.wrap .u64 ((a0n : Nat) : Int)) * (8 : Int))) (IntKind.wrap .u64 ((56 : Int) - (IntKind.wrap .u64 ((8 : Int) * (IntKind.wrap .u64 x5)))))))))]).run Tryd.prog w8 = .ok (.slice t35a t35n t35c) w9 ∧
                            (∃ (t36a : Option Addr) (t36n : Nat) (t36c : Nat) (w10 : World), (Builtin.append_ #[22, 22] 22 #[(.slice x3a_1 x3n_1 x3c_1), (.slice t35a t35n t35c)]).run Tryd.prog w9 = .ok (.slice t36a t36n t36c) w10 ∧
                              (I_1 t36a t36n t36c (IntKind.wrap .i64 (x5 + (1 : Int))) w10 ∧ μ_1 t36a t36n t36c (IntKind.wrap .i64 (x5 + (1 : Int))) w10 < μ_1 x3a_1 x3n_1 x3c_1 x5 w8))))) ∧
                      ((decide (x5 < (8 : Int))) = false →
                        (R (.returned (.slice x3a_1 x3n_1 x3c_1)) w8))))))))))))) : Calls Tryd.prog 33 #[(.slice a0a a0n a0c)] w R :=
  calls_of_ev (args := [(.slice a0a a0n a0c)])
    (tc := .seq (.reg (.op .p (.nil))) (.seq (.reg (.op (.r (.slice)) (.op .p (.op (.r (.slice)) (.op .p (.nil)))))) (.seq (.reg (.op .p (.op (.r (.slice)) (.op (.r (.slice)) (.op .p (.nil)))))) (.seq (.blk (.loop [3, 12, 13, 14, 15, 16, 17, 18] [3] [.slice] (.seq (.seq (.reg (.op .p (.op .p (.op .p (.op .p (.nil)))))) (.cond (.leaf) (.leaf))) (.blk (.reg (.op .p (.op (.r (.slice)) (.op (.r (.slice)) (.op .p (.nil)))))))))) (.seq (.reg (.op .p (.op .p (.op .p (.op .p (.op .p (.nil))))))) (.seq (.seq (.reg (.op .p (.nil))) (.blk (.loop [3, 5, 23, 24, 25, 26, 27, 28, 29, 30, 31, 32, 33, 34, 35, 36] [3, 5] [.slice, .int .i64] (.seq (.seq (.reg (.op .p (.op .p (.nil)))) (.cond (.leaf) (.leaf))) (.seq (.blk (.reg (.op .p (.op .p (.op .p (.op .p (.op .p (.op .p (.op .sc (.op .p (.op (.r (.slice)) (.op (.r (.slice)) (.op .p (.nil)))))))))))))) (.reg (.op .p (.op .p (.op .p (.nil)))))))))) (.seq (.reg (.op .p (.op .p (.nil)))) (.leaf))))))))
    (by kernel_rfl) Tryd.func33 (by kernel_rfl) (by kernel_rfl) (by kernel_rfl) (by kernel_rfl) h

set_option maxRecDepth 100000 in
theorem amphoraref02_Sum_vc (a0a : Option Addr) (a0n : Nat) (a0c : Nat) (w : World) (R : Ending → World → Prop) (h :
  ∃ (g2 : Nat) (w1 : World), (Instr.alloc 27 true (.tuple #[])).run Tryd.prog w = .ok (.pointer (some ⟨g2, 0, none⟩)) w1 ∧
  (∃ (t23 : Array Value), (Instr.build 59 #[(0, (.int .u32 1116352408)), (1, (.int .u32 1899447441)), (2, (.int .u32 3049323471)), (3, (.int .u32 3921009573)), (4, (.int .u32 961987163)), (5, (.int .u32 1508970993)), (6, (.int .u32 2453635748)), (7, (.int .u32 2870763221)), (8, (.int .u32 3624381080)), (9, (.int .u32 310598401)), (10, (.int .u32 607225278)), (11, (.int .u32 1426881987)), (12, (.int .u32 1925078388)), (13, (.int .u32 2162078206)), (14, (.int .u32 2614888103)), (15, (.int .u32 3248222580)), (16, (.int .u32 3835390401)), (17, (.int .u32 4022224774)), (18, (.int .u32 264347078)), (19, (.int .u32 604807628)), (20, (.int .u32 770255983)), (21, (.int .u32 1249150122)), (22, (.int .u32 1555081692)), (23, (.int .u32 1996064986)), (24, (.int .u32 2554220882)), (25, (.int .u32 2821834349)), (26, (.int .u32 2952996808)), (27, (.int .u32 3210313671)), (28, (.int .u32 3336571891)), (29, (.int .u32 3584528711)), (30, (.int .u32 113926993)), (31, (.int .u32 338241895)), (32, (.int .u32 666307205)), (33, (.int .u32 773529912)), (34, (.int .u32 1294757372)), (35, (.int .u32 1396182291)), (36, (.int .u32 1695183700)), (37, (.int .u32 1986661051)), (38, (.int .u32 2177026350)), (39, (.int .u32 2456956037)), (40, (.int .u32 2730485921)), (41, (.int .u32 2820302411)), (42, (.int .u32 3259730800)), (43, (.int .u32 3345764771)), (44, (.int .u32 3516065817)), (45, (.int .u32 3600352804)), (46, (.int .u32 4094571909)), (47, (.int .u32 275423344)), (48, (.int .u32 430227734)), (49, (.int .u32 506948616)), (50, (.int .u32 659060556)), (51, (.int .u32 883997877)), (52, (.int .u32 958139571)), (53, (.int .u32 1322822218)), (54, (.int .u32 1537002063)), (55, (.int .u32 1747873779)), (56, (.int .u32 1955562222)), (57, (.int .u32 2024104815)), (58, (.int .u32 2227730452)), (59, (.int .u32 2361852424)), (60, (.int .u32 2428436474)), (61, (.int .u32 2756734187)), (62, (.int .u32 3204031479)), (63, (.int .u32 3329325298))]).run Tryd.prog w1 = .ok (.agg t23) w1 ∧
    (∃ (g3 : Nat) (w2 : World), (Instr.alloc 59 true (.tuple #[])).run Tryd.prog w1 = .ok (.pointer (some ⟨g3, 0, none⟩)) w2 ∧
      (∃ w3 : World, (Instr.storeAt 59 (.pointer (some ⟨g3, 0, none⟩)) (.agg t23)).run Tryd.prog w2 = .ok () w3 ∧
        (∃ (I : Option Addr → Nat → Nat → Int → World → Prop) (μ : Option Addr → Nat → Nat → Int → World → Nat), I none 0 0 0 w3 ∧
          (∀ (x4a : Option Addr) (x4n : Nat) (x4c : Nat) (x5 : Int), ∀ w4 : World, I x4a x4n x4c x5 w4 →
            (((decide (x5 < ((a0n : Nat) : Int))) = true →
                (∃ (t33b t33o : Nat), a0a = some ⟨t33b, t33o, none⟩ ∧ 0 ≤ x5 ∧ x5 < ((a0n : Nat) : Int) ∧
                  (∃ (t34a : Option Addr) (t34n : Nat) (t34c : Nat), (Instr.loadAt 22 (.pointer (some ⟨t33b, t33o + Int.toNat x5 * 1, none⟩))).run Tryd.prog w4 = .ok (.slice t34a t34n t34c) w4 ∧
                    (∃ (t35a : Option Addr) (t35n : Nat) (t35c : Nat) (w5 : World), (Builtin.append_ #[22, 22] 22 #[(.slice x4a x4n x4c), (.slice t34a t34n t34c)]).run Tryd.prog w4 = .ok (.slice t35a t35n t35c) w5 ∧
                      (I t35a t35n t35c (IntKind.wrap .i64 (x5 + (1 : Int))) w5 ∧ μ t35a t35n t35c (IntKind.wrap .i64 (x5 + (1 : Int))) w5 < μ x4a x4n x4c x5 w4))))) ∧
              ((decide (x5 < ((a0n : Nat) : Int))) = false →
                (Calls Tryd.prog 33 #[(.slice x4a x4n x4c)] w4 fun (e37 : Ending) (w6 : World) => ∃ (t37a : Option Addr) (t37n : Nat) (t37c : Nat), e37 = .returned (.slice t37a t37n t37c) ∧
                  (∃ (t38 : Array Value), (Instr.build 60 #[(0, (.int .u32 1779033703)), (1, (.int .u32 3144134277)), (2, (.int .u32 1013904242)), (3, (.int .u32 2773480762)), (4, (.int .u32 1359893119)), (5, (.int .u32 2600822924)), (6, (.int .u32 528734635)), (7, (.int .u32 1541459225))]).run Tryd.prog w6 = .ok (.agg t38) w6 ∧
                    (∃ (g6 : Nat) (w7 : World), (Instr.alloc 60 true (.tuple #[])).run Tryd.prog w6 = .ok (.pointer (some ⟨g6, 0, none⟩)) w7 ∧
                      (∃ w8 : World, (Instr.storeAt 60 (.pointer (some ⟨g6, 0, none⟩)) (.agg t38)).run Tryd.prog w7 = .ok () w8 ∧
                        (∃ (I_1 : Int → World → Prop) (μ_1 : Int → World → Nat), I_1 0 w8 ∧
                          (∀ (x7 : Int), ∀ w9 : World, I_1 x7 w9 →
                            (((decide (x7 < ((t37n : Nat) : Int))) = true →
                                (∃ (t45 : Array Value), (Instr.build 59 #[]).run Tryd.prog w9 = .ok (.agg t45) w9 ∧
                                  (∃ (g8 : Nat) (w10 : World), (Instr.alloc 59 true (.tuple #[])).run Tryd.prog w9 = .ok (.pointer (some ⟨g8, 0, none⟩)) w10 ∧
                                    (∃ w11 : World, (Instr.storeAt 59 (.pointer (some ⟨g8, 0, none⟩)) (.agg t45)).run Tryd.prog w10 = .ok () w11 ∧
                                      (∃ (I_2 : Int → World → Prop) (μ_2 : Int → World → Nat), I_2 0 w11 ∧
                                        (∀ (x9 : Int), ∀ w12 : World, I_2 x9 w12 →
                                          (((decide (x9 < (64 : Int))) = true →
                                              (((decide (x9 < (16 : Int))) = true →
                                                  (∃ (I_3 : Int → World → Prop) (μ_3 : Int → World → Nat), I_3 0 w12 ∧
                                                    (∀ (x10 : Int), ∀ w13 : World, I_3 x10 w13 →
                                                      (((decide (x10 < (4 : Int))) = true →
                                                          (∃ S : World → Prop, S w13.drew ∧
                                                            (0 ≤ x9 ∧ x9 < (64 : Int) ∧
                                                              (∃ (t68b t68o : Nat), t37a = some ⟨t68b, t68o, none⟩ ∧ 0 ≤ (IntKind.wrap .i64 ((IntKind.wrap .i64 (x7 + (IntKind.wrap .i64 ((4 : Int) * x9)))) + x10)) ∧ (IntKind.wrap .i64 ((IntKind.wrap .i64 (x7 + (IntKind.wrap .i64 ((4 : Int) * x9)))) + x10)) < ((t37n : Nat) : Int) ∧
                                                                (∃ (t59 : Int), (∀ w' : World, S w' → (Instr.loadAt 58 (.pointer (some ⟨g8, 0 + Int.toNat x9 * 1, none⟩))).run Tryd.prog w' = .ok (.int .u32 t59) w') ∧
                                                                  (∃ (t69 : Int), (∀ w' : World, S w' → (Instr.loadAt 5 (.pointer (some ⟨t68b, t68o + Int.toNat (IntKind.wrap .i64 ((IntKind.wrap .i64 (x7 + (IntKind.wrap .i64 ((4 : Int) * x9)))) + x10)) * 1, none⟩))).run Tryd.prog w' = .ok (.int .u8 t69) w') ∧
                                                                    (0 ≤ x9 ∧ x9 < (64 : Int) ∧
                                                                      (∃ w14 : World, (Instr.storeAt 58 (.pointer (some ⟨g8, 0 + Int.toNat x9 * 1, none⟩)) (.int .u32 (bor .u32 (shlI .u32 t59 (8 : Int)) (IntKind.wrap .u32 t69)))).run Tryd.prog w13.drew = .ok () w14 ∧
                                                                        (I_3 (IntKind.wrap .i64 (x10 + (1 : Int))) w14 ∧ μ_3 (IntKind.wrap .i64 (x10 + (1 : Int))) w14 < μ_3 x10 w13))))))))) ∧
                                                        ((decide (x10 < (4 : Int))) = false →
                                                          (I_2 (IntKind.wrap .i64 (x9 + (1 : Int))) w13 ∧ μ_2 (IntKind.wrap .i64 (x9 + (1 : Int))) w13 < μ_2 x9 w12)))))) ∧
                                                ((decide (x9 < (16 : Int))) = false →
                                                  (0 ≤ (IntKind.wrap .i64 (x9 - (15 : Int))) ∧ (IntKind.wrap .i64 (x9 - (15 : Int))) < (64 : Int) ∧
                                                    (∃ (t76 : Int), (Instr.loadAt 58 (.pointer (some ⟨g8, 0 + Int.toNat (IntKind.wrap .i64 (x9 - (15 : Int))) * 1, none⟩))).run Tryd.prog w12 = .ok (.int .u32 t76) w12 ∧
                                                      (0 ≤ (IntKind.wrap .i64 (x9 - (2 : Int))) ∧ (IntKind.wrap .i64 (x9 - (2 : Int))) < (64 : Int) ∧
                                                        (∃ (t80 : Int), (Instr.loadAt 58 (.pointer (some ⟨g8, 0 + Int.toNat (IntKind.wrap .i64 (x9 - (2 : Int))) * 1, none⟩))).run Tryd.prog w12 = .ok (.int .u32 t80) w12 ∧
                                                          (∃ S : World → Prop, S w12.drew ∧
                                                            (0 ≤ (IntKind.wrap .i64 (x9 - (7 : Int))) ∧ (IntKind.wrap .i64 (x9 - (7 : Int))) < (64 : Int) ∧
                                                              (0 ≤ (IntKind.wrap .i64 (x9 - (16 : Int))) ∧ (IntKind.wrap .i64 (x9 - (16 : Int))) < (64 : Int) ∧
                                                                (∃ (t93 : Int), (∀ w' : World, S w' → (Instr.loadAt 58 (.pointer (some ⟨g8, 0 + Int.toNat (IntKind.wrap .i64 (x9 - (7 : Int))) * 1, none⟩))).run Tryd.prog w' = .ok (.int .u32 t93) w') ∧
                                                                  (∃ (t107 : Int), (∀ w' : World, S w' → (Instr.loadAt 58 (.pointer (some ⟨g8, 0 + Int.toNat (IntKind.wrap .i64 (x9 - (16 : Int))) * 1, none⟩))).run Tryd.prog w' = .ok (.int .u32 t107) w') ∧
                                                                    (Calls Tryd.prog 34 #[(.int .u32 t80), (.int .u64 17)] w12.drew fun (e83 : Ending) (w15 : World) => ∃ (t83 : Int), e83 = .returned (.int .u32 t83) ∧
                                                                      (∃ S_1 : World → Prop, (∀ w' : World, S_1 w' → S w') ∧ S_1 w15 ∧
                                                                        (Calls Tryd.prog 34 #[(.int .u32 t80), (.int .u64 19)] w15 fun (e85 : Ending) (w16 : World) => ∃ (t85 : Int), e85 = .returned (.int .u32 t85) ∧
                                                                          (∃ S_2 : World → Prop, (∀ w' : World, S_2 w' → S_1 w') ∧ S_2 w16 ∧
                                                                            (Calls Tryd.prog 34 #[(.int .u32 t76), (.int .u64 7)] w16 fun (e96 : Ending) (w17 : World) => ∃ (t96 : Int), e96 = .returned (.int .u32 t96) ∧
                                                                              (∃ S_3 : World → Prop, (∀ w' : World, S_3 w' → S_2 w') ∧ S_3 w17 ∧
                                                                                (Calls Tryd.prog 34 #[(.int .u32 t76), (.int .u64 18)] w17 fun (e98 : Ending) (w18 : World) => ∃ (t98 : Int), e98 = .returned (.int .u32 t98) ∧
                                                                                (∃ S_4 : World → Prop, (∀ w' : World, S_4 w' → S_3 w') ∧ S_4 w18 ∧
                                                                                (0 ≤ x9 ∧ x9 < (64 : Int) ∧
                                                                                (∃ w19 : World, (Instr.storeAt 58 (.pointer (some ⟨g8, 0 + Int.toNat x9 * 1, none⟩)) (.int .u32 (IntKind.wrap .u32 ((IntKind.wrap .u32 ((IntKind.wrap .u32 ((bxor .u32 (bxor .u32 t83 t85) (shrI .u32 t80 (10 : Int))) + t93)) + (bxor .u32 (bxor .u32 t96 t98) (shrI .u32 t76 (3 : Int))))) + t107)))).run Tryd.prog w18 = .ok () w19 ∧
                                                                                (I_2 (IntKind.wrap .i64 (x9 + (1 : Int))) w19 ∧ μ_2 (IntKind.wrap .i64 (x9 + (1 : Int))) w19 < μ_2 x9 w12))))))))))))))))))))))) ∧
                                            ((decide (x9 < (64 : Int))) = false →
                                              (∃ (t110 : Array Value), (Instr.loadAt 60 (.pointer (some ⟨g6, 0, none⟩))).run Tryd.prog w12 = .ok (.agg t110) w12 ∧
                                                (∃ (g13 : Nat) (w20 : World), (Instr.alloc 60 true (.tuple #[])).run Tryd.prog w12 = .ok (.pointer (some ⟨g13, 0, none⟩)) w20 ∧
                                                  (∃ w21 : World, (Instr.storeAt 60 (.pointer (some ⟨g13, 0, none⟩)) (.agg t110)).run Tryd.prog w20 = .ok () w21 ∧
                                                    (∃ (I_3 : Int → World → Prop) (μ_3 : Int → World → Nat), I_3 0 w21 ∧
                                                      (∀ (x14 : Int), ∀ w22 : World, I_3 x14 w22 →
                                                        (((decide (x14 < (64 : Int))) = true →
                                                            (∃ (t116 : Int), (Instr.loadAt 58 (.pointer (some ⟨g13, 4, none⟩))).run Tryd.prog w22 = .ok (.int .u32 t116) w22 ∧
                                                              (∃ (t118 : Int), (Instr.loadAt 58 (.pointer (some ⟨g13, 5, none⟩))).run Tryd.prog w22 = .ok (.int .u32 t118) w22 ∧
                                                                (∃ (t121 : Int), (Instr.loadAt 58 (.pointer (some ⟨g13, 4, none⟩))).run Tryd.prog w22 = .ok (.int .u32 t121) w22 ∧
                                                                  (∃ (t124 : Int), (Instr.loadAt 58 (.pointer (some ⟨g13, 6, none⟩))).run Tryd.prog w22 = .ok (.int .u32 t124) w22 ∧
                                                                    (∃ (t128 : Int), (Instr.loadAt 58 (.pointer (some ⟨g13, 0, none⟩))).run Tryd.prog w22 = .ok (.int .u32 t128) w22 ∧
                                                                      (∃ (t130 : Int), (Instr.loadAt 58 (.pointer (some ⟨g13, 1, none⟩))).run Tryd.prog w22 = .ok (.int .u32 t130) w22 ∧
                                                                        (∃ (t133 : Int), (Instr.loadAt 58 (.pointer (some ⟨g13, 0, none⟩))).run Tryd.prog w22 = .ok (.int .u32 t133) w22 ∧
                                                                          (∃ (t135 : Int), (Instr.loadAt 58 (.pointer (some ⟨g13, 2, none⟩))).run Tryd.prog w22 = .ok (.int .u32 t135) w22 ∧
                                                                            (∃ (t139 : Int), (Instr.loadAt 58 (.pointer (some ⟨g13, 1, none⟩))).run Tryd.prog w22 = .ok (.int .u32 t139) w22 ∧
                                                                              (∃ (t141 : Int), (Instr.loadAt 58 (.pointer (some ⟨g13, 2, none⟩))).run Tryd.prog w22 = .ok (.int .u32 t141) w22 ∧
                                                                                (∃ S : World → Prop, S w22.drew ∧
                                                                                (0 ≤ x14 ∧ x14 < (64 : Int) ∧
                                                                                (0 ≤ x14 ∧ x14 < (64 : Int) ∧
                                                                                (∃ (t145 : Int), (∀ w' : World, S w' → (Instr.loadAt 58 (.pointer (some ⟨g13, 7, none⟩))).run Tryd.prog w' = .ok (.int .u32 t145) w') ∧
                                                                                (∃ (t147 : Int), (∀ w' : World, S w' → (Instr.loadAt 58 (.pointer (some ⟨g13, 4, none⟩))).run Tryd.prog w' = .ok (.int .u32 t147) w') ∧
                                                                                (∃ (t150 : Int), (∀ w' : World, S w' → (Instr.loadAt 58 (.pointer (some ⟨g13, 4, none⟩))).run Tryd.prog w' = .ok (.int .u32 t150) w') ∧
                                                                                (∃ (t154 : Int), (∀ w' : World, S w' → (Instr.loadAt 58 (.pointer (some ⟨g13, 4, none⟩))).run Tryd.prog w' = .ok (.int .u32 t154) w') ∧
                                                                                (∃ (t162 : Int), (∀ w' : World, S w' → (Instr.loadAt 58 (.pointer (some ⟨g3, 0 + Int.toNat x14 * 1, none⟩))).run Tryd.prog w' = .ok (.int .u32 t162) w') ∧
                                                                                (∃ (t166 : Int), (∀ w' : World, S w' → (Instr.loadAt 58 (.pointer (some ⟨g8, 0 + Int.toNat x14 * 1, none⟩))).run Tryd.prog w' = .ok (.int .u32 t166) w') ∧
                                                                                (Calls Tryd.prog 34 #[(.int .u32 t147), (.int .u64 6)] w22.drew fun (e148 : Ending) (w23 : World) => ∃ (t148 : Int), e148 = .returned (.int .u32 t148) ∧
                                                                                (∃ S_1 : World → Prop, (∀ w' : World, S_1 w' → S w') ∧ S_1 w23 ∧
                                                                                (Calls Tryd.prog 34 #[(.int .u32 t150), (.int .u64 11)] w23 fun (e151 : Ending) (w24 : World) => ∃ (t151 : Int), e151 = .returned (.int .u32 t151) ∧
                                                                                (∃ S_2 : World → Prop, (∀ w' : World, S_2 w' → S_1 w') ∧ S_2 w24 ∧
                                                                                (Calls Tryd.prog 34 #[(.int .u32 t154), (.int .u64 25)] w24 fun (e155 : Ending) (w25 : World) => ∃ (t155 : Int), e155 = .returned (.int .u32 t155) ∧
                                                                                (∃ S_3 : World → Prop, (∀ w' : World, S_3 w' → S_2 w') ∧ S_3 w25 ∧
                                                                                (∃ S_4 : World → Prop, S_4 w25.drew ∧
                                                                                (∃ (t169 : Int), (∀ w' : World, S_4 w' → (Instr.loadAt 58 (.pointer (some ⟨g13, 0, none⟩))).run Tryd.prog w' = .ok (.int .u32 t169) w') ∧
                                                                                (∃ (t172 : Int), (∀ w' : World, S_4 w' → (Instr.loadAt 58 (.pointer (some ⟨g13, 0, none⟩))).run Tryd.prog w' = .ok (.int .u32 t172) w') ∧
                                                                                (∃ (t176 : Int), (∀ w' : World, S_4 w' → (Instr.loadAt 58 (.pointer (some ⟨g13, 0, none⟩))).run Tryd.prog w' = .ok (.int .u32 t176) w') ∧
                                                                                (Calls Tryd.prog 34 #[(.int .u32 t169), (.int .u64 2)] w25.drew fun (e170 : Ending) (w26 : World) => ∃ (t170 : Int), e170 = .returned (.int .u32 t170) ∧
                                                                                (∃ S_5 : World → Prop, (∀ w' : World, S_5 w' → S_4 w') ∧ S_5 w26 ∧
                                                                                (Calls Tryd.prog 34 #[(.int .u32 t172), (.int .u64 13)] w26 fun (e173 : Ending) (w27 : World) => ∃ (t173 : Int), e173 = .returned (.int .u32 t173) ∧
                                                                                (∃ S_6 : World → Prop, (∀ w' : World, S_6 w' → S_5 w') ∧ S_6 w27 ∧
                                                                                (Calls Tryd.prog 34 #[(.int .u32 t176), (.int .u64 22)] w27 fun (e177 : Ending) (w28 : World) => ∃ (t177 : Int), e177 = .returned (.int .u32 t177) ∧
                                                                                (∃ S_7 : World → Prop, (∀ w' : World, S_7 w' → S_6 w') ∧ S_7 w28 ∧
                                                                                (∃ (I_4 : Int → World → Prop) (μ_4 : Int → World → Nat), I_4 7 w28 ∧
                                                                                (∀ (x19 : Int), ∀ w29 : World, I_4 x19 w29 →
                                                                                (((decide (x19 > (0 : Int))) = true →
                                                                                (0 ≤ (IntKind.wrap .i64 (x19 - (1 : Int))) ∧ (IntKind.wrap .i64 (x19 - (1 : Int))) < (8 : Int) ∧
                                                                                (∃ (t189 : Int), (Instr.loadAt 58 (.pointer (some ⟨g13, 0 + Int.toNat (IntKind.wrap .i64 (x19 - (1 : Int))) * 1, none⟩))).run Tryd.prog w29 = .ok (.int .u32 t189) w29 ∧
                                                                                (0 ≤ x19 ∧ x19 < (8 : Int) ∧
                                                                                (∃ w30 : World, (Instr.storeAt 58 (.pointer (some ⟨g13, 0 + Int.toNat x19 * 1, none⟩)) (.int .u32 t189)).run Tryd.prog w29 = .ok () w30 ∧
                                                                                (I_4 (IntKind.wrap .i64 (x19 - (1 : Int))) w30 ∧ μ_4 (IntKind.wrap .i64 (x19 - (1 : Int))) w30 < μ_4 x19 w29)))))) ∧
                                                                                ((decide (x19 > (0 : Int))) = false →
                                                                                (∃ (t192 : Int), (Instr.loadAt 58 (.pointer (some ⟨g13, 4, none⟩))).run Tryd.prog w29 = .ok (.int .u32 t192) w29 ∧
                                                                                (∃ w31 : World, (Instr.storeAt 58 (.pointer (some ⟨g13, 4, none⟩)) (.int .u32 (IntKind.wrap .u32 (t192 + (IntKind.wrap .u32 ((IntKind.wrap .u32 ((IntKind.wrap .u32 ((IntKind.wrap .u32 (t145 + (bxor .u32 (bxor .u32 t148 t151) t155))) + (bxor .u32 (band .u32 t116 t118) (band .u32 (bxor .u32 ((IntKind.max .u32)) t121) t124)))) + t162)) + t166)))))).run Tryd.prog w29 = .ok () w31 ∧
                                                                                (∃ w32 : World, (Instr.storeAt 58 (.pointer (some ⟨g13, 0, none⟩)) (.int .u32 (IntKind.wrap .u32 ((IntKind.wrap .u32 ((IntKind.wrap .u32 ((IntKind.wrap .u32 ((IntKind.wrap .u32 (t145 + (bxor .u32 (bxor .u32 t148 t151) t155))) + (bxor .u32 (band .u32 t116 t118) (band .u32 (bxor .u32 ((IntKind.max .u32)) t121) t124)))) + t162)) + t166)) + (IntKind.wrap .u32 ((bxor .u32 (bxor .u32 t170 t173) t177) + (bxor .u32 (bxor .u32 (band .u32 t128 t130) (band .u32 t133 t135)) (band .u32 t139 t141)))))))).run Tryd.prog w31 = .ok () w32 ∧
                                                                                (I_3 (IntKind.wrap .i64 (x14 + (1 : Int))) w32 ∧ μ_3 (IntKind.wrap .i64 (x14 + (1 : Int))) w32 < μ_3 x14 w22)))))))))))))))))))))))))))))))))))))))))))) ∧
                                                          ((decide (x14 < (64 : Int))) = false →
                                                            (∃ (I_4 : Int → World → Prop) (μ_4 : Int → World → Nat), I_4 0 w22 ∧
                                                              (∀ (x20 : Int), ∀ w33 : World, I_4 x20 w33 →
                                                                (((decide (x20 < (8 : Int))) = true →
                                                                    (∃ S : World → Prop, S w33.drew ∧
                                                                      (0 ≤ x20 ∧ x20 < (8 : Int) ∧
                                                                        (0 ≤ x20 ∧ x20 < (8 : Int) ∧
                                                                          (∃ (t207 : Int), (∀ w' : World, S w' → (Instr.loadAt 58 (.pointer (some ⟨g6, 0 + Int.toNat x20 * 1, none⟩))).run Tryd.prog w' = .ok (.int .u32 t207) w') ∧
                                                                            (∃ (t210 : Int), (∀ w' : World, S w' → (Instr.loadAt 58 (.pointer (some ⟨g13, 0 + Int.toNat x20 * 1, none⟩))).run Tryd.prog w' = .ok (.int .u32 t210) w') ∧
                                                                              (0 ≤ x20 ∧ x20 < (8 : Int) ∧
                                                                                (∃ w34 : World, (Instr.storeAt 58 (.pointer (some ⟨g6, 0 + Int.toNat x20 * 1, none⟩)) (.int .u32 (IntKind.wrap .u32 (t207 + t210)))).run Tryd.prog w33.drew = .ok () w34 ∧
                                                                                (I_4 (IntKind.wrap .i64 (x20 + (1 : Int))) w34 ∧ μ_4 (IntKind.wrap .i64 (x20 + (1 : Int))) w34 < μ_4 x20 w33))))))))) ∧
                                                                  ((decide (x20 < (8 : Int))) = false →
                                                                    (I_1 (IntKind.wrap .i64 (x7 + (64 : Int))) w33 ∧ μ_1 (IntKind.wrap .i64 (x7 + (64 : Int))) w33 < μ_1 x7 w9)))))))))))))))))))) ∧
                              ((decide (x7 < ((t37n : Nat) : Int))) = false →
                                (∃ (t213 : Array Value), (Instr.build 27 #[]).run Tryd.prog w9 = .ok (.agg t213) w9 ∧
                                  (∃ (g21 : Nat) (w35 : World), (Instr.alloc 27 true (.tuple #[])).run Tryd.prog w9 = .ok (.pointer (some ⟨g21, 0, none⟩)) w35 ∧
                                    (∃ w36 : World, (Instr.storeAt 27 (.pointer (some ⟨g21, 0, none⟩)) (.agg t213)).run Tryd.prog w35 = .ok () w36 ∧
                                      (∃ (I_2 : Int → World → Prop) (μ_2 : Int → World → Nat), I_2 0 w36 ∧
                                        (∀ (x22 : Int), ∀ w37 : World, I_2 x22 w37 →
                                          (((decide (x22 < (32 : Int))) = true →
                                              (0 ≤ (IntKind.wrap .i64 (Int.tdiv x22 (4 : Int))) ∧ (IntKind.wrap .i64 (Int.tdiv x22 (4 : Int))) < (8 : Int) ∧
                                                (∃ (t222 : Int), (Instr.loadAt 58 (.pointer (some ⟨g6, 0 + Int.toNat (IntKind.wrap .i64 (Int.tdiv x22 (4 : Int))) * 1, none⟩))).run Tryd.prog w37 = .ok (.int .u32 t222) w37 ∧
                                                  (0 ≤ (IntKind.wrap .u64 ((24 : Int) - (IntKind.wrap .u64 ((8 : Int) * (IntKind.wrap .u64 (Int.tmod x22 (4 : Int))))))) ∧
                                                    (0 ≤ x22 ∧ x22 < (32 : Int) ∧
                                                      (∃ w38 : World, (Instr.storeAt 5 (.pointer (some ⟨g21, 0 + Int.toNat x22 * 1, none⟩)) (.int .u8 (IntKind.wrap .u8 (shrI .u32 t222 (IntKind.wrap .u64 ((24 : Int) - (IntKind.wrap .u64 ((8 : Int) * (IntKind.wrap .u64 (Int.tmod x22 (4 : Int))))))))))).run Tryd.prog w37 = .ok () w38 ∧
                                                        (I_2 (IntKind.wrap .i64 (x22 + (1 : Int))) w38 ∧ μ_2 (IntKind.wrap .i64 (x22 + (1 : Int))) w38 < μ_2 x22 w37))))))) ∧
                                            ((decide (x22 < (32 : Int))) = false →
                                              (∃ (t231 : Array Value), (Instr.loadAt 27 (.pointer (some ⟨g21, 0, none⟩))).run Tryd.prog w37 = .ok (.agg t231) w37 ∧
                                                (∃ w39 : World, (Instr.storeAt 27 (.pointer (some ⟨g2, 0, none⟩)) (.agg t231)).run Tryd.prog w37 = .ok () w39 ∧
                                                  (∃ r2 : Value, (loadVar 27 ⟨g2, 0, none⟩).run Tryd.prog w39 = .ok r2 w39 ∧
                                                    (R (.returned r2) w39))))))))))))))))))))))))))) : Calls Tryd.prog 14 #[(.slice a0a a0n a0c)] w R :=
  calls_of_ev (args := [(.slice a0a a0n a0c)])
    (tc := .seq (.reg (.op .bx (.nil))) (.seq (.reg (.op (.ld (.agg)) (.op .bx (.op .u (.nil))))) (.seq (.reg (.op .p (.nil))) (.seq (.seq (.reg (.op .p (.nil))) (.blk (.loop [4, 5, 24, 25, 26, 27, 28, 29, 30, 31, 32, 33, 34, 35] [4, 5] [.slice, .int .i64] (.seq (.seq (.reg (.op .p (.op .p (.op .p (.op .p (.nil)))))) (.cond (.leaf) (.leaf))) (.seq (.blk (.reg (.op .p (.op .p (.op .p (.op .ix (.op (.ld (.slice)) (.op (.r (.slice)) (.op .p (.nil)))))))))) (.reg (.op .p (.op .p (.op .p (.nil)))))))))) (.seq (.reg (.op .p (.op (.cl [.slice]) (.op .p (.nil))))) (.seq (.reg (.op (.ld (.agg)) (.op .bx (.op .u (.nil))))) (.seq (.seq (.reg (.op .p (.nil))) (.blk (.loop [7, 8, 9, 10, 11, 12, 13, 14, 15, 16, 17, 18, 19, 20, 39, 40, 41, 42, 43, 44, 45, 46, 47, 48, 49, 50, 51, 52, 53, 54, 55, 56, 57, 58, 59, 60, 61, 62, 63, 64, 65, 66, 67, 68, 69, 70, 71, 72, 73, 74, 75, 76, 77, 78, 79, 80, 81, 82, 83, 84, 85, 86, 87, 88, 89, 90, 91, 92, 93, 94, 95, 96, 97, 98, 99, 100, 101, 102, 103, 104, 105, 106, 107, 108, 109, 110, 111, 112, 113, 114, 115, 116, 117, 118, 119, 120, 121, 122, 123, 124, 125, 126, 127, 128, 129, 130, 131, 132, 133, 134, 135, 136, 137, 138, 139, 140, 141, 142, 143, 144, 145, 146, 147, 148, 149, 150, 151, 152, 153, 154, 155, 156, 157, 158, 159, 160, 161, 162, 163, 164, 165, 166, 167, 168, 169, 170, 171, 172, 173, 174, 175, 176, 177, 178, 179, 180, 181, 182, 183, 184, 185, 186, 187, 188, 189, 190, 191, 192, 193, 194, 195, 196, 197, 198, 199, 200, 201, 202, 203, 204, 205, 206, 207, 208, 209, 210, 211, 212] [7] [.int .i64] (.seq (.seq (.reg (.op .p (.op .p (.op .p (.op .p (.nil)))))) (.cond (.leaf) (.leaf))) (.seq (.blk (.seq (.reg (.op (.ld (.agg)) (.op .bx (.op .u (.nil))))) (.seq (.seq (.reg (.op .p (.nil))) (.blk (.loop [9, 10, 11, 12, 46, 47, 48, 49, 50, 51, 52, 53, 54, 55, 56, 57, 58, 59, 60, 61, 62, 63, 64, 65, 66, 67, 68, 69, 70, 71, 72, 73, 74, 75, 76, 77, 78, 79, 80, 81, 82, 83, 84, 85, 86, 87, 88, 89, 90, 91, 92, 93, 94, 95, 96, 97, 98, 99, 100, 101, 102, 103, 104, 105, 106, 107, 108, 109] [9] [.int .i64] (.seq (.seq (.reg (.op .p (.op .p (.nil)))) (.cond (.leaf) (.leaf))) (.seq (.blk (.seq (.seq (.reg (.op .p (.op .p (.nil)))) (.cond (.seq (.seq (.reg (.op .p (.nil))) (.blk (.loop [10, 52, 53, 54, 55, 56, 57, 58, 59, 60, 61, 62, 63, 64, 65, 66, 67, 68, 69, 70, 71, 72] [10] [.int .i64] (.seq (.seq (.reg (.op .p (.op .p (.nil)))) (.cond (.leaf) (.leaf))) (.seq (.blk (.drawS (.tk 0 .p (.tk 1 .p (.tk 2 .ix (.tk 5 .p (.tk 6 .p (.tk 7 .p (.tk 8 .p (.tk 9 .p (.tk 10 .p (.tk 11 .p (.tk 12 .ix (.ts 3 (.int .u32) (.tk 4 .p (.ts 13 (.int .u8) (.tk 14 .p (.tk 15 .p (.tk 16 .ix (.go 17 .u (.nil))))))))))))))))))) [17])) (.reg (.op .p (.op .p (.op .p (.nil)))))))))) (.leaf)) (.leaf))) (.seq (.reg (.op .p (.op .p (.op .ix (.op (.ld (.int .u32)) (.op .p (.nil))))))) (.seq (.reg (.op .p (.op .p (.op .ix (.op (.ld (.int .u32)) (.op .p (.nil))))))) (.drawS (.tk 0 .p (.tk 1 .p (.tk 3 .p (.tk 6 .p (.tk 7 .p (.tk 9 .p (.tk 10 .p (.tk 11 .ix (.tk 14 .p (.tk 16 .p (.tk 19 .p (.tk 20 .p (.tk 23 .p (.tk 24 .p (.tk 25 .ix (.ts 12 (.int .u32) (.ts 26 (.int .u32) (.go 2 (.cl [.int .u32]) (.go 4 (.cl [.int .u32]) (.tk 5 .p (.tk 8 .p (.tk 13 .p (.go 15 (.cl [.int .u32]) (.go 17 (.cl [.int .u32]) (.tk 18 .p (.tk 21 .p (.tk 22 .p (.tk 27 .p (.tk 28 .ix (.go 29 .u (.nil))))))))))))))))))))))))))))))) [29]))))) (.reg (.op .p (.op .p (.op .p (.nil)))))))))) (.seq (.reg (.op (.ld (.agg)) (.op .bx (.op .u (.nil))))) (.seq (.seq (.reg (.op .p (.nil))) (.blk (.loop [14, 15, 16, 17, 18, 19, 111, 112, 113, 114, 115, 116, 117, 118, 119, 120, 121, 122, 123, 124, 125, 126, 127, 128, 129, 130, 131, 132, 133, 134, 135, 136, 137, 138, 139, 140, 141, 142, 143, 144, 145, 146, 147, 148, 149, 150, 151, 152, 153, 154, 155, 156, 157, 158, 159, 160, 161, 162, 163, 164, 165, 166, 167, 168, 169, 170, 171, 172, 173, 174, 175, 176, 177, 178, 179, 180, 181, 182, 183, 184, 185, 186, 187, 188, 189, 190, 191, 192, 193, 194, 195, 196, 197, 198, 199] [14] [.int .i64] (.seq (.seq (.reg (.op .p (.op .p (.nil)))) (.cond (.leaf) (.leaf))) (.seq (.blk (.seq (.reg (.op .p (.op (.ld (.int .u32)) (.op .p (.op (.ld (.int .u32)) (.op .p (.op .p (.op (.ld (.int .u32)) (.op .p (.op .p (.op (.ld (.int .u32)) (.op .p (.op .p (.op .p (.nil))))))))))))))) (.seq (.reg (.op .p (.op (.ld (.int .u32)) (.op .p (.op (.ld (.int .u32)) (.op .p (.op .p (.op (.ld (.int .u32)) (.op .p (.op (.ld (.int .u32)) (.op .p (.op .p (.op .p (.op (.ld (.int .u32)) (.op .p (.op (.ld (.int .u32)) (.op .p (.op .p (.op .p (.nil)))))))))))))))))))) (.seq (.drawS (.tk 0 .p (.tk 2 .p (.tk 5 .p (.tk 9 .p (.tk 14 .p (.tk 16 .p (.tk 17 .ix (.tk 20 .p (.tk 21 .ix (.ts 1 (.int .u32) (.ts 3 (.int .u32) (.ts 6 (.int .u32) (.ts 10 (.int .u32) (.ts 18 (.int .u32) (.ts 22 (.int .u32) (.go 4 (.cl [.int .u32]) (.go 7 (.cl [.int .u32]) (.tk 8 .p (.go 11 (.cl [.int .u32]) (.tk 12 .p (.tk 13 .p (.tk 15 .p (.tk 19 .p (.tk 23 .p (.tk 24 .p (.nil)))))))))))))))))))))))))) []) (.seq (.drawS (.tk 0 .p (.tk 3 .p (.tk 7 .p (.tk 11 .p (.ts 1 (.int .u32) (.ts 4 (.int .u32) (.ts 8 (.int .u32) (.go 2 (.cl [.int .u32]) (.go 5 (.cl [.int .u32]) (.tk 6 .p (.go 9 (.cl [.int .u32]) (.tk 10 .p (.tk 12 .p (.tk 13 .p (.nil))))))))))))))) []) (.seq (.seq (.reg (.op .p (.nil))) (.blk (.loop [19, 181, 182, 183, 184, 185, 186, 187, 188, 189, 190] [19] [.int .i64] (.seq (.seq (.reg (.op .p (.op .p (.nil)))) (.cond (.leaf) (.leaf))) (.seq (.blk (.reg (.op .p (.op .p (.op .p (.op .ix (.op (.ld (.int .u32)) (.op .ix (.op .u (.nil)))))))))) (.reg (.op .p (.op .p (.op .p (.nil)))))))))) (.seq (.reg (.op .p (.op (.ld (.int .u32)) (.op .p (.op .p (.op .p (.op .u (.nil)))))))) (.reg (.op .p (.op .p (.op .p (.op .p (.op .u (.nil)))))))))))))) (.reg (.op .p (.op .p (.op .p (.nil)))))))))) (.seq (.reg (.op .p (.nil))) (.blk (.loop [20, 200, 201, 202, 203, 204, 205, 206, 207, 208, 209, 210, 211, 212] [20] [.int .i64] (.seq (.seq (.reg (.op .p (.op .p (.nil)))) (.cond (.leaf) (.leaf))) (.seq (.blk (.drawS (.tk 0 .p (.tk 1 .p (.tk 2 .ix (.tk 4 .p (.tk 5 .ix (.ts 3 (.int .u32) (.ts 6 (.int .u32) (.tk 7 .p (.tk 8 .ix (.go 9 .u (.nil))))))))))) [9])) (.reg (.op .p (.op .p (.op .p (.nil))))))))))))))) (.reg (.op .p (.op .p (.op .p (.nil)))))))))) (.seq (.reg (.op (.ld (.agg)) (.op .bx (.op .u (.nil))))) (.seq (.seq (.reg (.op .p (.nil))) (.blk (.loop [22, 214, 215, 216, 217, 218, 219, 220, 221, 222, 223, 224, 225, 226, 227, 228, 229, 230] [22] [.int .i64] (.seq (.seq (.reg (.op .p (.op .p (.nil)))) (.cond (.leaf) (.leaf))) (.seq (.blk (.reg (.op .p (.op .p (.op .p (.op .ix (.op (.ld (.int .u32)) (.op .p (.op .p (.op .p (.op .p (.op .p (.op .sc (.op .p (.op .ix (.op .u (.nil))))))))))))))))) (.reg (.op .p (.op .p (.op .p (.nil)))))))))) (.seq (.reg (.op (.ld (.agg)) (.op .u (.nil)))) (.leaf)))))))))))
    (by kernel_rfl) Tryd.func14 (by kernel_rfl) (by kernel_rfl) (by kernel_rfl) (by kernel_rfl) h

set_option maxRecDepth 100000 in
theorem amphoraref02_Mac_vc (a0a : Option Addr) (a0n : Nat) (a0c : Nat) (a1a : Option Addr) (a1n : Nat) (a1c : Nat) (w : World) (R : Ending → World → Prop) (h :
  ∃ (g4 : Nat) (w1 : World), (Instr.alloc 27 true (.tuple #[])).run Tryd.prog w = .ok (.pointer (some ⟨g4, 0, none⟩)) w1 ∧
  (∃ J : Option Addr → Nat → Nat → World → Prop, (((decide (((a0n : Nat) : Int) > (64 : Int))) = true →
        (∃ (t16a : Option Addr) (t16n : Nat) (t16c : Nat) (w2 : World), (Instr.buildSlice 31 1 #[(0, (.slice a0a a0n a0c))]).run Tryd.prog w1 = .ok (.slice t16a t16n t16c) w2 ∧
          (Calls Tryd.prog 14 #[(.slice t16a t16n t16c)] w2 fun (e17 : Ending) (w3 : World) => ∃ (t17 : Array Value), e17 = .returned (.agg t17) ∧
            (∃ (g5 : Nat) (w4 : World), (Instr.alloc 27 true (.tuple #[])).run Tryd.prog w3 = .ok (.pointer (some ⟨g5, 0, none⟩)) w4 ∧
              (∃ w5 : World, (Instr.storeAt 27 (.pointer (some ⟨g5, 0, none⟩)) (.agg t17)).run Tryd.prog w4 = .ok () w5 ∧
                (0 ≤ ((32 : Nat) : Int) ∧ ((32 : Nat) : Int) ≤ ((32 : Nat) : Int) ∧
                  (J (some ⟨g5, 0, none⟩) (32) 32 w5))))))) ∧
      ((decide (((a0n : Nat) : Int) > (64 : Int))) = false →
        (J a0a a0n a0c w1))) ∧
    (∀ (x0a : Option Addr) (x0n : Nat) (x0c : Nat), ∀ w6 : World, J x0a x0n x0c w6 →
      (∃ (t19a : Option Addr) (t19n : Nat) (t19c : Nat) (w7 : World), (Instr.makeSlice 22 (.int .i64 64) (.int .i64 64)).run Tryd.prog w6 = .ok (.slice t19a t19n t19c) w7 ∧
        (∃ (t20a : Option Addr) (t20n : Nat) (t20c : Nat) (w8 : World), (Instr.makeSlice 22 (.int .i64 64) (.int .i64 64)).run Tryd.prog w7 = .ok (.slice t20a t20n t20c) w8 ∧
          (∃ (I : Int → World → Prop) (μ : Int → World → Nat), I 0 w8 ∧
            (∀ (x8 : Int), ∀ w9 : World, I x8 w9 →
              (((decide (x8 < (64 : Int))) = true →
                  (∃ J_1 : Int → World → Prop, (((decide (x8 < ((x0n : Nat) : Int))) = true →
                        (∃ (t31b t31o : Nat), x0a = some ⟨t31b, t31o, none⟩ ∧ 0 ≤ x8 ∧ x8 < ((x0n : Nat) : Int) ∧
                          (∃ (t32 : Int), (Instr.loadAt 5 (.pointer (some ⟨t31b, t31o + Int.toNat x8 * 1, none⟩))).run Tryd.prog w9 = .ok (.int .u8 t32) w9 ∧
                            (J_1 t32 w9)))) ∧
                      ((decide (x8 < ((x0n : Nat) : Int))) = false →
                        (J_1 0 w9))) ∧
                    (∀ (x9 : Int), ∀ w10 : World, J_1 x9 w10 →
                      (∃ (t37b t37o : Nat), t19a = some ⟨t37b, t37o, none⟩ ∧ 0 ≤ x8 ∧ x8 < ((t19n : Nat) : Int) ∧
                        (∃ w11 : World, (Instr.storeAt 5 (.pointer (some ⟨t37b, t37o + Int.toNat x8 * 1, none⟩)) (.int .u8 (bxor .u8 x9 (54 : Int)))).run Tryd.prog w10 = .ok () w11 ∧
                          (∃ (t42b t42o : Nat), t20a = some ⟨t42b, t42o, none⟩ ∧ 0 ≤ x8 ∧ x8 < ((t20n : Nat) : Int) ∧
                            (∃ w12 : World, (Instr.storeAt 5 (.pointer (some ⟨t42b, t42o + Int.toNat x8 * 1, none⟩)) (.int .u8 (bxor .u8 x9 (92 : Int)))).run Tryd.prog w11 = .ok () w12 ∧
                              (I (IntKind.wrap .i64 (x8 + (1 : Int))) w12 ∧ μ (IntKind.wrap .i64 (x8 + (1 : Int))) w12 < μ x8 w9)))))))) ∧
                ((decide (x8 < (64 : Int))) = false →
                  (∃ (I_1 : Option Addr → Nat → Nat → Int → World → Prop) (μ_1 : Option Addr → Nat → Nat → Int → World → Nat), I_1 t19a t19n t19c 0 w9 ∧
                    (∀ (x6a : Option Addr) (x6n : Nat) (x6c : Nat) (x10 : Int), ∀ w13 : World, I_1 x6a x6n x6c x10 w13 →
                      (((decide (x10 < ((a1n : Nat) : Int))) = true →
                          (∃ (t52b t52o : Nat), a1a = some ⟨t52b, t52o, none⟩ ∧ 0 ≤ x10 ∧ x10 < ((a1n : Nat) : Int) ∧
                            (∃ (t53a : Option Addr) (t53n : Nat) (t53c : Nat), (Instr.loadAt 22 (.pointer (some ⟨t52b, t52o + Int.toNat x10 * 1, none⟩))).run Tryd.prog w13 = .ok (.slice t53a t53n t53c) w13 ∧
                              (∃ (t54a : Option Addr) (t54n : Nat) (t54c : Nat) (w14 : World), (Builtin.append_ #[22, 22] 22 #[(.slice x6a x6n x6c), (.slice t53a t53n t53c)]).run Tryd.prog w13 = .ok (.slice t54a t54n t54c) w14 ∧
                                (I_1 t54a t54n t54c (IntKind.wrap .i64 (x10 + (1 : Int))) w14 ∧ μ_1 t54a t54n t54c (IntKind.wrap .i64 (x10 + (1 : Int))) w14 < μ_1 x6a x6n x6c x10 w13))))) ∧
                        ((decide (x10 < ((a1n : Nat) : Int))) = false →
                          (∃ (t56a : Option Addr) (t56n : Nat) (t56c : Nat) (w15 : World), (Instr.buildSlice 31 1 #[(0, (.slice x6a x6n x6c))]).run Tryd.prog w13 = .ok (.slice t56a t56n t56c) w15 ∧
                            (Calls Tryd.prog 14 #[(.slice t56a t56n t56c)] w15 fun (e57 : Ending) (w16 : World) => ∃ (t57 : Array Value), e57 = .returned (.agg t57) ∧
                              (∃ (g11 : Nat) (w17 : World), (Instr.alloc 27 true (.tuple #[])).run Tryd.prog w16 = .ok (.pointer (some ⟨g11, 0, none⟩)) w17 ∧
                                (∃ w18 : World, (Instr.storeAt 27 (.pointer (some ⟨g11, 0, none⟩)) (.agg t57)).run Tryd.prog w17 = .ok () w18 ∧
                                  (0 ≤ ((32 : Nat) : Int) ∧ ((32 : Nat) : Int) ≤ ((32 : Nat) : Int) ∧
                                    (∃ (t60a : Option Addr) (t60n : Nat) (t60c : Nat) (w19 : World), (Instr.buildSlice 31 2 #[(0, (.slice t20a t20n t20c)), (1, (.slice (some ⟨g11, 0, none⟩) (32) 32))]).run Tryd.prog w18 = .ok (.slice t60a t60n t60c) w19 ∧
                                      (Calls Tryd.prog 14 #[(.slice t60a t60n t60c)] w19 fun (e61 : Ending) (w20 : World) => ∃ (t61 : Array Value), e61 = .returned (.agg t61) ∧
                                        (∃ w21 : World, (Instr.storeAt 27 (.pointer (some ⟨g4, 0, none⟩)) (.agg t61)).run Tryd.prog w20 = .ok () w21 ∧
                                          (∃ r4 : Value, (loadVar 27 ⟨g4, 0, none⟩).run Tryd.prog w21 = .ok r4 w21 ∧
                                            (R (.returned r4) w21))))))))))))))))))))))) : Calls Tryd.prog 16 #[(.slice a0a a0n a0c), (.slice a1a a1n a1c)] w R :=
  calls_of_ev (args := [(.slice a0a a0n a0c), (.slice a1a a1n a1c)])
    (tc := .seq (.reg (.op .bx (.nil))) (.seq (.seq (.reg (.op .p (.op .p (.op .p (.nil))))) (.join [0, 5, 15, 16, 17, 18] [0] [.slice] (.cond (.seq (.reg (.op .p (.op (.r (.slice)) (.op (.cl [.agg]) (.op .bx (.op .u (.nil))))))) (.reg (.op .sl (.op .p (.nil))))) (.leaf)))) (.seq (.reg (.op (.r (.slice)) (.op .p (.nil)))) (.seq (.reg (.op (.r (.slice)) (.op .p (.nil)))) (.seq (.seq (.reg (.op .p (.nil))) (.blk (.loop [8, 9, 21, 22, 23, 24, 25, 26, 27, 28, 29, 30, 31, 32, 33, 34, 35, 36, 37, 38, 39, 40, 41, 42] [8] [.int .i64] (.seq (.seq (.reg (.op .p (.op .p (.nil)))) (.cond (.leaf) (.leaf))) (.seq (.blk (.seq (.reg (.op .p (.nil))) (.seq (.seq (.reg (.op .p (.op .p (.op .p (.op .p (.nil)))))) (.join [9, 29, 30, 31, 32] [9] [.int .u8] (.cond (.reg (.op .p (.op .p (.op .ix (.op (.ld (.int .u8)) (.op .p (.nil))))))) (.leaf)))) (.seq (.reg (.op .p (.op .p (.op .p (.op .p (.op .ix (.op .u (.nil)))))))) (.reg (.op .p (.op .p (.op .p (.op .p (.op .ix (.op .u (.nil)))))))))))) (.reg (.op .p (.op .p (.op .p (.nil)))))))))) (.seq (.seq (.reg (.op .p (.nil))) (.blk (.loop [6, 10, 43, 44, 45, 46, 47, 48, 49, 50, 51, 52, 53, 54] [6, 10] [.slice, .int .i64] (.seq (.seq (.reg (.op .p (.op .p (.op .p (.op .p (.nil)))))) (.cond (.leaf) (.leaf))) (.seq (.blk (.reg (.op .p (.op .p (.op .p (.op .ix (.op (.ld (.slice)) (.op (.r (.slice)) (.op .p (.nil)))))))))) (.reg (.op .p (.op .p (.op .p (.nil)))))))))) (.seq (.reg (.op .p (.op (.r (.slice)) (.op (.cl [.agg]) (.op .bx (.op .u (.nil))))))) (.seq (.reg (.op .p (.op .sl (.op (.r (.slice)) (.op (.cl [.agg]) (.op .u (.nil))))))) (.leaf)))))))))
    (by kernel_rfl) Tryd.func16 (by kernel_rfl) (by kernel_rfl) (by kernel_rfl) (by kernel_rfl) h

set_option maxRecDepth 100000 in
theorem amphoraref02_Derive_vc (a0a : Option Addr) (a0n : Nat) (a0c : Nat) (a1a : Option Addr) (a1n : Nat) (a1c : Nat) (a2a : Option Addr) (a2n : Nat) (a2c : Nat) (a3 : Int) (w : World) (R : Ending → World → Prop) (h :
  (((decide (a3 < (0 : Int))) || (decide (a3 > (8160 : Int)))) = true →
    (R (.returned (.tuple #[(.slice none 0 0), (.int .i64 7)])) w)) ∧
  (((decide (a3 < (0 : Int))) || (decide (a3 > (8160 : Int)))) = false →
    (∃ J : Option Addr → Nat → Nat → World → Prop, (((((a0n : Nat) : Int) == (0 : Int)) = true →
          (∃ (t24a : Option Addr) (t24n : Nat) (t24c : Nat) (w1 : World), (Instr.makeSlice 22 (.int .i64 32) (.int .i64 32)).run Tryd.prog w = .ok (.slice t24a t24n t24c) w1 ∧
            (J t24a t24n t24c w1))) ∧
        ((((a0n : Nat) : Int) == (0 : Int)) = false →
          (J a0a a0n a0c w))) ∧
      (∀ (x0a : Option Addr) (x0n : Nat) (x0c : Nat), ∀ w2 : World, J x0a x0n x0c w2 →
        (∃ (t27a : Option Addr) (t27n : Nat) (t27c : Nat) (w3 : World), (Instr.buildSlice 31 1 #[(0, (.slice a1a a1n a1c))]).run Tryd.prog w2 = .ok (.slice t27a t27n t27c) w3 ∧
          (Calls Tryd.prog 16 #[(.slice x0a x0n x0c), (.slice t27a t27n t27c)] w3 fun (e28 : Ending) (w4 : World) => ∃ (t28 : Array Value), e28 = .returned (.agg t28) ∧
            (∃ (g10 : Nat) (w5 : World), (Instr.alloc 27 true (.tuple #[])).run Tryd.prog w4 = .ok (.pointer (some ⟨g10, 0, none⟩)) w5 ∧
              (∃ w6 : World, (Instr.storeAt 27 (.pointer (some ⟨g10, 0, none⟩)) (.agg t28)).run Tryd.prog w5 = .ok () w6 ∧
                (∃ (t29a : Option Addr) (t29n : Nat) (t29c : Nat) (w7 : World), (Instr.buildSlice 22 0 #[]).run Tryd.prog w6 = .ok (.slice t29a t29n t29c) w7 ∧
                  (∃ (I : Option Addr → Nat → Nat → Option Addr → Nat → Nat → Int → World → Prop) (μ : Option Addr → Nat → Nat → Option Addr → Nat → Nat → Int → World → Nat), I none 0 0 t29a t29n t29c 1 w7 ∧
                    (∀ (x11a : Option Addr) (x11n : Nat) (x11c : Nat) (x12a : Option Addr) (x12n : Nat) (x12c : Nat) (x13 : Int), ∀ w8 : World, I x11a x11n x11c x12a x12n x12c x13 w8 →
                      (((decide (((x11n : Nat) : Int) < a3)) = true →
                          (0 ≤ ((32 : Nat) : Int) ∧ ((32 : Nat) : Int) ≤ ((32 : Nat) : Int) ∧
                            (∃ (t41a : Option Addr) (t41n : Nat) (t41c : Nat) (w9 : World), (Instr.buildSlice 22 1 #[(0, (.int .u8 (IntKind.wrap .u8 x13)))]).run Tryd.prog w8 = .ok (.slice t41a t41n t41c) w9 ∧
                              (∃ (t42a : Option Addr) (t42n : Nat) (t42c : Nat) (w10 : World), (Instr.buildSlice 31 3 #[(0, (.slice x12a x12n x12c)), (1, (.slice a2a a2n a2c)), (2, (.slice t41a t41n t41c))]).run Tryd.prog w9 = .ok (.slice t42a t42n t42c) w10 ∧
                                (Calls Tryd.prog 16 #[(.slice (some ⟨g10, 0, none⟩) (32) 32), (.slice t42a t42n t42c)] w10 fun (e43 : Ending) (w11 : World) => ∃ (t43 : Array Value), e43 = .returned (.agg t43) ∧
                                  (∃ (g14 : Nat) (w12 : World), (Instr.alloc 27 true (.tuple #[])).run Tryd.prog w11 = .ok (.pointer (some ⟨g14, 0, none⟩)) w12 ∧
                                    (∃ w13 : World, (Instr.storeAt 27 (.pointer (some ⟨g14, 0, none⟩)) (.agg t43)).run Tryd.prog w12 = .ok () w13 ∧
                                      (∃ (t44a : Option Addr) (t44n : Nat) (t44c : Nat) (w14 : World), (Instr.buildSlice 22 0 #[]).run Tryd.prog w13 = .ok (.slice t44a t44n t44c) w14 ∧
                                        (0 ≤ ((32 : Nat) : Int) ∧ ((32 : Nat) : Int) ≤ ((32 : Nat) : Int) ∧
                                          (∃ (t46a : Option Addr) (t46n : Nat) (t46c : Nat) (w15 : World), (Builtin.append_ #[22, 22] 22 #[(.slice t44a t44n t44c), (.slice (some ⟨g14, 0, none⟩) (32) 32)]).run Tryd.prog w14 = .ok (.slice t46a t46n t46c) w15 ∧
                                            (∃ (t49a : Option Addr) (t49n : Nat) (t49c : Nat) (w16 : World), (Builtin.append_ #[22, 22] 22 #[(.slice x11a x11n x11c), (.slice t46a t46n t46c)]).run Tryd.prog w15 = .ok (.slice t49a t49n t49c) w16 ∧
                                              (I t49a t49n t49c t46a t46n t46c (IntKind.wrap .i64 (x13 + (1 : Int))) w16 ∧ μ t49a t49n t49c t46a t46n t46c (IntKind.wrap .i64 (x13 + (1 : Int))) w16 < μ x11a x11n x11c x12a x12n x12c x13 w8)))))))))))) ∧
                        ((decide (((x11n : Nat) : Int) < a3)) = false →
                          (0 ≤ a3 ∧ a3 ≤ ((x11c : Nat) : Int) ∧
                            (R (.returned (.tuple #[(.slice x11a (Int.toNat a3) x11c), (.int .i64 0)])) w8))))))))))))))) : Calls Tryd.prog 29 #[(.slice a0a a0n a0c), (.slice a1a a1n a1c), (.slice a2a a2n a2c), (.int .i64 a3)] w R :=
  calls_of_ev (args := [(.slice a0a a0n a0c), (.slice a1a a1n a1c), (.slice a2a a2n a2c), (.int .i64 a3)])
    (tc := .seq (.reg (.op .p (.op .p (.nil)))) (.seq (.seq (.reg (.op .p (.op .p (.op .p (.ap 2 (.nil)))))) (.cond (.seq (.reg (.op .p (.op .p (.nil)))) (.leaf)) (.leaf))) (.seq (.seq (.reg (.op .p (.op .p (.op .p (.nil))))) (.join [0, 24] [0] [.slice] (.cond (.reg (.op (.r (.slice)) (.op .p (.nil)))) (.leaf)))) (.seq (.reg (.op .p (.op .p (.op (.r (.slice)) (.op (.cl [.agg]) (.op .bx (.op .u (.nil)))))))) (.seq (.reg (.op .p (.nil))) (.seq (.reg (.op (.r (.slice)) (.op .p (.nil)))) (.seq (.seq (.reg (.op .p (.nil))) (.blk (.loop [11, 12, 13, 14, 30, 31, 32, 33, 34, 35, 36, 37, 38, 39, 40, 41, 42, 43, 44, 45, 46, 47, 48, 49] [11, 12, 13] [.slice, .slice, .int .i64] (.seq (.seq (.reg (.op .p (.op .p (.op .p (.op .p (.nil)))))) (.cond (.leaf) (.leaf))) (.seq (.blk (.seq (.reg (.op .sl (.op .p (.op .p (.op .p (.op .p (.op (.r (.slice)) (.op (.r (.slice)) (.op (.cl [.agg]) (.op .bx (.op .u (.nil)))))))))))) (.seq (.reg (.op (.r (.slice)) (.op .sl (.op (.r (.slice)) (.op .p (.nil)))))) (.reg (.op .p (.op .p (.op (.r (.slice)) (.op .p (.nil))))))))) (.reg (.op .p (.op .p (.op .p (.nil)))))))))) (.seq (.reg (.op .p (.op .p (.op .sl (.op .p (.op .p (.nil))))))) (.leaf)))))))))
    (by kernel_rfl) Tryd.func29 (by kernel_rfl) (by kernel_rfl) (by kernel_rfl) (by kernel_rfl) h

end Go.Proofs.YtpodhfomjljfbaaDoor
