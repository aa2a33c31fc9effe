/- Verification conditions of functions, printed by the session's own program vc.py: out of each, Calls (conditions: none). -/
import Derived.Test.YtmdandkoajocpaaGreatDoorRows
import Derived.Test.YtmdandkoajocpaaGreatDoorSxRun
namespace Go.Proofs.YtmdandkoajocpaaGreatDoor
open Go Go.Proofs.YtmdandkoajocpaaGreatDoor.Sx

set_option maxRecDepth 100000 in
theorem chacha_word_vc (a0a : Option Addr) (a0n : Nat) (a0c : Nat) (w : World) (R : Ending → World → Prop) (h :
  ∃ S : World → Prop, S w.drew ∧
  (∃ (t4b t4o : Nat), a0a = some ⟨t4b, t4o, none⟩ ∧ 0 ≤ (0 : Int) ∧ (0 : Int) < ((a0n : Nat) : Int) ∧
    (∃ (t8b t8o : Nat), a0a = some ⟨t8b, t8o, none⟩ ∧ 0 ≤ (1 : Int) ∧ (1 : Int) < ((a0n : Nat) : Int) ∧
      (∃ (t14b t14o : Nat), a0a = some ⟨t14b, t14o, none⟩ ∧ 0 ≤ (2 : Int) ∧ (2 : Int) < ((a0n : Nat) : Int) ∧
        (∃ (t20b t20o : Nat), a0a = some ⟨t20b, t20o, none⟩ ∧ 0 ≤ (3 : Int) ∧ (3 : Int) < ((a0n : Nat) : Int) ∧
          (∃ (t5 : Int), (∀ w' : World, S w' → (Instr.loadAt 5 (.pointer (some ⟨t4b, t4o + Int.toNat (0 : Int) * 1, none⟩))).run Tryz.prog w' = .ok (.int .u8 t5) w') ∧
            (∃ (t9 : Int), (∀ w' : World, S w' → (Instr.loadAt 5 (.pointer (some ⟨t8b, t8o + Int.toNat (1 : Int) * 1, none⟩))).run Tryz.prog w' = .ok (.int .u8 t9) w') ∧
              (∃ (t15 : Int), (∀ w' : World, S w' → (Instr.loadAt 5 (.pointer (some ⟨t14b, t14o + Int.toNat (2 : Int) * 1, none⟩))).run Tryz.prog w' = .ok (.int .u8 t15) w') ∧
                (∃ (t21 : Int), (∀ w' : World, S w' → (Instr.loadAt 5 (.pointer (some ⟨t20b, t20o + Int.toNat (3 : Int) * 1, none⟩))).run Tryz.prog w' = .ok (.int .u8 t21) w') ∧
                  (R (.returned (.int .u32 (bor .u32 (bor .u32 (bor .u32 (IntKind.wrap .u32 t5) (shlI .u32 (IntKind.wrap .u32 t9) (8 : Int))) (shlI .u32 (IntKind.wrap .u32 t15) (16 : Int))) (shlI .u32 (IntKind.wrap .u32 t21) (24 : Int))))) w.drew)))))))))) : Calls Tryz.prog 188 #[(.slice a0a a0n a0c)] w R :=
  calls_of_ev (args := [(.slice a0a a0n a0c)])
    (tc := .seq (.reg (.op .p (.nil))) (.seq (.drawS (.tk 0 .p (.tk 1 .ix (.tk 4 .p (.tk 5 .ix (.tk 10 .p (.tk 11 .ix (.tk 16 .p (.tk 17 .ix (.ts 2 (.int .u8) (.tk 3 .p (.ts 6 (.int .u8) (.tk 7 .p (.tk 8 .p (.tk 9 .p (.ts 12 (.int .u8) (.tk 13 .p (.tk 14 .p (.tk 15 .p (.ts 18 (.int .u8) (.tk 19 .p (.tk 20 .p (.tk 21 .p (.tk 22 .p (.nil)))))))))))))))))))))))) []) (.leaf)))
    (by kernel_rfl) Tryz.func188 (by kernel_rfl) (by kernel_rfl) (by kernel_rfl) (by kernel_rfl) h

set_option maxRecDepth 100000 in
theorem chacha_quarter_vc (a0 : Int) (a1 : Int) (a2 : Int) (a3 : Int) (w : World) (R : Ending → World → Prop) (h :
  Calls Tryz.prog 189 #[(.int .u32 (bxor .u32 a3 (IntKind.wrap .u32 (a0 + a1)))), (.int .i64 16)] w fun (e18 : Ending) (w1 : World) => ∃ (t18 : Int), e18 = .returned (.int .u32 t18) ∧
  (Calls Tryz.prog 189 #[(.int .u32 (bxor .u32 a1 (IntKind.wrap .u32 (a2 + t18)))), (.int .i64 12)] w1 fun (e25 : Ending) (w2 : World) => ∃ (t25 : Int), e25 = .returned (.int .u32 t25) ∧
    (Calls Tryz.prog 189 #[(.int .u32 (bxor .u32 t18 (IntKind.wrap .u32 ((IntKind.wrap .u32 (a0 + a1)) + t25)))), (.int .i64 8)] w2 fun (e32 : Ending) (w3 : World) => ∃ (t32 : Int), e32 = .returned (.int .u32 t32) ∧
      (Calls Tryz.prog 189 #[(.int .u32 (bxor .u32 t25 (IntKind.wrap .u32 ((IntKind.wrap .u32 (a2 + t18)) + t32)))), (.int .i64 7)] w3 fun (e39 : Ending) (w4 : World) => ∃ (t39 : Int), e39 = .returned (.int .u32 t39) ∧
        (R (.returned (.tuple #[(.int .u32 (IntKind.wrap .u32 ((IntKind.wrap .u32 (a0 + a1)) + t25))), (.int .u32 t39), (.int .u32 (IntKind.wrap .u32 ((IntKind.wrap .u32 (a2 + t18)) + t32))), (.int .u32 t32)])) w4))))) : Calls Tryz.prog 185 #[(.int .u32 a0), (.int .u32 a1), (.int .u32 a2), (.int .u32 a3)] w R :=
  calls_of_ev (args := [(.int .u32 a0), (.int .u32 a1), (.int .u32 a2), (.int .u32 a3)])
    (tc := .seq (.reg (.op .p (.op .p (.op .p (.op .p (.nil)))))) (.seq (.reg (.op .p (.op .p (.op .p (.op .p (.nil)))))) (.seq (.reg (.op .p (.op .p (.op .p (.op (.cl [.int .u32]) (.op .p (.nil))))))) (.seq (.reg (.op .p (.op .p (.op .p (.op .p (.nil)))))) (.seq (.reg (.op .p (.op .p (.op .p (.op (.cl [.int .u32]) (.op .p (.nil))))))) (.seq (.reg (.op .p (.op .p (.op .p (.op .p (.nil)))))) (.seq (.reg (.op .p (.op .p (.op .p (.op (.cl [.int .u32]) (.op .p (.nil))))))) (.seq (.reg (.op .p (.op .p (.op .p (.op .p (.nil)))))) (.seq (.reg (.op .p (.op .p (.op .p (.op (.cl [.int .u32]) (.op .p (.nil))))))) (.seq (.reg (.op .p (.op .p (.op .p (.op .p (.op .p (.op .p (.op .p (.op .p (.nil)))))))))) (.leaf)))))))))))
    (by kernel_rfl) Tryz.func185 (by kernel_rfl) (by kernel_rfl) (by kernel_rfl) (by kernel_rfl) h

set_option maxRecDepth 100000 in
theorem chacha_begin_vc (a0 : Array Value) (a1 : Int) (a2 : Array Value) (w : World) (R : Ending → World → Prop) (h :
  ∃ (g3 : Nat) (w1 : World), (Instr.box 22 (.agg a0)).run Tryz.prog w = .ok (.pointer (some ⟨g3, 0, none⟩)) w1 ∧
  (∃ (g5 : Nat) (w2 : World), (Instr.box 187 (.agg a2)).run Tryz.prog w1 = .ok (.pointer (some ⟨g5, 0, none⟩)) w2 ∧
    (∃ (g6 : Nat) (w3 : World), (Instr.alloc 235 true (.tuple #[])).run Tryz.prog w2 = .ok (.pointer (some ⟨g6, 0, none⟩)) w3 ∧
      (∃ (t10 : Array Value), (Instr.build 235 #[(0, (.int .u32 1634760805)), (1, (.int .u32 857760878)), (2, (.int .u32 2036477234)), (3, (.int .u32 1797285236))]).run Tryz.prog w3 = .ok (.agg t10) w3 ∧
        (∃ (g7 : Nat) (w4 : World), (Instr.alloc 235 true (.tuple #[])).run Tryz.prog w3 = .ok (.pointer (some ⟨g7, 0, none⟩)) w4 ∧
          (∃ w5 : World, (Instr.storeAt 235 (.pointer (some ⟨g7, 0, none⟩)) (.agg t10)).run Tryz.prog w4 = .ok () w5 ∧
            (∃ (I : Int → World → Prop) (μ : Int → World → Nat), I 0 w5 ∧
              (∀ (x11 : Int), ∀ w6 : World, I x11 w6 →
                (((decide (x11 < (8 : Int))) = true →
                    (0 ≤ (IntKind.wrap .i64 ((4 : Int) * x11)) ∧ (IntKind.wrap .i64 ((4 : Int) * x11)) ≤ ((32 : Nat) : Int) ∧ ((32 : Nat) : Int) ≤ ((32 : Nat) : Int) ∧ ∀ t18a : Option Addr, SubA 1 (some ⟨g3, 0, none⟩) (Int.toNat (IntKind.wrap .i64 ((4 : Int) * x11))) 32 t18a →
                      (Calls Tryz.prog 188 #[(.slice t18a ((32) - (Int.toNat (IntKind.wrap .i64 ((4 : Int) * x11)))) (32 - (Int.toNat (IntKind.wrap .i64 ((4 : Int) * x11)))))] w6 fun (e19 : Ending) (w7 : World) => ∃ (t19 : Int), e19 = .returned (.int .u32 t19) ∧
                        (0 ≤ (IntKind.wrap .i64 ((4 : Int) + x11)) ∧ (IntKind.wrap .i64 ((4 : Int) + x11)) < (16 : Int) ∧
                          (∃ w8 : World, (Instr.storeAt 209 (.pointer (some ⟨g7, 0 + Int.toNat (IntKind.wrap .i64 ((4 : Int) + x11)) * 1, none⟩)) (.int .u32 t19)).run Tryz.prog w7 = .ok () w8 ∧
                            (I (IntKind.wrap .i64 (x11 + (1 : Int))) w8 ∧ μ (IntKind.wrap .i64 (x11 + (1 : Int))) w8 < μ x11 w6)))))) ∧
                  ((decide (x11 < (8 : Int))) = false →
                    (∃ w9 : World, (Instr.storeAt 209 (.pointer (some ⟨g7, 12, none⟩)) (.int .u32 a1)).run Tryz.prog w6 = .ok () w9 ∧
                      (∃ (I_1 : Int → World → Prop) (μ_1 : Int → World → Nat), I_1 0 w9 ∧
                        (∀ (x24 : Int), ∀ w10 : World, I_1 x24 w10 →
                          (((decide (x24 < (3 : Int))) = true →
                              (0 ≤ (IntKind.wrap .i64 ((4 : Int) * x24)) ∧ (IntKind.wrap .i64 ((4 : Int) * x24)) ≤ ((12 : Nat) : Int) ∧ ((12 : Nat) : Int) ≤ ((12 : Nat) : Int) ∧ ∀ t31a : Option Addr, SubA 1 (some ⟨g5, 0, none⟩) (Int.toNat (IntKind.wrap .i64 ((4 : Int) * x24))) 12 t31a →
                                (Calls Tryz.prog 188 #[(.slice t31a ((12) - (Int.toNat (IntKind.wrap .i64 ((4 : Int) * x24)))) (12 - (Int.toNat (IntKind.wrap .i64 ((4 : Int) * x24)))))] w10 fun (e32 : Ending) (w11 : World) => ∃ (t32 : Int), e32 = .returned (.int .u32 t32) ∧
                                  (0 ≤ (IntKind.wrap .i64 ((13 : Int) + x24)) ∧ (IntKind.wrap .i64 ((13 : Int) + x24)) < (16 : Int) ∧
                                    (∃ w12 : World, (Instr.storeAt 209 (.pointer (some ⟨g7, 0 + Int.toNat (IntKind.wrap .i64 ((13 : Int) + x24)) * 1, none⟩)) (.int .u32 t32)).run Tryz.prog w11 = .ok () w12 ∧
                                      (I_1 (IntKind.wrap .i64 (x24 + (1 : Int))) w12 ∧ μ_1 (IntKind.wrap .i64 (x24 + (1 : Int))) w12 < μ_1 x24 w10)))))) ∧
                            ((decide (x24 < (3 : Int))) = false →
                              (∃ (t35 : Array Value), (Instr.loadAt 235 (.pointer (some ⟨g7, 0, none⟩))).run Tryz.prog w10 = .ok (.agg t35) w10 ∧
                                (∃ w13 : World, (Instr.storeAt 235 (.pointer (some ⟨g6, 0, none⟩)) (.agg t35)).run Tryz.prog w10 = .ok () w13 ∧
                                  (∃ r6 : Value, (loadVar 235 ⟨g6, 0, none⟩).run Tryz.prog w13 = .ok r6 w13 ∧
                                    (R (.returned r6) w13))))))))))))))))))) : Calls Tryz.prog 184 #[(.agg a0), (.int .u32 a1), (.agg a2)] w R :=
  calls_of_ev (args := [(.agg a0), (.int .u32 a1), (.agg a2)])
    (tc := .seq (.reg (.op .bx (.op .bx (.op .bx (.nil))))) (.seq (.reg (.op (.ld (.agg)) (.op .bx (.op .u (.nil))))) (.seq (.seq (.reg (.op .p (.nil))) (.blk (.loop [8, 11, 12, 13, 14, 15, 16, 17, 18, 19, 20, 21] [11] [.int .i64] (.seq (.reg (.op .p (.nil))) (.seq (.cond (.leaf) (.leaf)) (.seq (.blk (.seq (.reg (.op .p (.op .p (.nil)))) (.reg (.op .p (.op .p (.op .p (.op .p (.op .sl (.op (.cl [.int .u32]) (.op .ix (.op .u (.nil)))))))))))) (.reg (.op .p (.op .p (.nil)))))))))) (.seq (.reg (.op .p (.op .p (.op .u (.nil))))) (.seq (.seq (.reg (.op .p (.nil))) (.blk (.loop [9, 24, 25, 26, 27, 28, 29, 30, 31, 32, 33, 34] [24] [.int .i64] (.seq (.reg (.op .p (.nil))) (.seq (.cond (.leaf) (.leaf)) (.seq (.blk (.seq (.reg (.op .p (.op .p (.nil)))) (.reg (.op .p (.op .p (.op .p (.op .p (.op .sl (.op (.cl [.int .u32]) (.op .ix (.op .u (.nil)))))))))))) (.reg (.op .p (.op .p (.nil)))))))))) (.seq (.reg (.op (.ld (.agg)) (.op .u (.nil)))) (.leaf)))))))
    (by kernel_rfl) Tryz.func184 (by kernel_rfl) (by kernel_rfl) (by kernel_rfl) (by kernel_rfl) h

set_option maxRecDepth 100000 in
theorem chacha_Block_vc (a0 : Array Value) (a1 : Int) (a2 : Array Value) (w : World) (R : Ending → World → Prop) (h :
  ∃ (g3 : Nat) (w1 : World), (Instr.box 22 (.agg a0)).run Tryz.prog w = .ok (.pointer (some ⟨g3, 0, none⟩)) w1 ∧
  (∃ (g5 : Nat) (w2 : World), (Instr.box 187 (.agg a2)).run Tryz.prog w1 = .ok (.pointer (some ⟨g5, 0, none⟩)) w2 ∧
    (∃ (g6 : Nat) (w3 : World), (Instr.alloc 207 true (.tuple #[])).run Tryz.prog w2 = .ok (.pointer (some ⟨g6, 0, none⟩)) w3 ∧
      (∃ (t17 : Array Value), (Instr.loadAt 22 (.pointer (some ⟨g3, 0, none⟩))).run Tryz.prog w3 = .ok (.agg t17) w3 ∧
        (∃ (t19 : Array Value), (Instr.loadAt 187 (.pointer (some ⟨g5, 0, none⟩))).run Tryz.prog w3 = .ok (.agg t19) w3 ∧
          (Calls Tryz.prog 184 #[(.agg t17), (.int .u32 a1), (.agg t19)] w3 fun (e20 : Ending) (w4 : World) => ∃ (t20 : Array Value), e20 = .returned (.agg t20) ∧
            (∃ (g7 : Nat) (w5 : World), (Instr.alloc 235 true (.tuple #[])).run Tryz.prog w4 = .ok (.pointer (some ⟨g7, 0, none⟩)) w5 ∧
              (∃ w6 : World, (Instr.storeAt 235 (.pointer (some ⟨g7, 0, none⟩)) (.agg t20)).run Tryz.prog w5 = .ok () w6 ∧
                (∃ (t21 : Array Value), (Instr.loadAt 235 (.pointer (some ⟨g7, 0, none⟩))).run Tryz.prog w6 = .ok (.agg t21) w6 ∧
                  (∃ (g8 : Nat) (w7 : World), (Instr.alloc 235 true (.tuple #[])).run Tryz.prog w6 = .ok (.pointer (some ⟨g8, 0, none⟩)) w7 ∧
                    (∃ w8 : World, (Instr.storeAt 235 (.pointer (some ⟨g8, 0, none⟩)) (.agg t21)).run Tryz.prog w7 = .ok () w8 ∧
                      (∃ (I : Int → World → Prop) (μ : Int → World → Nat), I 0 w8 ∧
                        (∀ (x22 : Int), ∀ w9 : World, I x22 w9 →
                          (((decide (x22 < (10 : Int))) = true →
                              (∃ (I_1 : Int → World → Prop) (μ_1 : Int → World → Nat), I_1 0 w9 ∧
                                (∀ (x24 : Int), ∀ w10 : World, I_1 x24 w10 →
                                  (((decide (x24 < (4 : Int))) = true →
                                      (∃ S : World → Prop, S w10.drew ∧
                                        (0 ≤ x24 ∧ x24 < (16 : Int) ∧
                                          (0 ≤ (IntKind.wrap .i64 ((4 : Int) + x24)) ∧ (IntKind.wrap .i64 ((4 : Int) + x24)) < (16 : Int) ∧
                                            (0 ≤ (IntKind.wrap .i64 ((8 : Int) + x24)) ∧ (IntKind.wrap .i64 ((8 : Int) + x24)) < (16 : Int) ∧
                                              (0 ≤ (IntKind.wrap .i64 ((12 : Int) + x24)) ∧ (IntKind.wrap .i64 ((12 : Int) + x24)) < (16 : Int) ∧
                                                (∃ (t37 : Int), (∀ w' : World, S w' → (Instr.loadAt 209 (.pointer (some ⟨g8, 0 + Int.toNat x24 * 1, none⟩))).run Tryz.prog w' = .ok (.int .u32 t37) w') ∧
                                                  (∃ (t41 : Int), (∀ w' : World, S w' → (Instr.loadAt 209 (.pointer (some ⟨g8, 0 + Int.toNat (IntKind.wrap .i64 ((4 : Int) + x24)) * 1, none⟩))).run Tryz.prog w' = .ok (.int .u32 t41) w') ∧
                                                    (∃ (t45 : Int), (∀ w' : World, S w' → (Instr.loadAt 209 (.pointer (some ⟨g8, 0 + Int.toNat (IntKind.wrap .i64 ((8 : Int) + x24)) * 1, none⟩))).run Tryz.prog w' = .ok (.int .u32 t45) w') ∧
                                                      (∃ (t49 : Int), (∀ w' : World, S w' → (Instr.loadAt 209 (.pointer (some ⟨g8, 0 + Int.toNat (IntKind.wrap .i64 ((12 : Int) + x24)) * 1, none⟩))).run Tryz.prog w' = .ok (.int .u32 t49) w') ∧
                                                        (Calls Tryz.prog 185 #[(.int .u32 t37), (.int .u32 t41), (.int .u32 t45), (.int .u32 t49)] w10.drew fun (e50 : Ending) (w11 : World) => ∃ (t50_0 : Int) (t50_1 : Int) (t50_2 : Int) (t50_3 : Int), e50 = .returned (.tuple #[(.int .u32 t50_0), (.int .u32 t50_1), (.int .u32 t50_2), (.int .u32 t50_3)]) ∧
                                                          (∃ S_1 : World → Prop, (∀ w' : World, S_1 w' → S w') ∧ S_1 w11 ∧
                                                            (0 ≤ x24 ∧ x24 < (16 : Int) ∧
                                                              (∃ w12 : World, (Instr.storeAt 209 (.pointer (some ⟨g8, 0 + Int.toNat x24 * 1, none⟩)) (.int .u32 t50_0)).run Tryz.prog w11 = .ok () w12 ∧
                                                                (0 ≤ (IntKind.wrap .i64 ((4 : Int) + x24)) ∧ (IntKind.wrap .i64 ((4 : Int) + x24)) < (16 : Int) ∧
                                                                  (∃ w13 : World, (Instr.storeAt 209 (.pointer (some ⟨g8, 0 + Int.toNat (IntKind.wrap .i64 ((4 : Int) + x24)) * 1, none⟩)) (.int .u32 t50_1)).run Tryz.prog w12 = .ok () w13 ∧
                                                                    (0 ≤ (IntKind.wrap .i64 ((8 : Int) + x24)) ∧ (IntKind.wrap .i64 ((8 : Int) + x24)) < (16 : Int) ∧
                                                                      (∃ w14 : World, (Instr.storeAt 209 (.pointer (some ⟨g8, 0 + Int.toNat (IntKind.wrap .i64 ((8 : Int) + x24)) * 1, none⟩)) (.int .u32 t50_2)).run Tryz.prog w13 = .ok () w14 ∧
                                                                        (0 ≤ (IntKind.wrap .i64 ((12 : Int) + x24)) ∧ (IntKind.wrap .i64 ((12 : Int) + x24)) < (16 : Int) ∧
                                                                          (∃ w15 : World, (Instr.storeAt 209 (.pointer (some ⟨g8, 0 + Int.toNat (IntKind.wrap .i64 ((12 : Int) + x24)) * 1, none⟩)) (.int .u32 t50_3)).run Tryz.prog w14 = .ok () w15 ∧
                                                                            (I_1 (IntKind.wrap .i64 (x24 + (1 : Int))) w15 ∧ μ_1 (IntKind.wrap .i64 (x24 + (1 : Int))) w15 < μ_1 x24 w10))))))))))))))))))))) ∧
                                    ((decide (x24 < (4 : Int))) = false →
                                      (∃ (I_2 : Int → World → Prop) (μ_2 : Int → World → Nat), I_2 0 w10 ∧
                                        (∀ (x60 : Int), ∀ w16 : World, I_2 x60 w16 →
                                          (((decide (x60 < (4 : Int))) = true →
                                              (∃ S : World → Prop, S w16.drew ∧
                                                (0 ≤ x60 ∧ x60 < (16 : Int) ∧
                                                  (0 ≤ (IntKind.wrap .i64 ((4 : Int) + (Int.tmod (IntKind.wrap .i64 (x60 + (1 : Int))) (4 : Int)))) ∧ (IntKind.wrap .i64 ((4 : Int) + (Int.tmod (IntKind.wrap .i64 (x60 + (1 : Int))) (4 : Int)))) < (16 : Int) ∧
                                                    (0 ≤ (IntKind.wrap .i64 ((8 : Int) + (Int.tmod (IntKind.wrap .i64 (x60 + (2 : Int))) (4 : Int)))) ∧ (IntKind.wrap .i64 ((8 : Int) + (Int.tmod (IntKind.wrap .i64 (x60 + (2 : Int))) (4 : Int)))) < (16 : Int) ∧
                                                      (0 ≤ (IntKind.wrap .i64 ((12 : Int) + (Int.tmod (IntKind.wrap .i64 (x60 + (3 : Int))) (4 : Int)))) ∧ (IntKind.wrap .i64 ((12 : Int) + (Int.tmod (IntKind.wrap .i64 (x60 + (3 : Int))) (4 : Int)))) < (16 : Int) ∧
                                                        (∃ (t82 : Int), (∀ w' : World, S w' → (Instr.loadAt 209 (.pointer (some ⟨g8, 0 + Int.toNat x60 * 1, none⟩))).run Tryz.prog w' = .ok (.int .u32 t82) w') ∧
                                                          (∃ (t85 : Int), (∀ w' : World, S w' → (Instr.loadAt 209 (.pointer (some ⟨g8, 0 + Int.toNat (IntKind.wrap .i64 ((4 : Int) + (Int.tmod (IntKind.wrap .i64 (x60 + (1 : Int))) (4 : Int)))) * 1, none⟩))).run Tryz.prog w' = .ok (.int .u32 t85) w') ∧
                                                            (∃ (t88 : Int), (∀ w' : World, S w' → (Instr.loadAt 209 (.pointer (some ⟨g8, 0 + Int.toNat (IntKind.wrap .i64 ((8 : Int) + (Int.tmod (IntKind.wrap .i64 (x60 + (2 : Int))) (4 : Int)))) * 1, none⟩))).run Tryz.prog w' = .ok (.int .u32 t88) w') ∧
                                                              (∃ (t91 : Int), (∀ w' : World, S w' → (Instr.loadAt 209 (.pointer (some ⟨g8, 0 + Int.toNat (IntKind.wrap .i64 ((12 : Int) + (Int.tmod (IntKind.wrap .i64 (x60 + (3 : Int))) (4 : Int)))) * 1, none⟩))).run Tryz.prog w' = .ok (.int .u32 t91) w') ∧
                                                                (Calls Tryz.prog 185 #[(.int .u32 t82), (.int .u32 t85), (.int .u32 t88), (.int .u32 t91)] w16.drew fun (e92 : Ending) (w17 : World) => ∃ (t92_0 : Int) (t92_1 : Int) (t92_2 : Int) (t92_3 : Int), e92 = .returned (.tuple #[(.int .u32 t92_0), (.int .u32 t92_1), (.int .u32 t92_2), (.int .u32 t92_3)]) ∧
                                                                  (∃ S_1 : World → Prop, (∀ w' : World, S_1 w' → S w') ∧ S_1 w17 ∧
                                                                    (0 ≤ x60 ∧ x60 < (16 : Int) ∧
                                                                      (∃ w18 : World, (Instr.storeAt 209 (.pointer (some ⟨g8, 0 + Int.toNat x60 * 1, none⟩)) (.int .u32 t92_0)).run Tryz.prog w17 = .ok () w18 ∧
                                                                        (0 ≤ (IntKind.wrap .i64 ((4 : Int) + (Int.tmod (IntKind.wrap .i64 (x60 + (1 : Int))) (4 : Int)))) ∧ (IntKind.wrap .i64 ((4 : Int) + (Int.tmod (IntKind.wrap .i64 (x60 + (1 : Int))) (4 : Int)))) < (16 : Int) ∧
                                                                          (∃ w19 : World, (Instr.storeAt 209 (.pointer (some ⟨g8, 0 + Int.toNat (IntKind.wrap .i64 ((4 : Int) + (Int.tmod (IntKind.wrap .i64 (x60 + (1 : Int))) (4 : Int)))) * 1, none⟩)) (.int .u32 t92_1)).run Tryz.prog w18 = .ok () w19 ∧
                                                                            (0 ≤ (IntKind.wrap .i64 ((8 : Int) + (Int.tmod (IntKind.wrap .i64 (x60 + (2 : Int))) (4 : Int)))) ∧ (IntKind.wrap .i64 ((8 : Int) + (Int.tmod (IntKind.wrap .i64 (x60 + (2 : Int))) (4 : Int)))) < (16 : Int) ∧
                                                                              (∃ w20 : World, (Instr.storeAt 209 (.pointer (some ⟨g8, 0 + Int.toNat (IntKind.wrap .i64 ((8 : Int) + (Int.tmod (IntKind.wrap .i64 (x60 + (2 : Int))) (4 : Int)))) * 1, none⟩)) (.int .u32 t92_2)).run Tryz.prog w19 = .ok () w20 ∧
                                                                                (0 ≤ (IntKind.wrap .i64 ((12 : Int) + (Int.tmod (IntKind.wrap .i64 (x60 + (3 : Int))) (4 : Int)))) ∧ (IntKind.wrap .i64 ((12 : Int) + (Int.tmod (IntKind.wrap .i64 (x60 + (3 : Int))) (4 : Int)))) < (16 : Int) ∧
                                                                                (∃ w21 : World, (Instr.storeAt 209 (.pointer (some ⟨g8, 0 + Int.toNat (IntKind.wrap .i64 ((12 : Int) + (Int.tmod (IntKind.wrap .i64 (x60 + (3 : Int))) (4 : Int)))) * 1, none⟩)) (.int .u32 t92_3)).run Tryz.prog w20 = .ok () w21 ∧
                                                                                (I_2 (IntKind.wrap .i64 (x60 + (1 : Int))) w21 ∧ μ_2 (IntKind.wrap .i64 (x60 + (1 : Int))) w21 < μ_2 x60 w16))))))))))))))))))))) ∧
                                            ((decide (x60 < (4 : Int))) = false →
                                              (I (IntKind.wrap .i64 (x22 + (1 : Int))) w16 ∧ μ (IntKind.wrap .i64 (x22 + (1 : Int))) w16 < μ x22 w9)))))))))) ∧
                            ((decide (x22 < (10 : Int))) = false →
                              (∃ (g14 : Nat) (w22 : World), (Instr.alloc 207 true (.tuple #[])).run Tryz.prog w9 = .ok (.pointer (some ⟨g14, 0, none⟩)) w22 ∧
                                (∃ (I_1 : Int → World → Prop) (μ_1 : Int → World → Nat), I_1 0 w22 ∧
                                  (∀ (x103 : Int), ∀ w23 : World, I_1 x103 w23 →
                                    (((decide (x103 < (16 : Int))) = true →
                                        (∃ S : World → Prop, S w23.drew ∧
                                          (0 ≤ x103 ∧ x103 < (16 : Int) ∧
                                            (0 ≤ x103 ∧ x103 < (16 : Int) ∧
                                              (∃ (t108 : Int), (∀ w' : World, S w' → (Instr.loadAt 209 (.pointer (some ⟨g8, 0 + Int.toNat x103 * 1, none⟩))).run Tryz.prog w' = .ok (.int .u32 t108) w') ∧
                                                (∃ (t111 : Int), (∀ w' : World, S w' → (Instr.loadAt 209 (.pointer (some ⟨g7, 0 + Int.toNat x103 * 1, none⟩))).run Tryz.prog w' = .ok (.int .u32 t111) w') ∧
                                                  (0 ≤ (IntKind.wrap .i64 ((4 : Int) * x103)) ∧ (IntKind.wrap .i64 ((4 : Int) * x103)) < (64 : Int) ∧
                                                    (∃ w24 : World, (Instr.storeAt 5 (.pointer (some ⟨g14, 0 + Int.toNat (IntKind.wrap .i64 ((4 : Int) * x103)) * 1, none⟩)) (.int .u8 (IntKind.wrap .u8 (IntKind.wrap .u32 (t108 + t111))))).run Tryz.prog w23.drew = .ok () w24 ∧
                                                      (0 ≤ (IntKind.wrap .i64 ((IntKind.wrap .i64 ((4 : Int) * x103)) + (1 : Int))) ∧ (IntKind.wrap .i64 ((IntKind.wrap .i64 ((4 : Int) * x103)) + (1 : Int))) < (64 : Int) ∧
                                                        (∃ w25 : World, (Instr.storeAt 5 (.pointer (some ⟨g14, 0 + Int.toNat (IntKind.wrap .i64 ((IntKind.wrap .i64 ((4 : Int) * x103)) + (1 : Int))) * 1, none⟩)) (.int .u8 (IntKind.wrap .u8 (shrI .u32 (IntKind.wrap .u32 (t108 + t111)) (8 : Int))))).run Tryz.prog w24 = .ok () w25 ∧
                                                          (0 ≤ (IntKind.wrap .i64 ((IntKind.wrap .i64 ((4 : Int) * x103)) + (2 : Int))) ∧ (IntKind.wrap .i64 ((IntKind.wrap .i64 ((4 : Int) * x103)) + (2 : Int))) < (64 : Int) ∧
                                                            (∃ w26 : World, (Instr.storeAt 5 (.pointer (some ⟨g14, 0 + Int.toNat (IntKind.wrap .i64 ((IntKind.wrap .i64 ((4 : Int) * x103)) + (2 : Int))) * 1, none⟩)) (.int .u8 (IntKind.wrap .u8 (shrI .u32 (IntKind.wrap .u32 (t108 + t111)) (16 : Int))))).run Tryz.prog w25 = .ok () w26 ∧
                                                              (0 ≤ (IntKind.wrap .i64 ((IntKind.wrap .i64 ((4 : Int) * x103)) + (3 : Int))) ∧ (IntKind.wrap .i64 ((IntKind.wrap .i64 ((4 : Int) * x103)) + (3 : Int))) < (64 : Int) ∧
                                                                (∃ w27 : World, (Instr.storeAt 5 (.pointer (some ⟨g14, 0 + Int.toNat (IntKind.wrap .i64 ((IntKind.wrap .i64 ((4 : Int) * x103)) + (3 : Int))) * 1, none⟩)) (.int .u8 (IntKind.wrap .u8 (shrI .u32 (IntKind.wrap .u32 (t108 + t111)) (24 : Int))))).run Tryz.prog w26 = .ok () w27 ∧
                                                                  (I_1 (IntKind.wrap .i64 (x103 + (1 : Int))) w27 ∧ μ_1 (IntKind.wrap .i64 (x103 + (1 : Int))) w27 < μ_1 x103 w23))))))))))))))) ∧
                                      ((decide (x103 < (16 : Int))) = false →
                                        (∃ (t140 : Array Value), (Instr.loadAt 207 (.pointer (some ⟨g14, 0, none⟩))).run Tryz.prog w23 = .ok (.agg t140) w23 ∧
                                          (∃ w28 : World, (Instr.storeAt 207 (.pointer (some ⟨g6, 0, none⟩)) (.agg t140)).run Tryz.prog w23 = .ok () w28 ∧
                                            (∃ r6 : Value, (loadVar 207 ⟨g6, 0, none⟩).run Tryz.prog w28 = .ok r6 w28 ∧
                                              (R (.returned r6) w28)))))))))))))))))))))))) : Calls Tryz.prog 171 #[(.agg a0), (.int .u32 a1), (.agg a2)] w R :=
  calls_of_ev (args := [(.agg a0), (.int .u32 a1), (.agg a2)])
    (tc := .seq (.reg (.op .bx (.op .bx (.op .bx (.nil))))) (.seq (.reg (.op (.ld (.agg)) (.op .p (.op (.ld (.agg)) (.op (.cl [.agg]) (.op .bx (.op .u (.nil)))))))) (.seq (.reg (.op (.ld (.agg)) (.op .bx (.op .u (.nil))))) (.seq (.seq (.reg (.op .p (.nil))) (.blk (.loop [9, 10, 11, 12, 13, 22, 23, 24, 25, 26, 27, 28, 29, 30, 31, 32, 33, 34, 35, 36, 37, 38, 39, 40, 41, 42, 43, 44, 45, 46, 47, 48, 49, 50, 51, 52, 53, 54, 55, 56, 57, 58, 59, 60, 61, 62, 63, 64, 65, 66, 67, 68, 69, 70, 71, 72, 73, 74, 75, 76, 77, 78, 79, 80, 81, 82, 83, 84, 85, 86, 87, 88, 89, 90, 91, 92, 93, 94, 95, 96, 97, 98, 99, 100, 101, 102] [22] [.int .i64] (.seq (.reg (.op .p (.nil))) (.seq (.cond (.leaf) (.leaf)) (.seq (.blk (.seq (.seq (.reg (.op .p (.nil))) (.blk (.loop [9, 24, 25, 26, 27, 28, 29, 30, 31, 32, 33, 34, 35, 36, 37, 38, 39, 40, 41, 42, 43, 44, 45, 46, 47, 48, 49, 50, 51, 52, 53, 54, 55, 56, 57, 58, 59] [24] [.int .i64] (.seq (.reg (.op .p (.nil))) (.seq (.cond (.leaf) (.leaf)) (.seq (.blk (.seq (.reg (.op .p (.op .p (.nil)))) (.drawS (.tk 0 .p (.tk 1 .p (.tk 2 .p (.tk 3 .p (.tk 4 .p (.tk 5 .p (.tk 6 .p (.tk 7 .p (.tk 8 .ix (.tk 10 .p (.tk 11 .p (.tk 12 .ix (.tk 14 .p (.tk 15 .p (.tk 16 .ix (.tk 18 .p (.tk 19 .p (.tk 20 .ix (.ts 9 (.int .u32) (.ts 13 (.int .u32) (.ts 17 (.int .u32) (.ts 21 (.int .u32) (.go 22 (.cl [.int .u32, .int .u32, .int .u32, .int .u32]) (.tk 23 .p (.tk 24 .p (.tk 25 .p (.tk 26 .p (.tk 27 .p (.tk 28 .ix (.go 29 .u (.tk 30 .ix (.go 31 .u (.tk 32 .ix (.go 33 .u (.tk 34 .ix (.go 35 .u (.nil))))))))))))))))))))))))))))))))))))) [0, 1, 2, 3, 4, 5, 6, 7, 8, 10, 11, 12, 14, 15, 16, 18, 19, 20, 23, 24, 25, 26, 27, 28, 29, 30, 31, 32, 33, 34, 35]))) (.reg (.op .p (.op .p (.nil)))))))))) (.seq (.reg (.op .p (.nil))) (.blk (.loop [10, 11, 12, 13, 60, 61, 62, 63, 64, 65, 66, 67, 68, 69, 70, 71, 72, 73, 74, 75, 76, 77, 78, 79, 80, 81, 82, 83, 84, 85, 86, 87, 88, 89, 90, 91, 92, 93, 94, 95, 96, 97, 98, 99, 100, 101] [60] [.int .i64] (.seq (.reg (.op .p (.nil))) (.seq (.cond (.leaf) (.leaf)) (.seq (.blk (.seq (.reg (.op .p (.op .p (.nil)))) (.seq (.reg (.op .p (.op .p (.op .p (.op .p (.op .p (.op .p (.op .p (.op .p (.op .p (.op .p (.op .p (.op .p (.op .p (.op .p (.op .p (.nil))))))))))))))))) (.drawS (.tk 0 .p (.tk 1 .p (.tk 2 .p (.tk 3 .p (.tk 4 .p (.tk 5 .ix (.tk 7 .p (.tk 8 .ix (.tk 10 .p (.tk 11 .ix (.tk 13 .p (.tk 14 .ix (.ts 6 (.int .u32) (.ts 9 (.int .u32) (.ts 12 (.int .u32) (.ts 15 (.int .u32) (.go 16 (.cl [.int .u32, .int .u32, .int .u32, .int .u32]) (.tk 17 .p (.tk 18 .p (.tk 19 .p (.tk 20 .p (.tk 21 .p (.tk 22 .ix (.go 23 .u (.tk 24 .ix (.go 25 .u (.tk 26 .ix (.go 27 .u (.tk 28 .ix (.go 29 .u (.nil))))))))))))))))))))))))))))))) [0, 1, 2, 3, 4, 5, 7, 8, 10, 11, 13, 14, 17, 18, 19, 20, 21, 22, 23, 24, 25, 26, 27, 28, 29])))) (.reg (.op .p (.op .p (.nil)))))))))))) (.reg (.op .p (.op .p (.nil)))))))))) (.seq (.reg (.op .bx (.nil))) (.seq (.seq (.reg (.op .p (.nil))) (.blk (.loop [15, 16, 103, 104, 105, 106, 107, 108, 109, 110, 111, 112, 113, 114, 115, 116, 117, 118, 119, 120, 121, 122, 123, 124, 125, 126, 127, 128, 129, 130, 131, 132, 133, 134, 135, 136, 137, 138, 139] [103] [.int .i64] (.seq (.reg (.op .p (.nil))) (.seq (.cond (.leaf) (.leaf)) (.seq (.blk (.seq (.reg (.op .p (.op .p (.nil)))) (.seq (.drawS (.tk 0 .p (.tk 1 .ix (.tk 3 .p (.tk 4 .ix (.ts 2 (.int .u32) (.ts 5 (.int .u32) (.tk 6 .p (.tk 7 .p (.nil))))))))) []) (.reg (.op .p (.op .p (.op .p (.op .p (.op .p (.op .p (.op .p (.op .p (.op .p (.op .p (.op .p (.op .p (.op .p (.op .p (.op .p (.op .p (.op .p (.op .p (.op .p (.op .p (.op .p (.op .p (.op .ix (.op .u (.op .ix (.op .u (.op .ix (.op .u (.op .ix (.op .u (.nil))))))))))))))))))))))))))))))))))) (.reg (.op .p (.op .p (.nil)))))))))) (.seq (.reg (.op (.ld (.agg)) (.op .u (.nil)))) (.leaf))))))))
    (by kernel_rfl) Tryz.func171 (by kernel_rfl) (by kernel_rfl) (by kernel_rfl) (by kernel_rfl) h

set_option maxRecDepth 100000 in
theorem chacha_seat_over_vc (a0b : Nat) (a0o : Nat) (a1 : Int) (a2a : Option Addr) (a2n : Nat) (a2c : Nat) (w : World) (R : Ending → World → Prop) (h :
  ∃ (g6 : Nat) (w1 : World), (Instr.alloc 207 true (.tuple #[])).run Tryz.prog w = .ok (.pointer (some ⟨g6, 0, none⟩)) w1 ∧
  (∃ (I : Int → Int → World → Prop) (μ : Int → Int → World → Nat), I (-1) 0 w1 ∧
    (∀ (x7 : Int) (x12 : Int), ∀ w2 : World, I x7 x12 w2 →
      (((decide (x12 < ((a2n : Nat) : Int))) = true →
          (∃ J : Int → World → Prop, ((((IntKind.wrap .i64 (Int.tdiv (IntKind.wrap .i64 (a1 + x12)) (64 : Int))) != x7) = true →
                (∃ S : World → Prop, S w2.drew ∧
                  (∃ (t25 : Array Value), (∀ w' : World, S w' → (Instr.loadAt 22 (.pointer (some ⟨a0b, a0o, none⟩))).run Tryz.prog w' = .ok (.agg t25) w') ∧
                    (∃ (t31 : Array Value), (∀ w' : World, S w' → (Instr.loadAt 187 (.pointer (some ⟨a0b, a0o + 32, none⟩))).run Tryz.prog w' = .ok (.agg t31) w') ∧
                      (Calls Tryz.prog 171 #[(.agg t25), (.int .u32 (IntKind.wrap .u32 (IntKind.wrap .i64 (Int.tdiv (IntKind.wrap .i64 (a1 + x12)) (64 : Int))))), (.agg t31)] w2.drew fun (e32 : Ending) (w3 : World) => ∃ (t32 : Array Value), e32 = .returned (.agg t32) ∧
                        (∃ S_1 : World → Prop, (∀ w' : World, S_1 w' → S w') ∧ S_1 w3 ∧
                          (∃ w4 : World, (Instr.storeAt 207 (.pointer (some ⟨g6, 0, none⟩)) (.agg t32)).run Tryz.prog w3 = .ok () w4 ∧
                            (J (IntKind.wrap .i64 (Int.tdiv (IntKind.wrap .i64 (a1 + x12)) (64 : Int))) w4)))))))) ∧
              (((IntKind.wrap .i64 (Int.tdiv (IntKind.wrap .i64 (a1 + x12)) (64 : Int))) != x7) = false →
                (J x7 w2))) ∧
            (∀ (x7_1 : Int), ∀ w5 : World, J x7_1 w5 →
              (∃ S : World → Prop, S w5.drew ∧
                (∃ (t36b t36o : Nat), a2a = some ⟨t36b, t36o, none⟩ ∧ 0 ≤ x12 ∧ x12 < ((a2n : Nat) : Int) ∧
                  (0 ≤ (Int.tmod (IntKind.wrap .i64 (a1 + x12)) (64 : Int)) ∧ (Int.tmod (IntKind.wrap .i64 (a1 + x12)) (64 : Int)) < (64 : Int) ∧
                    (∃ (t37 : Int), (∀ w' : World, S w' → (Instr.loadAt 5 (.pointer (some ⟨t36b, t36o + Int.toNat x12 * 1, none⟩))).run Tryz.prog w' = .ok (.int .u8 t37) w') ∧
                      (∃ (t43 : Int), (∀ w' : World, S w' → (Instr.loadAt 5 (.pointer (some ⟨g6, 0 + Int.toNat (Int.tmod (IntKind.wrap .i64 (a1 + x12)) (64 : Int)) * 1, none⟩))).run Tryz.prog w' = .ok (.int .u8 t43) w') ∧
                        (∃ (t45b t45o : Nat), a2a = some ⟨t45b, t45o, none⟩ ∧ 0 ≤ x12 ∧ x12 < ((a2n : Nat) : Int) ∧
                          (∃ w6 : World, (Instr.storeAt 5 (.pointer (some ⟨t45b, t45o + Int.toNat x12 * 1, none⟩)) (.int .u8 (bxor .u8 t37 t43))).run Tryz.prog w5.drew = .ok () w6 ∧
                            (I x7_1 (IntKind.wrap .i64 (x12 + (1 : Int))) w6 ∧ μ x7_1 (IntKind.wrap .i64 (x12 + (1 : Int))) w6 < μ x7 x12 w2))))))))))) ∧
        ((decide (x12 < ((a2n : Nat) : Int))) = false →
          (R (.returned (.tuple #[])) w2)))))) : Calls Tryz.prog 145 #[(.pointer (some ⟨a0b, a0o, none⟩)), (.int .i64 a1), (.slice a2a a2n a2c)] w R :=
  calls_of_ev (args := [(.pointer (some ⟨a0b, a0o, none⟩)), (.int .i64 a1), (.slice a2a a2n a2c)])
    (tc := .seq (.reg (.op .bx (.nil))) (.seq (.reg (.op .p (.nil))) (.seq (.reg (.op .p (.op .p (.op .p (.nil))))) (.blk (.loop [7, 8, 9, 12, 13, 14, 15, 16, 17, 18, 19, 20, 21, 22, 23, 24, 25, 26, 27, 28, 29, 30, 31, 32, 33, 34, 35, 36, 37, 38, 39, 40, 41, 42, 43, 44, 45, 46] [7, 12] [.int .i64, .int .i64] (.seq (.reg (.op .p (.nil))) (.seq (.cond (.leaf) (.leaf)) (.seq (.blk (.seq (.reg (.op .p (.op .p (.nil)))) (.seq (.seq (.reg (.op .p (.op .p (.op .p (.op .p (.op .p (.nil))))))) (.seq (.reg (.op .p (.op .p (.op .p (.nil))))) (.join [7, 22, 23, 24, 25, 26, 27, 28, 29, 30, 31, 32, 33] [7] [.int .i64] (.cond (.drawS (.tk 0 .p (.tk 1 .p (.tk 2 .p (.tk 4 .p (.tk 5 .p (.tk 6 .p (.tk 7 .p (.tk 8 .p (.tk 11 .p (.ts 3 (.agg) (.ts 9 (.agg) (.go 10 (.cl [.agg]) (.go 12 .u (.tk 13 .p (.nil))))))))))))))) [0, 1, 2, 4, 5, 6, 7, 8, 11, 12, 13]) (.leaf))))) (.drawS (.tk 0 .p (.tk 1 .p (.tk 2 .ix (.tk 4 .p (.tk 5 .p (.tk 6 .p (.tk 7 .p (.tk 8 .ix (.ts 3 (.int .u8) (.ts 9 (.int .u8) (.tk 10 .p (.tk 11 .ix (.go 12 .u (.nil)))))))))))))) [12])))) (.reg (.op .p (.op .p (.nil))))))))))))
    (by kernel_rfl) Tryz.func145 (by kernel_rfl) (by kernel_rfl) (by kernel_rfl) (by kernel_rfl) h

set_option maxRecDepth 100000 in
theorem chacha_room_vc (a0 : Int) (a1 : Int) (w : World) (R : Ending → World → Prop) (h :
  R (.returned (.bool (((decide (a0 ≥ (0 : Int))) && (decide (a0 ≤ (274877906944 : Int)))) && (decide (a1 ≤ (IntKind.wrap .i64 ((274877906944 : Int) - a0))))))) w) : Calls Tryz.prog 144 #[(.int .i64 a0), (.int .i64 a1)] w R :=
  calls_of_ev (args := [(.int .i64 a0), (.int .i64 a1)])
    (tc := .seq (.reg (.op .p (.nil))) (.seq (.reg (.op .p (.op .p (.op .p (.ap 2 (.op .p (.ap 4 (.op .p (.nil))))))))) (.leaf)))
    (by kernel_rfl) Tryz.func144 (by kernel_rfl) (by kernel_rfl) (by kernel_rfl) (by kernel_rfl) h

set_option maxRecDepth 100000 in
theorem chacha_XOR_vc (a0 : Array Value) (a1 : Array Value) (a2 : Int) (a3a : Option Addr) (a3n : Nat) (a3c : Nat) (w : World) (R : Ending → World → Prop) (h :
  ∃ (g4 : Nat) (w1 : World), (Instr.box 22 (.agg a0)).run Tryz.prog w = .ok (.pointer (some ⟨g4, 0, none⟩)) w1 ∧
  (∃ (g5 : Nat) (w2 : World), (Instr.box 187 (.agg a1)).run Tryz.prog w1 = .ok (.pointer (some ⟨g5, 0, none⟩)) w2 ∧
    (Calls Tryz.prog 144 #[(.int .i64 a2), (.int .i64 ((a3n : Nat) : Int))] w2 fun (e14 : Ending) (w3 : World) => ∃ (t14 : Bool), e14 = .returned (.bool t14) ∧
      (((!t14) = true →
          (R (.returned (.tuple #[(.slice none 0 0), (.iface 69 (.int .i64 8))])) w3)) ∧
        ((!t14) = false →
          (∃ (t19a : Option Addr) (t19n : Nat) (t19c : Nat) (w4 : World), (Instr.makeSlice 33 (.int .i64 0) (.int .i64 ((a3n : Nat) : Int))).run Tryz.prog w3 = .ok (.slice t19a t19n t19c) w4 ∧
            (∃ (t21a : Option Addr) (t21n : Nat) (t21c : Nat) (w5 : World), (Builtin.append_ #[33, 33] 33 #[(.slice t19a t19n t19c), (.slice a3a a3n a3c)]).run Tryz.prog w4 = .ok (.slice t21a t21n t21c) w5 ∧
              (∃ (t22 : Array Value), (Instr.loadAt 22 (.pointer (some ⟨g4, 0, none⟩))).run Tryz.prog w5 = .ok (.agg t22) w5 ∧
                (∃ (t23 : Array Value), (Instr.loadAt 187 (.pointer (some ⟨g5, 0, none⟩))).run Tryz.prog w5 = .ok (.agg t23) w5 ∧
                  (∃ (t24 : Array Value), (Instr.build 230 #[(0, (.agg t22)), (1, (.agg t23))]).run Tryz.prog w5 = .ok (.agg t24) w5 ∧
                    (∃ (g25 : Nat) (w6 : World), (Instr.box 230 (.agg t24)).run Tryz.prog w5 = .ok (.pointer (some ⟨g25, 0, none⟩)) w6 ∧
                      (Calls Tryz.prog 145 #[(.pointer (some ⟨g25, 0, none⟩)), (.int .i64 a2), (.slice t21a t21n t21c)] w6 fun (e28 : Ending) (w7 : World) => e28 = .returned (.tuple #[]) ∧
                        (R (.returned (.tuple #[(.slice t21a t21n t21c), .nilIface])) w7))))))))))))) : Calls Tryz.prog 122 #[(.agg a0), (.agg a1), (.int .i64 a2), (.slice a3a a3n a3c)] w R :=
  calls_of_ev (args := [(.agg a0), (.agg a1), (.int .i64 a2), (.slice a3a a3n a3c)])
    (tc := .seq (.reg (.op .bx (.op .bx (.op .p (.op .p (.nil)))))) (.seq (.seq (.reg (.op .p (.op .p (.op .p (.op (.cl [.bool]) (.op .p (.nil))))))) (.cond (.seq (.reg (.op .p (.op .p (.op .p (.nil))))) (.leaf)) (.leaf))) (.seq (.reg (.op .p (.op .p (.op (.r (.slice)) (.op .p (.op (.r (.slice)) (.op .p (.nil)))))))) (.seq (.reg (.op (.ld (.agg)) (.op (.ld (.agg)) (.op (.ld (.agg)) (.op .bx (.op .p (.op .p (.op (.cl []) (.nil))))))))) (.seq (.reg (.op .p (.op .p (.op .p (.nil))))) (.leaf))))))
    (by kernel_rfl) Tryz.func122 (by kernel_rfl) (by kernel_rfl) (by kernel_rfl) (by kernel_rfl) h

set_option maxRecDepth 100000 in
theorem amphoraref03_left_vc (a0 : Int) (a1 : Int) (w : World) (R : Ending → World → Prop) (h :
  0 ≤ a1 ∧
  (0 ≤ (IntKind.wrap .u64 ((32 : Int) - a1)) ∧
    (R (.returned (.int .u32 (bor .u32 (shlI .u32 a0 a1) (shrI .u32 a0 (IntKind.wrap .u64 ((32 : Int) - a1)))))) w))) : Calls Tryz.prog 172 #[(.int .u32 a0), (.int .u64 a1)] w R :=
  calls_of_ev (args := [(.int .u32 a0), (.int .u64 a1)])
    (tc := .seq (.reg (.op .p (.nil))) (.seq (.reg (.op .p (.op .p (.op .sc (.op .p (.op .p (.op .p (.op .sc (.op .p (.op .p (.nil))))))))))) (.leaf)))
    (by kernel_rfl) Tryz.func172 (by kernel_rfl) (by kernel_rfl) (by kernel_rfl) (by kernel_rfl) h

set_option maxRecDepth 100000 in
theorem amphoraref03_round_vc (a0b : Nat) (a0o : Nat) (a1 : Int) (a2 : Int) (a3 : Int) (a4 : Int) (w : World) (R : Ending → World → Prop) (h :
  ∃ S : World → Prop, S w.drew ∧
  (0 ≤ a1 ∧ a1 < (16 : Int) ∧
    (0 ≤ a2 ∧ a2 < (16 : Int) ∧
      (∃ (t16 : Int), (∀ w' : World, S w' → (Instr.loadAt 209 (.pointer (some ⟨a0b, a0o + Int.toNat a1 * 1, none⟩))).run Tryz.prog w' = .ok (.int .u32 t16) w') ∧
        (∃ (t21 : Int), (∀ w' : World, S w' → (Instr.loadAt 209 (.pointer (some ⟨a0b, a0o + Int.toNat a2 * 1, none⟩))).run Tryz.prog w' = .ok (.int .u32 t21) w') ∧
          (0 ≤ a1 ∧ a1 < (16 : Int) ∧
            (∃ w1 : World, (Instr.storeAt 209 (.pointer (some ⟨a0b, a0o + Int.toNat a1 * 1, none⟩)) (.int .u32 (IntKind.wrap .u32 (t16 + t21)))).run Tryz.prog w.drew = .ok () w1 ∧
              (∃ S_1 : World → Prop, S_1 w1.drew ∧
                (0 ≤ a4 ∧ a4 < (16 : Int) ∧
                  (0 ≤ a1 ∧ a1 < (16 : Int) ∧
                    (∃ (t31 : Int), (∀ w' : World, S_1 w' → (Instr.loadAt 209 (.pointer (some ⟨a0b, a0o + Int.toNat a4 * 1, none⟩))).run Tryz.prog w' = .ok (.int .u32 t31) w') ∧
                      (∃ (t36 : Int), (∀ w' : World, S_1 w' → (Instr.loadAt 209 (.pointer (some ⟨a0b, a0o + Int.toNat a1 * 1, none⟩))).run Tryz.prog w' = .ok (.int .u32 t36) w') ∧
                        (Calls Tryz.prog 172 #[(.int .u32 (bxor .u32 t31 t36)), (.int .u64 16)] w1.drew fun (e38 : Ending) (w2 : World) => ∃ (t38 : Int), e38 = .returned (.int .u32 t38) ∧
                          (∃ S_2 : World → Prop, (∀ w' : World, S_2 w' → S_1 w') ∧ S_2 w2 ∧
                            (0 ≤ a4 ∧ a4 < (16 : Int) ∧
                              (∃ w3 : World, (Instr.storeAt 209 (.pointer (some ⟨a0b, a0o + Int.toNat a4 * 1, none⟩)) (.int .u32 t38)).run Tryz.prog w2 = .ok () w3 ∧
                                (∃ S_3 : World → Prop, S_3 w3.drew ∧
                                  (0 ≤ a3 ∧ a3 < (16 : Int) ∧
                                    (0 ≤ a4 ∧ a4 < (16 : Int) ∧
                                      (∃ (t47 : Int), (∀ w' : World, S_3 w' → (Instr.loadAt 209 (.pointer (some ⟨a0b, a0o + Int.toNat a3 * 1, none⟩))).run Tryz.prog w' = .ok (.int .u32 t47) w') ∧
                                        (∃ (t52 : Int), (∀ w' : World, S_3 w' → (Instr.loadAt 209 (.pointer (some ⟨a0b, a0o + Int.toNat a4 * 1, none⟩))).run Tryz.prog w' = .ok (.int .u32 t52) w') ∧
                                          (0 ≤ a3 ∧ a3 < (16 : Int) ∧
                                            (∃ w4 : World, (Instr.storeAt 209 (.pointer (some ⟨a0b, a0o + Int.toNat a3 * 1, none⟩)) (.int .u32 (IntKind.wrap .u32 (t47 + t52)))).run Tryz.prog w3.drew = .ok () w4 ∧
                                              (∃ S_4 : World → Prop, S_4 w4.drew ∧
                                                (0 ≤ a2 ∧ a2 < (16 : Int) ∧
                                                  (0 ≤ a3 ∧ a3 < (16 : Int) ∧
                                                    (∃ (t62 : Int), (∀ w' : World, S_4 w' → (Instr.loadAt 209 (.pointer (some ⟨a0b, a0o + Int.toNat a2 * 1, none⟩))).run Tryz.prog w' = .ok (.int .u32 t62) w') ∧
                                                      (∃ (t67 : Int), (∀ w' : World, S_4 w' → (Instr.loadAt 209 (.pointer (some ⟨a0b, a0o + Int.toNat a3 * 1, none⟩))).run Tryz.prog w' = .ok (.int .u32 t67) w') ∧
                                                        (Calls Tryz.prog 172 #[(.int .u32 (bxor .u32 t62 t67)), (.int .u64 12)] w4.drew fun (e69 : Ending) (w5 : World) => ∃ (t69 : Int), e69 = .returned (.int .u32 t69) ∧
                                                          (∃ S_5 : World → Prop, (∀ w' : World, S_5 w' → S_4 w') ∧ S_5 w5 ∧
                                                            (0 ≤ a2 ∧ a2 < (16 : Int) ∧
                                                              (∃ w6 : World, (Instr.storeAt 209 (.pointer (some ⟨a0b, a0o + Int.toNat a2 * 1, none⟩)) (.int .u32 t69)).run Tryz.prog w5 = .ok () w6 ∧
                                                                (∃ S_6 : World → Prop, S_6 w6.drew ∧
                                                                  (0 ≤ a1 ∧ a1 < (16 : Int) ∧
                                                                    (0 ≤ a2 ∧ a2 < (16 : Int) ∧
                                                                      (∃ (t78 : Int), (∀ w' : World, S_6 w' → (Instr.loadAt 209 (.pointer (some ⟨a0b, a0o + Int.toNat a1 * 1, none⟩))).run Tryz.prog w' = .ok (.int .u32 t78) w') ∧
                                                                        (∃ (t83 : Int), (∀ w' : World, S_6 w' → (Instr.loadAt 209 (.pointer (some ⟨a0b, a0o + Int.toNat a2 * 1, none⟩))).run Tryz.prog w' = .ok (.int .u32 t83) w') ∧
                                                                          (0 ≤ a1 ∧ a1 < (16 : Int) ∧
                                                                            (∃ w7 : World, (Instr.storeAt 209 (.pointer (some ⟨a0b, a0o + Int.toNat a1 * 1, none⟩)) (.int .u32 (IntKind.wrap .u32 (t78 + t83)))).run Tryz.prog w6.drew = .ok () w7 ∧
                                                                              (∃ S_7 : World → Prop, S_7 w7.drew ∧
                                                                                (0 ≤ a4 ∧ a4 < (16 : Int) ∧
                                                                                (0 ≤ a1 ∧ a1 < (16 : Int) ∧
                                                                                (∃ (t93 : Int), (∀ w' : World, S_7 w' → (Instr.loadAt 209 (.pointer (some ⟨a0b, a0o + Int.toNat a4 * 1, none⟩))).run Tryz.prog w' = .ok (.int .u32 t93) w') ∧
                                                                                (∃ (t98 : Int), (∀ w' : World, S_7 w' → (Instr.loadAt 209 (.pointer (some ⟨a0b, a0o + Int.toNat a1 * 1, none⟩))).run Tryz.prog w' = .ok (.int .u32 t98) w') ∧
                                                                                (Calls Tryz.prog 172 #[(.int .u32 (bxor .u32 t93 t98)), (.int .u64 8)] w7.drew fun (e100 : Ending) (w8 : World) => ∃ (t100 : Int), e100 = .returned (.int .u32 t100) ∧
                                                                                (∃ S_8 : World → Prop, (∀ w' : World, S_8 w' → S_7 w') ∧ S_8 w8 ∧
                                                                                (0 ≤ a4 ∧ a4 < (16 : Int) ∧
                                                                                (∃ w9 : World, (Instr.storeAt 209 (.pointer (some ⟨a0b, a0o + Int.toNat a4 * 1, none⟩)) (.int .u32 t100)).run Tryz.prog w8 = .ok () w9 ∧
                                                                                (∃ S_9 : World → Prop, S_9 w9.drew ∧
                                                                                (0 ≤ a3 ∧ a3 < (16 : Int) ∧
                                                                                (0 ≤ a4 ∧ a4 < (16 : Int) ∧
                                                                                (∃ (t109 : Int), (∀ w' : World, S_9 w' → (Instr.loadAt 209 (.pointer (some ⟨a0b, a0o + Int.toNat a3 * 1, none⟩))).run Tryz.prog w' = .ok (.int .u32 t109) w') ∧
                                                                                (∃ (t114 : Int), (∀ w' : World, S_9 w' → (Instr.loadAt 209 (.pointer (some ⟨a0b, a0o + Int.toNat a4 * 1, none⟩))).run Tryz.prog w' = .ok (.int .u32 t114) w') ∧
                                                                                (0 ≤ a3 ∧ a3 < (16 : Int) ∧
                                                                                (∃ w10 : World, (Instr.storeAt 209 (.pointer (some ⟨a0b, a0o + Int.toNat a3 * 1, none⟩)) (.int .u32 (IntKind.wrap .u32 (t109 + t114)))).run Tryz.prog w9.drew = .ok () w10 ∧
                                                                                (∃ S_10 : World → Prop, S_10 w10.drew ∧
                                                                                (0 ≤ a2 ∧ a2 < (16 : Int) ∧
                                                                                (0 ≤ a3 ∧ a3 < (16 : Int) ∧
                                                                                (∃ (t124 : Int), (∀ w' : World, S_10 w' → (Instr.loadAt 209 (.pointer (some ⟨a0b, a0o + Int.toNat a2 * 1, none⟩))).run Tryz.prog w' = .ok (.int .u32 t124) w') ∧
                                                                                (∃ (t129 : Int), (∀ w' : World, S_10 w' → (Instr.loadAt 209 (.pointer (some ⟨a0b, a0o + Int.toNat a3 * 1, none⟩))).run Tryz.prog w' = .ok (.int .u32 t129) w') ∧
                                                                                (Calls Tryz.prog 172 #[(.int .u32 (bxor .u32 t124 t129)), (.int .u64 7)] w10.drew fun (e131 : Ending) (w11 : World) => ∃ (t131 : Int), e131 = .returned (.int .u32 t131) ∧
                                                                                (∃ S_11 : World → Prop, (∀ w' : World, S_11 w' → S_10 w') ∧ S_11 w11 ∧
                                                                                (0 ≤ a2 ∧ a2 < (16 : Int) ∧
                                                                                (∃ w12 : World, (Instr.storeAt 209 (.pointer (some ⟨a0b, a0o + Int.toNat a2 * 1, none⟩)) (.int .u32 t131)).run Tryz.prog w11 = .ok () w12 ∧
                                                                                (R (.returned (.tuple #[])) w12))))))))))))))))))))))))))))))))))))))))))))))))))))))))))))))))) : Calls Tryz.prog 148 #[(.pointer (some ⟨a0b, a0o, none⟩)), (.int .i64 a1), (.int .i64 a2), (.int .i64 a3), (.int .i64 a4)] w R :=
  calls_of_ev (args := [(.pointer (some ⟨a0b, a0o, none⟩)), (.int .i64 a1), (.int .i64 a2), (.int .i64 a3), (.int .i64 a4)])
    (tc := .seq (.drawS (.tk 0 .p (.tk 1 .p (.tk 2 .p (.tk 3 .p (.tk 4 .p (.tk 5 .ix (.tk 7 .p (.tk 8 .p (.tk 9 .p (.tk 10 .ix (.tk 13 .p (.ts 6 (.int .u32) (.ts 11 (.int .u32) (.tk 12 .p (.tk 14 .ix (.go 15 .u (.nil))))))))))))))))) [15]) (.seq (.drawS (.tk 0 .p (.tk 1 .p (.tk 2 .p (.tk 3 .p (.tk 4 .p (.tk 5 .ix (.tk 7 .p (.tk 8 .p (.tk 9 .p (.tk 10 .ix (.tk 14 .p (.ts 6 (.int .u32) (.ts 11 (.int .u32) (.tk 12 .p (.go 13 (.cl [.int .u32]) (.tk 15 .ix (.go 16 .u (.nil)))))))))))))))))) [16]) (.seq (.drawS (.tk 0 .p (.tk 1 .p (.tk 2 .p (.tk 3 .p (.tk 4 .p (.tk 5 .ix (.tk 7 .p (.tk 8 .p (.tk 9 .p (.tk 10 .ix (.tk 13 .p (.ts 6 (.int .u32) (.ts 11 (.int .u32) (.tk 12 .p (.tk 14 .ix (.go 15 .u (.nil))))))))))))))))) [15]) (.seq (.drawS (.tk 0 .p (.tk 1 .p (.tk 2 .p (.tk 3 .p (.tk 4 .p (.tk 5 .ix (.tk 7 .p (.tk 8 .p (.tk 9 .p (.tk 10 .ix (.tk 14 .p (.ts 6 (.int .u32) (.ts 11 (.int .u32) (.tk 12 .p (.go 13 (.cl [.int .u32]) (.tk 15 .ix (.go 16 .u (.nil)))))))))))))))))) [16]) (.seq (.drawS (.tk 0 .p (.tk 1 .p (.tk 2 .p (.tk 3 .p (.tk 4 .p (.tk 5 .ix (.tk 7 .p (.tk 8 .p (.tk 9 .p (.tk 10 .ix (.tk 13 .p (.ts 6 (.int .u32) (.ts 11 (.int .u32) (.tk 12 .p (.tk 14 .ix (.go 15 .u (.nil))))))))))))))))) [15]) (.seq (.drawS (.tk 0 .p (.tk 1 .p (.tk 2 .p (.tk 3 .p (.tk 4 .p (.tk 5 .ix (.tk 7 .p (.tk 8 .p (.tk 9 .p (.tk 10 .ix (.tk 14 .p (.ts 6 (.int .u32) (.ts 11 (.int .u32) (.tk 12 .p (.go 13 (.cl [.int .u32]) (.tk 15 .ix (.go 16 .u (.nil)))))))))))))))))) [16]) (.seq (.drawS (.tk 0 .p (.tk 1 .p (.tk 2 .p (.tk 3 .p (.tk 4 .p (.tk 5 .ix (.tk 7 .p (.tk 8 .p (.tk 9 .p (.tk 10 .ix (.tk 13 .p (.ts 6 (.int .u32) (.ts 11 (.int .u32) (.tk 12 .p (.tk 14 .ix (.go 15 .u (.nil))))))))))))))))) [15]) (.drawS (.tk 0 .p (.tk 1 .p (.tk 2 .p (.tk 3 .p (.tk 4 .p (.tk 5 .ix (.tk 7 .p (.tk 8 .p (.tk 9 .p (.tk 10 .ix (.tk 14 .p (.ts 6 (.int .u32) (.ts 11 (.int .u32) (.tk 12 .p (.go 13 (.cl [.int .u32]) (.tk 15 .ix (.go 16 .u (.nil)))))))))))))))))) [16]))))))))
    (by kernel_rfl) Tryz.func148 (by kernel_rfl) (by kernel_rfl) (by kernel_rfl) (by kernel_rfl) h

set_option maxRecDepth 100000 in
theorem amphoraref03_Block_vc (a0 : Array Value) (a1 : Int) (a2 : Array Value) (w : World) (R : Ending → World → Prop) (h :
  ∃ (g3 : Nat) (w1 : World), (Instr.box 22 (.agg a0)).run Tryz.prog w = .ok (.pointer (some ⟨g3, 0, none⟩)) w1 ∧
  (∃ (g5 : Nat) (w2 : World), (Instr.box 187 (.agg a2)).run Tryz.prog w1 = .ok (.pointer (some ⟨g5, 0, none⟩)) w2 ∧
    (∃ (g6 : Nat) (w3 : World), (Instr.alloc 207 true (.tuple #[])).run Tryz.prog w2 = .ok (.pointer (some ⟨g6, 0, none⟩)) w3 ∧
      (∃ (t15 : Array Value), (Instr.build 235 #[]).run Tryz.prog w3 = .ok (.agg t15) w3 ∧
        (∃ (g7 : Nat) (w4 : World), (Instr.alloc 235 true (.tuple #[])).run Tryz.prog w3 = .ok (.pointer (some ⟨g7, 0, none⟩)) w4 ∧
          (∃ w5 : World, (Instr.storeAt 235 (.pointer (some ⟨g7, 0, none⟩)) (.agg t15)).run Tryz.prog w4 = .ok () w5 ∧
            (∃ w6 : World, (Instr.storeAt 209 (.pointer (some ⟨g7, 0, none⟩)) (.int .u32 1634760805)).run Tryz.prog w5 = .ok () w6 ∧
              (∃ w7 : World, (Instr.storeAt 209 (.pointer (some ⟨g7, 1, none⟩)) (.int .u32 857760878)).run Tryz.prog w6 = .ok () w7 ∧
                (∃ w8 : World, (Instr.storeAt 209 (.pointer (some ⟨g7, 2, none⟩)) (.int .u32 2036477234)).run Tryz.prog w7 = .ok () w8 ∧
                  (∃ w9 : World, (Instr.storeAt 209 (.pointer (some ⟨g7, 3, none⟩)) (.int .u32 1797285236)).run Tryz.prog w8 = .ok () w9 ∧
                    (∃ w10 : World, (Instr.storeAt 209 (.pointer (some ⟨g7, 12, none⟩)) (.int .u32 a1)).run Tryz.prog w9 = .ok () w10 ∧
                      (∃ (I : Int → World → Prop) (μ : Int → World → Nat), I 0 w10 ∧
                        (∀ (x8 : Int), ∀ w11 : World, I x8 w11 →
                          (((decide (x8 < (32 : Int))) = true →
                              (∃ S : World → Prop, S w11.drew ∧
                                (0 ≤ (IntKind.wrap .i64 ((4 : Int) + (IntKind.wrap .i64 (Int.tdiv x8 (4 : Int))))) ∧ (IntKind.wrap .i64 ((4 : Int) + (IntKind.wrap .i64 (Int.tdiv x8 (4 : Int))))) < (16 : Int) ∧
                                  (0 ≤ x8 ∧ x8 < (32 : Int) ∧
                                    (∃ (t33 : Int), (∀ w' : World, S w' → (Instr.loadAt 209 (.pointer (some ⟨g7, 0 + Int.toNat (IntKind.wrap .i64 ((4 : Int) + (IntKind.wrap .i64 (Int.tdiv x8 (4 : Int))))) * 1, none⟩))).run Tryz.prog w' = .ok (.int .u32 t33) w') ∧
                                      (∃ (t36 : Int), (∀ w' : World, S w' → (Instr.loadAt 5 (.pointer (some ⟨g3, 0 + Int.toNat x8 * 1, none⟩))).run Tryz.prog w' = .ok (.int .u8 t36) w') ∧
                                        (0 ≤ (IntKind.wrap .u64 ((8 : Int) * (IntKind.wrap .u64 (Int.tmod x8 (4 : Int))))) ∧
                                          (0 ≤ (IntKind.wrap .i64 ((4 : Int) + (IntKind.wrap .i64 (Int.tdiv x8 (4 : Int))))) ∧ (IntKind.wrap .i64 ((4 : Int) + (IntKind.wrap .i64 (Int.tdiv x8 (4 : Int))))) < (16 : Int) ∧
                                            (∃ w12 : World, (Instr.storeAt 209 (.pointer (some ⟨g7, 0 + Int.toNat (IntKind.wrap .i64 ((4 : Int) + (IntKind.wrap .i64 (Int.tdiv x8 (4 : Int))))) * 1, none⟩)) (.int .u32 (bor .u32 t33 (shlI .u32 (IntKind.wrap .u32 t36) (IntKind.wrap .u64 ((8 : Int) * (IntKind.wrap .u64 (Int.tmod x8 (4 : Int))))))))).run Tryz.prog w11.drew = .ok () w12 ∧
                                              (I (IntKind.wrap .i64 (x8 + (1 : Int))) w12 ∧ μ (IntKind.wrap .i64 (x8 + (1 : Int))) w12 < μ x8 w11)))))))))) ∧
                            ((decide (x8 < (32 : Int))) = false →
                              (∃ (I_1 : Int → World → Prop) (μ_1 : Int → World → Nat), I_1 0 w11 ∧
                                (∀ (x9 : Int), ∀ w13 : World, I_1 x9 w13 →
                                  (((decide (x9 < (12 : Int))) = true →
                                      (∃ S : World → Prop, S w13.drew ∧
                                        (0 ≤ (IntKind.wrap .i64 ((13 : Int) + (IntKind.wrap .i64 (Int.tdiv x9 (4 : Int))))) ∧ (IntKind.wrap .i64 ((13 : Int) + (IntKind.wrap .i64 (Int.tdiv x9 (4 : Int))))) < (16 : Int) ∧
                                          (0 ≤ x9 ∧ x9 < (12 : Int) ∧
                                            (∃ (t56 : Int), (∀ w' : World, S w' → (Instr.loadAt 209 (.pointer (some ⟨g7, 0 + Int.toNat (IntKind.wrap .i64 ((13 : Int) + (IntKind.wrap .i64 (Int.tdiv x9 (4 : Int))))) * 1, none⟩))).run Tryz.prog w' = .ok (.int .u32 t56) w') ∧
                                              (∃ (t59 : Int), (∀ w' : World, S w' → (Instr.loadAt 5 (.pointer (some ⟨g5, 0 + Int.toNat x9 * 1, none⟩))).run Tryz.prog w' = .ok (.int .u8 t59) w') ∧
                                                (0 ≤ (IntKind.wrap .u64 ((8 : Int) * (IntKind.wrap .u64 (Int.tmod x9 (4 : Int))))) ∧
                                                  (0 ≤ (IntKind.wrap .i64 ((13 : Int) + (IntKind.wrap .i64 (Int.tdiv x9 (4 : Int))))) ∧ (IntKind.wrap .i64 ((13 : Int) + (IntKind.wrap .i64 (Int.tdiv x9 (4 : Int))))) < (16 : Int) ∧
                                                    (∃ w14 : World, (Instr.storeAt 209 (.pointer (some ⟨g7, 0 + Int.toNat (IntKind.wrap .i64 ((13 : Int) + (IntKind.wrap .i64 (Int.tdiv x9 (4 : Int))))) * 1, none⟩)) (.int .u32 (bor .u32 t56 (shlI .u32 (IntKind.wrap .u32 t59) (IntKind.wrap .u64 ((8 : Int) * (IntKind.wrap .u64 (Int.tmod x9 (4 : Int))))))))).run Tryz.prog w13.drew = .ok () w14 ∧
                                                      (I_1 (IntKind.wrap .i64 (x9 + (1 : Int))) w14 ∧ μ_1 (IntKind.wrap .i64 (x9 + (1 : Int))) w14 < μ_1 x9 w13)))))))))) ∧
                                    ((decide (x9 < (12 : Int))) = false →
                                      (∃ (t68 : Array Value), (Instr.loadAt 235 (.pointer (some ⟨g7, 0, none⟩))).run Tryz.prog w13 = .ok (.agg t68) w13 ∧
                                        (∃ (g10 : Nat) (w15 : World), (Instr.alloc 235 true (.tuple #[])).run Tryz.prog w13 = .ok (.pointer (some ⟨g10, 0, none⟩)) w15 ∧
                                          (∃ w16 : World, (Instr.storeAt 235 (.pointer (some ⟨g10, 0, none⟩)) (.agg t68)).run Tryz.prog w15 = .ok () w16 ∧
                                            (∃ (I_2 : Int → World → Prop) (μ_2 : Int → World → Nat), I_2 0 w16 ∧
                                              (∀ (x11 : Int), ∀ w17 : World, I_2 x11 w17 →
                                                (((decide (x11 < (10 : Int))) = true →
                                                    (Calls Tryz.prog 148 #[(.pointer (some ⟨g10, 0, none⟩)), (.int .i64 0), (.int .i64 4), (.int .i64 8), (.int .i64 12)] w17 fun (e73 : Ending) (w18 : World) => e73 = .returned (.tuple #[]) ∧
                                                      (Calls Tryz.prog 148 #[(.pointer (some ⟨g10, 0, none⟩)), (.int .i64 1), (.int .i64 5), (.int .i64 9), (.int .i64 13)] w18 fun (e74 : Ending) (w19 : World) => e74 = .returned (.tuple #[]) ∧
                                                        (Calls Tryz.prog 148 #[(.pointer (some ⟨g10, 0, none⟩)), (.int .i64 2), (.int .i64 6), (.int .i64 10), (.int .i64 14)] w19 fun (e75 : Ending) (w20 : World) => e75 = .returned (.tuple #[]) ∧
                                                          (Calls Tryz.prog 148 #[(.pointer (some ⟨g10, 0, none⟩)), (.int .i64 3), (.int .i64 7), (.int .i64 11), (.int .i64 15)] w20 fun (e76 : Ending) (w21 : World) => e76 = .returned (.tuple #[]) ∧
                                                            (Calls Tryz.prog 148 #[(.pointer (some ⟨g10, 0, none⟩)), (.int .i64 0), (.int .i64 5), (.int .i64 10), (.int .i64 15)] w21 fun (e77 : Ending) (w22 : World) => e77 = .returned (.tuple #[]) ∧
                                                              (Calls Tryz.prog 148 #[(.pointer (some ⟨g10, 0, none⟩)), (.int .i64 1), (.int .i64 6), (.int .i64 11), (.int .i64 12)] w22 fun (e78 : Ending) (w23 : World) => e78 = .returned (.tuple #[]) ∧
                                                                (Calls Tryz.prog 148 #[(.pointer (some ⟨g10, 0, none⟩)), (.int .i64 2), (.int .i64 7), (.int .i64 8), (.int .i64 13)] w23 fun (e79 : Ending) (w24 : World) => e79 = .returned (.tuple #[]) ∧
                                                                  (Calls Tryz.prog 148 #[(.pointer (some ⟨g10, 0, none⟩)), (.int .i64 3), (.int .i64 4), (.int .i64 9), (.int .i64 14)] w24 fun (e80 : Ending) (w25 : World) => e80 = .returned (.tuple #[]) ∧
                                                                    (I_2 (IntKind.wrap .i64 (x11 + (1 : Int))) w25 ∧ μ_2 (IntKind.wrap .i64 (x11 + (1 : Int))) w25 < μ_2 x11 w17)))))))))) ∧
                                                  ((decide (x11 < (10 : Int))) = false →
                                                    (∃ (t81 : Array Value), (Instr.build 207 #[]).run Tryz.prog w17 = .ok (.agg t81) w17 ∧
                                                      (∃ (g12 : Nat) (w26 : World), (Instr.alloc 207 true (.tuple #[])).run Tryz.prog w17 = .ok (.pointer (some ⟨g12, 0, none⟩)) w26 ∧
                                                        (∃ w27 : World, (Instr.storeAt 207 (.pointer (some ⟨g12, 0, none⟩)) (.agg t81)).run Tryz.prog w26 = .ok () w27 ∧
                                                          (∃ (I_3 : Int → World → Prop) (μ_3 : Int → World → Nat), I_3 0 w27 ∧
                                                            (∀ (x13 : Int), ∀ w28 : World, I_3 x13 w28 →
                                                              (((decide (x13 < (64 : Int))) = true →
                                                                  (∃ S : World → Prop, S w28.drew ∧
                                                                    (0 ≤ (IntKind.wrap .i64 (Int.tdiv x13 (4 : Int))) ∧ (IntKind.wrap .i64 (Int.tdiv x13 (4 : Int))) < (16 : Int) ∧
                                                                      (0 ≤ (IntKind.wrap .i64 (Int.tdiv x13 (4 : Int))) ∧ (IntKind.wrap .i64 (Int.tdiv x13 (4 : Int))) < (16 : Int) ∧
                                                                        (∃ (t89 : Int), (∀ w' : World, S w' → (Instr.loadAt 209 (.pointer (some ⟨g7, 0 + Int.toNat (IntKind.wrap .i64 (Int.tdiv x13 (4 : Int))) * 1, none⟩))).run Tryz.prog w' = .ok (.int .u32 t89) w') ∧
                                                                          (∃ (t93 : Int), (∀ w' : World, S w' → (Instr.loadAt 209 (.pointer (some ⟨g10, 0 + Int.toNat (IntKind.wrap .i64 (Int.tdiv x13 (4 : Int))) * 1, none⟩))).run Tryz.prog w' = .ok (.int .u32 t93) w') ∧
                                                                            (0 ≤ (IntKind.wrap .u64 ((8 : Int) * (IntKind.wrap .u64 (Int.tmod x13 (4 : Int))))) ∧
                                                                              (0 ≤ x13 ∧ x13 < (64 : Int) ∧
                                                                                (∃ w29 : World, (Instr.storeAt 5 (.pointer (some ⟨g12, 0 + Int.toNat x13 * 1, none⟩)) (.int .u8 (IntKind.wrap .u8 (shrI .u32 (IntKind.wrap .u32 (t89 + t93)) (IntKind.wrap .u64 ((8 : Int) * (IntKind.wrap .u64 (Int.tmod x13 (4 : Int))))))))).run Tryz.prog w28.drew = .ok () w29 ∧
                                                                                (I_3 (IntKind.wrap .i64 (x13 + (1 : Int))) w29 ∧ μ_3 (IntKind.wrap .i64 (x13 + (1 : Int))) w29 < μ_3 x13 w28)))))))))) ∧
                                                                ((decide (x13 < (64 : Int))) = false →
                                                                  (∃ (t104 : Array Value), (Instr.loadAt 207 (.pointer (some ⟨g12, 0, none⟩))).run Tryz.prog w28 = .ok (.agg t104) w28 ∧
                                                                    (∃ w30 : World, (Instr.storeAt 207 (.pointer (some ⟨g6, 0, none⟩)) (.agg t104)).run Tryz.prog w28 = .ok () w30 ∧
                                                                      (∃ r6 : Value, (loadVar 207 ⟨g6, 0, none⟩).run Tryz.prog w30 = .ok r6 w30 ∧
                                                                        (R (.returned r6) w30))))))))))))))))))))))))))))))))))))) : Calls Tryz.prog 127 #[(.agg a0), (.int .u32 a1), (.agg a2)] w R :=
  calls_of_ev (args := [(.agg a0), (.int .u32 a1), (.agg a2)])
    (tc := .seq (.reg (.op .bx (.op .bx (.op .bx (.nil))))) (.seq (.reg (.op (.ld (.agg)) (.op .bx (.op .u (.nil))))) (.seq (.reg (.op .p (.op .u (.nil)))) (.seq (.reg (.op .p (.op .u (.nil)))) (.seq (.reg (.op .p (.op .u (.nil)))) (.seq (.reg (.op .p (.op .u (.nil)))) (.seq (.reg (.op .p (.op .p (.op .u (.nil))))) (.seq (.seq (.reg (.op .p (.nil))) (.blk (.loop [8, 22, 23, 24, 25, 26, 27, 28, 29, 30, 31, 32, 33, 34, 35, 36, 37, 38, 39, 40, 41, 42, 43, 44] [8] [.int .i64] (.seq (.seq (.reg (.op .p (.op .p (.nil)))) (.cond (.leaf) (.leaf))) (.seq (.blk (.drawS (.tk 0 .p (.tk 1 .p (.tk 2 .p (.tk 3 .p (.tk 4 .p (.tk 5 .p (.tk 6 .ix (.tk 8 .p (.tk 9 .ix (.tk 12 .p (.tk 13 .p (.tk 14 .p (.tk 15 .p (.ts 7 (.int .u32) (.ts 10 (.int .u8) (.tk 11 .p (.tk 16 .sc (.tk 17 .p (.tk 18 .ix (.go 19 .u (.nil))))))))))))))))))))) [19])) (.reg (.op .p (.op .p (.op .p (.nil)))))))))) (.seq (.seq (.reg (.op .p (.nil))) (.blk (.loop [9, 45, 46, 47, 48, 49, 50, 51, 52, 53, 54, 55, 56, 57, 58, 59, 60, 61, 62, 63, 64, 65, 66, 67] [9] [.int .i64] (.seq (.seq (.reg (.op .p (.op .p (.nil)))) (.cond (.leaf) (.leaf))) (.seq (.blk (.drawS (.tk 0 .p (.tk 1 .p (.tk 2 .p (.tk 3 .p (.tk 4 .p (.tk 5 .p (.tk 6 .ix (.tk 8 .p (.tk 9 .ix (.tk 12 .p (.tk 13 .p (.tk 14 .p (.tk 15 .p (.ts 7 (.int .u32) (.ts 10 (.int .u8) (.tk 11 .p (.tk 16 .sc (.tk 17 .p (.tk 18 .ix (.go 19 .u (.nil))))))))))))))))))))) [19])) (.reg (.op .p (.op .p (.op .p (.nil)))))))))) (.seq (.reg (.op (.ld (.agg)) (.op .bx (.op .u (.nil))))) (.seq (.seq (.reg (.op .p (.nil))) (.blk (.loop [11, 69, 70, 71, 72, 73, 74, 75, 76, 77, 78, 79, 80] [11] [.int .i64] (.seq (.seq (.reg (.op .p (.op .p (.nil)))) (.cond (.leaf) (.leaf))) (.seq (.blk (.seq (.reg (.op (.cl []) (.nil))) (.seq (.reg (.op (.cl []) (.nil))) (.seq (.reg (.op (.cl []) (.nil))) (.seq (.reg (.op (.cl []) (.nil))) (.seq (.reg (.op (.cl []) (.nil))) (.seq (.reg (.op (.cl []) (.nil))) (.seq (.reg (.op (.cl []) (.nil))) (.reg (.op (.cl []) (.nil))))))))))) (.reg (.op .p (.op .p (.op .p (.nil)))))))))) (.seq (.reg (.op (.ld (.agg)) (.op .bx (.op .u (.nil))))) (.seq (.seq (.reg (.op .p (.nil))) (.blk (.loop [13, 14, 82, 83, 84, 85, 86, 87, 88, 89, 90, 91, 92, 93, 94, 95, 96, 97, 98, 99, 100, 101, 102, 103] [13] [.int .i64] (.seq (.seq (.reg (.op .p (.op .p (.nil)))) (.cond (.leaf) (.leaf))) (.seq (.blk (.seq (.drawS (.tk 0 .p (.tk 1 .p (.tk 2 .ix (.tk 4 .p (.tk 5 .p (.tk 6 .ix (.ts 3 (.int .u32) (.ts 7 (.int .u32) (.tk 8 .p (.tk 9 .p (.nil))))))))))) []) (.reg (.op .p (.op .p (.op .p (.op .p (.op .p (.op .p (.op .sc (.op .p (.op .ix (.op .u (.nil)))))))))))))) (.reg (.op .p (.op .p (.op .p (.nil)))))))))) (.seq (.reg (.op (.ld (.agg)) (.op .u (.nil)))) (.leaf)))))))))))))))
    (by kernel_rfl) Tryz.func127 (by kernel_rfl) (by kernel_rfl) (by kernel_rfl) (by kernel_rfl) h

set_option maxRecDepth 100000 in
theorem amphoraref03_XOR_vc (a0 : Array Value) (a1 : Array Value) (a2 : Int) (a3a : Option Addr) (a3n : Nat) (a3c : Nat) (w : World) (R : Ending → World → Prop) (h :
  ∃ (g4 : Nat) (w1 : World), (Instr.box 22 (.agg a0)).run Tryz.prog w = .ok (.pointer (some ⟨g4, 0, none⟩)) w1 ∧
  (∃ (g5 : Nat) (w2 : World), (Instr.box 187 (.agg a1)).run Tryz.prog w1 = .ok (.pointer (some ⟨g5, 0, none⟩)) w2 ∧
    (((((decide (a2 < (0 : Int))) || (decide (a2 > (274877906944 : Int)))) || (decide (((a3n : Nat) : Int) > (IntKind.wrap .i64 ((274877906944 : Int) - a2))))) = true →
        (R (.returned (.tuple #[(.slice none 0 0), (.int .i64 8)])) w2)) ∧
      ((((decide (a2 < (0 : Int))) || (decide (a2 > (274877906944 : Int)))) || (decide (((a3n : Nat) : Int) > (IntKind.wrap .i64 ((274877906944 : Int) - a2))))) = false →
        (∃ (t26a : Option Addr) (t26n : Nat) (t26c : Nat) (w3 : World), (Instr.buildSlice 33 0 #[]).run Tryz.prog w2 = .ok (.slice t26a t26n t26c) w3 ∧
          (∃ (t27 : Array Value), (Instr.build 207 #[]).run Tryz.prog w3 = .ok (.agg t27) w3 ∧
            (∃ (g11 : Nat) (w4 : World), (Instr.alloc 207 true (.tuple #[])).run Tryz.prog w3 = .ok (.pointer (some ⟨g11, 0, none⟩)) w4 ∧
              (∃ w5 : World, (Instr.storeAt 207 (.pointer (some ⟨g11, 0, none⟩)) (.agg t27)).run Tryz.prog w4 = .ok () w5 ∧
                (∃ (I : Option Addr → Nat → Nat → Int → World → Prop) (μ : Option Addr → Nat → Nat → Int → World → Nat), I t26a t26n t26c 0 w5 ∧
                  (∀ (x10a : Option Addr) (x10n : Nat) (x10c : Nat) (x12 : Int), ∀ w6 : World, I x10a x10n x10c x12 w6 →
                    (((decide (x12 < ((a3n : Nat) : Int))) = true →
                        (∃ J : World → Prop, ((((x12 == (0 : Int)) || ((Int.tmod (IntKind.wrap .i64 (a2 + x12)) (64 : Int)) == (0 : Int))) = true →
                              (∃ (t43 : Array Value), (Instr.loadAt 22 (.pointer (some ⟨g4, 0, none⟩))).run Tryz.prog w6 = .ok (.agg t43) w6 ∧
                                (∃ (t49 : Array Value), (Instr.loadAt 187 (.pointer (some ⟨g5, 0, none⟩))).run Tryz.prog w6 = .ok (.agg t49) w6 ∧
                                  (Calls Tryz.prog 127 #[(.agg t43), (.int .u32 (IntKind.wrap .u32 (IntKind.wrap .i64 (Int.tdiv (IntKind.wrap .i64 (a2 + x12)) (64 : Int))))), (.agg t49)] w6 fun (e50 : Ending) (w7 : World) => ∃ (t50 : Array Value), e50 = .returned (.agg t50) ∧
                                    (∃ w8 : World, (Instr.storeAt 207 (.pointer (some ⟨g11, 0, none⟩)) (.agg t50)).run Tryz.prog w7 = .ok () w8 ∧
                                      (J  w8)))))) ∧
                            (((x12 == (0 : Int)) || ((Int.tmod (IntKind.wrap .i64 (a2 + x12)) (64 : Int)) == (0 : Int))) = false →
                              (J  w6))) ∧
                          (∀ w9 : World, J  w9 →
                            (∃ S : World → Prop, S w9.drew ∧
                              (∃ (t54b t54o : Nat), a3a = some ⟨t54b, t54o, none⟩ ∧ 0 ≤ x12 ∧ x12 < ((a3n : Nat) : Int) ∧
                                (0 ≤ (Int.tmod (IntKind.wrap .i64 (a2 + x12)) (64 : Int)) ∧ (Int.tmod (IntKind.wrap .i64 (a2 + x12)) (64 : Int)) < (64 : Int) ∧
                                  (∃ (t55 : Int), (∀ w' : World, S w' → (Instr.loadAt 5 (.pointer (some ⟨t54b, t54o + Int.toNat x12 * 1, none⟩))).run Tryz.prog w' = .ok (.int .u8 t55) w') ∧
                                    (∃ (t61 : Int), (∀ w' : World, S w' → (Instr.loadAt 5 (.pointer (some ⟨g11, 0 + Int.toNat (Int.tmod (IntKind.wrap .i64 (a2 + x12)) (64 : Int)) * 1, none⟩))).run Tryz.prog w' = .ok (.int .u8 t61) w') ∧
                                      (∃ (t63a : Option Addr) (t63n : Nat) (t63c : Nat) (w10 : World), (Instr.buildSlice 33 1 #[(0, (.int .u8 (bxor .u8 t55 t61)))]).run Tryz.prog w9.drew = .ok (.slice t63a t63n t63c) w10 ∧
                                        (∃ S_1 : World → Prop, (∀ w' : World, S_1 w' → S w') ∧ S_1 w10 ∧
                                          (∃ (t64a : Option Addr) (t64n : Nat) (t64c : Nat) (w11 : World), (Builtin.append_ #[33, 33] 33 #[(.slice x10a x10n x10c), (.slice t63a t63n t63c)]).run Tryz.prog w10 = .ok (.slice t64a t64n t64c) w11 ∧
                                            (∃ S_2 : World → Prop, (∀ w' : World, S_2 w' → S_1 w') ∧ S_2 w11 ∧
                                              (I t64a t64n t64c (IntKind.wrap .i64 (x12 + (1 : Int))) w11 ∧ μ t64a t64n t64c (IntKind.wrap .i64 (x12 + (1 : Int))) w11 < μ x10a x10n x10c x12 w6))))))))))))) ∧
                      ((decide (x12 < ((a3n : Nat) : Int))) = false →
                        (R (.returned (.tuple #[(.slice x10a x10n x10c), (.int .i64 0)])) w6))))))))))))) : Calls Tryz.prog 106 #[(.agg a0), (.agg a1), (.int .i64 a2), (.slice a3a a3n a3c)] w R :=
  calls_of_ev (args := [(.agg a0), (.agg a1), (.int .i64 a2), (.slice a3a a3n a3c)])
    (tc := .seq (.reg (.op .bx (.op .bx (.op .p (.op .p (.nil)))))) (.seq (.seq (.reg (.op .p (.op .p (.op .p (.ap 2 (.op .p (.ap 5 (.nil)))))))) (.cond (.seq (.reg (.op .p (.op .p (.nil)))) (.leaf)) (.leaf))) (.seq (.reg (.op (.r (.slice)) (.op .p (.nil)))) (.seq (.reg (.op (.ld (.agg)) (.op .bx (.op .u (.nil))))) (.seq (.seq (.reg (.op .p (.nil))) (.blk (.loop [10, 12, 28, 29, 30, 31, 32, 33, 34, 35, 36, 37, 38, 39, 40, 41, 42, 43, 44, 45, 46, 47, 48, 49, 50, 51, 52, 53, 54, 55, 56, 57, 58, 59, 60, 61, 62, 63, 64] [10, 12] [.slice, .int .i64] (.seq (.seq (.reg (.op .p (.op .p (.op .p (.op .p (.nil)))))) (.cond (.leaf) (.leaf))) (.seq (.blk (.seq (.seq (.reg (.op .p (.op .p (.op .p (.ap 5 (.nil)))))) (.join [43, 44, 45, 46, 47, 48, 49, 50] [] [] (.cond (.reg (.op (.ld (.agg)) (.op .p (.op .p (.op .p (.op .p (.op .p (.op (.ld (.agg)) (.op (.cl [.agg]) (.op .u (.nil))))))))))) (.leaf)))) (.drawS (.tk 0 .p (.tk 1 .p (.tk 2 .p (.tk 3 .ix (.tk 5 .p (.tk 6 .p (.tk 7 .p (.tk 8 .p (.tk 9 .ix (.ts 4 (.int .u8) (.ts 10 (.int .u8) (.tk 11 .p (.go 12 (.r (.slice)) (.go 13 (.r (.slice)) (.tk 14 .p (.nil)))))))))))))))) []))) (.reg (.op .p (.op .p (.op .p (.nil)))))))))) (.seq (.reg (.op .p (.op .p (.op .p (.nil))))) (.leaf)))))))
    (by kernel_rfl) Tryz.func106 (by kernel_rfl) (by kernel_rfl) (by kernel_rfl) (by kernel_rfl) h

end Go.Proofs.YtmdandkoajocpaaGreatDoor
