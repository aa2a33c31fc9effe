/- Verification conditions of functions, printed by the session's own program vc.py: out of each, Calls (conditions: none). -/
import Derived.Test.YthjipjhjhanddaaRows
import Derived.Test.YthjipjhjhanddaaSxRun
namespace Go.Proofs.Ythjipjhjhanddaa
open Go Go.Proofs.Ythjipjhjhanddaa.Sx

set_option maxRecDepth 100000 in
theorem amphoraref03_left_vc (a0 : Int) (a1 : Int) (w : World) (R : Ending → World → Prop) (h :
  0 ≤ a1 ∧
  (0 ≤ (IntKind.wrap .u64 ((32 : Int) - a1)) ∧
    (R (.returned (.int .u32 (bor .u32 (shlI .u32 a0 a1) (shrI .u32 a0 (IntKind.wrap .u64 ((32 : Int) - a1)))))) w))) : Calls Try.prog 29 #[(.int .u32 a0), (.int .u64 a1)] w R :=
  calls_of_ev (args := [(.int .u32 a0), (.int .u64 a1)])
    (tc := .seq (.reg (.op .p (.nil))) (.seq (.reg (.op .p (.op .p (.op .sc (.op .p (.op .p (.op .p (.op .sc (.op .p (.op .p (.nil))))))))))) (.leaf)))
    (by kernel_rfl) Try.func29 (by kernel_rfl) (by kernel_rfl) (by kernel_rfl) (by kernel_rfl) h

set_option maxRecDepth 100000 in
theorem amphoraref03_round_vc (a0b : Nat) (a0o : Nat) (a1 : Int) (a2 : Int) (a3 : Int) (a4 : Int) (w : World) (R : Ending → World → Prop) (h :
  ∃ S : World → Prop, S w.drew ∧
  (0 ≤ a1 ∧ a1 < (16 : Int) ∧
    (0 ≤ a2 ∧ a2 < (16 : Int) ∧
      (∃ (t16 : Int), (∀ w' : World, S w' → (Instr.loadAt 23 (.pointer (some ⟨a0b, a0o + Int.toNat a1 * 1, none⟩))).run Try.prog w' = .ok (.int .u32 t16) w') ∧
        (∃ (t21 : Int), (∀ w' : World, S w' → (Instr.loadAt 23 (.pointer (some ⟨a0b, a0o + Int.toNat a2 * 1, none⟩))).run Try.prog w' = .ok (.int .u32 t21) w') ∧
          (0 ≤ a1 ∧ a1 < (16 : Int) ∧
            (∃ w1 : World, (Instr.storeAt 23 (.pointer (some ⟨a0b, a0o + Int.toNat a1 * 1, none⟩)) (.int .u32 (IntKind.wrap .u32 (t16 + t21)))).run Try.prog w.drew = .ok () w1 ∧
              (∃ S_1 : World → Prop, S_1 w1.drew ∧
                (0 ≤ a4 ∧ a4 < (16 : Int) ∧
                  (0 ≤ a1 ∧ a1 < (16 : Int) ∧
                    (∃ (t31 : Int), (∀ w' : World, S_1 w' → (Instr.loadAt 23 (.pointer (some ⟨a0b, a0o + Int.toNat a4 * 1, none⟩))).run Try.prog w' = .ok (.int .u32 t31) w') ∧
                      (∃ (t36 : Int), (∀ w' : World, S_1 w' → (Instr.loadAt 23 (.pointer (some ⟨a0b, a0o + Int.toNat a1 * 1, none⟩))).run Try.prog w' = .ok (.int .u32 t36) w') ∧
                        (Calls Try.prog 29 #[(.int .u32 (bxor .u32 t31 t36)), (.int .u64 16)] w1.drew fun (e38 : Ending) (w2 : World) => ∃ (t38 : Int), e38 = .returned (.int .u32 t38) ∧
                          (∃ S_2 : World → Prop, (∀ w' : World, S_2 w' → S_1 w') ∧ S_2 w2 ∧
                            (0 ≤ a4 ∧ a4 < (16 : Int) ∧
                              (∃ w3 : World, (Instr.storeAt 23 (.pointer (some ⟨a0b, a0o + Int.toNat a4 * 1, none⟩)) (.int .u32 t38)).run Try.prog w2 = .ok () w3 ∧
                                (∃ S_3 : World → Prop, S_3 w3.drew ∧
                                  (0 ≤ a3 ∧ a3 < (16 : Int) ∧
                                    (0 ≤ a4 ∧ a4 < (16 : Int) ∧
                                      (∃ (t47 : Int), (∀ w' : World, S_3 w' → (Instr.loadAt 23 (.pointer (some ⟨a0b, a0o + Int.toNat a3 * 1, none⟩))).run Try.prog w' = .ok (.int .u32 t47) w') ∧
                                        (∃ (t52 : Int), (∀ w' : World, S_3 w' → (Instr.loadAt 23 (.pointer (some ⟨a0b, a0o + Int.toNat a4 * 1, none⟩))).run Try.prog w' = .ok (.int .u32 t52) w') ∧
                                          (0 ≤ a3 ∧ a3 < (16 : Int) ∧
                                            (∃ w4 : World, (Instr.storeAt 23 (.pointer (some ⟨a0b, a0o + Int.toNat a3 * 1, none⟩)) (.int .u32 (IntKind.wrap .u32 (t47 + t52)))).run Try.prog w3.drew = .ok () w4 ∧
                                              (∃ S_4 : World → Prop, S_4 w4.drew ∧
                                                (0 ≤ a2 ∧ a2 < (16 : Int) ∧
                                                  (0 ≤ a3 ∧ a3 < (16 : Int) ∧
                                                    (∃ (t62 : Int), (∀ w' : World, S_4 w' → (Instr.loadAt 23 (.pointer (some ⟨a0b, a0o + Int.toNat a2 * 1, none⟩))).run Try.prog w' = .ok (.int .u32 t62) w') ∧
                                                      (∃ (t67 : Int), (∀ w' : World, S_4 w' → (Instr.loadAt 23 (.pointer (some ⟨a0b, a0o + Int.toNat a3 * 1, none⟩))).run Try.prog w' = .ok (.int .u32 t67) w') ∧
                                                        (Calls Try.prog 29 #[(.int .u32 (bxor .u32 t62 t67)), (.int .u64 12)] w4.drew fun (e69 : Ending) (w5 : World) => ∃ (t69 : Int), e69 = .returned (.int .u32 t69) ∧
                                                          (∃ S_5 : World → Prop, (∀ w' : World, S_5 w' → S_4 w') ∧ S_5 w5 ∧
                                                            (0 ≤ a2 ∧ a2 < (16 : Int) ∧
                                                              (∃ w6 : World, (Instr.storeAt 23 (.pointer (some ⟨a0b, a0o + Int.toNat a2 * 1, none⟩)) (.int .u32 t69)).run Try.prog w5 = .ok () w6 ∧
                                                                (∃ S_6 : World → Prop, S_6 w6.drew ∧
                                                                  (0 ≤ a1 ∧ a1 < (16 : Int) ∧
                                                                    (0 ≤ a2 ∧ a2 < (16 : Int) ∧
                                                                      (∃ (t78 : Int), (∀ w' : World, S_6 w' → (Instr.loadAt 23 (.pointer (some ⟨a0b, a0o + Int.toNat a1 * 1, none⟩))).run Try.prog w' = .ok (.int .u32 t78) w') ∧
                                                                        (∃ (t83 : Int), (∀ w' : World, S_6 w' → (Instr.loadAt 23 (.pointer (some ⟨a0b, a0o + Int.toNat a2 * 1, none⟩))).run Try.prog w' = .ok (.int .u32 t83) w') ∧
                                                                          (0 ≤ a1 ∧ a1 < (16 : Int) ∧
                                                                            (∃ w7 : World, (Instr.storeAt 23 (.pointer (some ⟨a0b, a0o + Int.toNat a1 * 1, none⟩)) (.int .u32 (IntKind.wrap .u32 (t78 + t83)))).run Try.prog w6.drew = .ok () w7 ∧
                                                                              (∃ S_7 : World → Prop, S_7 w7.drew ∧
                                                                                (0 ≤ a4 ∧ a4 < (16 : Int) ∧
                                                                                (0 ≤ a1 ∧ a1 < (16 : Int) ∧
                                                                                (∃ (t93 : Int), (∀ w' : World, S_7 w' → (Instr.loadAt 23 (.pointer (some ⟨a0b, a0o + Int.toNat a4 * 1, none⟩))).run Try.prog w' = .ok (.int .u32 t93) w') ∧
                                                                                (∃ (t98 : Int), (∀ w' : World, S_7 w' → (Instr.loadAt 23 (.pointer (some ⟨a0b, a0o + Int.toNat a1 * 1, none⟩))).run Try.prog w' = .ok (.int .u32 t98) w') ∧
                                                                                (Calls Try.prog 29 #[(.int .u32 (bxor .u32 t93 t98)), (.int .u64 8)] w7.drew fun (e100 : Ending) (w8 : World) => ∃ (t100 : Int), e100 = .returned (.int .u32 t100) ∧
                                                                                (∃ S_8 : World → Prop, (∀ w' : World, S_8 w' → S_7 w') ∧ S_8 w8 ∧
                                                                                (0 ≤ a4 ∧ a4 < (16 : Int) ∧
                                                                                (∃ w9 : World, (Instr.storeAt 23 (.pointer (some ⟨a0b, a0o + Int.toNat a4 * 1, none⟩)) (.int .u32 t100)).run Try.prog w8 = .ok () w9 ∧
                                                                                (∃ S_9 : World → Prop, S_9 w9.drew ∧
                                                                                (0 ≤ a3 ∧ a3 < (16 : Int) ∧
                                                                                (0 ≤ a4 ∧ a4 < (16 : Int) ∧
                                                                                (∃ (t109 : Int), (∀ w' : World, S_9 w' → (Instr.loadAt 23 (.pointer (some ⟨a0b, a0o + Int.toNat a3 * 1, none⟩))).run Try.prog w' = .ok (.int .u32 t109) w') ∧
                                                                                (∃ (t114 : Int), (∀ w' : World, S_9 w' → (Instr.loadAt 23 (.pointer (some ⟨a0b, a0o + Int.toNat a4 * 1, none⟩))).run Try.prog w' = .ok (.int .u32 t114) w') ∧
                                                                                (0 ≤ a3 ∧ a3 < (16 : Int) ∧
                                                                                (∃ w10 : World, (Instr.storeAt 23 (.pointer (some ⟨a0b, a0o + Int.toNat a3 * 1, none⟩)) (.int .u32 (IntKind.wrap .u32 (t109 + t114)))).run Try.prog w9.drew = .ok () w10 ∧
                                                                                (∃ S_10 : World → Prop, S_10 w10.drew ∧
                                                                                (0 ≤ a2 ∧ a2 < (16 : Int) ∧
                                                                                (0 ≤ a3 ∧ a3 < (16 : Int) ∧
                                                                                (∃ (t124 : Int), (∀ w' : World, S_10 w' → (Instr.loadAt 23 (.pointer (some ⟨a0b, a0o + Int.toNat a2 * 1, none⟩))).run Try.prog w' = .ok (.int .u32 t124) w') ∧
                                                                                (∃ (t129 : Int), (∀ w' : World, S_10 w' → (Instr.loadAt 23 (.pointer (some ⟨a0b, a0o + Int.toNat a3 * 1, none⟩))).run Try.prog w' = .ok (.int .u32 t129) w') ∧
                                                                                (Calls Try.prog 29 #[(.int .u32 (bxor .u32 t124 t129)), (.int .u64 7)] w10.drew fun (e131 : Ending) (w11 : World) => ∃ (t131 : Int), e131 = .returned (.int .u32 t131) ∧
                                                                                (∃ S_11 : World → Prop, (∀ w' : World, S_11 w' → S_10 w') ∧ S_11 w11 ∧
                                                                                (0 ≤ a2 ∧ a2 < (16 : Int) ∧
                                                                                (∃ w12 : World, (Instr.storeAt 23 (.pointer (some ⟨a0b, a0o + Int.toNat a2 * 1, none⟩)) (.int .u32 t131)).run Try.prog w11 = .ok () w12 ∧
                                                                                (R (.returned (.tuple #[])) w12))))))))))))))))))))))))))))))))))))))))))))))))))))))))))))))))) : Calls Try.prog 24 #[(.pointer (some ⟨a0b, a0o, none⟩)), (.int .i64 a1), (.int .i64 a2), (.int .i64 a3), (.int .i64 a4)] w R :=
  calls_of_ev (args := [(.pointer (some ⟨a0b, a0o, none⟩)), (.int .i64 a1), (.int .i64 a2), (.int .i64 a3), (.int .i64 a4)])
    (tc := .seq (.drawS (.tk 0 .p (.tk 1 .p (.tk 2 .p (.tk 3 .p (.tk 4 .p (.tk 5 .ix (.tk 7 .p (.tk 8 .p (.tk 9 .p (.tk 10 .ix (.tk 13 .p (.ts 6 (.int .u32) (.ts 11 (.int .u32) (.tk 12 .p (.tk 14 .ix (.go 15 .u (.nil))))))))))))))))) [15]) (.seq (.drawS (.tk 0 .p (.tk 1 .p (.tk 2 .p (.tk 3 .p (.tk 4 .p (.tk 5 .ix (.tk 7 .p (.tk 8 .p (.tk 9 .p (.tk 10 .ix (.tk 14 .p (.ts 6 (.int .u32) (.ts 11 (.int .u32) (.tk 12 .p (.go 13 (.cl [.int .u32]) (.tk 15 .ix (.go 16 .u (.nil)))))))))))))))))) [16]) (.seq (.drawS (.tk 0 .p (.tk 1 .p (.tk 2 .p (.tk 3 .p (.tk 4 .p (.tk 5 .ix (.tk 7 .p (.tk 8 .p (.tk 9 .p (.tk 10 .ix (.tk 13 .p (.ts 6 (.int .u32) (.ts 11 (.int .u32) (.tk 12 .p (.tk 14 .ix (.go 15 .u (.nil))))))))))))))))) [15]) (.seq (.drawS (.tk 0 .p (.tk 1 .p (.tk 2 .p (.tk 3 .p (.tk 4 .p (.tk 5 .ix (.tk 7 .p (.tk 8 .p (.tk 9 .p (.tk 10 .ix (.tk 14 .p (.ts 6 (.int .u32) (.ts 11 (.int .u32) (.tk 12 .p (.go 13 (.cl [.int .u32]) (.tk 15 .ix (.go 16 .u (.nil)))))))))))))))))) [16]) (.seq (.drawS (.tk 0 .p (.tk 1 .p (.tk 2 .p (.tk 3 .p (.tk 4 .p (.tk 5 .ix (.tk 7 .p (.tk 8 .p (.tk 9 .p (.tk 10 .ix (.tk 13 .p (.ts 6 (.int .u32) (.ts 11 (.int .u32) (.tk 12 .p (.tk 14 .ix (.go 15 .u (.nil))))))))))))))))) [15]) (.seq (.drawS (.tk 0 .p (.tk 1 .p (.tk 2 .p (.tk 3 .p (.tk 4 .p (.tk 5 .ix (.tk 7 .p (.tk 8 .p (.tk 9 .p (.tk 10 .ix (.tk 14 .p (.ts 6 (.int .u32) (.ts 11 (.int .u32) (.tk 12 .p (.go 13 (.cl [.int .u32]) (.tk 15 .ix (.go 16 .u (.nil)))))))))))))))))) [16]) (.seq (.drawS (.tk 0 .p (.tk 1 .p (.tk 2 .p (.tk 3 .p (.tk 4 .p (.tk 5 .ix (.tk 7 .p (.tk 8 .p (.tk 9 .p (.tk 10 .ix (.tk 13 .p (.ts 6 (.int .u32) (.ts 11 (.int .u32) (.tk 12 .p (.tk 14 .ix (.go 15 .u (.nil))))))))))))))))) [15]) (.drawS (.tk 0 .p (.tk 1 .p (.tk 2 .p (.tk 3 .p (.tk 4 .p (.tk 5 .ix (.tk 7 .p (.tk 8 .p (.tk 9 .p (.tk 10 .ix (.tk 14 .p (.ts 6 (.int .u32) (.ts 11 (.int .u32) (.tk 12 .p (.go 13 (.cl [.int .u32]) (.tk 15 .ix (.go 16 .u (.nil)))))))))))))))))) [16]))))))))
    (by kernel_rfl) Try.func24 (by kernel_rfl) (by kernel_rfl) (by kernel_rfl) (by kernel_rfl) h

set_option maxRecDepth 100000 in
theorem amphoraref03_Block_vc (a0 : Array Value) (a1 : Int) (a2 : Array Value) (w : World) (R : Ending → World → Prop) (h :
  ∃ (g3 : Nat) (w1 : World), (Instr.box 22 (.agg a0)).run Try.prog w = .ok (.pointer (some ⟨g3, 0, none⟩)) w1 ∧
  (∃ (g5 : Nat) (w2 : World), (Instr.box 24 (.agg a2)).run Try.prog w1 = .ok (.pointer (some ⟨g5, 0, none⟩)) w2 ∧
    (∃ (g6 : Nat) (w3 : World), (Instr.alloc 26 true (.tuple #[])).run Try.prog w2 = .ok (.pointer (some ⟨g6, 0, none⟩)) w3 ∧
      (∃ (t15 : Array Value), (Instr.build 55 #[]).run Try.prog w3 = .ok (.agg t15) w3 ∧
        (∃ (g7 : Nat) (w4 : World), (Instr.alloc 55 true (.tuple #[])).run Try.prog w3 = .ok (.pointer (some ⟨g7, 0, none⟩)) w4 ∧
          (∃ w5 : World, (Instr.storeAt 55 (.pointer (some ⟨g7, 0, none⟩)) (.agg t15)).run Try.prog w4 = .ok () w5 ∧
            (∃ w6 : World, (Instr.storeAt 23 (.pointer (some ⟨g7, 0, none⟩)) (.int .u32 1634760805)).run Try.prog w5 = .ok () w6 ∧
              (∃ w7 : World, (Instr.storeAt 23 (.pointer (some ⟨g7, 1, none⟩)) (.int .u32 857760878)).run Try.prog w6 = .ok () w7 ∧
                (∃ w8 : World, (Instr.storeAt 23 (.pointer (some ⟨g7, 2, none⟩)) (.int .u32 2036477234)).run Try.prog w7 = .ok () w8 ∧
                  (∃ w9 : World, (Instr.storeAt 23 (.pointer (some ⟨g7, 3, none⟩)) (.int .u32 1797285236)).run Try.prog w8 = .ok () w9 ∧
                    (∃ w10 : World, (Instr.storeAt 23 (.pointer (some ⟨g7, 12, none⟩)) (.int .u32 a1)).run Try.prog w9 = .ok () w10 ∧
                      (∃ (I : Int → World → Prop) (μ : Int → World → Nat), I 0 w10 ∧
                        (∀ (x8 : Int), ∀ w11 : World, I x8 w11 →
                          (((decide (x8 < (32 : Int))) = true →
                              (∃ S : World → Prop, S w11.drew ∧
                                (0 ≤ (IntKind.wrap .i64 ((4 : Int) + (IntKind.wrap .i64 (Int.tdiv x8 (4 : Int))))) ∧ (IntKind.wrap .i64 ((4 : Int) + (IntKind.wrap .i64 (Int.tdiv x8 (4 : Int))))) < (16 : Int) ∧
                                  (0 ≤ x8 ∧ x8 < (32 : Int) ∧
                                    (∃ (t33 : Int), (∀ w' : World, S w' → (Instr.loadAt 23 (.pointer (some ⟨g7, 0 + Int.toNat (IntKind.wrap .i64 ((4 : Int) + (IntKind.wrap .i64 (Int.tdiv x8 (4 : Int))))) * 1, none⟩))).run Try.prog w' = .ok (.int .u32 t33) w') ∧
                                      (∃ (t36 : Int), (∀ w' : World, S w' → (Instr.loadAt 5 (.pointer (some ⟨g3, 0 + Int.toNat x8 * 1, none⟩))).run Try.prog w' = .ok (.int .u8 t36) w') ∧
                                        (0 ≤ (IntKind.wrap .u64 ((8 : Int) * (IntKind.wrap .u64 (Int.tmod x8 (4 : Int))))) ∧
                                          (0 ≤ (IntKind.wrap .i64 ((4 : Int) + (IntKind.wrap .i64 (Int.tdiv x8 (4 : Int))))) ∧ (IntKind.wrap .i64 ((4 : Int) + (IntKind.wrap .i64 (Int.tdiv x8 (4 : Int))))) < (16 : Int) ∧
                                            (∃ w12 : World, (Instr.storeAt 23 (.pointer (some ⟨g7, 0 + Int.toNat (IntKind.wrap .i64 ((4 : Int) + (IntKind.wrap .i64 (Int.tdiv x8 (4 : Int))))) * 1, none⟩)) (.int .u32 (bor .u32 t33 (shlI .u32 (IntKind.wrap .u32 t36) (IntKind.wrap .u64 ((8 : Int) * (IntKind.wrap .u64 (Int.tmod x8 (4 : Int))))))))).run Try.prog w11.drew = .ok () w12 ∧
                                              (I (IntKind.wrap .i64 (x8 + (1 : Int))) w12 ∧ μ (IntKind.wrap .i64 (x8 + (1 : Int))) w12 < μ x8 w11)))))))))) ∧
                            ((decide (x8 < (32 : Int))) = false →
                              (∃ (I_1 : Int → World → Prop) (μ_1 : Int → World → Nat), I_1 0 w11 ∧
                                (∀ (x9 : Int), ∀ w13 : World, I_1 x9 w13 →
                                  (((decide (x9 < (12 : Int))) = true →
                                      (∃ S : World → Prop, S w13.drew ∧
                                        (0 ≤ (IntKind.wrap .i64 ((13 : Int) + (IntKind.wrap .i64 (Int.tdiv x9 (4 : Int))))) ∧ (IntKind.wrap .i64 ((13 : Int) + (IntKind.wrap .i64 (Int.tdiv x9 (4 : Int))))) < (16 : Int) ∧
                                          (0 ≤ x9 ∧ x9 < (12 : Int) ∧
                                            (∃ (t56 : Int), (∀ w' : World, S w' → (Instr.loadAt 23 (.pointer (some ⟨g7, 0 + Int.toNat (IntKind.wrap .i64 ((13 : Int) + (IntKind.wrap .i64 (Int.tdiv x9 (4 : Int))))) * 1, none⟩))).run Try.prog w' = .ok (.int .u32 t56) w') ∧
                                              (∃ (t59 : Int), (∀ w' : World, S w' → (Instr.loadAt 5 (.pointer (some ⟨g5, 0 + Int.toNat x9 * 1, none⟩))).run Try.prog w' = .ok (.int .u8 t59) w') ∧
                                                (0 ≤ (IntKind.wrap .u64 ((8 : Int) * (IntKind.wrap .u64 (Int.tmod x9 (4 : Int))))) ∧
                                                  (0 ≤ (IntKind.wrap .i64 ((13 : Int) + (IntKind.wrap .i64 (Int.tdiv x9 (4 : Int))))) ∧ (IntKind.wrap .i64 ((13 : Int) + (IntKind.wrap .i64 (Int.tdiv x9 (4 : Int))))) < (16 : Int) ∧
                                                    (∃ w14 : World, (Instr.storeAt 23 (.pointer (some ⟨g7, 0 + Int.toNat (IntKind.wrap .i64 ((13 : Int) + (IntKind.wrap .i64 (Int.tdiv x9 (4 : Int))))) * 1, none⟩)) (.int .u32 (bor .u32 t56 (shlI .u32 (IntKind.wrap .u32 t59) (IntKind.wrap .u64 ((8 : Int) * (IntKind.wrap .u64 (Int.tmod x9 (4 : Int))))))))).run Try.prog w13.drew = .ok () w14 ∧
                                                      (I_1 (IntKind.wrap .i64 (x9 + (1 : Int))) w14 ∧ μ_1 (IntKind.wrap .i64 (x9 + (1 : Int))) w14 < μ_1 x9 w13)))))))))) ∧
                                    ((decide (x9 < (12 : Int))) = false →
                                      (∃ (t68 : Array Value), (Instr.loadAt 55 (.pointer (some ⟨g7, 0, none⟩))).run Try.prog w13 = .ok (.agg t68) w13 ∧
                                        (∃ (g10 : Nat) (w15 : World), (Instr.alloc 55 true (.tuple #[])).run Try.prog w13 = .ok (.pointer (some ⟨g10, 0, none⟩)) w15 ∧
                                          (∃ w16 : World, (Instr.storeAt 55 (.pointer (some ⟨g10, 0, none⟩)) (.agg t68)).run Try.prog w15 = .ok () w16 ∧
                                            (∃ (I_2 : Int → World → Prop) (μ_2 : Int → World → Nat), I_2 0 w16 ∧
                                              (∀ (x11 : Int), ∀ w17 : World, I_2 x11 w17 →
                                                (((decide (x11 < (10 : Int))) = true →
                                                    (Calls Try.prog 24 #[(.pointer (some ⟨g10, 0, none⟩)), (.int .i64 0), (.int .i64 4), (.int .i64 8), (.int .i64 12)] w17 fun (e73 : Ending) (w18 : World) => e73 = .returned (.tuple #[]) ∧
                                                      (Calls Try.prog 24 #[(.pointer (some ⟨g10, 0, none⟩)), (.int .i64 1), (.int .i64 5), (.int .i64 9), (.int .i64 13)] w18 fun (e74 : Ending) (w19 : World) => e74 = .returned (.tuple #[]) ∧
                                                        (Calls Try.prog 24 #[(.pointer (some ⟨g10, 0, none⟩)), (.int .i64 2), (.int .i64 6), (.int .i64 10), (.int .i64 14)] w19 fun (e75 : Ending) (w20 : World) => e75 = .returned (.tuple #[]) ∧
                                                          (Calls Try.prog 24 #[(.pointer (some ⟨g10, 0, none⟩)), (.int .i64 3), (.int .i64 7), (.int .i64 11), (.int .i64 15)] w20 fun (e76 : Ending) (w21 : World) => e76 = .returned (.tuple #[]) ∧
                                                            (Calls Try.prog 24 #[(.pointer (some ⟨g10, 0, none⟩)), (.int .i64 0), (.int .i64 5), (.int .i64 10), (.int .i64 15)] w21 fun (e77 : Ending) (w22 : World) => e77 = .returned (.tuple #[]) ∧
                                                              (Calls Try.prog 24 #[(.pointer (some ⟨g10, 0, none⟩)), (.int .i64 1), (.int .i64 6), (.int .i64 11), (.int .i64 12)] w22 fun (e78 : Ending) (w23 : World) => e78 = .returned (.tuple #[]) ∧
                                                                (Calls Try.prog 24 #[(.pointer (some ⟨g10, 0, none⟩)), (.int .i64 2), (.int .i64 7), (.int .i64 8), (.int .i64 13)] w23 fun (e79 : Ending) (w24 : World) => e79 = .returned (.tuple #[]) ∧
                                                                  (Calls Try.prog 24 #[(.pointer (some ⟨g10, 0, none⟩)), (.int .i64 3), (.int .i64 4), (.int .i64 9), (.int .i64 14)] w24 fun (e80 : Ending) (w25 : World) => e80 = .returned (.tuple #[]) ∧
                                                                    (I_2 (IntKind.wrap .i64 (x11 + (1 : Int))) w25 ∧ μ_2 (IntKind.wrap .i64 (x11 + (1 : Int))) w25 < μ_2 x11 w17)))))))))) ∧
                                                  ((decide (x11 < (10 : Int))) = false →
                                                    (∃ (t81 : Array Value), (Instr.build 26 #[]).run Try.prog w17 = .ok (.agg t81) w17 ∧
                                                      (∃ (g12 : Nat) (w26 : World), (Instr.alloc 26 true (.tuple #[])).run Try.prog w17 = .ok (.pointer (some ⟨g12, 0, none⟩)) w26 ∧
                                                        (∃ w27 : World, (Instr.storeAt 26 (.pointer (some ⟨g12, 0, none⟩)) (.agg t81)).run Try.prog w26 = .ok () w27 ∧
                                                          (∃ (I_3 : Int → World → Prop) (μ_3 : Int → World → Nat), I_3 0 w27 ∧
                                                            (∀ (x13 : Int), ∀ w28 : World, I_3 x13 w28 →
                                                              (((decide (x13 < (64 : Int))) = true →
                                                                  (∃ S : World → Prop, S w28.drew ∧
                                                                    (0 ≤ (IntKind.wrap .i64 (Int.tdiv x13 (4 : Int))) ∧ (IntKind.wrap .i64 (Int.tdiv x13 (4 : Int))) < (16 : Int) ∧
                                                                      (0 ≤ (IntKind.wrap .i64 (Int.tdiv x13 (4 : Int))) ∧ (IntKind.wrap .i64 (Int.tdiv x13 (4 : Int))) < (16 : Int) ∧
                                                                        (∃ (t89 : Int), (∀ w' : World, S w' → (Instr.loadAt 23 (.pointer (some ⟨g7, 0 + Int.toNat (IntKind.wrap .i64 (Int.tdiv x13 (4 : Int))) * 1, none⟩))).run Try.prog w' = .ok (.int .u32 t89) w') ∧
                                                                          (∃ (t93 : Int), (∀ w' : World, S w' → (Instr.loadAt 23 (.pointer (some ⟨g10, 0 + Int.toNat (IntKind.wrap .i64 (Int.tdiv x13 (4 : Int))) * 1, none⟩))).run Try.prog w' = .ok (.int .u32 t93) w') ∧
                                                                            (0 ≤ (IntKind.wrap .u64 ((8 : Int) * (IntKind.wrap .u64 (Int.tmod x13 (4 : Int))))) ∧
                                                                              (0 ≤ x13 ∧ x13 < (64 : Int) ∧
                                                                                (∃ w29 : World, (Instr.storeAt 5 (.pointer (some ⟨g12, 0 + Int.toNat x13 * 1, none⟩)) (.int .u8 (IntKind.wrap .u8 (shrI .u32 (IntKind.wrap .u32 (t89 + t93)) (IntKind.wrap .u64 ((8 : Int) * (IntKind.wrap .u64 (Int.tmod x13 (4 : Int))))))))).run Try.prog w28.drew = .ok () w29 ∧
                                                                                (I_3 (IntKind.wrap .i64 (x13 + (1 : Int))) w29 ∧ μ_3 (IntKind.wrap .i64 (x13 + (1 : Int))) w29 < μ_3 x13 w28)))))))))) ∧
                                                                ((decide (x13 < (64 : Int))) = false →
                                                                  (∃ (t104 : Array Value), (Instr.loadAt 26 (.pointer (some ⟨g12, 0, none⟩))).run Try.prog w28 = .ok (.agg t104) w28 ∧
                                                                    (∃ w30 : World, (Instr.storeAt 26 (.pointer (some ⟨g6, 0, none⟩)) (.agg t104)).run Try.prog w28 = .ok () w30 ∧
                                                                      (∃ r6 : Value, (loadVar 26 ⟨g6, 0, none⟩).run Try.prog w30 = .ok r6 w30 ∧
                                                                        (R (.returned r6) w30))))))))))))))))))))))))))))))))))))) : Calls Try.prog 11 #[(.agg a0), (.int .u32 a1), (.agg a2)] w R :=
  calls_of_ev (args := [(.agg a0), (.int .u32 a1), (.agg a2)])
    (tc := .seq (.reg (.op .bx (.op .bx (.op .bx (.nil))))) (.seq (.reg (.op (.ld (.agg)) (.op .bx (.op .u (.nil))))) (.seq (.reg (.op .p (.op .u (.nil)))) (.seq (.reg (.op .p (.op .u (.nil)))) (.seq (.reg (.op .p (.op .u (.nil)))) (.seq (.reg (.op .p (.op .u (.nil)))) (.seq (.reg (.op .p (.op .p (.op .u (.nil))))) (.seq (.seq (.reg (.op .p (.nil))) (.blk (.loop [8, 22, 23, 24, 25, 26, 27, 28, 29, 30, 31, 32, 33, 34, 35, 36, 37, 38, 39, 40, 41, 42, 43, 44] [8] [.int .i64] (.seq (.seq (.reg (.op .p (.op .p (.nil)))) (.cond (.leaf) (.leaf))) (.seq (.blk (.drawS (.tk 0 .p (.tk 1 .p (.tk 2 .p (.tk 3 .p (.tk 4 .p (.tk 5 .p (.tk 6 .ix (.tk 8 .p (.tk 9 .ix (.tk 12 .p (.tk 13 .p (.tk 14 .p (.tk 15 .p (.ts 7 (.int .u32) (.ts 10 (.int .u8) (.tk 11 .p (.tk 16 .sc (.tk 17 .p (.tk 18 .ix (.go 19 .u (.nil))))))))))))))))))))) [19])) (.reg (.op .p (.op .p (.op .p (.nil)))))))))) (.seq (.seq (.reg (.op .p (.nil))) (.blk (.loop [9, 45, 46, 47, 48, 49, 50, 51, 52, 53, 54, 55, 56, 57, 58, 59, 60, 61, 62, 63, 64, 65, 66, 67] [9] [.int .i64] (.seq (.seq (.reg (.op .p (.op .p (.nil)))) (.cond (.leaf) (.leaf))) (.seq (.blk (.drawS (.tk 0 .p (.tk 1 .p (.tk 2 .p (.tk 3 .p (.tk 4 .p (.tk 5 .p (.tk 6 .ix (.tk 8 .p (.tk 9 .ix (.tk 12 .p (.tk 13 .p (.tk 14 .p (.tk 15 .p (.ts 7 (.int .u32) (.ts 10 (.int .u8) (.tk 11 .p (.tk 16 .sc (.tk 17 .p (.tk 18 .ix (.go 19 .u (.nil))))))))))))))))))))) [19])) (.reg (.op .p (.op .p (.op .p (.nil)))))))))) (.seq (.reg (.op (.ld (.agg)) (.op .bx (.op .u (.nil))))) (.seq (.seq (.reg (.op .p (.nil))) (.blk (.loop [11, 69, 70, 71, 72, 73, 74, 75, 76, 77, 78, 79, 80] [11] [.int .i64] (.seq (.seq (.reg (.op .p (.op .p (.nil)))) (.cond (.leaf) (.leaf))) (.seq (.blk (.seq (.reg (.op (.cl []) (.nil))) (.seq (.reg (.op (.cl []) (.nil))) (.seq (.reg (.op (.cl []) (.nil))) (.seq (.reg (.op (.cl []) (.nil))) (.seq (.reg (.op (.cl []) (.nil))) (.seq (.reg (.op (.cl []) (.nil))) (.seq (.reg (.op (.cl []) (.nil))) (.reg (.op (.cl []) (.nil))))))))))) (.reg (.op .p (.op .p (.op .p (.nil)))))))))) (.seq (.reg (.op (.ld (.agg)) (.op .bx (.op .u (.nil))))) (.seq (.seq (.reg (.op .p (.nil))) (.blk (.loop [13, 14, 82, 83, 84, 85, 86, 87, 88, 89, 90, 91, 92, 93, 94, 95, 96, 97, 98, 99, 100, 101, 102, 103] [13] [.int .i64] (.seq (.seq (.reg (.op .p (.op .p (.nil)))) (.cond (.leaf) (.leaf))) (.seq (.blk (.seq (.drawS (.tk 0 .p (.tk 1 .p (.tk 2 .ix (.tk 4 .p (.tk 5 .p (.tk 6 .ix (.ts 3 (.int .u32) (.ts 7 (.int .u32) (.tk 8 .p (.tk 9 .p (.nil))))))))))) []) (.reg (.op .p (.op .p (.op .p (.op .p (.op .p (.op .p (.op .sc (.op .p (.op .ix (.op .u (.nil)))))))))))))) (.reg (.op .p (.op .p (.op .p (.nil)))))))))) (.seq (.reg (.op (.ld (.agg)) (.op .u (.nil)))) (.leaf)))))))))))))))
    (by kernel_rfl) Try.func11 (by kernel_rfl) (by kernel_rfl) (by kernel_rfl) (by kernel_rfl) h

set_option maxRecDepth 100000 in
theorem amphoraref03_XOR_vc (a0 : Array Value) (a1 : Array Value) (a2 : Int) (a3a : Option Addr) (a3n : Nat) (a3c : Nat) (w : World) (R : Ending → World → Prop) (h :
  ∃ (g4 : Nat) (w1 : World), (Instr.box 22 (.agg a0)).run Try.prog w = .ok (.pointer (some ⟨g4, 0, none⟩)) w1 ∧
  (∃ (g5 : Nat) (w2 : World), (Instr.box 24 (.agg a1)).run Try.prog w1 = .ok (.pointer (some ⟨g5, 0, none⟩)) w2 ∧
    (((((decide (a2 < (0 : Int))) || (decide (a2 > (274877906944 : Int)))) || (decide (((a3n : Nat) : Int) > (IntKind.wrap .i64 ((274877906944 : Int) - a2))))) = true →
        (R (.returned (.tuple #[(.slice none 0 0), (.int .i64 8)])) w2)) ∧
      ((((decide (a2 < (0 : Int))) || (decide (a2 > (274877906944 : Int)))) || (decide (((a3n : Nat) : Int) > (IntKind.wrap .i64 ((274877906944 : Int) - a2))))) = false →
        (∃ (t26a : Option Addr) (t26n : Nat) (t26c : Nat) (w3 : World), (Instr.buildSlice 29 0 #[]).run Try.prog w2 = .ok (.slice t26a t26n t26c) w3 ∧
          (∃ (t27 : Array Value), (Instr.build 26 #[]).run Try.prog w3 = .ok (.agg t27) w3 ∧
            (∃ (g11 : Nat) (w4 : World), (Instr.alloc 26 true (.tuple #[])).run Try.prog w3 = .ok (.pointer (some ⟨g11, 0, none⟩)) w4 ∧
              (∃ w5 : World, (Instr.storeAt 26 (.pointer (some ⟨g11, 0, none⟩)) (.agg t27)).run Try.prog w4 = .ok () w5 ∧
                (∃ (I : Option Addr → Nat → Nat → Int → World → Prop) (μ : Option Addr → Nat → Nat → Int → World → Nat), I t26a t26n t26c 0 w5 ∧
                  (∀ (x10a : Option Addr) (x10n : Nat) (x10c : Nat) (x12 : Int), ∀ w6 : World, I x10a x10n x10c x12 w6 →
                    (((decide (x12 < ((a3n : Nat) : Int))) = true →
                        (∃ J : World → Prop, ((((x12 == (0 : Int)) || ((Int.tmod (IntKind.wrap .i64 (a2 + x12)) (64 : Int)) == (0 : Int))) = true →
                              (∃ (t43 : Array Value), (Instr.loadAt 22 (.pointer (some ⟨g4, 0, none⟩))).run Try.prog w6 = .ok (.agg t43) w6 ∧
                                (∃ (t49 : Array Value), (Instr.loadAt 24 (.pointer (some ⟨g5, 0, none⟩))).run Try.prog w6 = .ok (.agg t49) w6 ∧
                                  (Calls Try.prog 11 #[(.agg t43), (.int .u32 (IntKind.wrap .u32 (IntKind.wrap .i64 (Int.tdiv (IntKind.wrap .i64 (a2 + x12)) (64 : Int))))), (.agg t49)] w6 fun (e50 : Ending) (w7 : World) => ∃ (t50 : Array Value), e50 = .returned (.agg t50) ∧
                                    (∃ w8 : World, (Instr.storeAt 26 (.pointer (some ⟨g11, 0, none⟩)) (.agg t50)).run Try.prog w7 = .ok () w8 ∧
                                      (J  w8)))))) ∧
                            (((x12 == (0 : Int)) || ((Int.tmod (IntKind.wrap .i64 (a2 + x12)) (64 : Int)) == (0 : Int))) = false →
                              (J  w6))) ∧
                          (∀ w9 : World, J  w9 →
                            (∃ S : World → Prop, S w9.drew ∧
                              (∃ (t54b t54o : Nat), a3a = some ⟨t54b, t54o, none⟩ ∧ 0 ≤ x12 ∧ x12 < ((a3n : Nat) : Int) ∧
                                (0 ≤ (Int.tmod (IntKind.wrap .i64 (a2 + x12)) (64 : Int)) ∧ (Int.tmod (IntKind.wrap .i64 (a2 + x12)) (64 : Int)) < (64 : Int) ∧
                                  (∃ (t55 : Int), (∀ w' : World, S w' → (Instr.loadAt 5 (.pointer (some ⟨t54b, t54o + Int.toNat x12 * 1, none⟩))).run Try.prog w' = .ok (.int .u8 t55) w') ∧
                                    (∃ (t61 : Int), (∀ w' : World, S w' → (Instr.loadAt 5 (.pointer (some ⟨g11, 0 + Int.toNat (Int.tmod (IntKind.wrap .i64 (a2 + x12)) (64 : Int)) * 1, none⟩))).run Try.prog w' = .ok (.int .u8 t61) w') ∧
                                      (∃ (t63a : Option Addr) (t63n : Nat) (t63c : Nat) (w10 : World), (Instr.buildSlice 29 1 #[(0, (.int .u8 (bxor .u8 t55 t61)))]).run Try.prog w9.drew = .ok (.slice t63a t63n t63c) w10 ∧
                                        (∃ S_1 : World → Prop, (∀ w' : World, S_1 w' → S w') ∧ S_1 w10 ∧
                                          (∃ (t64a : Option Addr) (t64n : Nat) (t64c : Nat) (w11 : World), (Builtin.append_ #[29, 29] 29 #[(.slice x10a x10n x10c), (.slice t63a t63n t63c)]).run Try.prog w10 = .ok (.slice t64a t64n t64c) w11 ∧
                                            (∃ S_2 : World → Prop, (∀ w' : World, S_2 w' → S_1 w') ∧ S_2 w11 ∧
                                              (I t64a t64n t64c (IntKind.wrap .i64 (x12 + (1 : Int))) w11 ∧ μ t64a t64n t64c (IntKind.wrap .i64 (x12 + (1 : Int))) w11 < μ x10a x10n x10c x12 w6))))))))))))) ∧
                      ((decide (x12 < ((a3n : Nat) : Int))) = false →
                        (R (.returned (.tuple #[(.slice x10a x10n x10c), (.int .i64 0)])) w6))))))))))))) : Calls Try.prog 14 #[(.agg a0), (.agg a1), (.int .i64 a2), (.slice a3a a3n a3c)] w R :=
  calls_of_ev (args := [(.agg a0), (.agg a1), (.int .i64 a2), (.slice a3a a3n a3c)])
    (tc := .seq (.reg (.op .bx (.op .bx (.op .p (.op .p (.nil)))))) (.seq (.seq (.reg (.op .p (.op .p (.op .p (.ap 2 (.op .p (.ap 5 (.nil)))))))) (.cond (.seq (.reg (.op .p (.op .p (.nil)))) (.leaf)) (.leaf))) (.seq (.reg (.op (.r (.slice)) (.op .p (.nil)))) (.seq (.reg (.op (.ld (.agg)) (.op .bx (.op .u (.nil))))) (.seq (.seq (.reg (.op .p (.nil))) (.blk (.loop [10, 12, 28, 29, 30, 31, 32, 33, 34, 35, 36, 37, 38, 39, 40, 41, 42, 43, 44, 45, 46, 47, 48, 49, 50, 51, 52, 53, 54, 55, 56, 57, 58, 59, 60, 61, 62, 63, 64] [10, 12] [.slice, .int .i64] (.seq (.seq (.reg (.op .p (.op .p (.op .p (.op .p (.nil)))))) (.cond (.leaf) (.leaf))) (.seq (.blk (.seq (.seq (.reg (.op .p (.op .p (.op .p (.ap 5 (.nil)))))) (.join [43, 44, 45, 46, 47, 48, 49, 50] [] [] (.cond (.reg (.op (.ld (.agg)) (.op .p (.op .p (.op .p (.op .p (.op .p (.op (.ld (.agg)) (.op (.cl [.agg]) (.op .u (.nil))))))))))) (.leaf)))) (.drawS (.tk 0 .p (.tk 1 .p (.tk 2 .p (.tk 3 .ix (.tk 5 .p (.tk 6 .p (.tk 7 .p (.tk 8 .p (.tk 9 .ix (.ts 4 (.int .u8) (.ts 10 (.int .u8) (.tk 11 .p (.go 12 (.r (.slice)) (.go 13 (.r (.slice)) (.tk 14 .p (.nil)))))))))))))))) []))) (.reg (.op .p (.op .p (.op .p (.nil)))))))))) (.seq (.reg (.op .p (.op .p (.op .p (.nil))))) (.leaf)))))))
    (by kernel_rfl) Try.func14 (by kernel_rfl) (by kernel_rfl) (by kernel_rfl) (by kernel_rfl) h

end Go.Proofs.Ythjipjhjhanddaa
