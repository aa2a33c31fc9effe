/- Verification conditions of functions, printed by the session's own program vc.py: out of each, Calls (conditions: none). -/
import Derived.Test.YtmdandkoajocpaaDoorRows
import Derived.Test.YtmdandkoajocpaaDoorSxRun
namespace Go.Proofs.YtmdandkoajocpaaDoor
open Go Go.Proofs.YtmdandkoajocpaaDoor.Sx

set_option maxRecDepth 100000 in
theorem amphoranum_Copy_vc (a0a : Option Addr) (a0n : Nat) (a0c : Nat) (w : World) (R : Ending → World → Prop) (h :
  ∃ (t6a : Option Addr) (t6n : Nat) (t6c : Nat) (w1 : World), (Instr.makeSlice 22 (.int .i64 0) (.int .i64 (IntKind.wrap .i64 (((a0n : Nat) : Int) + (2 : Int))))).run Tryd.prog w = .ok (.slice t6a t6n t6c) w1 ∧
  (∃ (t8a : Option Addr) (t8n : Nat) (t8c : Nat) (w2 : World), (Builtin.append_ #[22, 22] 22 #[(.slice t6a t6n t6c), (.slice a0a a0n a0c)]).run Tryd.prog w1 = .ok (.slice t8a t8n t8c) w2 ∧
    (∃ (t9a : Option Addr) (t9n : Nat) (t9c : Nat) (w3 : World), (Instr.buildSlice 22 2 #[(0, (.int .u8 165)), (1, (.int .u8 90))]).run Tryd.prog w2 = .ok (.slice t9a t9n t9c) w3 ∧
      (∃ (t10a : Option Addr) (t10n : Nat) (t10c : Nat) (w4 : World), (Builtin.append_ #[22, 22] 22 #[(.slice t8a t8n t8c), (.slice t9a t9n t9c)]).run Tryd.prog w3 = .ok (.slice t10a t10n t10c) w4 ∧
        (0 ≤ ((a0n : Nat) : Int) ∧ ((a0n : Nat) : Int) ≤ ((t10c : Nat) : Int) ∧
          (R (.returned (.slice t10a (a0n) t10c)) w4)))))) : Calls Tryd.prog 6 #[(.slice a0a a0n a0c)] w R :=
  calls_of_ev (args := [(.slice a0a a0n a0c)])
    (tc := .seq (.reg (.op .p (.nil))) (.seq (.reg (.op .p (.op .p (.op .p (.op (.r (.slice)) (.op .p (.op (.r (.slice)) (.op (.r (.slice)) (.op (.r (.slice)) (.op .p (.op .p (.op .sl (.op .p (.nil)))))))))))))) (.leaf)))
    (by kernel_rfl) Tryd.func6 (by kernel_rfl) (by kernel_rfl) (by kernel_rfl) (by kernel_rfl) h

set_option maxRecDepth 100000 in
theorem amphoranum_Kept_vc (a0a : Option Addr) (a0n : Nat) (a0c : Nat) (a1a : Option Addr) (a1n : Nat) (a1c : Nat) (w : World) (R : Ending → World → Prop) (h :
  ∃ (t7 : ByteArray), (convert 22 9 (.slice a0a a0n a0c)).run Tryd.prog w = .ok (.string t7) w ∧
  (∃ (t9 : ByteArray), (convert 22 9 (.slice a1a a1n a1c)).run Tryd.prog w = .ok (.string t9) w ∧
    ((((!(t7.toList == t9.toList)) || (decide (((a0c : Nat) : Int) < (IntKind.wrap .i64 (((a1n : Nat) : Int) + (2 : Int)))))) = true →
        (R (.returned (.bool false)) w)) ∧
      (((!(t7.toList == t9.toList)) || (decide (((a0c : Nat) : Int) < (IntKind.wrap .i64 (((a1n : Nat) : Int) + (2 : Int)))))) = false →
        (0 ≤ (IntKind.wrap .i64 (((a1n : Nat) : Int) + (2 : Int))) ∧ (IntKind.wrap .i64 (((a1n : Nat) : Int) + (2 : Int))) ≤ ((a0c : Nat) : Int) ∧
          (∃ (t27b t27o : Nat), a0a = some ⟨t27b, t27o, none⟩ ∧ 0 ≤ ((a1n : Nat) : Int) ∧ ((a1n : Nat) : Int) < (((Int.toNat (IntKind.wrap .i64 (((a1n : Nat) : Int) + (2 : Int)))) : Nat) : Int) ∧
            (∃ (t28 : Int), (Instr.loadAt 5 (.pointer (some ⟨t27b, t27o + Int.toNat ((a1n : Nat) : Int) * 1, none⟩))).run Tryd.prog w = .ok (.int .u8 t28) w ∧
              (((t28 == (165 : Int)) = true →
                  (∃ (t35b t35o : Nat), a0a = some ⟨t35b, t35o, none⟩ ∧ 0 ≤ (IntKind.wrap .i64 (((a1n : Nat) : Int) + (1 : Int))) ∧ (IntKind.wrap .i64 (((a1n : Nat) : Int) + (1 : Int))) < (((Int.toNat (IntKind.wrap .i64 (((a1n : Nat) : Int) + (2 : Int)))) : Nat) : Int) ∧
                    (∃ (t36 : Int), (Instr.loadAt 5 (.pointer (some ⟨t35b, t35o + Int.toNat (IntKind.wrap .i64 (((a1n : Nat) : Int) + (1 : Int))) * 1, none⟩))).run Tryd.prog w = .ok (.int .u8 t36) w ∧
                      (R (.returned (.bool (t36 == (90 : Int)))) w)))) ∧
                ((t28 == (165 : Int)) = false →
                  (R (.returned (.bool false)) w)))))))))) : Calls Tryd.prog 9 #[(.slice a0a a0n a0c), (.slice a1a a1n a1c)] w R :=
  calls_of_ev (args := [(.slice a0a a0n a0c), (.slice a1a a1n a1c)])
    (tc := .seq (.reg (.op .p (.nil))) (.seq (.seq (.reg (.op .p (.op (.ld (.str)) (.op .p (.op (.ld (.str)) (.op .p (.op .p (.ap 6 (.nil))))))))) (.cond (.seq (.reg (.op .p (.nil))) (.leaf)) (.leaf))) (.seq (.reg (.op .p (.op .p (.op .p (.op .p (.op .sl (.op .p (.nil)))))))) (.seq (.reg (.op .p (.op .p (.op .p (.op .ix (.op (.ld (.int .u8)) (.op .p (.op .p (.sp 30 (.op .p (.op .p (.op .p (.op .p (.op .ix (.op (.ld (.int .u8)) (.op .p (.op .p (.op .p (.nil)))))))))) (.op .p (.op .p (.op .p (.op .p (.op .p (.op .p (.op .p (.op .p (.op .p (.nil))))))))))))))))))) (.leaf)))))
    (by kernel_rfl) Tryd.func9 (by kernel_rfl) (by kernel_rfl) (by kernel_rfl) (by kernel_rfl) h

set_option maxRecDepth 100000 in
theorem amphoranum_Sum_vc (a0a : Option Addr) (a0n : Nat) (a0c : Nat) (a1 : Int) (w : World) (R : Ending → World → Prop) (h :
  ∃ (I : Int → Int → World → Prop) (μ : Int → Int → World → Nat), I 0 0 w ∧
  (∀ (x5 : Int) (x10 : Int), ∀ w1 : World, I x5 x10 w1 →
    (((decide (x10 < ((a0n : Nat) : Int))) = true →
        (∃ (t12b t12o : Nat), a0a = some ⟨t12b, t12o, none⟩ ∧ 0 ≤ x10 ∧ x10 < ((a0n : Nat) : Int) ∧
          (∃ (t13a : Option Addr) (t13n : Nat) (t13c : Nat), (Instr.loadAt 22 (.pointer (some ⟨t12b, t12o + Int.toNat x10 * 1, none⟩))).run Tryd.prog w1 = .ok (.slice t13a t13n t13c) w1 ∧
            (((decide (((t13n : Nat) : Int) > (IntKind.wrap .i64 (a1 - x5)))) = true →
                (R (.returned (.int .i64 a1)) w1)) ∧
              ((decide (((t13n : Nat) : Int) > (IntKind.wrap .i64 (a1 - x5)))) = false →
                (I (IntKind.wrap .i64 (x5 + ((t13n : Nat) : Int))) (IntKind.wrap .i64 (x10 + (1 : Int))) w1 ∧ μ (IntKind.wrap .i64 (x5 + ((t13n : Nat) : Int))) (IntKind.wrap .i64 (x10 + (1 : Int))) w1 < μ x5 x10 w1)))))) ∧
      ((decide (x10 < ((a0n : Nat) : Int))) = false →
        (R (.returned (.int .i64 x5)) w1))))) : Calls Tryd.prog 20 #[(.slice a0a a0n a0c), (.int .i64 a1)] w R :=
  calls_of_ev (args := [(.slice a0a a0n a0c), (.int .i64 a1)])
    (tc := .seq (.reg (.op .p (.nil))) (.seq (.reg (.op .p (.nil))) (.seq (.seq (.reg (.op .p (.op .p (.op .p (.nil))))) (.blk (.loop [4, 5, 7, 10, 11, 12, 13, 14, 15, 16, 17, 18, 19, 20, 21, 22, 23, 24, 25] [5, 10] [.int .i64, .int .i64] (.seq (.reg (.op .p (.nil))) (.seq (.cond (.leaf) (.leaf)) (.seq (.blk (.seq (.reg (.op .ix (.op (.ld (.slice)) (.op .p (.nil))))) (.seq (.seq (.reg (.op .p (.op .p (.op .p (.op .p (.op .p (.op .p (.nil)))))))) (.cond (.seq (.reg (.op .p (.op .p (.nil)))) (.leaf)) (.leaf))) (.reg (.op .p (.op .p (.op .p (.op .p (.op .p (.nil)))))))))) (.reg (.op .p (.op .p (.nil)))))))))) (.seq (.reg (.op .p (.op .p (.nil)))) (.leaf)))))
    (by kernel_rfl) Tryd.func20 (by kernel_rfl) (by kernel_rfl) (by kernel_rfl) (by kernel_rfl) h

set_option maxRecDepth 100000 in
theorem slices_Clone_byte_byte_vc (a0a : Option Addr) (a0n : Nat) (a0c : Nat) (w : World) (R : Ending → World → Prop) (h :
  (a0a.isNone = true →
    (R (.returned (.slice none 0 0)) w)) ∧
  (a0a.isNone = false →
    (∃ (t5a : Option Addr) (t5n : Nat) (t5c : Nat) (w1 : World), (Instr.buildSlice 22 0 #[]).run Tryd.prog w = .ok (.slice t5a t5n t5c) w1 ∧
      (∃ (t7a : Option Addr) (t7n : Nat) (t7c : Nat) (w2 : World), (Builtin.append_ #[22, 22] 22 #[(.slice t5a t5n t5c), (.slice a0a a0n a0c)]).run Tryd.prog w1 = .ok (.slice t7a t7n t7c) w2 ∧
        (R (.returned (.slice t7a t7n t7c)) w2))))) : Calls Tryd.prog 19 #[(.slice a0a a0n a0c)] w R :=
  calls_of_ev (args := [(.slice a0a a0n a0c)])
    (tc := .seq (.reg (.op .p (.nil))) (.seq (.seq (.reg (.op .p (.op .p (.nil)))) (.cond (.seq (.reg (.op .p (.nil))) (.leaf)) (.leaf))) (.seq (.reg (.op (.r (.slice)) (.op .p (.op (.r (.slice)) (.op .p (.nil)))))) (.leaf))))
    (by kernel_rfl) Tryd.func19 (by kernel_rfl) (by kernel_rfl) (by kernel_rfl) (by kernel_rfl) h

set_option maxRecDepth 100000 in
theorem bits_RotateLeft32_vc (a0 : Int) (a1 : Int) (w : World) (R : Ending → World → Prop) (h :
  0 ≤ (band .u64 (IntKind.wrap .u64 a1) (31 : Int)) ∧
  (0 ≤ (IntKind.wrap .u64 ((32 : Int) - (band .u64 (IntKind.wrap .u64 a1) (31 : Int)))) ∧
    (R (.returned (.int .u32 (bor .u32 (shlI .u32 a0 (band .u64 (IntKind.wrap .u64 a1) (31 : Int))) (shrI .u32 a0 (IntKind.wrap .u64 ((32 : Int) - (band .u64 (IntKind.wrap .u64 a1) (31 : Int)))))))) w))) : Calls Tryd.prog 91 #[(.int .u32 a0), (.int .i64 a1)] w R :=
  calls_of_ev (args := [(.int .u32 a0), (.int .i64 a1)])
    (tc := .seq (.reg (.op .p (.nil))) (.seq (.reg (.op .p (.op .p (.op .p (.op .p (.nil)))))) (.seq (.reg (.op .p (.op .p (.op .sc (.op .p (.op .p (.op .p (.op .sc (.op .p (.op .p (.nil))))))))))) (.leaf))))
    (by kernel_rfl) Tryd.func91 (by kernel_rfl) (by kernel_rfl) (by kernel_rfl) (by kernel_rfl) h

set_option maxRecDepth 100000 in
theorem amphoranum_Apart_vc (a0a : Option Addr) (a0n : Nat) (a0c : Nat) (w : World) (R : Ending → World → Prop) (h :
  ∃ (I : Int → World → Prop) (μ : Int → World → Nat), I 0 w ∧
  (∀ (x15 : Int), ∀ w1 : World, I x15 w1 →
    (((decide (x15 < ((a0n : Nat) : Int))) = true →
        (∃ (t18b t18o : Nat), a0a = some ⟨t18b, t18o, none⟩ ∧ 0 ≤ x15 ∧ x15 < ((a0n : Nat) : Int) ∧
          (∃ (t19a : Option Addr) (t19n : Nat) (t19c : Nat), (Instr.loadAt 22 (.pointer (some ⟨t18b, t18o + Int.toNat x15 * 1, none⟩))).run Tryd.prog w1 = .ok (.slice t19a t19n t19c) w1 ∧
            (∃ (I_1 : Int → World → Prop) (μ_1 : Int → World → Nat), I_1 0 w1 ∧
              (∀ (x22 : Int), ∀ w2 : World, I_1 x22 w2 →
                (((decide (x22 < ((t19n : Nat) : Int))) = true →
                    (∃ (t34b t34o : Nat), t19a = some ⟨t34b, t34o, none⟩ ∧ 0 ≤ x22 ∧ x22 < ((t19n : Nat) : Int) ∧
                      (∃ w3 : World, (Instr.storeAt 5 (.pointer (some ⟨t34b, t34o + Int.toNat x22 * 1, none⟩)) (.int .u8 (IntKind.wrap .u8 (IntKind.wrap .i64 ((IntKind.wrap .i64 ((IntKind.wrap .i64 ((31 : Int) * x15)) + (IntKind.wrap .i64 ((7 : Int) * x22)))) + (1 : Int)))))).run Tryd.prog w2 = .ok () w3 ∧
                        (I_1 (IntKind.wrap .i64 (x22 + (1 : Int))) w3 ∧ μ_1 (IntKind.wrap .i64 (x22 + (1 : Int))) w3 < μ_1 x22 w2)))) ∧
                  ((decide (x22 < ((t19n : Nat) : Int))) = false →
                    (I (IntKind.wrap .i64 (x15 + (1 : Int))) w2 ∧ μ (IntKind.wrap .i64 (x15 + (1 : Int))) w2 < μ x15 w1)))))))) ∧
      ((decide (x15 < ((a0n : Nat) : Int))) = false →
        (∃ (t37a : Option Addr) (t37n : Nat) (t37c : Nat) (w4 : World), (Instr.buildSlice 35 0 #[]).run Tryd.prog w1 = .ok (.slice t37a t37n t37c) w4 ∧
          (∃ (I_1 : Option Addr → Nat → Nat → Int → World → Prop) (μ_1 : Option Addr → Nat → Nat → Int → World → Nat), I_1 t37a t37n t37c 0 w4 ∧
            (∀ (x6a : Option Addr) (x6n : Nat) (x6c : Nat) (x40 : Int), ∀ w5 : World, I_1 x6a x6n x6c x40 w5 →
              (((decide (x40 < ((a0n : Nat) : Int))) = true →
                  (∃ (t43b t43o : Nat), a0a = some ⟨t43b, t43o, none⟩ ∧ 0 ≤ x40 ∧ x40 < ((a0n : Nat) : Int) ∧
                    (∃ (t44a : Option Addr) (t44n : Nat) (t44c : Nat), (Instr.loadAt 22 (.pointer (some ⟨t43b, t43o + Int.toNat x40 * 1, none⟩))).run Tryd.prog w5 = .ok (.slice t44a t44n t44c) w5 ∧
                      (∃ (I_2 : Option Addr → Nat → Nat → World → Prop) (μ_2 : Option Addr → Nat → Nat → World → Nat), I_2 t44a t44n t44c w5 ∧
                        (∀ (x8a : Option Addr) (x8n : Nat) (x8c : Nat), ∀ w6 : World, I_2 x8a x8n x8c w6 →
                          (((decide (((x8n : Nat) : Int) < (IntKind.wrap .i64 (((t44n : Nat) : Int) + (12 : Int))))) = true →
                              (∃ (t61a : Option Addr) (t61n : Nat) (t61c : Nat) (w7 : World), (Instr.buildSlice 22 1 #[(0, (.int .u8 (IntKind.wrap .u8 (IntKind.wrap .i64 ((IntKind.wrap .i64 ((IntKind.wrap .i64 ((31 : Int) * x40)) + (IntKind.wrap .i64 ((7 : Int) * ((x8n : Nat) : Int))))) + (1 : Int))))))]).run Tryd.prog w6 = .ok (.slice t61a t61n t61c) w7 ∧
                                (∃ (t62a : Option Addr) (t62n : Nat) (t62c : Nat) (w8 : World), (Builtin.append_ #[22, 22] 22 #[(.slice x8a x8n x8c), (.slice t61a t61n t61c)]).run Tryd.prog w7 = .ok (.slice t62a t62n t62c) w8 ∧
                                  (I_2 t62a t62n t62c w8 ∧ μ_2 t62a t62n t62c w8 < μ_2 x8a x8n x8c w6)))) ∧
                            ((decide (((x8n : Nat) : Int) < (IntKind.wrap .i64 (((t44n : Nat) : Int) + (12 : Int))))) = false →
                              (∃ (t65a : Option Addr) (t65n : Nat) (t65c : Nat) (w9 : World), (Instr.buildSlice 35 1 #[(0, (.slice x8a x8n x8c))]).run Tryd.prog w6 = .ok (.slice t65a t65n t65c) w9 ∧
                                (∃ (t66a : Option Addr) (t66n : Nat) (t66c : Nat) (w10 : World), (Builtin.append_ #[35, 35] 35 #[(.slice x6a x6n x6c), (.slice t65a t65n t65c)]).run Tryd.prog w9 = .ok (.slice t66a t66n t66c) w10 ∧
                                  (I_1 t66a t66n t66c (IntKind.wrap .i64 (x40 + (1 : Int))) w10 ∧ μ_1 t66a t66n t66c (IntKind.wrap .i64 (x40 + (1 : Int))) w10 < μ_1 x6a x6n x6c x40 w5)))))))))) ∧
                ((decide (x40 < ((a0n : Nat) : Int))) = false →
                  (∃ (I_2 : Int → World → Prop) (μ_2 : Int → World → Nat), I_2 0 w5 ∧
                    (∀ (x70 : Int), ∀ w11 : World, I_2 x70 w11 →
                      (((decide (x70 < ((x6n : Nat) : Int))) = true →
                          (∃ (t73b t73o : Nat), x6a = some ⟨t73b, t73o, none⟩ ∧ 0 ≤ x70 ∧ x70 < ((x6n : Nat) : Int) ∧
                            (∃ (t74a : Option Addr) (t74n : Nat) (t74c : Nat), (Instr.loadAt 22 (.pointer (some ⟨t73b, t73o + Int.toNat x70 * 1, none⟩))).run Tryd.prog w11 = .ok (.slice t74a t74n t74c) w11 ∧
                              (∃ (I_3 : Int → World → Prop) (μ_3 : Int → World → Nat), I_3 0 w11 ∧
                                (∀ (x77 : Int), ∀ w12 : World, I_3 x77 w12 →
                                  (((decide (x77 < ((t74n : Nat) : Int))) = true →
                                      (∃ J : Bool → World → Prop, (∃ S : World → Prop, S w12.drew ∧
                                          (∃ (t82b t82o : Nat), t74a = some ⟨t82b, t82o, none⟩ ∧ 0 ≤ x77 ∧ x77 < ((t74n : Nat) : Int) ∧
                                            (∃ (t83 : Int), (∀ w' : World, S w' → (Instr.loadAt 5 (.pointer (some ⟨t82b, t82o + Int.toNat x77 * 1, none⟩))).run Tryd.prog w' = .ok (.int .u8 t83) w') ∧
                                              (((t83 != (IntKind.wrap .u8 (IntKind.wrap .i64 ((IntKind.wrap .i64 ((IntKind.wrap .i64 ((31 : Int) * x70)) + (IntKind.wrap .i64 ((7 : Int) * x77)))) + (1 : Int))))) = true →
                                                  (J true w12.drew)) ∧
                                                ((t83 != (IntKind.wrap .u8 (IntKind.wrap .i64 ((IntKind.wrap .i64 ((IntKind.wrap .i64 ((31 : Int) * x70)) + (IntKind.wrap .i64 ((7 : Int) * x77)))) + (1 : Int))))) = false →
                                                  (∃ (t96b t96o : Nat), a0a = some ⟨t96b, t96o, none⟩ ∧ 0 ≤ x70 ∧ x70 < ((a0n : Nat) : Int) ∧
                                                    (∃ (t97a : Option Addr) (t97n : Nat) (t97c : Nat), (∀ w' : World, S w' → (Instr.loadAt 22 (.pointer (some ⟨t96b, t96o + Int.toNat x70 * 1, none⟩))).run Tryd.prog w' = .ok (.slice t97a t97n t97c) w') ∧
                                                      (((decide (x77 < ((t97n : Nat) : Int))) = true →
                                                          (∃ (t103b t103o : Nat), a0a = some ⟨t103b, t103o, none⟩ ∧ 0 ≤ x70 ∧ x70 < ((a0n : Nat) : Int) ∧
                                                            (∃ (t110b t110o : Nat), t74a = some ⟨t110b, t110o, none⟩ ∧ 0 ≤ x77 ∧ x77 < ((t74n : Nat) : Int) ∧
                                                              (∃ (t104a : Option Addr) (t104n : Nat) (t104c : Nat), (∀ w' : World, S w' → (Instr.loadAt 22 (.pointer (some ⟨t103b, t103o + Int.toNat x70 * 1, none⟩))).run Tryd.prog w' = .ok (.slice t104a t104n t104c) w') ∧
                                                                (∃ (t106b t106o : Nat), t104a = some ⟨t106b, t106o, none⟩ ∧ 0 ≤ x77 ∧ x77 < ((t104n : Nat) : Int) ∧
                                                                  (∃ (t107 : Int), (∀ w' : World, S w' → (Instr.loadAt 5 (.pointer (some ⟨t106b, t106o + Int.toNat x77 * 1, none⟩))).run Tryd.prog w' = .ok (.int .u8 t107) w') ∧
                                                                    (∃ (t111 : Int), (∀ w' : World, S w' → (Instr.loadAt 5 (.pointer (some ⟨t110b, t110o + Int.toNat x77 * 1, none⟩))).run Tryd.prog w' = .ok (.int .u8 t111) w') ∧
                                                                      (J (t107 != t111) w12.drew)))))))) ∧
                                                        ((decide (x77 < ((t97n : Nat) : Int))) = false →
                                                          (J false w12.drew)))))))))) ∧
                                        (∀ (x114 : Bool), ∀ w13 : World, J x114 w13 →
                                          ((x114 = true →
                                              (R (.returned (.bool false)) w13)) ∧
                                            (x114 = false →
                                              (I_3 (IntKind.wrap .i64 (x77 + (1 : Int))) w13 ∧ μ_3 (IntKind.wrap .i64 (x77 + (1 : Int))) w13 < μ_3 x77 w12)))))) ∧
                                    ((decide (x77 < ((t74n : Nat) : Int))) = false →
                                      (I_2 (IntKind.wrap .i64 (x70 + (1 : Int))) w12 ∧ μ_2 (IntKind.wrap .i64 (x70 + (1 : Int))) w12 < μ_2 x70 w11)))))))) ∧
                        ((decide (x70 < ((x6n : Nat) : Int))) = false →
                          (R (.returned (.bool true)) w11)))))))))))))) : Calls Tryd.prog 8 #[(.slice a0a a0n a0c)] w R :=
  calls_of_ev (args := [(.slice a0a a0n a0c)])
    (tc := .seq (.reg (.op .p (.nil))) (.seq (.seq (.reg (.op .p (.op .p (.op .p (.nil))))) (.blk (.loop [3, 4, 5, 15, 16, 17, 18, 19, 20, 21, 22, 23, 24, 25, 26, 27, 28, 29, 30, 31, 32, 33, 34, 35, 36] [15] [.int .i64] (.seq (.reg (.op .p (.nil))) (.seq (.cond (.leaf) (.leaf)) (.seq (.blk (.seq (.reg (.op .p (.op .ix (.op (.ld (.slice)) (.op .p (.op .p (.nil))))))) (.seq (.reg (.op .p (.op .p (.op .p (.nil))))) (.blk (.loop [5, 22, 23, 24, 25, 26, 27, 28, 29, 30, 31, 32, 33, 34, 35] [22] [.int .i64] (.seq (.reg (.op .p (.nil))) (.seq (.cond (.leaf) (.leaf)) (.seq (.blk (.seq (.reg (.op .p (.op .p (.nil)))) (.reg (.op .p (.op .p (.op .p (.op .p (.op .p (.op .p (.op .p (.op .p (.op .p (.op .ix (.op .u (.nil))))))))))))))) (.reg (.op .p (.op .p (.nil)))))))))))) (.reg (.op .p (.op .p (.nil)))))))))) (.seq (.reg (.op (.r (.slice)) (.op .p (.nil)))) (.seq (.seq (.reg (.op .p (.op .p (.op .p (.nil))))) (.blk (.loop [6, 7, 8, 9, 40, 41, 42, 43, 44, 45, 46, 47, 48, 49, 50, 51, 52, 53, 54, 55, 56, 57, 58, 59, 60, 61, 62, 63, 64, 65, 66, 67] [6, 40] [.slice, .int .i64] (.seq (.reg (.op .p (.nil))) (.seq (.cond (.leaf) (.leaf)) (.seq (.blk (.seq (.reg (.op .p (.op .ix (.op (.ld (.slice)) (.op .p (.op .p (.nil))))))) (.seq (.reg (.op .p (.op .p (.op .p (.nil))))) (.seq (.blk (.loop [8, 47, 48, 49, 50, 51, 52, 53, 54, 55, 56, 57, 58, 59, 60, 61, 62] [8] [.slice] (.seq (.seq (.reg (.op .p (.op .p (.op .p (.op .p (.op .p (.nil))))))) (.cond (.leaf) (.leaf))) (.blk (.reg (.op .p (.op .p (.op .p (.op .p (.op .p (.op .p (.op .p (.op .p (.op .p (.op (.r (.slice)) (.op (.r (.slice)) (.op .p (.nil)))))))))))))))))) (.reg (.op .p (.op .p (.op (.r (.slice)) (.op (.r (.slice)) (.op .p (.nil))))))))))) (.reg (.op .p (.op .p (.nil)))))))))) (.seq (.seq (.reg (.op .p (.op .p (.op .p (.nil))))) (.blk (.loop [2, 10, 11, 12, 70, 71, 72, 73, 74, 75, 76, 77, 78, 79, 80, 81, 82, 83, 84, 85, 86, 87, 88, 89, 90, 91, 92, 93, 94, 95, 96, 97, 98, 99, 100, 101, 102, 103, 104, 105, 106, 107, 108, 109, 110, 111, 112, 113, 114, 115, 116] [70] [.int .i64] (.seq (.reg (.op .p (.nil))) (.seq (.cond (.leaf) (.leaf)) (.seq (.blk (.seq (.reg (.op .p (.op .ix (.op (.ld (.slice)) (.op .p (.op .p (.nil))))))) (.seq (.reg (.op .p (.op .p (.op .p (.nil))))) (.blk (.loop [2, 12, 77, 78, 79, 80, 81, 82, 83, 84, 85, 86, 87, 88, 89, 90, 91, 92, 93, 94, 95, 96, 97, 98, 99, 100, 101, 102, 103, 104, 105, 106, 107, 108, 109, 110, 111, 112, 113, 114, 115] [77] [.int .i64] (.seq (.reg (.op .p (.nil))) (.seq (.cond (.leaf) (.leaf)) (.seq (.blk (.seq (.reg (.op .p (.op .p (.nil)))) (.seq (.join [80, 81, 82, 83, 84, 85, 86, 87, 88, 89, 90, 91, 92, 93, 94, 95, 96, 97, 98, 99, 100, 101, 102, 103, 104, 105, 106, 107, 108, 109, 110, 111, 112, 113, 114] [114] [.bool] (.drawS (.tk 0 .p (.tk 1 .p (.tk 2 .ix (.tk 4 .p (.tk 5 .p (.tk 6 .p (.tk 7 .p (.tk 8 .p (.tk 9 .p (.tk 10 .p (.ts 3 (.int .u8) (.tk 11 .p (.tk 12 .p (.sp 92 (.tk 13 .p (.tk 14 .p (.tk 15 .p (.tk 16 .p (.ts 17 .val (.tk 18 .p (.tk 19 .p (.tk 20 .p (.tk 21 .p (.tk 22 .p (.tk 23 .p (.tk 25 .p (.tk 28 .p (.tk 29 .p (.tk 30 .p (.ts 24 .val (.tk 26 .p (.ts 27 .val (.ts 31 .val (.tk 32 .p (.tk 33 .p (.tk 34 .p (.nil))))))))))))))))))))))) (.tk 13 .p (.tk 14 .p (.tk 15 .p (.tk 16 .ix (.ts 17 (.slice) (.tk 18 .p (.tk 19 .p (.tk 20 .p (.sp 100 (.tk 21 .p (.tk 22 .p (.tk 23 .ix (.tk 25 .p (.tk 28 .p (.tk 29 .p (.tk 30 .ix (.ts 24 (.slice) (.tk 26 .ix (.ts 27 (.int .u8) (.ts 31 (.int .u8) (.tk 32 .p (.tk 33 .p (.tk 34 .p (.nil))))))))))))))) (.tk 21 .p (.tk 22 .p (.tk 23 .p (.tk 25 .p (.tk 28 .p (.tk 29 .p (.tk 30 .p (.ts 24 .val (.tk 26 .p (.ts 27 .val (.ts 31 .val (.tk 32 .p (.tk 33 .p (.tk 34 .p (.nil)))))))))))))))))))))))))))))))))))))) [])) (.cond (.seq (.reg (.op .p (.nil))) (.leaf)) (.leaf))))) (.reg (.op .p (.op .p (.nil)))))))))))) (.reg (.op .p (.op .p (.nil)))))))))) (.seq (.reg (.op .p (.nil))) (.leaf)))))))
    (by kernel_rfl) Tryd.func8 (by kernel_rfl) (by kernel_rfl) (by kernel_rfl) (by kernel_rfl) h

end Go.Proofs.YtmdandkoajocpaaDoor
