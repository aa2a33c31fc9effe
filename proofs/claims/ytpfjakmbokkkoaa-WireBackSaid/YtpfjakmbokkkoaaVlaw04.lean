/- Verification conditions of functions, printed by the session's own program vc.py: out of each, Calls (conditions: none). -/
import Derived.Test.YtpfjakmbokkkoaaRows
import Derived.Test.YtpfjakmbokkkoaaSxRun
namespace Go.Proofs.Ytpfjakmbokkkoaa
open Go Go.Proofs.Ytpfjakmbokkkoaa.Sx

set_option maxRecDepth 100000 in
theorem amphoralaw04_alive_vc  (w : World) (R : Ending → World → Prop) (h :
  ∃ (t5a : Option Addr) (t5n : Nat) (t5c : Nat) (w1 : World), (Instr.buildSlice 22 3 #[(0, (.int .u8 172)), (1, (.int .u8 2)), (2, (.int .u8 255))]).run Try.prog w = .ok (.slice t5a t5n t5c) w1 ∧
  (Calls Try.prog 12 #[(.slice t5a t5n t5c)] w1 fun (e6 : Ending) (w2 : World) => ∃ (t6_0 : Int) (t6_1 : Int) (t6_2 : Value), e6 = .returned (.tuple #[(.int .i64 t6_0), (.int .i64 t6_1), t6_2]) ∧
    (Calls Try.prog 18 #[(.int .i64 300)] w2 fun (e10 : Ending) (w3 : World) => ∃ (t10a : Option Addr) (t10n : Nat) (t10c : Nat), e10 = .returned (.slice t10a t10n t10c) ∧
      (∃ (t11 : ByteArray), (convert 22 9 (.slice t10a t10n t10c)).run Try.prog w3 = .ok (.string t11) w3 ∧
        (((((t11.toList == (ByteArray.mk #[172, 2]).toList) && (t6_0 == (300 : Int))) && (t6_1 == (2 : Int))) = true →
            (∃ (t23 : Bool), (eqlS .eql 26 (.tmp 22) (.const .nilIface) t6_2 .nilIface).run Try.prog w3 = .ok (.bool t23) w3 ∧
              (R (.returned (.bool t23)) w3))) ∧
          ((((t11.toList == (ByteArray.mk #[172, 2]).toList) && (t6_0 == (300 : Int))) && (t6_1 == (2 : Int))) = false →
            (R (.returned (.bool false)) w3))))))) : Calls Try.prog 10 #[] w R :=
  calls_of_ev (args := [])
    (tc := .seq (.reg (.op .p (.nil))) (.seq (.reg (.op (.r (.slice)) (.op (.cl [.int .i64, .int .i64, .val]) (.op .p (.op .p (.op .p (.op .p (.op .p (.op .p (.op .p (.nil))))))))))) (.seq (.reg (.op (.cl [.slice]) (.op (.ld (.str)) (.op .p (.op .p (.ap 2 (.op .p (.ap 2 (.op .p (.sp 21 (.op .p (.op (.ld (.bool)) (.op .p (.op .p (.nil))))) (.op .p (.op .p (.op .p (.op .p (.nil))))))))))))))) (.leaf))))
    (by kernel_rfl) Try.func10 (by kernel_rfl) (by kernel_rfl) (by kernel_rfl) (by kernel_rfl) h

set_option maxRecDepth 100000 in
theorem amphoralaw04_same_vc (a0a : Option Addr) (a0n : Nat) (a0c : Nat) (a1a : Option Addr) (a1n : Nat) (a1c : Nat) (w : World) (R : Ending → World → Prop) (h :
  ((((a0n : Nat) : Int) != ((a1n : Nat) : Int)) = true →
    (R (.returned (.bool false)) w)) ∧
  ((((a0n : Nat) : Int) != ((a1n : Nat) : Int)) = false →
    (∃ (I : Int → World → Prop) (μ : Int → World → Nat), I 0 w ∧
      (∀ (x13 : Int), ∀ w1 : World, I x13 w1 →
        (((decide (x13 < ((a0n : Nat) : Int))) = true →
            (∃ S : World → Prop, S w1.drew ∧
              (∃ (t18b t18o : Nat), a0a = some ⟨t18b, t18o, none⟩ ∧ 0 ≤ x13 ∧ x13 < ((a0n : Nat) : Int) ∧
                (∃ (t23b t23o : Nat), a1a = some ⟨t23b, t23o, none⟩ ∧ 0 ≤ x13 ∧ x13 < ((a1n : Nat) : Int) ∧
                  (∃ (t19a : Option Addr) (t19n : Nat) (t19c : Nat), (∀ w' : World, S w' → (Instr.loadAt 22 (.pointer (some ⟨t18b, t18o + Int.toNat x13 * 1, none⟩))).run Try.prog w' = .ok (.slice t19a t19n t19c) w') ∧
                    (∃ (t20 : ByteArray), (∀ w' : World, S w' → (convert 22 9 (.slice t19a t19n t19c)).run Try.prog w' = .ok (.string t20) w') ∧
                      (∃ (t24a : Option Addr) (t24n : Nat) (t24c : Nat), (∀ w' : World, S w' → (Instr.loadAt 22 (.pointer (some ⟨t23b, t23o + Int.toNat x13 * 1, none⟩))).run Try.prog w' = .ok (.slice t24a t24n t24c) w') ∧
                        (∃ (t25 : ByteArray), (∀ w' : World, S w' → (convert 22 9 (.slice t24a t24n t24c)).run Try.prog w' = .ok (.string t25) w') ∧
                          (((!(t20.toList == t25.toList)) = true →
                              (R (.returned (.bool false)) w1.drew)) ∧
                            ((!(t20.toList == t25.toList)) = false →
                              (I (IntKind.wrap .i64 (x13 + (1 : Int))) w1.drew ∧ μ (IntKind.wrap .i64 (x13 + (1 : Int))) w1.drew < μ x13 w1))))))))))) ∧
          ((decide (x13 < ((a0n : Nat) : Int))) = false →
            (R (.returned (.bool true)) w1))))))) : Calls Try.prog 25 #[(.slice a0a a0n a0c), (.slice a1a a1n a1c)] w R :=
  calls_of_ev (args := [(.slice a0a a0n a0c), (.slice a1a a1n a1c)])
    (tc := .seq (.reg (.op .p (.nil))) (.seq (.seq (.reg (.op .p (.op .p (.op .p (.op .p (.op .p (.nil))))))) (.cond (.seq (.reg (.op .p (.nil))) (.leaf)) (.leaf))) (.seq (.seq (.reg (.op .p (.op .p (.op .p (.nil))))) (.blk (.loop [4, 5, 13, 14, 15, 16, 17, 18, 19, 20, 21, 22, 23, 24, 25, 26, 27] [13] [.int .i64] (.seq (.reg (.op .p (.nil))) (.seq (.cond (.leaf) (.leaf)) (.seq (.blk (.seq (.reg (.op .p (.op .p (.nil)))) (.seq (.drawS (.tk 0 .p (.tk 1 .p (.tk 2 .ix (.tk 5 .p (.tk 6 .p (.tk 7 .ix (.ts 3 (.slice) (.ts 4 (.str) (.ts 8 (.slice) (.ts 9 (.str) (.tk 10 .p (.nil)))))))))))) []) (.cond (.seq (.reg (.op .p (.nil))) (.leaf)) (.leaf))))) (.reg (.op .p (.op .p (.nil)))))))))) (.seq (.reg (.op .p (.nil))) (.leaf)))))
    (by kernel_rfl) Try.func25 (by kernel_rfl) (by kernel_rfl) (by kernel_rfl) (by kernel_rfl) h

set_option maxRecDepth 100000 in
theorem amphoralaw04_frames_vc (a0 : Int) (a1a : Option Addr) (a1n : Nat) (a1c : Nat) (a2a : Option Addr) (a2n : Nat) (a2c : Nat) (a3a : Option Addr) (a3n : Nat) (a3c : Nat) (w : World) (R : Ending → World → Prop) (h :
  Calls Try.prog 10 #[] w fun (e18 : Ending) (w1 : World) => ∃ (t18 : Bool), e18 = .returned (.bool t18) ∧
  (((!t18) = true →
      (R (.returned (.bool false)) w1)) ∧
    ((!t18) = false →
      (((((decide (((a1n : Nat) : Int) > (262144 : Int))) || (decide (((a2n : Nat) : Int) > (262144 : Int)))) || (decide (((a3n : Nat) : Int) > (262144 : Int)))) = true →
          (R (.returned (.bool true)) w1)) ∧
        ((((decide (((a1n : Nat) : Int) > (262144 : Int))) || (decide (((a2n : Nat) : Int) > (262144 : Int)))) || (decide (((a3n : Nat) : Int) > (262144 : Int)))) = false →
          (∃ (t33a : Option Addr) (t33n : Nat) (t33c : Nat) (w2 : World), (Instr.buildSlice 22 0 #[]).run Try.prog w1 = .ok (.slice t33a t33n t33c) w2 ∧
            (∃ (t35a : Option Addr) (t35n : Nat) (t35c : Nat) (w3 : World), (Builtin.append_ #[22, 22] 22 #[(.slice t33a t33n t33c), (.slice a1a a1n a1c)]).run Try.prog w2 = .ok (.slice t35a t35n t35c) w3 ∧
              (∃ (t37a : Option Addr) (t37n : Nat) (t37c : Nat) (w4 : World), (Builtin.append_ #[22, 22] 22 #[(.slice t35a t35n t35c), (.slice a2a a2n a2c)]).run Try.prog w3 = .ok (.slice t37a t37n t37c) w4 ∧
                (∃ J : Bool → World → Prop, (∃ S : World → Prop, S w4.drew ∧
                    (∃ (t41a : Option Addr) (t41n : Nat) (t41c : Nat) (w5 : World), (Instr.buildSlice 39 2 #[(0, (.slice a1a a1n a1c)), (1, (.slice a2a a2n a2c))]).run Try.prog w4.drew = .ok (.slice t41a t41n t41c) w5 ∧
                      (∃ S_1 : World → Prop, (∀ w' : World, S_1 w' → S w') ∧ S_1 w5 ∧
                        (Calls Try.prog 43 #[(.int .u8 a0), (.slice t41a t41n t41c)] w5 fun (e42 : Ending) (w6 : World) => ∃ (t42a : Option Addr) (t42n : Nat) (t42c : Nat), e42 = .returned (.slice t42a t42n t42c) ∧
                          (∃ S_2 : World → Prop, (∀ w' : World, S_2 w' → S_1 w') ∧ S_2 w6 ∧
                            (∃ (t43 : ByteArray), (∀ w' : World, S_2 w' → (convert 22 9 (.slice t42a t42n t42c)).run Try.prog w' = .ok (.string t43) w') ∧
                              (Calls Try.prog 46 #[(.int .u8 a0), (.slice t37a t37n t37c)] w6 fun (e46 : Ending) (w7 : World) => ∃ (t46a : Option Addr) (t46n : Nat) (t46c : Nat), e46 = .returned (.slice t46a t46n t46c) ∧
                                (∃ S_3 : World → Prop, (∀ w' : World, S_3 w' → S_2 w') ∧ S_3 w7 ∧
                                  (∃ (t47 : ByteArray), (∀ w' : World, S_3 w' → (convert 22 9 (.slice t46a t46n t46c)).run Try.prog w' = .ok (.string t47) w') ∧
                                    (((!(t43.toList == t47.toList)) = true →
                                        (S_3 w7 ∧
                                          (S_3 w7 ∧
                                            (J true w7)))) ∧
                                      ((!(t43.toList == t47.toList)) = false →
                                        (Calls Try.prog 43 #[(.int .u8 a0), (.slice none 0 0)] w7 fun (e51 : Ending) (w8 : World) => ∃ (t51a : Option Addr) (t51n : Nat) (t51c : Nat), e51 = .returned (.slice t51a t51n t51c) ∧
                                          (∃ S_4 : World → Prop, (∀ w' : World, S_4 w' → S_3 w') ∧ S_4 w8 ∧
                                            (∃ (t52 : ByteArray), (∀ w' : World, S_4 w' → (convert 22 9 (.slice t51a t51n t51c)).run Try.prog w' = .ok (.string t52) w') ∧
                                              (Calls Try.prog 46 #[(.int .u8 a0), (.slice none 0 0)] w8 fun (e54 : Ending) (w9 : World) => ∃ (t54a : Option Addr) (t54n : Nat) (t54c : Nat), e54 = .returned (.slice t54a t54n t54c) ∧
                                                (∃ S_5 : World → Prop, (∀ w' : World, S_5 w' → S_4 w') ∧ S_5 w9 ∧
                                                  (∃ (t55 : ByteArray), (∀ w' : World, S_5 w' → (convert 22 9 (.slice t54a t54n t54c)).run Try.prog w' = .ok (.string t55) w') ∧
                                                    (J (!(t52.toList == t55.toList)) w9)))))))))))))))))) ∧
                  (∀ (x57 : Bool), ∀ w10 : World, J x57 w10 →
                    ((x57 = true →
                        (R (.returned (.bool false)) w10)) ∧
                      (x57 = false →
                        (Calls Try.prog 11 #[(.slice a3a a3n a3c)] w10 fun (e59 : Ending) (w11 : World) => ∃ (t59a : Option Addr) (t59n : Nat) (t59c : Nat), e59 = .returned (.slice t59a t59n t59c) ∧
                          (Calls Try.prog 44 #[(.slice t59a t59n t59c)] w11 fun (e62 : Ending) (w12 : World) => ∃ (t62_0a : Option Addr) (t62_0n : Nat) (t62_0c : Nat) (t62_1 : Int), e62 = .returned (.tuple #[(.slice t62_0a t62_0n t62_0c), (.int .i64 t62_1)]) ∧
                            (Calls Try.prog 47 #[(.slice a3a a3n a3c)] w12 fun (e67 : Ending) (w13 : World) => ∃ (t67_0a : Option Addr) (t67_0n : Nat) (t67_0c : Nat) (t67_1 : Int), e67 = .returned (.tuple #[(.slice t67_0a t67_0n t67_0c), (.int .i64 t67_1)]) ∧
                              (∃ J_1 : Bool → World → Prop, (Calls Try.prog 48 #[(.slice t62_0a t62_0n t62_0c), (.slice t67_0a t67_0n t67_0c)] w13 fun (e72 : Ending) (w14 : World) => ∃ (t72 : Bool), e72 = .returned (.bool t72) ∧
                                  ((((!t72) || (t62_1 != t67_1)) = true →
                                      (J_1 true w14)) ∧
                                    (((!t72) || (t62_1 != t67_1)) = false →
                                      (Calls Try.prog 17 #[(.slice t59a t59n t59c), (.slice a3a a3n a3c)] w14 fun (e82 : Ending) (w15 : World) => ∃ (t82 : Bool), e82 = .returned (.bool t82) ∧
                                        (J_1 (!t82) w15))))) ∧
                                (∀ (x84 : Bool), ∀ w16 : World, J_1 x84 w16 →
                                  ((x84 = true →
                                      (R (.returned (.bool false)) w16)) ∧
                                    (x84 = false →
                                      (∃ (t85a : Option Addr) (t85n : Nat) (t85c : Nat) (w17 : World), (Instr.buildSlice 39 0 #[]).run Try.prog w16 = .ok (.slice t85a t85n t85c) w17 ∧
                                        (∃ (I : Option Addr → Nat → Nat → Int → World → Prop) (μ : Option Addr → Nat → Nat → Int → World → Nat), I t85a t85n t85c 0 w17 ∧
                                          (∀ (x15a : Option Addr) (x15n : Nat) (x15c : Nat) (x88 : Int), ∀ w18 : World, I x15a x15n x15c x88 w18 →
                                            (((decide (x88 < ((t62_0n : Nat) : Int))) = true →
                                                (∃ (t90b t90o : Nat), t62_0a = some ⟨t90b, t90o, none⟩ ∧ 0 ≤ x88 ∧ x88 < ((t62_0n : Nat) : Int) ∧
                                                  (∃ (t91 : Array Value), (Instr.loadAt 73 (.pointer (some ⟨t90b, t90o + Int.toNat x88 * 3, none⟩))).run Try.prog w18 = .ok (.agg t91) w18 ∧
                                                    (∃ (g17 : Nat) (w19 : World), (Instr.alloc 73 true (.tuple #[])).run Try.prog w18 = .ok (.pointer (some ⟨g17, 0, none⟩)) w19 ∧
                                                      (∃ w20 : World, (Instr.storeAt 73 (.pointer (some ⟨g17, 0, none⟩)) (.agg t91)).run Try.prog w19 = .ok () w20 ∧
                                                        (∃ (t94a : Option Addr) (t94n : Nat) (t94c : Nat), (Instr.loadAt 22 (.pointer (some ⟨g17, 1, none⟩))).run Try.prog w20 = .ok (.slice t94a t94n t94c) w20 ∧
                                                          (∃ (t95a : Option Addr) (t95n : Nat) (t95c : Nat) (w21 : World), (Instr.buildSlice 39 1 #[(0, (.slice t94a t94n t94c))]).run Try.prog w20 = .ok (.slice t95a t95n t95c) w21 ∧
                                                            (∃ (t96a : Option Addr) (t96n : Nat) (t96c : Nat) (w22 : World), (Builtin.append_ #[39, 39] 39 #[(.slice x15a x15n x15c), (.slice t95a t95n t95c)]).run Try.prog w21 = .ok (.slice t96a t96n t96c) w22 ∧
                                                              (I t96a t96n t96c (IntKind.wrap .i64 (x88 + (1 : Int))) w22 ∧ μ t96a t96n t96c (IntKind.wrap .i64 (x88 + (1 : Int))) w22 < μ x15a x15n x15c x88 w18))))))))) ∧
                                              ((decide (x88 < ((t62_0n : Nat) : Int))) = false →
                                                (Calls Try.prog 28 #[(.slice x15a x15n x15c)] w18 fun (e99 : Ending) (w23 : World) => ∃ (t99 : Bool), e99 = .returned (.bool t99) ∧
                                                  (R (.returned (.bool t99)) w23)))))))))))))))))))))))))) : Calls Try.prog 29 #[(.int .u8 a0), (.slice a1a a1n a1c), (.slice a2a a2n a2c), (.slice a3a a3n a3c)] w R :=
  calls_of_ev (args := [(.int .u8 a0), (.slice a1a a1n a1c), (.slice a2a a2n a2c), (.slice a3a a3n a3c)])
    (tc := .seq (.reg (.op .p (.nil))) (.seq (.seq (.reg (.op (.cl [.bool]) (.op .p (.nil)))) (.cond (.seq (.reg (.op .p (.nil))) (.leaf)) (.leaf))) (.seq (.seq (.reg (.op .p (.op .p (.op .p (.op .p (.ap 3 (.op .p (.ap 3 (.nil))))))))) (.cond (.seq (.reg (.op .p (.nil))) (.leaf)) (.leaf))) (.seq (.reg (.op (.r (.slice)) (.op .p (.op (.r (.slice)) (.op .p (.op (.r (.slice)) (.op .p (.nil)))))))) (.seq (.seq (.join [38, 39, 40, 41, 42, 43, 44, 45, 46, 47, 48, 49, 50, 51, 52, 53, 54, 55, 56, 57] [57] [.bool] (.drawS (.tk 0 .p (.tk 1 .p (.tk 2 .p (.tk 6 .p (.tk 7 .p (.go 3 (.r (.slice)) (.go 4 (.cl [.slice]) (.ts 5 (.str) (.go 8 (.cl [.slice]) (.ts 9 (.str) (.tk 10 .p (.tk 11 .p (.sp 49 (.tk 12 .p (.tk 15 .p (.go 13 .p (.ts 14 .val (.go 16 .p (.ts 17 .val (.tk 18 .p (.tk 19 .p (.nil))))))))) (.tk 12 .p (.tk 15 .p (.go 13 (.cl [.slice]) (.ts 14 (.str) (.go 16 (.cl [.slice]) (.ts 17 (.str) (.tk 18 .p (.tk 19 .p (.nil)))))))))))))))))))))) [])) (.cond (.seq (.reg (.op .p (.nil))) (.leaf)) (.leaf))) (.seq (.reg (.op .p (.op (.cl [.slice]) (.op .p (.nil))))) (.seq (.reg (.op .p (.op (.cl [.slice, .int .i64]) (.op .p (.op .p (.op .p (.op .p (.op .p (.nil))))))))) (.seq (.reg (.op .p (.op (.cl [.slice, .int .i64]) (.op .p (.op .p (.op .p (.op .p (.op .p (.nil))))))))) (.seq (.seq (.join [70, 71, 72, 73, 74, 75, 76, 77, 78, 79, 80, 81, 82, 83, 84] [84] [.bool] (.reg (.op .p (.op .p (.op (.cl [.bool]) (.op .p (.op .p (.ap 3 (.op .p (.sp 79 (.op .p (.op .p (.op .p (.op .p (.op .p (.nil)))))) (.op .p (.op .p (.op (.cl [.bool]) (.op .p (.op .p (.nil)))))))))))))))) (.cond (.seq (.reg (.op .p (.nil))) (.leaf)) (.leaf))) (.seq (.reg (.op (.r (.slice)) (.op .p (.nil)))) (.seq (.seq (.reg (.op .p (.op .p (.op .p (.nil))))) (.blk (.loop [15, 17, 88, 89, 90, 91, 92, 93, 94, 95, 96, 97] [15, 88] [.slice, .int .i64] (.seq (.reg (.op .p (.nil))) (.seq (.cond (.leaf) (.leaf)) (.seq (.blk (.seq (.reg (.op .ix (.op (.ld (.agg)) (.op .bx (.op .u (.nil)))))) (.reg (.op .p (.op .p (.op (.ld (.slice)) (.op (.r (.slice)) (.op (.r (.slice)) (.op .p (.nil)))))))))) (.reg (.op .p (.op .p (.nil)))))))))) (.seq (.reg (.op .p (.op (.cl [.bool]) (.op .p (.nil))))) (.leaf)))))))))))))
    (by kernel_rfl) Try.func29 (by kernel_rfl) (by kernel_rfl) (by kernel_rfl) (by kernel_rfl) h

set_option maxRecDepth 100000 in
theorem amphoralaw04_WireNumbers_vc (a0 : Int) (a1a : Option Addr) (a1n : Nat) (a1c : Nat) (w : World) (R : Ending → World → Prop) (h :
  Calls Try.prog 10 #[] w fun (e16 : Ending) (w1 : World) => ∃ (t16 : Bool), e16 = .returned (.bool t16) ∧
  (((!t16) = true →
      (R (.returned (.bool false)) w1)) ∧
    ((!t16) = false →
      (Calls Try.prog 11 #[(.slice a1a a1n a1c)] w1 fun (e19 : Ending) (w2 : World) => ∃ (t19a : Option Addr) (t19n : Nat) (t19c : Nat), e19 = .returned (.slice t19a t19n t19c) ∧
        (Calls Try.prog 12 #[(.slice t19a t19n t19c)] w2 fun (e22 : Ending) (w3 : World) => ∃ (t22_0 : Int) (t22_1 : Int) (t22_2 : Value), e22 = .returned (.tuple #[(.int .i64 t22_0), (.int .i64 t22_1), t22_2]) ∧
          (Calls Try.prog 13 #[(.slice a1a a1n a1c)] w3 fun (e28 : Ending) (w4 : World) => ∃ (t28_0 : Int) (t28_1 : Int) (t28_2 : Int), e28 = .returned (.tuple #[(.int .i64 t28_0), (.int .i64 t28_1), (.int .i64 t28_2)]) ∧
            (Calls Try.prog 14 #[(.slice t19a t19n t19c)] w4 fun (e34 : Ending) (w5 : World) => ∃ (t34_0 : Int) (t34_1 : Value), e34 = .returned (.tuple #[(.int .i64 t34_0), t34_1]) ∧
              (Calls Try.prog 15 #[(.slice a1a a1n a1c)] w5 fun (e39 : Ending) (w6 : World) => ∃ (t39_0 : Int) (t39_1 : Int), e39 = .returned (.tuple #[(.int .i64 t39_0), (.int .i64 t39_1)]) ∧
                (∃ J : Bool → World → Prop, ((((t22_0 != t28_0) || (t22_1 != t28_1)) = true →
                      (J true w6)) ∧
                    (((t22_0 != t28_0) || (t22_1 != t28_1)) = false →
                      (Calls Try.prog 16 #[t22_2] w6 fun (e52 : Ending) (w7 : World) => ∃ (t52 : Int), e52 = .returned (.int .i64 t52) ∧
                        ((((t52 != t28_2) || (t34_0 != t39_0)) = true →
                            (J true w7)) ∧
                          (((t52 != t28_2) || (t34_0 != t39_0)) = false →
                            (Calls Try.prog 16 #[t34_1] w7 fun (e63 : Ending) (w8 : World) => ∃ (t63 : Int), e63 = .returned (.int .i64 t63) ∧
                              (((t63 != t39_1) = true →
                                  (J true w8)) ∧
                                ((t63 != t39_1) = false →
                                  (Calls Try.prog 17 #[(.slice t19a t19n t19c), (.slice a1a a1n a1c)] w8 fun (e70 : Ending) (w9 : World) => ∃ (t70 : Bool), e70 = .returned (.bool t70) ∧
                                    (J (!t70) w9)))))))))) ∧
                  (∀ (x72 : Bool), ∀ w10 : World, J x72 w10 →
                    ((x72 = true →
                        (R (.returned (.bool false)) w10)) ∧
                      (x72 = false →
                        (∃ S : World → Prop, S w10.drew ∧
                          (Calls Try.prog 18 #[(.int .i64 a0)] w10.drew fun (e74 : Ending) (w11 : World) => ∃ (t74a : Option Addr) (t74n : Nat) (t74c : Nat), e74 = .returned (.slice t74a t74n t74c) ∧
                            (∃ S_1 : World → Prop, (∀ w' : World, S_1 w' → S w') ∧ S_1 w11 ∧
                              (∃ (t75 : ByteArray), (∀ w' : World, S_1 w' → (convert 22 9 (.slice t74a t74n t74c)).run Try.prog w' = .ok (.string t75) w') ∧
                                (Calls Try.prog 19 #[(.int .i64 a0)] w11 fun (e77 : Ending) (w12 : World) => ∃ (t77a : Option Addr) (t77n : Nat) (t77c : Nat), e77 = .returned (.slice t77a t77n t77c) ∧
                                  (∃ S_2 : World → Prop, (∀ w' : World, S_2 w' → S_1 w') ∧ S_2 w12 ∧
                                    (∃ (t78 : ByteArray), (∀ w' : World, S_2 w' → (convert 22 9 (.slice t77a t77n t77c)).run Try.prog w' = .ok (.string t78) w') ∧
                                      (((t75.toList == t78.toList) = true →
                                          (Calls Try.prog 20 #[(.int .i64 a0)] w12 fun (e82 : Ending) (w13 : World) => ∃ (t82a : Option Addr) (t82n : Nat) (t82c : Nat), e82 = .returned (.slice t82a t82n t82c) ∧
                                            (∃ S_3 : World → Prop, (∀ w' : World, S_3 w' → S_2 w') ∧ S_3 w13 ∧
                                              (∃ (t83 : ByteArray), (∀ w' : World, S_3 w' → (convert 22 9 (.slice t82a t82n t82c)).run Try.prog w' = .ok (.string t83) w') ∧
                                                (Calls Try.prog 21 #[(.int .i64 a0)] w13 fun (e85 : Ending) (w14 : World) => ∃ (t85a : Option Addr) (t85n : Nat) (t85c : Nat), e85 = .returned (.slice t85a t85n t85c) ∧
                                                  (∃ S_4 : World → Prop, (∀ w' : World, S_4 w' → S_3 w') ∧ S_4 w14 ∧
                                                    (∃ (t86 : ByteArray), (∀ w' : World, S_4 w' → (convert 22 9 (.slice t85a t85n t85c)).run Try.prog w' = .ok (.string t86) w') ∧
                                                      (R (.returned (.bool (t83.toList == t86.toList))) w14)))))))) ∧
                                        ((t75.toList == t78.toList) = false →
                                          (S_2 w12 ∧
                                            (S_2 w12 ∧
                                              (R (.returned (.bool false)) w12)))))))))))))))))))))))) : Calls Try.prog 3 #[(.int .i64 a0), (.slice a1a a1n a1c)] w R :=
  calls_of_ev (args := [(.int .i64 a0), (.slice a1a a1n a1c)])
    (tc := .seq (.reg (.op .p (.nil))) (.seq (.seq (.reg (.op (.cl [.bool]) (.op .p (.nil)))) (.cond (.seq (.reg (.op .p (.nil))) (.leaf)) (.leaf))) (.seq (.reg (.op .p (.op (.cl [.slice]) (.op .p (.nil))))) (.seq (.reg (.op .p (.op (.cl [.int .i64, .int .i64, .val]) (.op .p (.op .p (.op .p (.op .p (.op .p (.op .p (.op .p (.nil))))))))))) (.seq (.reg (.op .p (.op (.cl [.int .i64, .int .i64, .int .i64]) (.op .p (.op .p (.op .p (.op .p (.op .p (.op .p (.op .p (.nil))))))))))) (.seq (.reg (.op .p (.op (.cl [.int .i64, .val]) (.op .p (.op .p (.op .p (.op .p (.op .p (.nil))))))))) (.seq (.reg (.op .p (.op (.cl [.int .i64, .int .i64]) (.op .p (.op .p (.op .p (.op .p (.op .p (.nil))))))))) (.seq (.seq (.join [42, 43, 44, 45, 46, 47, 48, 49, 50, 51, 52, 53, 54, 55, 56, 57, 58, 59, 60, 61, 62, 63, 64, 65, 66, 67, 68, 69, 70, 71, 72] [72] [.bool] (.reg (.op .p (.op .p (.op .p (.op .p (.ap 3 (.op .p (.sp 50 (.op .p (.op .p (.op .p (.op .p (.op .p (.op .p (.op .p (.op .p (.op .p (.op .p (.op .p (.op .p (.op .p (.op .p (.op .p (.op .p (.op .p (.op .p (.op .p (.op .p (.op .p (.op .p (.nil))))))))))))))))))))))) (.op .p (.op (.cl [.int .i64]) (.op .p (.op .p (.op .p (.op .p (.ap 3 (.op .p (.sp 61 (.op .p (.op .p (.op .p (.op .p (.op .p (.op .p (.op .p (.op .p (.op .p (.op .p (.op .p (.nil)))))))))))) (.op .p (.op (.cl [.int .i64]) (.op .p (.op .p (.op .p (.op .p (.sp 67 (.op .p (.op .p (.op .p (.op .p (.op .p (.nil)))))) (.op .p (.op .p (.op (.cl [.bool]) (.op .p (.op .p (.nil))))))))))))))))))))))))))))))) (.cond (.seq (.reg (.op .p (.nil))) (.leaf)) (.leaf))) (.seq (.drawS (.tk 0 .p (.tk 3 .p (.go 1 (.cl [.slice]) (.ts 2 (.str) (.go 4 (.cl [.slice]) (.ts 5 (.str) (.tk 6 .p (.tk 7 .p (.sp 80 (.tk 8 .p (.tk 11 .p (.go 9 (.cl [.slice]) (.ts 10 (.str) (.go 12 (.cl [.slice]) (.ts 13 (.str) (.tk 14 .p (.tk 15 .p (.tk 16 .p (.nil)))))))))) (.tk 8 .p (.tk 11 .p (.go 9 .p (.ts 10 .val (.go 12 .p (.ts 13 .val (.tk 14 .p (.tk 15 .p (.tk 16 .p (.nil))))))))))))))))))) []) (.leaf))))))))))
    (by kernel_rfl) Try.func3 (by kernel_rfl) (by kernel_rfl) (by kernel_rfl) (by kernel_rfl) h

set_option maxRecDepth 100000 in
theorem amphoralaw04_WireFields_vc (a0a : Option Addr) (a0n : Nat) (a0c : Nat) (a1a : Option Addr) (a1n : Nat) (a1c : Nat) (a2 : Int) (w : World) (R : Ending → World → Prop) (h :
  Calls Try.prog 10 #[] w fun (e17 : Ending) (w1 : World) => ∃ (t17 : Bool), e17 = .returned (.bool t17) ∧
  (((!t17) = true →
      (R (.returned (.bool false)) w1)) ∧
    ((!t17) = false →
      (∃ J : Bool → World → Prop, (((decide (((a0n : Nat) : Int) > (1000 : Int))) = true →
            (J true w1)) ∧
          ((decide (((a0n : Nat) : Int) > (1000 : Int))) = false →
            (Calls Try.prog 22 #[(.slice a0a a0n a0c), (.int .i64 1048576)] w1 fun (e24 : Ending) (w2 : World) => ∃ (t24 : Int), e24 = .returned (.int .i64 t24) ∧
              (J ((decide (t24 > (262144 : Int))) || (decide (((a1n : Nat) : Int) > (262144 : Int)))) w2)))) ∧
        (∀ (x31 : Bool), ∀ w3 : World, J x31 w3 →
          ((x31 = true →
              (R (.returned (.bool true)) w3)) ∧
            (x31 = false →
              (∃ (t32a : Option Addr) (t32n : Nat) (t32c : Nat) (w4 : World), (Instr.buildSlice 39 0 #[]).run Try.prog w3 = .ok (.slice t32a t32n t32c) w4 ∧
                (∃ (I : Option Addr → Nat → Nat → Int → World → Prop) (μ : Option Addr → Nat → Nat → Int → World → Nat), I t32a t32n t32c 0 w4 ∧
                  (∀ (x7a : Option Addr) (x7n : Nat) (x7c : Nat) (x35 : Int), ∀ w5 : World, I x7a x7n x7c x35 w5 →
                    (((decide (x35 < ((a0n : Nat) : Int))) = true →
                        (∃ (t37b t37o : Nat), a0a = some ⟨t37b, t37o, none⟩ ∧ 0 ≤ x35 ∧ x35 < ((a0n : Nat) : Int) ∧
                          (∃ (t38a : Option Addr) (t38n : Nat) (t38c : Nat), (Instr.loadAt 22 (.pointer (some ⟨t37b, t37o + Int.toNat x35 * 1, none⟩))).run Try.prog w5 = .ok (.slice t38a t38n t38c) w5 ∧
                            (Calls Try.prog 11 #[(.slice t38a t38n t38c)] w5 fun (e40 : Ending) (w6 : World) => ∃ (t40a : Option Addr) (t40n : Nat) (t40c : Nat), e40 = .returned (.slice t40a t40n t40c) ∧
                              (∃ (t43a : Option Addr) (t43n : Nat) (t43c : Nat) (w7 : World), (Instr.buildSlice 39 1 #[(0, (.slice t40a t40n t40c))]).run Try.prog w6 = .ok (.slice t43a t43n t43c) w7 ∧
                                (∃ (t44a : Option Addr) (t44n : Nat) (t44c : Nat) (w8 : World), (Builtin.append_ #[39, 39] 39 #[(.slice x7a x7n x7c), (.slice t43a t43n t43c)]).run Try.prog w7 = .ok (.slice t44a t44n t44c) w8 ∧
                                  (I t44a t44n t44c (IntKind.wrap .i64 (x35 + (1 : Int))) w8 ∧ μ t44a t44n t44c (IntKind.wrap .i64 (x35 + (1 : Int))) w8 < μ x7a x7n x7c x35 w5))))))) ∧
                      ((decide (x35 < ((a0n : Nat) : Int))) = false →
                        (Calls Try.prog 23 #[(.slice x7a x7n x7c)] w5 fun (e47 : Ending) (w9 : World) => ∃ (t47a : Option Addr) (t47n : Nat) (t47c : Nat), e47 = .returned (.slice t47a t47n t47c) ∧
                          (∃ J_1 : Bool → World → Prop, (∃ S : World → Prop, S w9.drew ∧
                              (∃ (t49 : ByteArray), (∀ w' : World, S w' → (convert 22 9 (.slice t47a t47n t47c)).run Try.prog w' = .ok (.string t49) w') ∧
                                (Calls Try.prog 24 #[(.slice a0a a0n a0c)] w9.drew fun (e51 : Ending) (w10 : World) => ∃ (t51a : Option Addr) (t51n : Nat) (t51c : Nat), e51 = .returned (.slice t51a t51n t51c) ∧
                                  (∃ S_1 : World → Prop, (∀ w' : World, S_1 w' → S w') ∧ S_1 w10 ∧
                                    (∃ (t52 : ByteArray), (∀ w' : World, S_1 w' → (convert 22 9 (.slice t51a t51n t51c)).run Try.prog w' = .ok (.string t52) w') ∧
                                      (((!(t49.toList == t52.toList)) = true →
                                          (S_1 w10 ∧
                                            (J_1 true w10))) ∧
                                        ((!(t49.toList == t52.toList)) = false →
                                          (Calls Try.prog 25 #[(.slice x7a x7n x7c), (.slice a0a a0n a0c)] w10 fun (e57 : Ending) (w11 : World) => ∃ (t57 : Bool), e57 = .returned (.bool t57) ∧
                                            (∃ S_2 : World → Prop, (∀ w' : World, S_2 w' → S_1 w') ∧ S_2 w11 ∧
                                              (J_1 (!t57) w11)))))))))) ∧
                            (∀ (x59 : Bool), ∀ w12 : World, J_1 x59 w12 →
                              ((x59 = true →
                                  (R (.returned (.bool false)) w12)) ∧
                                (x59 = false →
                                  (Calls Try.prog 11 #[(.slice a1a a1n a1c)] w12 fun (e61 : Ending) (w13 : World) => ∃ (t61a : Option Addr) (t61n : Nat) (t61c : Nat), e61 = .returned (.slice t61a t61n t61c) ∧
                                    (Calls Try.prog 26 #[(.slice t61a t61n t61c), (.int .i64 a2)] w13 fun (e65 : Ending) (w14 : World) => ∃ (t65_0a : Option Addr) (t65_0n : Nat) (t65_0c : Nat) (t65_1 : Value), e65 = .returned (.tuple #[(.slice t65_0a t65_0n t65_0c), t65_1]) ∧
                                      (Calls Try.prog 27 #[(.slice a1a a1n a1c), (.int .i64 a2)] w14 fun (e71 : Ending) (w15 : World) => ∃ (t71_0a : Option Addr) (t71_0n : Nat) (t71_0c : Nat) (t71_1 : Int), e71 = .returned (.tuple #[(.slice t71_0a t71_0n t71_0c), (.int .i64 t71_1)]) ∧
                                        (Calls Try.prog 25 #[(.slice t65_0a t65_0n t65_0c), (.slice t71_0a t71_0n t71_0c)] w15 fun (e76 : Ending) (w16 : World) => ∃ (t76 : Bool), e76 = .returned (.bool t76) ∧
                                          ((t76 = true →
                                              (Calls Try.prog 16 #[t65_1] w16 fun (e79 : Ending) (w17 : World) => ∃ (t79 : Int), e79 = .returned (.int .i64 t79) ∧
                                                (((t79 == t71_1) = true →
                                                    (Calls Try.prog 17 #[(.slice t61a t61n t61c), (.slice a1a a1n a1c)] w17 fun (e86 : Ending) (w18 : World) => ∃ (t86 : Bool), e86 = .returned (.bool t86) ∧
                                                      ((t86 = true →
                                                          (Calls Try.prog 28 #[(.slice t65_0a t65_0n t65_0c)] w18 fun (e90 : Ending) (w19 : World) => ∃ (t90 : Bool), e90 = .returned (.bool t90) ∧
                                                            (R (.returned (.bool t90)) w19))) ∧
                                                        (t86 = false →
                                                          (R (.returned (.bool false)) w18))))) ∧
                                                  ((t79 == t71_1) = false →
                                                    (R (.returned (.bool false)) w17))))) ∧
                                            (t76 = false →
                                              (R (.returned (.bool false)) w16)))))))))))))))))))))))) : Calls Try.prog 4 #[(.slice a0a a0n a0c), (.slice a1a a1n a1c), (.int .i64 a2)] w R :=
  calls_of_ev (args := [(.slice a0a a0n a0c), (.slice a1a a1n a1c), (.int .i64 a2)])
    (tc := .seq (.reg (.op .p (.nil))) (.seq (.seq (.reg (.op (.cl [.bool]) (.op .p (.nil)))) (.cond (.seq (.reg (.op .p (.nil))) (.leaf)) (.leaf))) (.seq (.seq (.join [19, 20, 21, 22, 23, 24, 25, 26, 27, 28, 29, 30, 31] [31] [.bool] (.reg (.op .p (.op .p (.op .p (.op .p (.sp 22 (.op .p (.op .p (.op .p (.op .p (.op .p (.op .p (.op .p (.op .p (.op .p (.nil)))))))))) (.op .p (.op (.cl [.int .i64]) (.op .p (.op .p (.op .p (.ap 3 (.nil)))))))))))))) (.cond (.seq (.reg (.op .p (.nil))) (.leaf)) (.leaf))) (.seq (.reg (.op (.r (.slice)) (.op .p (.nil)))) (.seq (.seq (.reg (.op .p (.op .p (.op .p (.nil))))) (.blk (.loop [7, 9, 10, 35, 36, 37, 38, 39, 40, 41, 42, 43, 44, 45] [7, 35] [.slice, .int .i64] (.seq (.reg (.op .p (.nil))) (.seq (.cond (.leaf) (.leaf)) (.seq (.blk (.seq (.reg (.op .ix (.op (.ld (.slice)) (.op .p (.nil))))) (.seq (.reg (.op .p (.op (.cl [.slice]) (.op .p (.nil))))) (.reg (.op .p (.op .p (.op (.r (.slice)) (.op (.r (.slice)) (.op .p (.nil)))))))))) (.reg (.op .p (.op .p (.nil)))))))))) (.seq (.reg (.op .p (.op (.cl [.slice]) (.op .p (.nil))))) (.seq (.seq (.join [48, 49, 50, 51, 52, 53, 54, 55, 56, 57, 58, 59] [59] [.bool] (.drawS (.tk 0 .p (.tk 2 .p (.ts 1 (.str) (.go 3 (.cl [.slice]) (.ts 4 (.str) (.tk 5 .p (.tk 6 .p (.sp 54 (.tk 7 .p (.tk 8 .p (.go 9 .p (.tk 10 .p (.tk 11 .p (.nil)))))) (.tk 7 .p (.tk 8 .p (.go 9 (.cl [.bool]) (.tk 10 .p (.tk 11 .p (.nil)))))))))))))) [])) (.cond (.seq (.reg (.op .p (.nil))) (.leaf)) (.leaf))) (.seq (.reg (.op .p (.op (.cl [.slice]) (.op .p (.nil))))) (.seq (.reg (.op .p (.op .p (.op (.cl [.slice, .val]) (.op .p (.op .p (.op .p (.op .p (.op .p (.nil)))))))))) (.seq (.reg (.op .p (.op .p (.op (.cl [.slice, .int .i64]) (.op .p (.op .p (.op .p (.op .p (.op .p (.nil)))))))))) (.seq (.reg (.op .p (.op .p (.op (.cl [.bool]) (.op .p (.sp 77 (.op .p (.op (.cl [.int .i64]) (.op .p (.op .p (.op .p (.op .p (.sp 83 (.op .p (.op .p (.op (.cl [.bool]) (.op .p (.op .p (.sp 88 (.op .p (.op (.cl [.bool]) (.op .p (.op .p (.nil))))) (.op .p (.op .p (.op .p (.op .p (.nil))))))))))) (.op .p (.op .p (.op .p (.op .p (.op .p (.op .p (.op .p (.op .p (.op .p (.nil))))))))))))))))) (.op .p (.op .p (.op .p (.op .p (.op .p (.op .p (.op .p (.op .p (.op .p (.op .p (.op .p (.op .p (.op .p (.op .p (.op .p (.nil)))))))))))))))))))))) (.leaf))))))))))))
    (by kernel_rfl) Try.func4 (by kernel_rfl) (by kernel_rfl) (by kernel_rfl) (by kernel_rfl) h

set_option maxRecDepth 100000 in
theorem amphoralaw04_WireFramed_vc (a0 : Array Value) (w : World) (R : Ending → World → Prop) (h :
  ∃ (g1 : Nat) (w1 : World), (Instr.box 50 (.agg a0)).run Try.prog w = .ok (.pointer (some ⟨g1, 0, none⟩)) w1 ∧
  (∃ (t4 : Int), (Instr.loadAt 5 (.pointer (some ⟨g1, 0, none⟩))).run Try.prog w1 = .ok (.int .u8 t4) w1 ∧
    (∃ (t6a : Option Addr) (t6n : Nat) (t6c : Nat), (Instr.loadAt 22 (.pointer (some ⟨g1, 1, none⟩))).run Try.prog w1 = .ok (.slice t6a t6n t6c) w1 ∧
      (∃ (t8a : Option Addr) (t8n : Nat) (t8c : Nat), (Instr.loadAt 22 (.pointer (some ⟨g1, 2, none⟩))).run Try.prog w1 = .ok (.slice t8a t8n t8c) w1 ∧
        (∃ (t10a : Option Addr) (t10n : Nat) (t10c : Nat), (Instr.loadAt 22 (.pointer (some ⟨g1, 3, none⟩))).run Try.prog w1 = .ok (.slice t10a t10n t10c) w1 ∧
          (Calls Try.prog 29 #[(.int .u8 t4), (.slice t6a t6n t6c), (.slice t8a t8n t8c), (.slice t10a t10n t10c)] w1 fun (e11 : Ending) (w2 : World) => ∃ (t11 : Bool), e11 = .returned (.bool t11) ∧
            (R (.returned (.bool t11)) w2))))))) : Calls Try.prog 5 #[(.agg a0)] w R :=
  calls_of_ev (args := [(.agg a0)])
    (tc := .seq (.reg (.op .bx (.op .p (.nil)))) (.seq (.reg (.op .p (.op (.ld (.int .u8)) (.op .p (.op (.ld (.slice)) (.op .p (.op (.ld (.slice)) (.op .p (.op (.ld (.slice)) (.op (.cl [.bool]) (.op .p (.nil)))))))))))) (.leaf)))
    (by kernel_rfl) Try.func5 (by kernel_rfl) (by kernel_rfl) (by kernel_rfl) (by kernel_rfl) h

set_option maxRecDepth 100000 in
theorem amphoralaw04_WireNone_vc (a0 : Int) (w : World) (R : Ending → World → Prop) (h :
  Calls Try.prog 10 #[] w fun (e4 : Ending) (w1 : World) => ∃ (t4 : Bool), e4 = .returned (.bool t4) ∧
  (((!t4) = true →
      (R (.returned (.bool false)) w1)) ∧
    ((!t4) = false →
      (Calls Try.prog 30 #[(.pointer none)] w1 fun (e7 : Ending) (w2 : World) => ∃ (t7 : Int), e7 = .returned (.int .i64 t7) ∧
        (((t7 == (0 : Int)) = true →
            (Calls Try.prog 31 #[(.pointer none)] w2 fun (e11 : Ending) (w3 : World) => ∃ (t11 : Int), e11 = .returned (.int .i64 t11) ∧
              (((t11 == (0 : Int)) = true →
                  (Calls Try.prog 32 #[(.pointer none)] w3 fun (e16 : Ending) (w4 : World) => ∃ (t16a : Option Addr) (t16n : Nat) (t16c : Nat), e16 = .returned (.slice t16a t16n t16c) ∧
                    (((((t16n : Nat) : Int) == (0 : Int)) = true →
                        (Calls Try.prog 33 #[(.pointer none), (.int .i64 a0)] w4 fun (e23 : Ending) (w5 : World) => ∃ (t23a : Option Addr) (t23n : Nat) (t23c : Nat), e23 = .returned (.slice t23a t23n t23c) ∧
                          (((((t23n : Nat) : Int) == (0 : Int)) = true →
                              (Calls Try.prog 34 #[(.pointer none)] w5 fun (e29 : Ending) (w6 : World) => ∃ (t29 : Int), e29 = .returned (.int .i64 t29) ∧
                                (((t29 == (0 : Int)) = true →
                                    (Calls Try.prog 35 #[(.pointer none)] w6 fun (e34 : Ending) (w7 : World) => ∃ (t34 : Value), e34 = .returned t34 ∧
                                      (Calls Try.prog 16 #[t34] w7 fun (e35 : Ending) (w8 : World) => ∃ (t35 : Int), e35 = .returned (.int .i64 t35) ∧
                                        (((t35 == (9 : Int)) = true →
                                            (Calls Try.prog 36 #[(.pointer none)] w8 fun (e40 : Ending) (w9 : World) => ∃ (t40 : Value), e40 = .returned t40 ∧
                                              (Calls Try.prog 16 #[t40] w9 fun (e41 : Ending) (w10 : World) => ∃ (t41 : Int), e41 = .returned (.int .i64 t41) ∧
                                                (R (.returned (.bool (t41 == (9 : Int)))) w10)))) ∧
                                          ((t35 == (9 : Int)) = false →
                                            (R (.returned (.bool false)) w8)))))) ∧
                                  ((t29 == (0 : Int)) = false →
                                    (R (.returned (.bool false)) w6))))) ∧
                            ((((t23n : Nat) : Int) == (0 : Int)) = false →
                              (R (.returned (.bool false)) w5))))) ∧
                      ((((t16n : Nat) : Int) == (0 : Int)) = false →
                        (R (.returned (.bool false)) w4))))) ∧
                ((t11 == (0 : Int)) = false →
                  (R (.returned (.bool false)) w3))))) ∧
          ((t7 == (0 : Int)) = false →
            (R (.returned (.bool false)) w2))))))) : Calls Try.prog 6 #[(.int .i64 a0)] w R :=
  calls_of_ev (args := [(.int .i64 a0)])
    (tc := .seq (.reg (.op .p (.nil))) (.seq (.seq (.reg (.op (.cl [.bool]) (.op .p (.nil)))) (.cond (.seq (.reg (.op .p (.nil))) (.leaf)) (.leaf))) (.seq (.reg (.op .p (.nil))) (.seq (.reg (.op .p (.op (.cl [.int .i64]) (.op .p (.op .p (.sp 9 (.op .p (.op (.cl [.int .i64]) (.op .p (.op .p (.op .p (.sp 14 (.op .p (.op (.cl [.slice]) (.op .p (.op .p (.op .p (.op .p (.sp 20 (.op .p (.op .p (.op (.cl [.slice]) (.op .p (.op .p (.op .p (.op .p (.sp 27 (.op .p (.op (.cl [.int .i64]) (.op .p (.op .p (.op .p (.sp 32 (.op .p (.op (.cl [.val]) (.op (.cl [.int .i64]) (.op .p (.op .p (.op .p (.sp 38 (.op .p (.op (.cl [.val]) (.op (.cl [.int .i64]) (.op .p (.op .p (.op .p (.nil))))))) (.op .p (.op .p (.op .p (.op .p (.op .p (.op .p (.nil)))))))))))))) (.op .p (.op .p (.op .p (.op .p (.op .p (.op .p (.op .p (.op .p (.op .p (.op .p (.op .p (.op .p (.nil))))))))))))))))))) (.op .p (.op .p (.op .p (.op .p (.op .p (.op .p (.op .p (.op .p (.op .p (.op .p (.op .p (.op .p (.op .p (.op .p (.op .p (.op .p (.op .p (.nil)))))))))))))))))))))))))) (.op .p (.op .p (.op .p (.op .p (.op .p (.op .p (.op .p (.op .p (.op .p (.op .p (.op .p (.op .p (.op .p (.op .p (.op .p (.op .p (.op .p (.op .p (.op .p (.op .p (.op .p (.op .p (.op .p (.op .p (.nil)))))))))))))))))))))))))))))))) (.op .p (.op .p (.op .p (.op .p (.op .p (.op .p (.op .p (.op .p (.op .p (.op .p (.op .p (.op .p (.op .p (.op .p (.op .p (.op .p (.op .p (.op .p (.op .p (.op .p (.op .p (.op .p (.op .p (.op .p (.op .p (.op .p (.op .p (.op .p (.op .p (.op .p (.nil))))))))))))))))))))))))))))))))))))) (.op .p (.op .p (.op .p (.op .p (.op .p (.op .p (.op .p (.op .p (.op .p (.op .p (.op .p (.op .p (.op .p (.op .p (.op .p (.op .p (.op .p (.op .p (.op .p (.op .p (.op .p (.op .p (.op .p (.op .p (.op .p (.op .p (.op .p (.op .p (.op .p (.op .p (.op .p (.op .p (.op .p (.op .p (.op .p (.nil)))))))))))))))))))))))))))))))))))))))))) (.leaf)))))
    (by kernel_rfl) Try.func6 (by kernel_rfl) (by kernel_rfl) (by kernel_rfl) (by kernel_rfl) h

set_option maxRecDepth 100000 in
theorem amphoralaw04_WireReads_vc (a0a : Option Addr) (a0n : Nat) (a0c : Nat) (a1a : Option Addr) (a1n : Nat) (a1c : Nat) (w : World) (R : Ending → World → Prop) (h :
  Calls Try.prog 10 #[] w fun (e13 : Ending) (w1 : World) => ∃ (t13 : Bool), e13 = .returned (.bool t13) ∧
  (((!t13) = true →
      (R (.returned (.bool false)) w1)) ∧
    ((!t13) = false →
      ((((decide (((a0n : Nat) : Int) > (65536 : Int))) || (decide (((a1n : Nat) : Int) > (300 : Int)))) = true →
          (R (.returned (.bool true)) w1)) ∧
        (((decide (((a0n : Nat) : Int) > (65536 : Int))) || (decide (((a1n : Nat) : Int) > (300 : Int)))) = false →
          (Calls Try.prog 11 #[(.slice a0a a0n a0c)] w1 fun (e24 : Ending) (w2 : World) => ∃ (t24a : Option Addr) (t24n : Nat) (t24c : Nat), e24 = .returned (.slice t24a t24n t24c) ∧
            (Calls Try.prog 37 #[(.slice t24a t24n t24c)] w2 fun (e26 : Ending) (w3 : World) => ∃ (t26b : Nat) (t26o : Nat), e26 = .returned (.pointer (some ⟨t26b, t26o, none⟩)) ∧
              (∃ (t27a : Option Addr) (t27n : Nat) (t27c : Nat) (w4 : World), (Instr.buildSlice 22 0 #[]).run Try.prog w3 = .ok (.slice t27a t27n t27c) w4 ∧
                (∃ (t29a : Option Addr) (t29n : Nat) (t29c : Nat) (w5 : World), (Builtin.append_ #[22, 22] 22 #[(.slice t27a t27n t27c), (.slice a0a a0n a0c)]).run Try.prog w4 = .ok (.slice t29a t29n t29c) w5 ∧
                  (∃ (t30 : Array Value), (Instr.build 62 #[(0, (.slice t29a t29n t29c))]).run Try.prog w5 = .ok (.agg t30) w5 ∧
                    (∃ (g31 : Nat) (w6 : World), (Instr.box 62 (.agg t30)).run Try.prog w5 = .ok (.pointer (some ⟨g31, 0, none⟩)) w6 ∧
                      (Calls Try.prog 17 #[(.slice t24a t24n t24c), (.slice a0a a0n a0c)] w6 fun (e37 : Ending) (w7 : World) => ∃ (t37 : Bool), e37 = .returned (.bool t37) ∧
                        (((!t37) = true →
                            (R (.returned (.bool false)) w7)) ∧
                          ((!t37) = false →
                            (Calls Try.prog 38 #[(.slice t24a t24n t24c)] w7 fun (e41 : Ending) (w8 : World) => e41 = .returned (.tuple #[]) ∧
                              (∃ (I : Int → World → Prop) (μ : Int → World → Nat), I 0 w8 ∧
                                (∀ (x44 : Int), ∀ w9 : World, I x44 w9 →
                                  (((decide (x44 < ((a1n : Nat) : Int))) = true →
                                      (∃ (t46b t46o : Nat), a1a = some ⟨t46b, t46o, none⟩ ∧ 0 ≤ x44 ∧ x44 < ((a1n : Nat) : Int) ∧
                                        (∃ (t47 : Array Value), (Instr.loadAt 65 (.pointer (some ⟨t46b, t46o + Int.toNat x44 * 2, none⟩))).run Try.prog w9 = .ok (.agg t47) w9 ∧
                                          (∃ (g9 : Nat) (w10 : World), (Instr.alloc 65 true (.tuple #[])).run Try.prog w9 = .ok (.pointer (some ⟨g9, 0, none⟩)) w10 ∧
                                            (∃ w11 : World, (Instr.storeAt 65 (.pointer (some ⟨g9, 0, none⟩)) (.agg t47)).run Try.prog w10 = .ok () w11 ∧
                                              (∃ (t49 : Int), (Instr.loadAt 3 (.pointer (some ⟨g9, 0, none⟩))).run Try.prog w11 = .ok (.int .i64 t49) w11 ∧
                                                (∃ J : Bool → World → Prop, (((t49 == (0 : Int)) = true →
                                                      (Calls Try.prog 30 #[(.pointer (some ⟨t26b, t26o, none⟩))] w11 fun (e67 : Ending) (w12 : World) => ∃ (t67 : Int), e67 = .returned (.int .i64 t67) ∧
                                                        (Calls Try.prog 39 #[(.pointer (some ⟨g31, 0, none⟩))] w12 fun (e69 : Ending) (w13 : World) => ∃ (t69 : Int), e69 = .returned (.int .i64 t69) ∧
                                                          (J (t67 == t69) w13)))) ∧
                                                    ((t49 == (0 : Int)) = false →
                                                      (∃ J_1 : Bool → World → Prop, (((t49 == (1 : Int)) = true →
                                                            (Calls Try.prog 31 #[(.pointer (some ⟨t26b, t26o, none⟩))] w11 fun (e74 : Ending) (w14 : World) => ∃ (t74 : Int), e74 = .returned (.int .i64 t74) ∧
                                                              (Calls Try.prog 40 #[(.pointer (some ⟨g31, 0, none⟩))] w14 fun (e76 : Ending) (w15 : World) => ∃ (t76 : Int), e76 = .returned (.int .i64 t76) ∧
                                                                (J_1 (t74 == t76) w15)))) ∧
                                                          ((t49 == (1 : Int)) = false →
                                                            (∃ J_2 : Bool → World → Prop, (((t49 == (2 : Int)) = true →
                                                                  (Calls Try.prog 32 #[(.pointer (some ⟨t26b, t26o, none⟩))] w11 fun (e81 : Ending) (w16 : World) => ∃ (t81a : Option Addr) (t81n : Nat) (t81c : Nat), e81 = .returned (.slice t81a t81n t81c) ∧
                                                                    (∃ S : World → Prop, S w16.drew ∧
                                                                      (∃ (t83 : ByteArray), (∀ w' : World, S w' → (convert 22 9 (.slice t81a t81n t81c)).run Try.prog w' = .ok (.string t83) w') ∧
                                                                        (Calls Try.prog 41 #[(.pointer (some ⟨g31, 0, none⟩))] w16.drew fun (e85 : Ending) (w17 : World) => ∃ (t85a : Option Addr) (t85n : Nat) (t85c : Nat), e85 = .returned (.slice t85a t85n t85c) ∧
                                                                          (∃ S_1 : World → Prop, (∀ w' : World, S_1 w' → S w') ∧ S_1 w17 ∧
                                                                            (∃ (t86 : ByteArray), (∀ w' : World, S_1 w' → (convert 22 9 (.slice t85a t85n t85c)).run Try.prog w' = .ok (.string t86) w') ∧
                                                                              (Calls Try.prog 38 #[(.slice t81a t81n t81c)] w17 fun (e89 : Ending) (w18 : World) => e89 = .returned (.tuple #[]) ∧
                                                                                (J_2 (t83.toList == t86.toList) w18))))))))) ∧
                                                                ((t49 == (2 : Int)) = false →
                                                                  (∃ (t52 : Int), (Instr.loadAt 3 (.pointer (some ⟨g9, 1, none⟩))).run Try.prog w11 = .ok (.int .i64 t52) w11 ∧
                                                                    (Calls Try.prog 33 #[(.pointer (some ⟨t26b, t26o, none⟩)), (.int .i64 t52)] w11 fun (e53 : Ending) (w19 : World) => ∃ (t53a : Option Addr) (t53n : Nat) (t53c : Nat), e53 = .returned (.slice t53a t53n t53c) ∧
                                                                      (∃ S : World → Prop, S w19.drew ∧
                                                                        (∃ (t55 : ByteArray), (∀ w' : World, S w' → (convert 22 9 (.slice t53a t53n t53c)).run Try.prog w' = .ok (.string t55) w') ∧
                                                                          (∃ (t58 : Int), (∀ w' : World, S w' → (Instr.loadAt 3 (.pointer (some ⟨g9, 1, none⟩))).run Try.prog w' = .ok (.int .i64 t58) w') ∧
                                                                            (Calls Try.prog 42 #[(.pointer (some ⟨g31, 0, none⟩)), (.int .i64 t58)] w19.drew fun (e59 : Ending) (w20 : World) => ∃ (t59a : Option Addr) (t59n : Nat) (t59c : Nat), e59 = .returned (.slice t59a t59n t59c) ∧
                                                                              (∃ S_1 : World → Prop, (∀ w' : World, S_1 w' → S w') ∧ S_1 w20 ∧
                                                                                (∃ (t60 : ByteArray), (∀ w' : World, S_1 w' → (convert 22 9 (.slice t59a t59n t59c)).run Try.prog w' = .ok (.string t60) w') ∧
                                                                                (Calls Try.prog 38 #[(.slice t53a t53n t53c)] w20 fun (e63 : Ending) (w21 : World) => e63 = .returned (.tuple #[]) ∧
                                                                                (J_2 (t55.toList == t60.toList) w21)))))))))))) ∧
                                                              (∀ (x10 : Bool), ∀ w22 : World, J_2 x10 w22 →
                                                                (J_1 x10 w22))))) ∧
                                                        (∀ (x10_1 : Bool), ∀ w23 : World, J_1 x10_1 w23 →
                                                          (J x10_1 w23))))) ∧
                                                  (∀ (x10_2 : Bool), ∀ w24 : World, J x10_2 w24 →
                                                    (∃ J_3 : Bool → World → Prop, (∃ S_2 : World → Prop, S_2 w24.drew ∧
                                                        (((!x10_2) = true →
                                                            (S_2 w24.drew ∧
                                                              (S_2 w24.drew ∧
                                                                (S_2 w24.drew ∧
                                                                  (S_2 w24.drew ∧
                                                                    (S_2 w24.drew ∧
                                                                      (S_2 w24.drew ∧
                                                                        (J_3 true w24.drew)))))))) ∧
                                                          ((!x10_2) = false →
                                                            (∃ (t98a : Option Addr) (t98n : Nat) (t98c : Nat), (∀ w' : World, S_2 w' → (Instr.loadAt 22 (.pointer (some ⟨g31, 0, none⟩))).run Try.prog w' = .ok (.slice t98a t98n t98c) w') ∧
                                                              (Calls Try.prog 34 #[(.pointer (some ⟨t26b, t26o, none⟩))] w24.drew fun (e94 : Ending) (w25 : World) => ∃ (t94 : Int), e94 = .returned (.int .i64 t94) ∧
                                                                (∃ S_3 : World → Prop, (∀ w' : World, S_3 w' → S_2 w') ∧ S_3 w25 ∧
                                                                  (((t94 != ((t98n : Nat) : Int)) = true →
                                                                      (S_3 w25 ∧
                                                                        (S_3 w25 ∧
                                                                          (S_3 w25 ∧
                                                                            (S_3 w25 ∧
                                                                              (S_3 w25 ∧
                                                                                (J_3 true w25))))))) ∧
                                                                    ((t94 != ((t98n : Nat) : Int)) = false →
                                                                      (∃ (t109 : Bool), (∀ w' : World, S_3 w' → (Instr.loadAt 4 (.pointer (some ⟨g31, 1, none⟩))).run Try.prog w' = .ok (.bool t109) w') ∧
                                                                        (Calls Try.prog 35 #[(.pointer (some ⟨t26b, t26o, none⟩))] w25 fun (e104 : Ending) (w26 : World) => ∃ (t104 : Value), e104 = .returned t104 ∧
                                                                          (∃ S_4 : World → Prop, (∀ w' : World, S_4 w' → S_3 w') ∧ S_4 w26 ∧
                                                                            (∃ (t105 : Bool), (∀ w' : World, S_4 w' → (eqlS .neq 26 (.tmp 104) (.const .nilIface) t104 .nilIface).run Try.prog w' = .ok (.bool t105) w') ∧
                                                                              (((!(t105 == t109)) = true →
                                                                                (S_4 w26 ∧
                                                                                (S_4 w26 ∧
                                                                                (S_4 w26 ∧
                                                                                (S_4 w26 ∧
                                                                                (J_3 true w26)))))) ∧
                                                                                ((!(t105 == t109)) = false →
                                                                                (∃ (t119 : Bool), (∀ w' : World, S_4 w' → (Instr.loadAt 4 (.pointer (some ⟨g31, 1, none⟩))).run Try.prog w' = .ok (.bool t119) w') ∧
                                                                                (Calls Try.prog 36 #[(.pointer (some ⟨t26b, t26o, none⟩))] w26 fun (e114 : Ending) (w27 : World) => ∃ (t114 : Value), e114 = .returned t114 ∧
                                                                                (∃ S_5 : World → Prop, (∀ w' : World, S_5 w' → S_4 w') ∧ S_5 w27 ∧
                                                                                (((!t119) = true →
                                                                                (∃ (t115 : Bool), (∀ w' : World, S_5 w' → (eqlS .eql 26 (.tmp 114) (.const .nilIface) t114 .nilIface).run Try.prog w' = .ok (.bool t115) w') ∧
                                                                                (∃ (t125a : Option Addr) (t125n : Nat) (t125c : Nat), (∀ w' : World, S_5 w' → (Instr.loadAt 22 (.pointer (some ⟨g31, 0, none⟩))).run Try.prog w' = .ok (.slice t125a t125n t125c) w') ∧
                                                                                (((!(t115 == (((t125n : Nat) : Int) == (0 : Int)))) = true →
                                                                                (S_5 w27 ∧
                                                                                (S_5 w27 ∧
                                                                                (S_5 w27 ∧
                                                                                (J_3 true w27))))) ∧
                                                                                ((!(t115 == (((t125n : Nat) : Int) == (0 : Int)))) = false →
                                                                                (Calls Try.prog 35 #[(.pointer (some ⟨t26b, t26o, none⟩))] w27 fun (e133 : Ending) (w28 : World) => ∃ (t133 : Value), e133 = .returned t133 ∧
                                                                                (∃ S_6 : World → Prop, (∀ w' : World, S_6 w' → S_5 w') ∧ S_6 w28 ∧
                                                                                (∃ (t134 : Bool), (∀ w' : World, S_6 w' → (eqlS .neq 26 (.tmp 133) (.const .nilIface) t133 .nilIface).run Try.prog w' = .ok (.bool t134) w') ∧
                                                                                ((t134 = true →
                                                                                (Calls Try.prog 35 #[(.pointer (some ⟨t26b, t26o, none⟩))] w28 fun (e137 : Ending) (w29 : World) => ∃ (t137 : Value), e137 = .returned t137 ∧
                                                                                (∃ S_7 : World → Prop, (∀ w' : World, S_7 w' → S_6 w') ∧ S_7 w29 ∧
                                                                                (Calls Try.prog 16 #[t137] w29 fun (e138 : Ending) (w30 : World) => ∃ (t138 : Int), e138 = .returned (.int .i64 t138) ∧
                                                                                (∃ S_8 : World → Prop, (∀ w' : World, S_8 w' → S_7 w') ∧ S_8 w30 ∧
                                                                                (J_3 (t138 != (9 : Int)) w30)))))) ∧
                                                                                (t134 = false →
                                                                                (S_6 w28 ∧
                                                                                (S_6 w28 ∧
                                                                                (J_3 false w28))))))))))))) ∧
                                                                                ((!t119) = false →
                                                                                (∃ (t115 : Bool), (∀ w' : World, S_5 w' → (eqlS .eql 26 (.tmp 114) (.const .nilIface) t114 .nilIface).run Try.prog w' = .ok (.bool t115) w') ∧
                                                                                (((!(t115 == false)) = true →
                                                                                (S_5 w27 ∧
                                                                                (S_5 w27 ∧
                                                                                (S_5 w27 ∧
                                                                                (J_3 true w27))))) ∧
                                                                                ((!(t115 == false)) = false →
                                                                                (Calls Try.prog 35 #[(.pointer (some ⟨t26b, t26o, none⟩))] w27 fun (e133 : Ending) (w31 : World) => ∃ (t133 : Value), e133 = .returned t133 ∧
                                                                                (∃ S_6 : World → Prop, (∀ w' : World, S_6 w' → S_5 w') ∧ S_6 w31 ∧
                                                                                (∃ (t134 : Bool), (∀ w' : World, S_6 w' → (eqlS .neq 26 (.tmp 133) (.const .nilIface) t133 .nilIface).run Try.prog w' = .ok (.bool t134) w') ∧
                                                                                ((t134 = true →
                                                                                (Calls Try.prog 35 #[(.pointer (some ⟨t26b, t26o, none⟩))] w31 fun (e137 : Ending) (w32 : World) => ∃ (t137 : Value), e137 = .returned t137 ∧
                                                                                (∃ S_7 : World → Prop, (∀ w' : World, S_7 w' → S_6 w') ∧ S_7 w32 ∧
                                                                                (Calls Try.prog 16 #[t137] w32 fun (e138 : Ending) (w33 : World) => ∃ (t138 : Int), e138 = .returned (.int .i64 t138) ∧
                                                                                (∃ S_8 : World → Prop, (∀ w' : World, S_8 w' → S_7 w') ∧ S_8 w33 ∧
                                                                                (J_3 (t138 != (9 : Int)) w33)))))) ∧
                                                                                (t134 = false →
                                                                                (S_6 w31 ∧
                                                                                (S_6 w31 ∧
                                                                                (J_3 false w31)))))))))))))))))))))))))))))) ∧
                                                      (∀ (x141 : Bool), ∀ w34 : World, J_3 x141 w34 →
                                                        ((x141 = true →
                                                            (R (.returned (.bool false)) w34)) ∧
                                                          (x141 = false →
                                                            (I (IntKind.wrap .i64 (x44 + (1 : Int))) w34 ∧ μ (IntKind.wrap .i64 (x44 + (1 : Int))) w34 < μ x44 w9))))))))))))) ∧
                                    ((decide (x44 < ((a1n : Nat) : Int))) = false →
                                      (R (.returned (.bool true)) w9)))))))))))))))))))) : Calls Try.prog 7 #[(.slice a0a a0n a0c), (.slice a1a a1n a1c)] w R :=
  calls_of_ev (args := [(.slice a0a a0n a0c), (.slice a1a a1n a1c)])
    (tc := .seq (.reg (.op .p (.nil))) (.seq (.seq (.reg (.op (.cl [.bool]) (.op .p (.nil)))) (.cond (.seq (.reg (.op .p (.nil))) (.leaf)) (.leaf))) (.seq (.seq (.reg (.op .p (.op .p (.op .p (.op .p (.ap 3 (.nil))))))) (.cond (.seq (.reg (.op .p (.nil))) (.leaf)) (.leaf))) (.seq (.reg (.op .p (.op (.cl [.slice]) (.op .p (.nil))))) (.seq (.reg (.op .p (.op (.cl [.ptr]) (.op .p (.nil))))) (.seq (.reg (.op (.r (.slice)) (.op .p (.op (.r (.slice)) (.op (.ld (.agg)) (.op .bx (.op .p (.nil)))))))) (.seq (.seq (.reg (.op .p (.op .p (.op .p (.op .p (.op .p (.op (.cl [.bool]) (.op .p (.op .p (.nil)))))))))) (.cond (.seq (.reg (.op .p (.nil))) (.leaf)) (.leaf))) (.seq (.reg (.op .p (.op (.cl []) (.nil)))) (.seq (.seq (.reg (.op .p (.op .p (.op .p (.nil))))) (.blk (.loop [4, 9, 10, 11, 12, 44, 45, 46, 47, 48, 49, 50, 51, 52, 53, 54, 55, 56, 57, 58, 59, 60, 61, 62, 63, 64, 65, 66, 67, 68, 69, 70, 71, 72, 73, 74, 75, 76, 77, 78, 79, 80, 81, 82, 83, 84, 85, 86, 87, 88, 89, 90, 91, 92, 93, 94, 95, 96, 97, 98, 99, 100, 101, 102, 103, 104, 105, 106, 107, 108, 109, 110, 111, 112, 113, 114, 115, 116, 117, 118, 119, 120, 121, 122, 123, 124, 125, 126, 127, 128, 129, 130, 131, 132, 133, 134, 135, 136, 137, 138, 139, 140, 141, 142] [44] [.int .i64] (.seq (.reg (.op .p (.nil))) (.seq (.cond (.leaf) (.leaf)) (.seq (.blk (.seq (.reg (.op .ix (.op (.ld (.agg)) (.op .bx (.op .u (.nil)))))) (.seq (.reg (.op .p (.nil))) (.seq (.seq (.reg (.op .p (.op (.ld (.int .i64)) (.nil)))) (.blk (.seq (.reg (.op .p (.op .p (.nil)))) (.join [10, 11, 12, 50, 51, 52, 53, 54, 55, 56, 57, 58, 59, 60, 61, 62, 63, 66, 67, 68, 69, 70, 71, 72, 73, 74, 75, 76, 77, 78, 79, 80, 81, 82, 83, 84, 85, 86, 87, 88, 89] [10] [.bool] (.cond (.reg (.op .p (.op (.cl [.int .i64]) (.op .p (.op (.cl [.int .i64]) (.op .p (.op .p (.nil)))))))) (.seq (.reg (.op .p (.op .p (.nil)))) (.join [10, 11, 12, 50, 51, 52, 53, 54, 55, 56, 57, 58, 59, 60, 61, 62, 63, 73, 74, 75, 76, 77, 78, 79, 80, 81, 82, 83, 84, 85, 86, 87, 88, 89] [10] [.bool] (.cond (.reg (.op .p (.op (.cl [.int .i64]) (.op .p (.op (.cl [.int .i64]) (.op .p (.op .p (.nil)))))))) (.seq (.reg (.op .p (.op .p (.nil)))) (.join [10, 11, 12, 50, 51, 52, 53, 54, 55, 56, 57, 58, 59, 60, 61, 62, 63, 80, 81, 82, 83, 84, 85, 86, 87, 88, 89] [10] [.bool] (.cond (.seq (.reg (.op .p (.op (.cl [.slice]) (.op .p (.nil))))) (.seq (.drawS (.tk 0 .p (.tk 2 .p (.ts 1 (.str) (.go 3 (.cl [.slice]) (.ts 4 (.str) (.tk 5 .p (.tk 6 .p (.nil)))))))) []) (.reg (.op .p (.op (.cl []) (.nil)))))) (.seq (.reg (.op .p (.op .p (.op (.ld (.int .i64)) (.op (.cl [.slice]) (.op .p (.nil))))))) (.seq (.drawS (.tk 0 .p (.tk 2 .p (.tk 3 .p (.ts 1 (.str) (.ts 4 (.int .i64) (.go 5 (.cl [.slice]) (.ts 6 (.str) (.tk 7 .p (.tk 8 .p (.nil)))))))))) []) (.reg (.op .p (.op (.cl []) (.nil))))))))))))))))) (.seq (.join [90, 91, 92, 93, 94, 95, 96, 97, 98, 99, 100, 101, 102, 103, 104, 105, 106, 107, 108, 109, 110, 111, 112, 113, 114, 115, 116, 117, 118, 119, 120, 121, 122, 123, 124, 125, 126, 127, 128, 129, 130, 131, 132, 133, 134, 135, 136, 137, 138, 139, 140, 141] [141] [.bool] (.drawS (.tk 0 .p (.tk 1 .p (.tk 2 .p (.sp 92 (.tk 3 .p (.tk 5 .p (.tk 6 .p (.tk 7 .p (.ts 8 .val (.tk 9 .p (.go 4 .p (.tk 10 .p (.tk 11 .p (.tk 12 .p (.tk 13 .p (.tk 16 .p (.tk 17 .p (.tk 18 .p (.ts 19 .val (.go 14 .p (.ts 15 .val (.tk 20 .p (.tk 21 .p (.tk 22 .p (.tk 23 .p (.tk 26 .p (.tk 27 .p (.tk 28 .p (.ts 29 .val (.tk 30 .p (.go 24 .p (.tk 31 .p (.tk 32 .p (.tk 33 .p (.tk 34 .p (.ts 25 .val (.ts 35 .val (.tk 36 .p (.tk 37 .p (.tk 38 .p (.tk 39 .p (.tk 40 .p (.tk 41 .p (.tk 42 .p (.go 43 .p (.ts 44 .val (.tk 45 .p (.tk 46 .p (.go 47 .p (.go 48 .p (.tk 49 .p (.tk 50 .p (.tk 51 .p (.nil)))))))))))))))))))))))))))))))))))))))))))))))))) (.tk 3 .p (.tk 5 .p (.tk 6 .p (.tk 7 .p (.ts 8 (.slice) (.tk 9 .p (.go 4 (.cl [.int .i64]) (.tk 10 .p (.tk 11 .p (.tk 12 .p (.sp 102 (.tk 13 .p (.tk 16 .p (.tk 17 .p (.tk 18 .p (.ts 19 .val (.go 14 .p (.ts 15 .val (.tk 20 .p (.tk 21 .p (.tk 22 .p (.tk 23 .p (.tk 26 .p (.tk 27 .p (.tk 28 .p (.ts 29 .val (.tk 30 .p (.go 24 .p (.tk 31 .p (.tk 32 .p (.tk 33 .p (.tk 34 .p (.ts 25 .val (.ts 35 .val (.tk 36 .p (.tk 37 .p (.tk 38 .p (.tk 39 .p (.tk 40 .p (.tk 41 .p (.tk 42 .p (.go 43 .p (.ts 44 .val (.tk 45 .p (.tk 46 .p (.go 47 .p (.go 48 .p (.tk 49 .p (.tk 50 .p (.tk 51 .p (.nil)))))))))))))))))))))))))))))))))))))))) (.tk 13 .p (.tk 16 .p (.tk 17 .p (.tk 18 .p (.ts 19 (.bool) (.go 14 (.cl [.val]) (.ts 15 (.bool) (.tk 20 .p (.tk 21 .p (.tk 22 .p (.sp 112 (.tk 23 .p (.tk 26 .p (.tk 27 .p (.tk 28 .p (.ts 29 .val (.tk 30 .p (.go 24 .p (.tk 31 .p (.tk 32 .p (.tk 33 .p (.tk 34 .p (.ts 25 .val (.ts 35 .val (.tk 36 .p (.tk 37 .p (.tk 38 .p (.tk 39 .p (.tk 40 .p (.tk 41 .p (.tk 42 .p (.go 43 .p (.ts 44 .val (.tk 45 .p (.tk 46 .p (.go 47 .p (.go 48 .p (.tk 49 .p (.tk 50 .p (.tk 51 .p (.nil)))))))))))))))))))))))))))))) (.tk 23 .p (.tk 26 .p (.tk 27 .p (.tk 28 .p (.ts 29 (.bool) (.tk 30 .p (.go 24 (.cl [.val]) (.tk 31 .p (.sp 121 (.tk 32 .p (.tk 33 .p (.tk 34 .p (.ts 25 (.bool) (.ts 35 (.slice) (.tk 36 .p (.tk 37 .p (.tk 38 .p (.tk 39 .p (.tk 40 .p (.tk 41 .p (.sp 131 (.tk 42 .p (.go 43 .p (.ts 44 .val (.tk 45 .p (.tk 46 .p (.go 47 .p (.go 48 .p (.tk 49 .p (.tk 50 .p (.tk 51 .p (.nil))))))))))) (.tk 42 .p (.go 43 (.cl [.val]) (.ts 44 (.bool) (.tk 45 .p (.sp 135 (.tk 46 .p (.go 47 (.cl [.val]) (.go 48 (.cl [.int .i64]) (.tk 49 .p (.tk 50 .p (.tk 51 .p (.nil))))))) (.tk 46 .p (.go 47 .p (.go 48 .p (.tk 49 .p (.tk 50 .p (.tk 51 .p (.nil)))))))))))))))))))))))) (.tk 32 .p (.tk 33 .p (.tk 34 .p (.ts 25 (.bool) (.ts 35 .val (.tk 36 .p (.tk 37 .p (.tk 38 .p (.tk 39 .p (.tk 40 .p (.tk 41 .p (.sp 131 (.tk 42 .p (.go 43 .p (.ts 44 .val (.tk 45 .p (.tk 46 .p (.go 47 .p (.go 48 .p (.tk 49 .p (.tk 50 .p (.tk 51 .p (.nil))))))))))) (.tk 42 .p (.go 43 (.cl [.val]) (.ts 44 (.bool) (.tk 45 .p (.sp 135 (.tk 46 .p (.go 47 (.cl [.val]) (.go 48 (.cl [.int .i64]) (.tk 49 .p (.tk 50 .p (.tk 51 .p (.nil))))))) (.tk 46 .p (.go 47 .p (.go 48 .p (.tk 49 .p (.tk 50 .p (.tk 51 .p (.nil))))))))))))))))))))))))))))))))))))))))))))))))))))))))))) [])) (.cond (.seq (.reg (.op .p (.nil))) (.leaf)) (.leaf))))))) (.reg (.op .p (.op .p (.nil)))))))))) (.seq (.reg (.op .p (.nil))) (.leaf)))))))))))
    (by kernel_rfl) Try.func7 (by kernel_rfl) (by kernel_rfl) (by kernel_rfl) (by kernel_rfl) h

set_option maxRecDepth 100000 in
theorem amphoralaw04_WireCuts_vc (a0a : Option Addr) (a0n : Nat) (a0c : Nat) (a1 : Int) (a2 : Int) (w : World) (R : Ending → World → Prop) (h :
  Calls Try.prog 10 #[] w fun (e17 : Ending) (w1 : World) => ∃ (t17 : Bool), e17 = .returned (.bool t17) ∧
  (((!t17) = true →
      (R (.returned (.bool false)) w1)) ∧
    ((!t17) = false →
      (∃ J : Bool → World → Prop, (((decide (((a0n : Nat) : Int) > (200 : Int))) = true →
            (J true w1)) ∧
          ((decide (((a0n : Nat) : Int) > (200 : Int))) = false →
            (Calls Try.prog 22 #[(.slice a0a a0n a0c), (.int .i64 1048576)] w1 fun (e24 : Ending) (w2 : World) => ∃ (t24 : Int), e24 = .returned (.int .i64 t24) ∧
              (J (decide (t24 > (16384 : Int))) w2)))) ∧
        (∀ (x26 : Bool), ∀ w3 : World, J x26 w3 →
          ((x26 = true →
              (R (.returned (.bool true)) w3)) ∧
            (x26 = false →
              (Calls Try.prog 23 #[(.slice a0a a0n a0c)] w3 fun (e28 : Ending) (w4 : World) => ∃ (t28a : Option Addr) (t28n : Nat) (t28c : Nat), e28 = .returned (.slice t28a t28n t28c) ∧
                (∃ J_1 : World → Prop, ((((decide (a2 ≥ (0 : Int))) && (decide (a2 < ((t28n : Nat) : Int)))) = true →
                      (0 ≤ a2 ∧ a2 ≤ ((t28c : Nat) : Int) ∧
                        (Calls Try.prog 26 #[(.slice t28a (Int.toNat a2) t28c), (.int .i64 ((a0n : Nat) : Int))] w4 fun (e43 : Ending) (w5 : World) => ∃ (t43_0a : Option Addr) (t43_0n : Nat) (t43_0c : Nat) (t43_1 : Value), e43 = .returned (.tuple #[(.slice t43_0a t43_0n t43_0c), t43_1]) ∧
                          (∃ (t47 : Bool), (eqlS .eql 26 (.tmp 46) (.const .nilIface) t43_1 .nilIface).run Try.prog w5 = .ok (.bool t47) w5 ∧
                            ((t47 = true →
                                (R (.returned (.bool false)) w5)) ∧
                              (t47 = false →
                                (J_1  w5))))))) ∧
                    (((decide (a2 ≥ (0 : Int))) && (decide (a2 < ((t28n : Nat) : Int)))) = false →
                      (J_1  w4))) ∧
                  (∀ w6 : World, J_1  w6 →
                    (∃ (t49a : Option Addr) (t49n : Nat) (t49c : Nat) (w7 : World), (Instr.buildSlice 22 0 #[]).run Try.prog w6 = .ok (.slice t49a t49n t49c) w7 ∧
                      (∃ (t51a : Option Addr) (t51n : Nat) (t51c : Nat) (w8 : World), (Builtin.append_ #[22, 22] 22 #[(.slice t49a t49n t49c), (.slice t28a t28n t28c)]).run Try.prog w7 = .ok (.slice t51a t51n t51c) w8 ∧
                        (∃ (t52a : Option Addr) (t52n : Nat) (t52c : Nat) (w9 : World), (Instr.buildSlice 22 1 #[(0, (.int .u8 0))]).run Try.prog w8 = .ok (.slice t52a t52n t52c) w9 ∧
                          (∃ (t53a : Option Addr) (t53n : Nat) (t53c : Nat) (w10 : World), (Builtin.append_ #[22, 22] 22 #[(.slice t51a t51n t51c), (.slice t52a t52n t52c)]).run Try.prog w9 = .ok (.slice t53a t53n t53c) w10 ∧
                            (Calls Try.prog 26 #[(.slice t53a t53n t53c), (.int .i64 ((a0n : Nat) : Int))] w10 fun (e56 : Ending) (w11 : World) => ∃ (t56_0a : Option Addr) (t56_0n : Nat) (t56_0c : Nat) (t56_1 : Value), e56 = .returned (.tuple #[(.slice t56_0a t56_0n t56_0c), t56_1]) ∧
                              (∃ (t60 : Bool), (eqlS .eql 26 (.tmp 59) (.const .nilIface) t56_1 .nilIface).run Try.prog w11 = .ok (.bool t60) w11 ∧
                                ((t60 = true →
                                    (R (.returned (.bool false)) w11)) ∧
                                  (t60 = false →
                                    (Calls Try.prog 43 #[(.int .u8 a1), (.slice a0a a0n a0c)] w11 fun (e63 : Ending) (w12 : World) => ∃ (t63a : Option Addr) (t63n : Nat) (t63c : Nat), e63 = .returned (.slice t63a t63n t63c) ∧
                                      (∃ J_2 : World → Prop, ((((decide (a2 ≥ (0 : Int))) && (decide (a2 < ((t63n : Nat) : Int)))) = true →
                                            (0 ≤ a2 ∧ a2 ≤ ((t63c : Nat) : Int) ∧
                                              (Calls Try.prog 44 #[(.slice t63a (Int.toNat a2) t63c)] w12 fun (e76 : Ending) (w13 : World) => ∃ (t76_0a : Option Addr) (t76_0n : Nat) (t76_0c : Nat) (t76_1 : Int), e76 = .returned (.tuple #[(.slice t76_0a t76_0n t76_0c), (.int .i64 t76_1)]) ∧
                                                ((((((t76_0n : Nat) : Int) != (0 : Int)) || (t76_1 != (0 : Int))) = true →
                                                    (R (.returned (.bool false)) w13)) ∧
                                                  (((((t76_0n : Nat) : Int) != (0 : Int)) || (t76_1 != (0 : Int))) = false →
                                                    (J_2  w13)))))) ∧
                                          (((decide (a2 ≥ (0 : Int))) && (decide (a2 < ((t63n : Nat) : Int)))) = false →
                                            (J_2  w12))) ∧
                                        (∀ w14 : World, J_2  w14 →
                                          (Calls Try.prog 44 #[(.slice t63a t63n t63c)] w14 fun (e88 : Ending) (w15 : World) => ∃ (t88_0a : Option Addr) (t88_0n : Nat) (t88_0c : Nat) (t88_1 : Int), e88 = .returned (.tuple #[(.slice t88_0a t88_0n t88_0c), (.int .i64 t88_1)]) ∧
                                            (R (.returned (.bool ((((t88_0n : Nat) : Int) == (1 : Int)) && (t88_1 == ((t63n : Nat) : Int))))) w15))))))))))))))))))))))) : Calls Try.prog 8 #[(.slice a0a a0n a0c), (.int .u8 a1), (.int .i64 a2)] w R :=
  calls_of_ev (args := [(.slice a0a a0n a0c), (.int .u8 a1), (.int .i64 a2)])
    (tc := .seq (.reg (.op .p (.nil))) (.seq (.seq (.reg (.op (.cl [.bool]) (.op .p (.nil)))) (.cond (.seq (.reg (.op .p (.nil))) (.leaf)) (.leaf))) (.seq (.seq (.join [19, 20, 21, 22, 23, 24, 25, 26] [26] [.bool] (.reg (.op .p (.op .p (.op .p (.op .p (.sp 22 (.op .p (.op .p (.op .p (.op .p (.nil))))) (.op .p (.op (.cl [.int .i64]) (.op .p (.op .p (.nil)))))))))))) (.cond (.seq (.reg (.op .p (.nil))) (.leaf)) (.leaf))) (.seq (.reg (.op .p (.op (.cl [.slice]) (.op .p (.nil))))) (.seq (.seq (.reg (.op .p (.op .p (.op .p (.ap 4 (.nil)))))) (.join [6, 8, 9, 37, 38, 39, 40, 41, 42, 43, 44, 45, 46, 47] [] [] (.cond (.seq (.reg (.op .p (.op .p (.op .sl (.op .p (.op .p (.op (.cl [.slice, .val]) (.op .p (.op .p (.op .p (.op .p (.op .p (.nil))))))))))))) (.seq (.reg (.op .p (.op (.ld (.bool)) (.nil)))) (.cond (.seq (.reg (.op .p (.nil))) (.leaf)) (.leaf)))) (.leaf)))) (.seq (.seq (.reg (.op (.r (.slice)) (.op .p (.op (.r (.slice)) (.op (.r (.slice)) (.op (.r (.slice)) (.op .p (.op .p (.op (.cl [.slice, .val]) (.op .p (.op .p (.op .p (.op .p (.op .p (.nil))))))))))))))) (.seq (.reg (.op .p (.op (.ld (.bool)) (.nil)))) (.cond (.seq (.reg (.op .p (.nil))) (.leaf)) (.leaf)))) (.seq (.reg (.op .p (.op .p (.op (.cl [.slice]) (.op .p (.nil)))))) (.seq (.seq (.reg (.op .p (.op .p (.op .p (.ap 4 (.nil)))))) (.join [6, 13, 14, 72, 73, 74, 75, 76, 77, 78, 79, 80, 81, 82, 83, 84, 85] [] [] (.cond (.seq (.reg (.op .p (.op .p (.op .sl (.op (.cl [.slice, .int .i64]) (.op .p (.op .p (.op .p (.op .p (.op .p (.nil))))))))))) (.seq (.reg (.op .p (.op .p (.op .p (.op .p (.ap 2 (.nil))))))) (.cond (.seq (.reg (.op .p (.nil))) (.leaf)) (.leaf)))) (.leaf)))) (.seq (.reg (.op .p (.op (.cl [.slice, .int .i64]) (.op .p (.op .p (.op .p (.op .p (.op .p (.nil))))))))) (.seq (.reg (.op .p (.op .p (.op .p (.op .p (.ap 4 (.op .p (.nil)))))))) (.leaf)))))))))))
    (by kernel_rfl) Try.func8 (by kernel_rfl) (by kernel_rfl) (by kernel_rfl) (by kernel_rfl) h

set_option maxRecDepth 100000 in
theorem amphoralaw04_WireBack_vc (a0 : Int) (a1a : Option Addr) (a1n : Nat) (a1c : Nat) (a2a : Option Addr) (a2n : Nat) (a2c : Nat) (w : World) (R : Ending → World → Prop) (h :
  Calls Try.prog 10 #[] w fun (e18 : Ending) (w1 : World) => ∃ (t18 : Bool), e18 = .returned (.bool t18) ∧
  (((!t18) = true →
      (R (.returned (.bool false)) w1)) ∧
    ((!t18) = false →
      (∃ J : Bool → World → Prop, (((decide (((a1n : Nat) : Int) > (1000 : Int))) = true →
            (J true w1)) ∧
          ((decide (((a1n : Nat) : Int) > (1000 : Int))) = false →
            (Calls Try.prog 22 #[(.slice a1a a1n a1c), (.int .i64 1048576)] w1 fun (e25 : Ending) (w2 : World) => ∃ (t25 : Int), e25 = .returned (.int .i64 t25) ∧
              (J ((decide (t25 > (262144 : Int))) || (decide (((a2n : Nat) : Int) > (262144 : Int)))) w2)))) ∧
        (∀ (x32 : Bool), ∀ w3 : World, J x32 w3 →
          ((x32 = true →
              (R (.returned (.bool true)) w3)) ∧
            (x32 = false →
              (Calls Try.prog 18 #[(.int .i64 a0)] w3 fun (e35 : Ending) (w4 : World) => ∃ (t35a : Option Addr) (t35n : Nat) (t35c : Nat), e35 = .returned (.slice t35a t35n t35c) ∧
                (Calls Try.prog 12 #[(.slice t35a t35n t35c)] w4 fun (e36 : Ending) (w5 : World) => ∃ (t36_0 : Int) (t36_1 : Int) (t36_2 : Value), e36 = .returned (.tuple #[(.int .i64 t36_0), (.int .i64 t36_1), t36_2]) ∧
                  (Calls Try.prog 20 #[(.int .i64 a0)] w5 fun (e42 : Ending) (w6 : World) => ∃ (t42a : Option Addr) (t42n : Nat) (t42c : Nat), e42 = .returned (.slice t42a t42n t42c) ∧
                    (Calls Try.prog 14 #[(.slice t42a t42n t42c)] w6 fun (e43 : Ending) (w7 : World) => ∃ (t43_0 : Int) (t43_1 : Value), e43 = .returned (.tuple #[(.int .i64 t43_0), t43_1]) ∧
                      (∃ J_1 : Bool → World → Prop, (((decide (a0 ≥ (0 : Int))) = true →
                            (((t36_0 != a0) = true →
                                (J_1 true w7)) ∧
                              ((t36_0 != a0) = false →
                                (∃ (t54 : Bool), (eqlS .neq 26 (.tmp 53) (.const .nilIface) t36_2 .nilIface).run Try.prog w7 = .ok (.bool t54) w7 ∧
                                  ((t54 = true →
                                      (J_1 true w7)) ∧
                                    (t54 = false →
                                      (Calls Try.prog 18 #[(.int .i64 a0)] w7 fun (e59 : Ending) (w8 : World) => ∃ (t59a : Option Addr) (t59n : Nat) (t59c : Nat), e59 = .returned (.slice t59a t59n t59c) ∧
                                        (((t36_1 != ((t59n : Nat) : Int)) = true →
                                            (J_1 true w8)) ∧
                                          ((t36_1 != ((t59n : Nat) : Int)) = false →
                                            (((decide (a0 < (0 : Int))) = true →
                                                (∃ (t69 : Bool), (eqlS .eql 26 (.tmp 68) (.const .nilIface) t36_2 .nilIface).run Try.prog w8 = .ok (.bool t69) w8 ∧
                                                  (((t69 || (t43_0 != a0)) = true →
                                                      (J_1 true w8)) ∧
                                                    ((t69 || (t43_0 != a0)) = false →
                                                      (∃ (t79 : Bool), (eqlS .neq 26 (.tmp 78) (.const .nilIface) t43_1 .nilIface).run Try.prog w8 = .ok (.bool t79) w8 ∧
                                                        (J_1 t79 w8)))))) ∧
                                              ((decide (a0 < (0 : Int))) = false →
                                                (((t43_0 != a0) = true →
                                                    (J_1 true w8)) ∧
                                                  ((t43_0 != a0) = false →
                                                    (∃ (t79 : Bool), (eqlS .neq 26 (.tmp 78) (.const .nilIface) t43_1 .nilIface).run Try.prog w8 = .ok (.bool t79) w8 ∧
                                                      (J_1 t79 w8))))))))))))))) ∧
                          ((decide (a0 ≥ (0 : Int))) = false →
                            (((decide (a0 < (0 : Int))) = true →
                                (∃ (t69 : Bool), (eqlS .eql 26 (.tmp 68) (.const .nilIface) t36_2 .nilIface).run Try.prog w7 = .ok (.bool t69) w7 ∧
                                  (((t69 || (t43_0 != a0)) = true →
                                      (J_1 true w7)) ∧
                                    ((t69 || (t43_0 != a0)) = false →
                                      (∃ (t79 : Bool), (eqlS .neq 26 (.tmp 78) (.const .nilIface) t43_1 .nilIface).run Try.prog w7 = .ok (.bool t79) w7 ∧
                                        (J_1 t79 w7)))))) ∧
                              ((decide (a0 < (0 : Int))) = false →
                                (((t43_0 != a0) = true →
                                    (J_1 true w7)) ∧
                                  ((t43_0 != a0) = false →
                                    (∃ (t79 : Bool), (eqlS .neq 26 (.tmp 78) (.const .nilIface) t43_1 .nilIface).run Try.prog w7 = .ok (.bool t79) w7 ∧
                                      (J_1 t79 w7)))))))) ∧
                        (∀ (x80 : Bool), ∀ w9 : World, J_1 x80 w9 →
                          ((x80 = true →
                              (R (.returned (.bool false)) w9)) ∧
                            (x80 = false →
                              (Calls Try.prog 23 #[(.slice a1a a1n a1c)] w9 fun (e83 : Ending) (w10 : World) => ∃ (t83a : Option Addr) (t83n : Nat) (t83c : Nat), e83 = .returned (.slice t83a t83n t83c) ∧
                                (Calls Try.prog 26 #[(.slice t83a t83n t83c), (.int .i64 ((a1n : Nat) : Int))] w10 fun (e86 : Ending) (w11 : World) => ∃ (t86_0a : Option Addr) (t86_0n : Nat) (t86_0c : Nat) (t86_1 : Value), e86 = .returned (.tuple #[(.slice t86_0a t86_0n t86_0c), t86_1]) ∧
                                  (∃ J_2 : Bool → World → Prop, (∃ (t90 : Bool), (eqlS .neq 26 (.tmp 89) (.const .nilIface) t86_1 .nilIface).run Try.prog w11 = .ok (.bool t90) w11 ∧
                                      ((t90 = true →
                                          (J_2 true w11)) ∧
                                        (t90 = false →
                                          (Calls Try.prog 25 #[(.slice t86_0a t86_0n t86_0c), (.slice a1a a1n a1c)] w11 fun (e94 : Ending) (w12 : World) => ∃ (t94 : Bool), e94 = .returned (.bool t94) ∧
                                            (J_2 (!t94) w12))))) ∧
                                    (∀ (x96 : Bool), ∀ w13 : World, J_2 x96 w13 →
                                      ((x96 = true →
                                          (R (.returned (.bool false)) w13)) ∧
                                        (x96 = false →
                                          (Calls Try.prog 12 #[(.slice a2a a2n a2c)] w13 fun (e99 : Ending) (w14 : World) => ∃ (t99_0 : Int) (t99_1 : Int) (t99_2 : Value), e99 = .returned (.tuple #[(.int .i64 t99_0), (.int .i64 t99_1), t99_2]) ∧
                                            (∃ J_3 : Bool → World → Prop, (∃ S : World → Prop, S w14.drew ∧
                                                (∃ (t104 : Bool), (∀ w' : World, S w' → (eqlS .eql 26 (.tmp 103) (.const .nilIface) t99_2 .nilIface).run Try.prog w' = .ok (.bool t104) w') ∧
                                                  ((t104 = true →
                                                      (((decide (t99_0 < (0 : Int))) = true →
                                                          (S w14.drew ∧
                                                            (J_3 true w14.drew))) ∧
                                                        ((decide (t99_0 < (0 : Int))) = false →
                                                          (((decide (t99_1 < (1 : Int))) = true →
                                                              (S w14.drew ∧
                                                                (J_3 true w14.drew))) ∧
                                                            ((decide (t99_1 < (1 : Int))) = false →
                                                              (((decide (t99_1 > ((a2n : Nat) : Int))) = true →
                                                                  (S w14.drew ∧
                                                                    (J_3 true w14.drew))) ∧
                                                                ((decide (t99_1 > ((a2n : Nat) : Int))) = false →
                                                                  (0 ≤ t99_1 ∧ t99_1 ≤ ((a2c : Nat) : Int) ∧
                                                                    (∃ (t125 : ByteArray), (∀ w' : World, S w' → (convert 22 9 (.slice a2a (Int.toNat t99_1) a2c)).run Try.prog w' = .ok (.string t125) w') ∧
                                                                      (Calls Try.prog 18 #[(.int .i64 t99_0)] w14.drew fun (e120 : Ending) (w15 : World) => ∃ (t120a : Option Addr) (t120n : Nat) (t120c : Nat), e120 = .returned (.slice t120a t120n t120c) ∧
                                                                        (∃ S_1 : World → Prop, (∀ w' : World, S_1 w' → S w') ∧ S_1 w15 ∧
                                                                          (∃ (t121 : ByteArray), (∀ w' : World, S_1 w' → (convert 22 9 (.slice t120a t120n t120c)).run Try.prog w' = .ok (.string t121) w') ∧
                                                                            (J_3 (!(t121.toList == t125.toList)) w15))))))))))))) ∧
                                                    (t104 = false →
                                                      (S w14.drew ∧
                                                        (J_3 false w14.drew)))))) ∧
                                              (∀ (x128 : Bool), ∀ w16 : World, J_3 x128 w16 →
                                                ((x128 = true →
                                                    (R (.returned (.bool false)) w16)) ∧
                                                  (x128 = false →
                                                    (Calls Try.prog 44 #[(.slice a2a a2n a2c)] w16 fun (e131 : Ending) (w17 : World) => ∃ (t131_0a : Option Addr) (t131_0n : Nat) (t131_0c : Nat) (t131_1 : Int), e131 = .returned (.tuple #[(.slice t131_0a t131_0n t131_0c), (.int .i64 t131_1)]) ∧
                                                      (∃ (t134a : Option Addr) (t134n : Nat) (t134c : Nat) (w18 : World), (Instr.buildSlice 22 0 #[]).run Try.prog w17 = .ok (.slice t134a t134n t134c) w18 ∧
                                                        (∃ (I : Option Addr → Nat → Nat → Int → World → Prop) (μ : Option Addr → Nat → Nat → Int → World → Nat), I t134a t134n t134c 0 w18 ∧
                                                          (∀ (x15a : Option Addr) (x15n : Nat) (x15c : Nat) (x137 : Int), ∀ w19 : World, I x15a x15n x15c x137 w19 →
                                                            (((decide (x137 < ((t131_0n : Nat) : Int))) = true →
                                                                (∃ (t139b t139o : Nat), t131_0a = some ⟨t139b, t139o, none⟩ ∧ 0 ≤ x137 ∧ x137 < ((t131_0n : Nat) : Int) ∧
                                                                  (∃ (t140 : Array Value), (Instr.loadAt 73 (.pointer (some ⟨t139b, t139o + Int.toNat x137 * 3, none⟩))).run Try.prog w19 = .ok (.agg t140) w19 ∧
                                                                    (∃ (g17 : Nat) (w20 : World), (Instr.alloc 73 true (.tuple #[])).run Try.prog w19 = .ok (.pointer (some ⟨g17, 0, none⟩)) w20 ∧
                                                                      (∃ w21 : World, (Instr.storeAt 73 (.pointer (some ⟨g17, 0, none⟩)) (.agg t140)).run Try.prog w20 = .ok () w21 ∧
                                                                        (∃ J_4 : Bool → World → Prop, (∃ (t142 : Int), (Instr.loadAt 3 (.pointer (some ⟨g17, 2, none⟩))).run Try.prog w21 = .ok (.int .i64 t142) w21 ∧
                                                                            (((t142 != ((x15n : Nat) : Int)) = true →
                                                                                (J_4 true w21)) ∧
                                                                              ((t142 != ((x15n : Nat) : Int)) = false →
                                                                                (∃ (t148 : Int), (Instr.loadAt 3 (.pointer (some ⟨g17, 0, none⟩))).run Try.prog w21 = .ok (.int .i64 t148) w21 ∧
                                                                                (((decide (t148 < (0 : Int))) = true →
                                                                                (J_4 true w21)) ∧
                                                                                ((decide (t148 < (0 : Int))) = false →
                                                                                (∃ (t153 : Int), (Instr.loadAt 3 (.pointer (some ⟨g17, 0, none⟩))).run Try.prog w21 = .ok (.int .i64 t153) w21 ∧
                                                                                (J_4 (decide (t153 > (255 : Int))) w21)))))))) ∧
                                                                          (∀ (x155 : Bool), ∀ w22 : World, J_4 x155 w22 →
                                                                            ((x155 = true →
                                                                                (R (.returned (.bool false)) w22)) ∧
                                                                              (x155 = false →
                                                                                (∃ (t158 : Int), (Instr.loadAt 3 (.pointer (some ⟨g17, 0, none⟩))).run Try.prog w22 = .ok (.int .i64 t158) w22 ∧
                                                                                (∃ (t161a : Option Addr) (t161n : Nat) (t161c : Nat), (Instr.loadAt 22 (.pointer (some ⟨g17, 1, none⟩))).run Try.prog w22 = .ok (.slice t161a t161n t161c) w22 ∧
                                                                                (∃ (t162a : Option Addr) (t162n : Nat) (t162c : Nat) (w23 : World), (Instr.buildSlice 39 1 #[(0, (.slice t161a t161n t161c))]).run Try.prog w22 = .ok (.slice t162a t162n t162c) w23 ∧
                                                                                (Calls Try.prog 43 #[(.int .u8 (IntKind.wrap .u8 t158)), (.slice t162a t162n t162c)] w23 fun (e163 : Ending) (w24 : World) => ∃ (t163a : Option Addr) (t163n : Nat) (t163c : Nat), e163 = .returned (.slice t163a t163n t163c) ∧
                                                                                (∃ (t164a : Option Addr) (t164n : Nat) (t164c : Nat) (w25 : World), (Builtin.append_ #[22, 22] 22 #[(.slice x15a x15n x15c), (.slice t163a t163n t163c)]).run Try.prog w24 = .ok (.slice t164a t164n t164c) w25 ∧
                                                                                (I t164a t164n t164c (IntKind.wrap .i64 (x137 + (1 : Int))) w25 ∧ μ t164a t164n t164c (IntKind.wrap .i64 (x137 + (1 : Int))) w25 < μ x15a x15n x15c x137 w19))))))))))))))) ∧
                                                              ((decide (x137 < ((t131_0n : Nat) : Int))) = false →
                                                                (∃ S_1 : World → Prop, S_1 w19.drew ∧
                                                                  (((t131_1 == ((x15n : Nat) : Int)) = true →
                                                                      (((decide (t131_1 ≤ ((a2n : Nat) : Int))) = true →
                                                                          (0 ≤ t131_1 ∧ t131_1 ≤ ((a2c : Nat) : Int) ∧
                                                                            (∃ (t178 : ByteArray), (∀ w' : World, S_1 w' → (convert 22 9 (.slice x15a x15n x15c)).run Try.prog w' = .ok (.string t178) w') ∧
                                                                              (∃ (t182 : ByteArray), (∀ w' : World, S_1 w' → (convert 22 9 (.slice a2a (Int.toNat t131_1) a2c)).run Try.prog w' = .ok (.string t182) w') ∧
                                                                                (R (.returned (.bool (t178.toList == t182.toList))) w19.drew))))) ∧
                                                                        ((decide (t131_1 ≤ ((a2n : Nat) : Int))) = false →
                                                                          (R (.returned (.bool false)) w19.drew)))) ∧
                                                                    ((t131_1 == ((x15n : Nat) : Int)) = false →
                                                                      (R (.returned (.bool false)) w19.drew)))))))))))))))))))))))))))))))))))) : Calls Try.prog 9 #[(.int .i64 a0), (.slice a1a a1n a1c), (.slice a2a a2n a2c)] w R :=
  calls_of_ev (args := [(.int .i64 a0), (.slice a1a a1n a1c), (.slice a2a a2n a2c)])
    (tc := .seq (.reg (.op .p (.nil))) (.seq (.seq (.reg (.op (.cl [.bool]) (.op .p (.nil)))) (.cond (.seq (.reg (.op .p (.nil))) (.leaf)) (.leaf))) (.seq (.seq (.join [20, 21, 22, 23, 24, 25, 26, 27, 28, 29, 30, 31, 32] [32] [.bool] (.reg (.op .p (.op .p (.op .p (.op .p (.sp 23 (.op .p (.op .p (.op .p (.op .p (.op .p (.op .p (.op .p (.op .p (.op .p (.nil)))))))))) (.op .p (.op (.cl [.int .i64]) (.op .p (.op .p (.op .p (.ap 3 (.nil)))))))))))))) (.cond (.seq (.reg (.op .p (.nil))) (.leaf)) (.leaf))) (.seq (.reg (.op .p (.op (.cl [.slice]) (.op (.cl [.int .i64, .int .i64, .val]) (.op .p (.op .p (.op .p (.op .p (.op .p (.op .p (.op .p (.nil)))))))))))) (.seq (.reg (.op .p (.op (.cl [.slice]) (.op (.cl [.int .i64, .val]) (.op .p (.op .p (.op .p (.op .p (.op .p (.nil)))))))))) (.seq (.seq (.join [46, 47, 48, 49, 50, 51, 52, 53, 54, 55, 56, 57, 58, 59, 60, 61, 62, 63, 64, 65, 66, 67, 68, 69, 70, 71, 72, 73, 74, 75, 76, 77, 78, 79, 80] [80] [.bool] (.reg (.op .p (.op .p (.op .p (.sp 48 (.op .p (.op .p (.op .p (.op .p (.sp 52 (.op .p (.op .p (.op .p (.op .p (.op .p (.op .p (.op .p (.op .p (.op .p (.op .p (.op .p (.op .p (.op .p (.op .p (.op .p (.op .p (.op .p (.op .p (.op .p (.op .p (.op .p (.op .p (.op .p (.op .p (.op .p (.op .p (.op .p (.op .p (.nil))))))))))))))))))))))))))))) (.op .p (.op (.ld (.bool)) (.op .p (.op .p (.sp 56 (.op .p (.op .p (.op .p (.op .p (.op .p (.op .p (.op .p (.op .p (.op .p (.op .p (.op .p (.op .p (.op .p (.op .p (.op .p (.op .p (.op .p (.op .p (.op .p (.op .p (.op .p (.op .p (.op .p (.op .p (.nil))))))))))))))))))))))))) (.op .p (.op .p (.op (.cl [.slice]) (.op .p (.op .p (.op .p (.op .p (.op .p (.sp 64 (.op .p (.op .p (.op .p (.op .p (.op .p (.op .p (.op .p (.op .p (.op .p (.op .p (.op .p (.op .p (.op .p (.op .p (.op .p (.op .p (.nil))))))))))))))))) (.op .p (.op .p (.op .p (.sp 67 (.op .p (.op (.ld (.bool)) (.op .p (.op .p (.op .p (.ap 3 (.op .p (.sp 77 (.op .p (.op .p (.op .p (.nil)))) (.op .p (.op (.ld (.bool)) (.op .p (.nil)))))))))))) (.op .p (.op .p (.op .p (.op .p (.op .p (.op .p (.op .p (.op .p (.op .p (.op .p (.sp 77 (.op .p (.op .p (.op .p (.nil)))) (.op .p (.op (.ld (.bool)) (.op .p (.nil)))))))))))))))))))))))))))))))))))))) (.op .p (.op .p (.op .p (.op .p (.op .p (.op .p (.op .p (.op .p (.op .p (.op .p (.op .p (.op .p (.op .p (.op .p (.op .p (.op .p (.op .p (.op .p (.op .p (.sp 67 (.op .p (.op (.ld (.bool)) (.op .p (.op .p (.op .p (.ap 3 (.op .p (.sp 77 (.op .p (.op .p (.op .p (.nil)))) (.op .p (.op (.ld (.bool)) (.op .p (.nil)))))))))))) (.op .p (.op .p (.op .p (.op .p (.op .p (.op .p (.op .p (.op .p (.op .p (.op .p (.sp 77 (.op .p (.op .p (.op .p (.nil)))) (.op .p (.op (.ld (.bool)) (.op .p (.nil))))))))))))))))))))))))))))))))))))))))) (.cond (.seq (.reg (.op .p (.nil))) (.leaf)) (.leaf))) (.seq (.reg (.op .p (.op (.cl [.slice]) (.op .p (.op .p (.op (.cl [.slice, .val]) (.op .p (.op .p (.op .p (.op .p (.op .p (.nil)))))))))))) (.seq (.seq (.join [89, 90, 91, 92, 93, 94, 95, 96] [96] [.bool] (.reg (.op .p (.op (.ld (.bool)) (.op .p (.sp 91 (.op .p (.op .p (.op .p (.op .p (.op .p (.nil)))))) (.op .p (.op .p (.op (.cl [.bool]) (.op .p (.op .p (.nil)))))))))))) (.cond (.seq (.reg (.op .p (.nil))) (.leaf)) (.leaf))) (.seq (.reg (.op .p (.op (.cl [.int .i64, .int .i64, .val]) (.op .p (.op .p (.op .p (.op .p (.op .p (.op .p (.op .p (.nil))))))))))) (.seq (.seq (.join [103, 104, 105, 106, 107, 108, 109, 110, 111, 112, 113, 114, 115, 116, 117, 118, 119, 120, 121, 122, 123, 124, 125, 126, 127, 128] [128] [.bool] (.drawS (.tk 0 .p (.ts 1 (.bool) (.tk 2 .p (.sp 105 (.tk 3 .p (.tk 4 .p (.tk 5 .p (.sp 108 (.tk 6 .p (.tk 7 .p (.tk 8 .p (.tk 9 .p (.tk 10 .p (.tk 11 .p (.tk 12 .p (.tk 13 .p (.tk 14 .p (.tk 15 .p (.tk 16 .p (.tk 19 .p (.tk 20 .p (.tk 21 .p (.ts 22 .val (.go 17 .p (.ts 18 .val (.tk 23 .p (.tk 24 .p (.tk 25 .p (.nil))))))))))))))))))))) (.tk 6 .p (.tk 7 .p (.tk 8 .p (.tk 9 .p (.sp 112 (.tk 10 .p (.tk 11 .p (.tk 12 .p (.tk 13 .p (.tk 14 .p (.tk 15 .p (.tk 16 .p (.tk 19 .p (.tk 20 .p (.tk 21 .p (.ts 22 .val (.go 17 .p (.ts 18 .val (.tk 23 .p (.tk 24 .p (.tk 25 .p (.nil))))))))))))))))) (.tk 10 .p (.tk 11 .p (.tk 12 .p (.tk 13 .p (.tk 14 .p (.tk 15 .p (.sp 118 (.tk 16 .p (.tk 19 .p (.tk 20 .p (.tk 21 .p (.ts 22 .val (.go 17 .p (.ts 18 .val (.tk 23 .p (.tk 24 .p (.tk 25 .p (.nil))))))))))) (.tk 16 .p (.tk 19 .p (.tk 20 .p (.tk 21 .sl (.ts 22 (.str) (.go 17 (.cl [.slice]) (.ts 18 (.str) (.tk 23 .p (.tk 24 .p (.tk 25 .p (.nil))))))))))))))))))))))))))) (.tk 3 .p (.tk 4 .p (.tk 5 .p (.tk 6 .p (.tk 7 .p (.tk 8 .p (.tk 9 .p (.tk 10 .p (.tk 11 .p (.tk 12 .p (.tk 13 .p (.tk 14 .p (.tk 15 .p (.tk 16 .p (.tk 19 .p (.tk 20 .p (.tk 21 .p (.ts 22 .val (.go 17 .p (.ts 18 .val (.tk 23 .p (.tk 24 .p (.tk 25 .p (.nil)))))))))))))))))))))))))))) [])) (.cond (.seq (.reg (.op .p (.nil))) (.leaf)) (.leaf))) (.seq (.reg (.op .p (.op (.cl [.slice, .int .i64]) (.op .p (.op .p (.op .p (.op .p (.op .p (.nil))))))))) (.seq (.reg (.op (.r (.slice)) (.op .p (.nil)))) (.seq (.seq (.reg (.op .p (.op .p (.op .p (.nil))))) (.blk (.loop [6, 15, 17, 137, 138, 139, 140, 141, 142, 143, 144, 145, 146, 147, 148, 149, 150, 151, 152, 153, 154, 155, 156, 157, 158, 159, 160, 161, 162, 163, 164, 165] [15, 137] [.slice, .int .i64] (.seq (.reg (.op .p (.nil))) (.seq (.cond (.leaf) (.leaf)) (.seq (.blk (.seq (.reg (.op .ix (.op (.ld (.agg)) (.op .bx (.op .u (.nil)))))) (.seq (.seq (.join [141, 142, 143, 144, 145, 146, 147, 148, 149, 150, 151, 152, 153, 154, 155] [155] [.bool] (.reg (.op .p (.op (.ld (.int .i64)) (.op .p (.op .p (.op .p (.op .p (.sp 146 (.op .p (.op .p (.op .p (.op .p (.op .p (.op .p (.op .p (.op .p (.op .p (.nil)))))))))) (.op .p (.op (.ld (.int .i64)) (.op .p (.op .p (.op .p (.sp 151 (.op .p (.op .p (.op .p (.op .p (.nil))))) (.op .p (.op (.ld (.int .i64)) (.op .p (.op .p (.nil)))))))))))))))))))) (.cond (.seq (.reg (.op .p (.nil))) (.leaf)) (.leaf))) (.reg (.op .p (.op .p (.op (.ld (.int .i64)) (.op .p (.op .p (.op (.ld (.slice)) (.op (.r (.slice)) (.op (.cl [.slice]) (.op (.r (.slice)) (.op .p (.nil))))))))))))))) (.reg (.op .p (.op .p (.nil)))))))))) (.seq (.drawS (.tk 0 .p (.tk 1 .p (.tk 2 .p (.tk 3 .p (.tk 4 .p (.sp 170 (.tk 5 .p (.tk 6 .p (.tk 7 .p (.tk 8 .p (.tk 9 .p (.tk 10 .p (.sp 176 (.tk 11 .p (.tk 13 .p (.tk 14 .p (.tk 15 .sl (.ts 12 (.str) (.ts 16 (.str) (.tk 17 .p (.tk 18 .p (.tk 19 .p (.nil)))))))))) (.tk 11 .p (.tk 13 .p (.tk 14 .p (.tk 15 .p (.ts 12 .val (.ts 16 .val (.tk 17 .p (.tk 18 .p (.tk 19 .p (.nil))))))))))))))))) (.tk 5 .p (.tk 6 .p (.tk 7 .p (.tk 8 .p (.tk 9 .p (.tk 10 .p (.tk 11 .p (.tk 13 .p (.tk 14 .p (.tk 15 .p (.ts 12 .val (.ts 16 .val (.tk 17 .p (.tk 18 .p (.tk 19 .p (.nil)))))))))))))))))))))) []) (.leaf)))))))))))))))
    (by kernel_rfl) Try.func9 (by kernel_rfl) (by kernel_rfl) (by kernel_rfl) (by kernel_rfl) h

end Go.Proofs.Ytpfjakmbokkkoaa
