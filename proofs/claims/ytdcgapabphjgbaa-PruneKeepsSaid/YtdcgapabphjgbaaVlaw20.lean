/- Verification conditions of functions, printed by the session's own program vc.py: out of each, Calls (conditions: none). -/
import Derived.Test.YtdcgapabphjgbaaRows
import Derived.Test.YtdcgapabphjgbaaSxRun
namespace Go.Proofs.Ytdcgapabphjgbaa
open Go Go.Proofs.Ytdcgapabphjgbaa.Sx

set_option maxRecDepth 100000 in
theorem amphoralaw20_at_vc (a0 : ByteArray) (a1 : Int) (w : World) (R : Ending → World → Prop) (h :
  ∃ (g4 : Nat) (w1 : World), (Instr.alloc 30 true (.tuple #[])).run Try.prog w = .ok (.pointer (some ⟨g4, 0, none⟩)) w1 ∧
  (∃ (t7 : Array Value), (Instr.build 30 #[(0, (.string a0)), (1, (.int .i64 a1))]).run Try.prog w1 = .ok (.agg t7) w1 ∧
    (∃ w2 : World, (Instr.storeAt 30 (.pointer (some ⟨g4, 0, none⟩)) (.agg t7)).run Try.prog w1 = .ok () w2 ∧
      (∃ r4 : Value, (loadVar 30 ⟨g4, 0, none⟩).run Try.prog w2 = .ok r4 w2 ∧
        (R (.returned r4) w2))))) : Calls Try.prog 9 #[(.string a0), (.int .i64 a1)] w R :=
  calls_of_ev (args := [(.string a0), (.int .i64 a1)])
    (tc := .seq (.reg (.op .bx (.nil))) (.seq (.reg (.op .p (.op .p (.op (.ld (.agg)) (.op .u (.nil)))))) (.leaf)))
    (by kernel_rfl) Try.func9 (by kernel_rfl) (by kernel_rfl) (by kernel_rfl) (by kernel_rfl) h

set_option maxRecDepth 100000 in
theorem amphoralaw20_alive_vc  (w : World) (R : Ending → World → Prop) (h :
  ∃ (t4 : Array Value), (Instr.build 23 #[(0, (.int .i64 2))]).run Try.prog w = .ok (.agg t4) w ∧
  (Calls Try.prog 9 #[(.string (ByteArray.mk #[97])), (.int .i64 10)] w fun (e5 : Ending) (w1 : World) => ∃ (t5 : Array Value), e5 = .returned (.agg t5) ∧
    (Calls Try.prog 9 #[(.string (ByteArray.mk #[98])), (.int .i64 30)] w1 fun (e6 : Ending) (w2 : World) => ∃ (t6 : Array Value), e6 = .returned (.agg t6) ∧
      (Calls Try.prog 9 #[(.string (ByteArray.mk #[99])), (.int .i64 20)] w2 fun (e7 : Ending) (w3 : World) => ∃ (t7 : Array Value), e7 = .returned (.agg t7) ∧
        (∃ (t8a : Option Addr) (t8n : Nat) (t8c : Nat) (w4 : World), (Instr.buildSlice 24 3 #[(0, (.agg t5)), (1, (.agg t6)), (2, (.agg t7))]).run Try.prog w3 = .ok (.slice t8a t8n t8c) w4 ∧
          (Calls Try.prog 12 #[(.agg t4), (.slice t8a t8n t8c)] w4 fun (e9 : Ending) (w5 : World) => ∃ (t9_0a : Option Addr) (t9_0n : Nat) (t9_0c : Nat) (t9_1 : Value), e9 = .returned (.tuple #[(.slice t9_0a t9_0n t9_0c), t9_1]) ∧
            (∃ (t13 : Bool), (eqlS .eql 34 (.tmp 12) (.const .nilIface) t9_1 .nilIface).run Try.prog w5 = .ok (.bool t13) w5 ∧
              (((t13 && (((t9_0n : Nat) : Int) == (1 : Int))) = true →
                  (∃ (t21b t21o : Nat), t9_0a = some ⟨t21b, t21o, none⟩ ∧ 0 ≤ (0 : Int) ∧ (0 : Int) < ((t9_0n : Nat) : Int) ∧
                    (∃ (t22 : ByteArray), (Instr.loadAt 9 (.pointer (some ⟨t21b, t21o + Int.toNat (0 : Int) * 1, none⟩))).run Try.prog w5 = .ok (.string t22) w5 ∧
                      (((t22.toList == (ByteArray.mk #[97]).toList) = true →
                          (∃ (t26 : Array Value), (Instr.build 23 #[]).run Try.prog w5 = .ok (.agg t26) w5 ∧
                            (Calls Try.prog 18 #[(.agg t26)] w5 fun (e27 : Ending) (w6 : World) => ∃ (t27 : Value), e27 = .returned t27 ∧
                              (∃ (t29 : Bool), (eqlS .eql 34 (.tmp 27) (.tmp 28) t27 (.iface 59 (.int .i64 23))).run Try.prog w6 = .ok (.bool t29) w6 ∧
                                (R (.returned (.bool t29)) w6))))) ∧
                        ((t22.toList == (ByteArray.mk #[97]).toList) = false →
                          (R (.returned (.bool false)) w5)))))) ∧
                ((t13 && (((t9_0n : Nat) : Int) == (1 : Int))) = false →
                  (R (.returned (.bool false)) w5)))))))))) : Calls Try.prog 7 #[] w R :=
  calls_of_ev (args := [])
    (tc := .seq (.reg (.op .p (.nil))) (.seq (.reg (.op (.ld (.agg)) (.op (.cl [.agg]) (.op (.cl [.agg]) (.op (.cl [.agg]) (.op (.r (.slice)) (.op (.cl [.slice, .val]) (.op .p (.op .p (.op .p (.op .p (.op .p (.nil))))))))))))) (.seq (.reg (.op .p (.op (.ld (.bool)) (.op .p (.ap 3 (.op .p (.sp 19 (.op .p (.op .ix (.op (.ld (.str)) (.op .p (.op .p (.op .p (.sp 25 (.op (.ld (.agg)) (.op (.cl [.val]) (.op .p (.op (.ld (.bool)) (.op .p (.op .p (.nil))))))) (.op .p (.op .p (.op .p (.op .p (.op .p (.op .p (.nil)))))))))))))) (.op .p (.op .p (.op .p (.op .p (.op .p (.op .p (.op .p (.op .p (.op .p (.op .p (.op .p (.op .p (.nil)))))))))))))))))))) (.leaf))))
    (by kernel_rfl) Try.func7 (by kernel_rfl) (by kernel_rfl) (by kernel_rfl) (by kernel_rfl) h

set_option maxRecDepth 100000 in
theorem amphoralaw20_long_vc (a0a : Option Addr) (a0n : Nat) (a0c : Nat) (w : World) (R : Ending → World → Prop) (h :
  R (.returned (.bool (decide (((a0n : Nat) : Int) > (150 : Int))))) w) : Calls Try.prog 8 #[(.slice a0a a0n a0c)] w R :=
  calls_of_ev (args := [(.slice a0a a0n a0c)])
    (tc := .seq (.reg (.op .p (.nil))) (.seq (.reg (.op .p (.op .p (.op .p (.op .p (.nil)))))) (.leaf)))
    (by kernel_rfl) Try.func8 (by kernel_rfl) (by kernel_rfl) (by kernel_rfl) (by kernel_rfl) h

set_option maxRecDepth 100000 in
theorem amphoralaw20_PruneKeeps_vc (a0 : Array Value) (a1a : Option Addr) (a1n : Nat) (a1c : Nat) (w : World) (R : Ending → World → Prop) (h :
  ∃ (g2 : Nat) (w1 : World), (Instr.box 23 (.agg a0)).run Try.prog w = .ok (.pointer (some ⟨g2, 0, none⟩)) w1 ∧
  (Calls Try.prog 7 #[] w1 fun (e17 : Ending) (w2 : World) => ∃ (t17 : Bool), e17 = .returned (.bool t17) ∧
    (((!t17) = true →
        (R (.returned (.bool false)) w2)) ∧
      ((!t17) = false →
        (Calls Try.prog 8 #[(.slice a1a a1n a1c)] w2 fun (e20 : Ending) (w3 : World) => ∃ (t20 : Bool), e20 = .returned (.bool t20) ∧
          ((t20 = true →
              (R (.returned (.bool true)) w3)) ∧
            (t20 = false →
              (∃ (t24a : Option Addr) (t24n : Nat) (t24c : Nat) (w4 : World), (Instr.makeSlice 24 (.int .i64 0) (.int .i64 (IntKind.wrap .i64 (((a1n : Nat) : Int) + (1 : Int))))).run Try.prog w3 = .ok (.slice t24a t24n t24c) w4 ∧
                (∃ (t26a : Option Addr) (t26n : Nat) (t26c : Nat) (w5 : World), (Builtin.append_ #[24, 24] 24 #[(.slice t24a t24n t24c), (.slice a1a a1n a1c)]).run Try.prog w4 = .ok (.slice t26a t26n t26c) w5 ∧
                  (Calls Try.prog 9 #[(.string (ByteArray.mk #[109, 97, 114, 107])), (.int .i64 7)] w5 fun (e27 : Ending) (w6 : World) => ∃ (t27 : Array Value), e27 = .returned (.agg t27) ∧
                    (∃ (t28a : Option Addr) (t28n : Nat) (t28c : Nat) (w7 : World), (Instr.buildSlice 24 1 #[(0, (.agg t27))]).run Try.prog w6 = .ok (.slice t28a t28n t28c) w7 ∧
                      (∃ (t29a : Option Addr) (t29n : Nat) (t29c : Nat) (w8 : World), (Builtin.append_ #[24, 24] 24 #[(.slice t26a t26n t26c), (.slice t28a t28n t28c)]).run Try.prog w7 = .ok (.slice t29a t29n t29c) w8 ∧
                        (0 ≤ ((a1n : Nat) : Int) ∧ ((a1n : Nat) : Int) ≤ ((t29c : Nat) : Int) ∧
                          (∃ (t34 : Array Value), (Instr.loadAt 23 (.pointer (some ⟨g2, 0, none⟩))).run Try.prog w8 = .ok (.agg t34) w8 ∧
                            (Calls Try.prog 10 #[(.agg t34), (.slice t29a (a1n) t29c)] w8 fun (e36 : Ending) (w9 : World) => ∃ (t36_0a : Option Addr) (t36_0n : Nat) (t36_0c : Nat) (t36_1 : Value), e36 = .returned (.tuple #[(.slice t36_0a t36_0n t36_0c), t36_1]) ∧
                              (∃ (t40 : Array Value), (Instr.loadAt 23 (.pointer (some ⟨g2, 0, none⟩))).run Try.prog w9 = .ok (.agg t40) w9 ∧
                                (Calls Try.prog 11 #[(.agg t40), (.slice a1a a1n a1c)] w9 fun (e42 : Ending) (w10 : World) => ∃ (t42_0a : Option Addr) (t42_0n : Nat) (t42_0c : Nat) (t42_1 : Int), e42 = .returned (.tuple #[(.slice t42_0a t42_0n t42_0c), (.int .i64 t42_1)]) ∧
                                  (∃ (t46 : Array Value), (Instr.loadAt 23 (.pointer (some ⟨g2, 0, none⟩))).run Try.prog w10 = .ok (.agg t46) w10 ∧
                                    (Calls Try.prog 12 #[(.agg t46), (.slice t29a (a1n) t29c)] w10 fun (e48 : Ending) (w11 : World) => ∃ (t48_0a : Option Addr) (t48_0n : Nat) (t48_0c : Nat) (t48_1 : Value), e48 = .returned (.tuple #[(.slice t48_0a t48_0n t48_0c), t48_1]) ∧
                                      (∃ (t52 : Array Value), (Instr.loadAt 23 (.pointer (some ⟨g2, 0, none⟩))).run Try.prog w11 = .ok (.agg t52) w11 ∧
                                        (Calls Try.prog 13 #[(.agg t52), (.slice a1a a1n a1c)] w11 fun (e54 : Ending) (w12 : World) => ∃ (t54_0a : Option Addr) (t54_0n : Nat) (t54_0c : Nat) (t54_1 : Int), e54 = .returned (.tuple #[(.slice t54_0a t54_0n t54_0c), (.int .i64 t54_1)]) ∧
                                          (∃ (t58 : Array Value), (Instr.loadAt 23 (.pointer (some ⟨g2, 0, none⟩))).run Try.prog w12 = .ok (.agg t58) w12 ∧
                                            (Calls Try.prog 14 #[(.agg t58), (.slice t29a (a1n) t29c)] w12 fun (e60 : Ending) (w13 : World) => ∃ (t60_0a : Option Addr) (t60_0n : Nat) (t60_0c : Nat) (t60_1 : Value), e60 = .returned (.tuple #[(.slice t60_0a t60_0n t60_0c), t60_1]) ∧
                                              (∃ J : Bool → World → Prop, (∃ S : World → Prop, S w13.drew ∧
                                                  (Calls Try.prog 15 #[(.slice t36_0a t36_0n t36_0c), (.slice t42_0a t42_0n t42_0c)] w13.drew fun (e65 : Ending) (w14 : World) => ∃ (t65 : Bool), e65 = .returned (.bool t65) ∧
                                                    (∃ S_1 : World → Prop, (∀ w' : World, S_1 w' → S w') ∧ S_1 w14 ∧
                                                      (((!t65) = true →
                                                          (S_1 w14 ∧
                                                            (S_1 w14 ∧
                                                              (S_1 w14 ∧
                                                                (S_1 w14 ∧
                                                                  (S_1 w14 ∧
                                                                    (S_1 w14 ∧
                                                                      (S_1 w14 ∧
                                                                        (J true w14))))))))) ∧
                                                        ((!t65) = false →
                                                          (Calls Try.prog 16 #[t36_1] w14 fun (e69 : Ending) (w15 : World) => ∃ (t69 : Int), e69 = .returned (.int .i64 t69) ∧
                                                            (∃ S_2 : World → Prop, (∀ w' : World, S_2 w' → S_1 w') ∧ S_2 w15 ∧
                                                              (((t69 != t42_1) = true →
                                                                  (S_2 w15 ∧
                                                                    (S_2 w15 ∧
                                                                      (S_2 w15 ∧
                                                                        (S_2 w15 ∧
                                                                          (S_2 w15 ∧
                                                                            (S_2 w15 ∧
                                                                              (J true w15)))))))) ∧
                                                                ((t69 != t42_1) = false →
                                                                  (Calls Try.prog 17 #[(.slice t48_0a t48_0n t48_0c), (.slice t54_0a t54_0n t54_0c)] w15 fun (e76 : Ending) (w16 : World) => ∃ (t76 : Bool), e76 = .returned (.bool t76) ∧
                                                                    (∃ S_3 : World → Prop, (∀ w' : World, S_3 w' → S_2 w') ∧ S_3 w16 ∧
                                                                      (((!t76) = true →
                                                                          (S_3 w16 ∧
                                                                            (S_3 w16 ∧
                                                                              (S_3 w16 ∧
                                                                                (S_3 w16 ∧
                                                                                (S_3 w16 ∧
                                                                                (J true w16))))))) ∧
                                                                        ((!t76) = false →
                                                                          (Calls Try.prog 16 #[t48_1] w16 fun (e81 : Ending) (w17 : World) => ∃ (t81 : Int), e81 = .returned (.int .i64 t81) ∧
                                                                            (∃ S_4 : World → Prop, (∀ w' : World, S_4 w' → S_3 w') ∧ S_4 w17 ∧
                                                                              (((t81 != t54_1) = true →
                                                                                (S_4 w17 ∧
                                                                                (S_4 w17 ∧
                                                                                (S_4 w17 ∧
                                                                                (S_4 w17 ∧
                                                                                (J true w17)))))) ∧
                                                                                ((t81 != t54_1) = false →
                                                                                (Calls Try.prog 16 #[t60_1] w17 fun (e87 : Ending) (w18 : World) => ∃ (t87 : Int), e87 = .returned (.int .i64 t87) ∧
                                                                                (∃ S_5 : World → Prop, (∀ w' : World, S_5 w' → S_4 w') ∧ S_5 w18 ∧
                                                                                (((t87 != t42_1) = true →
                                                                                (S_5 w18 ∧
                                                                                (S_5 w18 ∧
                                                                                (S_5 w18 ∧
                                                                                (J true w18))))) ∧
                                                                                ((t87 != t42_1) = false →
                                                                                (((((t60_0n : Nat) : Int) != ((t42_0n : Nat) : Int)) = true →
                                                                                (S_5 w18 ∧
                                                                                (S_5 w18 ∧
                                                                                (S_5 w18 ∧
                                                                                (J true w18))))) ∧
                                                                                ((((t60_0n : Nat) : Int) != ((t42_0n : Nat) : Int)) = false →
                                                                                (∃ (t99 : Array Value), (∀ w' : World, S_5 w' → (Instr.loadAt 23 (.pointer (some ⟨g2, 0, none⟩))).run Try.prog w' = .ok (.agg t99) w') ∧
                                                                                (∃ (t102 : Array Value), (∀ w' : World, S_5 w' → (Instr.loadAt 23 (.pointer (some ⟨g2, 0, none⟩))).run Try.prog w' = .ok (.agg t102) w') ∧
                                                                                (Calls Try.prog 18 #[(.agg t99)] w18 fun (e100 : Ending) (w19 : World) => ∃ (t100 : Value), e100 = .returned t100 ∧
                                                                                (∃ S_6 : World → Prop, (∀ w' : World, S_6 w' → S_5 w') ∧ S_6 w19 ∧
                                                                                (Calls Try.prog 16 #[t100] w19 fun (e101 : Ending) (w20 : World) => ∃ (t101 : Int), e101 = .returned (.int .i64 t101) ∧
                                                                                (∃ S_7 : World → Prop, (∀ w' : World, S_7 w' → S_6 w') ∧ S_7 w20 ∧
                                                                                (Calls Try.prog 19 #[(.agg t102)] w20 fun (e103 : Ending) (w21 : World) => ∃ (t103 : Int), e103 = .returned (.int .i64 t103) ∧
                                                                                (∃ S_8 : World → Prop, (∀ w' : World, S_8 w' → S_7 w') ∧ S_8 w21 ∧
                                                                                (J (t101 != t103) w21)))))))))))))))))))))))))))))))) ∧
                                                (∀ (x105 : Bool), ∀ w22 : World, J x105 w22 →
                                                  ((x105 = true →
                                                      (R (.returned (.bool false)) w22)) ∧
                                                    (x105 = false →
                                                      (∃ (I : Int → World → Prop) (μ : Int → World → Nat), I 0 w22 ∧
                                                        (∀ (x108 : Int), ∀ w23 : World, I x108 w23 →
                                                          (((decide (x108 < ((t60_0n : Nat) : Int))) = true →
                                                              (∃ J_1 : Bool → World → Prop, (∃ S_9 : World → Prop, S_9 w23.drew ∧
                                                                  (∃ (t113b t113o : Nat), t60_0a = some ⟨t113b, t113o, none⟩ ∧ 0 ≤ x108 ∧ x108 < ((t60_0n : Nat) : Int) ∧
                                                                    (∃ (t117b t117o : Nat), t42_0a = some ⟨t117b, t117o, none⟩ ∧ 0 ≤ x108 ∧ x108 < ((t42_0n : Nat) : Int) ∧
                                                                      (∃ (t114 : Bool), (∀ w' : World, S_9 w' → (Instr.loadAt 4 (.pointer (some ⟨t113b, t113o + Int.toNat x108 * 1, none⟩))).run Try.prog w' = .ok (.bool t114) w') ∧
                                                                        (∃ (t118 : Int), (∀ w' : World, S_9 w' → (Instr.loadAt 3 (.pointer (some ⟨t117b, t117o + Int.toNat x108 * 1, none⟩))).run Try.prog w' = .ok (.int .i64 t118) w') ∧
                                                                          (((!(t114 == (t118 != (0 : Int)))) = true →
                                                                              (J_1 true w23.drew)) ∧
                                                                            ((!(t114 == (t118 != (0 : Int)))) = false →
                                                                              (∃ (t124b t124o : Nat), t29a = some ⟨t124b, t124o, none⟩ ∧ 0 ≤ x108 ∧ x108 < (((a1n) : Nat) : Int) ∧
                                                                                (∃ (t128b t128o : Nat), a1a = some ⟨t128b, t128o, none⟩ ∧ 0 ≤ x108 ∧ x108 < ((a1n : Nat) : Int) ∧
                                                                                (∃ (t125 : Array Value), (∀ w' : World, S_9 w' → (Instr.loadAt 30 (.pointer (some ⟨t124b, t124o + Int.toNat x108 * 36, none⟩))).run Try.prog w' = .ok (.agg t125) w') ∧
                                                                                (∃ (t129 : Array Value), (∀ w' : World, S_9 w' → (Instr.loadAt 30 (.pointer (some ⟨t128b, t128o + Int.toNat x108 * 36, none⟩))).run Try.prog w' = .ok (.agg t129) w') ∧
                                                                                (∃ (t130 : Bool), (∀ w' : World, S_9 w' → (eqlS .neq 30 (.tmp 125) (.tmp 129) (.agg t125) (.agg t129)).run Try.prog w' = .ok (.bool t130) w') ∧
                                                                                (J_1 t130 w23.drew))))))))))))) ∧
                                                                (∀ (x131 : Bool), ∀ w24 : World, J_1 x131 w24 →
                                                                  ((x131 = true →
                                                                      (R (.returned (.bool false)) w24)) ∧
                                                                    (x131 = false →
                                                                      (I (IntKind.wrap .i64 (x108 + (1 : Int))) w24 ∧ μ (IntKind.wrap .i64 (x108 + (1 : Int))) w24 < μ x108 w23)))))) ∧
                                                            ((decide (x108 < ((t60_0n : Nat) : Int))) = false →
                                                              (0 ≤ (IntKind.wrap .i64 (((a1n : Nat) : Int) + (1 : Int))) ∧ (IntKind.wrap .i64 (((a1n : Nat) : Int) + (1 : Int))) ≤ ((t29c : Nat) : Int) ∧
                                                                (∃ (t140b t140o : Nat), t29a = some ⟨t140b, t140o, none⟩ ∧ 0 ≤ ((a1n : Nat) : Int) ∧ ((a1n : Nat) : Int) < (((Int.toNat (IntKind.wrap .i64 (((a1n : Nat) : Int) + (1 : Int)))) : Nat) : Int) ∧
                                                                  (∃ (t142 : ByteArray), (Instr.loadAt 9 (.pointer (some ⟨t140b, t140o + Int.toNat ((a1n : Nat) : Int) * 36, none⟩))).run Try.prog w23 = .ok (.string t142) w23 ∧
                                                                    (R (.returned (.bool (t142.toList == (ByteArray.mk #[109, 97, 114, 107]).toList))) w23))))))))))))))))))))))))))))))))))) : Calls Try.prog 3 #[(.agg a0), (.slice a1a a1n a1c)] w R :=
  calls_of_ev (args := [(.agg a0), (.slice a1a a1n a1c)])
    (tc := .seq (.reg (.op .bx (.op .p (.nil)))) (.seq (.seq (.reg (.op (.cl [.bool]) (.op .p (.nil)))) (.cond (.seq (.reg (.op .p (.nil))) (.leaf)) (.leaf))) (.seq (.seq (.reg (.op .p (.op (.cl [.bool]) (.nil)))) (.cond (.seq (.reg (.op .p (.nil))) (.leaf)) (.leaf))) (.seq (.reg (.op .p (.op .p (.op .p (.op (.r (.slice)) (.op .p (.op (.r (.slice)) (.op (.cl [.agg]) (.op (.r (.slice)) (.op (.r (.slice)) (.op .p (.op .p (.op .sl (.op .p (.nil))))))))))))))) (.seq (.reg (.op (.ld (.agg)) (.op .p (.op (.cl [.slice, .val]) (.op .p (.op .p (.op .p (.op .p (.op .p (.nil)))))))))) (.seq (.reg (.op (.ld (.agg)) (.op .p (.op (.cl [.slice, .int .i64]) (.op .p (.op .p (.op .p (.op .p (.op .p (.nil)))))))))) (.seq (.reg (.op (.ld (.agg)) (.op .p (.op (.cl [.slice, .val]) (.op .p (.op .p (.op .p (.op .p (.op .p (.nil)))))))))) (.seq (.reg (.op (.ld (.agg)) (.op .p (.op (.cl [.slice, .int .i64]) (.op .p (.op .p (.op .p (.op .p (.op .p (.nil)))))))))) (.seq (.reg (.op (.ld (.agg)) (.op .p (.op (.cl [.slice, .val]) (.op .p (.op .p (.op .p (.op .p (.op .p (.nil)))))))))) (.seq (.seq (.join [63, 64, 65, 66, 67, 68, 69, 70, 71, 72, 73, 74, 75, 76, 77, 78, 79, 80, 81, 82, 83, 84, 85, 86, 87, 88, 89, 90, 91, 92, 93, 94, 95, 96, 97, 98, 99, 100, 101, 102, 103, 104, 105] [105] [.bool] (.drawS (.tk 0 .p (.tk 1 .p (.go 2 (.cl [.bool]) (.tk 3 .p (.tk 4 .p (.sp 67 (.tk 5 .p (.tk 7 .p (.go 6 .p (.tk 8 .p (.tk 9 .p (.tk 10 .p (.tk 11 .p (.tk 12 .p (.go 13 .p (.tk 14 .p (.tk 15 .p (.tk 16 .p (.tk 17 .p (.tk 19 .p (.go 18 .p (.tk 20 .p (.tk 21 .p (.tk 22 .p (.tk 23 .p (.tk 25 .p (.go 24 .p (.tk 26 .p (.tk 27 .p (.tk 28 .p (.tk 29 .p (.tk 30 .p (.tk 31 .p (.tk 32 .p (.tk 33 .p (.tk 34 .p (.tk 35 .p (.ts 36 .val (.ts 39 .val (.go 37 .p (.go 38 .p (.go 40 .p (.tk 41 .p (.tk 42 .p (.nil))))))))))))))))))))))))))))))))))))))) (.tk 5 .p (.tk 7 .p (.go 6 (.cl [.int .i64]) (.tk 8 .p (.tk 9 .p (.tk 10 .p (.sp 73 (.tk 11 .p (.tk 12 .p (.go 13 .p (.tk 14 .p (.tk 15 .p (.tk 16 .p (.tk 17 .p (.tk 19 .p (.go 18 .p (.tk 20 .p (.tk 21 .p (.tk 22 .p (.tk 23 .p (.tk 25 .p (.go 24 .p (.tk 26 .p (.tk 27 .p (.tk 28 .p (.tk 29 .p (.tk 30 .p (.tk 31 .p (.tk 32 .p (.tk 33 .p (.tk 34 .p (.tk 35 .p (.ts 36 .val (.ts 39 .val (.go 37 .p (.go 38 .p (.go 40 .p (.tk 41 .p (.tk 42 .p (.nil))))))))))))))))))))))))))))))))) (.tk 11 .p (.tk 12 .p (.go 13 (.cl [.bool]) (.tk 14 .p (.tk 15 .p (.tk 16 .p (.sp 79 (.tk 17 .p (.tk 19 .p (.go 18 .p (.tk 20 .p (.tk 21 .p (.tk 22 .p (.tk 23 .p (.tk 25 .p (.go 24 .p (.tk 26 .p (.tk 27 .p (.tk 28 .p (.tk 29 .p (.tk 30 .p (.tk 31 .p (.tk 32 .p (.tk 33 .p (.tk 34 .p (.tk 35 .p (.ts 36 .val (.ts 39 .val (.go 37 .p (.go 38 .p (.go 40 .p (.tk 41 .p (.tk 42 .p (.nil))))))))))))))))))))))))))) (.tk 17 .p (.tk 19 .p (.go 18 (.cl [.int .i64]) (.tk 20 .p (.tk 21 .p (.tk 22 .p (.sp 85 (.tk 23 .p (.tk 25 .p (.go 24 .p (.tk 26 .p (.tk 27 .p (.tk 28 .p (.tk 29 .p (.tk 30 .p (.tk 31 .p (.tk 32 .p (.tk 33 .p (.tk 34 .p (.tk 35 .p (.ts 36 .val (.ts 39 .val (.go 37 .p (.go 38 .p (.go 40 .p (.tk 41 .p (.tk 42 .p (.nil))))))))))))))))))))) (.tk 23 .p (.tk 25 .p (.go 24 (.cl [.int .i64]) (.tk 26 .p (.tk 27 .p (.tk 28 .p (.sp 91 (.tk 29 .p (.tk 30 .p (.tk 31 .p (.tk 32 .p (.tk 33 .p (.tk 34 .p (.tk 35 .p (.ts 36 .val (.ts 39 .val (.go 37 .p (.go 38 .p (.go 40 .p (.tk 41 .p (.tk 42 .p (.nil))))))))))))))) (.tk 29 .p (.tk 30 .p (.tk 31 .p (.tk 32 .p (.tk 33 .p (.tk 34 .p (.tk 35 .p (.sp 98 (.ts 36 .val (.ts 39 .val (.go 37 .p (.go 38 .p (.go 40 .p (.tk 41 .p (.tk 42 .p (.nil)))))))) (.ts 36 (.agg) (.ts 39 (.agg) (.go 37 (.cl [.val]) (.go 38 (.cl [.int .i64]) (.go 40 (.cl [.int .i64]) (.tk 41 .p (.tk 42 .p (.nil)))))))))))))))))))))))))))))))))))))))))))))))))) [])) (.cond (.seq (.reg (.op .p (.nil))) (.leaf)) (.leaf))) (.seq (.seq (.reg (.op .p (.op .p (.op .p (.nil))))) (.blk (.loop [4, 16, 108, 109, 110, 111, 112, 113, 114, 115, 116, 117, 118, 119, 120, 121, 122, 123, 124, 125, 126, 127, 128, 129, 130, 131, 132] [108] [.int .i64] (.seq (.reg (.op .p (.nil))) (.seq (.cond (.leaf) (.leaf)) (.seq (.blk (.seq (.reg (.op .p (.op .p (.nil)))) (.seq (.join [111, 112, 113, 114, 115, 116, 117, 118, 119, 120, 121, 122, 123, 124, 125, 126, 127, 128, 129, 130, 131] [131] [.bool] (.drawS (.tk 0 .p (.tk 1 .p (.tk 2 .ix (.tk 4 .p (.tk 5 .p (.tk 6 .ix (.ts 3 (.bool) (.ts 7 (.int .i64) (.tk 8 .p (.tk 9 .p (.tk 10 .p (.sp 121 (.tk 11 .p (.tk 12 .p (.tk 13 .p (.tk 15 .p (.tk 16 .p (.tk 17 .p (.ts 14 .val (.ts 18 .val (.ts 19 .val (.tk 20 .p (.nil))))))))))) (.tk 11 .p (.tk 12 .p (.tk 13 .ix (.tk 15 .p (.tk 16 .p (.tk 17 .ix (.ts 14 (.agg) (.ts 18 (.agg) (.ts 19 (.bool) (.tk 20 .p (.nil))))))))))))))))))))))) [])) (.cond (.seq (.reg (.op .p (.nil))) (.leaf)) (.leaf))))) (.reg (.op .p (.op .p (.nil)))))))))) (.seq (.reg (.op .p (.op .p (.op .p (.op .p (.op .sl (.op .p (.op .p (.op .ix (.op .p (.op (.ld (.str)) (.op .p (.op .p (.nil)))))))))))))) (.leaf)))))))))))))
    (by kernel_rfl) Try.func3 (by kernel_rfl) (by kernel_rfl) (by kernel_rfl) (by kernel_rfl) h

set_option maxRecDepth 100000 in
theorem amphoralaw20_PruneCounts_vc (a0 : Array Value) (a1a : Option Addr) (a1n : Nat) (a1c : Nat) (w : World) (R : Ending → World → Prop) (h :
  ∃ (g2 : Nat) (w1 : World), (Instr.box 23 (.agg a0)).run Try.prog w = .ok (.pointer (some ⟨g2, 0, none⟩)) w1 ∧
  (Calls Try.prog 7 #[] w1 fun (e16 : Ending) (w2 : World) => ∃ (t16 : Bool), e16 = .returned (.bool t16) ∧
    (((!t16) = true →
        (R (.returned (.bool false)) w2)) ∧
      ((!t16) = false →
        (Calls Try.prog 8 #[(.slice a1a a1n a1c)] w2 fun (e19 : Ending) (w3 : World) => ∃ (t19 : Bool), e19 = .returned (.bool t19) ∧
          ((t19 = true →
              (R (.returned (.bool true)) w3)) ∧
            (t19 = false →
              (∃ (t21 : Array Value), (Instr.loadAt 23 (.pointer (some ⟨g2, 0, none⟩))).run Try.prog w3 = .ok (.agg t21) w3 ∧
                (Calls Try.prog 10 #[(.agg t21), (.slice a1a a1n a1c)] w3 fun (e23 : Ending) (w4 : World) => ∃ (t23_0a : Option Addr) (t23_0n : Nat) (t23_0c : Nat) (t23_1 : Value), e23 = .returned (.tuple #[(.slice t23_0a t23_0n t23_0c), t23_1]) ∧
                  (∃ (t27 : Bool), (eqlS .neq 34 (.tmp 26) (.const .nilIface) t23_1 .nilIface).run Try.prog w4 = .ok (.bool t27) w4 ∧
                    ((t27 = true →
                        (R (.returned (.bool true)) w4)) ∧
                      (t27 = false →
                        (∃ (I : Int → Int → World → Prop) (μ : Int → Int → World → Nat), I 0 0 w4 ∧
                          (∀ (x7 : Int) (x30 : Int), ∀ w5 : World, I x7 x30 w5 →
                            (((decide (x30 < ((a1n : Nat) : Int))) = true →
                                (∃ (t33b t33o : Nat), a1a = some ⟨t33b, t33o, none⟩ ∧ 0 ≤ x30 ∧ x30 < ((a1n : Nat) : Int) ∧
                                  (∃ (t34 : Array Value), (Instr.loadAt 30 (.pointer (some ⟨t33b, t33o + Int.toNat x30 * 36, none⟩))).run Try.prog w5 = .ok (.agg t34) w5 ∧
                                    (∃ (g9 : Nat) (w6 : World), (Instr.alloc 30 true (.tuple #[])).run Try.prog w5 = .ok (.pointer (some ⟨g9, 0, none⟩)) w6 ∧
                                      (∃ w7 : World, (Instr.storeAt 30 (.pointer (some ⟨g9, 0, none⟩)) (.agg t34)).run Try.prog w6 = .ok () w7 ∧
                                        (∃ J : Bool → World → Prop, (∃ S : World → Prop, S w7.drew ∧
                                            (∃ (t39b t39o : Nat), a1a = some ⟨t39b, t39o, none⟩ ∧ 0 ≤ x7 ∧ x7 < ((a1n : Nat) : Int) ∧
                                              (∃ (t36 : Int), (∀ w' : World, S w' → (Instr.loadAt 3 (.pointer (some ⟨g9, 1, none⟩))).run Try.prog w' = .ok (.int .i64 t36) w') ∧
                                                (∃ (t41 : Int), (∀ w' : World, S w' → (Instr.loadAt 3 (.pointer (some ⟨t39b, t39o + Int.toNat x7 * 36 + 1, none⟩))).run Try.prog w' = .ok (.int .i64 t41) w') ∧
                                                  (((decide (t36 > t41)) = true →
                                                      (J true w7.drew)) ∧
                                                    ((decide (t36 > t41)) = false →
                                                      (∃ (t48b t48o : Nat), a1a = some ⟨t48b, t48o, none⟩ ∧ 0 ≤ x7 ∧ x7 < ((a1n : Nat) : Int) ∧
                                                        (∃ (t45 : Int), (∀ w' : World, S w' → (Instr.loadAt 3 (.pointer (some ⟨g9, 1, none⟩))).run Try.prog w' = .ok (.int .i64 t45) w') ∧
                                                          (∃ (t50 : Int), (∀ w' : World, S w' → (Instr.loadAt 3 (.pointer (some ⟨t48b, t48o + Int.toNat x7 * 36 + 1, none⟩))).run Try.prog w' = .ok (.int .i64 t50) w') ∧
                                                            (((t45 == t50) = true →
                                                                (∃ (t57b t57o : Nat), a1a = some ⟨t57b, t57o, none⟩ ∧ 0 ≤ x7 ∧ x7 < ((a1n : Nat) : Int) ∧
                                                                  (∃ (t54 : ByteArray), (∀ w' : World, S w' → (Instr.loadAt 9 (.pointer (some ⟨g9, 0, none⟩))).run Try.prog w' = .ok (.string t54) w') ∧
                                                                    (∃ (t59 : ByteArray), (∀ w' : World, S w' → (Instr.loadAt 9 (.pointer (some ⟨t57b, t57o + Int.toNat x7 * 36, none⟩))).run Try.prog w' = .ok (.string t59) w') ∧
                                                                      (∃ (t60 : Bool), (∀ w' : World, S w' → (eqlS .geq 9 (.tmp 54) (.tmp 59) (.string t54) (.string t59)).run Try.prog w' = .ok (.bool t60) w') ∧
                                                                        (J t60 w7.drew)))))) ∧
                                                              ((t45 == t50) = false →
                                                                (J false w7.drew)))))))))))) ∧
                                          (∀ (x62 : Bool), ∀ w8 : World, J x62 w8 →
                                            (∃ J_1 : Int → World → Prop, ((x62 = true →
                                                  (J_1 x30 w8)) ∧
                                                (x62 = false →
                                                  (J_1 x7 w8))) ∧
                                              (∀ (x7_1 : Int), ∀ w9 : World, J_1 x7_1 w9 →
                                                (I x7_1 (IntKind.wrap .i64 (x30 + (1 : Int))) w9 ∧ μ x7_1 (IntKind.wrap .i64 (x30 + (1 : Int))) w9 < μ x7 x30 w5)))))))))) ∧
                              ((decide (x30 < ((a1n : Nat) : Int))) = false →
                                (∃ J : Bool → World → Prop, (((decide (((a1n : Nat) : Int) > (0 : Int))) = true →
                                      (∃ (t71b t71o : Nat), t23_0a = some ⟨t71b, t71o, none⟩ ∧ 0 ≤ x7 ∧ x7 < ((t23_0n : Nat) : Int) ∧
                                        (∃ (t72 : Int), (Instr.loadAt 3 (.pointer (some ⟨t71b, t71o + Int.toNat x7 * 1, none⟩))).run Try.prog w5 = .ok (.int .i64 t72) w5 ∧
                                          (J (t72 == (0 : Int)) w5)))) ∧
                                    ((decide (((a1n : Nat) : Int) > (0 : Int))) = false →
                                      (J false w5))) ∧
                                  (∀ (x74 : Bool), ∀ w10 : World, J x74 w10 →
                                    ((x74 = true →
                                        (R (.returned (.bool false)) w10)) ∧
                                      (x74 = false →
                                        (∃ (t75 : Array Value), (Instr.loadAt 23 (.pointer (some ⟨g2, 0, none⟩))).run Try.prog w10 = .ok (.agg t75) w10 ∧
                                          (Calls Try.prog 20 #[(.agg t75)] w10 fun (e76 : Ending) (w11 : World) => ∃ (t76a : Option Addr) (t76n : Nat) (t76c : Nat), e76 = .returned (.slice t76a t76n t76c) ∧
                                            (∃ (I_1 : Int → World → Prop) (μ_1 : Int → World → Nat), I_1 0 w11 ∧
                                              (∀ (x78 : Int), ∀ w12 : World, I_1 x78 w12 →
                                                (((decide (x78 < ((t76n : Nat) : Int))) = true →
                                                    (∃ (t81b t81o : Nat), t76a = some ⟨t81b, t81o, none⟩ ∧ 0 ≤ x78 ∧ x78 < ((t76n : Nat) : Int) ∧
                                                      (∃ (t82 : Int), (Instr.loadAt 3 (.pointer (some ⟨t81b, t81o + Int.toNat x78 * 1, none⟩))).run Try.prog w12 = .ok (.int .i64 t82) w12 ∧
                                                        (∃ (I_2 : Int → Int → World → Prop) (μ_2 : Int → Int → World → Nat), I_2 0 0 w12 ∧
                                                          (∀ (x12 : Int) (x85 : Int), ∀ w13 : World, I_2 x12 x85 w13 →
                                                            (((decide (x85 < ((a1n : Nat) : Int))) = true →
                                                                (∃ (t90b t90o : Nat), t23_0a = some ⟨t90b, t90o, none⟩ ∧ 0 ≤ x85 ∧ x85 < ((t23_0n : Nat) : Int) ∧
                                                                  (∃ (t91 : Int), (Instr.loadAt 3 (.pointer (some ⟨t90b, t90o + Int.toNat x85 * 1, none⟩))).run Try.prog w13 = .ok (.int .i64 t91) w13 ∧
                                                                    (0 ≤ (IntKind.wrap .u64 x78) ∧
                                                                      (∃ J_1 : Int → World → Prop, ((((band .i64 (shrI .i64 t91 (IntKind.wrap .u64 x78)) (1 : Int)) == (1 : Int)) = true →
                                                                            (J_1 (IntKind.wrap .i64 (x12 + (1 : Int))) w13)) ∧
                                                                          (((band .i64 (shrI .i64 t91 (IntKind.wrap .u64 x78)) (1 : Int)) == (1 : Int)) = false →
                                                                            (J_1 x12 w13))) ∧
                                                                        (∀ (x12_1 : Int), ∀ w14 : World, J_1 x12_1 w14 →
                                                                          (I_2 x12_1 (IntKind.wrap .i64 (x85 + (1 : Int))) w14 ∧ μ_2 x12_1 (IntKind.wrap .i64 (x85 + (1 : Int))) w14 < μ_2 x12 x85 w13))))))) ∧
                                                              ((decide (x85 < ((a1n : Nat) : Int))) = false →
                                                                (Calls Try.prog 21 #[(.int .i64 x78), (.slice a1a a1n a1c)] w13 fun (e104 : Ending) (w15 : World) => ∃ (t104 : Int), e104 = .returned (.int .i64 t104) ∧
                                                                  (((x12 != (if t104 < t82 then t104 else t82)) = true →
                                                                      (R (.returned (.bool false)) w15)) ∧
                                                                    ((x12 != (if t104 < t82 then t104 else t82)) = false →
                                                                      (∃ (I_3 : Int → World → Prop) (μ_3 : Int → World → Nat), I_3 0 w15 ∧
                                                                        (∀ (x109 : Int), ∀ w16 : World, I_3 x109 w16 →
                                                                          (((decide (x109 < ((a1n : Nat) : Int))) = true →
                                                                              (∃ (I_4 : Int → World → Prop) (μ_4 : Int → World → Nat), I_4 0 w16 ∧
                                                                                (∀ (x114 : Int), ∀ w17 : World, I_4 x114 w17 →
                                                                                (((decide (x114 < ((a1n : Nat) : Int))) = true →
                                                                                (∃ J_1 : Bool → World → Prop, (∃ S : World → Prop, S w17.drew ∧
                                                                                (∃ (t119b t119o : Nat), t23_0a = some ⟨t119b, t119o, none⟩ ∧ 0 ≤ x109 ∧ x109 < ((t23_0n : Nat) : Int) ∧
                                                                                (∃ (t120 : Int), (∀ w' : World, S w' → (Instr.loadAt 3 (.pointer (some ⟨t119b, t119o + Int.toNat x109 * 1, none⟩))).run Try.prog w' = .ok (.int .i64 t120) w') ∧
                                                                                (0 ≤ (IntKind.wrap .u64 x78) ∧
                                                                                ((((band .i64 (shrI .i64 t120 (IntKind.wrap .u64 x78)) (1 : Int)) == (1 : Int)) = true →
                                                                                (((decide (x78 > (0 : Int))) = true →
                                                                                (∃ (t133b t133o : Nat), a1a = some ⟨t133b, t133o, none⟩ ∧ 0 ≤ x114 ∧ x114 < ((a1n : Nat) : Int) ∧
                                                                                (∃ (t138b t138o : Nat), a1a = some ⟨t138b, t138o, none⟩ ∧ 0 ≤ x109 ∧ x109 < ((a1n : Nat) : Int) ∧
                                                                                (∃ (t135 : Int), (∀ w' : World, S w' → (Instr.loadAt 3 (.pointer (some ⟨t133b, t133o + Int.toNat x114 * 36 + 1, none⟩))).run Try.prog w' = .ok (.int .i64 t135) w') ∧
                                                                                (∃ (t140 : Int), (∀ w' : World, S w' → (Instr.loadAt 3 (.pointer (some ⟨t138b, t138o + Int.toNat x109 * 36 + 1, none⟩))).run Try.prog w' = .ok (.int .i64 t140) w') ∧
                                                                                (((decide (t135 > t140)) = true →
                                                                                (∃ (t147b t147o : Nat), a1a = some ⟨t147b, t147o, none⟩ ∧ 0 ≤ x109 ∧ x109 < ((a1n : Nat) : Int) ∧
                                                                                (∃ (t152b t152o : Nat), a1a = some ⟨t152b, t152o, none⟩ ∧ 0 ≤ x114 ∧ x114 < ((a1n : Nat) : Int) ∧
                                                                                (∃ (t149 : Int), (∀ w' : World, S w' → (Instr.loadAt 3 (.pointer (some ⟨t147b, t147o + Int.toNat x109 * 36 + 1, none⟩))).run Try.prog w' = .ok (.int .i64 t149) w') ∧
                                                                                (∃ (t154 : Int), (∀ w' : World, S w' → (Instr.loadAt 3 (.pointer (some ⟨t152b, t152o + Int.toNat x114 * 36 + 1, none⟩))).run Try.prog w' = .ok (.int .i64 t154) w') ∧
                                                                                (Calls Try.prog 22 #[(.int .i64 x78), (.int .i64 t149), (.int .i64 t154)] w17.drew fun (e155 : Ending) (w18 : World) => ∃ (t155 : Bool), e155 = .returned (.bool t155) ∧
                                                                                (∃ S_1 : World → Prop, (∀ w' : World, S_1 w' → S w') ∧ S_1 w18 ∧
                                                                                (J_1 t155 w18)))))))) ∧
                                                                                ((decide (t135 > t140)) = false →
                                                                                (S w17.drew ∧
                                                                                (J_1 false w17.drew))))))))) ∧
                                                                                ((decide (x78 > (0 : Int))) = false →
                                                                                (S w17.drew ∧
                                                                                (J_1 false w17.drew))))) ∧
                                                                                (((band .i64 (shrI .i64 t120 (IntKind.wrap .u64 x78)) (1 : Int)) == (1 : Int)) = false →
                                                                                (S w17.drew ∧
                                                                                (J_1 false w17.drew)))))))) ∧
                                                                                (∀ (x156 : Bool), ∀ w19 : World, J_1 x156 w19 →
                                                                                ((x156 = true →
                                                                                (R (.returned (.bool false)) w19)) ∧
                                                                                (x156 = false →
                                                                                (I_4 (IntKind.wrap .i64 (x114 + (1 : Int))) w19 ∧ μ_4 (IntKind.wrap .i64 (x114 + (1 : Int))) w19 < μ_4 x114 w17)))))) ∧
                                                                                ((decide (x114 < ((a1n : Nat) : Int))) = false →
                                                                                (I_3 (IntKind.wrap .i64 (x109 + (1 : Int))) w17 ∧ μ_3 (IntKind.wrap .i64 (x109 + (1 : Int))) w17 < μ_3 x109 w16)))))) ∧
                                                                            ((decide (x109 < ((a1n : Nat) : Int))) = false →
                                                                              (I_1 (IntKind.wrap .i64 (x78 + (1 : Int))) w16 ∧ μ_1 (IntKind.wrap .i64 (x78 + (1 : Int))) w16 < μ_1 x78 w12))))))))))))))) ∧
                                                  ((decide (x78 < ((t76n : Nat) : Int))) = false →
                                                    (R (.returned (.bool true)) w12))))))))))))))))))))))))))) : Calls Try.prog 4 #[(.agg a0), (.slice a1a a1n a1c)] w R :=
  calls_of_ev (args := [(.agg a0), (.slice a1a a1n a1c)])
    (tc := .seq (.reg (.op .bx (.op .p (.nil)))) (.seq (.seq (.reg (.op (.cl [.bool]) (.op .p (.nil)))) (.cond (.seq (.reg (.op .p (.nil))) (.leaf)) (.leaf))) (.seq (.seq (.reg (.op .p (.op (.cl [.bool]) (.nil)))) (.cond (.seq (.reg (.op .p (.nil))) (.leaf)) (.leaf))) (.seq (.reg (.op (.ld (.agg)) (.op .p (.op (.cl [.slice, .val]) (.op .p (.op .p (.op .p (.op .p (.op .p (.nil)))))))))) (.seq (.seq (.reg (.op .p (.op (.ld (.bool)) (.nil)))) (.cond (.seq (.reg (.op .p (.nil))) (.leaf)) (.leaf))) (.seq (.reg (.op .p (.nil))) (.seq (.seq (.reg (.op .p (.op .p (.op .p (.nil))))) (.blk (.loop [7, 8, 9, 30, 31, 32, 33, 34, 35, 36, 37, 38, 39, 40, 41, 42, 43, 44, 45, 46, 47, 48, 49, 50, 51, 52, 53, 54, 55, 56, 57, 58, 59, 60, 61, 62, 63, 64] [7, 30] [.int .i64, .int .i64] (.seq (.reg (.op .p (.nil))) (.seq (.cond (.leaf) (.leaf)) (.seq (.blk (.seq (.reg (.op .p (.op .ix (.op (.ld (.agg)) (.op .bx (.op .p (.op .u (.nil)))))))) (.seq (.join [35, 36, 37, 38, 39, 40, 41, 42, 43, 44, 45, 46, 47, 48, 49, 50, 51, 52, 53, 54, 55, 56, 57, 58, 59, 60, 61, 62] [62] [.bool] (.drawS (.tk 0 .p (.tk 2 .p (.tk 3 .p (.tk 4 .ix (.tk 5 .p (.ts 1 (.int .i64) (.ts 6 (.int .i64) (.tk 7 .p (.tk 8 .p (.sp 43 (.tk 9 .p (.tk 11 .p (.tk 12 .p (.tk 13 .p (.tk 14 .p (.ts 10 .val (.ts 15 .val (.tk 16 .p (.tk 17 .p (.tk 18 .p (.tk 20 .p (.tk 21 .p (.tk 22 .p (.tk 23 .p (.ts 19 .val (.ts 24 .val (.ts 25 .val (.tk 26 .p (.tk 27 .p (.nil)))))))))))))))))))) (.tk 9 .p (.tk 11 .p (.tk 12 .p (.tk 13 .ix (.tk 14 .p (.ts 10 (.int .i64) (.ts 15 (.int .i64) (.tk 16 .p (.tk 17 .p (.sp 52 (.tk 18 .p (.tk 20 .p (.tk 21 .p (.tk 22 .ix (.tk 23 .p (.ts 19 (.str) (.ts 24 (.str) (.ts 25 (.bool) (.tk 26 .p (.tk 27 .p (.nil))))))))))) (.tk 18 .p (.tk 20 .p (.tk 21 .p (.tk 22 .p (.tk 23 .p (.ts 19 .val (.ts 24 .val (.ts 25 .val (.tk 26 .p (.tk 27 .p (.nil))))))))))))))))))))))))))))))) [])) (.join [7, 63] [7] [.int .i64] (.cond (.reg (.op .p (.op .p (.nil)))) (.leaf)))))) (.reg (.op .p (.op .p (.nil)))))))))) (.seq (.seq (.join [65, 66, 67, 68, 69, 70, 71, 72, 73, 74] [74] [.bool] (.reg (.op .p (.op .p (.op .p (.op .p (.sp 68 (.op .p (.op .p (.op .ix (.op (.ld (.int .i64)) (.op .p (.op .p (.nil))))))) (.op .p (.op .p (.op .p (.op .p (.op .p (.op .p (.nil)))))))))))))) (.cond (.seq (.reg (.op .p (.nil))) (.leaf)) (.leaf))) (.seq (.seq (.reg (.op (.ld (.agg)) (.op (.cl [.slice]) (.op .p (.op .p (.nil)))))) (.blk (.loop [4, 10, 11, 12, 13, 14, 15, 78, 79, 80, 81, 82, 83, 84, 85, 86, 87, 88, 89, 90, 91, 92, 93, 94, 95, 96, 97, 98, 99, 100, 101, 102, 103, 104, 105, 106, 107, 108, 109, 110, 111, 112, 113, 114, 115, 116, 117, 118, 119, 120, 121, 122, 123, 124, 125, 126, 127, 128, 129, 130, 131, 132, 133, 134, 135, 136, 137, 138, 139, 140, 141, 142, 143, 144, 145, 146, 147, 148, 149, 150, 151, 152, 153, 154, 155, 156, 157, 158, 159] [78] [.int .i64] (.seq (.reg (.op .p (.nil))) (.seq (.cond (.leaf) (.leaf)) (.seq (.blk (.seq (.reg (.op .p (.op .ix (.op (.ld (.int .i64)) (.op .p (.op .p (.nil))))))) (.seq (.reg (.op .p (.nil))) (.seq (.seq (.reg (.op .p (.op .p (.op .p (.nil))))) (.blk (.loop [12, 13, 85, 86, 87, 88, 89, 90, 91, 92, 93, 94, 95, 96, 97, 98, 99] [12, 85] [.int .i64, .int .i64] (.seq (.reg (.op .p (.nil))) (.seq (.cond (.leaf) (.leaf)) (.seq (.blk (.seq (.reg (.op .p (.op .p (.nil)))) (.seq (.reg (.op .p (.op .p (.op .ix (.op (.ld (.int .i64)) (.op .p (.op .p (.op .sc (.op .p (.op .p (.nil))))))))))) (.join [12, 97, 98] [12] [.int .i64] (.cond (.reg (.op .p (.op .p (.op .p (.nil))))) (.leaf)))))) (.reg (.op .p (.op .p (.nil)))))))))) (.seq (.seq (.reg (.op .p (.op .p (.op .p (.op .p (.op (.cl [.int .i64]) (.op .p (.op .p (.nil))))))))) (.cond (.seq (.reg (.op .p (.nil))) (.leaf)) (.leaf))) (.seq (.reg (.op .p (.op .p (.op .p (.nil))))) (.blk (.loop [4, 14, 15, 109, 110, 111, 112, 113, 114, 115, 116, 117, 118, 119, 120, 121, 122, 123, 124, 125, 126, 127, 128, 129, 130, 131, 132, 133, 134, 135, 136, 137, 138, 139, 140, 141, 142, 143, 144, 145, 146, 147, 148, 149, 150, 151, 152, 153, 154, 155, 156, 157, 158] [109] [.int .i64] (.seq (.reg (.op .p (.nil))) (.seq (.cond (.leaf) (.leaf)) (.seq (.blk (.seq (.reg (.op .p (.op .p (.nil)))) (.seq (.reg (.op .p (.op .p (.op .p (.nil))))) (.blk (.loop [4, 15, 114, 115, 116, 117, 118, 119, 120, 121, 122, 123, 124, 125, 126, 127, 128, 129, 130, 131, 132, 133, 134, 135, 136, 137, 138, 139, 140, 141, 142, 143, 144, 145, 146, 147, 148, 149, 150, 151, 152, 153, 154, 155, 156, 157] [114] [.int .i64] (.seq (.reg (.op .p (.nil))) (.seq (.cond (.leaf) (.leaf)) (.seq (.blk (.seq (.reg (.op .p (.op .p (.nil)))) (.seq (.join [117, 118, 119, 120, 121, 122, 123, 124, 125, 126, 127, 128, 129, 130, 131, 132, 133, 134, 135, 136, 137, 138, 139, 140, 141, 142, 143, 144, 145, 146, 147, 148, 149, 150, 151, 152, 153, 154, 155, 156] [156] [.bool] (.drawS (.tk 0 .p (.tk 1 .p (.tk 2 .ix (.tk 4 .p (.tk 5 .p (.ts 3 (.int .i64) (.tk 6 .sc (.tk 7 .p (.tk 8 .p (.tk 9 .p (.sp 126 (.tk 10 .p (.tk 11 .p (.tk 12 .p (.tk 13 .p (.sp 130 (.tk 14 .p (.tk 15 .p (.tk 16 .ix (.tk 17 .p (.tk 19 .p (.tk 20 .p (.tk 21 .ix (.tk 22 .p (.ts 18 (.int .i64) (.ts 23 (.int .i64) (.tk 24 .p (.tk 25 .p (.tk 26 .p (.sp 143 (.tk 27 .p (.tk 28 .p (.tk 29 .p (.tk 30 .ix (.tk 31 .p (.tk 33 .p (.tk 34 .p (.tk 35 .ix (.tk 36 .p (.ts 32 (.int .i64) (.ts 37 (.int .i64) (.go 38 (.cl [.bool]) (.tk 39 .p (.nil)))))))))))))) (.tk 27 .p (.tk 28 .p (.tk 29 .p (.tk 30 .p (.tk 31 .p (.tk 33 .p (.tk 34 .p (.tk 35 .p (.tk 36 .p (.ts 32 .val (.ts 37 .val (.go 38 .p (.tk 39 .p (.nil)))))))))))))))))))))))))))) (.tk 14 .p (.tk 15 .p (.tk 16 .p (.tk 17 .p (.tk 19 .p (.tk 20 .p (.tk 21 .p (.tk 22 .p (.ts 18 .val (.ts 23 .val (.tk 24 .p (.tk 25 .p (.tk 26 .p (.tk 27 .p (.tk 28 .p (.tk 29 .p (.tk 30 .p (.tk 31 .p (.tk 33 .p (.tk 34 .p (.tk 35 .p (.tk 36 .p (.ts 32 .val (.ts 37 .val (.go 38 .p (.tk 39 .p (.nil)))))))))))))))))))))))))))))))) (.tk 10 .p (.tk 11 .p (.tk 12 .p (.tk 13 .p (.tk 14 .p (.tk 15 .p (.tk 16 .p (.tk 17 .p (.tk 19 .p (.tk 20 .p (.tk 21 .p (.tk 22 .p (.ts 18 .val (.ts 23 .val (.tk 24 .p (.tk 25 .p (.tk 26 .p (.tk 27 .p (.tk 28 .p (.tk 29 .p (.tk 30 .p (.tk 31 .p (.tk 33 .p (.tk 34 .p (.tk 35 .p (.tk 36 .p (.ts 32 .val (.ts 37 .val (.go 38 .p (.tk 39 .p (.nil)))))))))))))))))))))))))))))))))))))))))) [])) (.cond (.seq (.reg (.op .p (.nil))) (.leaf)) (.leaf))))) (.reg (.op .p (.op .p (.nil)))))))))))) (.reg (.op .p (.op .p (.nil))))))))))))))) (.reg (.op .p (.op .p (.nil)))))))))) (.seq (.reg (.op .p (.nil))) (.leaf)))))))))))
    (by kernel_rfl) Try.func4 (by kernel_rfl) (by kernel_rfl) (by kernel_rfl) (by kernel_rfl) h

set_option maxRecDepth 100000 in
theorem amphoralaw20_PruneGrows_vc (a0 : Array Value) (a1 : Array Value) (a2a : Option Addr) (a2n : Nat) (a2c : Nat) (w : World) (R : Ending → World → Prop) (h :
  ∃ (g3 : Nat) (w1 : World), (Instr.box 23 (.agg a0)).run Try.prog w = .ok (.pointer (some ⟨g3, 0, none⟩)) w1 ∧
  (∃ (g4 : Nat) (w2 : World), (Instr.box 23 (.agg a1)).run Try.prog w1 = .ok (.pointer (some ⟨g4, 0, none⟩)) w2 ∧
    (Calls Try.prog 7 #[] w2 fun (e13 : Ending) (w3 : World) => ∃ (t13 : Bool), e13 = .returned (.bool t13) ∧
      (((!t13) = true →
          (R (.returned (.bool false)) w3)) ∧
        ((!t13) = false →
          (Calls Try.prog 8 #[(.slice a2a a2n a2c)] w3 fun (e16 : Ending) (w4 : World) => ∃ (t16 : Bool), e16 = .returned (.bool t16) ∧
            ((t16 = true →
                (R (.returned (.bool true)) w4)) ∧
              (t16 = false →
                (∃ (t18 : Array Value), (Instr.loadAt 23 (.pointer (some ⟨g3, 0, none⟩))).run Try.prog w4 = .ok (.agg t18) w4 ∧
                  (Calls Try.prog 10 #[(.agg t18), (.slice a2a a2n a2c)] w4 fun (e20 : Ending) (w5 : World) => ∃ (t20_0a : Option Addr) (t20_0n : Nat) (t20_0c : Nat) (t20_1 : Value), e20 = .returned (.tuple #[(.slice t20_0a t20_0n t20_0c), t20_1]) ∧
                    (∃ J : Nat → Nat → World → Prop, (∃ S : World → Prop, S w5.drew ∧
                        (∃ (t24 : Int), (∀ w' : World, S w' → (Instr.loadAt 3 (.pointer (some ⟨g3, 0, none⟩))).run Try.prog w' = .ok (.int .i64 t24) w') ∧
                          (∃ (t26 : Int), (∀ w' : World, S w' → (Instr.loadAt 3 (.pointer (some ⟨g4, 0, none⟩))).run Try.prog w' = .ok (.int .i64 t26) w') ∧
                            (∃ (t29 : Int), (∀ w' : World, S w' → (Instr.loadAt 3 (.pointer (some ⟨g3, 1, none⟩))).run Try.prog w' = .ok (.int .i64 t29) w') ∧
                              (∃ (t31 : Int), (∀ w' : World, S w' → (Instr.loadAt 3 (.pointer (some ⟨g4, 1, none⟩))).run Try.prog w' = .ok (.int .i64 t31) w') ∧
                                (∃ (t34 : Int), (∀ w' : World, S w' → (Instr.loadAt 3 (.pointer (some ⟨g3, 2, none⟩))).run Try.prog w' = .ok (.int .i64 t34) w') ∧
                                  (∃ (t36 : Int), (∀ w' : World, S w' → (Instr.loadAt 3 (.pointer (some ⟨g4, 2, none⟩))).run Try.prog w' = .ok (.int .i64 t36) w') ∧
                                    (∃ (t39 : Int), (∀ w' : World, S w' → (Instr.loadAt 3 (.pointer (some ⟨g3, 3, none⟩))).run Try.prog w' = .ok (.int .i64 t39) w') ∧
                                      (∃ (t41 : Int), (∀ w' : World, S w' → (Instr.loadAt 3 (.pointer (some ⟨g4, 3, none⟩))).run Try.prog w' = .ok (.int .i64 t41) w') ∧
                                        (∃ (t44 : Int), (∀ w' : World, S w' → (Instr.loadAt 3 (.pointer (some ⟨g3, 4, none⟩))).run Try.prog w' = .ok (.int .i64 t44) w') ∧
                                          (∃ (t46 : Int), (∀ w' : World, S w' → (Instr.loadAt 3 (.pointer (some ⟨g4, 4, none⟩))).run Try.prog w' = .ok (.int .i64 t46) w') ∧
                                            (∃ (t49 : Int), (∀ w' : World, S w' → (Instr.loadAt 3 (.pointer (some ⟨g3, 5, none⟩))).run Try.prog w' = .ok (.int .i64 t49) w') ∧
                                              (∃ (t51 : Int), (∀ w' : World, S w' → (Instr.loadAt 3 (.pointer (some ⟨g4, 5, none⟩))).run Try.prog w' = .ok (.int .i64 t51) w') ∧
                                                ((Calls Try.prog 23 #[(.int .i64 t24), (.int .i64 t26)] w5.drew fun (e27 : Ending) (w6 : World) => ∃ (t27 : Int), e27 = .returned (.int .i64 t27) ∧
                                                    (∃ S_1 : World → Prop, (∀ w' : World, S_1 w' → S w') ∧ S_1 w6 ∧
                                                      ((Calls Try.prog 23 #[(.int .i64 t29), (.int .i64 t31)] w6 fun (e32 : Ending) (w7 : World) => ∃ (t32 : Int), e32 = .returned (.int .i64 t32) ∧
                                                          (∃ S_2 : World → Prop, (∀ w' : World, S_2 w' → S_1 w') ∧ S_2 w7 ∧
                                                            ((Calls Try.prog 23 #[(.int .i64 t34), (.int .i64 t36)] w7 fun (e37 : Ending) (w8 : World) => ∃ (t37 : Int), e37 = .returned (.int .i64 t37) ∧
                                                                (∃ S_3 : World → Prop, (∀ w' : World, S_3 w' → S_2 w') ∧ S_3 w8 ∧
                                                                  ((Calls Try.prog 23 #[(.int .i64 t39), (.int .i64 t41)] w8 fun (e42 : Ending) (w9 : World) => ∃ (t42 : Int), e42 = .returned (.int .i64 t42) ∧
                                                                      (∃ S_4 : World → Prop, (∀ w' : World, S_4 w' → S_3 w') ∧ S_4 w9 ∧
                                                                        ((Calls Try.prog 23 #[(.int .i64 t44), (.int .i64 t46)] w9 fun (e47 : Ending) (w10 : World) => ∃ (t47 : Int), e47 = .returned (.int .i64 t47) ∧
                                                                            (∃ S_5 : World → Prop, (∀ w' : World, S_5 w' → S_4 w') ∧ S_5 w10 ∧
                                                                              ((Calls Try.prog 23 #[(.int .i64 t49), (.int .i64 t51)] w10 fun (e52 : Ending) (w11 : World) => ∃ (t52 : Int), e52 = .returned (.int .i64 t52) ∧
                                                                                (∃ S_6 : World → Prop, (∀ w' : World, S_6 w' → S_5 w') ∧ S_6 w11 ∧
                                                                                (∃ (t53 : Array Value), (∀ w' : World, S_6 w' → (Instr.build 23 #[(0, (.int .i64 t27)), (1, (.int .i64 t32)), (2, (.int .i64 t37)), (3, (.int .i64 t42)), (4, (.int .i64 t47)), (5, (.int .i64 t52))]).run Try.prog w' = .ok (.agg t53) w') ∧
                                                                                (∃ (g9 : Nat) (w12 : World), (Instr.alloc 23 true (.tuple #[])).run Try.prog w11 = .ok (.pointer (some ⟨g9, 0, none⟩)) w12 ∧
                                                                                (∃ S_7 : World → Prop, (∀ w' : World, S_7 w' → S_6 w') ∧ S_7 w12 ∧
                                                                                (∃ w13 : World, (Instr.storeAt 23 (.pointer (some ⟨g9, 0, none⟩)) (.agg t53)).run Try.prog w12 = .ok () w13 ∧
                                                                                (J g9 0 w13))))))) ∧
                                                                                (∃ (g9 : Nat) (w14 : World), (Instr.alloc 23 true (.tuple #[])).run Try.prog w10 = .ok (.pointer (some ⟨g9, 0, none⟩)) w14 ∧
                                                                                (∃ S_6 : World → Prop, (∀ w' : World, S_6 w' → S_5 w') ∧ S_6 w14 ∧
                                                                                (Calls Try.prog 23 #[(.int .i64 t49), (.int .i64 t51)] w14 fun (e52 : Ending) (w15 : World) => ∃ (t52 : Int), e52 = .returned (.int .i64 t52) ∧
                                                                                (∃ S_7 : World → Prop, (∀ w' : World, S_7 w' → S_6 w') ∧ S_7 w15 ∧
                                                                                (∃ (t53 : Array Value), (∀ w' : World, S_7 w' → (Instr.build 23 #[(0, (.int .i64 t27)), (1, (.int .i64 t32)), (2, (.int .i64 t37)), (3, (.int .i64 t42)), (4, (.int .i64 t47)), (5, (.int .i64 t52))]).run Try.prog w' = .ok (.agg t53) w') ∧
                                                                                (∃ w16 : World, (Instr.storeAt 23 (.pointer (some ⟨g9, 0, none⟩)) (.agg t53)).run Try.prog w15 = .ok () w16 ∧
                                                                                (J g9 0 w16)))))))))) ∧
                                                                          (∃ (g9 : Nat) (w17 : World), (Instr.alloc 23 true (.tuple #[])).run Try.prog w9 = .ok (.pointer (some ⟨g9, 0, none⟩)) w17 ∧
                                                                            (∃ S_5 : World → Prop, (∀ w' : World, S_5 w' → S_4 w') ∧ S_5 w17 ∧
                                                                              (Calls Try.prog 23 #[(.int .i64 t44), (.int .i64 t46)] w17 fun (e47 : Ending) (w18 : World) => ∃ (t47 : Int), e47 = .returned (.int .i64 t47) ∧
                                                                                (∃ S_6 : World → Prop, (∀ w' : World, S_6 w' → S_5 w') ∧ S_6 w18 ∧
                                                                                (Calls Try.prog 23 #[(.int .i64 t49), (.int .i64 t51)] w18 fun (e52 : Ending) (w19 : World) => ∃ (t52 : Int), e52 = .returned (.int .i64 t52) ∧
                                                                                (∃ S_7 : World → Prop, (∀ w' : World, S_7 w' → S_6 w') ∧ S_7 w19 ∧
                                                                                (∃ (t53 : Array Value), (∀ w' : World, S_7 w' → (Instr.build 23 #[(0, (.int .i64 t27)), (1, (.int .i64 t32)), (2, (.int .i64 t37)), (3, (.int .i64 t42)), (4, (.int .i64 t47)), (5, (.int .i64 t52))]).run Try.prog w' = .ok (.agg t53) w') ∧
                                                                                (∃ w20 : World, (Instr.storeAt 23 (.pointer (some ⟨g9, 0, none⟩)) (.agg t53)).run Try.prog w19 = .ok () w20 ∧
                                                                                (J g9 0 w20)))))))))))) ∧
                                                                    (∃ (g9 : Nat) (w21 : World), (Instr.alloc 23 true (.tuple #[])).run Try.prog w8 = .ok (.pointer (some ⟨g9, 0, none⟩)) w21 ∧
                                                                      (∃ S_4 : World → Prop, (∀ w' : World, S_4 w' → S_3 w') ∧ S_4 w21 ∧
                                                                        (Calls Try.prog 23 #[(.int .i64 t39), (.int .i64 t41)] w21 fun (e42 : Ending) (w22 : World) => ∃ (t42 : Int), e42 = .returned (.int .i64 t42) ∧
                                                                          (∃ S_5 : World → Prop, (∀ w' : World, S_5 w' → S_4 w') ∧ S_5 w22 ∧
                                                                            (Calls Try.prog 23 #[(.int .i64 t44), (.int .i64 t46)] w22 fun (e47 : Ending) (w23 : World) => ∃ (t47 : Int), e47 = .returned (.int .i64 t47) ∧
                                                                              (∃ S_6 : World → Prop, (∀ w' : World, S_6 w' → S_5 w') ∧ S_6 w23 ∧
                                                                                (Calls Try.prog 23 #[(.int .i64 t49), (.int .i64 t51)] w23 fun (e52 : Ending) (w24 : World) => ∃ (t52 : Int), e52 = .returned (.int .i64 t52) ∧
                                                                                (∃ S_7 : World → Prop, (∀ w' : World, S_7 w' → S_6 w') ∧ S_7 w24 ∧
                                                                                (∃ (t53 : Array Value), (∀ w' : World, S_7 w' → (Instr.build 23 #[(0, (.int .i64 t27)), (1, (.int .i64 t32)), (2, (.int .i64 t37)), (3, (.int .i64 t42)), (4, (.int .i64 t47)), (5, (.int .i64 t52))]).run Try.prog w' = .ok (.agg t53) w') ∧
                                                                                (∃ w25 : World, (Instr.storeAt 23 (.pointer (some ⟨g9, 0, none⟩)) (.agg t53)).run Try.prog w24 = .ok () w25 ∧
                                                                                (J g9 0 w25)))))))))))))) ∧
                                                              (∃ (g9 : Nat) (w26 : World), (Instr.alloc 23 true (.tuple #[])).run Try.prog w7 = .ok (.pointer (some ⟨g9, 0, none⟩)) w26 ∧
                                                                (∃ S_3 : World → Prop, (∀ w' : World, S_3 w' → S_2 w') ∧ S_3 w26 ∧
                                                                  (Calls Try.prog 23 #[(.int .i64 t34), (.int .i64 t36)] w26 fun (e37 : Ending) (w27 : World) => ∃ (t37 : Int), e37 = .returned (.int .i64 t37) ∧
                                                                    (∃ S_4 : World → Prop, (∀ w' : World, S_4 w' → S_3 w') ∧ S_4 w27 ∧
                                                                      (Calls Try.prog 23 #[(.int .i64 t39), (.int .i64 t41)] w27 fun (e42 : Ending) (w28 : World) => ∃ (t42 : Int), e42 = .returned (.int .i64 t42) ∧
                                                                        (∃ S_5 : World → Prop, (∀ w' : World, S_5 w' → S_4 w') ∧ S_5 w28 ∧
                                                                          (Calls Try.prog 23 #[(.int .i64 t44), (.int .i64 t46)] w28 fun (e47 : Ending) (w29 : World) => ∃ (t47 : Int), e47 = .returned (.int .i64 t47) ∧
                                                                            (∃ S_6 : World → Prop, (∀ w' : World, S_6 w' → S_5 w') ∧ S_6 w29 ∧
                                                                              (Calls Try.prog 23 #[(.int .i64 t49), (.int .i64 t51)] w29 fun (e52 : Ending) (w30 : World) => ∃ (t52 : Int), e52 = .returned (.int .i64 t52) ∧
                                                                                (∃ S_7 : World → Prop, (∀ w' : World, S_7 w' → S_6 w') ∧ S_7 w30 ∧
                                                                                (∃ (t53 : Array Value), (∀ w' : World, S_7 w' → (Instr.build 23 #[(0, (.int .i64 t27)), (1, (.int .i64 t32)), (2, (.int .i64 t37)), (3, (.int .i64 t42)), (4, (.int .i64 t47)), (5, (.int .i64 t52))]).run Try.prog w' = .ok (.agg t53) w') ∧
                                                                                (∃ w31 : World, (Instr.storeAt 23 (.pointer (some ⟨g9, 0, none⟩)) (.agg t53)).run Try.prog w30 = .ok () w31 ∧
                                                                                (J g9 0 w31)))))))))))))))) ∧
                                                        (∃ (g9 : Nat) (w32 : World), (Instr.alloc 23 true (.tuple #[])).run Try.prog w6 = .ok (.pointer (some ⟨g9, 0, none⟩)) w32 ∧
                                                          (∃ S_2 : World → Prop, (∀ w' : World, S_2 w' → S_1 w') ∧ S_2 w32 ∧
                                                            (Calls Try.prog 23 #[(.int .i64 t29), (.int .i64 t31)] w32 fun (e32 : Ending) (w33 : World) => ∃ (t32 : Int), e32 = .returned (.int .i64 t32) ∧
                                                              (∃ S_3 : World → Prop, (∀ w' : World, S_3 w' → S_2 w') ∧ S_3 w33 ∧
                                                                (Calls Try.prog 23 #[(.int .i64 t34), (.int .i64 t36)] w33 fun (e37 : Ending) (w34 : World) => ∃ (t37 : Int), e37 = .returned (.int .i64 t37) ∧
                                                                  (∃ S_4 : World → Prop, (∀ w' : World, S_4 w' → S_3 w') ∧ S_4 w34 ∧
                                                                    (Calls Try.prog 23 #[(.int .i64 t39), (.int .i64 t41)] w34 fun (e42 : Ending) (w35 : World) => ∃ (t42 : Int), e42 = .returned (.int .i64 t42) ∧
                                                                      (∃ S_5 : World → Prop, (∀ w' : World, S_5 w' → S_4 w') ∧ S_5 w35 ∧
                                                                        (Calls Try.prog 23 #[(.int .i64 t44), (.int .i64 t46)] w35 fun (e47 : Ending) (w36 : World) => ∃ (t47 : Int), e47 = .returned (.int .i64 t47) ∧
                                                                          (∃ S_6 : World → Prop, (∀ w' : World, S_6 w' → S_5 w') ∧ S_6 w36 ∧
                                                                            (Calls Try.prog 23 #[(.int .i64 t49), (.int .i64 t51)] w36 fun (e52 : Ending) (w37 : World) => ∃ (t52 : Int), e52 = .returned (.int .i64 t52) ∧
                                                                              (∃ S_7 : World → Prop, (∀ w' : World, S_7 w' → S_6 w') ∧ S_7 w37 ∧
                                                                                (∃ (t53 : Array Value), (∀ w' : World, S_7 w' → (Instr.build 23 #[(0, (.int .i64 t27)), (1, (.int .i64 t32)), (2, (.int .i64 t37)), (3, (.int .i64 t42)), (4, (.int .i64 t47)), (5, (.int .i64 t52))]).run Try.prog w' = .ok (.agg t53) w') ∧
                                                                                (∃ w38 : World, (Instr.storeAt 23 (.pointer (some ⟨g9, 0, none⟩)) (.agg t53)).run Try.prog w37 = .ok () w38 ∧
                                                                                (J g9 0 w38)))))))))))))))))) ∧
                                                  (∃ (g9 : Nat) (w39 : World), (Instr.alloc 23 true (.tuple #[])).run Try.prog w5.drew = .ok (.pointer (some ⟨g9, 0, none⟩)) w39 ∧
                                                    (∃ S_1 : World → Prop, (∀ w' : World, S_1 w' → S w') ∧ S_1 w39 ∧
                                                      (Calls Try.prog 23 #[(.int .i64 t24), (.int .i64 t26)] w39 fun (e27 : Ending) (w40 : World) => ∃ (t27 : Int), e27 = .returned (.int .i64 t27) ∧
                                                        (∃ S_2 : World → Prop, (∀ w' : World, S_2 w' → S_1 w') ∧ S_2 w40 ∧
                                                          (Calls Try.prog 23 #[(.int .i64 t29), (.int .i64 t31)] w40 fun (e32 : Ending) (w41 : World) => ∃ (t32 : Int), e32 = .returned (.int .i64 t32) ∧
                                                            (∃ S_3 : World → Prop, (∀ w' : World, S_3 w' → S_2 w') ∧ S_3 w41 ∧
                                                              (Calls Try.prog 23 #[(.int .i64 t34), (.int .i64 t36)] w41 fun (e37 : Ending) (w42 : World) => ∃ (t37 : Int), e37 = .returned (.int .i64 t37) ∧
                                                                (∃ S_4 : World → Prop, (∀ w' : World, S_4 w' → S_3 w') ∧ S_4 w42 ∧
                                                                  (Calls Try.prog 23 #[(.int .i64 t39), (.int .i64 t41)] w42 fun (e42 : Ending) (w43 : World) => ∃ (t42 : Int), e42 = .returned (.int .i64 t42) ∧
                                                                    (∃ S_5 : World → Prop, (∀ w' : World, S_5 w' → S_4 w') ∧ S_5 w43 ∧
                                                                      (Calls Try.prog 23 #[(.int .i64 t44), (.int .i64 t46)] w43 fun (e47 : Ending) (w44 : World) => ∃ (t47 : Int), e47 = .returned (.int .i64 t47) ∧
                                                                        (∃ S_6 : World → Prop, (∀ w' : World, S_6 w' → S_5 w') ∧ S_6 w44 ∧
                                                                          (Calls Try.prog 23 #[(.int .i64 t49), (.int .i64 t51)] w44 fun (e52 : Ending) (w45 : World) => ∃ (t52 : Int), e52 = .returned (.int .i64 t52) ∧
                                                                            (∃ S_7 : World → Prop, (∀ w' : World, S_7 w' → S_6 w') ∧ S_7 w45 ∧
                                                                              (∃ (t53 : Array Value), (∀ w' : World, S_7 w' → (Instr.build 23 #[(0, (.int .i64 t27)), (1, (.int .i64 t32)), (2, (.int .i64 t37)), (3, (.int .i64 t42)), (4, (.int .i64 t47)), (5, (.int .i64 t52))]).run Try.prog w' = .ok (.agg t53) w') ∧
                                                                                (∃ w46 : World, (Instr.storeAt 23 (.pointer (some ⟨g9, 0, none⟩)) (.agg t53)).run Try.prog w45 = .ok () w46 ∧
                                                                                (J g9 0 w46))))))))))))))))))))))))))))))) ∧
                      (∀ (x9b : Nat) (x9o : Nat), ∀ w47 : World, J x9b x9o w47 →
                        (∃ (t55 : Array Value), (Instr.loadAt 23 (.pointer (some ⟨x9b, x9o, none⟩))).run Try.prog w47 = .ok (.agg t55) w47 ∧
                          (Calls Try.prog 10 #[(.agg t55), (.slice a2a a2n a2c)] w47 fun (e57 : Ending) (w48 : World) => ∃ (t57_0a : Option Addr) (t57_0n : Nat) (t57_0c : Nat) (t57_1 : Value), e57 = .returned (.tuple #[(.slice t57_0a t57_0n t57_0c), t57_1]) ∧
                            (∃ J_1 : Bool → World → Prop, (∃ (t61 : Bool), (eqlS .neq 34 (.tmp 60) (.const .nilIface) t20_1 .nilIface).run Try.prog w48 = .ok (.bool t61) w48 ∧
                                ((t61 = true →
                                    (J_1 true w48)) ∧
                                  (t61 = false →
                                    (∃ (t64 : Bool), (eqlS .neq 34 (.tmp 63) (.const .nilIface) t57_1 .nilIface).run Try.prog w48 = .ok (.bool t64) w48 ∧
                                      (J_1 t64 w48))))) ∧
                              (∀ (x65 : Bool), ∀ w49 : World, J_1 x65 w49 →
                                ((x65 = true →
                                    (R (.returned (.bool true)) w49)) ∧
                                  (x65 = false →
                                    (∃ (I : Int → World → Prop) (μ : Int → World → Nat), I 0 w49 ∧
                                      (∀ (x68 : Int), ∀ w50 : World, I x68 w50 →
                                        (((decide (x68 < ((a2n : Nat) : Int))) = true →
                                            (∃ S_8 : World → Prop, S_8 w50.drew ∧
                                              (∃ (t73b t73o : Nat), t20_0a = some ⟨t73b, t73o, none⟩ ∧ 0 ≤ x68 ∧ x68 < ((t20_0n : Nat) : Int) ∧
                                                (∃ (t77b t77o : Nat), t57_0a = some ⟨t77b, t77o, none⟩ ∧ 0 ≤ x68 ∧ x68 < ((t57_0n : Nat) : Int) ∧
                                                  (∃ (t74 : Int), (∀ w' : World, S_8 w' → (Instr.loadAt 3 (.pointer (some ⟨t73b, t73o + Int.toNat x68 * 1, none⟩))).run Try.prog w' = .ok (.int .i64 t74) w') ∧
                                                    (∃ (t78 : Int), (∀ w' : World, S_8 w' → (Instr.loadAt 3 (.pointer (some ⟨t77b, t77o + Int.toNat x68 * 1, none⟩))).run Try.prog w' = .ok (.int .i64 t78) w') ∧
                                                      ((((bandn .i64 t74 t78) != (0 : Int)) = true →
                                                          (R (.returned (.bool false)) w50.drew)) ∧
                                                        (((bandn .i64 t74 t78) != (0 : Int)) = false →
                                                          (I (IntKind.wrap .i64 (x68 + (1 : Int))) w50.drew ∧ μ (IntKind.wrap .i64 (x68 + (1 : Int))) w50.drew < μ x68 w50))))))))) ∧
                                          ((decide (x68 < ((a2n : Nat) : Int))) = false →
                                            (R (.returned (.bool true)) w50))))))))))))))))))))))) : Calls Try.prog 5 #[(.agg a0), (.agg a1), (.slice a2a a2n a2c)] w R :=
  calls_of_ev (args := [(.agg a0), (.agg a1), (.slice a2a a2n a2c)])
    (tc := .seq (.reg (.op .bx (.op .bx (.op .p (.nil))))) (.seq (.seq (.reg (.op (.cl [.bool]) (.op .p (.nil)))) (.cond (.seq (.reg (.op .p (.nil))) (.leaf)) (.leaf))) (.seq (.seq (.reg (.op .p (.op (.cl [.bool]) (.nil)))) (.cond (.seq (.reg (.op .p (.nil))) (.leaf)) (.leaf))) (.seq (.reg (.op (.ld (.agg)) (.op .p (.op (.cl [.slice, .val]) (.op .p (.op .p (.op .p (.op .p (.op .p (.nil)))))))))) (.seq (.join [9, 23, 24, 25, 26, 27, 28, 29, 30, 31, 32, 33, 34, 35, 36, 37, 38, 39, 40, 41, 42, 43, 44, 45, 46, 47, 48, 49, 50, 51, 52, 53] [9] [.ptr] (.drawS (.tk 0 .p (.tk 2 .p (.tk 5 .p (.tk 7 .p (.tk 10 .p (.tk 12 .p (.tk 15 .p (.tk 17 .p (.tk 20 .p (.tk 22 .p (.tk 25 .p (.tk 27 .p (.ts 1 (.int .i64) (.ts 3 (.int .i64) (.ts 6 (.int .i64) (.ts 8 (.int .i64) (.ts 11 (.int .i64) (.ts 13 (.int .i64) (.ts 16 (.int .i64) (.ts 18 (.int .i64) (.ts 21 (.int .i64) (.ts 23 (.int .i64) (.ts 26 (.int .i64) (.ts 28 (.int .i64) (.two 4 (.cl [.int .i64]) (.two 9 (.cl [.int .i64]) (.two 14 (.cl [.int .i64]) (.two 19 (.cl [.int .i64]) (.two 24 (.cl [.int .i64]) (.two 29 (.cl [.int .i64]) (.ts 30 (.agg) (.go 31 .bx (.go 32 .u (.nil)))) 31 .bx (.go 29 (.cl [.int .i64]) (.ts 30 (.agg) (.go 32 .u (.nil))))) 31 .bx (.go 24 (.cl [.int .i64]) (.go 29 (.cl [.int .i64]) (.ts 30 (.agg) (.go 32 .u (.nil)))))) 31 .bx (.go 19 (.cl [.int .i64]) (.go 24 (.cl [.int .i64]) (.go 29 (.cl [.int .i64]) (.ts 30 (.agg) (.go 32 .u (.nil))))))) 31 .bx (.go 14 (.cl [.int .i64]) (.go 19 (.cl [.int .i64]) (.go 24 (.cl [.int .i64]) (.go 29 (.cl [.int .i64]) (.ts 30 (.agg) (.go 32 .u (.nil)))))))) 31 .bx (.go 9 (.cl [.int .i64]) (.go 14 (.cl [.int .i64]) (.go 19 (.cl [.int .i64]) (.go 24 (.cl [.int .i64]) (.go 29 (.cl [.int .i64]) (.ts 30 (.agg) (.go 32 .u (.nil))))))))) 31 .bx (.go 4 (.cl [.int .i64]) (.go 9 (.cl [.int .i64]) (.go 14 (.cl [.int .i64]) (.go 19 (.cl [.int .i64]) (.go 24 (.cl [.int .i64]) (.go 29 (.cl [.int .i64]) (.ts 30 (.agg) (.go 32 .u (.nil)))))))))))))))))))))))))))))))))) [32])) (.seq (.reg (.op (.ld (.agg)) (.op .p (.op (.cl [.slice, .val]) (.op .p (.op .p (.op .p (.op .p (.op .p (.nil)))))))))) (.seq (.seq (.join [60, 61, 62, 63, 64, 65] [65] [.bool] (.reg (.op .p (.op (.ld (.bool)) (.op .p (.sp 62 (.op .p (.op .p (.op .p (.nil)))) (.op .p (.op (.ld (.bool)) (.op .p (.nil)))))))))) (.cond (.seq (.reg (.op .p (.nil))) (.leaf)) (.leaf))) (.seq (.seq (.reg (.op .p (.op .p (.op .p (.nil))))) (.blk (.loop [6, 12, 68, 69, 70, 71, 72, 73, 74, 75, 76, 77, 78, 79, 80, 81] [68] [.int .i64] (.seq (.reg (.op .p (.nil))) (.seq (.cond (.leaf) (.leaf)) (.seq (.blk (.seq (.reg (.op .p (.op .p (.nil)))) (.seq (.drawS (.tk 0 .p (.tk 1 .p (.tk 2 .ix (.tk 4 .p (.tk 5 .p (.tk 6 .ix (.ts 3 (.int .i64) (.ts 7 (.int .i64) (.tk 8 .p (.tk 9 .p (.nil))))))))))) []) (.cond (.seq (.reg (.op .p (.nil))) (.leaf)) (.leaf))))) (.reg (.op .p (.op .p (.nil)))))))))) (.seq (.reg (.op .p (.nil))) (.leaf))))))))))
    (by kernel_rfl) Try.func5 (by kernel_rfl) (by kernel_rfl) (by kernel_rfl) (by kernel_rfl) h

set_option maxRecDepth 100000 in
theorem amphoralaw20_PruneTwice_vc (a0 : Array Value) (a1a : Option Addr) (a1n : Nat) (a1c : Nat) (w : World) (R : Ending → World → Prop) (h :
  ∃ (g2 : Nat) (w1 : World), (Instr.box 23 (.agg a0)).run Try.prog w = .ok (.pointer (some ⟨g2, 0, none⟩)) w1 ∧
  (Calls Try.prog 7 #[] w1 fun (e14 : Ending) (w2 : World) => ∃ (t14 : Bool), e14 = .returned (.bool t14) ∧
    (((!t14) = true →
        (R (.returned (.bool false)) w2)) ∧
      ((!t14) = false →
        (Calls Try.prog 8 #[(.slice a1a a1n a1c)] w2 fun (e17 : Ending) (w3 : World) => ∃ (t17 : Bool), e17 = .returned (.bool t17) ∧
          ((t17 = true →
              (R (.returned (.bool true)) w3)) ∧
            (t17 = false →
              (∃ (t19 : Array Value), (Instr.loadAt 23 (.pointer (some ⟨g2, 0, none⟩))).run Try.prog w3 = .ok (.agg t19) w3 ∧
                (Calls Try.prog 14 #[(.agg t19), (.slice a1a a1n a1c)] w3 fun (e21 : Ending) (w4 : World) => ∃ (t21_0a : Option Addr) (t21_0n : Nat) (t21_0c : Nat) (t21_1 : Value), e21 = .returned (.tuple #[(.slice t21_0a t21_0n t21_0c), t21_1]) ∧
                  (∃ (t25 : Bool), (eqlS .neq 34 (.tmp 24) (.const .nilIface) t21_1 .nilIface).run Try.prog w4 = .ok (.bool t25) w4 ∧
                    ((t25 = true →
                        (R (.returned (.bool (((t21_0n : Nat) : Int) == (0 : Int)))) w4)) ∧
                      (t25 = false →
                        (∃ (t29a : Option Addr) (t29n : Nat) (t29c : Nat) (w5 : World), (Instr.buildSlice 24 0 #[]).run Try.prog w4 = .ok (.slice t29a t29n t29c) w5 ∧
                          (∃ (I : Option Addr → Nat → Nat → Int → World → Prop) (μ : Option Addr → Nat → Nat → Int → World → Nat), I t29a t29n t29c 0 w5 ∧
                            (∀ (x7a : Option Addr) (x7n : Nat) (x7c : Nat) (x32 : Int), ∀ w6 : World, I x7a x7n x7c x32 w6 →
                              (((decide (x32 < ((a1n : Nat) : Int))) = true →
                                  (∃ (t35b t35o : Nat), a1a = some ⟨t35b, t35o, none⟩ ∧ 0 ≤ x32 ∧ x32 < ((a1n : Nat) : Int) ∧
                                    (∃ (t36 : Array Value), (Instr.loadAt 30 (.pointer (some ⟨t35b, t35o + Int.toNat x32 * 36, none⟩))).run Try.prog w6 = .ok (.agg t36) w6 ∧
                                      (∃ (g9 : Nat) (w7 : World), (Instr.alloc 30 true (.tuple #[])).run Try.prog w6 = .ok (.pointer (some ⟨g9, 0, none⟩)) w7 ∧
                                        (∃ w8 : World, (Instr.storeAt 30 (.pointer (some ⟨g9, 0, none⟩)) (.agg t36)).run Try.prog w7 = .ok () w8 ∧
                                          (∃ (t39b t39o : Nat), t21_0a = some ⟨t39b, t39o, none⟩ ∧ 0 ≤ x32 ∧ x32 < ((t21_0n : Nat) : Int) ∧
                                            (∃ (t40 : Bool), (Instr.loadAt 4 (.pointer (some ⟨t39b, t39o + Int.toNat x32 * 1, none⟩))).run Try.prog w8 = .ok (.bool t40) w8 ∧
                                              (∃ J : Option Addr → Nat → Nat → World → Prop, ((t40 = true →
                                                    (∃ (t42 : Array Value), (Instr.loadAt 30 (.pointer (some ⟨g9, 0, none⟩))).run Try.prog w8 = .ok (.agg t42) w8 ∧
                                                      (∃ (t43a : Option Addr) (t43n : Nat) (t43c : Nat) (w9 : World), (Instr.buildSlice 24 1 #[(0, (.agg t42))]).run Try.prog w8 = .ok (.slice t43a t43n t43c) w9 ∧
                                                        (∃ (t44a : Option Addr) (t44n : Nat) (t44c : Nat) (w10 : World), (Builtin.append_ #[24, 24] 24 #[(.slice x7a x7n x7c), (.slice t43a t43n t43c)]).run Try.prog w9 = .ok (.slice t44a t44n t44c) w10 ∧
                                                          (J t44a t44n t44c w10))))) ∧
                                                  (t40 = false →
                                                    (J x7a x7n x7c w8))) ∧
                                                (∀ (x7a_1 : Option Addr) (x7n_1 : Nat) (x7c_1 : Nat), ∀ w11 : World, J x7a_1 x7n_1 x7c_1 w11 →
                                                  (I x7a_1 x7n_1 x7c_1 (IntKind.wrap .i64 (x32 + (1 : Int))) w11 ∧ μ x7a_1 x7n_1 x7c_1 (IntKind.wrap .i64 (x32 + (1 : Int))) w11 < μ x7a x7n x7c x32 w6)))))))))) ∧
                                ((decide (x32 < ((a1n : Nat) : Int))) = false →
                                  (∃ (t47 : Array Value), (Instr.loadAt 23 (.pointer (some ⟨g2, 0, none⟩))).run Try.prog w6 = .ok (.agg t47) w6 ∧
                                    (Calls Try.prog 12 #[(.agg t47), (.slice x7a x7n x7c)] w6 fun (e49 : Ending) (w12 : World) => ∃ (t49_0a : Option Addr) (t49_0n : Nat) (t49_0c : Nat) (t49_1 : Value), e49 = .returned (.tuple #[(.slice t49_0a t49_0n t49_0c), t49_1]) ∧
                                      (∃ (t53 : Array Value), (Instr.loadAt 23 (.pointer (some ⟨g2, 0, none⟩))).run Try.prog w12 = .ok (.agg t53) w12 ∧
                                        (Calls Try.prog 12 #[(.agg t53), (.slice a1a a1n a1c)] w12 fun (e55 : Ending) (w13 : World) => ∃ (t55_0a : Option Addr) (t55_0n : Nat) (t55_0c : Nat) (t55_1 : Value), e55 = .returned (.tuple #[(.slice t55_0a t55_0n t55_0c), t55_1]) ∧
                                          (∃ J : Bool → World → Prop, (∃ (t59 : Bool), (eqlS .neq 34 (.tmp 58) (.const .nilIface) t49_1 .nilIface).run Try.prog w13 = .ok (.bool t59) w13 ∧
                                              ((t59 = true →
                                                  (J true w13)) ∧
                                                (t59 = false →
                                                  (∃ (t62 : Bool), (eqlS .neq 34 (.tmp 61) (.const .nilIface) t55_1 .nilIface).run Try.prog w13 = .ok (.bool t62) w13 ∧
                                                    (J ((t62 || (((t49_0n : Nat) : Int) != (0 : Int))) || (((t55_0n : Nat) : Int) != (IntKind.wrap .i64 (((a1n : Nat) : Int) - ((x7n : Nat) : Int))))) w13))))) ∧
                                            (∀ (x78 : Bool), ∀ w14 : World, J x78 w14 →
                                              ((x78 = true →
                                                  (R (.returned (.bool false)) w14)) ∧
                                                (x78 = false →
                                                  (∃ (I_1 : Int → World → Prop) (μ_1 : Int → World → Nat), I_1 1 w14 ∧
                                                    (∀ (x13 : Int), ∀ w15 : World, I_1 x13 w15 →
                                                      (((decide (x13 < ((t55_0n : Nat) : Int))) = true →
                                                          (∃ S : World → Prop, S w15.drew ∧
                                                            (∃ (t88b t88o : Nat), t55_0a = some ⟨t88b, t88o, none⟩ ∧ 0 ≤ (IntKind.wrap .i64 (x13 - (1 : Int))) ∧ (IntKind.wrap .i64 (x13 - (1 : Int))) < ((t55_0n : Nat) : Int) ∧
                                                              (∃ (t92b t92o : Nat), t55_0a = some ⟨t92b, t92o, none⟩ ∧ 0 ≤ x13 ∧ x13 < ((t55_0n : Nat) : Int) ∧
                                                                (∃ (t89 : ByteArray), (∀ w' : World, S w' → (Instr.loadAt 9 (.pointer (some ⟨t88b, t88o + Int.toNat (IntKind.wrap .i64 (x13 - (1 : Int))) * 1, none⟩))).run Try.prog w' = .ok (.string t89) w') ∧
                                                                  (∃ (t93 : ByteArray), (∀ w' : World, S w' → (Instr.loadAt 9 (.pointer (some ⟨t92b, t92o + Int.toNat x13 * 1, none⟩))).run Try.prog w' = .ok (.string t93) w') ∧
                                                                    (∃ (t94 : Bool), (∀ w' : World, S w' → (eqlS .gtr 9 (.tmp 89) (.tmp 93) (.string t89) (.string t93)).run Try.prog w' = .ok (.bool t94) w') ∧
                                                                      ((t94 = true →
                                                                          (R (.returned (.bool false)) w15.drew)) ∧
                                                                        (t94 = false →
                                                                          (I_1 (IntKind.wrap .i64 (x13 + (1 : Int))) w15.drew ∧ μ_1 (IntKind.wrap .i64 (x13 + (1 : Int))) w15.drew < μ_1 x13 w15)))))))))) ∧
                                                        ((decide (x13 < ((t55_0n : Nat) : Int))) = false →
                                                          (R (.returned (.bool true)) w15)))))))))))))))))))))))))))))) : Calls Try.prog 6 #[(.agg a0), (.slice a1a a1n a1c)] w R :=
  calls_of_ev (args := [(.agg a0), (.slice a1a a1n a1c)])
    (tc := .seq (.reg (.op .bx (.op .p (.nil)))) (.seq (.seq (.reg (.op (.cl [.bool]) (.op .p (.nil)))) (.cond (.seq (.reg (.op .p (.nil))) (.leaf)) (.leaf))) (.seq (.seq (.reg (.op .p (.op (.cl [.bool]) (.nil)))) (.cond (.seq (.reg (.op .p (.nil))) (.leaf)) (.leaf))) (.seq (.reg (.op (.ld (.agg)) (.op .p (.op (.cl [.slice, .val]) (.op .p (.op .p (.op .p (.op .p (.op .p (.nil)))))))))) (.seq (.seq (.reg (.op .p (.op (.ld (.bool)) (.nil)))) (.cond (.seq (.reg (.op .p (.op .p (.op .p (.op .p (.nil)))))) (.leaf)) (.leaf))) (.seq (.reg (.op (.r (.slice)) (.op .p (.nil)))) (.seq (.seq (.reg (.op .p (.op .p (.op .p (.nil))))) (.blk (.loop [7, 8, 9, 32, 33, 34, 35, 36, 37, 38, 39, 40, 41, 42, 43, 44, 45] [7, 32] [.slice, .int .i64] (.seq (.reg (.op .p (.nil))) (.seq (.cond (.leaf) (.leaf)) (.seq (.blk (.seq (.reg (.op .p (.op .ix (.op (.ld (.agg)) (.op .bx (.op .p (.op .u (.nil)))))))) (.seq (.reg (.op .p (.op .p (.op .ix (.op (.ld (.bool)) (.nil)))))) (.join [7, 41, 42, 43, 44] [7] [.slice] (.cond (.reg (.op .p (.op (.ld (.agg)) (.op (.r (.slice)) (.op (.r (.slice)) (.op .p (.nil))))))) (.leaf)))))) (.reg (.op .p (.op .p (.nil)))))))))) (.seq (.reg (.op (.ld (.agg)) (.op .p (.op (.cl [.slice, .val]) (.op .p (.op .p (.op .p (.op .p (.op .p (.nil)))))))))) (.seq (.reg (.op (.ld (.agg)) (.op .p (.op (.cl [.slice, .val]) (.op .p (.op .p (.op .p (.op .p (.op .p (.nil)))))))))) (.seq (.seq (.join [58, 59, 60, 61, 62, 63, 64, 65, 66, 67, 68, 69, 70, 71, 72, 73, 74, 75, 76, 77, 78] [78] [.bool] (.reg (.op .p (.op (.ld (.bool)) (.op .p (.sp 60 (.op .p (.op .p (.op .p (.op .p (.op .p (.op .p (.op .p (.op .p (.op .p (.op .p (.op .p (.op .p (.op .p (.op .p (.op .p (.op .p (.op .p (.op .p (.nil))))))))))))))))))) (.op .p (.op (.ld (.bool)) (.op .p (.op .p (.ap 3 (.op .p (.ap 8 (.nil)))))))))))))) (.cond (.seq (.reg (.op .p (.nil))) (.leaf)) (.leaf))) (.seq (.seq (.reg (.op .p (.nil))) (.blk (.loop [4, 13, 79, 80, 81, 82, 83, 84, 85, 86, 87, 88, 89, 90, 91, 92, 93, 94] [13] [.int .i64] (.seq (.seq (.reg (.op .p (.op .p (.op .p (.op .p (.nil)))))) (.cond (.leaf) (.leaf))) (.seq (.blk (.seq (.drawS (.tk 0 .p (.tk 1 .p (.tk 2 .p (.tk 3 .ix (.tk 5 .p (.tk 6 .p (.tk 7 .ix (.ts 4 (.str) (.ts 8 (.str) (.ts 9 (.bool) (.nil))))))))))) []) (.cond (.seq (.reg (.op .p (.nil))) (.leaf)) (.leaf)))) (.reg (.op .p (.op .p (.op .p (.nil)))))))))) (.seq (.reg (.op .p (.nil))) (.leaf)))))))))))))
    (by kernel_rfl) Try.func6 (by kernel_rfl) (by kernel_rfl) (by kernel_rfl) (by kernel_rfl) h

set_option maxRecDepth 100000 in
theorem amphoralaw20_same_vc (a0 : Int) (a1 : Int) (a2 : Int) (w : World) (R : Ending → World → Prop) (h :
  Calls Try.prog 24 #[(.int .i64 a0), (.int .i64 a1)] w fun (e14 : Ending) (w1 : World) => ∃ (t14_0 : Int) (t14_1 : Value), e14 = .returned (.tuple #[(.int .i64 t14_0), t14_1]) ∧
  (Calls Try.prog 24 #[(.int .i64 a0), (.int .i64 a2)] w1 fun (e20 : Ending) (w2 : World) => ∃ (t20_0 : Int) (t20_1 : Value), e20 = .returned (.tuple #[(.int .i64 t20_0), t20_1]) ∧
    (R (.returned (.bool (t14_0 == t20_0))) w2))) : Calls Try.prog 22 #[(.int .i64 a0), (.int .i64 a1), (.int .i64 a2)] w R :=
  calls_of_ev (args := [(.int .i64 a0), (.int .i64 a1), (.int .i64 a2)])
    (tc := .seq (.reg (.op .p (.nil))) (.seq (.reg (.op .p (.op .p (.op (.cl [.int .i64, .val]) (.op .p (.op .p (.op .p (.op .p (.op .p (.nil)))))))))) (.seq (.reg (.op .p (.op .p (.op (.cl [.int .i64, .val]) (.op .p (.op .p (.op .p (.op .p (.op .p (.nil)))))))))) (.seq (.reg (.op .p (.op .p (.op .p (.op .p (.nil)))))) (.leaf)))))
    (by kernel_rfl) Try.func22 (by kernel_rfl) (by kernel_rfl) (by kernel_rfl) (by kernel_rfl) h

set_option maxRecDepth 100000 in
theorem amphoralaw20_buckets_vc (a0 : Int) (a1a : Option Addr) (a1n : Nat) (a1c : Nat) (w : World) (R : Ending → World → Prop) (h :
  ((a0 == (0 : Int)) = true →
    (R (.returned (.int .i64 ((a1n : Nat) : Int))) w)) ∧
  ((a0 == (0 : Int)) = false →
    (∃ (I : Int → Int → World → Prop) (μ : Int → Int → World → Nat), I 0 0 w ∧
      (∀ (x5 : Int) (x15 : Int), ∀ w1 : World, I x5 x15 w1 →
        (((decide (x15 < ((a1n : Nat) : Int))) = true →
            (∃ (I_1 : Bool → Int → World → Prop) (μ_1 : Bool → Int → World → Nat), I_1 true 0 w1 ∧
              (∀ (x7 : Bool) (x8 : Int), ∀ w2 : World, I_1 x7 x8 w2 →
                (((decide (x8 < x15)) = true →
                    (∃ J : Bool → World → Prop, (∃ S : World → Prop, S w2.drew ∧
                        ((x7 = true →
                            (∃ (t28b t28o : Nat), a1a = some ⟨t28b, t28o, none⟩ ∧ 0 ≤ x15 ∧ x15 < ((a1n : Nat) : Int) ∧
                              (∃ (t33b t33o : Nat), a1a = some ⟨t33b, t33o, none⟩ ∧ 0 ≤ x8 ∧ x8 < ((a1n : Nat) : Int) ∧
                                (∃ (t30 : Int), (∀ w' : World, S w' → (Instr.loadAt 3 (.pointer (some ⟨t28b, t28o + Int.toNat x15 * 36 + 1, none⟩))).run Try.prog w' = .ok (.int .i64 t30) w') ∧
                                  (∃ (t35 : Int), (∀ w' : World, S w' → (Instr.loadAt 3 (.pointer (some ⟨t33b, t33o + Int.toNat x8 * 36 + 1, none⟩))).run Try.prog w' = .ok (.int .i64 t35) w') ∧
                                    (Calls Try.prog 22 #[(.int .i64 a0), (.int .i64 t30), (.int .i64 t35)] w2.drew fun (e36 : Ending) (w3 : World) => ∃ (t36 : Bool), e36 = .returned (.bool t36) ∧
                                      (∃ S_1 : World → Prop, (∀ w' : World, S_1 w' → S w') ∧ S_1 w3 ∧
                                        (J (!t36) w3)))))))) ∧
                          (x7 = false →
                            (S w2.drew ∧
                              (J false w2.drew))))) ∧
                      (∀ (x7_1 : Bool), ∀ w4 : World, J x7_1 w4 →
                        (I_1 x7_1 (IntKind.wrap .i64 (x8 + (1 : Int))) w4 ∧ μ_1 x7_1 (IntKind.wrap .i64 (x8 + (1 : Int))) w4 < μ_1 x7 x8 w2)))) ∧
                  ((decide (x8 < x15)) = false →
                    (∃ J : Int → World → Prop, ((x7 = true →
                          (J (IntKind.wrap .i64 (x5 + (1 : Int))) w2)) ∧
                        (x7 = false →
                          (J x5 w2))) ∧
                      (∀ (x5_1 : Int), ∀ w5 : World, J x5_1 w5 →
                        (I x5_1 (IntKind.wrap .i64 (x15 + (1 : Int))) w5 ∧ μ x5_1 (IntKind.wrap .i64 (x15 + (1 : Int))) w5 < μ x5 x15 w1)))))))) ∧
          ((decide (x15 < ((a1n : Nat) : Int))) = false →
            (R (.returned (.int .i64 x5)) w1))))))) : Calls Try.prog 21 #[(.int .i64 a0), (.slice a1a a1n a1c)] w R :=
  calls_of_ev (args := [(.int .i64 a0), (.slice a1a a1n a1c)])
    (tc := .seq (.reg (.op .p (.nil))) (.seq (.seq (.reg (.op .p (.op .p (.nil)))) (.cond (.seq (.reg (.op .p (.op .p (.op .p (.nil))))) (.leaf)) (.leaf))) (.seq (.reg (.op .p (.nil))) (.seq (.seq (.reg (.op .p (.op .p (.op .p (.nil))))) (.blk (.loop [5, 6, 7, 8, 15, 16, 17, 18, 19, 20, 21, 22, 23, 24, 25, 26, 27, 28, 29, 30, 31, 32, 33, 34, 35, 36, 37, 38, 39, 40, 41, 42] [5, 15] [.int .i64, .int .i64] (.seq (.reg (.op .p (.nil))) (.seq (.cond (.leaf) (.leaf)) (.seq (.blk (.seq (.reg (.op .p (.op .p (.nil)))) (.seq (.reg (.op .p (.nil))) (.seq (.seq (.reg (.op .p (.nil))) (.blk (.loop [7, 8, 18, 19, 20, 21, 22, 23, 24, 25, 26, 27, 28, 29, 30, 31, 32, 33, 34, 35, 36, 37, 38] [7, 8] [.bool, .int .i64] (.seq (.seq (.reg (.op .p (.op .p (.op .p (.nil))))) (.cond (.leaf) (.leaf))) (.seq (.blk (.join [7, 23, 24, 25, 26, 27, 28, 29, 30, 31, 32, 33, 34, 35, 36, 37, 38] [7] [.bool] (.drawS (.tk 0 .p (.tk 1 .p (.sp 24 (.tk 2 .p (.tk 3 .p (.tk 4 .p (.tk 5 .ix (.tk 6 .p (.tk 8 .p (.tk 9 .p (.tk 10 .ix (.tk 11 .p (.ts 7 (.int .i64) (.ts 12 (.int .i64) (.go 13 (.cl [.bool]) (.tk 14 .p (.tk 15 .p (.tk 16 .p (.nil)))))))))))))))) (.tk 2 .p (.tk 3 .p (.tk 4 .p (.tk 5 .p (.tk 6 .p (.tk 8 .p (.tk 9 .p (.tk 10 .p (.tk 11 .p (.ts 7 .val (.ts 12 .val (.go 13 .p (.tk 14 .p (.tk 15 .p (.tk 16 .p (.nil))))))))))))))))))) []))) (.reg (.op .p (.op .p (.op .p (.nil)))))))))) (.seq (.reg (.op .p (.nil))) (.join [5, 40, 41] [5] [.int .i64] (.cond (.reg (.op .p (.op .p (.op .p (.nil))))) (.leaf)))))))) (.reg (.op .p (.op .p (.nil)))))))))) (.seq (.reg (.op .p (.op .p (.nil)))) (.leaf))))))
    (by kernel_rfl) Try.func21 (by kernel_rfl) (by kernel_rfl) (by kernel_rfl) (by kernel_rfl) h

set_option maxRecDepth 100000 in
theorem amphoralaw20_grown_vc (a0 : Int) (a1 : Int) (w : World) (R : Ending → World → Prop) (h :
  R (.returned (.int .i64 (if a0 < (if (1048576 : Int) < a1 then (1048576 : Int) else a1) then (if (1048576 : Int) < a1 then (1048576 : Int) else a1) else a0))) w) : Calls Try.prog 23 #[(.int .i64 a0), (.int .i64 a1)] w R :=
  calls_of_ev (args := [(.int .i64 a0), (.int .i64 a1)])
    (tc := .seq (.reg (.op .p (.nil))) (.seq (.reg (.op .p (.op .p (.op .p (.op .p (.op .p (.nil))))))) (.leaf)))
    (by kernel_rfl) Try.func23 (by kernel_rfl) (by kernel_rfl) (by kernel_rfl) (by kernel_rfl) h

end Go.Proofs.Ytdcgapabphjgbaa
