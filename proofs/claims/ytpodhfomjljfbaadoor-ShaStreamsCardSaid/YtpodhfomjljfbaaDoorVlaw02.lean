/- Verification conditions of functions, printed by the session's own program vc.py: out of each, Calls (conditions: none). -/
import Derived.Test.YtpodhfomjljfbaaDoorRows
import Derived.Test.YtpodhfomjljfbaaDoorSxRun
namespace Go.Proofs.YtpodhfomjljfbaaDoor
open Go Go.Proofs.YtpodhfomjljfbaaDoor.Sx

set_option maxRecDepth 100000 in
theorem amphoralaw02_alive_vc  (w : World) (R : Ending → World → Prop) (h :
  ∃ (t2a : Option Addr) (t2n : Nat) (t2c : Nat) (w1 : World), (Instr.buildSlice 22 1 #[(0, (.int .u8 97))]).run Tryd.prog w = .ok (.slice t2a t2n t2c) w1 ∧
  (∃ (t3a : Option Addr) (t3n : Nat) (t3c : Nat) (w2 : World), (convert 22 22 (.slice t2a t2n t2c)).run Tryd.prog w1 = .ok (.slice t3a t3n t3c) w2 ∧
    (∃ (t4a : Option Addr) (t4n : Nat) (t4c : Nat) (w3 : World), (Instr.buildSlice 22 2 #[(0, (.int .u8 98)), (1, (.int .u8 99))]).run Tryd.prog w2 = .ok (.slice t4a t4n t4c) w3 ∧
      (∃ (t5a : Option Addr) (t5n : Nat) (t5c : Nat) (w4 : World), (convert 22 22 (.slice t4a t4n t4c)).run Tryd.prog w3 = .ok (.slice t5a t5n t5c) w4 ∧
        (∃ (t6a : Option Addr) (t6n : Nat) (t6c : Nat) (w5 : World), (Instr.buildSlice 31 2 #[(0, (.slice t3a t3n t3c)), (1, (.slice t5a t5n t5c))]).run Tryd.prog w4 = .ok (.slice t6a t6n t6c) w5 ∧
          (Calls Tryd.prog 13 #[(.slice t6a t6n t6c)] w5 fun (e7 : Ending) (w6 : World) => ∃ (t7 : Array Value), e7 = .returned (.agg t7) ∧
            (∃ (g1 : Nat) (w7 : World), (Instr.alloc 27 true (.tuple #[])).run Tryd.prog w6 = .ok (.pointer (some ⟨g1, 0, none⟩)) w7 ∧
              (∃ w8 : World, (Instr.storeAt 27 (.pointer (some ⟨g1, 0, none⟩)) (.agg t7)).run Tryd.prog w7 = .ok () w8 ∧
                (∃ (t9 : Int), (Instr.loadAt 5 (.pointer (some ⟨g1, 0, none⟩))).run Tryd.prog w8 = .ok (.int .u8 t9) w8 ∧
                  (((t9 == (186 : Int)) = true →
                      (∃ (t13 : Int), (Instr.loadAt 5 (.pointer (some ⟨g1, 1, none⟩))).run Tryd.prog w8 = .ok (.int .u8 t13) w8 ∧
                        (((t13 == (120 : Int)) = true →
                            (∃ (t18 : Int), (Instr.loadAt 5 (.pointer (some ⟨g1, 2, none⟩))).run Tryd.prog w8 = .ok (.int .u8 t18) w8 ∧
                              (((t18 == (22 : Int)) = true →
                                  (∃ (t23 : Int), (Instr.loadAt 5 (.pointer (some ⟨g1, 3, none⟩))).run Tryd.prog w8 = .ok (.int .u8 t23) w8 ∧
                                    (((t23 == (191 : Int)) = true →
                                        (∃ (t28 : Int), (Instr.loadAt 5 (.pointer (some ⟨g1, 31, none⟩))).run Tryd.prog w8 = .ok (.int .u8 t28) w8 ∧
                                          (R (.returned (.bool (t28 == (173 : Int)))) w8))) ∧
                                      ((t23 == (191 : Int)) = false →
                                        (R (.returned (.bool false)) w8))))) ∧
                                ((t18 == (22 : Int)) = false →
                                  (R (.returned (.bool false)) w8))))) ∧
                          ((t13 == (120 : Int)) = false →
                            (R (.returned (.bool false)) w8))))) ∧
                    ((t9 == (186 : Int)) = false →
                      (R (.returned (.bool false)) w8)))))))))))) : Calls Tryd.prog 9 #[] w R :=
  calls_of_ev (args := [])
    (tc := .seq (.reg (.op .p (.nil))) (.seq (.reg (.op (.r (.slice)) (.op (.r (.slice)) (.op (.r (.slice)) (.op (.r (.slice)) (.op (.r (.slice)) (.op (.cl [.agg]) (.op .bx (.op .u (.nil)))))))))) (.seq (.reg (.op .p (.op (.ld (.int .u8)) (.op .p (.op .p (.sp 11 (.op .p (.op (.ld (.int .u8)) (.op .p (.op .p (.op .p (.sp 16 (.op .p (.op (.ld (.int .u8)) (.op .p (.op .p (.op .p (.sp 21 (.op .p (.op (.ld (.int .u8)) (.op .p (.op .p (.op .p (.sp 26 (.op .p (.op (.ld (.int .u8)) (.op .p (.op .p (.op .p (.nil)))))) (.op .p (.op .p (.op .p (.op .p (.op .p (.nil)))))))))))) (.op .p (.op .p (.op .p (.op .p (.op .p (.op .p (.op .p (.op .p (.op .p (.op .p (.nil))))))))))))))))) (.op .p (.op .p (.op .p (.op .p (.op .p (.op .p (.op .p (.op .p (.op .p (.op .p (.op .p (.op .p (.op .p (.op .p (.op .p (.nil)))))))))))))))))))))) (.op .p (.op .p (.op .p (.op .p (.op .p (.op .p (.op .p (.op .p (.op .p (.op .p (.op .p (.op .p (.op .p (.op .p (.op .p (.op .p (.op .p (.op .p (.op .p (.op .p (.nil))))))))))))))))))))))))))) (.leaf))))
    (by kernel_rfl) Tryd.func9 (by kernel_rfl) (by kernel_rfl) (by kernel_rfl) (by kernel_rfl) h

set_option maxRecDepth 100000 in
theorem amphoralaw02_large_vc (a0a : Option Addr) (a0n : Nat) (a0c : Nat) (w : World) (R : Ending → World → Prop) (h :
  Calls Tryd.prog 18 #[(.slice a0a a0n a0c), (.int .i64 1048576)] w fun (e4 : Ending) (w1 : World) => ∃ (t4 : Int), e4 = .returned (.int .i64 t4) ∧
  (R (.returned (.bool (decide (t4 > (65536 : Int))))) w1)) : Calls Tryd.prog 11 #[(.slice a0a a0n a0c)] w R :=
  calls_of_ev (args := [(.slice a0a a0n a0c)])
    (tc := .seq (.reg (.op .p (.nil))) (.seq (.reg (.op .p (.op (.cl [.int .i64]) (.op .p (.op .p (.nil)))))) (.leaf)))
    (by kernel_rfl) Tryd.func11 (by kernel_rfl) (by kernel_rfl) (by kernel_rfl) (by kernel_rfl) h

set_option maxRecDepth 100000 in
theorem amphoralaw02_ShaEquals_vc (a0a : Option Addr) (a0n : Nat) (a0c : Nat) (a1a : Option Addr) (a1n : Nat) (a1c : Nat) (w : World) (R : Ending → World → Prop) (h :
  Calls Tryd.prog 9 #[] w fun (e5 : Ending) (w1 : World) => ∃ (t5 : Bool), e5 = .returned (.bool t5) ∧
  (((!t5) = true →
      (R (.returned (.bool false)) w1)) ∧
    ((!t5) = false →
      (∃ S : World → Prop, S w1.drew ∧
        (∃ (t11 : ByteArray), (∀ w' : World, S w' → (convert 22 9 (.slice a0a a0n a0c)).run Tryd.prog w' = .ok (.string t11) w') ∧
          (∃ (t13 : ByteArray), (∀ w' : World, S w' → (convert 22 9 (.slice a1a a1n a1c)).run Tryd.prog w' = .ok (.string t13) w') ∧
            (Calls Tryd.prog 10 #[(.slice a0a a0n a0c), (.slice a1a a1n a1c)] w1.drew fun (e9 : Ending) (w2 : World) => ∃ (t9 : Bool), e9 = .returned (.bool t9) ∧
              (∃ S_1 : World → Prop, (∀ w' : World, S_1 w' → S w') ∧ S_1 w2 ∧
                (((t9 == (t11.toList == t13.toList)) = true →
                    (Calls Tryd.prog 10 #[(.slice a0a a0n a0c), (.slice a0a a0n a0c)] w2 fun (e19 : Ending) (w3 : World) => ∃ (t19 : Bool), e19 = .returned (.bool t19) ∧
                      (∃ S_2 : World → Prop, (∀ w' : World, S_2 w' → S_1 w') ∧ S_2 w3 ∧
                        (R (.returned (.bool t19)) w3)))) ∧
                  ((t9 == (t11.toList == t13.toList)) = false →
                    (S_1 w2 ∧
                      (R (.returned (.bool false)) w2)))))))))))) : Calls Tryd.prog 3 #[(.slice a0a a0n a0c), (.slice a1a a1n a1c)] w R :=
  calls_of_ev (args := [(.slice a0a a0n a0c), (.slice a1a a1n a1c)])
    (tc := .seq (.reg (.op .p (.nil))) (.seq (.seq (.reg (.op (.cl [.bool]) (.op .p (.nil)))) (.cond (.seq (.reg (.op .p (.nil))) (.leaf)) (.leaf))) (.seq (.drawS (.tk 0 .p (.tk 1 .p (.tk 3 .p (.tk 5 .p (.ts 4 (.str) (.ts 6 (.str) (.tk 7 .p (.go 2 (.cl [.bool]) (.tk 8 .p (.tk 9 .p (.sp 16 (.tk 10 .p (.tk 11 .p (.go 12 (.cl [.bool]) (.tk 13 .p (.tk 14 .p (.nil)))))) (.tk 10 .p (.tk 11 .p (.go 12 .p (.tk 13 .p (.tk 14 .p (.nil))))))))))))))))) []) (.leaf))))
    (by kernel_rfl) Tryd.func3 (by kernel_rfl) (by kernel_rfl) (by kernel_rfl) (by kernel_rfl) h

set_option maxRecDepth 100000 in
theorem amphoralaw02_ShaSums_vc (a0a : Option Addr) (a0n : Nat) (a0c : Nat) (a1a : Option Addr) (a1n : Nat) (a1c : Nat) (a2a : Option Addr) (a2n : Nat) (a2c : Nat) (w : World) (R : Ending → World → Prop) (h :
  Calls Tryd.prog 9 #[] w fun (e11 : Ending) (w1 : World) => ∃ (t11 : Bool), e11 = .returned (.bool t11) ∧
  (((!t11) = true →
      (R (.returned (.bool false)) w1)) ∧
    ((!t11) = false →
      (∃ (t16a : Option Addr) (t16n : Nat) (t16c : Nat) (w2 : World), (Instr.buildSlice 31 3 #[(0, (.slice a0a a0n a0c)), (1, (.slice a1a a1n a1c)), (2, (.slice a2a a2n a2c))]).run Tryd.prog w1 = .ok (.slice t16a t16n t16c) w2 ∧
        (Calls Tryd.prog 11 #[(.slice t16a t16n t16c)] w2 fun (e17 : Ending) (w3 : World) => ∃ (t17 : Bool), e17 = .returned (.bool t17) ∧
          ((t17 = true →
              (R (.returned (.bool true)) w3)) ∧
            (t17 = false →
              (Calls Tryd.prog 12 #[(.slice a0a a0n a0c)] w3 fun (e19 : Ending) (w4 : World) => ∃ (t19a : Option Addr) (t19n : Nat) (t19c : Nat), e19 = .returned (.slice t19a t19n t19c) ∧
                (Calls Tryd.prog 12 #[(.slice a1a a1n a1c)] w4 fun (e21 : Ending) (w5 : World) => ∃ (t21a : Option Addr) (t21n : Nat) (t21c : Nat), e21 = .returned (.slice t21a t21n t21c) ∧
                  (Calls Tryd.prog 12 #[(.slice a2a a2n a2c)] w5 fun (e23 : Ending) (w6 : World) => ∃ (t23a : Option Addr) (t23n : Nat) (t23c : Nat), e23 = .returned (.slice t23a t23n t23c) ∧
                    (∃ J : Bool → World → Prop, (∃ (t26a : Option Addr) (t26n : Nat) (t26c : Nat) (w7 : World), (Instr.buildSlice 31 2 #[(0, (.slice t21a t21n t21c)), (1, (.slice t23a t23n t23c))]).run Tryd.prog w6 = .ok (.slice t26a t26n t26c) w7 ∧
                        (Calls Tryd.prog 13 #[(.slice t26a t26n t26c)] w7 fun (e27 : Ending) (w8 : World) => ∃ (t27 : Array Value), e27 = .returned (.agg t27) ∧
                          (∃ (t30a : Option Addr) (t30n : Nat) (t30c : Nat) (w9 : World), (Instr.buildSlice 31 2 #[(0, (.slice a1a a1n a1c)), (1, (.slice a2a a2n a2c))]).run Tryd.prog w8 = .ok (.slice t30a t30n t30c) w9 ∧
                            (Calls Tryd.prog 14 #[(.slice t30a t30n t30c)] w9 fun (e31 : Ending) (w10 : World) => ∃ (t31 : Array Value), e31 = .returned (.agg t31) ∧
                              (∃ (t32 : Bool), (eqlS .eql 27 (.tmp 27) (.tmp 31) (.agg t27) (.agg t31)).run Tryd.prog w10 = .ok (.bool t32) w10 ∧
                                ((t32 = true →
                                    (∃ (t37a : Option Addr) (t37n : Nat) (t37c : Nat) (w11 : World), (Instr.buildSlice 31 2 #[(0, (.slice t21a t21n t21c)), (1, (.slice t23a t23n t23c))]).run Tryd.prog w10 = .ok (.slice t37a t37n t37c) w11 ∧
                                      (Calls Tryd.prog 15 #[(.slice t19a t19n t19c), (.slice t37a t37n t37c)] w11 fun (e38 : Ending) (w12 : World) => ∃ (t38 : Array Value), e38 = .returned (.agg t38) ∧
                                        (∃ (t42a : Option Addr) (t42n : Nat) (t42c : Nat) (w13 : World), (Instr.buildSlice 31 2 #[(0, (.slice a1a a1n a1c)), (1, (.slice a2a a2n a2c))]).run Tryd.prog w12 = .ok (.slice t42a t42n t42c) w13 ∧
                                          (Calls Tryd.prog 16 #[(.slice a0a a0n a0c), (.slice t42a t42n t42c)] w13 fun (e43 : Ending) (w14 : World) => ∃ (t43 : Array Value), e43 = .returned (.agg t43) ∧
                                            (∃ (t44 : Bool), (eqlS .eql 27 (.tmp 38) (.tmp 43) (.agg t38) (.agg t43)).run Tryd.prog w14 = .ok (.bool t44) w14 ∧
                                              ((t44 = true →
                                                  (Calls Tryd.prog 13 #[(.slice none 0 0)] w14 fun (e47 : Ending) (w15 : World) => ∃ (t47 : Array Value), e47 = .returned (.agg t47) ∧
                                                    (Calls Tryd.prog 14 #[(.slice none 0 0)] w15 fun (e48 : Ending) (w16 : World) => ∃ (t48 : Array Value), e48 = .returned (.agg t48) ∧
                                                      (∃ (t49 : Bool), (eqlS .eql 27 (.tmp 47) (.tmp 48) (.agg t47) (.agg t48)).run Tryd.prog w16 = .ok (.bool t49) w16 ∧
                                                        (J t49 w16))))) ∧
                                                (t44 = false →
                                                  (J false w14))))))))) ∧
                                  (t32 = false →
                                    (J false w10)))))))) ∧
                      (∀ (x10 : Bool), ∀ w17 : World, J x10 w17 →
                        ((x10 = true →
                            (Calls Tryd.prog 17 #[(.slice t19a t19n t19c), (.slice a0a a0n a0c)] w17 fun (e55 : Ending) (w18 : World) => ∃ (t55 : Bool), e55 = .returned (.bool t55) ∧
                              ((t55 = true →
                                  (Calls Tryd.prog 17 #[(.slice t21a t21n t21c), (.slice a1a a1n a1c)] w18 fun (e60 : Ending) (w19 : World) => ∃ (t60 : Bool), e60 = .returned (.bool t60) ∧
                                    ((t60 = true →
                                        (Calls Tryd.prog 17 #[(.slice t23a t23n t23c), (.slice a2a a2n a2c)] w19 fun (e65 : Ending) (w20 : World) => ∃ (t65 : Bool), e65 = .returned (.bool t65) ∧
                                          (R (.returned (.bool t65)) w20))) ∧
                                      (t60 = false →
                                        (R (.returned (.bool false)) w19))))) ∧
                                (t55 = false →
                                  (R (.returned (.bool false)) w18))))) ∧
                          (x10 = false →
                            (R (.returned (.bool false)) w17))))))))))))))) : Calls Tryd.prog 4 #[(.slice a0a a0n a0c), (.slice a1a a1n a1c), (.slice a2a a2n a2c)] w R :=
  calls_of_ev (args := [(.slice a0a a0n a0c), (.slice a1a a1n a1c), (.slice a2a a2n a2c)])
    (tc := .seq (.reg (.op .p (.nil))) (.seq (.seq (.reg (.op (.cl [.bool]) (.op .p (.nil)))) (.cond (.seq (.reg (.op .p (.nil))) (.leaf)) (.leaf))) (.seq (.seq (.reg (.op .p (.op .p (.op .p (.op (.r (.slice)) (.op (.cl [.bool]) (.nil))))))) (.cond (.seq (.reg (.op .p (.nil))) (.leaf)) (.leaf))) (.seq (.reg (.op .p (.op (.cl [.slice]) (.op .p (.op (.cl [.slice]) (.op .p (.op (.cl [.slice]) (.op .p (.op .p (.op .p (.nil))))))))))) (.seq (.join [10, 24, 25, 26, 27, 28, 29, 30, 31, 32, 33, 34, 35, 36, 37, 38, 39, 40, 41, 42, 43, 44, 45, 46, 47, 48, 49, 50] [10] [.bool] (.reg (.op .p (.op .p (.op (.r (.slice)) (.op (.cl [.agg]) (.op .p (.op .p (.op (.r (.slice)) (.op (.cl [.agg]) (.op (.ld (.bool)) (.op .p (.sp 33 (.op .p (.op .p (.op .p (.op (.r (.slice)) (.op (.cl [.agg]) (.op .p (.op .p (.op .p (.op (.r (.slice)) (.op (.cl [.agg]) (.op (.ld (.bool)) (.op .p (.op .p (.sp 46 (.op (.cl [.agg]) (.op (.cl [.agg]) (.op (.ld (.bool)) (.op .p (.op .p (.nil)))))) (.op .p (.op .p (.op .p (.op .p (.op .p (.nil)))))))))))))))))))) (.op .p (.op .p (.op .p (.op .p (.op .p (.op .p (.op .p (.op .p (.op .p (.op .p (.op .p (.op .p (.op .p (.op .p (.op .p (.op .p (.op .p (.op .p (.nil)))))))))))))))))))))))))))))))) (.seq (.reg (.op .p (.op .p (.sp 52 (.op .p (.op .p (.op (.cl [.bool]) (.op .p (.op .p (.sp 57 (.op .p (.op .p (.op (.cl [.bool]) (.op .p (.op .p (.sp 62 (.op .p (.op .p (.op (.cl [.bool]) (.op .p (.op .p (.nil)))))) (.op .p (.op .p (.op .p (.op .p (.op .p (.nil)))))))))))) (.op .p (.op .p (.op .p (.op .p (.op .p (.op .p (.op .p (.op .p (.op .p (.op .p (.nil))))))))))))))))) (.op .p (.op .p (.op .p (.op .p (.op .p (.op .p (.op .p (.op .p (.op .p (.op .p (.op .p (.op .p (.op .p (.op .p (.op .p (.nil)))))))))))))))))))) (.leaf)))))))
    (by kernel_rfl) Tryd.func4 (by kernel_rfl) (by kernel_rfl) (by kernel_rfl) (by kernel_rfl) h

set_option maxRecDepth 100000 in
theorem amphoralaw02_ShaStreams_vc (a0a : Option Addr) (a0n : Nat) (a0c : Nat) (a1a : Option Addr) (a1n : Nat) (a1c : Nat) (a2 : Int) (w : World) (R : Ending → World → Prop) (h :
  Calls Tryd.prog 9 #[] w fun (e14 : Ending) (w1 : World) => ∃ (t14 : Bool), e14 = .returned (.bool t14) ∧
  (((!t14) = true →
      (R (.returned (.bool false)) w1)) ∧
    ((!t14) = false →
      (∃ J : Bool → World → Prop, (∃ (t17a : Option Addr) (t17n : Nat) (t17c : Nat) (w2 : World), (Instr.buildSlice 31 1 #[(0, (.slice a0a a0n a0c))]).run Tryd.prog w1 = .ok (.slice t17a t17n t17c) w2 ∧
          (Calls Tryd.prog 11 #[(.slice t17a t17n t17c)] w2 fun (e18 : Ending) (w3 : World) => ∃ (t18 : Bool), e18 = .returned (.bool t18) ∧
            (((t18 || (decide (((a1n : Nat) : Int) > (60 : Int)))) = true →
                (J true w3)) ∧
              ((t18 || (decide (((a1n : Nat) : Int) > (60 : Int)))) = false →
                (Calls Tryd.prog 18 #[(.slice a1a a1n a1c), (.int .i64 1048576)] w3 fun (e26 : Ending) (w4 : World) => ∃ (t26 : Int), e26 = .returned (.int .i64 t26) ∧
                  (J (decide (t26 > (16384 : Int))) w4)))))) ∧
        (∀ (x28 : Bool), ∀ w5 : World, J x28 w5 →
          ((x28 = true →
              (R (.returned (.bool true)) w5)) ∧
            (x28 = false →
              (Calls Tryd.prog 12 #[(.slice a0a a0n a0c)] w5 fun (e30 : Ending) (w6 : World) => ∃ (t30a : Option Addr) (t30n : Nat) (t30c : Nat), e30 = .returned (.slice t30a t30n t30c) ∧
                (Calls Tryd.prog 19 #[] w6 fun (e31 : Ending) (w7 : World) => ∃ (t31b : Nat) (t31o : Nat), e31 = .returned (.pointer (some ⟨t31b, t31o, none⟩)) ∧
                  (Calls Tryd.prog 20 #[(.slice t30a t30n t30c)] w7 fun (e33 : Ending) (w8 : World) => ∃ (t33b : Nat) (t33o : Nat), e33 = .returned (.pointer (some ⟨t33b, t33o, none⟩)) ∧
                    (Calls Tryd.prog 21 #[(.slice t30a t30n t30c)] w8 fun (e35 : Ending) (w9 : World) => e35 = .returned (.tuple #[]) ∧
                      (∃ (t36a : Option Addr) (t36n : Nat) (t36c : Nat) (w10 : World), (Instr.buildSlice 22 0 #[]).run Tryd.prog w9 = .ok (.slice t36a t36n t36c) w10 ∧
                        (∃ (I : Option Addr → Nat → Nat → Int → World → Prop) (μ : Option Addr → Nat → Nat → Int → World → Nat), I t36a t36n t36c 0 w10 ∧
                          (∀ (x10a : Option Addr) (x10n : Nat) (x10c : Nat) (x39 : Int), ∀ w11 : World, I x10a x10n x10c x39 w11 →
                            (((decide (x39 < ((a1n : Nat) : Int))) = true →
                                (∃ (t42b t42o : Nat), a1a = some ⟨t42b, t42o, none⟩ ∧ 0 ≤ x39 ∧ x39 < ((a1n : Nat) : Int) ∧
                                  (∃ (t43a : Option Addr) (t43n : Nat) (t43c : Nat), (Instr.loadAt 22 (.pointer (some ⟨t42b, t42o + Int.toNat x39 * 1, none⟩))).run Tryd.prog w11 = .ok (.slice t43a t43n t43c) w11 ∧
                                    (Calls Tryd.prog 12 #[(.slice t43a t43n t43c)] w11 fun (e45 : Ending) (w12 : World) => ∃ (t45a : Option Addr) (t45n : Nat) (t45c : Nat), e45 = .returned (.slice t45a t45n t45c) ∧
                                      (∃ J_1 : World → Prop, (((x39 == a2) = true →
                                            (Calls Tryd.prog 22 #[(.pointer (some ⟨t31b, t31o, none⟩)), (.slice none 0 0)] w12 fun (e50 : Ending) (w13 : World) => e50 = .returned (.tuple #[]) ∧
                                              (0 ≤ (IntKind.wrap .i64 (Int.tdiv ((t45n : Nat) : Int) (2 : Int))) ∧ (IntKind.wrap .i64 (Int.tdiv ((t45n : Nat) : Int) (2 : Int))) ≤ ((t45c : Nat) : Int) ∧
                                                (0 ≤ (IntKind.wrap .i64 (Int.tdiv ((t45n : Nat) : Int) (2 : Int))) ∧ (IntKind.wrap .i64 (Int.tdiv ((t45n : Nat) : Int) (2 : Int))) ≤ ((t45n : Nat) : Int) ∧ ((t45n : Nat) : Int) ≤ ((t45c : Nat) : Int) ∧ ∀ t61a : Option Addr, SubA 1 t45a (Int.toNat (IntKind.wrap .i64 (Int.tdiv ((t45n : Nat) : Int) (2 : Int)))) t45c t61a →
                                                  (∃ (t62a : Option Addr) (t62n : Nat) (t62c : Nat) (w14 : World), (Instr.buildSlice 31 2 #[(0, (.slice t45a (Int.toNat (IntKind.wrap .i64 (Int.tdiv ((t45n : Nat) : Int) (2 : Int)))) t45c)), (1, (.slice t61a ((t45n) - (Int.toNat (IntKind.wrap .i64 (Int.tdiv ((t45n : Nat) : Int) (2 : Int))))) (t45c - (Int.toNat (IntKind.wrap .i64 (Int.tdiv ((t45n : Nat) : Int) (2 : Int)))))))]).run Tryd.prog w13.drew = .ok (.slice t62a t62n t62c) w14 ∧
                                                    (Calls Tryd.prog 23 #[(.pointer (some ⟨t33b, t33o, none⟩)), (.slice t62a t62n t62c)] w14 fun (e63 : Ending) (w15 : World) => e63 = .returned (.tuple #[]) ∧
                                                      (J_1  w15))))))) ∧
                                          ((x39 == a2) = false →
                                            (∃ (t66a : Option Addr) (t66n : Nat) (t66c : Nat) (w16 : World), (Instr.buildSlice 31 1 #[(0, (.slice t45a t45n t45c))]).run Tryd.prog w12 = .ok (.slice t66a t66n t66c) w16 ∧
                                              (Calls Tryd.prog 23 #[(.pointer (some ⟨t33b, t33o, none⟩)), (.slice t66a t66n t66c)] w16 fun (e67 : Ending) (w17 : World) => e67 = .returned (.tuple #[]) ∧
                                                (J_1  w17))))) ∧
                                        (∀ w18 : World, J_1  w18 →
                                          (∃ (t70a : Option Addr) (t70n : Nat) (t70c : Nat) (w19 : World), (Instr.buildSlice 31 1 #[(0, (.slice t45a t45n t45c))]).run Tryd.prog w18 = .ok (.slice t70a t70n t70c) w19 ∧
                                            (Calls Tryd.prog 22 #[(.pointer (some ⟨t31b, t31o, none⟩)), (.slice t70a t70n t70c)] w19 fun (e71 : Ending) (w20 : World) => e71 = .returned (.tuple #[]) ∧
                                              (Calls Tryd.prog 17 #[(.slice t45a t45n t45c), (.slice t43a t43n t43c)] w20 fun (e74 : Ending) (w21 : World) => ∃ (t74 : Bool), e74 = .returned (.bool t74) ∧
                                                (((!t74) = true →
                                                    (R (.returned (.bool false)) w21)) ∧
                                                  ((!t74) = false →
                                                    (Calls Tryd.prog 21 #[(.slice t45a t45n t45c)] w21 fun (e77 : Ending) (w22 : World) => e77 = .returned (.tuple #[]) ∧
                                                      (∃ (t80a : Option Addr) (t80n : Nat) (t80c : Nat) (w23 : World), (Builtin.append_ #[22, 22] 22 #[(.slice x10a x10n x10c), (.slice t43a t43n t43c)]).run Tryd.prog w22 = .ok (.slice t80a t80n t80c) w23 ∧
                                                        (∃ J_2 : Bool → World → Prop, (Calls Tryd.prog 24 #[(.pointer (some ⟨t31b, t31o, none⟩))] w23 fun (e82 : Ending) (w24 : World) => ∃ (t82 : Int), e82 = .returned (.int .i64 t82) ∧
                                                            (((t82 != ((t80n : Nat) : Int)) = true →
                                                                (J_2 true w24)) ∧
                                                              ((t82 != ((t80n : Nat) : Int)) = false →
                                                                (Calls Tryd.prog 25 #[(.pointer (some ⟨t33b, t33o, none⟩))] w24 fun (e88 : Ending) (w25 : World) => ∃ (t88 : Int), e88 = .returned (.int .i64 t88) ∧
                                                                  (((t88 != ((t80n : Nat) : Int)) = true →
                                                                      (J_2 true w25)) ∧
                                                                    ((t88 != ((t80n : Nat) : Int)) = false →
                                                                      ((((Int.tmod x39 (7 : Int)) == (0 : Int)) = true →
                                                                          (Calls Tryd.prog 26 #[(.pointer (some ⟨t31b, t31o, none⟩))] w25 fun (e99 : Ending) (w26 : World) => ∃ (t99 : Array Value), e99 = .returned (.agg t99) ∧
                                                                            (∃ (t101a : Option Addr) (t101n : Nat) (t101c : Nat) (w27 : World), (Instr.buildSlice 31 1 #[(0, (.slice t80a t80n t80c))]).run Tryd.prog w26 = .ok (.slice t101a t101n t101c) w27 ∧
                                                                              (Calls Tryd.prog 13 #[(.slice t101a t101n t101c)] w27 fun (e102 : Ending) (w28 : World) => ∃ (t102 : Array Value), e102 = .returned (.agg t102) ∧
                                                                                (∃ (t103 : Bool), (eqlS .neq 27 (.tmp 99) (.tmp 102) (.agg t99) (.agg t102)).run Tryd.prog w28 = .ok (.bool t103) w28 ∧
                                                                                ((t103 = true →
                                                                                (J_2 true w28)) ∧
                                                                                (t103 = false →
                                                                                (Calls Tryd.prog 27 #[(.pointer (some ⟨t33b, t33o, none⟩))] w28 fun (e106 : Ending) (w29 : World) => ∃ (t106 : Array Value), e106 = .returned (.agg t106) ∧
                                                                                (∃ (t109a : Option Addr) (t109n : Nat) (t109c : Nat) (w30 : World), (Instr.buildSlice 31 1 #[(0, (.slice t80a t80n t80c))]).run Tryd.prog w29 = .ok (.slice t109a t109n t109c) w30 ∧
                                                                                (Calls Tryd.prog 15 #[(.slice a0a a0n a0c), (.slice t109a t109n t109c)] w30 fun (e110 : Ending) (w31 : World) => ∃ (t110 : Array Value), e110 = .returned (.agg t110) ∧
                                                                                (∃ (t111 : Bool), (eqlS .neq 27 (.tmp 106) (.tmp 110) (.agg t106) (.agg t110)).run Tryd.prog w31 = .ok (.bool t111) w31 ∧
                                                                                (J_2 t111 w31)))))))))))) ∧
                                                                        (((Int.tmod x39 (7 : Int)) == (0 : Int)) = false →
                                                                          (J_2 false w25))))))))) ∧
                                                          (∀ (x114 : Bool), ∀ w32 : World, J_2 x114 w32 →
                                                            ((x114 = true →
                                                                (R (.returned (.bool false)) w32)) ∧
                                                              (x114 = false →
                                                                (I t80a t80n t80c (IntKind.wrap .i64 (x39 + (1 : Int))) w32 ∧ μ t80a t80n t80c (IntKind.wrap .i64 (x39 + (1 : Int))) w32 < μ x10a x10n x10c x39 w11)))))))))))))))))) ∧
                              ((decide (x39 < ((a1n : Nat) : Int))) = false →
                                (Calls Tryd.prog 26 #[(.pointer (some ⟨t31b, t31o, none⟩))] w11 fun (e117 : Ending) (w33 : World) => ∃ (t117 : Array Value), e117 = .returned (.agg t117) ∧
                                  (∃ (t119a : Option Addr) (t119n : Nat) (t119c : Nat) (w34 : World), (Instr.buildSlice 31 1 #[(0, (.slice x10a x10n x10c))]).run Tryd.prog w33 = .ok (.slice t119a t119n t119c) w34 ∧
                                    (Calls Tryd.prog 14 #[(.slice t119a t119n t119c)] w34 fun (e120 : Ending) (w35 : World) => ∃ (t120 : Array Value), e120 = .returned (.agg t120) ∧
                                      (∃ (t121 : Bool), (eqlS .eql 27 (.tmp 117) (.tmp 120) (.agg t117) (.agg t120)).run Tryd.prog w35 = .ok (.bool t121) w35 ∧
                                        ((t121 = true →
                                            (Calls Tryd.prog 27 #[(.pointer (some ⟨t33b, t33o, none⟩))] w35 fun (e124 : Ending) (w36 : World) => ∃ (t124 : Array Value), e124 = .returned (.agg t124) ∧
                                              (∃ (t127a : Option Addr) (t127n : Nat) (t127c : Nat) (w37 : World), (Instr.buildSlice 31 1 #[(0, (.slice x10a x10n x10c))]).run Tryd.prog w36 = .ok (.slice t127a t127n t127c) w37 ∧
                                                (Calls Tryd.prog 16 #[(.slice a0a a0n a0c), (.slice t127a t127n t127c)] w37 fun (e128 : Ending) (w38 : World) => ∃ (t128 : Array Value), e128 = .returned (.agg t128) ∧
                                                  (∃ (t129 : Bool), (eqlS .eql 27 (.tmp 124) (.tmp 128) (.agg t124) (.agg t128)).run Tryd.prog w38 = .ok (.bool t129) w38 ∧
                                                    ((t129 = true →
                                                        (Calls Tryd.prog 26 #[(.pointer (some ⟨t31b, t31o, none⟩))] w38 fun (e133 : Ending) (w39 : World) => ∃ (t133 : Array Value), e133 = .returned (.agg t133) ∧
                                                          (Calls Tryd.prog 13 #[(.slice a1a a1n a1c)] w39 fun (e135 : Ending) (w40 : World) => ∃ (t135 : Array Value), e135 = .returned (.agg t135) ∧
                                                            (∃ (t136 : Bool), (eqlS .eql 27 (.tmp 133) (.tmp 135) (.agg t133) (.agg t135)).run Tryd.prog w40 = .ok (.bool t136) w40 ∧
                                                              ((t136 = true →
                                                                  (Calls Tryd.prog 27 #[(.pointer (some ⟨t33b, t33o, none⟩))] w40 fun (e140 : Ending) (w41 : World) => ∃ (t140 : Array Value), e140 = .returned (.agg t140) ∧
                                                                    (Calls Tryd.prog 15 #[(.slice a0a a0n a0c), (.slice a1a a1n a1c)] w41 fun (e143 : Ending) (w42 : World) => ∃ (t143 : Array Value), e143 = .returned (.agg t143) ∧
                                                                      (∃ (t144 : Bool), (eqlS .eql 27 (.tmp 140) (.tmp 143) (.agg t140) (.agg t143)).run Tryd.prog w42 = .ok (.bool t144) w42 ∧
                                                                        (R (.returned (.bool t144)) w42))))) ∧
                                                                (t136 = false →
                                                                  (R (.returned (.bool false)) w40))))))) ∧
                                                      (t129 = false →
                                                        (R (.returned (.bool false)) w38)))))))) ∧
                                          (t121 = false →
                                            (R (.returned (.bool false)) w35))))))))))))))))))))))) : Calls Tryd.prog 5 #[(.slice a0a a0n a0c), (.slice a1a a1n a1c), (.int .i64 a2)] w R :=
  calls_of_ev (args := [(.slice a0a a0n a0c), (.slice a1a a1n a1c), (.int .i64 a2)])
    (tc := .seq (.reg (.op .p (.nil))) (.seq (.seq (.reg (.op (.cl [.bool]) (.op .p (.nil)))) (.cond (.seq (.reg (.op .p (.nil))) (.leaf)) (.leaf))) (.seq (.seq (.join [16, 17, 18, 19, 20, 21, 22, 23, 24, 25, 26, 27, 28] [28] [.bool] (.reg (.op .p (.op (.r (.slice)) (.op (.cl [.bool]) (.op .p (.ap 3 (.op .p (.sp 24 (.op .p (.op .p (.op .p (.op .p (.nil))))) (.op .p (.op (.cl [.int .i64]) (.op .p (.op .p (.nil)))))))))))))) (.cond (.seq (.reg (.op .p (.nil))) (.leaf)) (.leaf))) (.seq (.reg (.op .p (.op (.cl [.slice]) (.op .p (.nil))))) (.seq (.reg (.op (.cl [.ptr]) (.op .p (.op (.cl [.ptr]) (.op .p (.op .p (.nil))))))) (.seq (.reg (.op .p (.op (.cl []) (.nil)))) (.seq (.reg (.op (.r (.slice)) (.op .p (.nil)))) (.seq (.seq (.reg (.op .p (.op .p (.op .p (.nil))))) (.blk (.loop [6, 10, 11, 12, 13, 39, 40, 41, 42, 43, 44, 45, 46, 47, 48, 49, 50, 51, 52, 53, 54, 55, 56, 57, 58, 59, 60, 61, 62, 63, 64, 65, 66, 67, 68, 69, 70, 71, 72, 73, 74, 75, 76, 77, 78, 79, 80, 81, 82, 83, 84, 85, 86, 87, 88, 89, 90, 91, 92, 93, 94, 95, 96, 97, 98, 99, 100, 101, 102, 103, 104, 105, 106, 107, 108, 109, 110, 111, 112, 113, 114, 115] [10, 39] [.slice, .int .i64] (.seq (.reg (.op .p (.nil))) (.seq (.cond (.leaf) (.leaf)) (.seq (.blk (.seq (.reg (.op .p (.op .ix (.op (.ld (.slice)) (.op .p (.op .p (.nil))))))) (.seq (.reg (.op .p (.op (.cl [.slice]) (.op .p (.nil))))) (.seq (.seq (.reg (.op .p (.op .p (.op .p (.nil))))) (.join [49, 50, 51, 52, 53, 54, 55, 56, 57, 58, 59, 60, 61, 62, 63, 64, 65, 66, 67] [] [] (.cond (.seq (.reg (.op .p (.op (.cl []) (.nil)))) (.draw (.tk 0 .p (.tk 1 .p (.tk 2 .p (.tk 3 .p (.tk 4 .p (.tk 5 .sl (.tk 6 .p (.tk 7 .p (.tk 8 .p (.tk 9 .p (.tk 10 .sl (.go 11 (.r (.slice)) (.go 12 (.cl []) (.nil)))))))))))))) [0, 1, 2, 3, 4, 5, 6, 7, 8, 9, 10, 11, 12])) (.reg (.op .p (.op .p (.op (.r (.slice)) (.op (.cl []) (.nil))))))))) (.seq (.reg (.op .p (.op .p (.op (.r (.slice)) (.op (.cl []) (.nil)))))) (.seq (.seq (.reg (.op .p (.op .p (.op (.cl [.bool]) (.op .p (.nil)))))) (.cond (.seq (.reg (.op .p (.nil))) (.leaf)) (.leaf))) (.seq (.reg (.op .p (.op (.cl []) (.nil)))) (.seq (.reg (.op .p (.op .p (.op (.r (.slice)) (.op .p (.nil)))))) (.seq (.join [81, 82, 83, 84, 85, 86, 87, 88, 89, 90, 91, 92, 93, 94, 95, 96, 97, 98, 99, 100, 101, 102, 103, 104, 105, 106, 107, 108, 109, 110, 111, 112, 113, 114] [114] [.bool] (.reg (.op .p (.op (.cl [.int .i64]) (.op .p (.op .p (.op .p (.op .p (.sp 86 (.op .p (.op .p (.op .p (.op .p (.op .p (.op .p (.op .p (.op .p (.op .p (.op .p (.op .p (.op .p (.op .p (.op .p (.op .p (.op .p (.op .p (.op .p (.op .p (.op .p (.op .p (.op .p (.op .p (.op .p (.op .p (.op .p (.op .p (.op .p (.nil))))))))))))))))))))))))))))) (.op .p (.op (.cl [.int .i64]) (.op .p (.op .p (.op .p (.op .p (.op .p (.sp 93 (.op .p (.op .p (.op .p (.op .p (.op .p (.op .p (.op .p (.op .p (.op .p (.op .p (.op .p (.op .p (.op .p (.op .p (.op .p (.op .p (.op .p (.op .p (.op .p (.op .p (.op .p (.nil)))))))))))))))))))))) (.op .p (.op .p (.op .p (.op .p (.sp 97 (.op .p (.op (.cl [.agg]) (.op .p (.op (.r (.slice)) (.op (.cl [.agg]) (.op (.ld (.bool)) (.op .p (.sp 104 (.op .p (.op .p (.op .p (.op .p (.op .p (.op .p (.op .p (.op .p (.op .p (.op .p (.nil))))))))))) (.op .p (.op (.cl [.agg]) (.op .p (.op .p (.op (.r (.slice)) (.op (.cl [.agg]) (.op (.ld (.bool)) (.op .p (.op .p (.op .p (.nil))))))))))))))))))) (.op .p (.op .p (.op .p (.op .p (.op .p (.op .p (.op .p (.op .p (.op .p (.op .p (.op .p (.op .p (.op .p (.op .p (.op .p (.op .p (.op .p (.nil)))))))))))))))))))))))))))))))))))))))) (.cond (.seq (.reg (.op .p (.nil))) (.leaf)) (.leaf))))))))))) (.reg (.op .p (.op .p (.nil)))))))))) (.seq (.reg (.op .p (.op (.cl [.agg]) (.op .p (.op (.r (.slice)) (.op (.cl [.agg]) (.op (.ld (.bool)) (.op .p (.sp 122 (.op .p (.op (.cl [.agg]) (.op .p (.op .p (.op (.r (.slice)) (.op (.cl [.agg]) (.op (.ld (.bool)) (.op .p (.op .p (.sp 131 (.op .p (.op (.cl [.agg]) (.op .p (.op (.cl [.agg]) (.op (.ld (.bool)) (.op .p (.op .p (.sp 138 (.op .p (.op (.cl [.agg]) (.op .p (.op .p (.op (.cl [.agg]) (.op (.ld (.bool)) (.op .p (.op .p (.nil))))))))) (.op .p (.op .p (.op .p (.op .p (.op .p (.op .p (.op .p (.op .p (.nil))))))))))))))))) (.op .p (.op .p (.op .p (.op .p (.op .p (.op .p (.op .p (.op .p (.op .p (.op .p (.op .p (.op .p (.op .p (.op .p (.op .p (.nil)))))))))))))))))))))))))) (.op .p (.op .p (.op .p (.op .p (.op .p (.op .p (.op .p (.op .p (.op .p (.op .p (.op .p (.op .p (.op .p (.op .p (.op .p (.op .p (.op .p (.op .p (.op .p (.op .p (.op .p (.op .p (.op .p (.op .p (.nil)))))))))))))))))))))))))))))))))) (.leaf))))))))))
    (by kernel_rfl) Tryd.func5 (by kernel_rfl) (by kernel_rfl) (by kernel_rfl) (by kernel_rfl) h

set_option maxRecDepth 100000 in
theorem amphoralaw02_ShaDerives_vc (a0 : Array Value) (w : World) (R : Ending → World → Prop) (h :
  ∃ (g1 : Nat) (w1 : World), (Instr.box 43 (.agg a0)).run Tryd.prog w = .ok (.pointer (some ⟨g1, 0, none⟩)) w1 ∧
  (Calls Tryd.prog 9 #[] w1 fun (e10 : Ending) (w2 : World) => ∃ (t10 : Bool), e10 = .returned (.bool t10) ∧
    (((!t10) = true →
        (R (.returned (.bool false)) w2)) ∧
      ((!t10) = false →
        (∃ (t13a : Option Addr) (t13n : Nat) (t13c : Nat), (Instr.loadAt 22 (.pointer (some ⟨g1, 0, none⟩))).run Tryd.prog w2 = .ok (.slice t13a t13n t13c) w2 ∧
          (∃ (t15a : Option Addr) (t15n : Nat) (t15c : Nat), (Instr.loadAt 22 (.pointer (some ⟨g1, 1, none⟩))).run Tryd.prog w2 = .ok (.slice t15a t15n t15c) w2 ∧
            (∃ (t17a : Option Addr) (t17n : Nat) (t17c : Nat), (Instr.loadAt 22 (.pointer (some ⟨g1, 2, none⟩))).run Tryd.prog w2 = .ok (.slice t17a t17n t17c) w2 ∧
              (∃ (t18a : Option Addr) (t18n : Nat) (t18c : Nat) (w3 : World), (Instr.buildSlice 31 3 #[(0, (.slice t13a t13n t13c)), (1, (.slice t15a t15n t15c)), (2, (.slice t17a t17n t17c))]).run Tryd.prog w2 = .ok (.slice t18a t18n t18c) w3 ∧
                (Calls Tryd.prog 11 #[(.slice t18a t18n t18c)] w3 fun (e19 : Ending) (w4 : World) => ∃ (t19 : Bool), e19 = .returned (.bool t19) ∧
                  ((t19 = true →
                      (R (.returned (.bool true)) w4)) ∧
                    (t19 = false →
                      (∃ S : World → Prop, S w4.drew ∧
                        (∃ (t21a : Option Addr) (t21n : Nat) (t21c : Nat), (∀ w' : World, S w' → (Instr.loadAt 22 (.pointer (some ⟨g1, 0, none⟩))).run Tryd.prog w' = .ok (.slice t21a t21n t21c) w') ∧
                          (∃ (t24a : Option Addr) (t24n : Nat) (t24c : Nat), (∀ w' : World, S w' → (Instr.loadAt 22 (.pointer (some ⟨g1, 1, none⟩))).run Tryd.prog w' = .ok (.slice t24a t24n t24c) w') ∧
                            (∃ (t27a : Option Addr) (t27n : Nat) (t27c : Nat), (∀ w' : World, S w' → (Instr.loadAt 22 (.pointer (some ⟨g1, 2, none⟩))).run Tryd.prog w' = .ok (.slice t27a t27n t27c) w') ∧
                              (Calls Tryd.prog 12 #[(.slice t21a t21n t21c)] w4.drew fun (e22 : Ending) (w5 : World) => ∃ (t22a : Option Addr) (t22n : Nat) (t22c : Nat), e22 = .returned (.slice t22a t22n t22c) ∧
                                (∃ S_1 : World → Prop, (∀ w' : World, S_1 w' → S w') ∧ S_1 w5 ∧
                                  (Calls Tryd.prog 12 #[(.slice t24a t24n t24c)] w5 fun (e25 : Ending) (w6 : World) => ∃ (t25a : Option Addr) (t25n : Nat) (t25c : Nat), e25 = .returned (.slice t25a t25n t25c) ∧
                                    (∃ S_2 : World → Prop, (∀ w' : World, S_2 w' → S_1 w') ∧ S_2 w6 ∧
                                      (Calls Tryd.prog 12 #[(.slice t27a t27n t27c)] w6 fun (e28 : Ending) (w7 : World) => ∃ (t28a : Option Addr) (t28n : Nat) (t28c : Nat), e28 = .returned (.slice t28a t28n t28c) ∧
                                        (∃ S_3 : World → Prop, (∀ w' : World, S_3 w' → S_2 w') ∧ S_3 w7 ∧
                                          (∃ (t34 : Int), (Instr.loadAt 3 (.pointer (some ⟨g1, 3, none⟩))).run Tryd.prog w7 = .ok (.int .i64 t34) w7 ∧
                                            (Calls Tryd.prog 28 #[(.slice t22a t22n t22c), (.slice t25a t25n t25c), (.slice t28a t28n t28c), (.int .i64 t34)] w7 fun (e35 : Ending) (w8 : World) => ∃ (t35_0a : Option Addr) (t35_0n : Nat) (t35_0c : Nat) (t35_1 : Value), e35 = .returned (.tuple #[(.slice t35_0a t35_0n t35_0c), t35_1]) ∧
                                              (∃ (t40a : Option Addr) (t40n : Nat) (t40c : Nat), (Instr.loadAt 22 (.pointer (some ⟨g1, 0, none⟩))).run Tryd.prog w8 = .ok (.slice t40a t40n t40c) w8 ∧
                                                (∃ (t42a : Option Addr) (t42n : Nat) (t42c : Nat), (Instr.loadAt 22 (.pointer (some ⟨g1, 1, none⟩))).run Tryd.prog w8 = .ok (.slice t42a t42n t42c) w8 ∧
                                                  (∃ (t44a : Option Addr) (t44n : Nat) (t44c : Nat), (Instr.loadAt 22 (.pointer (some ⟨g1, 2, none⟩))).run Tryd.prog w8 = .ok (.slice t44a t44n t44c) w8 ∧
                                                    (∃ (t46 : Int), (Instr.loadAt 3 (.pointer (some ⟨g1, 3, none⟩))).run Tryd.prog w8 = .ok (.int .i64 t46) w8 ∧
                                                      (Calls Tryd.prog 29 #[(.slice t40a t40n t40c), (.slice t42a t42n t42c), (.slice t44a t44n t44c), (.int .i64 t46)] w8 fun (e47 : Ending) (w9 : World) => ∃ (t47_0a : Option Addr) (t47_0n : Nat) (t47_0c : Nat) (t47_1 : Int), e47 = .returned (.tuple #[(.slice t47_0a t47_0n t47_0c), (.int .i64 t47_1)]) ∧
                                                        (∃ (t51 : ByteArray), (convert 22 9 (.slice t35_0a t35_0n t35_0c)).run Tryd.prog w9 = .ok (.string t51) w9 ∧
                                                          (∃ (t53 : ByteArray), (convert 22 9 (.slice t47_0a t47_0n t47_0c)).run Tryd.prog w9 = .ok (.string t53) w9 ∧
                                                            (((t51.toList == t53.toList) = true →
                                                                (Calls Tryd.prog 30 #[t35_1] w9 fun (e57 : Ending) (w10 : World) => ∃ (t57 : Int), e57 = .returned (.int .i64 t57) ∧
                                                                  (((t57 == t47_1) = true →
                                                                      (∃ (t64a : Option Addr) (t64n : Nat) (t64c : Nat), (Instr.loadAt 22 (.pointer (some ⟨g1, 0, none⟩))).run Tryd.prog w10 = .ok (.slice t64a t64n t64c) w10 ∧
                                                                        (Calls Tryd.prog 17 #[(.slice t22a t22n t22c), (.slice t64a t64n t64c)] w10 fun (e65 : Ending) (w11 : World) => ∃ (t65 : Bool), e65 = .returned (.bool t65) ∧
                                                                          ((t65 = true →
                                                                              (∃ (t70a : Option Addr) (t70n : Nat) (t70c : Nat), (Instr.loadAt 22 (.pointer (some ⟨g1, 1, none⟩))).run Tryd.prog w11 = .ok (.slice t70a t70n t70c) w11 ∧
                                                                                (Calls Tryd.prog 17 #[(.slice t25a t25n t25c), (.slice t70a t70n t70c)] w11 fun (e71 : Ending) (w12 : World) => ∃ (t71 : Bool), e71 = .returned (.bool t71) ∧
                                                                                ((t71 = true →
                                                                                (∃ (t76a : Option Addr) (t76n : Nat) (t76c : Nat), (Instr.loadAt 22 (.pointer (some ⟨g1, 2, none⟩))).run Tryd.prog w12 = .ok (.slice t76a t76n t76c) w12 ∧
                                                                                (Calls Tryd.prog 17 #[(.slice t28a t28n t28c), (.slice t76a t76n t76c)] w12 fun (e77 : Ending) (w13 : World) => ∃ (t77 : Bool), e77 = .returned (.bool t77) ∧
                                                                                (R (.returned (.bool t77)) w13)))) ∧
                                                                                (t71 = false →
                                                                                (R (.returned (.bool false)) w12)))))) ∧
                                                                            (t65 = false →
                                                                              (R (.returned (.bool false)) w11)))))) ∧
                                                                    ((t57 == t47_1) = false →
                                                                      (R (.returned (.bool false)) w10))))) ∧
                                                              ((t51.toList == t53.toList) = false →
                                                                (R (.returned (.bool false)) w9))))))))))))))))))))))))))))))))) : Calls Tryd.prog 6 #[(.agg a0)] w R :=
  calls_of_ev (args := [(.agg a0)])
    (tc := .seq (.reg (.op .bx (.op .p (.nil)))) (.seq (.seq (.reg (.op (.cl [.bool]) (.op .p (.nil)))) (.cond (.seq (.reg (.op .p (.nil))) (.leaf)) (.leaf))) (.seq (.seq (.reg (.op .p (.op (.ld (.slice)) (.op .p (.op (.ld (.slice)) (.op .p (.op (.ld (.slice)) (.op (.r (.slice)) (.op (.cl [.bool]) (.nil)))))))))) (.cond (.seq (.reg (.op .p (.nil))) (.leaf)) (.leaf))) (.seq (.drawS (.tk 0 .p (.tk 3 .p (.tk 6 .p (.ts 1 (.slice) (.ts 4 (.slice) (.ts 7 (.slice) (.go 2 (.cl [.slice]) (.go 5 (.cl [.slice]) (.go 8 (.cl [.slice]) (.tk 9 .p (.tk 10 .p (.tk 11 .p (.nil))))))))))))) []) (.seq (.reg (.op .p (.op .p (.op .p (.op .p (.op (.ld (.int .i64)) (.op (.cl [.slice, .val]) (.op .p (.op .p (.op .p (.op .p (.op .p (.nil))))))))))))) (.seq (.reg (.op .p (.op (.ld (.slice)) (.op .p (.op (.ld (.slice)) (.op .p (.op (.ld (.slice)) (.op .p (.op (.ld (.int .i64)) (.op (.cl [.slice, .int .i64]) (.op .p (.op .p (.op .p (.op .p (.op .p (.nil)))))))))))))))) (.seq (.reg (.op .p (.op (.ld (.str)) (.op .p (.op (.ld (.str)) (.op .p (.op .p (.sp 55 (.op .p (.op (.cl [.int .i64]) (.op .p (.op .p (.op .p (.op .p (.sp 61 (.op .p (.op .p (.op (.ld (.slice)) (.op (.cl [.bool]) (.op .p (.op .p (.sp 67 (.op .p (.op .p (.op (.ld (.slice)) (.op (.cl [.bool]) (.op .p (.op .p (.sp 73 (.op .p (.op .p (.op (.ld (.slice)) (.op (.cl [.bool]) (.op .p (.op .p (.nil))))))) (.op .p (.op .p (.op .p (.op .p (.op .p (.op .p (.nil)))))))))))))) (.op .p (.op .p (.op .p (.op .p (.op .p (.op .p (.op .p (.op .p (.op .p (.op .p (.op .p (.op .p (.nil)))))))))))))))))))) (.op .p (.op .p (.op .p (.op .p (.op .p (.op .p (.op .p (.op .p (.op .p (.op .p (.op .p (.op .p (.op .p (.op .p (.op .p (.op .p (.op .p (.op .p (.nil)))))))))))))))))))))))))) (.op .p (.op .p (.op .p (.op .p (.op .p (.op .p (.op .p (.op .p (.op .p (.op .p (.op .p (.op .p (.op .p (.op .p (.op .p (.op .p (.op .p (.op .p (.op .p (.op .p (.op .p (.op .p (.op .p (.op .p (.nil))))))))))))))))))))))))))))))))) (.leaf))))))))
    (by kernel_rfl) Tryd.func6 (by kernel_rfl) (by kernel_rfl) (by kernel_rfl) (by kernel_rfl) h

set_option maxRecDepth 100000 in
theorem amphoralaw02_longer_vc (a0a : Option Addr) (a0n : Nat) (a0c : Nat) (a1a : Option Addr) (a1n : Nat) (a1c : Nat) (a2 : Int) (a3 : Int) (w : World) (R : Ending → World → Prop) (h :
  Calls Tryd.prog 9 #[] w fun (e15 : Ending) (w1 : World) => ∃ (t15 : Bool), e15 = .returned (.bool t15) ∧
  (((!t15) = true →
      (R (.returned (.bool false)) w1)) ∧
    ((!t15) = false →
      (∃ (t19a : Option Addr) (t19n : Nat) (t19c : Nat) (w2 : World), (Instr.buildSlice 31 2 #[(0, (.slice a0a a0n a0c)), (1, (.slice a1a a1n a1c))]).run Tryd.prog w1 = .ok (.slice t19a t19n t19c) w2 ∧
        (Calls Tryd.prog 11 #[(.slice t19a t19n t19c)] w2 fun (e20 : Ending) (w3 : World) => ∃ (t20 : Bool), e20 = .returned (.bool t20) ∧
          ((t20 = true →
              (R (.returned (.bool true)) w3)) ∧
            (t20 = false →
              (∃ (t22a : Option Addr) (t22n : Nat) (t22c : Nat) (w4 : World), (Instr.buildSlice 31 1 #[(0, (.slice a0a a0n a0c))]).run Tryd.prog w3 = .ok (.slice t22a t22n t22c) w4 ∧
                (Calls Tryd.prog 13 #[(.slice t22a t22n t22c)] w4 fun (e23 : Ending) (w5 : World) => ∃ (t23 : Array Value), e23 = .returned (.agg t23) ∧
                  (∃ (g9 : Nat) (w6 : World), (Instr.alloc 27 true (.tuple #[])).run Tryd.prog w5 = .ok (.pointer (some ⟨g9, 0, none⟩)) w6 ∧
                    (∃ w7 : World, (Instr.storeAt 27 (.pointer (some ⟨g9, 0, none⟩)) (.agg t23)).run Tryd.prog w6 = .ok () w7 ∧
                      (∃ J : Bool → World → Prop, (∃ S : World → Prop, S w7.drew ∧
                          (((decide (((a0n : Nat) : Int) > (64 : Int))) = true →
                              (0 ≤ ((32 : Nat) : Int) ∧ ((32 : Nat) : Int) ≤ ((32 : Nat) : Int) ∧
                                ((∃ (t30a : Option Addr) (t30n : Nat) (t30c : Nat) (w8 : World), (Instr.buildSlice 31 1 #[(0, (.slice a1a a1n a1c))]).run Tryd.prog w7.drew = .ok (.slice t30a t30n t30c) w8 ∧
                                    (∃ S_1 : World → Prop, (∀ w' : World, S_1 w' → S w') ∧ S_1 w8 ∧
                                      ((Calls Tryd.prog 15 #[(.slice a0a a0n a0c), (.slice t30a t30n t30c)] w8 fun (e31 : Ending) (w9 : World) => ∃ (t31 : Array Value), e31 = .returned (.agg t31) ∧
                                          (∃ S_2 : World → Prop, (∀ w' : World, S_2 w' → S_1 w') ∧ S_2 w9 ∧
                                            (∃ (t34a : Option Addr) (t34n : Nat) (t34c : Nat) (w10 : World), (Instr.buildSlice 31 1 #[(0, (.slice a1a a1n a1c))]).run Tryd.prog w9 = .ok (.slice t34a t34n t34c) w10 ∧
                                              (∃ S_3 : World → Prop, (∀ w' : World, S_3 w' → S_2 w') ∧ S_3 w10 ∧
                                                (Calls Tryd.prog 15 #[(.slice (some ⟨g9, 0, none⟩) (32) 32), (.slice t34a t34n t34c)] w10 fun (e35 : Ending) (w11 : World) => ∃ (t35 : Array Value), e35 = .returned (.agg t35) ∧
                                                  (∃ S_4 : World → Prop, (∀ w' : World, S_4 w' → S_3 w') ∧ S_4 w11 ∧
                                                    (∃ (t36 : Bool), (∀ w' : World, S_4 w' → (eqlS .neq 27 (.tmp 31) (.tmp 35) (.agg t31) (.agg t35)).run Tryd.prog w' = .ok (.bool t36) w') ∧
                                                      (J t36 w11)))))))) ∧
                                        (∃ (t34a : Option Addr) (t34n : Nat) (t34c : Nat) (w12 : World), (Instr.buildSlice 31 1 #[(0, (.slice a1a a1n a1c))]).run Tryd.prog w8 = .ok (.slice t34a t34n t34c) w12 ∧
                                          (∃ S_2 : World → Prop, (∀ w' : World, S_2 w' → S_1 w') ∧ S_2 w12 ∧
                                            (Calls Tryd.prog 15 #[(.slice a0a a0n a0c), (.slice t30a t30n t30c)] w12 fun (e31 : Ending) (w13 : World) => ∃ (t31 : Array Value), e31 = .returned (.agg t31) ∧
                                              (∃ S_3 : World → Prop, (∀ w' : World, S_3 w' → S_2 w') ∧ S_3 w13 ∧
                                                (Calls Tryd.prog 15 #[(.slice (some ⟨g9, 0, none⟩) (32) 32), (.slice t34a t34n t34c)] w13 fun (e35 : Ending) (w14 : World) => ∃ (t35 : Array Value), e35 = .returned (.agg t35) ∧
                                                  (∃ S_4 : World → Prop, (∀ w' : World, S_4 w' → S_3 w') ∧ S_4 w14 ∧
                                                    (∃ (t36 : Bool), (∀ w' : World, S_4 w' → (eqlS .neq 27 (.tmp 31) (.tmp 35) (.agg t31) (.agg t35)).run Tryd.prog w' = .ok (.bool t36) w') ∧
                                                      (J t36 w14))))))))))) ∧
                                  (∃ (t34a : Option Addr) (t34n : Nat) (t34c : Nat) (w15 : World), (Instr.buildSlice 31 1 #[(0, (.slice a1a a1n a1c))]).run Tryd.prog w7.drew = .ok (.slice t34a t34n t34c) w15 ∧
                                    (∃ S_1 : World → Prop, (∀ w' : World, S_1 w' → S w') ∧ S_1 w15 ∧
                                      (∃ (t30a : Option Addr) (t30n : Nat) (t30c : Nat) (w16 : World), (Instr.buildSlice 31 1 #[(0, (.slice a1a a1n a1c))]).run Tryd.prog w15 = .ok (.slice t30a t30n t30c) w16 ∧
                                        (∃ S_2 : World → Prop, (∀ w' : World, S_2 w' → S_1 w') ∧ S_2 w16 ∧
                                          (Calls Tryd.prog 15 #[(.slice a0a a0n a0c), (.slice t30a t30n t30c)] w16 fun (e31 : Ending) (w17 : World) => ∃ (t31 : Array Value), e31 = .returned (.agg t31) ∧
                                            (∃ S_3 : World → Prop, (∀ w' : World, S_3 w' → S_2 w') ∧ S_3 w17 ∧
                                              (Calls Tryd.prog 15 #[(.slice (some ⟨g9, 0, none⟩) (32) 32), (.slice t34a t34n t34c)] w17 fun (e35 : Ending) (w18 : World) => ∃ (t35 : Array Value), e35 = .returned (.agg t35) ∧
                                                (∃ S_4 : World → Prop, (∀ w' : World, S_4 w' → S_3 w') ∧ S_4 w18 ∧
                                                  (∃ (t36 : Bool), (∀ w' : World, S_4 w' → (eqlS .neq 27 (.tmp 31) (.tmp 35) (.agg t31) (.agg t35)).run Tryd.prog w' = .ok (.bool t36) w') ∧
                                                    (J t36 w18))))))))))))) ∧
                            ((decide (((a0n : Nat) : Int) > (64 : Int))) = false →
                              ((S w7.drew ∧
                                  ((S w7.drew ∧
                                      (S w7.drew ∧
                                        (S w7.drew ∧
                                          (J false w7.drew)))) ∧
                                    (S w7.drew ∧
                                      (S w7.drew ∧
                                        (S w7.drew ∧
                                          (J false w7.drew)))))) ∧
                                (S w7.drew ∧
                                  (S w7.drew ∧
                                    (S w7.drew ∧
                                      (S w7.drew ∧
                                        (J false w7.drew))))))))) ∧
                        (∀ (x37 : Bool), ∀ w19 : World, J x37 w19 →
                          ((x37 = true →
                              (R (.returned (.bool false)) w19)) ∧
                            (x37 = false →
                              (∃ J_1 : Bool → World → Prop, (((decide (((a0n : Nat) : Int) < (64 : Int))) = true →
                                    (∃ (t42a : Option Addr) (t42n : Nat) (t42c : Nat) (w20 : World), (Instr.buildSlice 22 0 #[]).run Tryd.prog w19 = .ok (.slice t42a t42n t42c) w20 ∧
                                      (∃ (t44a : Option Addr) (t44n : Nat) (t44c : Nat) (w21 : World), (Builtin.append_ #[22, 22] 22 #[(.slice t42a t42n t42c), (.slice a0a a0n a0c)]).run Tryd.prog w20 = .ok (.slice t44a t44n t44c) w21 ∧
                                        (∃ (t45a : Option Addr) (t45n : Nat) (t45c : Nat) (w22 : World), (Instr.buildSlice 22 1 #[(0, (.int .u8 0))]).run Tryd.prog w21 = .ok (.slice t45a t45n t45c) w22 ∧
                                          (∃ (t46a : Option Addr) (t46n : Nat) (t46c : Nat) (w23 : World), (Builtin.append_ #[22, 22] 22 #[(.slice t44a t44n t44c), (.slice t45a t45n t45c)]).run Tryd.prog w22 = .ok (.slice t46a t46n t46c) w23 ∧
                                            (∃ (t48a : Option Addr) (t48n : Nat) (t48c : Nat) (w24 : World), (Instr.buildSlice 31 1 #[(0, (.slice a1a a1n a1c))]).run Tryd.prog w23 = .ok (.slice t48a t48n t48c) w24 ∧
                                              (Calls Tryd.prog 15 #[(.slice t46a t46n t46c), (.slice t48a t48n t48c)] w24 fun (e49 : Ending) (w25 : World) => ∃ (t49 : Array Value), e49 = .returned (.agg t49) ∧
                                                (∃ (t52a : Option Addr) (t52n : Nat) (t52c : Nat) (w26 : World), (Instr.buildSlice 31 1 #[(0, (.slice a1a a1n a1c))]).run Tryd.prog w25 = .ok (.slice t52a t52n t52c) w26 ∧
                                                  (Calls Tryd.prog 15 #[(.slice a0a a0n a0c), (.slice t52a t52n t52c)] w26 fun (e53 : Ending) (w27 : World) => ∃ (t53 : Array Value), e53 = .returned (.agg t53) ∧
                                                    (∃ (t54 : Bool), (eqlS .neq 27 (.tmp 49) (.tmp 53) (.agg t49) (.agg t53)).run Tryd.prog w27 = .ok (.bool t54) w27 ∧
                                                      (J_1 t54 w27))))))))))) ∧
                                  ((decide (((a0n : Nat) : Int) < (64 : Int))) = false →
                                    (J_1 false w19))) ∧
                                (∀ (x55 : Bool), ∀ w28 : World, J_1 x55 w28 →
                                  ((x55 = true →
                                      (R (.returned (.bool false)) w28)) ∧
                                    (x55 = false →
                                      (Calls Tryd.prog 28 #[(.slice a0a a0n a0c), (.slice a1a a1n a1c), (.slice a0a a0n a0c), (.int .i64 a2)] w28 fun (e61 : Ending) (w29 : World) => ∃ (t61_0a : Option Addr) (t61_0n : Nat) (t61_0c : Nat) (t61_1 : Value), e61 = .returned (.tuple #[(.slice t61_0a t61_0n t61_0c), t61_1]) ∧
                                        (Calls Tryd.prog 28 #[(.slice a0a a0n a0c), (.slice a1a a1n a1c), (.slice a0a a0n a0c), (.int .i64 a3)] w29 fun (e69 : Ending) (w30 : World) => ∃ (t69_0a : Option Addr) (t69_0n : Nat) (t69_0c : Nat) (t69_1 : Value), e69 = .returned (.tuple #[(.slice t69_0a t69_0n t69_0c), t69_1]) ∧
                                          (∃ J_2 : Bool → World → Prop, (∃ (t73 : Bool), (eqlS .neq 45 (.tmp 72) (.const .nilIface) t61_1 .nilIface).run Tryd.prog w30 = .ok (.bool t73) w30 ∧
                                              ((t73 = true →
                                                  (J_2 true w30)) ∧
                                                (t73 = false →
                                                  (∃ (t76 : Bool), (eqlS .neq 45 (.tmp 75) (.const .nilIface) t69_1 .nilIface).run Tryd.prog w30 = .ok (.bool t76) w30 ∧
                                                    (J_2 t76 w30))))) ∧
                                            (∀ (x77 : Bool), ∀ w31 : World, J_2 x77 w31 →
                                              ((x77 = true →
                                                  (∃ (t79 : Bool), (eqlS .neq 45 (.tmp 78) (.const .nilIface) t61_1 .nilIface).run Tryd.prog w31 = .ok (.bool t79) w31 ∧
                                                    (((t79 == ((decide (a2 < (0 : Int))) || (decide (a2 > (8160 : Int))))) = true →
                                                        (∃ (t89 : Bool), (eqlS .neq 45 (.tmp 88) (.const .nilIface) t69_1 .nilIface).run Tryd.prog w31 = .ok (.bool t89) w31 ∧
                                                          (((decide (a3 < (0 : Int))) = true →
                                                              (R (.returned (.bool (t89 == true))) w31)) ∧
                                                            ((decide (a3 < (0 : Int))) = false →
                                                              (R (.returned (.bool (t89 == (decide (a3 > (8160 : Int)))))) w31))))) ∧
                                                      ((t79 == ((decide (a2 < (0 : Int))) || (decide (a2 > (8160 : Int))))) = false →
                                                        (R (.returned (.bool false)) w31))))) ∧
                                                (x77 = false →
                                                  ((((((t61_0n : Nat) : Int) != a2) || (((t69_0n : Nat) : Int) != a3)) = true →
                                                      (R (.returned (.bool false)) w31)) ∧
                                                    (((((t61_0n : Nat) : Int) != a2) || (((t69_0n : Nat) : Int) != a3)) = false →
                                                      (∃ S_1 : World → Prop, S_1 w31.drew ∧
                                                        (0 ≤ (if a3 < a2 then a3 else a2) ∧ (if a3 < a2 then a3 else a2) ≤ ((t61_0c : Nat) : Int) ∧
                                                          (0 ≤ (if a3 < a2 then a3 else a2) ∧ (if a3 < a2 then a3 else a2) ≤ ((t69_0c : Nat) : Int) ∧
                                                            (∃ (t114 : ByteArray), (∀ w' : World, S_1 w' → (convert 22 9 (.slice t61_0a (Int.toNat (if a3 < a2 then a3 else a2)) t61_0c)).run Tryd.prog w' = .ok (.string t114) w') ∧
                                                              (∃ (t118 : ByteArray), (∀ w' : World, S_1 w' → (convert 22 9 (.slice t69_0a (Int.toNat (if a3 < a2 then a3 else a2)) t69_0c)).run Tryd.prog w' = .ok (.string t118) w') ∧
                                                                (R (.returned (.bool (t114.toList == t118.toList))) w31.drew))))))))))))))))))))))))))))))))) : Calls Tryd.prog 31 #[(.slice a0a a0n a0c), (.slice a1a a1n a1c), (.int .i64 a2), (.int .i64 a3)] w R :=
  calls_of_ev (args := [(.slice a0a a0n a0c), (.slice a1a a1n a1c), (.int .i64 a2), (.int .i64 a3)])
    (tc := .seq (.reg (.op .p (.nil))) (.seq (.seq (.reg (.op (.cl [.bool]) (.op .p (.nil)))) (.cond (.seq (.reg (.op .p (.nil))) (.leaf)) (.leaf))) (.seq (.seq (.reg (.op .p (.op .p (.op (.r (.slice)) (.op (.cl [.bool]) (.nil)))))) (.cond (.seq (.reg (.op .p (.nil))) (.leaf)) (.leaf))) (.seq (.reg (.op .p (.op (.r (.slice)) (.op (.cl [.agg]) (.op .bx (.op .u (.nil))))))) (.seq (.seq (.join [24, 25, 26, 27, 28, 29, 30, 31, 32, 33, 34, 35, 36, 37] [37] [.bool] (.drawS (.tk 0 .p (.tk 1 .p (.tk 2 .p (.tk 3 .p (.sp 27 (.tk 4 .p (.tk 5 .p (.tk 8 .sl (.tk 9 .p (.two 6 (.r (.slice)) (.two 7 (.cl [.agg]) (.go 10 (.r (.slice)) (.go 11 (.cl [.agg]) (.ts 12 (.bool) (.tk 13 .p (.nil))))) 10 (.r (.slice)) (.go 7 (.cl [.agg]) (.go 11 (.cl [.agg]) (.ts 12 (.bool) (.tk 13 .p (.nil)))))) 10 (.r (.slice)) (.go 6 (.r (.slice)) (.go 7 (.cl [.agg]) (.go 11 (.cl [.agg]) (.ts 12 (.bool) (.tk 13 .p (.nil))))))))))) (.tk 4 .p (.tk 5 .p (.tk 8 .p (.tk 9 .p (.two 6 .p (.two 7 .p (.go 10 .p (.go 11 .p (.ts 12 .val (.tk 13 .p (.nil))))) 10 .p (.go 7 .p (.go 11 .p (.ts 12 .val (.tk 13 .p (.nil)))))) 10 .p (.go 6 .p (.go 7 .p (.go 11 .p (.ts 12 .val (.tk 13 .p (.nil)))))))))))))))) [])) (.cond (.seq (.reg (.op .p (.nil))) (.leaf)) (.leaf))) (.seq (.seq (.join [38, 39, 40, 41, 42, 43, 44, 45, 46, 47, 48, 49, 50, 51, 52, 53, 54, 55] [55] [.bool] (.reg (.op .p (.op .p (.op .p (.op .p (.sp 41 (.op (.r (.slice)) (.op .p (.op (.r (.slice)) (.op (.r (.slice)) (.op (.r (.slice)) (.op .p (.op (.r (.slice)) (.op (.cl [.agg]) (.op .p (.op .p (.op (.r (.slice)) (.op (.cl [.agg]) (.op (.ld (.bool)) (.op .p (.nil))))))))))))))) (.op .p (.op .p (.op .p (.op .p (.op .p (.op .p (.op .p (.op .p (.op .p (.op .p (.op .p (.op .p (.op .p (.op .p (.nil)))))))))))))))))))))) (.cond (.seq (.reg (.op .p (.nil))) (.leaf)) (.leaf))) (.seq (.reg (.op .p (.op .p (.op .p (.op .p (.op (.cl [.slice, .val]) (.op .p (.op .p (.op .p (.op .p (.op .p (.nil)))))))))))) (.seq (.reg (.op .p (.op .p (.op .p (.op .p (.op (.cl [.slice, .val]) (.op .p (.op .p (.op .p (.op .p (.op .p (.nil)))))))))))) (.seq (.seq (.join [72, 73, 74, 75, 76, 77] [77] [.bool] (.reg (.op .p (.op (.ld (.bool)) (.op .p (.sp 74 (.op .p (.op .p (.op .p (.nil)))) (.op .p (.op (.ld (.bool)) (.op .p (.nil)))))))))) (.cond (.seq (.reg (.op .p (.op (.ld (.bool)) (.op .p (.op .p (.op .p (.ap 2 (.op .p (.op .p (.sp 87 (.op .p (.op (.ld (.bool)) (.op .p (.op .p (.op .p (.sp 92 (.op .p (.op .p (.op .p (.op .p (.op .p (.op .p (.nil))))))) (.op .p (.op .p (.op .p (.op .p (.op .p (.op .p (.nil))))))))))))) (.op .p (.op .p (.op .p (.op .p (.op .p (.op .p (.op .p (.op .p (.op .p (.op .p (.op .p (.nil)))))))))))))))))))))) (.leaf)) (.leaf))) (.seq (.seq (.reg (.op .p (.op .p (.op .p (.op .p (.op .p (.ap 4 (.nil)))))))) (.cond (.seq (.reg (.op .p (.nil))) (.leaf)) (.leaf))) (.seq (.reg (.op .p (.op .p (.op .p (.op .p (.nil)))))) (.seq (.drawS (.tk 0 .p (.tk 1 .p (.tk 2 .sl (.tk 4 .p (.tk 5 .p (.tk 6 .sl (.ts 3 (.str) (.ts 7 (.str) (.tk 8 .p (.tk 9 .p (.nil))))))))))) []) (.leaf)))))))))))))
    (by kernel_rfl) Tryd.func31 (by kernel_rfl) (by kernel_rfl) (by kernel_rfl) (by kernel_rfl) h

set_option maxRecDepth 100000 in
theorem amphoralaw02_ShaKeys_vc (a0 : Array Value) (w : World) (R : Ending → World → Prop) (h :
  ∃ (g1 : Nat) (w1 : World), (Instr.box 53 (.agg a0)).run Tryd.prog w = .ok (.pointer (some ⟨g1, 0, none⟩)) w1 ∧
  (∃ (t4a : Option Addr) (t4n : Nat) (t4c : Nat), (Instr.loadAt 22 (.pointer (some ⟨g1, 0, none⟩))).run Tryd.prog w1 = .ok (.slice t4a t4n t4c) w1 ∧
    (∃ (t6a : Option Addr) (t6n : Nat) (t6c : Nat), (Instr.loadAt 22 (.pointer (some ⟨g1, 1, none⟩))).run Tryd.prog w1 = .ok (.slice t6a t6n t6c) w1 ∧
      (∃ (t8 : Int), (Instr.loadAt 3 (.pointer (some ⟨g1, 2, none⟩))).run Tryd.prog w1 = .ok (.int .i64 t8) w1 ∧
        (∃ (t10 : Int), (Instr.loadAt 3 (.pointer (some ⟨g1, 3, none⟩))).run Tryd.prog w1 = .ok (.int .i64 t10) w1 ∧
          (Calls Tryd.prog 31 #[(.slice t4a t4n t4c), (.slice t6a t6n t6c), (.int .i64 t8), (.int .i64 t10)] w1 fun (e11 : Ending) (w2 : World) => ∃ (t11 : Bool), e11 = .returned (.bool t11) ∧
            (R (.returned (.bool t11)) w2))))))) : Calls Tryd.prog 7 #[(.agg a0)] w R :=
  calls_of_ev (args := [(.agg a0)])
    (tc := .seq (.reg (.op .bx (.op .p (.nil)))) (.seq (.reg (.op .p (.op (.ld (.slice)) (.op .p (.op (.ld (.slice)) (.op .p (.op (.ld (.int .i64)) (.op .p (.op (.ld (.int .i64)) (.op (.cl [.bool]) (.op .p (.nil)))))))))))) (.leaf)))
    (by kernel_rfl) Tryd.func7 (by kernel_rfl) (by kernel_rfl) (by kernel_rfl) (by kernel_rfl) h

set_option maxRecDepth 100000 in
theorem amphoralaw02_ShaNone_vc (a0a : Option Addr) (a0n : Nat) (a0c : Nat) (w : World) (R : Ending → World → Prop) (h :
  Calls Tryd.prog 9 #[] w fun (e9 : Ending) (w1 : World) => ∃ (t9 : Bool), e9 = .returned (.bool t9) ∧
  (((!t9) = true →
      (R (.returned (.bool false)) w1)) ∧
    ((!t9) = false →
      (∃ (t12a : Option Addr) (t12n : Nat) (t12c : Nat) (w2 : World), (Instr.buildSlice 31 1 #[(0, (.slice a0a a0n a0c))]).run Tryd.prog w1 = .ok (.slice t12a t12n t12c) w2 ∧
        (Calls Tryd.prog 11 #[(.slice t12a t12n t12c)] w2 fun (e13 : Ending) (w3 : World) => ∃ (t13 : Bool), e13 = .returned (.bool t13) ∧
          ((t13 = true →
              (R (.returned (.bool true)) w3)) ∧
            (t13 = false →
              (∃ (t16a : Option Addr) (t16n : Nat) (t16c : Nat) (w4 : World), (Instr.buildSlice 31 1 #[(0, (.slice a0a a0n a0c))]).run Tryd.prog w3 = .ok (.slice t16a t16n t16c) w4 ∧
                (Calls Tryd.prog 22 #[(.pointer none), (.slice t16a t16n t16c)] w4 fun (e17 : Ending) (w5 : World) => e17 = .returned (.tuple #[]) ∧
                  (∃ (t20a : Option Addr) (t20n : Nat) (t20c : Nat) (w6 : World), (Instr.buildSlice 31 1 #[(0, (.slice a0a a0n a0c))]).run Tryd.prog w5 = .ok (.slice t20a t20n t20c) w6 ∧
                    (Calls Tryd.prog 23 #[(.pointer none), (.slice t20a t20n t20c)] w6 fun (e21 : Ending) (w7 : World) => e21 = .returned (.tuple #[]) ∧
                      (∃ J : Bool → World → Prop, (Calls Tryd.prog 24 #[(.pointer none)] w7 fun (e23 : Ending) (w8 : World) => ∃ (t23 : Int), e23 = .returned (.int .i64 t23) ∧
                          (((t23 != (0 : Int)) = true →
                              (J true w8)) ∧
                            ((t23 != (0 : Int)) = false →
                              (Calls Tryd.prog 25 #[(.pointer none)] w8 fun (e27 : Ending) (w9 : World) => ∃ (t27 : Int), e27 = .returned (.int .i64 t27) ∧
                                (((t27 != (0 : Int)) = true →
                                    (J true w9)) ∧
                                  ((t27 != (0 : Int)) = false →
                                    (Calls Tryd.prog 26 #[(.pointer none)] w9 fun (e32 : Ending) (w10 : World) => ∃ (t32 : Array Value), e32 = .returned (.agg t32) ∧
                                      (∃ (t33 : Array Value), (Instr.build 27 #[]).run Tryd.prog w10 = .ok (.agg t33) w10 ∧
                                        (∃ (t34 : Bool), (eqlS .neq 27 (.tmp 32) (.tmp 33) (.agg t32) (.agg t33)).run Tryd.prog w10 = .ok (.bool t34) w10 ∧
                                          ((t34 = true →
                                              (J true w10)) ∧
                                            (t34 = false →
                                              (Calls Tryd.prog 27 #[(.pointer none)] w10 fun (e38 : Ending) (w11 : World) => ∃ (t38 : Array Value), e38 = .returned (.agg t38) ∧
                                                (∃ (t39 : Array Value), (Instr.build 27 #[]).run Tryd.prog w11 = .ok (.agg t39) w11 ∧
                                                  (∃ (t40 : Bool), (eqlS .neq 27 (.tmp 38) (.tmp 39) (.agg t38) (.agg t39)).run Tryd.prog w11 = .ok (.bool t40) w11 ∧
                                                    (J t40 w11))))))))))))))) ∧
                        (∀ (x41 : Bool), ∀ w12 : World, J x41 w12 →
                          ((x41 = true →
                              (R (.returned (.bool false)) w12)) ∧
                            (x41 = false →
                              (Calls Tryd.prog 28 #[(.slice a0a a0n a0c), (.slice a0a a0n a0c), (.slice a0a a0n a0c), (.int .i64 40)] w12 fun (e46 : Ending) (w13 : World) => ∃ (t46_0a : Option Addr) (t46_0n : Nat) (t46_0c : Nat) (t46_1 : Value), e46 = .returned (.tuple #[(.slice t46_0a t46_0n t46_0c), t46_1]) ∧
                                (Calls Tryd.prog 28 #[(.slice a0a a0n a0c), (.slice a0a a0n a0c), (.slice a0a a0n a0c), (.int .i64 40)] w13 fun (e53 : Ending) (w14 : World) => ∃ (t53_0a : Option Addr) (t53_0n : Nat) (t53_0c : Nat) (t53_1 : Value), e53 = .returned (.tuple #[(.slice t53_0a t53_0n t53_0c), t53_1]) ∧
                                  (∃ (t57 : ByteArray), (convert 22 9 (.slice t46_0a t46_0n t46_0c)).run Tryd.prog w14 = .ok (.string t57) w14 ∧
                                    (∃ (t59 : ByteArray), (convert 22 9 (.slice t53_0a t53_0n t53_0c)).run Tryd.prog w14 = .ok (.string t59) w14 ∧
                                      (((t57.toList == t59.toList) = true →
                                          (∃ (t64a : Option Addr) (t64n : Nat) (t64c : Nat) (w15 : World), (Instr.buildSlice 31 2 #[(0, (.slice t46_0a t46_0n t46_0c)), (1, (.slice t53_0a t53_0n t53_0c))]).run Tryd.prog w14 = .ok (.slice t64a t64n t64c) w15 ∧
                                            (Calls Tryd.prog 32 #[(.slice t64a t64n t64c)] w15 fun (e65 : Ending) (w16 : World) => ∃ (t65 : Bool), e65 = .returned (.bool t65) ∧
                                              (R (.returned (.bool t65)) w16)))) ∧
                                        ((t57.toList == t59.toList) = false →
                                          (R (.returned (.bool false)) w14)))))))))))))))))))))) : Calls Tryd.prog 8 #[(.slice a0a a0n a0c)] w R :=
  calls_of_ev (args := [(.slice a0a a0n a0c)])
    (tc := .seq (.reg (.op .p (.nil))) (.seq (.seq (.reg (.op (.cl [.bool]) (.op .p (.nil)))) (.cond (.seq (.reg (.op .p (.nil))) (.leaf)) (.leaf))) (.seq (.seq (.reg (.op .p (.op (.r (.slice)) (.op (.cl [.bool]) (.nil))))) (.cond (.seq (.reg (.op .p (.nil))) (.leaf)) (.leaf))) (.seq (.reg (.op .p (.nil))) (.seq (.reg (.op .p (.nil))) (.seq (.reg (.op .p (.op .p (.op (.r (.slice)) (.op (.cl []) (.nil)))))) (.seq (.reg (.op .p (.op .p (.op (.r (.slice)) (.op (.cl []) (.nil)))))) (.seq (.seq (.join [22, 23, 24, 25, 26, 27, 28, 29, 30, 31, 32, 33, 34, 35, 36, 37, 38, 39, 40, 41] [41] [.bool] (.reg (.op .p (.op (.cl [.int .i64]) (.op .p (.op .p (.sp 25 (.op .p (.op .p (.op .p (.op .p (.op .p (.op .p (.op .p (.op .p (.op .p (.op .p (.op .p (.op .p (.op .p (.op .p (.op .p (.op .p (.nil))))))))))))))))) (.op .p (.op (.cl [.int .i64]) (.op .p (.op .p (.op .p (.sp 30 (.op .p (.op .p (.op .p (.op .p (.op .p (.op .p (.op .p (.op .p (.op .p (.op .p (.op .p (.nil)))))))))))) (.op .p (.op (.cl [.agg]) (.op (.ld (.agg)) (.op (.ld (.bool)) (.op .p (.op .p (.sp 36 (.op .p (.op .p (.op .p (.op .p (.op .p (.nil)))))) (.op .p (.op (.cl [.agg]) (.op (.ld (.agg)) (.op (.ld (.bool)) (.op .p (.nil)))))))))))))))))))))))))) (.cond (.seq (.reg (.op .p (.nil))) (.leaf)) (.leaf))) (.seq (.reg (.op .p (.op .p (.op .p (.op (.cl [.slice, .val]) (.op .p (.op .p (.op .p (.op .p (.op .p (.nil))))))))))) (.seq (.reg (.op .p (.op .p (.op .p (.op (.cl [.slice, .val]) (.op .p (.op .p (.op .p (.op .p (.op .p (.nil))))))))))) (.seq (.reg (.op .p (.op (.ld (.str)) (.op .p (.op (.ld (.str)) (.op .p (.op .p (.sp 61 (.op .p (.op .p (.op (.r (.slice)) (.op (.cl [.bool]) (.op .p (.op .p (.nil))))))) (.op .p (.op .p (.op .p (.op .p (.op .p (.op .p (.nil))))))))))))))) (.leaf))))))))))))
    (by kernel_rfl) Tryd.func8 (by kernel_rfl) (by kernel_rfl) (by kernel_rfl) (by kernel_rfl) h

end Go.Proofs.YtpodhfomjljfbaaDoor
