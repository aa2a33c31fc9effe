/- Verification conditions of functions, printed by the session's own program vc.py: out of each, Calls (conditions: none). -/
import Derived.Test.YtmdandkoajocpaaDoorRows
import Derived.Test.YtmdandkoajocpaaDoorSxRun
namespace Go.Proofs.YtmdandkoajocpaaDoor
open Go Go.Proofs.YtmdandkoajocpaaDoor.Sx

set_option maxRecDepth 100000 in
theorem amphoralaw13_alive_vc  (w : World) (R : Ending → World → Prop) (h :
  ∃ (t8 : Array Value), (Instr.build 23 #[(0, (.int .u8 9))]).run Tryd.prog w = .ok (.agg t8) w ∧
  (Calls Tryd.prog 11 #[(.agg t8)] w fun (e9 : Ending) (w1 : World) => ∃ (t9 : Array Value), e9 = .returned (.agg t9) ∧
    (∃ (g1 : Nat) (w2 : World), (Instr.alloc 41 true (.tuple #[])).run Tryd.prog w1 = .ok (.pointer (some ⟨g1, 0, none⟩)) w2 ∧
      (∃ w3 : World, (Instr.storeAt 41 (.pointer (some ⟨g1, 0, none⟩)) (.agg t9)).run Tryd.prog w2 = .ok () w3 ∧
        (∃ (t11 : Array Value), (Instr.loadAt 41 (.pointer (some ⟨g1, 0, none⟩))).run Tryd.prog w3 = .ok (.agg t11) w3 ∧
          (Calls Tryd.prog 13 #[(.agg t11), (.int .i64 5), (.slice none 0 0)] w3 fun (e12 : Ending) (w4 : World) => ∃ (t12_0a : Option Addr) (t12_0n : Nat) (t12_0c : Nat) (t12_1a : Option Addr) (t12_1n : Nat) (t12_1c : Nat) (t12_2 : Value), e12 = .returned (.tuple #[(.slice t12_0a t12_0n t12_0c), (.slice t12_1a t12_1n t12_1c), t12_2]) ∧
            (∃ (t17 : Bool), (eqlS .neq 30 (.tmp 16) (.const .nilIface) t12_2 .nilIface).run Tryd.prog w4 = .ok (.bool t17) w4 ∧
              ((((t17 || (((t12_1n : Nat) : Int) != (0 : Int))) || (((t12_0n : Nat) : Int) != (63 : Int))) = true →
                  (R (.returned (.bool false)) w4)) ∧
                (((t17 || (((t12_1n : Nat) : Int) != (0 : Int))) || (((t12_0n : Nat) : Int) != (63 : Int))) = false →
                  (∃ (t29 : Array Value), (Instr.loadAt 41 (.pointer (some ⟨g1, 0, none⟩))).run Tryd.prog w4 = .ok (.agg t29) w4 ∧
                    (Calls Tryd.prog 15 #[(.agg t29), (.int .i64 5), (.slice t12_0a t12_0n t12_0c)] w4 fun (e31 : Ending) (w5 : World) => ∃ (t31_0a : Option Addr) (t31_0n : Nat) (t31_0c : Nat) (t31_1 : Value), e31 = .returned (.tuple #[(.slice t31_0a t31_0n t31_0c), t31_1]) ∧
                      (∃ (t35 : Array Value), (Instr.loadAt 41 (.pointer (some ⟨g1, 0, none⟩))).run Tryd.prog w5 = .ok (.agg t35) w5 ∧
                        (Calls Tryd.prog 15 #[(.agg t35), (.int .i64 6), (.slice t12_0a t12_0n t12_0c)] w5 fun (e37 : Ending) (w6 : World) => ∃ (t37_0a : Option Addr) (t37_0n : Nat) (t37_0c : Nat) (t37_1 : Value), e37 = .returned (.tuple #[(.slice t37_0a t37_0n t37_0c), t37_1]) ∧
                          (∃ (t41 : Bool), (eqlS .eql 30 (.tmp 40) (.const .nilIface) t31_1 .nilIface).run Tryd.prog w6 = .ok (.bool t41) w6 ∧
                            (((t41 && (((t31_0n : Nat) : Int) == (0 : Int))) = true →
                                (∃ (t50 : Bool), (eqlS .eql 30 (.tmp 48) (.tmp 49) t37_1 (.iface 33 (.int .i64 17))).run Tryd.prog w6 = .ok (.bool t50) w6 ∧
                                  ((t50 = true →
                                      (Calls Tryd.prog 18 #[(.int .i64 5)] w6 fun (e53 : Ending) (w7 : World) => ∃ (t53 : ByteArray), e53 = .returned (.string t53) ∧
                                        (R (.returned (.bool (t53.toList == (ByteArray.mk #[112, 53]).toList))) w7))) ∧
                                    (t50 = false →
                                      (R (.returned (.bool false)) w6))))) ∧
                              ((t41 && (((t31_0n : Nat) : Int) == (0 : Int))) = false →
                                (R (.returned (.bool false)) w6))))))))))))))))) : Calls Tryd.prog 5 #[] w R :=
  calls_of_ev (args := [])
    (tc := .seq (.reg (.op .p (.nil))) (.seq (.reg (.op (.ld (.agg)) (.op (.cl [.agg]) (.op .bx (.op .u (.nil)))))) (.seq (.reg (.op (.ld (.agg)) (.op (.cl [.slice, .slice, .val]) (.op .p (.op .p (.op .p (.op .p (.op .p (.op .p (.op .p (.nil))))))))))) (.seq (.seq (.reg (.op .p (.op (.ld (.bool)) (.op .p (.ap 3 (.op .p (.ap 3 (.nil)))))))) (.cond (.seq (.reg (.op .p (.nil))) (.leaf)) (.leaf))) (.seq (.reg (.op (.ld (.agg)) (.op .p (.op (.cl [.slice, .val]) (.op .p (.op .p (.op .p (.op .p (.op .p (.nil)))))))))) (.seq (.reg (.op (.ld (.agg)) (.op .p (.op (.cl [.slice, .val]) (.op .p (.op .p (.op .p (.op .p (.op .p (.nil)))))))))) (.seq (.reg (.op .p (.op (.ld (.bool)) (.op .p (.ap 3 (.op .p (.sp 47 (.op .p (.op .p (.op (.ld (.bool)) (.op .p (.op .p (.sp 52 (.op (.cl [.str]) (.op .p (.op .p (.op .p (.nil))))) (.op .p (.op .p (.op .p (.op .p (.nil))))))))))) (.op .p (.op .p (.op .p (.op .p (.op .p (.op .p (.op .p (.op .p (.op .p (.nil))))))))))))))))) (.leaf))))))))
    (by kernel_rfl) Tryd.func5 (by kernel_rfl) (by kernel_rfl) (by kernel_rfl) (by kernel_rfl) h

set_option maxRecDepth 100000 in
theorem amphoralaw13_Case_items_vc (a0 : Array Value) (w : World) (R : Ending → World → Prop) (h :
  ∃ (g1 : Nat) (w1 : World), (Instr.box 39 (.agg a0)).run Tryd.prog w = .ok (.pointer (some ⟨g1, 0, none⟩)) w1 ∧
  (∃ (t10a : Option Addr) (t10n : Nat) (t10c : Nat) (w2 : World), (Instr.buildSlice 43 0 #[]).run Tryd.prog w1 = .ok (.slice t10a t10n t10c) w2 ∧
    (∃ (t11a : Option Addr) (t11n : Nat) (t11c : Nat) (w3 : World), (Instr.buildSlice 43 0 #[]).run Tryd.prog w2 = .ok (.slice t11a t11n t11c) w3 ∧
      (∃ (t13a : Option Addr) (t13n : Nat) (t13c : Nat), (Instr.loadAt 35 (.pointer (some ⟨g1, 34, none⟩))).run Tryd.prog w3 = .ok (.slice t13a t13n t13c) w3 ∧
        (∃ (I : Option Addr → Nat → Nat → Option Addr → Nat → Nat → Int → World → Prop) (μ : Option Addr → Nat → Nat → Option Addr → Nat → Nat → Int → World → Nat), I t10a t10n t10c t11a t11n t11c 0 w3 ∧
          (∀ (x4a : Option Addr) (x4n : Nat) (x4c : Nat) (x5a : Option Addr) (x5n : Nat) (x5c : Nat) (x15 : Int), ∀ w4 : World, I x4a x4n x4c x5a x5n x5c x15 w4 →
            (((decide (x15 < ((t13n : Nat) : Int))) = true →
                (∃ (t18b t18o : Nat), t13a = some ⟨t18b, t18o, none⟩ ∧ 0 ≤ x15 ∧ x15 < ((t13n : Nat) : Int) ∧
                  (∃ (t19a : Option Addr) (t19n : Nat) (t19c : Nat), (Instr.loadAt 22 (.pointer (some ⟨t18b, t18o + Int.toNat x15 * 1, none⟩))).run Tryd.prog w4 = .ok (.slice t19a t19n t19c) w4 ∧
                    (∃ (t20 : Array Value), (Instr.build 24 #[]).run Tryd.prog w4 = .ok (.agg t20) w4 ∧
                      (∃ (g8 : Nat) (w5 : World), (Instr.alloc 24 true (.tuple #[])).run Tryd.prog w4 = .ok (.pointer (some ⟨g8, 0, none⟩)) w5 ∧
                        (∃ w6 : World, (Instr.storeAt 24 (.pointer (some ⟨g8, 0, none⟩)) (.agg t20)).run Tryd.prog w5 = .ok () w6 ∧
                          (∃ (t23a : Option Addr) (t23n : Nat) (t23c : Nat), (Instr.loadAt 35 (.pointer (some ⟨g1, 33, none⟩))).run Tryd.prog w6 = .ok (.slice t23a t23n t23c) w6 ∧
                            (∃ J : World → Prop, (((decide (x15 < ((t23n : Nat) : Int))) = true →
                                  (∃ S : World → Prop, S w6.drew ∧
                                    (0 ≤ ((32 : Nat) : Int) ∧ ((32 : Nat) : Int) ≤ ((32 : Nat) : Int) ∧
                                      (∃ (t28a : Option Addr) (t28n : Nat) (t28c : Nat), (∀ w' : World, S w' → (Instr.loadAt 35 (.pointer (some ⟨g1, 33, none⟩))).run Tryd.prog w' = .ok (.slice t28a t28n t28c) w') ∧
                                        (∃ (t30b t30o : Nat), t28a = some ⟨t30b, t30o, none⟩ ∧ 0 ≤ x15 ∧ x15 < ((t28n : Nat) : Int) ∧
                                          (∃ (t31a : Option Addr) (t31n : Nat) (t31c : Nat), (∀ w' : World, S w' → (Instr.loadAt 22 (.pointer (some ⟨t30b, t30o + Int.toNat x15 * 1, none⟩))).run Tryd.prog w' = .ok (.slice t31a t31n t31c) w') ∧
                                            (∃ (t32 : Int) (w7 : World), (Builtin.copy_ #[22, 22] 3 #[(.slice (some ⟨g8, 0, none⟩) (32) 32), (.slice t31a t31n t31c)]).run Tryd.prog w6.drew = .ok (.int .i64 t32) w7 ∧
                                              (∃ S_1 : World → Prop, (∀ w' : World, S_1 w' → S w') ∧ S_1 w7 ∧
                                                (J  w7))))))))) ∧
                                ((decide (x15 < ((t23n : Nat) : Int))) = false →
                                  (J  w6))) ∧
                              (∀ w8 : World, J  w8 →
                                (∃ (t34 : Array Value), (Instr.loadAt 24 (.pointer (some ⟨g8, 0, none⟩))).run Tryd.prog w8 = .ok (.agg t34) w8 ∧
                                  (∃ (t36 : Array Value), (Instr.build 54 #[(0, (.agg t34)), (1, (.slice t19a t19n t19c))]).run Tryd.prog w8 = .ok (.agg t36) w8 ∧
                                    (∃ (t37a : Option Addr) (t37n : Nat) (t37c : Nat) (w9 : World), (Instr.buildSlice 43 1 #[(0, (.agg t36))]).run Tryd.prog w8 = .ok (.slice t37a t37n t37c) w9 ∧
                                      (∃ (t38a : Option Addr) (t38n : Nat) (t38c : Nat) (w10 : World), (Builtin.append_ #[43, 43] 43 #[(.slice x4a x4n x4c), (.slice t37a t37n t37c)]).run Tryd.prog w9 = .ok (.slice t38a t38n t38c) w10 ∧
                                        (Calls Tryd.prog 6 #[(.slice t19a t19n t19c)] w10 fun (e40 : Ending) (w11 : World) => ∃ (t40a : Option Addr) (t40n : Nat) (t40c : Nat), e40 = .returned (.slice t40a t40n t40c) ∧
                                          (∃ (t42 : Array Value), (Instr.loadAt 24 (.pointer (some ⟨g8, 0, none⟩))).run Tryd.prog w11 = .ok (.agg t42) w11 ∧
                                            (∃ (t44 : Array Value), (Instr.build 54 #[(0, (.agg t42)), (1, (.slice t40a t40n t40c))]).run Tryd.prog w11 = .ok (.agg t44) w11 ∧
                                              (∃ (t45a : Option Addr) (t45n : Nat) (t45c : Nat) (w12 : World), (Instr.buildSlice 43 1 #[(0, (.agg t44))]).run Tryd.prog w11 = .ok (.slice t45a t45n t45c) w12 ∧
                                                (∃ (t46a : Option Addr) (t46n : Nat) (t46c : Nat) (w13 : World), (Builtin.append_ #[43, 43] 43 #[(.slice x5a x5n x5c), (.slice t45a t45n t45c)]).run Tryd.prog w12 = .ok (.slice t46a t46n t46c) w13 ∧
                                                  (I t38a t38n t38c t46a t46n t46c (IntKind.wrap .i64 (x15 + (1 : Int))) w13 ∧ μ t38a t38n t38c t46a t46n t46c (IntKind.wrap .i64 (x15 + (1 : Int))) w13 < μ x4a x4n x4c x5a x5n x5c x15 w4))))))))))))))))))) ∧
              ((decide (x15 < ((t13n : Nat) : Int))) = false →
                (R (.returned (.tuple #[(.slice x4a x4n x4c), (.slice x5a x5n x5c)])) w4))))))))) : Calls Tryd.prog 12 #[(.agg a0)] w R :=
  calls_of_ev (args := [(.agg a0)])
    (tc := .seq (.reg (.op .bx (.op .p (.op .p (.nil))))) (.seq (.reg (.op (.r (.slice)) (.op .p (.nil)))) (.seq (.reg (.op (.r (.slice)) (.op .p (.nil)))) (.seq (.seq (.reg (.op .p (.op (.ld (.slice)) (.op .p (.op .p (.nil)))))) (.blk (.loop [4, 5, 6, 7, 8, 9, 15, 16, 17, 18, 19, 20, 21, 22, 23, 24, 25, 26, 27, 28, 29, 30, 31, 32, 33, 34, 35, 36, 37, 38, 39, 40, 41, 42, 43, 44, 45, 46, 47] [4, 5, 15] [.slice, .slice, .int .i64] (.seq (.reg (.op .p (.nil))) (.seq (.cond (.leaf) (.leaf)) (.seq (.blk (.seq (.reg (.op .p (.op .ix (.op (.ld (.slice)) (.op .p (.op .p (.nil))))))) (.seq (.reg (.op (.ld (.agg)) (.op .bx (.op .u (.nil))))) (.seq (.seq (.reg (.op .p (.op .p (.op (.ld (.slice)) (.op .p (.op .p (.nil))))))) (.join [26, 27, 28, 29, 30, 31, 32] [] [] (.cond (.drawS (.tk 0 .sl (.tk 1 .p (.tk 3 .p (.ts 2 (.slice) (.tk 4 .ix (.ts 5 (.slice) (.go 6 (.r (.int .i64)) (.nil)))))))) []) (.leaf)))) (.seq (.reg (.op .p (.op (.ld (.agg)) (.op .p (.op (.ld (.agg)) (.op (.r (.slice)) (.op (.r (.slice)) (.op .p (.nil))))))))) (.seq (.reg (.op .p (.op (.cl [.slice]) (.op .p (.nil))))) (.reg (.op .p (.op (.ld (.agg)) (.op .p (.op (.ld (.agg)) (.op (.r (.slice)) (.op (.r (.slice)) (.op .p (.nil))))))))))))))) (.reg (.op .p (.op .p (.nil)))))))))) (.seq (.reg (.op .p (.op .p (.op .p (.op .p (.nil)))))) (.leaf))))))
    (by kernel_rfl) Tryd.func12 (by kernel_rfl) (by kernel_rfl) (by kernel_rfl) (by kernel_rfl) h

set_option maxRecDepth 100000 in
theorem amphoralaw13_Case_large_vc (a0 : Array Value) (w : World) (R : Ending → World → Prop) (h :
  ∃ (g1 : Nat) (w1 : World), (Instr.box 39 (.agg a0)).run Tryd.prog w = .ok (.pointer (some ⟨g1, 0, none⟩)) w1 ∧
  (∃ (t4a : Option Addr) (t4n : Nat) (t4c : Nat), (Instr.loadAt 35 (.pointer (some ⟨g1, 34, none⟩))).run Tryd.prog w1 = .ok (.slice t4a t4n t4c) w1 ∧
    (((decide (((t4n : Nat) : Int) > (100 : Int))) = true →
        (R (.returned (.bool true)) w1)) ∧
      ((decide (((t4n : Nat) : Int) > (100 : Int))) = false →
        (∃ (t9a : Option Addr) (t9n : Nat) (t9c : Nat), (Instr.loadAt 35 (.pointer (some ⟨g1, 34, none⟩))).run Tryd.prog w1 = .ok (.slice t9a t9n t9c) w1 ∧
          (Calls Tryd.prog 20 #[(.slice t9a t9n t9c), (.int .i64 1048576)] w1 fun (e10 : Ending) (w2 : World) => ∃ (t10 : Int), e10 = .returned (.int .i64 t10) ∧
            (R (.returned (.bool (decide (t10 > (16384 : Int))))) w2))))))) : Calls Tryd.prog 10 #[(.agg a0)] w R :=
  calls_of_ev (args := [(.agg a0)])
    (tc := .seq (.reg (.op .bx (.op .p (.nil)))) (.seq (.reg (.op .p (.op (.ld (.slice)) (.op .p (.op .p (.op .p (.sp 7 (.op .p (.op .p (.op .p (.op .p (.op .p (.op .p (.nil))))))) (.op .p (.op (.ld (.slice)) (.op (.cl [.int .i64]) (.op .p (.op .p (.op .p (.nil)))))))))))))) (.leaf)))
    (by kernel_rfl) Tryd.func10 (by kernel_rfl) (by kernel_rfl) (by kernel_rfl) (by kernel_rfl) h

set_option maxRecDepth 100000 in
theorem amphoralaw13_PackCuts_vc (a0a : Option Addr) (a0n : Nat) (a0c : Nat) (a1 : Array Value) (w : World) (R : Ending → World → Prop) (h :
  ∃ (g3 : Nat) (w1 : World), (Instr.box 26 (.agg a1)).run Tryd.prog w = .ok (.pointer (some ⟨g3, 0, none⟩)) w1 ∧
  (Calls Tryd.prog 5 #[] w1 fun (e10 : Ending) (w2 : World) => ∃ (t10 : Bool), e10 = .returned (.bool t10) ∧
    (((!t10) = true →
        (R (.returned (.bool false)) w2)) ∧
      ((!t10) = false →
        (Calls Tryd.prog 6 #[(.slice a0a a0n a0c)] w2 fun (e13 : Ending) (w3 : World) => ∃ (t13a : Option Addr) (t13n : Nat) (t13c : Nat), e13 = .returned (.slice t13a t13n t13c) ∧
          (∃ (t16 : Array Value), (Instr.loadAt 26 (.pointer (some ⟨g3, 0, none⟩))).run Tryd.prog w3 = .ok (.agg t16) w3 ∧
            (Calls Tryd.prog 7 #[(.slice t13a t13n t13c), (.agg t16)] w3 fun (e17 : Ending) (w4 : World) => ∃ (t17_0a : Option Addr) (t17_0n : Nat) (t17_0c : Nat) (t17_1 : Value), e17 = .returned (.tuple #[(.slice t17_0a t17_0n t17_0c), t17_1]) ∧
              (∃ (t22 : Array Value), (Instr.loadAt 26 (.pointer (some ⟨g3, 0, none⟩))).run Tryd.prog w4 = .ok (.agg t22) w4 ∧
                (Calls Tryd.prog 7 #[(.slice t13a t13n t13c), (.agg t22)] w4 fun (e23 : Ending) (w5 : World) => ∃ (t23_0a : Option Addr) (t23_0n : Nat) (t23_0c : Nat) (t23_1 : Value), e23 = .returned (.tuple #[(.slice t23_0a t23_0n t23_0c), t23_1]) ∧
                  (∃ J : Bool → World → Prop, (∃ (t27 : Int), (Instr.loadAt 3 (.pointer (some ⟨g3, 33, none⟩))).run Tryd.prog w5 = .ok (.int .i64 t27) w5 ∧
                      (((decide (t27 < (0 : Int))) = true →
                          (J true w5)) ∧
                        ((decide (t27 < (0 : Int))) = false →
                          (∃ (t31 : Int), (Instr.loadAt 3 (.pointer (some ⟨g3, 34, none⟩))).run Tryd.prog w5 = .ok (.int .i64 t31) w5 ∧
                            (((decide (t31 < (0 : Int))) = true →
                                (J true w5)) ∧
                              ((decide (t31 < (0 : Int))) = false →
                                (∃ (t36 : Int), (Instr.loadAt 3 (.pointer (some ⟨g3, 33, none⟩))).run Tryd.prog w5 = .ok (.int .i64 t36) w5 ∧
                                  (((decide (t36 > ((a0n : Nat) : Int))) = true →
                                      (J true w5)) ∧
                                    ((decide (t36 > ((a0n : Nat) : Int))) = false →
                                      (∃ (t43 : Int), (Instr.loadAt 3 (.pointer (some ⟨g3, 34, none⟩))).run Tryd.prog w5 = .ok (.int .i64 t43) w5 ∧
                                        (∃ (t47 : Int), (Instr.loadAt 3 (.pointer (some ⟨g3, 33, none⟩))).run Tryd.prog w5 = .ok (.int .i64 t47) w5 ∧
                                          (J (decide (t43 > (IntKind.wrap .i64 (((a0n : Nat) : Int) - t47)))) w5)))))))))))) ∧
                    (∀ (x50 : Bool), ∀ w6 : World, J x50 w6 →
                      ((x50 = true →
                          (((((t17_0n : Nat) : Int) == (0 : Int)) = true →
                              (∃ (t57 : Bool), (eqlS .eql 30 (.tmp 55) (.tmp 56) t17_1 (.iface 33 (.int .i64 7))).run Tryd.prog w6 = .ok (.bool t57) w6 ∧
                                (R (.returned (.bool t57)) w6))) ∧
                            ((((t17_0n : Nat) : Int) == (0 : Int)) = false →
                              (R (.returned (.bool false)) w6)))) ∧
                        (x50 = false →
                          (∃ S : World → Prop, S w6.drew ∧
                            (∃ (t60 : Bool), (∀ w' : World, S w' → (eqlS .eql 30 (.tmp 59) (.const .nilIface) t17_1 .nilIface).run Tryd.prog w' = .ok (.bool t60) w') ∧
                              ((t60 = true →
                                  (∃ (t63 : ByteArray), (∀ w' : World, S w' → (convert 22 9 (.slice t17_0a t17_0n t17_0c)).run Tryd.prog w' = .ok (.string t63) w') ∧
                                    (∃ (t66 : Int), (∀ w' : World, S w' → (Instr.loadAt 3 (.pointer (some ⟨g3, 33, none⟩))).run Tryd.prog w' = .ok (.int .i64 t66) w') ∧
                                      (∃ (t68 : Int), (∀ w' : World, S w' → (Instr.loadAt 3 (.pointer (some ⟨g3, 33, none⟩))).run Tryd.prog w' = .ok (.int .i64 t68) w') ∧
                                        (∃ (t70 : Int), (∀ w' : World, S w' → (Instr.loadAt 3 (.pointer (some ⟨g3, 34, none⟩))).run Tryd.prog w' = .ok (.int .i64 t70) w') ∧
                                          (0 ≤ t66 ∧ t66 ≤ (IntKind.wrap .i64 (t68 + t70)) ∧ (IntKind.wrap .i64 (t68 + t70)) ≤ ((a0c : Nat) : Int) ∧ ∀ t72a : Option Addr, SubA 1 a0a (Int.toNat t66) a0c t72a →
                                            (∃ (t73 : ByteArray), (∀ w' : World, S w' → (convert 22 9 (.slice t72a ((Int.toNat (IntKind.wrap .i64 (t68 + t70))) - (Int.toNat t66)) (a0c - (Int.toNat t66)))).run Tryd.prog w' = .ok (.string t73) w') ∧
                                              (((t63.toList == t73.toList) = true →
                                                  (∃ (t79a : Option Addr) (t79n : Nat) (t79c : Nat) (w7 : World), (Instr.buildSlice 35 2 #[(0, (.slice t17_0a t17_0n t17_0c)), (1, (.slice t23_0a t23_0n t23_0c))]).run Tryd.prog w6.drew = .ok (.slice t79a t79n t79c) w7 ∧
                                                    (Calls Tryd.prog 8 #[(.slice t79a t79n t79c)] w7 fun (e80 : Ending) (w8 : World) => ∃ (t80 : Bool), e80 = .returned (.bool t80) ∧
                                                      ((t80 = true →
                                                          (Calls Tryd.prog 9 #[(.slice t13a t13n t13c), (.slice a0a a0n a0c)] w8 fun (e85 : Ending) (w9 : World) => ∃ (t85 : Bool), e85 = .returned (.bool t85) ∧
                                                            (R (.returned (.bool t85)) w9))) ∧
                                                        (t80 = false →
                                                          (R (.returned (.bool false)) w8)))))) ∧
                                                ((t63.toList == t73.toList) = false →
                                                  (R (.returned (.bool false)) w6.drew)))))))))) ∧
                                (t60 = false →
                                  (R (.returned (.bool false)) w6.drew)))))))))))))))))) : Calls Tryd.prog 3 #[(.slice a0a a0n a0c), (.agg a1)] w R :=
  calls_of_ev (args := [(.slice a0a a0n a0c), (.agg a1)])
    (tc := .seq (.reg (.op .bx (.op .p (.nil)))) (.seq (.seq (.reg (.op (.cl [.bool]) (.op .p (.nil)))) (.cond (.seq (.reg (.op .p (.nil))) (.leaf)) (.leaf))) (.seq (.reg (.op .p (.op (.cl [.slice]) (.op .p (.nil))))) (.seq (.reg (.op .p (.op (.ld (.agg)) (.op (.cl [.slice, .val]) (.op .p (.op .p (.op .p (.op .p (.op .p (.nil)))))))))) (.seq (.reg (.op .p (.op (.ld (.agg)) (.op (.cl [.slice, .val]) (.op .p (.op .p (.op .p (.op .p (.op .p (.nil)))))))))) (.seq (.seq (.join [26, 27, 28, 29, 30, 31, 32, 33, 34, 35, 36, 37, 38, 39, 40, 41, 42, 43, 44, 45, 46, 47, 48, 49, 50] [50] [.bool] (.reg (.op .p (.op (.ld (.int .i64)) (.op .p (.op .p (.sp 29 (.op .p (.op .p (.op .p (.op .p (.op .p (.op .p (.op .p (.op .p (.op .p (.op .p (.op .p (.op .p (.op .p (.op .p (.op .p (.op .p (.op .p (.op .p (.op .p (.op .p (.op .p (.nil)))))))))))))))))))))) (.op .p (.op (.ld (.int .i64)) (.op .p (.op .p (.op .p (.sp 34 (.op .p (.op .p (.op .p (.op .p (.op .p (.op .p (.op .p (.op .p (.op .p (.op .p (.op .p (.op .p (.op .p (.op .p (.op .p (.op .p (.nil))))))))))))))))) (.op .p (.op (.ld (.int .i64)) (.op .p (.op .p (.op .p (.op .p (.op .p (.sp 41 (.op .p (.op .p (.op .p (.op .p (.op .p (.op .p (.op .p (.op .p (.op .p (.nil)))))))))) (.op .p (.op (.ld (.int .i64)) (.op .p (.op .p (.op .p (.op (.ld (.int .i64)) (.op .p (.op .p (.op .p (.nil))))))))))))))))))))))))))))))) (.cond (.seq (.reg (.op .p (.op .p (.op .p (.op .p (.sp 54 (.op .p (.op .p (.op (.ld (.bool)) (.op .p (.op .p (.nil)))))) (.op .p (.op .p (.op .p (.op .p (.op .p (.nil)))))))))))) (.leaf)) (.leaf))) (.seq (.drawS (.tk 0 .p (.ts 1 (.bool) (.tk 2 .p (.sp 61 (.tk 3 .p (.tk 5 .p (.tk 6 .p (.tk 8 .p (.tk 10 .p (.ts 4 (.str) (.ts 7 (.int .i64) (.ts 9 (.int .i64) (.ts 11 (.int .i64) (.tk 12 .p (.tk 13 .sl (.ts 14 (.str) (.tk 15 .p (.tk 16 .p (.tk 17 .p (.sp 76 (.tk 18 .p (.tk 19 .p (.go 20 (.r (.slice)) (.go 21 (.cl [.bool]) (.tk 22 .p (.tk 23 .p (.sp 82 (.tk 24 .p (.tk 25 .p (.go 26 (.cl [.bool]) (.tk 27 .p (.tk 28 .p (.nil)))))) (.tk 24 .p (.tk 25 .p (.go 26 .p (.tk 27 .p (.tk 28 .p (.nil))))))))))))) (.tk 18 .p (.tk 19 .p (.go 20 .p (.go 21 .p (.tk 22 .p (.tk 23 .p (.tk 24 .p (.tk 25 .p (.go 26 .p (.tk 27 .p (.tk 28 .p (.nil)))))))))))))))))))))))))))) (.tk 3 .p (.tk 5 .p (.tk 6 .p (.tk 8 .p (.tk 10 .p (.ts 4 .val (.ts 7 .val (.ts 9 .val (.ts 11 .val (.tk 12 .p (.tk 13 .p (.ts 14 .val (.tk 15 .p (.tk 16 .p (.tk 17 .p (.tk 18 .p (.tk 19 .p (.go 20 .p (.go 21 .p (.tk 22 .p (.tk 23 .p (.tk 24 .p (.tk 25 .p (.go 26 .p (.tk 27 .p (.tk 28 .p (.nil))))))))))))))))))))))))))))))) [20, 21, 22, 23, 24, 25, 26, 27, 28]) (.leaf))))))))
    (by kernel_rfl) Tryd.func3 (by kernel_rfl) (by kernel_rfl) (by kernel_rfl) (by kernel_rfl) h

set_option maxRecDepth 100000 in
theorem amphoralaw13_PackBack_vc (a0 : Array Value) (a1 : Int) (w : World) (R : Ending → World → Prop) (h :
  ∃ (g2 : Nat) (w1 : World), (Instr.box 39 (.agg a0)).run Tryd.prog w = .ok (.pointer (some ⟨g2, 0, none⟩)) w1 ∧
  (Calls Tryd.prog 5 #[] w1 fun (e22 : Ending) (w2 : World) => ∃ (t22 : Bool), e22 = .returned (.bool t22) ∧
    (((!t22) = true →
        (R (.returned (.bool false)) w2)) ∧
      ((!t22) = false →
        (∃ (t24 : Array Value), (Instr.loadAt 39 (.pointer (some ⟨g2, 0, none⟩))).run Tryd.prog w2 = .ok (.agg t24) w2 ∧
          (Calls Tryd.prog 10 #[(.agg t24)] w2 fun (e25 : Ending) (w3 : World) => ∃ (t25 : Bool), e25 = .returned (.bool t25) ∧
            ((t25 = true →
                (R (.returned (.bool true)) w3)) ∧
              (t25 = false →
                (∃ (t27 : Array Value), (Instr.loadAt 23 (.pointer (some ⟨g2, 0, none⟩))).run Tryd.prog w3 = .ok (.agg t27) w3 ∧
                  (Calls Tryd.prog 11 #[(.agg t27)] w3 fun (e28 : Ending) (w4 : World) => ∃ (t28 : Array Value), e28 = .returned (.agg t28) ∧
                    (∃ (g5 : Nat) (w5 : World), (Instr.alloc 41 true (.tuple #[])).run Tryd.prog w4 = .ok (.pointer (some ⟨g5, 0, none⟩)) w5 ∧
                      (∃ w6 : World, (Instr.storeAt 41 (.pointer (some ⟨g5, 0, none⟩)) (.agg t28)).run Tryd.prog w5 = .ok () w6 ∧
                        (∃ (t30 : Array Value), (Instr.loadAt 39 (.pointer (some ⟨g2, 0, none⟩))).run Tryd.prog w6 = .ok (.agg t30) w6 ∧
                          (Calls Tryd.prog 12 #[(.agg t30)] w6 fun (e31 : Ending) (w7 : World) => ∃ (t31_0a : Option Addr) (t31_0n : Nat) (t31_0c : Nat) (t31_1a : Option Addr) (t31_1n : Nat) (t31_1c : Nat), e31 = .returned (.tuple #[(.slice t31_0a t31_0n t31_0c), (.slice t31_1a t31_1n t31_1c)]) ∧
                            (∃ (t35 : Array Value), (Instr.loadAt 41 (.pointer (some ⟨g5, 0, none⟩))).run Tryd.prog w7 = .ok (.agg t35) w7 ∧
                              (∃ (t37 : Int), (Instr.loadAt 3 (.pointer (some ⟨g2, 32, none⟩))).run Tryd.prog w7 = .ok (.int .i64 t37) w7 ∧
                                (Calls Tryd.prog 13 #[(.agg t35), (.int .i64 t37), (.slice t31_0a t31_0n t31_0c)] w7 fun (e39 : Ending) (w8 : World) => ∃ (t39_0a : Option Addr) (t39_0n : Nat) (t39_0c : Nat) (t39_1a : Option Addr) (t39_1n : Nat) (t39_1c : Nat) (t39_2 : Value), e39 = .returned (.tuple #[(.slice t39_0a t39_0n t39_0c), (.slice t39_1a t39_1n t39_1c), t39_2]) ∧
                                  (∃ (t44 : Bool), (eqlS .neq 30 (.tmp 43) (.const .nilIface) t39_2 .nilIface).run Tryd.prog w8 = .ok (.bool t44) w8 ∧
                                    ((t44 = true →
                                        (∃ (t46 : Int), (Instr.loadAt 3 (.pointer (some ⟨g2, 32, none⟩))).run Tryd.prog w8 = .ok (.int .i64 t46) w8 ∧
                                          (Calls Tryd.prog 14 #[(.int .i64 t46)] w8 fun (e47 : Ending) (w9 : World) => ∃ (t47 : Bool), e47 = .returned (.bool t47) ∧
                                            (R (.returned (.bool (!t47))) w9)))) ∧
                                      (t44 = false →
                                        (∃ (t50 : Array Value), (Instr.loadAt 41 (.pointer (some ⟨g5, 0, none⟩))).run Tryd.prog w8 = .ok (.agg t50) w8 ∧
                                          (∃ (t52 : Int), (Instr.loadAt 3 (.pointer (some ⟨g2, 32, none⟩))).run Tryd.prog w8 = .ok (.int .i64 t52) w8 ∧
                                            (Calls Tryd.prog 15 #[(.agg t50), (.int .i64 t52), (.slice t39_0a t39_0n t39_0c)] w8 fun (e54 : Ending) (w10 : World) => ∃ (t54_0a : Option Addr) (t54_0n : Nat) (t54_0c : Nat) (t54_1 : Value), e54 = .returned (.tuple #[(.slice t54_0a t54_0n t54_0c), t54_1]) ∧
                                              (∃ J : Bool → World → Prop, (∃ (t58 : Bool), (eqlS .neq 30 (.tmp 57) (.const .nilIface) t54_1 .nilIface).run Tryd.prog w10 = .ok (.bool t58) w10 ∧
                                                  ((t58 = true →
                                                      (J true w10)) ∧
                                                    (t58 = false →
                                                      (Calls Tryd.prog 16 #[(.slice t54_0a t54_0n t54_0c), (.slice t39_1a t39_1n t39_1c)] w10 fun (e62 : Ending) (w11 : World) => ∃ (t62 : Bool), e62 = .returned (.bool t62) ∧
                                                        (J ((!t62) || (((t39_1n : Nat) : Int) != ((t31_0n : Nat) : Int))) w11))))) ∧
                                                (∀ (x71 : Bool), ∀ w12 : World, J x71 w12 →
                                                  ((x71 = true →
                                                      (R (.returned (.bool false)) w12)) ∧
                                                    (x71 = false →
                                                      (∃ (I : Int → World → Prop) (μ : Int → World → Nat), I 0 w12 ∧
                                                        (∀ (x74 : Int), ∀ w13 : World, I x74 w13 →
                                                          (((decide (x74 < ((t39_1n : Nat) : Int))) = true →
                                                              (∃ (t77b t77o : Nat), t39_1a = some ⟨t77b, t77o, none⟩ ∧ 0 ≤ x74 ∧ x74 < ((t39_1n : Nat) : Int) ∧
                                                                (∃ (t78 : Array Value), (Instr.loadAt 26 (.pointer (some ⟨t77b, t77o + Int.toNat x74 * 35, none⟩))).run Tryd.prog w13 = .ok (.agg t78) w13 ∧
                                                                  (∃ (g14 : Nat) (w14 : World), (Instr.alloc 26 true (.tuple #[])).run Tryd.prog w13 = .ok (.pointer (some ⟨g14, 0, none⟩)) w14 ∧
                                                                    (∃ w15 : World, (Instr.storeAt 26 (.pointer (some ⟨g14, 0, none⟩)) (.agg t78)).run Tryd.prog w14 = .ok () w15 ∧
                                                                      (∃ (t81 : Array Value), (Instr.loadAt 26 (.pointer (some ⟨g14, 0, none⟩))).run Tryd.prog w15 = .ok (.agg t81) w15 ∧
                                                                        (Calls Tryd.prog 7 #[(.slice t39_0a t39_0n t39_0c), (.agg t81)] w15 fun (e82 : Ending) (w16 : World) => ∃ (t82_0a : Option Addr) (t82_0n : Nat) (t82_0c : Nat) (t82_1 : Value), e82 = .returned (.tuple #[(.slice t82_0a t82_0n t82_0c), t82_1]) ∧
                                                                          (∃ J_1 : Bool → World → Prop, (∃ S : World → Prop, S w16.drew ∧
                                                                              (∃ (t86 : Bool), (∀ w' : World, S w' → (eqlS .neq 30 (.tmp 85) (.const .nilIface) t82_1 .nilIface).run Tryd.prog w' = .ok (.bool t86) w') ∧
                                                                                ((t86 = true →
                                                                                (J_1 true w16.drew)) ∧
                                                                                (t86 = false →
                                                                                (∃ (t92b t92o : Nat), t31_0a = some ⟨t92b, t92o, none⟩ ∧ 0 ≤ x74 ∧ x74 < ((t31_0n : Nat) : Int) ∧
                                                                                (∃ (t89 : Array Value), (∀ w' : World, S w' → (Instr.loadAt 24 (.pointer (some ⟨g14, 0, none⟩))).run Tryd.prog w' = .ok (.agg t89) w') ∧
                                                                                (∃ (t94 : Array Value), (∀ w' : World, S w' → (Instr.loadAt 24 (.pointer (some ⟨t92b, t92o + Int.toNat x74 * 33, none⟩))).run Tryd.prog w' = .ok (.agg t94) w') ∧
                                                                                (∃ (t95 : Bool), (∀ w' : World, S w' → (eqlS .neq 24 (.tmp 89) (.tmp 94) (.agg t89) (.agg t94)).run Tryd.prog w' = .ok (.bool t95) w') ∧
                                                                                ((t95 = true →
                                                                                (J_1 true w16.drew)) ∧
                                                                                (t95 = false →
                                                                                (∃ (t99 : Int), (∀ w' : World, S w' → (Instr.loadAt 3 (.pointer (some ⟨g14, 32, none⟩))).run Tryd.prog w' = .ok (.int .i64 t99) w') ∧
                                                                                (∃ (t101 : Int), (∀ w' : World, S w' → (Instr.loadAt 3 (.pointer (some ⟨g2, 32, none⟩))).run Tryd.prog w' = .ok (.int .i64 t101) w') ∧
                                                                                (((t99 != t101) = true →
                                                                                (J_1 true w16.drew)) ∧
                                                                                ((t99 != t101) = false →
                                                                                (∃ (t109b t109o : Nat), t31_0a = some ⟨t109b, t109o, none⟩ ∧ 0 ≤ x74 ∧ x74 < ((t31_0n : Nat) : Int) ∧
                                                                                (∃ (t106 : ByteArray), (∀ w' : World, S w' → (convert 22 9 (.slice t82_0a t82_0n t82_0c)).run Tryd.prog w' = .ok (.string t106) w') ∧
                                                                                (∃ (t111a : Option Addr) (t111n : Nat) (t111c : Nat), (∀ w' : World, S w' → (Instr.loadAt 22 (.pointer (some ⟨t109b, t109o + Int.toNat x74 * 33 + 32, none⟩))).run Tryd.prog w' = .ok (.slice t111a t111n t111c) w') ∧
                                                                                (∃ (t112 : ByteArray), (∀ w' : World, S w' → (convert 22 9 (.slice t111a t111n t111c)).run Tryd.prog w' = .ok (.string t112) w') ∧
                                                                                (J_1 (!(t106.toList == t112.toList)) w16.drew))))))))))))))))))) ∧
                                                                            (∀ (x114 : Bool), ∀ w17 : World, J_1 x114 w17 →
                                                                              ((x114 = true →
                                                                                (R (.returned (.bool false)) w17)) ∧
                                                                                (x114 = false →
                                                                                (I (IntKind.wrap .i64 (x74 + (1 : Int))) w17 ∧ μ (IntKind.wrap .i64 (x74 + (1 : Int))) w17 < μ x74 w13)))))))))))) ∧
                                                            ((decide (x74 < ((t39_1n : Nat) : Int))) = false →
                                                              ((((decide (a1 < (16 : Int))) || (decide (a1 ≥ ((t39_0n : Nat) : Int)))) = true →
                                                                  (R (.returned (.bool true)) w13)) ∧
                                                                (((decide (a1 < (16 : Int))) || (decide (a1 ≥ ((t39_0n : Nat) : Int)))) = false →
                                                                  (∃ S : World → Prop, S w13.drew ∧
                                                                    (0 ≤ a1 ∧ a1 ≤ ((t39_0c : Nat) : Int) ∧
                                                                      (∃ (t125 : Array Value), (∀ w' : World, S w' → (Instr.loadAt 41 (.pointer (some ⟨g5, 0, none⟩))).run Tryd.prog w' = .ok (.agg t125) w') ∧
                                                                        (∃ (t127 : Int), (∀ w' : World, S w' → (Instr.loadAt 3 (.pointer (some ⟨g2, 32, none⟩))).run Tryd.prog w' = .ok (.int .i64 t127) w') ∧
                                                                          (Calls Tryd.prog 15 #[(.agg t125), (.int .i64 t127), (.slice t39_0a (Int.toNat a1) t39_0c)] w13.drew fun (e131 : Ending) (w18 : World) => ∃ (t131_0a : Option Addr) (t131_0n : Nat) (t131_0c : Nat) (t131_1 : Value), e131 = .returned (.tuple #[(.slice t131_0a t131_0n t131_0c), t131_1]) ∧
                                                                            (∃ S_1 : World → Prop, (∀ w' : World, S_1 w' → S w') ∧ S_1 w18 ∧
                                                                              (0 ≤ a1 ∧ a1 ≤ ((t39_0c : Nat) : Int) ∧
                                                                                (Calls Tryd.prog 17 #[(.slice t39_0a (Int.toNat a1) t39_0c)] w18 fun (e138 : Ending) (w19 : World) => ∃ (t138_0 : Int) (t138_1a : Option Addr) (t138_1n : Nat) (t138_1c : Nat) (t138_2 : Int) (t138_3 : Value), e138 = .returned (.tuple #[(.int .i64 t138_0), (.slice t138_1a t138_1n t138_1c), (.int .i64 t138_2), t138_3]) ∧
                                                                                (∃ (I_1 : Int → World → Prop) (μ_1 : Int → World → Nat), I_1 0 w19 ∧
                                                                                (∀ (x21 : Int), ∀ w20 : World, I_1 x21 w20 →
                                                                                (∃ J_1 : Bool → World → Prop, (∃ S_2 : World → Prop, S_2 w20.drew ∧
                                                                                (((decide (x21 < ((t39_1n : Nat) : Int))) = true →
                                                                                (∃ (t150b t150o : Nat), t39_1a = some ⟨t150b, t150o, none⟩ ∧ 0 ≤ x21 ∧ x21 < ((t39_1n : Nat) : Int) ∧
                                                                                (∃ (t155b t155o : Nat), t39_1a = some ⟨t155b, t155o, none⟩ ∧ 0 ≤ x21 ∧ x21 < ((t39_1n : Nat) : Int) ∧
                                                                                (∃ (t152 : Int), (∀ w' : World, S_2 w' → (Instr.loadAt 3 (.pointer (some ⟨t150b, t150o + Int.toNat x21 * 35 + 33, none⟩))).run Tryd.prog w' = .ok (.int .i64 t152) w') ∧
                                                                                (∃ (t157 : Int), (∀ w' : World, S_2 w' → (Instr.loadAt 3 (.pointer (some ⟨t155b, t155o + Int.toNat x21 * 35 + 34, none⟩))).run Tryd.prog w' = .ok (.int .i64 t157) w') ∧
                                                                                (J_1 (decide ((IntKind.wrap .i64 (t152 + t157)) ≤ a1)) w20.drew)))))) ∧
                                                                                ((decide (x21 < ((t39_1n : Nat) : Int))) = false →
                                                                                (J_1 false w20.drew)))) ∧
                                                                                (∀ (x161 : Bool), ∀ w21 : World, J_1 x161 w21 →
                                                                                ((x161 = true →
                                                                                (I_1 (IntKind.wrap .i64 (x21 + (1 : Int))) w21 ∧ μ_1 (IntKind.wrap .i64 (x21 + (1 : Int))) w21 < μ_1 x21 w20)) ∧
                                                                                (x161 = false →
                                                                                (∃ (t166 : Bool), (eqlS .eql 30 (.tmp 164) (.tmp 165) t131_1 (.iface 33 (.int .i64 17))).run Tryd.prog w21 = .ok (.bool t166) w21 ∧
                                                                                ((t166 = true →
                                                                                (∃ (t169 : Bool), (eqlS .eql 30 (.tmp 168) (.const .nilIface) t138_3 .nilIface).run Tryd.prog w21 = .ok (.bool t169) w21 ∧
                                                                                ((t169 = true →
                                                                                (∃ (t174 : Int), (Instr.loadAt 3 (.pointer (some ⟨g2, 32, none⟩))).run Tryd.prog w21 = .ok (.int .i64 t174) w21 ∧
                                                                                (((t138_0 == t174) = true →
                                                                                (0 ≤ x21 ∧ x21 ≤ ((t39_1c : Nat) : Int) ∧
                                                                                (Calls Tryd.prog 16 #[(.slice t138_1a t138_1n t138_1c), (.slice t39_1a (Int.toNat x21) t39_1c)] w21 fun (e182 : Ending) (w22 : World) => ∃ (t182 : Bool), e182 = .returned (.bool t182) ∧
                                                                                (R (.returned (.bool (t182 && (decide (t138_2 ≤ a1))))) w22)))) ∧
                                                                                ((t138_0 == t174) = false →
                                                                                (R (.returned (.bool false)) w21))))) ∧
                                                                                (t169 = false →
                                                                                (R (.returned (.bool false)) w21))))) ∧
                                                                                (t166 = false →
                                                                                (R (.returned (.bool false)) w21))))))))))))))))))))))))))))))))))))))))))))))))))) : Calls Tryd.prog 4 #[(.agg a0), (.int .i64 a1)] w R :=
  calls_of_ev (args := [(.agg a0), (.int .i64 a1)])
    (tc := .seq (.reg (.op .bx (.op .p (.nil)))) (.seq (.seq (.reg (.op (.cl [.bool]) (.op .p (.nil)))) (.cond (.seq (.reg (.op .p (.nil))) (.leaf)) (.leaf))) (.seq (.seq (.reg (.op (.ld (.agg)) (.op (.cl [.bool]) (.nil)))) (.cond (.seq (.reg (.op .p (.nil))) (.leaf)) (.leaf))) (.seq (.reg (.op .p (.op (.ld (.agg)) (.op (.cl [.agg]) (.op .bx (.op .u (.nil))))))) (.seq (.reg (.op (.ld (.agg)) (.op (.cl [.slice, .slice]) (.op .p (.op .p (.op .p (.op .p (.op .p (.nil))))))))) (.seq (.reg (.op (.ld (.agg)) (.op .p (.op (.ld (.int .i64)) (.op .p (.op (.cl [.slice, .slice, .val]) (.op .p (.op .p (.op .p (.op .p (.op .p (.op .p (.op .p (.nil)))))))))))))) (.seq (.seq (.reg (.op .p (.op (.ld (.bool)) (.nil)))) (.cond (.seq (.reg (.op .p (.op (.ld (.int .i64)) (.op (.cl [.bool]) (.op .p (.op .p (.nil))))))) (.leaf)) (.leaf))) (.seq (.reg (.op (.ld (.agg)) (.op .p (.op (.ld (.int .i64)) (.op .p (.op (.cl [.slice, .val]) (.op .p (.op .p (.op .p (.op .p (.op .p (.nil)))))))))))) (.seq (.seq (.join [57, 58, 59, 60, 61, 62, 63, 64, 65, 66, 67, 68, 69, 70, 71] [71] [.bool] (.reg (.op .p (.op (.ld (.bool)) (.op .p (.sp 59 (.op .p (.op .p (.op .p (.op .p (.op .p (.op .p (.op .p (.op .p (.op .p (.op .p (.op .p (.op .p (.nil))))))))))))) (.op .p (.op .p (.op (.cl [.bool]) (.op .p (.op .p (.op .p (.ap 5 (.nil)))))))))))))) (.cond (.seq (.reg (.op .p (.nil))) (.leaf)) (.leaf))) (.seq (.seq (.reg (.op .p (.op .p (.op .p (.nil))))) (.blk (.loop [4, 13, 14, 15, 16, 74, 75, 76, 77, 78, 79, 80, 81, 82, 83, 84, 85, 86, 87, 88, 89, 90, 91, 92, 93, 94, 95, 96, 97, 98, 99, 100, 101, 102, 103, 104, 105, 106, 107, 108, 109, 110, 111, 112, 113, 114, 115] [74] [.int .i64] (.seq (.reg (.op .p (.nil))) (.seq (.cond (.leaf) (.leaf)) (.seq (.blk (.seq (.reg (.op .p (.op .ix (.op (.ld (.agg)) (.op .bx (.op .p (.op .u (.nil)))))))) (.seq (.reg (.op .p (.op (.ld (.agg)) (.op (.cl [.slice, .val]) (.op .p (.op .p (.op .p (.op .p (.op .p (.nil)))))))))) (.seq (.join [85, 86, 87, 88, 89, 90, 91, 92, 93, 94, 95, 96, 97, 98, 99, 100, 101, 102, 103, 104, 105, 106, 107, 108, 109, 110, 111, 112, 113, 114] [114] [.bool] (.drawS (.tk 0 .p (.ts 1 (.bool) (.tk 2 .p (.sp 87 (.tk 3 .p (.tk 5 .p (.tk 6 .p (.tk 7 .p (.tk 8 .p (.ts 4 .val (.ts 9 .val (.ts 10 .val (.tk 11 .p (.tk 12 .p (.tk 13 .p (.tk 15 .p (.ts 14 .val (.ts 16 .val (.tk 17 .p (.tk 18 .p (.tk 19 .p (.tk 20 .p (.tk 22 .p (.tk 23 .p (.tk 24 .p (.tk 25 .p (.ts 21 .val (.ts 26 .val (.ts 27 .val (.tk 28 .p (.tk 29 .p (.nil)))))))))))))))))))))))))))) (.tk 3 .p (.tk 5 .p (.tk 6 .p (.tk 7 .ix (.tk 8 .p (.ts 4 (.agg) (.ts 9 (.agg) (.ts 10 (.bool) (.tk 11 .p (.tk 12 .p (.sp 97 (.tk 13 .p (.tk 15 .p (.ts 14 .val (.ts 16 .val (.tk 17 .p (.tk 18 .p (.tk 19 .p (.tk 20 .p (.tk 22 .p (.tk 23 .p (.tk 24 .p (.tk 25 .p (.ts 21 .val (.ts 26 .val (.ts 27 .val (.tk 28 .p (.tk 29 .p (.nil)))))))))))))))))) (.tk 13 .p (.tk 15 .p (.ts 14 (.int .i64) (.ts 16 (.int .i64) (.tk 17 .p (.tk 18 .p (.tk 19 .p (.sp 104 (.tk 20 .p (.tk 22 .p (.tk 23 .p (.tk 24 .p (.tk 25 .p (.ts 21 .val (.ts 26 .val (.ts 27 .val (.tk 28 .p (.tk 29 .p (.nil))))))))))) (.tk 20 .p (.tk 22 .p (.tk 23 .p (.tk 24 .ix (.tk 25 .p (.ts 21 (.str) (.ts 26 (.slice) (.ts 27 (.str) (.tk 28 .p (.tk 29 .p (.nil)))))))))))))))))))))))))))))))))) [])) (.cond (.seq (.reg (.op .p (.nil))) (.leaf)) (.leaf)))))) (.reg (.op .p (.op .p (.nil)))))))))) (.seq (.seq (.reg (.op .p (.op .p (.op .p (.ap 4 (.nil)))))) (.cond (.seq (.reg (.op .p (.nil))) (.leaf)) (.leaf))) (.seq (.drawS (.tk 1 .p (.tk 3 .p (.tk 4 .p (.tk 5 .sl (.ts 0 (.agg) (.ts 2 (.int .i64) (.go 6 (.cl [.slice, .val]) (.tk 7 .p (.tk 8 .p (.tk 9 .p (.tk 10 .p (.nil)))))))))))) []) (.seq (.reg (.op .p (.op .p (.op .sl (.op (.cl [.int .i64, .slice, .int .i64, .val]) (.op .p (.op .p (.op .p (.op .p (.op .p (.op .p (.op .p (.op .p (.op .p (.nil))))))))))))))) (.seq (.reg (.op .p (.nil))) (.seq (.blk (.loop [21, 143, 144, 145, 146, 147, 148, 149, 150, 151, 152, 153, 154, 155, 156, 157, 158, 159, 160, 161, 162, 163] [21] [.int .i64] (.seq (.seq (.join [143, 144, 145, 146, 147, 148, 149, 150, 151, 152, 153, 154, 155, 156, 157, 158, 159, 160, 161] [161] [.bool] (.drawS (.tk 0 .p (.tk 1 .p (.tk 2 .p (.tk 3 .p (.tk 4 .p (.sp 147 (.tk 5 .p (.tk 6 .p (.tk 7 .ix (.tk 8 .p (.tk 10 .p (.tk 11 .p (.tk 12 .ix (.tk 13 .p (.tk 16 .p (.ts 9 (.int .i64) (.ts 14 (.int .i64) (.tk 15 .p (.tk 17 .p (.tk 18 .p (.nil))))))))))))))) (.tk 5 .p (.tk 6 .p (.tk 7 .p (.tk 8 .p (.tk 10 .p (.tk 11 .p (.tk 12 .p (.tk 13 .p (.tk 16 .p (.ts 9 .val (.ts 14 .val (.tk 15 .p (.tk 17 .p (.tk 18 .p (.nil))))))))))))))))))))) [])) (.cond (.leaf) (.leaf))) (.blk (.reg (.op .p (.op .p (.op .p (.nil))))))))) (.seq (.reg (.op .p (.op .p (.op (.ld (.bool)) (.op .p (.sp 167 (.op .p (.op (.ld (.bool)) (.op .p (.op .p (.sp 171 (.op .p (.op .p (.op (.ld (.int .i64)) (.op .p (.op .p (.op .p (.sp 177 (.op .p (.op .p (.op .p (.op .sl (.op (.cl [.bool]) (.op .p (.op .p (.ap 3 (.op .p (.nil)))))))))) (.op .p (.op .p (.op .p (.op .p (.op .p (.op .p (.op .p (.op .p (.op .p (.op .p (.op .p (.op .p (.nil)))))))))))))))))))) (.op .p (.op .p (.op .p (.op .p (.op .p (.op .p (.op .p (.op .p (.op .p (.op .p (.op .p (.op .p (.op .p (.op .p (.op .p (.op .p (.op .p (.op .p (.nil)))))))))))))))))))))))) (.op .p (.op .p (.op .p (.op .p (.op .p (.op .p (.op .p (.op .p (.op .p (.op .p (.op .p (.op .p (.op .p (.op .p (.op .p (.op .p (.op .p (.op .p (.op .p (.op .p (.op .p (.op .p (.nil))))))))))))))))))))))))))))) (.leaf)))))))))))))))))
    (by kernel_rfl) Tryd.func4 (by kernel_rfl) (by kernel_rfl) (by kernel_rfl) (by kernel_rfl) h

end Go.Proofs.YtmdandkoajocpaaDoor
