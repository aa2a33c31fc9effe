/- Verification conditions of functions, printed by the session's own program vc.py: out of each, Calls (conditions: none). -/
import Derived.Test.YtdcgapabphjgbaaRows
import Derived.Test.YtdcgapabphjgbaaSxRun
namespace Go.Proofs.Ytdcgapabphjgbaa
open Go Go.Proofs.Ytdcgapabphjgbaa.Sx

set_option maxRecDepth 100000 in
theorem prune_numbers_vc (a0 : Array Value) (w : World) (R : Ending → World → Prop) (h :
  ∃ (g1 : Nat) (w1 : World), (Instr.box 23 (.agg a0)).run Try.prog w = .ok (.pointer (some ⟨g1, 0, none⟩)) w1 ∧
  (∃ (g2 : Nat) (w2 : World), (Instr.alloc 62 true (.tuple #[])).run Try.prog w1 = .ok (.pointer (some ⟨g2, 0, none⟩)) w2 ∧
    (∃ (t4 : Int), (Instr.loadAt 3 (.pointer (some ⟨g1, 0, none⟩))).run Try.prog w2 = .ok (.int .i64 t4) w2 ∧
      (∃ (t6 : Int), (Instr.loadAt 3 (.pointer (some ⟨g1, 1, none⟩))).run Try.prog w2 = .ok (.int .i64 t6) w2 ∧
        (∃ (t8 : Int), (Instr.loadAt 3 (.pointer (some ⟨g1, 2, none⟩))).run Try.prog w2 = .ok (.int .i64 t8) w2 ∧
          (∃ (t10 : Int), (Instr.loadAt 3 (.pointer (some ⟨g1, 3, none⟩))).run Try.prog w2 = .ok (.int .i64 t10) w2 ∧
            (∃ (t12 : Int), (Instr.loadAt 3 (.pointer (some ⟨g1, 4, none⟩))).run Try.prog w2 = .ok (.int .i64 t12) w2 ∧
              (∃ (t14 : Int), (Instr.loadAt 3 (.pointer (some ⟨g1, 5, none⟩))).run Try.prog w2 = .ok (.int .i64 t14) w2 ∧
                (∃ (t15 : Array Value), (Instr.build 62 #[(0, (.int .i64 t4)), (1, (.int .i64 t6)), (2, (.int .i64 t8)), (3, (.int .i64 t10)), (4, (.int .i64 t12)), (5, (.int .i64 t14))]).run Try.prog w2 = .ok (.agg t15) w2 ∧
                  (∃ w3 : World, (Instr.storeAt 62 (.pointer (some ⟨g2, 0, none⟩)) (.agg t15)).run Try.prog w2 = .ok () w3 ∧
                    (∃ r2 : Value, (loadVar 62 ⟨g2, 0, none⟩).run Try.prog w3 = .ok r2 w3 ∧
                      (R (.returned r2) w3)))))))))))) : Calls Try.prog 25 #[(.agg a0)] w R :=
  calls_of_ev (args := [(.agg a0)])
    (tc := .seq (.reg (.op .bx (.op .bx (.nil)))) (.seq (.reg (.op .p (.op (.ld (.int .i64)) (.op .p (.op (.ld (.int .i64)) (.op .p (.op (.ld (.int .i64)) (.op .p (.op (.ld (.int .i64)) (.op .p (.op (.ld (.int .i64)) (.op .p (.op (.ld (.int .i64)) (.op (.ld (.agg)) (.op .u (.nil)))))))))))))))) (.leaf)))
    (by kernel_rfl) Try.func25 (by kernel_rfl) (by kernel_rfl) (by kernel_rfl) (by kernel_rfl) h

set_option maxRecDepth 100000 in
theorem prune_Check_vc (a0 : Array Value) (w : World) (R : Ending → World → Prop) (h :
  ∃ (g1 : Nat) (w1 : World), (Instr.box 23 (.agg a0)).run Try.prog w = .ok (.pointer (some ⟨g1, 0, none⟩)) w1 ∧
  (∃ (t6 : Array Value), (Instr.loadAt 23 (.pointer (some ⟨g1, 0, none⟩))).run Try.prog w1 = .ok (.agg t6) w1 ∧
    (Calls Try.prog 25 #[(.agg t6)] w1 fun (e7 : Ending) (w2 : World) => ∃ (t7 : Array Value), e7 = .returned (.agg t7) ∧
      (∃ (I : Int → Int → World → Prop) (μ : Int → Int → World → Nat), I 0 0 w2 ∧
        (∀ (x3 : Int) (x8 : Int), ∀ w3 : World, I x3 x8 w3 →
          (((decide (x8 < (6 : Int))) = true →
              (∃ (t10 : Int), (Instr.index 62 (.agg t7) (.int .i64 x8)).run Try.prog w3 = .ok (.int .i64 t10) w3 ∧
                ((((decide (t10 < (0 : Int))) || (decide (t10 > (1048576 : Int)))) = true →
                    (R (.returned (.iface 59 (.int .i64 23))) w3)) ∧
                  (((decide (t10 < (0 : Int))) || (decide (t10 > (1048576 : Int)))) = false →
                    (I (IntKind.wrap .i64 (x3 + t10)) (IntKind.wrap .i64 (x8 + (1 : Int))) w3 ∧ μ (IntKind.wrap .i64 (x3 + t10)) (IntKind.wrap .i64 (x8 + (1 : Int))) w3 < μ x3 x8 w3))))) ∧
            ((decide (x8 < (6 : Int))) = false →
              (((x3 == (0 : Int)) = true →
                  (R (.returned (.iface 59 (.int .i64 23))) w3)) ∧
                ((x3 == (0 : Int)) = false →
                  (R (.returned .nilIface) w3)))))))))) : Calls Try.prog 18 #[(.agg a0)] w R :=
  calls_of_ev (args := [(.agg a0)])
    (tc := .seq (.reg (.op .bx (.op .p (.nil)))) (.seq (.reg (.op .p (.nil))) (.seq (.seq (.reg (.op (.ld (.agg)) (.op (.cl [.agg]) (.op .p (.nil))))) (.blk (.loop [2, 3, 5, 8, 9, 10, 11, 12, 13, 14, 15, 16, 17, 18, 19, 20, 21] [3, 8] [.int .i64, .int .i64] (.seq (.reg (.op .p (.nil))) (.seq (.cond (.leaf) (.leaf)) (.seq (.blk (.seq (.reg (.op (.ld (.int .i64)) (.op .p (.nil)))) (.seq (.seq (.reg (.op .p (.op .p (.op .p (.ap 2 (.nil)))))) (.cond (.seq (.reg (.op .p (.op .p (.nil)))) (.leaf)) (.leaf))) (.reg (.op .p (.op .p (.op .p (.op .p (.nil))))))))) (.reg (.op .p (.op .p (.nil)))))))))) (.seq (.seq (.reg (.op .p (.op .p (.nil)))) (.cond (.seq (.reg (.op .p (.op .p (.nil)))) (.leaf)) (.leaf))) (.seq (.reg (.op .p (.nil))) (.leaf))))))
    (by kernel_rfl) Try.func18 (by kernel_rfl) (by kernel_rfl) (by kernel_rfl) (by kernel_rfl) h

set_option maxRecDepth 100000 in
theorem prune_rule_keeps_vc (a0b : Nat) (a0o : Nat) (a1 : Int) (w : World) (R : Ending → World → Prop) (h :
  ∃ J : Bool → World → Prop, (∃ (t8 : Int), (Instr.loadAt 3 (.pointer (some ⟨a0b, a0o, none⟩))).run Try.prog w = .ok (.int .i64 t8) w ∧
    (((t8 == (0 : Int)) = true →
        (J true w)) ∧
      ((t8 == (0 : Int)) = false →
        (∃ (t14 : Bool), (Instr.loadAt 4 (.pointer (some ⟨a0b, a0o + 1, none⟩))).run Try.prog w = .ok (.bool t14) w ∧
          ((t14 = true →
              (∃ (t19 : Int), (Instr.loadAt 3 (.pointer (some ⟨a0b, a0o + 2, none⟩))).run Try.prog w = .ok (.int .i64 t19) w ∧
                (J (t19 == a1) w))) ∧
            (t14 = false →
              (J false w))))))) ∧
  (∀ (x23 : Bool), ∀ w1 : World, J x23 w1 →
    ((x23 = true →
        (R (.returned (.bool false)) w1)) ∧
      (x23 = false →
        (∃ (t27 : Int), (Instr.loadAt 3 (.pointer (some ⟨a0b, a0o, none⟩))).run Try.prog w1 = .ok (.int .i64 t27) w1 ∧
          (∃ w2 : World, (Instr.storeAt 3 (.pointer (some ⟨a0b, a0o, none⟩)) (.int .i64 (IntKind.wrap .i64 (t27 - (1 : Int))))).run Try.prog w1 = .ok () w2 ∧
            (∃ w3 : World, (Instr.storeAt 4 (.pointer (some ⟨a0b, a0o + 1, none⟩)) (.bool true)).run Try.prog w2 = .ok () w3 ∧
              (∃ w4 : World, (Instr.storeAt 3 (.pointer (some ⟨a0b, a0o + 2, none⟩)) (.int .i64 a1)).run Try.prog w3 = .ok () w4 ∧
                (R (.returned (.bool true)) w4))))))))) : Calls Try.prog 27 #[(.pointer (some ⟨a0b, a0o, none⟩)), (.int .i64 a1)] w R :=
  calls_of_ev (args := [(.pointer (some ⟨a0b, a0o, none⟩)), (.int .i64 a1)])
    (tc := .seq (.reg (.op .p (.nil))) (.seq (.seq (.join [5, 6, 7, 8, 9, 10, 11, 12, 13, 14, 15, 16, 17, 18, 19, 20, 21, 22, 23] [23] [.bool] (.reg (.op .p (.op .p (.op .p (.op (.ld (.int .i64)) (.op .p (.op .p (.sp 10 (.op .p (.op .p (.op .p (.op .p (.op .p (.op .p (.op .p (.op .p (.op .p (.op .p (.op .p (.op .p (.op .p (.nil)))))))))))))) (.op .p (.op .p (.op .p (.op (.ld (.bool)) (.op .p (.sp 15 (.op .p (.op .p (.op .p (.op (.ld (.int .i64)) (.op .p (.op .p (.op .p (.op .p (.nil))))))))) (.op .p (.op .p (.op .p (.op .p (.op .p (.op .p (.op .p (.op .p (.nil)))))))))))))))))))))))) (.cond (.seq (.reg (.op .p (.nil))) (.leaf)) (.leaf))) (.seq (.reg (.op .p (.op .p (.op .p (.op (.ld (.int .i64)) (.op .p (.op .p (.op .p (.op .u (.nil)))))))))) (.seq (.reg (.op .p (.op .p (.op .p (.op .p (.op .p (.op .u (.op .p (.op .p (.op .u (.nil))))))))))) (.seq (.reg (.op .p (.nil))) (.leaf))))))
    (by kernel_rfl) Try.func27 (by kernel_rfl) (by kernel_rfl) (by kernel_rfl) (by kernel_rfl) h

set_option maxRecDepth 100000 in
theorem prune_newest_vc (a0a : Option Addr) (a0n : Nat) (a0c : Nat) (w : World) (R : Ending → World → Prop) (h :
  ∃ (g1 : Nat) (w1 : World), (Instr.box 24 (.slice a0a a0n a0c)).run Try.prog w = .ok (.pointer (some ⟨g1, 0, none⟩)) w1 ∧
  (∃ (t5a : Option Addr) (t5n : Nat) (t5c : Nat), (Instr.loadAt 24 (.pointer (some ⟨g1, 0, none⟩))).run Try.prog w1 = .ok (.slice t5a t5n t5c) w1 ∧
    (∃ (I : Option Addr → Nat → Nat → Int → World → Prop) (μ : Option Addr → Nat → Nat → Int → World → Nat), I none 0 0 0 w1 ∧
      (∀ (x3a : Option Addr) (x3n : Nat) (x3c : Nat) (x7 : Int), ∀ w2 : World, I x3a x3n x3c x7 w2 →
        (((decide (x7 < ((t5n : Nat) : Int))) = true →
            (∃ (t12a : Option Addr) (t12n : Nat) (t12c : Nat) (w3 : World), (Instr.buildSlice 32 1 #[(0, (.int .i64 x7))]).run Try.prog w2 = .ok (.slice t12a t12n t12c) w3 ∧
              (∃ (t13a : Option Addr) (t13n : Nat) (t13c : Nat) (w4 : World), (Builtin.append_ #[32, 32] 32 #[(.slice x3a x3n x3c), (.slice t12a t12n t12c)]).run Try.prog w3 = .ok (.slice t13a t13n t13c) w4 ∧
                (I t13a t13n t13c (IntKind.wrap .i64 (x7 + (1 : Int))) w4 ∧ μ t13a t13n t13c (IntKind.wrap .i64 (x7 + (1 : Int))) w4 < μ x3a x3n x3c x7 w2)))) ∧
          ((decide (x7 < ((t5n : Nat) : Int))) = false →
            (∃ (t16 : Value) (w5 : World), (Instr.makeFunc (.func 37) #[] #[(.pointer (some ⟨g1, 0, none⟩))]).run Try.prog w2 = .ok t16 w5 ∧
              (Calls Try.prog 36 #[(.slice x3a x3n x3c), t16] w5 fun (e17 : Ending) (w6 : World) => e17 = .returned (.tuple #[]) ∧
                (R (.returned (.slice x3a x3n x3c)) w6))))))))) : Calls Try.prog 26 #[(.slice a0a a0n a0c)] w R :=
  calls_of_ev (args := [(.slice a0a a0n a0c)])
    (tc := .seq (.reg (.op .bx (.op .p (.nil)))) (.seq (.reg (.op .p (.nil))) (.seq (.seq (.reg (.op (.ld (.slice)) (.op .p (.op .p (.nil))))) (.blk (.loop [3, 4, 7, 8, 9, 10, 11, 12, 13, 14] [3, 7] [.slice, .int .i64] (.seq (.reg (.op .p (.nil))) (.seq (.cond (.leaf) (.leaf)) (.seq (.blk (.seq (.reg (.op .p (.op .p (.nil)))) (.reg (.op .p (.op .p (.op (.r (.slice)) (.op (.r (.slice)) (.op .p (.nil))))))))) (.reg (.op .p (.op .p (.nil)))))))))) (.seq (.reg (.op .p (.op (.r (.val)) (.op (.cl []) (.nil))))) (.seq (.reg (.op .p (.op .p (.nil)))) (.leaf))))))
    (by kernel_rfl) Try.func26 (by kernel_rfl) (by kernel_rfl) (by kernel_rfl) (by kernel_rfl) h

set_option maxRecDepth 100000 in
theorem prune_newest_1_vc (a0 : Int) (a1 : Int) (a2b : Nat) (a2o : Nat) (w : World) (R : Ending → World → Prop) (h :
  ∃ S : World → Prop, S w.drew ∧
  (∃ (t6a : Option Addr) (t6n : Nat) (t6c : Nat), (∀ w' : World, S w' → (Instr.loadAt 24 (.pointer (some ⟨a2b, a2o, none⟩))).run Try.prog w' = .ok (.slice t6a t6n t6c) w') ∧
    (∃ (t8b t8o : Nat), t6a = some ⟨t8b, t8o, none⟩ ∧ 0 ≤ a1 ∧ a1 < ((t6n : Nat) : Int) ∧
      (∃ (t10 : Int), (∀ w' : World, S w' → (Instr.loadAt 3 (.pointer (some ⟨t8b, t8o + Int.toNat a1 * 36 + 1, none⟩))).run Try.prog w' = .ok (.int .i64 t10) w') ∧
        (∃ (t11a : Option Addr) (t11n : Nat) (t11c : Nat), (∀ w' : World, S w' → (Instr.loadAt 24 (.pointer (some ⟨a2b, a2o, none⟩))).run Try.prog w' = .ok (.slice t11a t11n t11c) w') ∧
          (∃ (t13b t13o : Nat), t11a = some ⟨t13b, t13o, none⟩ ∧ 0 ≤ a0 ∧ a0 < ((t11n : Nat) : Int) ∧
            (∃ (t15 : Int), (∀ w' : World, S w' → (Instr.loadAt 3 (.pointer (some ⟨t13b, t13o + Int.toNat a0 * 36 + 1, none⟩))).run Try.prog w' = .ok (.int .i64 t15) w') ∧
              (∃ (t17a : Option Addr) (t17n : Nat) (t17c : Nat), (∀ w' : World, S w' → (Instr.loadAt 24 (.pointer (some ⟨a2b, a2o, none⟩))).run Try.prog w' = .ok (.slice t17a t17n t17c) w') ∧
                (∃ (t19b t19o : Nat), t17a = some ⟨t19b, t19o, none⟩ ∧ 0 ≤ a1 ∧ a1 < ((t17n : Nat) : Int) ∧
                  (∃ (t21 : ByteArray), (∀ w' : World, S w' → (Instr.loadAt 9 (.pointer (some ⟨t19b, t19o + Int.toNat a1 * 36, none⟩))).run Try.prog w' = .ok (.string t21) w') ∧
                    (∃ (t22a : Option Addr) (t22n : Nat) (t22c : Nat), (∀ w' : World, S w' → (Instr.loadAt 24 (.pointer (some ⟨a2b, a2o, none⟩))).run Try.prog w' = .ok (.slice t22a t22n t22c) w') ∧
                      (∃ (t24b t24o : Nat), t22a = some ⟨t24b, t24o, none⟩ ∧ 0 ≤ a0 ∧ a0 < ((t22n : Nat) : Int) ∧
                        (∃ (t26 : ByteArray), (∀ w' : World, S w' → (Instr.loadAt 9 (.pointer (some ⟨t24b, t24o + Int.toNat a0 * 36, none⟩))).run Try.prog w' = .ok (.string t26) w') ∧
                          (Calls Try.prog 39 #[(.int .i64 t10), (.int .i64 t15)] w.drew fun (e16 : Ending) (w1 : World) => ∃ (t16 : Int), e16 = .returned (.int .i64 t16) ∧
                            (∃ S_1 : World → Prop, (∀ w' : World, S_1 w' → S w') ∧ S_1 w1 ∧
                              (Calls Try.prog 40 #[(.string t21), (.string t26)] w1 fun (e27 : Ending) (w2 : World) => ∃ (t27 : Int), e27 = .returned (.int .i64 t27) ∧
                                (∃ S_2 : World → Prop, (∀ w' : World, S_2 w' → S_1 w') ∧ S_2 w2 ∧
                                  (Calls Try.prog 39 #[(.int .i64 a1), (.int .i64 a0)] w2 fun (e30 : Ending) (w3 : World) => ∃ (t30 : Int), e30 = .returned (.int .i64 t30) ∧
                                    (∃ S_3 : World → Prop, (∀ w' : World, S_3 w' → S_2 w') ∧ S_3 w3 ∧
                                      (∃ (t31a : Option Addr) (t31n : Nat) (t31c : Nat) (w4 : World), (Instr.buildSlice 32 3 #[(0, (.int .i64 t16)), (1, (.int .i64 t27)), (2, (.int .i64 t30))]).run Try.prog w3 = .ok (.slice t31a t31n t31c) w4 ∧
                                        (∃ S_4 : World → Prop, (∀ w' : World, S_4 w' → S_3 w') ∧ S_4 w4 ∧
                                          (Calls Try.prog 38 #[(.slice t31a t31n t31c)] w4 fun (e32 : Ending) (w5 : World) => ∃ (t32 : Int), e32 = .returned (.int .i64 t32) ∧
                                            (∃ S_5 : World → Prop, (∀ w' : World, S_5 w' → S_4 w') ∧ S_5 w5 ∧
                                              (R (.returned (.int .i64 t32)) w5)))))))))))))))))))))))) : Calls Try.prog 37 #[(.int .i64 a0), (.int .i64 a1), (.pointer (some ⟨a2b, a2o, none⟩))] w R :=
  calls_of_ev (args := [(.int .i64 a0), (.int .i64 a1), (.pointer (some ⟨a2b, a2o, none⟩))])
    (tc := .seq (.reg (.op .p (.nil))) (.seq (.drawS (.tk 1 .p (.tk 6 .p (.tk 12 .p (.tk 17 .p (.tk 22 .p (.tk 23 .p (.ts 0 (.slice) (.tk 2 .ix (.tk 3 .p (.ts 4 (.int .i64) (.ts 5 (.slice) (.tk 7 .ix (.tk 8 .p (.ts 9 (.int .i64) (.ts 11 (.slice) (.tk 13 .ix (.tk 14 .p (.ts 15 (.str) (.ts 16 (.slice) (.tk 18 .ix (.tk 19 .p (.ts 20 (.str) (.go 10 (.cl [.int .i64]) (.go 21 (.cl [.int .i64]) (.go 24 (.cl [.int .i64]) (.go 25 (.r (.slice)) (.go 26 (.cl [.int .i64]) (.tk 27 .p (.nil))))))))))))))))))))))))))))) []) (.leaf)))
    (by kernel_rfl) Try.func37 (by kernel_rfl) (by kernel_rfl) (by kernel_rfl) (by kernel_rfl) h

set_option maxRecDepth 100000 in
theorem prune_Why_vc (a0 : Array Value) (a1a : Option Addr) (a1n : Nat) (a1c : Nat) (w : World) (R : Ending → World → Prop) (h :
  ∃ (g2 : Nat) (w1 : World), (Instr.box 23 (.agg a0)).run Try.prog w = .ok (.pointer (some ⟨g2, 0, none⟩)) w1 ∧
  (∃ (t18 : Array Value), (Instr.loadAt 23 (.pointer (some ⟨g2, 0, none⟩))).run Try.prog w1 = .ok (.agg t18) w1 ∧
    (Calls Try.prog 18 #[(.agg t18)] w1 fun (e19 : Ending) (w2 : World) => ∃ (t19 : Value), e19 = .returned t19 ∧
      (∃ (t21 : Bool), (eqlS .neq 34 (.tmp 20) (.const .nilIface) t19 .nilIface).run Try.prog w2 = .ok (.bool t21) w2 ∧
        ((t21 = true →
            (R (.returned (.tuple #[(.slice none 0 0), t19])) w2)) ∧
          (t21 = false →
            (∃ (I : Int → World → Prop) (μ : Int → World → Nat), I 0 w2 ∧
              (∀ (x25 : Int), ∀ w3 : World, I x25 w3 →
                (((decide (x25 < ((a1n : Nat) : Int))) = true →
                    (∃ (t27b t27o : Nat), a1a = some ⟨t27b, t27o, none⟩ ∧ 0 ≤ x25 ∧ x25 < ((a1n : Nat) : Int) ∧
                      (∃ (t28 : Array Value), (Instr.loadAt 30 (.pointer (some ⟨t27b, t27o + Int.toNat x25 * 36, none⟩))).run Try.prog w3 = .ok (.agg t28) w3 ∧
                        (∃ (g8 : Nat) (w4 : World), (Instr.alloc 30 true (.tuple #[])).run Try.prog w3 = .ok (.pointer (some ⟨g8, 0, none⟩)) w4 ∧
                          (∃ w5 : World, (Instr.storeAt 30 (.pointer (some ⟨g8, 0, none⟩)) (.agg t28)).run Try.prog w4 = .ok () w5 ∧
                            (∃ (t31 : Int), (Instr.loadAt 3 (.pointer (some ⟨g8, 1, none⟩))).run Try.prog w5 = .ok (.int .i64 t31) w5 ∧
                              (Calls Try.prog 24 #[(.int .i64 1), (.int .i64 t31)] w5 fun (e32 : Ending) (w6 : World) => ∃ (t32_0 : Int) (t32_1 : Value), e32 = .returned (.tuple #[(.int .i64 t32_0), t32_1]) ∧
                                (∃ (t36 : Bool), (eqlS .neq 34 (.tmp 35) (.const .nilIface) t32_1 .nilIface).run Try.prog w6 = .ok (.bool t36) w6 ∧
                                  ((t36 = true →
                                      (R (.returned (.tuple #[(.slice none 0 0), t32_1])) w6)) ∧
                                    (t36 = false →
                                      (I (IntKind.wrap .i64 (x25 + (1 : Int))) w6 ∧ μ (IntKind.wrap .i64 (x25 + (1 : Int))) w6 < μ x25 w3))))))))))) ∧
                  ((decide (x25 < ((a1n : Nat) : Int))) = false →
                    (∃ (t41a : Option Addr) (t41n : Nat) (t41c : Nat) (w7 : World), (Instr.makeSlice 32 (.int .i64 ((a1n : Nat) : Int)) (.int .i64 ((a1n : Nat) : Int))).run Try.prog w3 = .ok (.slice t41a t41n t41c) w7 ∧
                      (∃ (t42 : Array Value), (Instr.loadAt 23 (.pointer (some ⟨g2, 0, none⟩))).run Try.prog w7 = .ok (.agg t42) w7 ∧
                        (Calls Try.prog 25 #[(.agg t42)] w7 fun (e43 : Ending) (w8 : World) => ∃ (t43 : Array Value), e43 = .returned (.agg t43) ∧
                          (∃ (I_1 : Int → World → Prop) (μ_1 : Int → World → Nat), I_1 0 w8 ∧
                            (∀ (x44 : Int), ∀ w9 : World, I_1 x44 w9 →
                              (((decide (x44 < (6 : Int))) = true →
                                  (∃ (t47 : Int), (Instr.index 62 (.agg t43) (.int .i64 x44)).run Try.prog w9 = .ok (.int .i64 t47) w9 ∧
                                    (∃ (t49 : Array Value), (Instr.build 66 #[(0, (.int .i64 t47))]).run Try.prog w9 = .ok (.agg t49) w9 ∧
                                      (∃ (g50 : Nat) (w10 : World), (Instr.box 66 (.agg t49)).run Try.prog w9 = .ok (.pointer (some ⟨g50, 0, none⟩)) w10 ∧
                                        (Calls Try.prog 26 #[(.slice a1a a1n a1c)] w10 fun (e52 : Ending) (w11 : World) => ∃ (t52a : Option Addr) (t52n : Nat) (t52c : Nat), e52 = .returned (.slice t52a t52n t52c) ∧
                                          (∃ (I_2 : Int → World → Prop) (μ_2 : Int → World → Nat), I_2 0 w11 ∧
                                            (∀ (x54 : Int), ∀ w12 : World, I_2 x54 w12 →
                                              (((decide (x54 < ((t52n : Nat) : Int))) = true →
                                                  (∃ (t56b t56o : Nat), t52a = some ⟨t56b, t56o, none⟩ ∧ 0 ≤ x54 ∧ x54 < ((t52n : Nat) : Int) ∧
                                                    (∃ (t57 : Int), (Instr.loadAt 3 (.pointer (some ⟨t56b, t56o + Int.toNat x54 * 1, none⟩))).run Try.prog w12 = .ok (.int .i64 t57) w12 ∧
                                                      (∃ J : Int → World → Prop, (((decide (x44 > (0 : Int))) = true →
                                                            (∃ (t65b t65o : Nat), a1a = some ⟨t65b, t65o, none⟩ ∧ 0 ≤ t57 ∧ t57 < ((a1n : Nat) : Int) ∧
                                                              (∃ (t67 : Int), (Instr.loadAt 3 (.pointer (some ⟨t65b, t65o + Int.toNat t57 * 36 + 1, none⟩))).run Try.prog w12 = .ok (.int .i64 t67) w12 ∧
                                                                (Calls Try.prog 24 #[(.int .i64 x44), (.int .i64 t67)] w12 fun (e68 : Ending) (w13 : World) => ∃ (t68_0 : Int) (t68_1 : Value), e68 = .returned (.tuple #[(.int .i64 t68_0), t68_1]) ∧
                                                                  (J t68_0 w13))))) ∧
                                                          ((decide (x44 > (0 : Int))) = false →
                                                            (J t57 w12))) ∧
                                                        (∀ (x17 : Int), ∀ w14 : World, J x17 w14 →
                                                          (Calls Try.prog 27 #[(.pointer (some ⟨g50, 0, none⟩)), (.int .i64 x17)] w14 fun (e73 : Ending) (w15 : World) => ∃ (t73 : Bool), e73 = .returned (.bool t73) ∧
                                                            (∃ J_1 : World → Prop, ((t73 = true →
                                                                  (∃ S : World → Prop, S w15.drew ∧
                                                                    (∃ (t76b t76o : Nat), t41a = some ⟨t76b, t76o, none⟩ ∧ 0 ≤ t57 ∧ t57 < ((t41n : Nat) : Int) ∧
                                                                      (0 ≤ x44 ∧
                                                                        (∃ (t77 : Int), (∀ w' : World, S w' → (Instr.loadAt 3 (.pointer (some ⟨t76b, t76o + Int.toNat t57 * 1, none⟩))).run Try.prog w' = .ok (.int .i64 t77) w') ∧
                                                                          (∃ (t81b t81o : Nat), t41a = some ⟨t81b, t81o, none⟩ ∧ 0 ≤ t57 ∧ t57 < ((t41n : Nat) : Int) ∧
                                                                            (∃ w16 : World, (Instr.storeAt 3 (.pointer (some ⟨t81b, t81o + Int.toNat t57 * 1, none⟩)) (.int .i64 (bor .i64 t77 (shlI .i64 (1 : Int) x44)))).run Try.prog w15.drew = .ok () w16 ∧
                                                                              (J_1  w16)))))))) ∧
                                                                (t73 = false →
                                                                  (J_1  w15))) ∧
                                                              (∀ w17 : World, J_1  w17 →
                                                                (I_2 (IntKind.wrap .i64 (x54 + (1 : Int))) w17 ∧ μ_2 (IntKind.wrap .i64 (x54 + (1 : Int))) w17 < μ_2 x54 w12))))))))) ∧
                                                ((decide (x54 < ((t52n : Nat) : Int))) = false →
                                                  (I_1 (IntKind.wrap .i64 (x44 + (1 : Int))) w12 ∧ μ_1 (IntKind.wrap .i64 (x44 + (1 : Int))) w12 < μ_1 x44 w9)))))))))) ∧
                                ((decide (x44 < (6 : Int))) = false →
                                  (R (.returned (.tuple #[(.slice t41a t41n t41c), .nilIface])) w9)))))))))))))))))) : Calls Try.prog 10 #[(.agg a0), (.slice a1a a1n a1c)] w R :=
  calls_of_ev (args := [(.agg a0), (.slice a1a a1n a1c)])
    (tc := .seq (.reg (.op .bx (.op .p (.op .p (.nil))))) (.seq (.seq (.reg (.op (.ld (.agg)) (.op (.cl [.val]) (.op .p (.nil))))) (.seq (.reg (.op .p (.op (.ld (.bool)) (.nil)))) (.cond (.seq (.reg (.op .p (.op .p (.op .p (.nil))))) (.leaf)) (.leaf)))) (.seq (.seq (.reg (.op .p (.op .p (.op .p (.nil))))) (.blk (.loop [4, 5, 8, 9, 10, 25, 26, 27, 28, 29, 30, 31, 32, 33, 34, 35, 36, 37, 38] [25] [.int .i64] (.seq (.reg (.op .p (.nil))) (.seq (.cond (.leaf) (.leaf)) (.seq (.blk (.seq (.reg (.op .ix (.op (.ld (.agg)) (.op .bx (.op .u (.nil)))))) (.seq (.reg (.op .p (.op (.ld (.int .i64)) (.op (.cl [.int .i64, .val]) (.op .p (.op .p (.op .p (.op .p (.op .p (.nil)))))))))) (.seq (.reg (.op .p (.op (.ld (.bool)) (.nil)))) (.cond (.seq (.reg (.op .p (.op .p (.op .p (.nil))))) (.leaf)) (.leaf)))))) (.reg (.op .p (.op .p (.nil)))))))))) (.seq (.reg (.op .p (.op .p (.op (.r (.slice)) (.op .p (.nil)))))) (.seq (.seq (.reg (.op (.ld (.agg)) (.op (.cl [.agg]) (.op .p (.nil))))) (.blk (.loop [12, 13, 14, 16, 17, 44, 45, 46, 47, 48, 49, 50, 51, 52, 53, 54, 55, 56, 57, 58, 59, 60, 61, 62, 63, 64, 65, 66, 67, 68, 69, 70, 71, 72, 73, 74, 75, 76, 77, 78, 79, 80, 81, 82, 83] [44] [.int .i64] (.seq (.reg (.op .p (.nil))) (.seq (.cond (.leaf) (.leaf)) (.seq (.blk (.seq (.reg (.op .p (.op (.ld (.int .i64)) (.op .p (.op .p (.nil)))))) (.seq (.reg (.op .p (.op (.ld (.agg)) (.op .bx (.op .p (.nil)))))) (.seq (.reg (.op .p (.op (.cl [.slice]) (.op .p (.op .p (.nil)))))) (.blk (.loop [16, 17, 54, 55, 56, 57, 58, 59, 60, 61, 62, 63, 64, 65, 66, 67, 68, 69, 70, 71, 72, 73, 74, 75, 76, 77, 78, 79, 80, 81, 82] [54] [.int .i64] (.seq (.reg (.op .p (.nil))) (.seq (.cond (.leaf) (.leaf)) (.seq (.blk (.seq (.reg (.op .ix (.op (.ld (.int .i64)) (.op .p (.nil))))) (.seq (.reg (.op .p (.op .p (.nil)))) (.seq (.seq (.reg (.op .p (.op .p (.nil)))) (.join [17, 61, 62, 63, 64, 65, 66, 67, 68, 69, 70] [17] [.int .i64] (.cond (.reg (.op .p (.op .p (.op .p (.op .ix (.op .p (.op (.ld (.int .i64)) (.op (.cl [.int .i64, .val]) (.op .p (.op .p (.op .p (.op .p (.nil))))))))))))) (.leaf)))) (.seq (.reg (.op .p (.op .p (.op (.cl [.bool]) (.nil))))) (.join [74, 75, 76, 77, 78, 79, 80, 81] [] [] (.cond (.drawS (.tk 0 .p (.tk 1 .p (.tk 2 .ix (.tk 4 .p (.tk 5 .sc (.ts 3 (.int .i64) (.tk 6 .p (.tk 7 .ix (.go 8 .u (.nil)))))))))) [8]) (.leaf)))))))) (.reg (.op .p (.op .p (.nil))))))))))))) (.reg (.op .p (.op .p (.nil)))))))))) (.seq (.reg (.op .p (.op .p (.op .p (.nil))))) (.leaf)))))))
    (by kernel_rfl) Try.func10 (by kernel_rfl) (by kernel_rfl) (by kernel_rfl) (by kernel_rfl) h

set_option maxRecDepth 100000 in
theorem prune_Keep_vc (a0 : Array Value) (a1a : Option Addr) (a1n : Nat) (a1c : Nat) (w : World) (R : Ending → World → Prop) (h :
  ∃ (g2 : Nat) (w1 : World), (Instr.box 23 (.agg a0)).run Try.prog w = .ok (.pointer (some ⟨g2, 0, none⟩)) w1 ∧
  (∃ (t12 : Array Value), (Instr.loadAt 23 (.pointer (some ⟨g2, 0, none⟩))).run Try.prog w1 = .ok (.agg t12) w1 ∧
    (Calls Try.prog 10 #[(.agg t12), (.slice a1a a1n a1c)] w1 fun (e14 : Ending) (w2 : World) => ∃ (t14_0a : Option Addr) (t14_0n : Nat) (t14_0c : Nat) (t14_1 : Value), e14 = .returned (.tuple #[(.slice t14_0a t14_0n t14_0c), t14_1]) ∧
      (∃ (t18 : Bool), (eqlS .neq 34 (.tmp 17) (.const .nilIface) t14_1 .nilIface).run Try.prog w2 = .ok (.bool t18) w2 ∧
        ((t18 = true →
            (R (.returned (.tuple #[(.slice none 0 0), t14_1])) w2)) ∧
          (t18 = false →
            (∃ (I : Option Addr → Nat → Nat → Int → World → Prop) (μ : Option Addr → Nat → Nat → Int → World → Nat), I none 0 0 0 w2 ∧
              (∀ (x8a : Option Addr) (x8n : Nat) (x8c : Nat) (x22 : Int), ∀ w3 : World, I x8a x8n x8c x22 w3 →
                (((decide (x22 < ((t14_0n : Nat) : Int))) = true →
                    (∃ (t24b t24o : Nat), t14_0a = some ⟨t24b, t24o, none⟩ ∧ 0 ≤ x22 ∧ x22 < ((t14_0n : Nat) : Int) ∧
                      (∃ (t25 : Int), (Instr.loadAt 3 (.pointer (some ⟨t24b, t24o + Int.toNat x22 * 1, none⟩))).run Try.prog w3 = .ok (.int .i64 t25) w3 ∧
                        (∃ (t29a : Option Addr) (t29n : Nat) (t29c : Nat) (w4 : World), (Instr.buildSlice 44 1 #[(0, (.bool (t25 != (0 : Int))))]).run Try.prog w3 = .ok (.slice t29a t29n t29c) w4 ∧
                          (∃ (t30a : Option Addr) (t30n : Nat) (t30c : Nat) (w5 : World), (Builtin.append_ #[44, 44] 44 #[(.slice x8a x8n x8c), (.slice t29a t29n t29c)]).run Try.prog w4 = .ok (.slice t30a t30n t30c) w5 ∧
                            (I t30a t30n t30c (IntKind.wrap .i64 (x22 + (1 : Int))) w5 ∧ μ t30a t30n t30c (IntKind.wrap .i64 (x22 + (1 : Int))) w5 < μ x8a x8n x8c x22 w3)))))) ∧
                  ((decide (x22 < ((t14_0n : Nat) : Int))) = false →
                    (R (.returned (.tuple #[(.slice x8a x8n x8c), .nilIface])) w3))))))))))) : Calls Try.prog 14 #[(.agg a0), (.slice a1a a1n a1c)] w R :=
  calls_of_ev (args := [(.agg a0), (.slice a1a a1n a1c)])
    (tc := .seq (.reg (.op .bx (.op .p (.op .p (.nil))))) (.seq (.reg (.op (.ld (.agg)) (.op .p (.op (.cl [.slice, .val]) (.op .p (.op .p (.op .p (.op .p (.op .p (.nil)))))))))) (.seq (.seq (.reg (.op .p (.op (.ld (.bool)) (.nil)))) (.cond (.seq (.reg (.op .p (.op .p (.op .p (.nil))))) (.leaf)) (.leaf))) (.seq (.reg (.op .p (.nil))) (.seq (.seq (.reg (.op .p (.op .p (.op .p (.nil))))) (.blk (.loop [8, 10, 22, 23, 24, 25, 26, 27, 28, 29, 30, 31] [8, 22] [.slice, .int .i64] (.seq (.reg (.op .p (.nil))) (.seq (.cond (.leaf) (.leaf)) (.seq (.blk (.seq (.reg (.op .ix (.op (.ld (.int .i64)) (.op .p (.nil))))) (.reg (.op .p (.op .p (.op .p (.op (.r (.slice)) (.op (.r (.slice)) (.op .p (.nil)))))))))) (.reg (.op .p (.op .p (.nil)))))))))) (.seq (.reg (.op .p (.op .p (.op .p (.nil))))) (.leaf)))))))
    (by kernel_rfl) Try.func14 (by kernel_rfl) (by kernel_rfl) (by kernel_rfl) (by kernel_rfl) h

set_option maxRecDepth 100000 in
theorem prune_Gone_vc (a0 : Array Value) (a1a : Option Addr) (a1n : Nat) (a1c : Nat) (w : World) (R : Ending → World → Prop) (h :
  ∃ (g2 : Nat) (w1 : World), (Instr.box 23 (.agg a0)).run Try.prog w = .ok (.pointer (some ⟨g2, 0, none⟩)) w1 ∧
  (∃ (t12 : Array Value), (Instr.loadAt 23 (.pointer (some ⟨g2, 0, none⟩))).run Try.prog w1 = .ok (.agg t12) w1 ∧
    (Calls Try.prog 14 #[(.agg t12), (.slice a1a a1n a1c)] w1 fun (e14 : Ending) (w2 : World) => ∃ (t14_0a : Option Addr) (t14_0n : Nat) (t14_0c : Nat) (t14_1 : Value), e14 = .returned (.tuple #[(.slice t14_0a t14_0n t14_0c), t14_1]) ∧
      (∃ (t18 : Bool), (eqlS .neq 34 (.tmp 17) (.const .nilIface) t14_1 .nilIface).run Try.prog w2 = .ok (.bool t18) w2 ∧
        ((t18 = true →
            (R (.returned (.tuple #[(.slice none 0 0), t14_1])) w2)) ∧
          (t18 = false →
            (∃ (I : Option Addr → Nat → Nat → Int → World → Prop) (μ : Option Addr → Nat → Nat → Int → World → Nat), I none 0 0 0 w2 ∧
              (∀ (x8a : Option Addr) (x8n : Nat) (x8c : Nat) (x22 : Int), ∀ w3 : World, I x8a x8n x8c x22 w3 →
                (((decide (x22 < ((a1n : Nat) : Int))) = true →
                    (∃ (t25b t25o : Nat), a1a = some ⟨t25b, t25o, none⟩ ∧ 0 ≤ x22 ∧ x22 < ((a1n : Nat) : Int) ∧
                      (∃ (t26 : Array Value), (Instr.loadAt 30 (.pointer (some ⟨t25b, t25o + Int.toNat x22 * 36, none⟩))).run Try.prog w3 = .ok (.agg t26) w3 ∧
                        (∃ (g10 : Nat) (w4 : World), (Instr.alloc 30 true (.tuple #[])).run Try.prog w3 = .ok (.pointer (some ⟨g10, 0, none⟩)) w4 ∧
                          (∃ w5 : World, (Instr.storeAt 30 (.pointer (some ⟨g10, 0, none⟩)) (.agg t26)).run Try.prog w4 = .ok () w5 ∧
                            (∃ (t29b t29o : Nat), t14_0a = some ⟨t29b, t29o, none⟩ ∧ 0 ≤ x22 ∧ x22 < ((t14_0n : Nat) : Int) ∧
                              (∃ (t30 : Bool), (Instr.loadAt 4 (.pointer (some ⟨t29b, t29o + Int.toNat x22 * 1, none⟩))).run Try.prog w5 = .ok (.bool t30) w5 ∧
                                (∃ J : Option Addr → Nat → Nat → World → Prop, (((!t30) = true →
                                      (∃ (t34 : ByteArray), (Instr.loadAt 9 (.pointer (some ⟨g10, 0, none⟩))).run Try.prog w5 = .ok (.string t34) w5 ∧
                                        (∃ (t35a : Option Addr) (t35n : Nat) (t35c : Nat) (w6 : World), (Instr.buildSlice 39 1 #[(0, (.string t34))]).run Try.prog w5 = .ok (.slice t35a t35n t35c) w6 ∧
                                          (∃ (t36a : Option Addr) (t36n : Nat) (t36c : Nat) (w7 : World), (Builtin.append_ #[39, 39] 39 #[(.slice x8a x8n x8c), (.slice t35a t35n t35c)]).run Try.prog w6 = .ok (.slice t36a t36n t36c) w7 ∧
                                            (J t36a t36n t36c w7))))) ∧
                                    ((!t30) = false →
                                      (J x8a x8n x8c w5))) ∧
                                  (∀ (x8a_1 : Option Addr) (x8n_1 : Nat) (x8c_1 : Nat), ∀ w8 : World, J x8a_1 x8n_1 x8c_1 w8 →
                                    (I x8a_1 x8n_1 x8c_1 (IntKind.wrap .i64 (x22 + (1 : Int))) w8 ∧ μ x8a_1 x8n_1 x8c_1 (IntKind.wrap .i64 (x22 + (1 : Int))) w8 < μ x8a x8n x8c x22 w3)))))))))) ∧
                  ((decide (x22 < ((a1n : Nat) : Int))) = false →
                    (Calls Try.prog 30 #[(.slice x8a x8n x8c)] w3 fun (e39 : Ending) (w9 : World) => e39 = .returned (.tuple #[]) ∧
                      (R (.returned (.tuple #[(.slice x8a x8n x8c), .nilIface])) w9)))))))))))) : Calls Try.prog 12 #[(.agg a0), (.slice a1a a1n a1c)] w R :=
  calls_of_ev (args := [(.agg a0), (.slice a1a a1n a1c)])
    (tc := .seq (.reg (.op .bx (.op .p (.op .p (.nil))))) (.seq (.reg (.op (.ld (.agg)) (.op .p (.op (.cl [.slice, .val]) (.op .p (.op .p (.op .p (.op .p (.op .p (.nil)))))))))) (.seq (.seq (.reg (.op .p (.op (.ld (.bool)) (.nil)))) (.cond (.seq (.reg (.op .p (.op .p (.op .p (.nil))))) (.leaf)) (.leaf))) (.seq (.reg (.op .p (.nil))) (.seq (.seq (.reg (.op .p (.op .p (.op .p (.nil))))) (.blk (.loop [8, 9, 10, 22, 23, 24, 25, 26, 27, 28, 29, 30, 31, 32, 33, 34, 35, 36, 37] [8, 22] [.slice, .int .i64] (.seq (.reg (.op .p (.nil))) (.seq (.cond (.leaf) (.leaf)) (.seq (.blk (.seq (.reg (.op .p (.op .ix (.op (.ld (.agg)) (.op .bx (.op .p (.op .u (.nil)))))))) (.seq (.reg (.op .p (.op .p (.op .ix (.op (.ld (.bool)) (.op .p (.nil))))))) (.join [8, 32, 33, 34, 35, 36] [8] [.slice] (.cond (.reg (.op .p (.op .p (.op (.ld (.str)) (.op (.r (.slice)) (.op (.r (.slice)) (.op .p (.nil)))))))) (.leaf)))))) (.reg (.op .p (.op .p (.nil)))))))))) (.seq (.reg (.op .p (.op (.cl []) (.nil)))) (.seq (.reg (.op .p (.op .p (.op .p (.nil))))) (.leaf))))))))
    (by kernel_rfl) Try.func12 (by kernel_rfl) (by kernel_rfl) (by kernel_rfl) (by kernel_rfl) h

set_option maxRecDepth 100000 in
theorem civil_floor_vc (a0 : Int) (a1 : Int) (w : World) (R : Ending → World → Prop) (h :
  a1 ≠ 0 ∧
  (a1 ≠ 0 ∧
    (∃ J : Int → World → Prop, (((decide ((Int.tmod a0 a1) < (0 : Int))) = true →
          (J (IntKind.wrap .i64 ((IntKind.wrap .i64 (Int.tdiv a0 a1)) - (1 : Int))) w)) ∧
        ((decide ((Int.tmod a0 a1) < (0 : Int))) = false →
          (J (IntKind.wrap .i64 (Int.tdiv a0 a1)) w))) ∧
      (∀ (x5 : Int), ∀ w1 : World, J x5 w1 →
        (R (.returned (.int .i64 x5)) w1))))) : Calls Try.prog 47 #[(.int .i64 a0), (.int .i64 a1)] w R :=
  calls_of_ev (args := [(.int .i64 a0), (.int .i64 a1)])
    (tc := .seq (.reg (.op .p (.nil))) (.seq (.reg (.op .p (.op .p (.op .sc (.op .p (.nil)))))) (.seq (.seq (.reg (.op .p (.op .p (.op .sc (.op .p (.nil)))))) (.join [5, 13, 14] [5] [.int .i64] (.cond (.reg (.op .p (.op .p (.op .p (.nil))))) (.leaf)))) (.seq (.reg (.op .p (.op .p (.nil)))) (.leaf)))))
    (by kernel_rfl) Try.func47 (by kernel_rfl) (by kernel_rfl) (by kernel_rfl) (by kernel_rfl) h

set_option maxRecDepth 100000 in
theorem civil_days_vc (a0 : Array Value) (w : World) (R : Ending → World → Prop) (h :
  ∃ (g1 : Nat) (w1 : World), (Instr.box 75 (.agg a0)).run Try.prog w = .ok (.pointer (some ⟨g1, 0, none⟩)) w1 ∧
  (∃ (t9 : Int), (Instr.loadAt 3 (.pointer (some ⟨g1, 0, none⟩))).run Try.prog w1 = .ok (.int .i64 t9) w1 ∧
    (∃ (t11 : Int), (Instr.loadAt 3 (.pointer (some ⟨g1, 1, none⟩))).run Try.prog w1 = .ok (.int .i64 t11) w1 ∧
      (∃ J : Int → World → Prop, (((decide (t11 ≤ (2 : Int))) = true →
            (J (IntKind.wrap .i64 (t9 - (1 : Int))) w1)) ∧
          ((decide (t11 ≤ (2 : Int))) = false →
            (J t9 w1))) ∧
        (∀ (x3 : Int), ∀ w2 : World, J x3 w2 →
          (Calls Try.prog 47 #[(.int .i64 x3), (.int .i64 400)] w2 fun (e16 : Ending) (w3 : World) => ∃ (t16 : Int), e16 = .returned (.int .i64 t16) ∧
            (∃ (t22 : Int), (Instr.loadAt 3 (.pointer (some ⟨g1, 1, none⟩))).run Try.prog w3 = .ok (.int .i64 t22) w3 ∧
              (∃ (t30 : Int), (Instr.loadAt 3 (.pointer (some ⟨g1, 2, none⟩))).run Try.prog w3 = .ok (.int .i64 t30) w3 ∧
                (R (.returned (.int .i64 (IntKind.wrap .i64 ((IntKind.wrap .i64 ((IntKind.wrap .i64 ((IntKind.wrap .i64 ((IntKind.wrap .i64 ((IntKind.wrap .i64 (t16 * (146097 : Int))) + (IntKind.wrap .i64 ((IntKind.wrap .i64 (x3 - (IntKind.wrap .i64 (t16 * (400 : Int))))) * (365 : Int))))) + (IntKind.wrap .i64 (Int.tdiv (IntKind.wrap .i64 (x3 - (IntKind.wrap .i64 (t16 * (400 : Int))))) (4 : Int))))) - (IntKind.wrap .i64 (Int.tdiv (IntKind.wrap .i64 (x3 - (IntKind.wrap .i64 (t16 * (400 : Int))))) (100 : Int))))) + (IntKind.wrap .i64 ((IntKind.wrap .i64 ((IntKind.wrap .i64 (Int.tdiv (IntKind.wrap .i64 ((IntKind.wrap .i64 ((153 : Int) * (Int.tmod (IntKind.wrap .i64 (t22 + (9 : Int))) (12 : Int)))) + (2 : Int))) (5 : Int))) + t30)) - (1 : Int))))) - (719468 : Int))))) w3))))))))) : Calls Try.prog 50 #[(.agg a0)] w R :=
  calls_of_ev (args := [(.agg a0)])
    (tc := .seq (.reg (.op .bx (.op .p (.nil)))) (.seq (.reg (.op .p (.op (.ld (.int .i64)) (.op .p (.nil))))) (.seq (.seq (.reg (.op .p (.op (.ld (.int .i64)) (.op .p (.nil))))) (.join [3, 13, 14] [3] [.int .i64] (.cond (.reg (.op .p (.op .p (.op .p (.nil))))) (.leaf)))) (.seq (.reg (.op .p (.op (.cl [.int .i64]) (.op .p (.nil))))) (.seq (.reg (.op .p (.op .p (.op .p (.op .p (.op .p (.nil))))))) (.seq (.reg (.op .p (.op (.ld (.int .i64)) (.op .p (.op .p (.op .p (.nil))))))) (.seq (.reg (.op .p (.op .p (.op .p (.op .p (.op .p (.op (.ld (.int .i64)) (.op .p (.op .p (.op .p (.nil))))))))))) (.seq (.reg (.op .p (.op .p (.op .p (.op .p (.op .p (.op .p (.op .p (.op .p (.op .p (.op .p (.op .p (.op .p (.op .p (.op .p (.op .p (.nil))))))))))))))))) (.leaf)))))))))
    (by kernel_rfl) Try.func50 (by kernel_rfl) (by kernel_rfl) (by kernel_rfl) (by kernel_rfl) h

set_option maxRecDepth 100000 in
theorem civil_inRange_vc (a0 : Int) (w : World) (R : Ending → World → Prop) (h :
  ∃ (t4 : Array Value), (Instr.build 75 #[(0, (.int .i64 (-40000))), (1, (.int .i64 1)), (2, (.int .i64 1))]).run Try.prog w = .ok (.agg t4) w ∧
  (Calls Try.prog 50 #[(.agg t4)] w fun (e5 : Ending) (w1 : World) => ∃ (t5 : Int), e5 = .returned (.int .i64 t5) ∧
    (((decide (a0 ≥ t5)) = true →
        (∃ (t9 : Array Value), (Instr.build 75 #[(0, (.int .i64 40000)), (1, (.int .i64 12)), (2, (.int .i64 31))]).run Try.prog w1 = .ok (.agg t9) w1 ∧
          (Calls Try.prog 50 #[(.agg t9)] w1 fun (e10 : Ending) (w2 : World) => ∃ (t10 : Int), e10 = .returned (.int .i64 t10) ∧
            (R (.returned (.bool (decide (a0 ≤ t10)))) w2)))) ∧
      ((decide (a0 ≥ t5)) = false →
        (R (.returned (.bool false)) w1))))) : Calls Try.prog 48 #[(.int .i64 a0)] w R :=
  calls_of_ev (args := [(.int .i64 a0)])
    (tc := .seq (.reg (.op .p (.nil))) (.seq (.reg (.op .p (.op (.ld (.agg)) (.op (.cl [.int .i64]) (.op .p (.op .p (.sp 7 (.op .p (.op (.ld (.agg)) (.op (.cl [.int .i64]) (.op .p (.op .p (.op .p (.nil))))))) (.op .p (.op .p (.op .p (.op .p (.op .p (.op .p (.nil)))))))))))))) (.leaf)))
    (by kernel_rfl) Try.func48 (by kernel_rfl) (by kernel_rfl) (by kernel_rfl) (by kernel_rfl) h

set_option maxRecDepth 100000 in
theorem civil_date_vc (a0 : Int) (w : World) (R : Ending → World → Prop) (h :
  ∃ (g2 : Nat) (w1 : World), (Instr.alloc 75 true (.tuple #[])).run Try.prog w = .ok (.pointer (some ⟨g2, 0, none⟩)) w1 ∧
  (Calls Try.prog 47 #[(.int .i64 (IntKind.wrap .i64 (a0 + (719468 : Int)))), (.int .i64 146097)] w1 fun (e11 : Ending) (w2 : World) => ∃ (t11 : Int), e11 = .returned (.int .i64 t11) ∧
    (∃ (t56 : Array Value), (Instr.build 75 #[(0, (.int .i64 (IntKind.wrap .i64 ((IntKind.wrap .i64 (t11 * (400 : Int))) + (IntKind.wrap .i64 (Int.tdiv (IntKind.wrap .i64 ((IntKind.wrap .i64 ((IntKind.wrap .i64 ((IntKind.wrap .i64 ((IntKind.wrap .i64 (a0 + (719468 : Int))) - (IntKind.wrap .i64 (t11 * (146097 : Int))))) - (IntKind.wrap .i64 (Int.tdiv (IntKind.wrap .i64 ((IntKind.wrap .i64 (a0 + (719468 : Int))) - (IntKind.wrap .i64 (t11 * (146097 : Int))))) (1460 : Int))))) + (IntKind.wrap .i64 (Int.tdiv (IntKind.wrap .i64 ((IntKind.wrap .i64 (a0 + (719468 : Int))) - (IntKind.wrap .i64 (t11 * (146097 : Int))))) (36524 : Int))))) - (IntKind.wrap .i64 (Int.tdiv (IntKind.wrap .i64 ((IntKind.wrap .i64 (a0 + (719468 : Int))) - (IntKind.wrap .i64 (t11 * (146097 : Int))))) (146096 : Int))))) (365 : Int))))))), (1, (.int .i64 (IntKind.wrap .i64 ((Int.tmod (IntKind.wrap .i64 ((IntKind.wrap .i64 (Int.tdiv (IntKind.wrap .i64 ((IntKind.wrap .i64 ((5 : Int) * (IntKind.wrap .i64 ((IntKind.wrap .i64 ((IntKind.wrap .i64 (a0 + (719468 : Int))) - (IntKind.wrap .i64 (t11 * (146097 : Int))))) - (IntKind.wrap .i64 ((IntKind.wrap .i64 ((IntKind.wrap .i64 ((365 : Int) * (IntKind.wrap .i64 (Int.tdiv (IntKind.wrap .i64 ((IntKind.wrap .i64 ((IntKind.wrap .i64 ((IntKind.wrap .i64 ((IntKind.wrap .i64 (a0 + (719468 : Int))) - (IntKind.wrap .i64 (t11 * (146097 : Int))))) - (IntKind.wrap .i64 (Int.tdiv (IntKind.wrap .i64 ((IntKind.wrap .i64 (a0 + (719468 : Int))) - (IntKind.wrap .i64 (t11 * (146097 : Int))))) (1460 : Int))))) + (IntKind.wrap .i64 (Int.tdiv (IntKind.wrap .i64 ((IntKind.wrap .i64 (a0 + (719468 : Int))) - (IntKind.wrap .i64 (t11 * (146097 : Int))))) (36524 : Int))))) - (IntKind.wrap .i64 (Int.tdiv (IntKind.wrap .i64 ((IntKind.wrap .i64 (a0 + (719468 : Int))) - (IntKind.wrap .i64 (t11 * (146097 : Int))))) (146096 : Int))))) (365 : Int))))) + (IntKind.wrap .i64 (Int.tdiv (IntKind.wrap .i64 (Int.tdiv (IntKind.wrap .i64 ((IntKind.wrap .i64 ((IntKind.wrap .i64 ((IntKind.wrap .i64 ((IntKind.wrap .i64 (a0 + (719468 : Int))) - (IntKind.wrap .i64 (t11 * (146097 : Int))))) - (IntKind.wrap .i64 (Int.tdiv (IntKind.wrap .i64 ((IntKind.wrap .i64 (a0 + (719468 : Int))) - (IntKind.wrap .i64 (t11 * (146097 : Int))))) (1460 : Int))))) + (IntKind.wrap .i64 (Int.tdiv (IntKind.wrap .i64 ((IntKind.wrap .i64 (a0 + (719468 : Int))) - (IntKind.wrap .i64 (t11 * (146097 : Int))))) (36524 : Int))))) - (IntKind.wrap .i64 (Int.tdiv (IntKind.wrap .i64 ((IntKind.wrap .i64 (a0 + (719468 : Int))) - (IntKind.wrap .i64 (t11 * (146097 : Int))))) (146096 : Int))))) (365 : Int))) (4 : Int))))) - (IntKind.wrap .i64 (Int.tdiv (IntKind.wrap .i64 (Int.tdiv (IntKind.wrap .i64 ((IntKind.wrap .i64 ((IntKind.wrap .i64 ((IntKind.wrap .i64 ((IntKind.wrap .i64 (a0 + (719468 : Int))) - (IntKind.wrap .i64 (t11 * (146097 : Int))))) - (IntKind.wrap .i64 (Int.tdiv (IntKind.wrap .i64 ((IntKind.wrap .i64 (a0 + (719468 : Int))) - (IntKind.wrap .i64 (t11 * (146097 : Int))))) (1460 : Int))))) + (IntKind.wrap .i64 (Int.tdiv (IntKind.wrap .i64 ((IntKind.wrap .i64 (a0 + (719468 : Int))) - (IntKind.wrap .i64 (t11 * (146097 : Int))))) (36524 : Int))))) - (IntKind.wrap .i64 (Int.tdiv (IntKind.wrap .i64 ((IntKind.wrap .i64 (a0 + (719468 : Int))) - (IntKind.wrap .i64 (t11 * (146097 : Int))))) (146096 : Int))))) (365 : Int))) (100 : Int))))))))) + (2 : Int))) (153 : Int))) + (2 : Int))) (12 : Int)) + (1 : Int))))), (2, (.int .i64 (IntKind.wrap .i64 ((IntKind.wrap .i64 ((IntKind.wrap .i64 ((IntKind.wrap .i64 ((IntKind.wrap .i64 (a0 + (719468 : Int))) - (IntKind.wrap .i64 (t11 * (146097 : Int))))) - (IntKind.wrap .i64 ((IntKind.wrap .i64 ((IntKind.wrap .i64 ((365 : Int) * (IntKind.wrap .i64 (Int.tdiv (IntKind.wrap .i64 ((IntKind.wrap .i64 ((IntKind.wrap .i64 ((IntKind.wrap .i64 ((IntKind.wrap .i64 (a0 + (719468 : Int))) - (IntKind.wrap .i64 (t11 * (146097 : Int))))) - (IntKind.wrap .i64 (Int.tdiv (IntKind.wrap .i64 ((IntKind.wrap .i64 (a0 + (719468 : Int))) - (IntKind.wrap .i64 (t11 * (146097 : Int))))) (1460 : Int))))) + (IntKind.wrap .i64 (Int.tdiv (IntKind.wrap .i64 ((IntKind.wrap .i64 (a0 + (719468 : Int))) - (IntKind.wrap .i64 (t11 * (146097 : Int))))) (36524 : Int))))) - (IntKind.wrap .i64 (Int.tdiv (IntKind.wrap .i64 ((IntKind.wrap .i64 (a0 + (719468 : Int))) - (IntKind.wrap .i64 (t11 * (146097 : Int))))) (146096 : Int))))) (365 : Int))))) + (IntKind.wrap .i64 (Int.tdiv (IntKind.wrap .i64 (Int.tdiv (IntKind.wrap .i64 ((IntKind.wrap .i64 ((IntKind.wrap .i64 ((IntKind.wrap .i64 ((IntKind.wrap .i64 (a0 + (719468 : Int))) - (IntKind.wrap .i64 (t11 * (146097 : Int))))) - (IntKind.wrap .i64 (Int.tdiv (IntKind.wrap .i64 ((IntKind.wrap .i64 (a0 + (719468 : Int))) - (IntKind.wrap .i64 (t11 * (146097 : Int))))) (1460 : Int))))) + (IntKind.wrap .i64 (Int.tdiv (IntKind.wrap .i64 ((IntKind.wrap .i64 (a0 + (719468 : Int))) - (IntKind.wrap .i64 (t11 * (146097 : Int))))) (36524 : Int))))) - (IntKind.wrap .i64 (Int.tdiv (IntKind.wrap .i64 ((IntKind.wrap .i64 (a0 + (719468 : Int))) - (IntKind.wrap .i64 (t11 * (146097 : Int))))) (146096 : Int))))) (365 : Int))) (4 : Int))))) - (IntKind.wrap .i64 (Int.tdiv (IntKind.wrap .i64 (Int.tdiv (IntKind.wrap .i64 ((IntKind.wrap .i64 ((IntKind.wrap .i64 ((IntKind.wrap .i64 ((IntKind.wrap .i64 (a0 + (719468 : Int))) - (IntKind.wrap .i64 (t11 * (146097 : Int))))) - (IntKind.wrap .i64 (Int.tdiv (IntKind.wrap .i64 ((IntKind.wrap .i64 (a0 + (719468 : Int))) - (IntKind.wrap .i64 (t11 * (146097 : Int))))) (1460 : Int))))) + (IntKind.wrap .i64 (Int.tdiv (IntKind.wrap .i64 ((IntKind.wrap .i64 (a0 + (719468 : Int))) - (IntKind.wrap .i64 (t11 * (146097 : Int))))) (36524 : Int))))) - (IntKind.wrap .i64 (Int.tdiv (IntKind.wrap .i64 ((IntKind.wrap .i64 (a0 + (719468 : Int))) - (IntKind.wrap .i64 (t11 * (146097 : Int))))) (146096 : Int))))) (365 : Int))) (100 : Int))))))) - (IntKind.wrap .i64 (Int.tdiv (IntKind.wrap .i64 ((IntKind.wrap .i64 ((153 : Int) * (IntKind.wrap .i64 (Int.tdiv (IntKind.wrap .i64 ((IntKind.wrap .i64 ((5 : Int) * (IntKind.wrap .i64 ((IntKind.wrap .i64 ((IntKind.wrap .i64 (a0 + (719468 : Int))) - (IntKind.wrap .i64 (t11 * (146097 : Int))))) - (IntKind.wrap .i64 ((IntKind.wrap .i64 ((IntKind.wrap .i64 ((365 : Int) * (IntKind.wrap .i64 (Int.tdiv (IntKind.wrap .i64 ((IntKind.wrap .i64 ((IntKind.wrap .i64 ((IntKind.wrap .i64 ((IntKind.wrap .i64 (a0 + (719468 : Int))) - (IntKind.wrap .i64 (t11 * (146097 : Int))))) - (IntKind.wrap .i64 (Int.tdiv (IntKind.wrap .i64 ((IntKind.wrap .i64 (a0 + (719468 : Int))) - (IntKind.wrap .i64 (t11 * (146097 : Int))))) (1460 : Int))))) + (IntKind.wrap .i64 (Int.tdiv (IntKind.wrap .i64 ((IntKind.wrap .i64 (a0 + (719468 : Int))) - (IntKind.wrap .i64 (t11 * (146097 : Int))))) (36524 : Int))))) - (IntKind.wrap .i64 (Int.tdiv (IntKind.wrap .i64 ((IntKind.wrap .i64 (a0 + (719468 : Int))) - (IntKind.wrap .i64 (t11 * (146097 : Int))))) (146096 : Int))))) (365 : Int))))) + (IntKind.wrap .i64 (Int.tdiv (IntKind.wrap .i64 (Int.tdiv (IntKind.wrap .i64 ((IntKind.wrap .i64 ((IntKind.wrap .i64 ((IntKind.wrap .i64 ((IntKind.wrap .i64 (a0 + (719468 : Int))) - (IntKind.wrap .i64 (t11 * (146097 : Int))))) - (IntKind.wrap .i64 (Int.tdiv (IntKind.wrap .i64 ((IntKind.wrap .i64 (a0 + (719468 : Int))) - (IntKind.wrap .i64 (t11 * (146097 : Int))))) (1460 : Int))))) + (IntKind.wrap .i64 (Int.tdiv (IntKind.wrap .i64 ((IntKind.wrap .i64 (a0 + (719468 : Int))) - (IntKind.wrap .i64 (t11 * (146097 : Int))))) (36524 : Int))))) - (IntKind.wrap .i64 (Int.tdiv (IntKind.wrap .i64 ((IntKind.wrap .i64 (a0 + (719468 : Int))) - (IntKind.wrap .i64 (t11 * (146097 : Int))))) (146096 : Int))))) (365 : Int))) (4 : Int))))) - (IntKind.wrap .i64 (Int.tdiv (IntKind.wrap .i64 (Int.tdiv (IntKind.wrap .i64 ((IntKind.wrap .i64 ((IntKind.wrap .i64 ((IntKind.wrap .i64 ((IntKind.wrap .i64 (a0 + (719468 : Int))) - (IntKind.wrap .i64 (t11 * (146097 : Int))))) - (IntKind.wrap .i64 (Int.tdiv (IntKind.wrap .i64 ((IntKind.wrap .i64 (a0 + (719468 : Int))) - (IntKind.wrap .i64 (t11 * (146097 : Int))))) (1460 : Int))))) + (IntKind.wrap .i64 (Int.tdiv (IntKind.wrap .i64 ((IntKind.wrap .i64 (a0 + (719468 : Int))) - (IntKind.wrap .i64 (t11 * (146097 : Int))))) (36524 : Int))))) - (IntKind.wrap .i64 (Int.tdiv (IntKind.wrap .i64 ((IntKind.wrap .i64 (a0 + (719468 : Int))) - (IntKind.wrap .i64 (t11 * (146097 : Int))))) (146096 : Int))))) (365 : Int))) (100 : Int))))))))) + (2 : Int))) (153 : Int))))) + (2 : Int))) (5 : Int))))) + (1 : Int)))))]).run Try.prog w2 = .ok (.agg t56) w2 ∧
      (∃ (g7 : Nat) (w3 : World), (Instr.alloc 75 true (.tuple #[])).run Try.prog w2 = .ok (.pointer (some ⟨g7, 0, none⟩)) w3 ∧
        (∃ w4 : World, (Instr.storeAt 75 (.pointer (some ⟨g7, 0, none⟩)) (.agg t56)).run Try.prog w3 = .ok () w4 ∧
          (∃ (t58 : Int), (Instr.loadAt 3 (.pointer (some ⟨g7, 1, none⟩))).run Try.prog w4 = .ok (.int .i64 t58) w4 ∧
            (∃ J : World → Prop, (((decide (t58 ≤ (2 : Int))) = true →
                  (∃ (t61 : Int), (Instr.loadAt 3 (.pointer (some ⟨g7, 0, none⟩))).run Try.prog w4 = .ok (.int .i64 t61) w4 ∧
                    (∃ w5 : World, (Instr.storeAt 3 (.pointer (some ⟨g7, 0, none⟩)) (.int .i64 (IntKind.wrap .i64 (t61 + (1 : Int))))).run Try.prog w4 = .ok () w5 ∧
                      (J  w5)))) ∧
                ((decide (t58 ≤ (2 : Int))) = false →
                  (J  w4))) ∧
              (∀ w6 : World, J  w6 →
                (∃ (t64 : Array Value), (Instr.loadAt 75 (.pointer (some ⟨g7, 0, none⟩))).run Try.prog w6 = .ok (.agg t64) w6 ∧
                  (∃ w7 : World, (Instr.storeAt 75 (.pointer (some ⟨g2, 0, none⟩)) (.agg t64)).run Try.prog w6 = .ok () w7 ∧
                    (∃ r2 : Value, (loadVar 75 ⟨g2, 0, none⟩).run Try.prog w7 = .ok r2 w7 ∧
                      (R (.returned r2) w7)))))))))))) : Calls Try.prog 32 #[(.int .i64 a0)] w R :=
  calls_of_ev (args := [(.int .i64 a0)])
    (tc := .seq (.reg (.op .bx (.nil))) (.seq (.reg (.op .p (.op .p (.op .p (.nil))))) (.seq (.reg (.op .p (.op (.cl [.int .i64]) (.op .p (.nil))))) (.seq (.reg (.op .p (.op .p (.op .p (.op .p (.op .p (.nil))))))) (.seq (.reg (.op .p (.op .p (.op .p (.op .p (.op .p (.op .p (.op .p (.op .p (.op .p (.op .p (.op .p (.op .p (.nil)))))))))))))) (.seq (.reg (.op .p (.op .p (.op .p (.op .p (.op .p (.op .p (.op .p (.op .p (.op .p (.op .p (.op .p (.nil))))))))))))) (.seq (.reg (.op .p (.op .p (.op .p (.op .p (.op .p (.nil))))))) (.seq (.reg (.op .p (.op .p (.op .p (.op .p (.op .p (.op .p (.op .p (.op .p (.op .p (.op .p (.op .p (.op .p (.op .p (.op .p (.op .p (.op (.ld (.agg)) (.op .bx (.op .u (.nil)))))))))))))))))))) (.seq (.seq (.reg (.op .p (.op (.ld (.int .i64)) (.op .p (.nil))))) (.join [60, 61, 62, 63] [] [] (.cond (.reg (.op .p (.op (.ld (.int .i64)) (.op .p (.op .p (.op .u (.nil))))))) (.leaf)))) (.seq (.reg (.op (.ld (.agg)) (.op .u (.nil)))) (.leaf)))))))))))
    (by kernel_rfl) Try.func32 (by kernel_rfl) (by kernel_rfl) (by kernel_rfl) (by kernel_rfl) h

set_option maxRecDepth 100000 in
theorem civil_Weekday_vc (a0 : Int) (w : World) (R : Ending → World → Prop) (h :
  R (.returned (.int .i64 (IntKind.wrap .i64 ((Int.tmod (IntKind.wrap .i64 ((IntKind.wrap .i64 ((Int.tmod a0 (7 : Int)) + (7 : Int))) + (3 : Int))) (7 : Int)) + (1 : Int))))) w) : Calls Try.prog 49 #[(.int .i64 a0)] w R :=
  calls_of_ev (args := [(.int .i64 a0)])
    (tc := .seq (.reg (.op .p (.nil))) (.seq (.reg (.op .p (.op .p (.op .p (.op .p (.op .p (.op .p (.op .p (.nil))))))))) (.leaf)))
    (by kernel_rfl) Try.func49 (by kernel_rfl) (by kernel_rfl) (by kernel_rfl) (by kernel_rfl) h

set_option maxRecDepth 100000 in
theorem civil_Week_vc (a0 : Int) (w : World) (R : Ending → World → Prop) (h :
  Calls Try.prog 48 #[(.int .i64 a0)] w fun (e9 : Ending) (w1 : World) => ∃ (t9 : Bool), e9 = .returned (.bool t9) ∧
  (((!t9) = true →
      (R (.returned (.tuple #[(.int .i64 0), (.int .i64 0), (.iface 59 (.int .i64 24))])) w1)) ∧
    ((!t9) = false →
      (Calls Try.prog 49 #[(.int .i64 a0)] w1 fun (e15 : Ending) (w2 : World) => ∃ (t15 : Int), e15 = .returned (.int .i64 t15) ∧
        (Calls Try.prog 32 #[(.int .i64 (IntKind.wrap .i64 ((IntKind.wrap .i64 (a0 + (4 : Int))) - t15)))] w2 fun (e18 : Ending) (w3 : World) => ∃ (t18 : Array Value), e18 = .returned (.agg t18) ∧
          (∃ (t19 : Int), (Instr.field 75 (.agg t18) 0).run Try.prog w3 = .ok (.int .i64 t19) w3 ∧
            (∃ (t21 : Array Value), (Instr.build 75 #[(0, (.int .i64 t19)), (1, (.int .i64 1)), (2, (.int .i64 1))]).run Try.prog w3 = .ok (.agg t21) w3 ∧
              (Calls Try.prog 50 #[(.agg t21)] w3 fun (e22 : Ending) (w4 : World) => ∃ (t22 : Int), e22 = .returned (.int .i64 t22) ∧
                (R (.returned (.tuple #[(.int .i64 t19), (.int .i64 (IntKind.wrap .i64 ((IntKind.wrap .i64 (Int.tdiv (IntKind.wrap .i64 ((IntKind.wrap .i64 ((IntKind.wrap .i64 (a0 + (4 : Int))) - t15)) - t22)) (7 : Int))) + (1 : Int)))), .nilIface])) w4))))))))) : Calls Try.prog 35 #[(.int .i64 a0)] w R :=
  calls_of_ev (args := [(.int .i64 a0)])
    (tc := .seq (.reg (.op .p (.op .p (.op .p (.nil))))) (.seq (.seq (.reg (.op .p (.op (.cl [.bool]) (.op .p (.nil))))) (.cond (.seq (.reg (.op .p (.op .p (.op .p (.op .p (.nil)))))) (.leaf)) (.leaf))) (.seq (.reg (.op .p (.op .p (.op .p (.op (.cl [.int .i64]) (.op .p (.op .p (.nil)))))))) (.seq (.reg (.op .p (.op (.cl [.agg]) (.op (.ld (.int .i64)) (.op .p (.nil)))))) (.seq (.reg (.op .p (.op (.ld (.agg)) (.op (.cl [.int .i64]) (.op .p (.nil)))))) (.seq (.reg (.op .p (.op .p (.op .p (.op .p (.op .p (.op .p (.op .p (.op .p (.op .p (.nil))))))))))) (.leaf)))))))
    (by kernel_rfl) Try.func35 (by kernel_rfl) (by kernel_rfl) (by kernel_rfl) (by kernel_rfl) h

set_option maxRecDepth 100000 in
theorem civil_Day_vc (a0 : Int) (w : World) (R : Ending → World → Prop) (h :
  Calls Try.prog 47 #[(.int .i64 a0), (.int .i64 86400)] w fun (e4 : Ending) (w1 : World) => ∃ (t4 : Int), e4 = .returned (.int .i64 t4) ∧
  (R (.returned (.int .i64 t4)) w1)) : Calls Try.prog 33 #[(.int .i64 a0)] w R :=
  calls_of_ev (args := [(.int .i64 a0)])
    (tc := .seq (.reg (.op .p (.nil))) (.seq (.reg (.op .p (.op (.cl [.int .i64]) (.op .p (.nil))))) (.leaf)))
    (by kernel_rfl) Try.func33 (by kernel_rfl) (by kernel_rfl) (by kernel_rfl) (by kernel_rfl) h

set_option maxRecDepth 100000 in
theorem civil_Hour_vc (a0 : Int) (w : World) (R : Ending → World → Prop) (h :
  Calls Try.prog 47 #[(.int .i64 a0), (.int .i64 3600)] w fun (e4 : Ending) (w1 : World) => ∃ (t4 : Int), e4 = .returned (.int .i64 t4) ∧
  (R (.returned (.int .i64 t4)) w1)) : Calls Try.prog 34 #[(.int .i64 a0)] w R :=
  calls_of_ev (args := [(.int .i64 a0)])
    (tc := .seq (.reg (.op .p (.nil))) (.seq (.reg (.op .p (.op (.cl [.int .i64]) (.op .p (.nil))))) (.leaf)))
    (by kernel_rfl) Try.func34 (by kernel_rfl) (by kernel_rfl) (by kernel_rfl) (by kernel_rfl) h

set_option maxRecDepth 100000 in
theorem civil_Bucket_vc (a0 : Int) (a1 : Int) (w : World) (R : Ending → World → Prop) (h :
  (((decide (a1 < ((-1099511627776) : Int))) || (decide (a1 > (1099511627776 : Int)))) = true →
    (R (.returned (.tuple #[(.int .i64 0), (.iface 59 (.int .i64 24))])) w)) ∧
  (((decide (a1 < ((-1099511627776) : Int))) || (decide (a1 > (1099511627776 : Int)))) = false →
    (Calls Try.prog 33 #[(.int .i64 a1)] w fun (e18 : Ending) (w1 : World) => ∃ (t18 : Int), e18 = .returned (.int .i64 t18) ∧
      (Calls Try.prog 32 #[(.int .i64 t18)] w1 fun (e19 : Ending) (w2 : World) => ∃ (t19 : Array Value), e19 = .returned (.agg t19) ∧
        (∃ (g6 : Nat) (w3 : World), (Instr.alloc 75 true (.tuple #[])).run Try.prog w2 = .ok (.pointer (some ⟨g6, 0, none⟩)) w3 ∧
          (∃ w4 : World, (Instr.storeAt 75 (.pointer (some ⟨g6, 0, none⟩)) (.agg t19)).run Try.prog w3 = .ok () w4 ∧
            (((a0 == (1 : Int)) = true →
                (Calls Try.prog 34 #[(.int .i64 a1)] w4 fun (e24 : Ending) (w5 : World) => ∃ (t24 : Int), e24 = .returned (.int .i64 t24) ∧
                  (R (.returned (.tuple #[(.int .i64 t24), .nilIface])) w5))) ∧
              ((a0 == (1 : Int)) = false →
                (((a0 == (2 : Int)) = true →
                    (Calls Try.prog 33 #[(.int .i64 a1)] w4 fun (e28 : Ending) (w6 : World) => ∃ (t28 : Int), e28 = .returned (.int .i64 t28) ∧
                      (R (.returned (.tuple #[(.int .i64 t28), .nilIface])) w6))) ∧
                  ((a0 == (2 : Int)) = false →
                    (((a0 == (3 : Int)) = true →
                        (Calls Try.prog 33 #[(.int .i64 a1)] w4 fun (e33 : Ending) (w7 : World) => ∃ (t33 : Int), e33 = .returned (.int .i64 t33) ∧
                          (Calls Try.prog 35 #[(.int .i64 t33)] w7 fun (e34 : Ending) (w8 : World) => ∃ (t34_0 : Int) (t34_1 : Int) (t34_2 : Value), e34 = .returned (.tuple #[(.int .i64 t34_0), (.int .i64 t34_1), t34_2]) ∧
                            (R (.returned (.tuple #[(.int .i64 (IntKind.wrap .i64 ((IntKind.wrap .i64 ((100 : Int) * t34_0)) + t34_1))), t34_2])) w8)))) ∧
                      ((a0 == (3 : Int)) = false →
                        (((a0 == (4 : Int)) = true →
                            (∃ (t46 : Int), (Instr.loadAt 3 (.pointer (some ⟨g6, 0, none⟩))).run Try.prog w4 = .ok (.int .i64 t46) w4 ∧
                              (∃ (t49 : Int), (Instr.loadAt 3 (.pointer (some ⟨g6, 1, none⟩))).run Try.prog w4 = .ok (.int .i64 t49) w4 ∧
                                (R (.returned (.tuple #[(.int .i64 (IntKind.wrap .i64 ((IntKind.wrap .i64 ((100 : Int) * t46)) + t49))), .nilIface])) w4)))) ∧
                          ((a0 == (4 : Int)) = false →
                            (((a0 == (5 : Int)) = true →
                                (∃ (t54 : Int), (Instr.loadAt 3 (.pointer (some ⟨g6, 0, none⟩))).run Try.prog w4 = .ok (.int .i64 t54) w4 ∧
                                  (R (.returned (.tuple #[(.int .i64 t54), .nilIface])) w4))) ∧
                              ((a0 == (5 : Int)) = false →
                                (R (.returned (.tuple #[(.int .i64 0), (.iface 59 (.int .i64 24))])) w4))))))))))))))))) : Calls Try.prog 24 #[(.int .i64 a0), (.int .i64 a1)] w R :=
  calls_of_ev (args := [(.int .i64 a0), (.int .i64 a1)])
    (tc := .seq (.reg (.op .p (.op .p (.nil)))) (.seq (.seq (.reg (.op .p (.op .p (.op .p (.ap 2 (.nil)))))) (.cond (.seq (.reg (.op .p (.op .p (.op .p (.nil))))) (.leaf)) (.leaf))) (.seq (.reg (.op .p (.op (.cl [.int .i64]) (.op (.cl [.agg]) (.op .bx (.op .u (.nil))))))) (.seq (.seq (.reg (.op .p (.nil))) (.blk (.seq (.reg (.op .p (.op .p (.nil)))) (.cond (.seq (.reg (.op .p (.op (.cl [.int .i64]) (.op .p (.op .p (.nil)))))) (.leaf)) (.seq (.reg (.op .p (.op .p (.nil)))) (.cond (.seq (.reg (.op .p (.op (.cl [.int .i64]) (.op .p (.op .p (.nil)))))) (.leaf)) (.seq (.reg (.op .p (.op .p (.nil)))) (.cond (.seq (.reg (.op .p (.op (.cl [.int .i64]) (.op (.cl [.int .i64, .int .i64, .val]) (.op .p (.op .p (.op .p (.op .p (.op .p (.op .p (.op .p (.nil)))))))))))) (.seq (.reg (.op .p (.op .p (.op .p (.op .p (.op .p (.op .p (.op .p (.nil))))))))) (.leaf))) (.seq (.reg (.op .p (.op .p (.nil)))) (.cond (.seq (.reg (.op .p (.op (.ld (.int .i64)) (.op .p (.op .p (.op (.ld (.int .i64)) (.op .p (.op .p (.op .p (.nil)))))))))) (.leaf)) (.seq (.reg (.op .p (.op .p (.nil)))) (.cond (.seq (.reg (.op .p (.op (.ld (.int .i64)) (.op .p (.op .p (.nil)))))) (.leaf)) (.leaf))))))))))))) (.seq (.reg (.op .p (.op .p (.op .p (.nil))))) (.leaf))))))
    (by kernel_rfl) Try.func24 (by kernel_rfl) (by kernel_rfl) (by kernel_rfl) (by kernel_rfl) h

set_option maxRecDepth 100000 in
theorem cmp_Or_int_vc (a0a : Option Addr) (a0n : Nat) (a0c : Nat) (w : World) (R : Ending → World → Prop) (h :
  ∃ (I : Int → World → Prop) (μ : Int → World → Nat), I 0 w ∧
  (∀ (x8 : Int), ∀ w1 : World, I x8 w1 →
    (((decide (x8 < ((a0n : Nat) : Int))) = true →
        (∃ (t10b t10o : Nat), a0a = some ⟨t10b, t10o, none⟩ ∧ 0 ≤ x8 ∧ x8 < ((a0n : Nat) : Int) ∧
          (∃ (t11 : Int), (Instr.loadAt 3 (.pointer (some ⟨t10b, t10o + Int.toNat x8 * 1, none⟩))).run Try.prog w1 = .ok (.int .i64 t11) w1 ∧
            (((t11 != (0 : Int)) = true →
                (R (.returned (.int .i64 t11)) w1)) ∧
              ((t11 != (0 : Int)) = false →
                (I (IntKind.wrap .i64 (x8 + (1 : Int))) w1 ∧ μ (IntKind.wrap .i64 (x8 + (1 : Int))) w1 < μ x8 w1)))))) ∧
      ((decide (x8 < ((a0n : Nat) : Int))) = false →
        (R (.returned (.int .i64 0)) w1))))) : Calls Try.prog 38 #[(.slice a0a a0n a0c)] w R :=
  calls_of_ev (args := [(.slice a0a a0n a0c)])
    (tc := .seq (.reg (.op .p (.nil))) (.seq (.reg (.op .p (.nil))) (.seq (.seq (.reg (.op .p (.op .p (.op .p (.nil))))) (.blk (.loop [2, 5, 8, 9, 10, 11, 12, 13, 14, 15, 16] [8] [.int .i64] (.seq (.reg (.op .p (.nil))) (.seq (.cond (.leaf) (.leaf)) (.seq (.blk (.seq (.reg (.op .ix (.op (.ld (.int .i64)) (.op .p (.nil))))) (.seq (.reg (.op .p (.op .p (.op .p (.nil))))) (.cond (.seq (.reg (.op .p (.op .p (.nil)))) (.leaf)) (.leaf))))) (.reg (.op .p (.op .p (.nil)))))))))) (.seq (.reg (.op .p (.op .p (.nil)))) (.leaf)))))
    (by kernel_rfl) Try.func38 (by kernel_rfl) (by kernel_rfl) (by kernel_rfl) (by kernel_rfl) h

set_option maxRecDepth 100000 in
theorem cmp_Compare_int_vc (a0 : Int) (a1 : Int) (w : World) (R : Ending → World → Prop) (h :
  Calls Try.prog 52 #[(.int .i64 a0)] w fun (e8 : Ending) (w1 : World) => ∃ (t8 : Bool), e8 = .returned (.bool t8) ∧
  (Calls Try.prog 52 #[(.int .i64 a1)] w1 fun (e10 : Ending) (w2 : World) => ∃ (t10 : Bool), e10 = .returned (.bool t10) ∧
    ((t8 = true →
        ((t10 = true →
            (R (.returned (.int .i64 0)) w2)) ∧
          (t10 = false →
            (R (.returned (.int .i64 (-1))) w2)))) ∧
      (t8 = false →
        ((t10 = true →
            (R (.returned (.int .i64 1)) w2)) ∧
          (t10 = false →
            (((decide (a0 < a1)) = true →
                (R (.returned (.int .i64 (-1))) w2)) ∧
              ((decide (a0 < a1)) = false →
                (((decide (a0 > a1)) = true →
                    (R (.returned (.int .i64 1)) w2)) ∧
                  ((decide (a0 > a1)) = false →
                    (R (.returned (.int .i64 0)) w2))))))))))) : Calls Try.prog 39 #[(.int .i64 a0), (.int .i64 a1)] w R :=
  calls_of_ev (args := [(.int .i64 a0), (.int .i64 a1)])
    (tc := .seq (.reg (.op .p (.nil))) (.seq (.reg (.op .p (.op (.cl [.bool]) (.op .p (.nil))))) (.seq (.reg (.op .p (.op (.cl [.bool]) (.op .p (.nil))))) (.seq (.seq (.reg (.op .p (.nil))) (.cond (.seq (.seq (.reg (.op .p (.nil))) (.cond (.seq (.reg (.op .p (.nil))) (.leaf)) (.leaf))) (.seq (.reg (.op .p (.nil))) (.leaf))) (.leaf))) (.seq (.seq (.reg (.op .p (.nil))) (.cond (.seq (.reg (.op .p (.nil))) (.leaf)) (.leaf))) (.seq (.seq (.reg (.op .p (.op .p (.op .p (.nil))))) (.cond (.seq (.reg (.op .p (.nil))) (.leaf)) (.leaf))) (.seq (.seq (.reg (.op .p (.op .p (.op .p (.nil))))) (.cond (.seq (.reg (.op .p (.nil))) (.leaf)) (.leaf))) (.seq (.reg (.op .p (.nil))) (.leaf)))))))))
    (by kernel_rfl) Try.func39 (by kernel_rfl) (by kernel_rfl) (by kernel_rfl) (by kernel_rfl) h

set_option maxRecDepth 100000 in
theorem cmp_Compare_string_vc (a0 : ByteArray) (a1 : ByteArray) (w : World) (R : Ending → World → Prop) (h :
  Calls Try.prog 53 #[(.string a0)] w fun (e8 : Ending) (w1 : World) => ∃ (t8 : Bool), e8 = .returned (.bool t8) ∧
  (Calls Try.prog 53 #[(.string a1)] w1 fun (e10 : Ending) (w2 : World) => ∃ (t10 : Bool), e10 = .returned (.bool t10) ∧
    ((t8 = true →
        ((t10 = true →
            (R (.returned (.int .i64 0)) w2)) ∧
          (t10 = false →
            (R (.returned (.int .i64 (-1))) w2)))) ∧
      (t8 = false →
        ((t10 = true →
            (R (.returned (.int .i64 1)) w2)) ∧
          (t10 = false →
            (∃ (t16 : Bool), (eqlS .lss 9 (.tmp 14) (.tmp 15) (.string a0) (.string a1)).run Try.prog w2 = .ok (.bool t16) w2 ∧
              ((t16 = true →
                  (R (.returned (.int .i64 (-1))) w2)) ∧
                (t16 = false →
                  (∃ (t19 : Bool), (eqlS .gtr 9 (.tmp 17) (.tmp 18) (.string a0) (.string a1)).run Try.prog w2 = .ok (.bool t19) w2 ∧
                    ((t19 = true →
                        (R (.returned (.int .i64 1)) w2)) ∧
                      (t19 = false →
                        (R (.returned (.int .i64 0)) w2))))))))))))) : Calls Try.prog 40 #[(.string a0), (.string a1)] w R :=
  calls_of_ev (args := [(.string a0), (.string a1)])
    (tc := .seq (.reg (.op .p (.nil))) (.seq (.reg (.op .p (.op (.cl [.bool]) (.op .p (.nil))))) (.seq (.reg (.op .p (.op (.cl [.bool]) (.op .p (.nil))))) (.seq (.seq (.reg (.op .p (.nil))) (.cond (.seq (.seq (.reg (.op .p (.nil))) (.cond (.seq (.reg (.op .p (.nil))) (.leaf)) (.leaf))) (.seq (.reg (.op .p (.nil))) (.leaf))) (.leaf))) (.seq (.seq (.reg (.op .p (.nil))) (.cond (.seq (.reg (.op .p (.nil))) (.leaf)) (.leaf))) (.seq (.seq (.reg (.op .p (.op .p (.op (.ld (.bool)) (.nil))))) (.cond (.seq (.reg (.op .p (.nil))) (.leaf)) (.leaf))) (.seq (.seq (.reg (.op .p (.op .p (.op (.ld (.bool)) (.nil))))) (.cond (.seq (.reg (.op .p (.nil))) (.leaf)) (.leaf))) (.seq (.reg (.op .p (.nil))) (.leaf)))))))))
    (by kernel_rfl) Try.func40 (by kernel_rfl) (by kernel_rfl) (by kernel_rfl) (by kernel_rfl) h

set_option maxRecDepth 100000 in
theorem cmp_isNaN_int_vc (a0 : Int) (w : World) (R : Ending → World → Prop) (h :
  R (.returned (.bool (a0 != a0))) w) : Calls Try.prog 52 #[(.int .i64 a0)] w R :=
  calls_of_ev (args := [(.int .i64 a0)])
    (tc := .seq (.reg (.op .p (.nil))) (.seq (.reg (.op .p (.op .p (.op .p (.op .p (.nil)))))) (.leaf)))
    (by kernel_rfl) Try.func52 (by kernel_rfl) (by kernel_rfl) (by kernel_rfl) (by kernel_rfl) h

set_option maxRecDepth 100000 in
theorem cmp_isNaN_string_vc (a0 : ByteArray) (w : World) (R : Ending → World → Prop) (h :
  R (.returned (.bool (!(a0.toList == a0.toList)))) w) : Calls Try.prog 53 #[(.string a0)] w R :=
  calls_of_ev (args := [(.string a0)])
    (tc := .seq (.reg (.op .p (.nil))) (.seq (.reg (.op .p (.op .p (.op .p (.op .p (.nil)))))) (.leaf)))
    (by kernel_rfl) Try.func53 (by kernel_rfl) (by kernel_rfl) (by kernel_rfl) (by kernel_rfl) h

end Go.Proofs.Ytdcgapabphjgbaa
