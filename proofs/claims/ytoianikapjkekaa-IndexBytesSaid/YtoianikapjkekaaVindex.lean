/- Verification conditions of functions, printed by the session's own program vc.py: out of each, Calls (conditions: none). -/
import Derived.Test.YtoianikapjkekaaRows
import Derived.Test.YtoianikapjkekaaSxRun
namespace Go.Proofs.Ytoianikapjkekaa
open Go Go.Proofs.Ytoianikapjkekaa.Sx

set_option maxRecDepth 100000 in
theorem index_good_vc (a0 : Array Value) (w : World) (R : Ending → World → Prop) (h :
  ∃ (g1 : Nat) (w1 : World), (Instr.box 52 (.agg a0)).run Try.prog w = .ok (.pointer (some ⟨g1, 0, none⟩)) w1 ∧
  (∃ (t4 : Int), (Instr.loadAt 3 (.pointer (some ⟨g1, 32, none⟩))).run Try.prog w1 = .ok (.int .i64 t4) w1 ∧
    (((decide (t4 ≥ (0 : Int))) = true →
        (∃ (t8 : Int), (Instr.loadAt 3 (.pointer (some ⟨g1, 32, none⟩))).run Try.prog w1 = .ok (.int .i64 t8) w1 ∧
          (((decide (t8 ≤ (1099511627776 : Int))) = true →
              (∃ (t13 : Int), (Instr.loadAt 3 (.pointer (some ⟨g1, 33, none⟩))).run Try.prog w1 = .ok (.int .i64 t13) w1 ∧
                (((decide (t13 ≥ (0 : Int))) = true →
                    (∃ (t18 : Int), (Instr.loadAt 3 (.pointer (some ⟨g1, 34, none⟩))).run Try.prog w1 = .ok (.int .i64 t18) w1 ∧
                      (R (.returned (.bool (decide (t18 ≥ (0 : Int))))) w1))) ∧
                  ((decide (t13 ≥ (0 : Int))) = false →
                    (R (.returned (.bool false)) w1))))) ∧
            ((decide (t8 ≤ (1099511627776 : Int))) = false →
              (R (.returned (.bool false)) w1))))) ∧
      ((decide (t4 ≥ (0 : Int))) = false →
        (R (.returned (.bool false)) w1))))) : Calls Try.prog 36 #[(.agg a0)] w R :=
  calls_of_ev (args := [(.agg a0)])
    (tc := .seq (.reg (.op .bx (.op .p (.nil)))) (.seq (.reg (.op .p (.op (.ld (.int .i64)) (.op .p (.op .p (.sp 6 (.op .p (.op (.ld (.int .i64)) (.op .p (.op .p (.op .p (.sp 11 (.op .p (.op (.ld (.int .i64)) (.op .p (.op .p (.op .p (.sp 16 (.op .p (.op (.ld (.int .i64)) (.op .p (.op .p (.op .p (.nil)))))) (.op .p (.op .p (.op .p (.op .p (.op .p (.nil)))))))))))) (.op .p (.op .p (.op .p (.op .p (.op .p (.op .p (.op .p (.op .p (.op .p (.op .p (.nil))))))))))))))))) (.op .p (.op .p (.op .p (.op .p (.op .p (.op .p (.op .p (.op .p (.op .p (.op .p (.op .p (.op .p (.op .p (.op .p (.op .p (.nil)))))))))))))))))))))) (.leaf)))
    (by kernel_rfl) Try.func36 (by kernel_rfl) (by kernel_rfl) (by kernel_rfl) (by kernel_rfl) h

set_option maxRecDepth 100000 in
theorem index_compare_vc (a0 : Array Value) (a1 : Array Value) (w : World) (R : Ending → World → Prop) (h :
  ∃ (g2 : Nat) (w1 : World), (Instr.box 40 (.agg a0)).run Try.prog w = .ok (.pointer (some ⟨g2, 0, none⟩)) w1 ∧
  (∃ (g3 : Nat) (w2 : World), (Instr.box 40 (.agg a1)).run Try.prog w1 = .ok (.pointer (some ⟨g3, 0, none⟩)) w2 ∧
    (0 ≤ ((32 : Nat) : Int) ∧ ((32 : Nat) : Int) ≤ ((32 : Nat) : Int) ∧
      (0 ≤ ((32 : Nat) : Int) ∧ ((32 : Nat) : Int) ≤ ((32 : Nat) : Int) ∧
        (Calls Try.prog 56 #[(.slice (some ⟨g2, 0, none⟩) (32) 32), (.slice (some ⟨g3, 0, none⟩) (32) 32)] w2.drew fun (e7 : Ending) (w3 : World) => ∃ (t7 : Int), e7 = .returned (.int .i64 t7) ∧
          (R (.returned (.int .i64 t7)) w3)))))) : Calls Try.prog 37 #[(.agg a0), (.agg a1)] w R :=
  calls_of_ev (args := [(.agg a0), (.agg a1)])
    (tc := .seq (.reg (.op .bx (.op .bx (.op .p (.nil))))) (.seq (.draw (.tk 0 .sl (.tk 1 .sl (.go 2 (.cl [.int .i64]) (.tk 3 .p (.nil))))) [0, 1, 2, 3]) (.leaf)))
    (by kernel_rfl) Try.func37 (by kernel_rfl) (by kernel_rfl) (by kernel_rfl) (by kernel_rfl) h

set_option maxRecDepth 100000 in
theorem index_Check_vc (a0a : Option Addr) (a0n : Nat) (a0c : Nat) (w : World) (R : Ending → World → Prop) (h :
  ∃ (I : Int → World → Prop) (μ : Int → World → Nat), I 0 w ∧
  (∀ (x7 : Int), ∀ w1 : World, I x7 w1 →
    (((decide (x7 < ((a0n : Nat) : Int))) = true →
        (∃ (t10b t10o : Nat), a0a = some ⟨t10b, t10o, none⟩ ∧ 0 ≤ x7 ∧ x7 < ((a0n : Nat) : Int) ∧
          (∃ (t11 : Array Value), (Instr.loadAt 52 (.pointer (some ⟨t10b, t10o + Int.toNat x7 * 35, none⟩))).run Try.prog w1 = .ok (.agg t11) w1 ∧
            (∃ (g4 : Nat) (w2 : World), (Instr.alloc 52 true (.tuple #[])).run Try.prog w1 = .ok (.pointer (some ⟨g4, 0, none⟩)) w2 ∧
              (∃ w3 : World, (Instr.storeAt 52 (.pointer (some ⟨g4, 0, none⟩)) (.agg t11)).run Try.prog w2 = .ok () w3 ∧
                (∃ J : Bool → World → Prop, (∃ S : World → Prop, S w3.drew ∧
                    (∃ (t12 : Array Value), (∀ w' : World, S w' → (Instr.loadAt 52 (.pointer (some ⟨g4, 0, none⟩))).run Try.prog w' = .ok (.agg t12) w') ∧
                      (Calls Try.prog 36 #[(.agg t12)] w3.drew fun (e13 : Ending) (w4 : World) => ∃ (t13 : Bool), e13 = .returned (.bool t13) ∧
                        (∃ S_1 : World → Prop, (∀ w' : World, S_1 w' → S w') ∧ S_1 w4 ∧
                          (((!t13) = true →
                              (S_1 w4 ∧
                                (J true w4))) ∧
                            ((!t13) = false →
                              (((decide (x7 > (0 : Int))) = true →
                                  (∃ (t22b t22o : Nat), a0a = some ⟨t22b, t22o, none⟩ ∧ 0 ≤ (IntKind.wrap .i64 (x7 - (1 : Int))) ∧ (IntKind.wrap .i64 (x7 - (1 : Int))) < ((a0n : Nat) : Int) ∧
                                    (∃ (t24 : Array Value), (∀ w' : World, S_1 w' → (Instr.loadAt 40 (.pointer (some ⟨t22b, t22o + Int.toNat (IntKind.wrap .i64 (x7 - (1 : Int))) * 35, none⟩))).run Try.prog w' = .ok (.agg t24) w') ∧
                                      (∃ (t26 : Array Value), (∀ w' : World, S_1 w' → (Instr.loadAt 40 (.pointer (some ⟨g4, 0, none⟩))).run Try.prog w' = .ok (.agg t26) w') ∧
                                        (Calls Try.prog 37 #[(.agg t24), (.agg t26)] w4 fun (e27 : Ending) (w5 : World) => ∃ (t27 : Int), e27 = .returned (.int .i64 t27) ∧
                                          (∃ S_2 : World → Prop, (∀ w' : World, S_2 w' → S_1 w') ∧ S_2 w5 ∧
                                            (J (decide (t27 ≥ (0 : Int))) w5))))))) ∧
                                ((decide (x7 > (0 : Int))) = false →
                                  (S_1 w4 ∧
                                    (J false w4)))))))))) ∧
                  (∀ (x30 : Bool), ∀ w6 : World, J x30 w6 →
                    ((x30 = true →
                        (R (.returned (.iface 58 (.int .i64 28))) w6)) ∧
                      (x30 = false →
                        (I (IntKind.wrap .i64 (x7 + (1 : Int))) w6 ∧ μ (IntKind.wrap .i64 (x7 + (1 : Int))) w6 < μ x7 w1)))))))))) ∧
      ((decide (x7 < ((a0n : Nat) : Int))) = false →
        (R (.returned .nilIface) w1))))) : Calls Try.prog 17 #[(.slice a0a a0n a0c)] w R :=
  calls_of_ev (args := [(.slice a0a a0n a0c)])
    (tc := .seq (.reg (.op .p (.nil))) (.seq (.seq (.reg (.op .p (.op .p (.op .p (.nil))))) (.blk (.loop [2, 3, 4, 7, 8, 9, 10, 11, 12, 13, 14, 15, 16, 17, 18, 19, 20, 21, 22, 23, 24, 25, 26, 27, 28, 29, 30, 31, 32] [7] [.int .i64] (.seq (.reg (.op .p (.nil))) (.seq (.cond (.leaf) (.leaf)) (.seq (.blk (.seq (.reg (.op .p (.op .ix (.op (.ld (.agg)) (.op .bx (.op .p (.op .u (.nil)))))))) (.seq (.join [12, 13, 14, 15, 16, 17, 18, 19, 20, 21, 22, 23, 24, 25, 26, 27, 28, 29, 30] [30] [.bool] (.drawS (.ts 0 (.agg) (.go 1 (.cl [.bool]) (.tk 2 .p (.tk 3 .p (.sp 15 (.tk 4 .p (.tk 5 .p (.tk 6 .p (.tk 7 .p (.tk 8 .p (.tk 9 .p (.tk 10 .p (.tk 11 .p (.tk 13 .p (.ts 12 .val (.ts 14 .val (.go 15 .p (.tk 16 .p (.tk 17 .p (.tk 18 .p (.nil)))))))))))))))) (.tk 4 .p (.tk 5 .p (.tk 6 .p (.sp 18 (.tk 7 .p (.tk 8 .p (.tk 9 .p (.tk 10 .ix (.tk 11 .p (.tk 13 .p (.ts 12 (.agg) (.ts 14 (.agg) (.go 15 (.cl [.int .i64]) (.tk 16 .p (.tk 17 .p (.tk 18 .p (.nil))))))))))))) (.tk 7 .p (.tk 8 .p (.tk 9 .p (.tk 10 .p (.tk 11 .p (.tk 13 .p (.ts 12 .val (.ts 14 .val (.go 15 .p (.tk 16 .p (.tk 17 .p (.tk 18 .p (.nil)))))))))))))))))))))) [])) (.cond (.seq (.reg (.op .p (.op .p (.nil)))) (.leaf)) (.leaf))))) (.reg (.op .p (.op .p (.nil)))))))))) (.seq (.reg (.op .p (.nil))) (.leaf))))
    (by kernel_rfl) Try.func17 (by kernel_rfl) (by kernel_rfl) (by kernel_rfl) (by kernel_rfl) h

set_option maxRecDepth 100000 in
theorem index_Segment_vc (a0a : Option Addr) (a0n : Nat) (a0c : Nat) (w : World) (R : Ending → World → Prop) (h :
  Calls Try.prog 18 #[] w fun (e6 : Ending) (w1 : World) => ∃ (t6b : Nat) (t6o : Nat), e6 = .returned (.pointer (some ⟨t6b, t6o, none⟩)) ∧
  (Calls Try.prog 19 #[(.pointer (some ⟨t6b, t6o, none⟩)), (.slice a0a a0n a0c)] w1 fun (e9 : Ending) (w2 : World) => ∃ (t9 : Value), e9 = .returned t9 ∧
    (∃ (t11 : Bool), (eqlS .neq 27 (.tmp 10) (.const .nilIface) t9 .nilIface).run Try.prog w2 = .ok (.bool t11) w2 ∧
      ((t11 = true →
          (R (.returned (.tuple #[(.slice none 0 0), t9])) w2)) ∧
        (t11 = false →
          (Calls Try.prog 23 #[(.pointer (some ⟨t6b, t6o, none⟩))] w2 fun (e14 : Ending) (w3 : World) => ∃ (t14a : Option Addr) (t14n : Nat) (t14c : Nat), e14 = .returned (.slice t14a t14n t14c) ∧
            (R (.returned (.tuple #[(.slice t14a t14n t14c), .nilIface])) w3))))))) : Calls Try.prog 16 #[(.slice a0a a0n a0c)] w R :=
  calls_of_ev (args := [(.slice a0a a0n a0c)])
    (tc := .seq (.reg (.op .p (.op .p (.nil)))) (.seq (.reg (.op (.cl [.ptr]) (.op .p (.nil)))) (.seq (.seq (.reg (.op .p (.op .p (.op (.cl [.val]) (.op .p (.nil)))))) (.seq (.reg (.op .p (.op (.ld (.bool)) (.nil)))) (.cond (.seq (.reg (.op .p (.op .p (.op .p (.nil))))) (.leaf)) (.leaf)))) (.seq (.reg (.op .p (.op (.cl [.slice]) (.op .p (.op .p (.nil)))))) (.leaf)))))
    (by kernel_rfl) Try.func16 (by kernel_rfl) (by kernel_rfl) (by kernel_rfl) (by kernel_rfl) h

set_option maxRecDepth 100000 in
theorem index_Merge_vc (a0a : Option Addr) (a0n : Nat) (a0c : Nat) (w : World) (R : Ending → World → Prop) (h :
  Calls Try.prog 18 #[] w fun (e9 : Ending) (w1 : World) => ∃ (t9b : Nat) (t9o : Nat), e9 = .returned (.pointer (some ⟨t9b, t9o, none⟩)) ∧
  (∃ (I : Int → World → Prop) (μ : Int → World → Nat), I 0 w1 ∧
    (∀ (x12 : Int), ∀ w2 : World, I x12 w2 →
      (((decide (x12 < ((a0n : Nat) : Int))) = true →
          (∃ (t14b t14o : Nat), a0a = some ⟨t14b, t14o, none⟩ ∧ 0 ≤ x12 ∧ x12 < ((a0n : Nat) : Int) ∧
            (∃ (t15a : Option Addr) (t15n : Nat) (t15c : Nat), (Instr.loadAt 24 (.pointer (some ⟨t14b, t14o + Int.toNat x12 * 1, none⟩))).run Try.prog w2 = .ok (.slice t15a t15n t15c) w2 ∧
              (Calls Try.prog 17 #[(.slice t15a t15n t15c)] w2 fun (e17 : Ending) (w3 : World) => ∃ (t17 : Value), e17 = .returned t17 ∧
                (∃ (t19 : Bool), (eqlS .neq 27 (.tmp 18) (.const .nilIface) t17 .nilIface).run Try.prog w3 = .ok (.bool t19) w3 ∧
                  ((t19 = true →
                      (R (.returned (.tuple #[(.slice none 0 0), t17])) w3)) ∧
                    (t19 = false →
                      (Calls Try.prog 19 #[(.pointer (some ⟨t9b, t9o, none⟩)), (.slice t15a t15n t15c)] w3 fun (e23 : Ending) (w4 : World) => ∃ (t23 : Value), e23 = .returned t23 ∧
                        (∃ (t25 : Bool), (eqlS .neq 27 (.tmp 24) (.const .nilIface) t23 .nilIface).run Try.prog w4 = .ok (.bool t25) w4 ∧
                          ((t25 = true →
                              (R (.returned (.tuple #[(.slice none 0 0), t23])) w4)) ∧
                            (t25 = false →
                              (I (IntKind.wrap .i64 (x12 + (1 : Int))) w4 ∧ μ (IntKind.wrap .i64 (x12 + (1 : Int))) w4 < μ x12 w2)))))))))))) ∧
        ((decide (x12 < ((a0n : Nat) : Int))) = false →
          (Calls Try.prog 23 #[(.pointer (some ⟨t9b, t9o, none⟩))] w2 fun (e29 : Ending) (w5 : World) => ∃ (t29a : Option Addr) (t29n : Nat) (t29c : Nat), e29 = .returned (.slice t29a t29n t29c) ∧
            (R (.returned (.tuple #[(.slice t29a t29n t29c), .nilIface])) w5))))))) : Calls Try.prog 11 #[(.slice a0a a0n a0c)] w R :=
  calls_of_ev (args := [(.slice a0a a0n a0c)])
    (tc := .seq (.reg (.op .p (.op .p (.nil)))) (.seq (.reg (.op (.cl [.ptr]) (.op .p (.nil)))) (.seq (.seq (.reg (.op .p (.op .p (.op .p (.nil))))) (.blk (.loop [2, 3, 6, 7, 8, 12, 13, 14, 15, 16, 17, 18, 19, 20, 21, 22, 23, 24, 25, 26, 27] [12] [.int .i64] (.seq (.reg (.op .p (.nil))) (.seq (.cond (.leaf) (.leaf)) (.seq (.blk (.seq (.reg (.op .ix (.op (.ld (.slice)) (.op .p (.nil))))) (.seq (.seq (.reg (.op .p (.op (.cl [.val]) (.op .p (.nil))))) (.seq (.reg (.op .p (.op (.ld (.bool)) (.nil)))) (.cond (.seq (.reg (.op .p (.op .p (.op .p (.nil))))) (.leaf)) (.leaf)))) (.seq (.reg (.op .p (.op .p (.op (.cl [.val]) (.op .p (.nil)))))) (.seq (.reg (.op .p (.op (.ld (.bool)) (.nil)))) (.cond (.seq (.reg (.op .p (.op .p (.op .p (.nil))))) (.leaf)) (.leaf))))))) (.reg (.op .p (.op .p (.nil)))))))))) (.seq (.reg (.op .p (.op (.cl [.slice]) (.op .p (.op .p (.nil)))))) (.leaf)))))
    (by kernel_rfl) Try.func11 (by kernel_rfl) (by kernel_rfl) (by kernel_rfl) (by kernel_rfl) h

set_option maxRecDepth 100000 in
theorem index_place_vc (a0a : Option Addr) (a0n : Nat) (a0c : Nat) (a1 : Array Value) (w : World) (R : Ending → World → Prop) (h :
  ∃ (g3 : Nat) (w1 : World), (Instr.box 40 (.agg a1)).run Try.prog w = .ok (.pointer (some ⟨g3, 0, none⟩)) w1 ∧
  (∃ (t7 : Array Value), (Instr.loadAt 40 (.pointer (some ⟨g3, 0, none⟩))).run Try.prog w1 = .ok (.agg t7) w1 ∧
    (Calls Try.prog 61 #[(.slice a0a a0n a0c), (.agg t7), (.func (.func 62) #[] #[])] w1 fun (e8 : Ending) (w2 : World) => ∃ (t8_0 : Int) (t8_1 : Bool), e8 = .returned (.tuple #[(.int .i64 t8_0), (.bool t8_1)]) ∧
      (R (.returned (.tuple #[(.int .i64 t8_0), (.bool t8_1)])) w2)))) : Calls Try.prog 46 #[(.slice a0a a0n a0c), (.agg a1)] w R :=
  calls_of_ev (args := [(.slice a0a a0n a0c), (.agg a1)])
    (tc := .seq (.reg (.op .bx (.op .p (.op .p (.nil))))) (.seq (.reg (.op .p (.op (.ld (.agg)) (.op (.cl [.int .i64, .bool]) (.op .p (.op .p (.op .p (.op .p (.nil))))))))) (.leaf)))
    (by kernel_rfl) Try.func46 (by kernel_rfl) (by kernel_rfl) (by kernel_rfl) (by kernel_rfl) h

set_option maxRecDepth 100000 in
theorem index_Find_vc (a0a : Option Addr) (a0n : Nat) (a0c : Nat) (a1 : Array Value) (w : World) (R : Ending → World → Prop) (h :
  ∃ (g3 : Nat) (w1 : World), (Instr.box 40 (.agg a1)).run Try.prog w = .ok (.pointer (some ⟨g3, 0, none⟩)) w1 ∧
  (∃ (g4 : Nat) (w2 : World), (Instr.alloc 52 true (.tuple #[])).run Try.prog w1 = .ok (.pointer (some ⟨g4, 0, none⟩)) w2 ∧
    (∃ (t10 : Array Value), (Instr.loadAt 40 (.pointer (some ⟨g3, 0, none⟩))).run Try.prog w2 = .ok (.agg t10) w2 ∧
      (Calls Try.prog 46 #[(.slice a0a a0n a0c), (.agg t10)] w2 fun (e11 : Ending) (w3 : World) => ∃ (t11_0 : Int) (t11_1 : Bool), e11 = .returned (.tuple #[(.int .i64 t11_0), (.bool t11_1)]) ∧
        (((!t11_1) = true →
            (∃ (t16 : Array Value), (Instr.build 52 #[]).run Try.prog w3 = .ok (.agg t16) w3 ∧
              (∃ w4 : World, (Instr.storeAt 52 (.pointer (some ⟨g4, 0, none⟩)) (.agg t16)).run Try.prog w3 = .ok () w4 ∧
                (∃ r4 : Value, (loadVar 52 ⟨g4, 0, none⟩).run Try.prog w4 = .ok r4 w4 ∧
                  (R (.returned (.tuple #[r4, (.bool false)])) w4))))) ∧
          ((!t11_1) = false →
            (∃ (t19b t19o : Nat), a0a = some ⟨t19b, t19o, none⟩ ∧ 0 ≤ t11_0 ∧ t11_0 < ((a0n : Nat) : Int) ∧
              (∃ (t20 : Array Value), (Instr.loadAt 52 (.pointer (some ⟨t19b, t19o + Int.toNat t11_0 * 35, none⟩))).run Try.prog w3 = .ok (.agg t20) w3 ∧
                (∃ w5 : World, (Instr.storeAt 52 (.pointer (some ⟨g4, 0, none⟩)) (.agg t20)).run Try.prog w3 = .ok () w5 ∧
                  (∃ r4 : Value, (loadVar 52 ⟨g4, 0, none⟩).run Try.prog w5 = .ok r4 w5 ∧
                    (R (.returned (.tuple #[r4, (.bool true)])) w5))))))))))) : Calls Try.prog 29 #[(.slice a0a a0n a0c), (.agg a1)] w R :=
  calls_of_ev (args := [(.slice a0a a0n a0c), (.agg a1)])
    (tc := .seq (.reg (.op .bx (.op .bx (.op .p (.nil))))) (.seq (.reg (.op .p (.op (.ld (.agg)) (.op (.cl [.int .i64, .bool]) (.op .p (.op .p (.op .p (.op .p (.op .p (.nil)))))))))) (.seq (.seq (.reg (.op .p (.op .p (.nil)))) (.cond (.seq (.reg (.op (.ld (.agg)) (.op .u (.op .p (.nil))))) (.leaf)) (.leaf))) (.seq (.reg (.op .p (.op .p (.op .ix (.op (.ld (.agg)) (.op .u (.op .p (.nil)))))))) (.leaf)))))
    (by kernel_rfl) Try.func29 (by kernel_rfl) (by kernel_rfl) (by kernel_rfl) (by kernel_rfl) h

set_option maxRecDepth 100000 in
theorem index_Without_vc (a0a : Option Addr) (a0n : Nat) (a0c : Nat) (a1a : Option Addr) (a1n : Nat) (a1c : Nat) (w : World) (R : Ending → World → Prop) (h :
  ∃ (I : Option Addr → Nat → Nat → Int → World → Prop) (μ : Option Addr → Nat → Nat → Int → World → Nat), I none 0 0 0 w ∧
  (∀ (x5a : Option Addr) (x5n : Nat) (x5c : Nat) (x10 : Int), ∀ w1 : World, I x5a x5n x5c x10 w1 →
    (((decide (x10 < ((a0n : Nat) : Int))) = true →
        (∃ (t12b t12o : Nat), a0a = some ⟨t12b, t12o, none⟩ ∧ 0 ≤ x10 ∧ x10 < ((a0n : Nat) : Int) ∧
          (∃ (t13 : Array Value), (Instr.loadAt 52 (.pointer (some ⟨t12b, t12o + Int.toNat x10 * 35, none⟩))).run Try.prog w1 = .ok (.agg t13) w1 ∧
            (∃ (g7 : Nat) (w2 : World), (Instr.alloc 52 true (.tuple #[])).run Try.prog w1 = .ok (.pointer (some ⟨g7, 0, none⟩)) w2 ∧
              (∃ w3 : World, (Instr.storeAt 52 (.pointer (some ⟨g7, 0, none⟩)) (.agg t13)).run Try.prog w2 = .ok () w3 ∧
                (∃ (t16 : Int), (Instr.loadAt 3 (.pointer (some ⟨g7, 32, none⟩))).run Try.prog w3 = .ok (.int .i64 t16) w3 ∧
                  (Calls Try.prog 42 #[(.slice a1a a1n a1c), (.int .i64 t16)] w3 fun (e17 : Ending) (w4 : World) => ∃ (t17 : Bool), e17 = .returned (.bool t17) ∧
                    (∃ J : Option Addr → Nat → Nat → World → Prop, (((!t17) = true →
                          (∃ (t20 : Array Value), (Instr.loadAt 52 (.pointer (some ⟨g7, 0, none⟩))).run Try.prog w4 = .ok (.agg t20) w4 ∧
                            (∃ (t21a : Option Addr) (t21n : Nat) (t21c : Nat) (w5 : World), (Instr.buildSlice 24 1 #[(0, (.agg t20))]).run Try.prog w4 = .ok (.slice t21a t21n t21c) w5 ∧
                              (∃ (t22a : Option Addr) (t22n : Nat) (t22c : Nat) (w6 : World), (Builtin.append_ #[24, 24] 24 #[(.slice x5a x5n x5c), (.slice t21a t21n t21c)]).run Try.prog w5 = .ok (.slice t22a t22n t22c) w6 ∧
                                (J t22a t22n t22c w6))))) ∧
                        ((!t17) = false →
                          (J x5a x5n x5c w4))) ∧
                      (∀ (x5a_1 : Option Addr) (x5n_1 : Nat) (x5c_1 : Nat), ∀ w7 : World, J x5a_1 x5n_1 x5c_1 w7 →
                        (I x5a_1 x5n_1 x5c_1 (IntKind.wrap .i64 (x10 + (1 : Int))) w7 ∧ μ x5a_1 x5n_1 x5c_1 (IntKind.wrap .i64 (x10 + (1 : Int))) w7 < μ x5a x5n x5c x10 w1)))))))))) ∧
      ((decide (x10 < ((a0n : Nat) : Int))) = false →
        (R (.returned (.slice x5a x5n x5c)) w1))))) : Calls Try.prog 28 #[(.slice a0a a0n a0c), (.slice a1a a1n a1c)] w R :=
  calls_of_ev (args := [(.slice a0a a0n a0c), (.slice a1a a1n a1c)])
    (tc := .seq (.reg (.op .p (.nil))) (.seq (.reg (.op .p (.nil))) (.seq (.seq (.reg (.op .p (.op .p (.op .p (.nil))))) (.blk (.loop [5, 7, 10, 11, 12, 13, 14, 15, 16, 17, 18, 19, 20, 21, 22, 23] [5, 10] [.slice, .int .i64] (.seq (.reg (.op .p (.nil))) (.seq (.cond (.leaf) (.leaf)) (.seq (.blk (.seq (.reg (.op .ix (.op (.ld (.agg)) (.op .bx (.op .u (.nil)))))) (.seq (.reg (.op .p (.op .p (.op (.ld (.int .i64)) (.op (.cl [.bool]) (.op .p (.nil))))))) (.join [5, 19, 20, 21, 22] [5] [.slice] (.cond (.reg (.op .p (.op (.ld (.agg)) (.op (.r (.slice)) (.op (.r (.slice)) (.op .p (.nil))))))) (.leaf)))))) (.reg (.op .p (.op .p (.nil)))))))))) (.seq (.reg (.op .p (.op .p (.nil)))) (.leaf)))))
    (by kernel_rfl) Try.func28 (by kernel_rfl) (by kernel_rfl) (by kernel_rfl) (by kernel_rfl) h

set_option maxRecDepth 100000 in
theorem index_Encode_vc (a0a : Option Addr) (a0n : Nat) (a0c : Nat) (w : World) (R : Ending → World → Prop) (h :
  Calls Try.prog 17 #[(.slice a0a a0n a0c)] w fun (e11 : Ending) (w1 : World) => ∃ (t11 : Value), e11 = .returned t11 ∧
  (∃ (t13 : Bool), (eqlS .neq 27 (.tmp 12) (.const .nilIface) t11 .nilIface).run Try.prog w1 = .ok (.bool t13) w1 ∧
    ((t13 = true →
        (R (.returned (.tuple #[(.slice none 0 0), t11])) w1)) ∧
      (t13 = false →
        (∃ (I : Option Addr → Nat → Nat → Int → World → Prop) (μ : Option Addr → Nat → Nat → Int → World → Nat), I none 0 0 0 w1 ∧
          (∀ (x5a : Option Addr) (x5n : Nat) (x5c : Nat) (x17 : Int), ∀ w2 : World, I x5a x5n x5c x17 w2 →
            (((decide (x17 < ((a0n : Nat) : Int))) = true →
                (∃ (t19b t19o : Nat), a0a = some ⟨t19b, t19o, none⟩ ∧ 0 ≤ x17 ∧ x17 < ((a0n : Nat) : Int) ∧
                  (∃ (t20 : Array Value), (Instr.loadAt 52 (.pointer (some ⟨t19b, t19o + Int.toNat x17 * 35, none⟩))).run Try.prog w2 = .ok (.agg t20) w2 ∧
                    (∃ (g7 : Nat) (w3 : World), (Instr.alloc 52 true (.tuple #[])).run Try.prog w2 = .ok (.pointer (some ⟨g7, 0, none⟩)) w3 ∧
                      (∃ w4 : World, (Instr.storeAt 52 (.pointer (some ⟨g7, 0, none⟩)) (.agg t20)).run Try.prog w3 = .ok () w4 ∧
                        (0 ≤ ((32 : Nat) : Int) ∧ ((32 : Nat) : Int) ≤ ((32 : Nat) : Int) ∧
                          (∃ (t24a : Option Addr) (t24n : Nat) (t24c : Nat) (w5 : World), (Builtin.append_ #[63, 63] 63 #[(.slice x5a x5n x5c), (.slice (some ⟨g7, 0, none⟩) (32) 32)]).run Try.prog w4 = .ok (.slice t24a t24n t24c) w5 ∧
                            (∃ (t26 : Int), (Instr.loadAt 3 (.pointer (some ⟨g7, 32, none⟩))).run Try.prog w5 = .ok (.int .i64 t26) w5 ∧
                              (∃ (t28 : Int), (Instr.loadAt 3 (.pointer (some ⟨g7, 33, none⟩))).run Try.prog w5 = .ok (.int .i64 t28) w5 ∧
                                (∃ (t30 : Int), (Instr.loadAt 3 (.pointer (some ⟨g7, 34, none⟩))).run Try.prog w5 = .ok (.int .i64 t30) w5 ∧
                                  (∃ (t31 : Array Value), (Instr.build 86 #[(0, (.int .i64 t26)), (1, (.int .i64 t28)), (2, (.int .i64 t30))]).run Try.prog w5 = .ok (.agg t31) w5 ∧
                                    (∃ (I_1 : Option Addr → Nat → Nat → Int → World → Prop) (μ_1 : Option Addr → Nat → Nat → Int → World → Nat), I_1 t24a t24n t24c 0 w5 ∧
                                      (∀ (x5a_1 : Option Addr) (x5n_1 : Nat) (x5c_1 : Nat) (x32 : Int), ∀ w6 : World, I_1 x5a_1 x5n_1 x5c_1 x32 w6 →
                                        (((decide (x32 < (3 : Int))) = true →
                                            (∃ (t34 : Int), (Instr.index 86 (.agg t31) (.int .i64 x32)).run Try.prog w6 = .ok (.int .i64 t34) w6 ∧
                                              (Calls Try.prog 47 #[(.int .i64 t34)] w6 fun (e37 : Ending) (w7 : World) => ∃ (t37a : Option Addr) (t37n : Nat) (t37c : Nat), e37 = .returned (.slice t37a t37n t37c) ∧
                                                (∃ (t38a : Option Addr) (t38n : Nat) (t38c : Nat) (w8 : World), (Builtin.append_ #[63, 63] 63 #[(.slice x5a_1 x5n_1 x5c_1), (.slice t37a t37n t37c)]).run Try.prog w7 = .ok (.slice t38a t38n t38c) w8 ∧
                                                  (I_1 t38a t38n t38c (IntKind.wrap .i64 (x32 + (1 : Int))) w8 ∧ μ_1 t38a t38n t38c (IntKind.wrap .i64 (x32 + (1 : Int))) w8 < μ_1 x5a_1 x5n_1 x5c_1 x32 w6))))) ∧
                                          ((decide (x32 < (3 : Int))) = false →
                                            (I x5a_1 x5n_1 x5c_1 (IntKind.wrap .i64 (x17 + (1 : Int))) w6 ∧ μ x5a_1 x5n_1 x5c_1 (IntKind.wrap .i64 (x17 + (1 : Int))) w6 < μ x5a x5n x5c x17 w2)))))))))))))))) ∧
              ((decide (x17 < ((a0n : Nat) : Int))) = false →
                (R (.returned (.tuple #[(.slice x5a x5n x5c), .nilIface])) w2))))))))) : Calls Try.prog 30 #[(.slice a0a a0n a0c)] w R :=
  calls_of_ev (args := [(.slice a0a a0n a0c)])
    (tc := .seq (.reg (.op .p (.op .p (.nil)))) (.seq (.seq (.reg (.op .p (.op (.cl [.val]) (.op .p (.nil))))) (.seq (.reg (.op .p (.op (.ld (.bool)) (.nil)))) (.cond (.seq (.reg (.op .p (.op .p (.op .p (.nil))))) (.leaf)) (.leaf)))) (.seq (.reg (.op .p (.nil))) (.seq (.seq (.reg (.op .p (.op .p (.op .p (.nil))))) (.blk (.loop [5, 7, 9, 17, 18, 19, 20, 21, 22, 23, 24, 25, 26, 27, 28, 29, 30, 31, 32, 33, 34, 35, 36, 37, 38, 39, 40] [5, 17] [.slice, .int .i64] (.seq (.reg (.op .p (.nil))) (.seq (.cond (.leaf) (.leaf)) (.seq (.blk (.seq (.reg (.op .ix (.op (.ld (.agg)) (.op .bx (.op .u (.nil)))))) (.seq (.reg (.op .p (.op .p (.op .sl (.op (.r (.slice)) (.op .p (.nil))))))) (.seq (.reg (.op .p (.op (.ld (.int .i64)) (.op .p (.op (.ld (.int .i64)) (.op .p (.op (.ld (.int .i64)) (.op (.ld (.agg)) (.op .p (.nil)))))))))) (.blk (.loop [5, 9, 32, 33, 34, 35, 36, 37, 38, 39] [5, 32] [.slice, .int .i64] (.seq (.reg (.op .p (.nil))) (.seq (.cond (.leaf) (.leaf)) (.seq (.blk (.seq (.reg (.op (.ld (.int .i64)) (.op .p (.nil)))) (.reg (.op .p (.op .p (.op (.cl [.slice]) (.op (.r (.slice)) (.op .p (.nil))))))))) (.reg (.op .p (.op .p (.nil))))))))))))) (.reg (.op .p (.op .p (.nil)))))))))) (.seq (.reg (.op .p (.op .p (.op .p (.nil))))) (.leaf))))))
    (by kernel_rfl) Try.func30 (by kernel_rfl) (by kernel_rfl) (by kernel_rfl) (by kernel_rfl) h

set_option maxRecDepth 100000 in
theorem index_Decode_vc (a0a : Option Addr) (a0n : Nat) (a0c : Nat) (w : World) (R : Ending → World → Prop) (h :
  Calls Try.prog 49 #[(.slice a0a a0n a0c)] w fun (e8 : Ending) (w1 : World) => ∃ (t8b : Nat) (t8o : Nat), e8 = .returned (.pointer (some ⟨t8b, t8o, none⟩)) ∧
  (∃ (I : Option Addr → Nat → Nat → World → Prop) (μ : Option Addr → Nat → Nat → World → Nat), I none 0 0 w1 ∧
    (∀ (x4a : Option Addr) (x4n : Nat) (x4c : Nat), ∀ w2 : World, I x4a x4n x4c w2 →
      (Calls Try.prog 50 #[(.pointer (some ⟨t8b, t8o, none⟩))] w2 fun (e10 : Ending) (w3 : World) => ∃ (t10 : Int), e10 = .returned (.int .i64 t10) ∧
        (((decide (t10 > (0 : Int))) = true →
            (∃ (g6 : Nat) (w4 : World), (Instr.alloc 52 true (.tuple #[])).run Try.prog w3 = .ok (.pointer (some ⟨g6, 0, none⟩)) w4 ∧
              (0 ≤ ((32 : Nat) : Int) ∧ ((32 : Nat) : Int) ≤ ((32 : Nat) : Int) ∧
                (Calls Try.prog 51 #[(.pointer (some ⟨t8b, t8o, none⟩)), (.int .i64 32)] w4.drew fun (e15 : Ending) (w5 : World) => ∃ (t15a : Option Addr) (t15n : Nat) (t15c : Nat), e15 = .returned (.slice t15a t15n t15c) ∧
                  (∃ (t16 : Int) (w6 : World), (Builtin.copy_ #[63, 63] 3 #[(.slice (some ⟨g6, 0, none⟩) (32) 32), (.slice t15a t15n t15c)]).run Try.prog w5 = .ok (.int .i64 t16) w6 ∧
                    (Calls Try.prog 52 #[(.pointer (some ⟨t8b, t8o, none⟩))] w6 fun (e18 : Ending) (w7 : World) => ∃ (t18 : Int), e18 = .returned (.int .i64 t18) ∧
                      (Calls Try.prog 52 #[(.pointer (some ⟨t8b, t8o, none⟩))] w7 fun (e20 : Ending) (w8 : World) => ∃ (t20 : Int), e20 = .returned (.int .i64 t20) ∧
                        (Calls Try.prog 52 #[(.pointer (some ⟨t8b, t8o, none⟩))] w8 fun (e22 : Ending) (w9 : World) => ∃ (t22 : Int), e22 = .returned (.int .i64 t22) ∧
                          (∃ w10 : World, (Instr.storeAt 3 (.pointer (some ⟨g6, 32, none⟩)) (.int .i64 t18)).run Try.prog w9 = .ok () w10 ∧
                            (∃ w11 : World, (Instr.storeAt 3 (.pointer (some ⟨g6, 33, none⟩)) (.int .i64 t20)).run Try.prog w10 = .ok () w11 ∧
                              (∃ w12 : World, (Instr.storeAt 3 (.pointer (some ⟨g6, 34, none⟩)) (.int .i64 t22)).run Try.prog w11 = .ok () w12 ∧
                                (∃ (t27 : Array Value), (Instr.loadAt 52 (.pointer (some ⟨g6, 0, none⟩))).run Try.prog w12 = .ok (.agg t27) w12 ∧
                                  (∃ (t28a : Option Addr) (t28n : Nat) (t28c : Nat) (w13 : World), (Instr.buildSlice 24 1 #[(0, (.agg t27))]).run Try.prog w12 = .ok (.slice t28a t28n t28c) w13 ∧
                                    (∃ (t29a : Option Addr) (t29n : Nat) (t29c : Nat) (w14 : World), (Builtin.append_ #[24, 24] 24 #[(.slice x4a x4n x4c), (.slice t28a t28n t28c)]).run Try.prog w13 = .ok (.slice t29a t29n t29c) w14 ∧
                                      (I t29a t29n t29c w14 ∧ μ t29a t29n t29c w14 < μ x4a x4n x4c w2))))))))))))))) ∧
          ((decide (t10 > (0 : Int))) = false →
            (∃ J : Bool → World → Prop, (Calls Try.prog 53 #[(.pointer (some ⟨t8b, t8o, none⟩))] w3 fun (e31 : Ending) (w15 : World) => ∃ (t31 : Value), e31 = .returned t31 ∧
                (∃ (t32 : Bool), (eqlS .neq 27 (.tmp 31) (.const .nilIface) t31 .nilIface).run Try.prog w15 = .ok (.bool t32) w15 ∧
                  ((t32 = true →
                      (J true w15)) ∧
                    (t32 = false →
                      (Calls Try.prog 17 #[(.slice x4a x4n x4c)] w15 fun (e35 : Ending) (w16 : World) => ∃ (t35 : Value), e35 = .returned t35 ∧
                        (∃ (t36 : Bool), (eqlS .neq 27 (.tmp 35) (.const .nilIface) t35 .nilIface).run Try.prog w16 = .ok (.bool t36) w16 ∧
                          (J t36 w16))))))) ∧
              (∀ (x37 : Bool), ∀ w17 : World, J x37 w17 →
                ((x37 = true →
                    (R (.returned (.tuple #[(.slice none 0 0), (.iface 58 (.int .i64 9))])) w17)) ∧
                  (x37 = false →
                    (R (.returned (.tuple #[(.slice x4a x4n x4c), .nilIface])) w17))))))))))) : Calls Try.prog 33 #[(.slice a0a a0n a0c)] w R :=
  calls_of_ev (args := [(.slice a0a a0n a0c)])
    (tc := .seq (.reg (.op .p (.op .p (.nil)))) (.seq (.reg (.op .p (.nil))) (.seq (.reg (.op .p (.op (.cl [.ptr]) (.op .p (.nil))))) (.seq (.blk (.loop [4, 6, 9, 10, 11, 12, 13, 14, 15, 16, 17, 18, 19, 20, 21, 22, 23, 24, 25, 26, 27, 28, 29] [4] [.slice] (.seq (.seq (.reg (.op .p (.op (.cl [.int .i64]) (.op .p (.nil))))) (.cond (.leaf) (.leaf))) (.blk (.seq (.reg (.op .bx (.nil))) (.seq (.draw (.tk 0 .p (.tk 1 .sl (.tk 2 .p (.go 3 (.cl [.slice]) (.go 4 (.r (.int .i64)) (.nil)))))) [0, 1, 2, 3, 4]) (.seq (.reg (.op .p (.op (.cl [.int .i64]) (.op .p (.op (.cl [.int .i64]) (.op .p (.op (.cl [.int .i64]) (.op .p (.op .u (.op .p (.op .u (.op .p (.op .u (.nil)))))))))))))) (.reg (.op .p (.op (.ld (.agg)) (.op (.r (.slice)) (.op (.r (.slice)) (.op .p (.nil)))))))))))))) (.seq (.seq (.join [30, 31, 32, 33, 34, 35, 36, 37] [37] [.bool] (.reg (.op .p (.op (.cl [.val]) (.op (.ld (.bool)) (.op .p (.sp 33 (.op .p (.op .p (.op .p (.op .p (.nil))))) (.op .p (.op (.cl [.val]) (.op (.ld (.bool)) (.op .p (.nil)))))))))))) (.cond (.seq (.reg (.op .p (.op .p (.op .p (.nil))))) (.leaf)) (.leaf))) (.seq (.reg (.op .p (.op .p (.op .p (.nil))))) (.leaf)))))))
    (by kernel_rfl) Try.func33 (by kernel_rfl) (by kernel_rfl) (by kernel_rfl) (by kernel_rfl) h

set_option maxRecDepth 100000 in
theorem index_New_vc  (w : World) (R : Ending → World → Prop) (h :
  ∃ (t1 : Value) (w1 : World), (Instr.makeMap 75 none).run Try.prog w = .ok t1 w1 ∧
  (∃ (t2 : Array Value), (Instr.build 77 #[(0, t1)]).run Try.prog w1 = .ok (.agg t2) w1 ∧
    (∃ (g3 : Nat) (w2 : World), (Instr.box 77 (.agg t2)).run Try.prog w1 = .ok (.pointer (some ⟨g3, 0, none⟩)) w2 ∧
      (R (.returned (.pointer (some ⟨g3, 0, none⟩))) w2)))) : Calls Try.prog 18 #[] w R :=
  calls_of_ev (args := [])
    (tc := .seq (.reg (.op .p (.nil))) (.seq (.reg (.op (.r (.val)) (.op (.ld (.agg)) (.op .bx (.op .p (.nil)))))) (.leaf)))
    (by kernel_rfl) Try.func18 (by kernel_rfl) (by kernel_rfl) (by kernel_rfl) (by kernel_rfl) h

set_option maxRecDepth 100000 in
theorem index_Index_Add_vc (a0b : Nat) (a0o : Nat) (a1a : Option Addr) (a1n : Nat) (a1c : Nat) (w : World) (R : Ending → World → Prop) (h :
  Calls Try.prog 38 #[(.slice a1a a1n a1c), (.func (.func 39) #[] #[])] w fun (e11 : Ending) (w1 : World) => ∃ (t11 : Bool), e11 = .returned (.bool t11) ∧
  ((t11 = true →
      (R (.returned (.iface 58 (.int .i64 28))) w1)) ∧
    (t11 = false →
      (∃ (I : Int → World → Prop) (μ : Int → World → Nat), I 0 w1 ∧
        (∀ (x16 : Int), ∀ w2 : World, I x16 w2 →
          (((decide (x16 < ((a1n : Nat) : Int))) = true →
              (∃ (t18b t18o : Nat), a1a = some ⟨t18b, t18o, none⟩ ∧ 0 ≤ x16 ∧ x16 < ((a1n : Nat) : Int) ∧
                (∃ (t19 : Array Value), (Instr.loadAt 52 (.pointer (some ⟨t18b, t18o + Int.toNat x16 * 35, none⟩))).run Try.prog w2 = .ok (.agg t19) w2 ∧
                  (∃ (g6 : Nat) (w3 : World), (Instr.alloc 52 true (.tuple #[])).run Try.prog w2 = .ok (.pointer (some ⟨g6, 0, none⟩)) w3 ∧
                    (∃ w4 : World, (Instr.storeAt 52 (.pointer (some ⟨g6, 0, none⟩)) (.agg t19)).run Try.prog w3 = .ok () w4 ∧
                      (∃ S : World → Prop, S w4.drew ∧
                        (∃ (t23 : Value), (∀ w' : World, S w' → (Instr.loadAt 75 (.pointer (some ⟨a0b, a0o, none⟩))).run Try.prog w' = .ok t23 w') ∧
                          (∃ (t25 : Array Value), (∀ w' : World, S w' → (Instr.loadAt 40 (.pointer (some ⟨g6, 0, none⟩))).run Try.prog w' = .ok (.agg t25) w') ∧
                            (∃ (t26 : Array Value), (∀ w' : World, S w' → (Instr.loadAt 52 (.pointer (some ⟨g6, 0, none⟩))).run Try.prog w' = .ok (.agg t26) w') ∧
                              (∃ w5 : World, (Instr.mapUpdate 75 t23 (.agg t25) (.agg t26)).run Try.prog w4.drew = .ok () w5 ∧
                                (∃ S_1 : World → Prop, (∀ w' : World, S_1 w' → S w') ∧ S_1 w5 ∧
                                  (I (IntKind.wrap .i64 (x16 + (1 : Int))) w5 ∧ μ (IntKind.wrap .i64 (x16 + (1 : Int))) w5 < μ x16 w2)))))))))))) ∧
            ((decide (x16 < ((a1n : Nat) : Int))) = false →
              (R (.returned .nilIface) w2)))))))) : Calls Try.prog 19 #[(.pointer (some ⟨a0b, a0o, none⟩)), (.slice a1a a1n a1c)] w R :=
  calls_of_ev (args := [(.pointer (some ⟨a0b, a0o, none⟩)), (.slice a1a a1n a1c)])
    (tc := .seq (.reg (.op .p (.nil))) (.seq (.seq (.reg (.op .p (.op .p (.op .p (.op .p (.op (.cl [.bool]) (.op .p (.nil)))))))) (.cond (.seq (.reg (.op .p (.op .p (.nil)))) (.leaf)) (.leaf))) (.seq (.seq (.reg (.op .p (.op .p (.op .p (.nil))))) (.blk (.loop [6, 16, 17, 18, 19, 20, 21, 22, 23, 24, 25, 26, 27] [16] [.int .i64] (.seq (.reg (.op .p (.nil))) (.seq (.cond (.leaf) (.leaf)) (.seq (.blk (.seq (.reg (.op .ix (.op (.ld (.agg)) (.op .bx (.op .u (.nil)))))) (.drawS (.tk 0 .p (.tk 1 .p (.tk 2 .p (.tk 4 .p (.ts 3 (.val) (.ts 5 (.agg) (.ts 6 (.agg) (.go 7 .u (.nil))))))))) []))) (.reg (.op .p (.op .p (.nil)))))))))) (.seq (.reg (.op .p (.nil))) (.leaf)))))
    (by kernel_rfl) Try.func19 (by kernel_rfl) (by kernel_rfl) (by kernel_rfl) (by kernel_rfl) h

set_option maxRecDepth 100000 in
theorem index_Index_Add_vc_nil (a1a : Option Addr) (a1n : Nat) (a1c : Nat) (w : World) (R : Ending → World → Prop) (h :
  R (.returned (.iface 58 (.int .i64 28))) w) : Calls Try.prog 19 #[(.pointer none), (.slice a1a a1n a1c)] w R :=
  calls_of_ev (args := [(.pointer none), (.slice a1a a1n a1c)])
    (tc := .seq (.reg (.op .p (.nil))) (.seq (.seq (.reg (.op .p (.op .p (.op .p (.op .p (.op .p (.op .p (.nil)))))))) (.ct (.seq (.reg (.op .p (.op .p (.nil)))) (.leaf)))) (.leaf)))
    (by kernel_rfl) Try.func19 (by kernel_rfl) (by kernel_rfl) (by kernel_rfl) (by kernel_rfl) h

set_option maxRecDepth 100000 in
theorem index_Index_Add_1_vc (a0 : Array Value) (w : World) (R : Ending → World → Prop) (h :
  ∃ (g1 : Nat) (w1 : World), (Instr.box 52 (.agg a0)).run Try.prog w = .ok (.pointer (some ⟨g1, 0, none⟩)) w1 ∧
  (∃ (t3 : Array Value), (Instr.loadAt 52 (.pointer (some ⟨g1, 0, none⟩))).run Try.prog w1 = .ok (.agg t3) w1 ∧
    (Calls Try.prog 36 #[(.agg t3)] w1 fun (e4 : Ending) (w2 : World) => ∃ (t4 : Bool), e4 = .returned (.bool t4) ∧
      (R (.returned (.bool (!t4))) w2)))) : Calls Try.prog 39 #[(.agg a0)] w R :=
  calls_of_ev (args := [(.agg a0)])
    (tc := .seq (.reg (.op .bx (.op .p (.nil)))) (.seq (.reg (.op (.ld (.agg)) (.op (.cl [.bool]) (.op .p (.op .p (.nil)))))) (.leaf)))
    (by kernel_rfl) Try.func39 (by kernel_rfl) (by kernel_rfl) (by kernel_rfl) (by kernel_rfl) h

set_option maxRecDepth 100000 in
theorem index_Index_Drop_vc (a0b : Nat) (a0o : Nat) (a1a : Option Addr) (a1n : Nat) (a1c : Nat) (w : World) (R : Ending → World → Prop) (h :
  ∃ (t11 : Value), (Instr.loadAt 75 (.pointer (some ⟨a0b, a0o, none⟩))).run Try.prog w = .ok t11 w ∧
  (∃ (t12 : Value) (w1 : World), (Instr.range 75 t11).run Try.prog w = .ok t12 w1 ∧
    (∃ (I : World → Prop) (μ : World → Nat), I  w1 ∧
      (∀ w2 : World, I  w2 →
        (∃ (t13b : Bool) (t13r : List Value) (w3 : World), (Instr.next t12 false 0).run Try.prog w2 = .ok (.tuple ⟨.bool t13b :: t13r⟩) w3 ∧
          ((t13b = true →
              (∃ (t15_0 : Array Value) (t15_1 : Array Value) (w4 : World), (Instr.entry t12).run Try.prog w3 = .ok (.tuple #[(.agg t15_0), (.agg t15_1)]) w4 ∧
                (∃ (g4 : Nat) (w5 : World), (Instr.alloc 40 true (.tuple #[])).run Try.prog w4 = .ok (.pointer (some ⟨g4, 0, none⟩)) w5 ∧
                  (∃ (g5 : Nat) (w6 : World), (Instr.alloc 52 true (.tuple #[])).run Try.prog w5 = .ok (.pointer (some ⟨g5, 0, none⟩)) w6 ∧
                    (∃ w7 : World, (Instr.storeAt 40 (.pointer (some ⟨g4, 0, none⟩)) (.agg t15_0)).run Try.prog w6 = .ok () w7 ∧
                      (∃ w8 : World, (Instr.storeAt 52 (.pointer (some ⟨g5, 0, none⟩)) (.agg t15_1)).run Try.prog w7 = .ok () w8 ∧
                        (∃ (t20 : Int), (Instr.loadAt 3 (.pointer (some ⟨g5, 32, none⟩))).run Try.prog w8 = .ok (.int .i64 t20) w8 ∧
                          (Calls Try.prog 42 #[(.slice a1a a1n a1c), (.int .i64 t20)] w8 fun (e21 : Ending) (w9 : World) => ∃ (t21 : Bool), e21 = .returned (.bool t21) ∧
                            (∃ J : World → Prop, ((t21 = true →
                                  (∃ S : World → Prop, S w9.drew ∧
                                    (∃ (t25 : Value), (∀ w' : World, S w' → (Instr.loadAt 75 (.pointer (some ⟨a0b, a0o, none⟩))).run Try.prog w' = .ok t25 w') ∧
                                      (∃ (t26 : Array Value), (∀ w' : World, S w' → (Instr.loadAt 40 (.pointer (some ⟨g4, 0, none⟩))).run Try.prog w' = .ok (.agg t26) w') ∧
                                        (∃ (tNone : Value) (w10 : World), (Builtin.delete_ #[75, 40] 0 #[t25, (.agg t26)]).run Try.prog w9.drew = .ok tNone w10 ∧
                                          (∃ S_1 : World → Prop, (∀ w' : World, S_1 w' → S w') ∧ S_1 w10 ∧
                                            (J  w10))))))) ∧
                                (t21 = false →
                                  (J  w9))) ∧
                              (∀ w11 : World, J  w11 →
                                (I  w11 ∧ μ  w11 < μ  w2))))))))))) ∧
            (t13b = false →
              (R (.returned (.tuple #[])) w3)))))))) : Calls Try.prog 21 #[(.pointer (some ⟨a0b, a0o, none⟩)), (.slice a1a a1n a1c)] w R :=
  calls_of_ev (args := [(.pointer (some ⟨a0b, a0o, none⟩)), (.slice a1a a1n a1c)])
    (tc := .seq (.seq (.reg (.op .p (.op .p (.nil)))) (.cf (.leaf))) (.seq (.reg (.op .p (.op .p (.op .p (.op (.ld (.val)) (.op (.r (.val)) (.nil))))))) (.blk (.loop [4, 5, 13, 14, 15, 16, 17, 18, 19, 20, 21, 22, 23, 24, 25, 26] [] [] (.seq (.reg (.op .nx (.op .p (.nil)))) (.seq (.cond (.leaf) (.leaf)) (.blk (.seq (.reg (.op (.rt [.agg, .agg]) (.op .p (.op .p (.op .bx (.op .bx (.op .u (.op .u (.nil))))))))) (.seq (.reg (.op .p (.op .p (.op (.ld (.int .i64)) (.op (.cl [.bool]) (.nil)))))) (.join [22, 23, 24, 25, 26] [] [] (.cond (.drawS (.tk 0 .p (.tk 1 .p (.tk 2 .p (.ts 3 (.val) (.ts 4 (.agg) (.go 5 (.r (.val)) (.nil))))))) []) (.leaf))))))))))))
    (by kernel_rfl) Try.func21 (by kernel_rfl) (by kernel_rfl) (by kernel_rfl) (by kernel_rfl) h

set_option maxRecDepth 100000 in
theorem index_Index_Drop_vc_nil (a1a : Option Addr) (a1n : Nat) (a1c : Nat) (w : World) (R : Ending → World → Prop) (h :
  R (.returned (.tuple #[])) w) : Calls Try.prog 21 #[(.pointer none), (.slice a1a a1n a1c)] w R :=
  calls_of_ev (args := [(.pointer none), (.slice a1a a1n a1c)])
    (tc := .seq (.seq (.reg (.op .p (.op .p (.nil)))) (.ct (.leaf))) (.leaf))
    (by kernel_rfl) Try.func21 (by kernel_rfl) (by kernel_rfl) (by kernel_rfl) (by kernel_rfl) h

set_option maxRecDepth 100000 in
theorem index_Index_Find_vc (a0b : Nat) (a0o : Nat) (a1 : Array Value) (w : World) (R : Ending → World → Prop) (h :
  ∃ (g3 : Nat) (w1 : World), (Instr.box 40 (.agg a1)).run Try.prog w = .ok (.pointer (some ⟨g3, 0, none⟩)) w1 ∧
  (∃ (g4 : Nat) (w2 : World), (Instr.alloc 52 true (.tuple #[])).run Try.prog w1 = .ok (.pointer (some ⟨g4, 0, none⟩)) w2 ∧
    (∃ J : Nat → Nat → Bool → World → Prop, (∃ S : World → Prop, S w2.drew ∧
        (∃ (t15 : Value), (∀ w' : World, S w' → (Instr.loadAt 75 (.pointer (some ⟨a0b, a0o, none⟩))).run Try.prog w' = .ok t15 w') ∧
          (∃ (t16 : Array Value), (∀ w' : World, S w' → (Instr.loadAt 40 (.pointer (some ⟨g3, 0, none⟩))).run Try.prog w' = .ok (.agg t16) w') ∧
            ((∃ (t17_0 : Array Value) (t17_1 : Bool) (w3 : World), (Instr.lookup 75 t15 (.agg t16) true).run Try.prog w2.drew = .ok (.tuple #[(.agg t17_0), (.bool t17_1)]) w3 ∧
                (∃ S_1 : World → Prop, (∀ w' : World, S_1 w' → S w') ∧ S_1 w3 ∧
                  (∃ (g6 : Nat) (w4 : World), (Instr.alloc 52 true (.tuple #[])).run Try.prog w3 = .ok (.pointer (some ⟨g6, 0, none⟩)) w4 ∧
                    (∃ S_2 : World → Prop, (∀ w' : World, S_2 w' → S_1 w') ∧ S_2 w4 ∧
                      (∃ w5 : World, (Instr.storeAt 52 (.pointer (some ⟨g6, 0, none⟩)) (.agg t17_0)).run Try.prog w4 = .ok () w5 ∧
                        (J g6 0 t17_1 w5)))))) ∧
              (∃ (g6 : Nat) (w6 : World), (Instr.alloc 52 true (.tuple #[])).run Try.prog w2.drew = .ok (.pointer (some ⟨g6, 0, none⟩)) w6 ∧
                (∃ S_1 : World → Prop, (∀ w' : World, S_1 w' → S w') ∧ S_1 w6 ∧
                  (∃ (t17_0 : Array Value) (t17_1 : Bool) (w7 : World), (Instr.lookup 75 t15 (.agg t16) true).run Try.prog w6 = .ok (.tuple #[(.agg t17_0), (.bool t17_1)]) w7 ∧
                    (∃ S_2 : World → Prop, (∀ w' : World, S_2 w' → S_1 w') ∧ S_2 w7 ∧
                      (∃ w8 : World, (Instr.storeAt 52 (.pointer (some ⟨g6, 0, none⟩)) (.agg t17_0)).run Try.prog w7 = .ok () w8 ∧
                        (J g6 0 t17_1 w8)))))))))) ∧
      (∀ (x6b : Nat) (x6o : Nat) (x7 : Bool), ∀ w9 : World, J x6b x6o x7 w9 →
        (∃ (t20 : Array Value), (Instr.loadAt 52 (.pointer (some ⟨x6b, x6o, none⟩))).run Try.prog w9 = .ok (.agg t20) w9 ∧
          (∃ w10 : World, (Instr.storeAt 52 (.pointer (some ⟨g4, 0, none⟩)) (.agg t20)).run Try.prog w9 = .ok () w10 ∧
            (∃ r4 : Value, (loadVar 52 ⟨g4, 0, none⟩).run Try.prog w10 = .ok r4 w10 ∧
              (R (.returned (.tuple #[r4, (.bool x7)])) w10)))))))) : Calls Try.prog 24 #[(.pointer (some ⟨a0b, a0o, none⟩)), (.agg a1)] w R :=
  calls_of_ev (args := [(.pointer (some ⟨a0b, a0o, none⟩)), (.agg a1)])
    (tc := .seq (.reg (.op .bx (.op .bx (.op .p (.nil))))) (.seq (.seq (.reg (.op .p (.op .p (.nil)))) (.cf (.leaf))) (.seq (.join [6, 7, 11, 12, 13, 14, 15, 16, 17, 18, 19] [6, 7] [.ptr, .bool] (.drawS (.tk 0 .p (.tk 1 .p (.tk 2 .p (.ts 3 (.val) (.ts 4 (.agg) (.two 5 (.rt [.agg, .bool]) (.tk 6 .p (.tk 7 .p (.tk 8 .p (.go 9 .bx (.go 10 .u (.tk 11 .p (.nil))))))) 9 .bx (.go 5 (.rt [.agg, .bool]) (.tk 6 .p (.tk 7 .p (.tk 8 .p (.go 10 .u (.tk 11 .p (.nil))))))))))))) [7, 8, 10, 11])) (.seq (.reg (.op (.ld (.agg)) (.op .p (.op .u (.op .p (.nil)))))) (.leaf)))))
    (by kernel_rfl) Try.func24 (by kernel_rfl) (by kernel_rfl) (by kernel_rfl) (by kernel_rfl) h

set_option maxRecDepth 100000 in
theorem index_Index_Find_vc_nil (a1 : Array Value) (w : World) (R : Ending → World → Prop) (h :
  ∃ (g3 : Nat) (w1 : World), (Instr.box 40 (.agg a1)).run Try.prog w = .ok (.pointer (some ⟨g3, 0, none⟩)) w1 ∧
  (∃ (g4 : Nat) (w2 : World), (Instr.alloc 52 true (.tuple #[])).run Try.prog w1 = .ok (.pointer (some ⟨g4, 0, none⟩)) w2 ∧
    (∃ (t10 : Array Value), (Instr.build 52 #[]).run Try.prog w2 = .ok (.agg t10) w2 ∧
      (∃ w3 : World, (Instr.storeAt 52 (.pointer (some ⟨g4, 0, none⟩)) (.agg t10)).run Try.prog w2 = .ok () w3 ∧
        (∃ r4 : Value, (loadVar 52 ⟨g4, 0, none⟩).run Try.prog w3 = .ok r4 w3 ∧
          (R (.returned (.tuple #[r4, (.bool false)])) w3)))))) : Calls Try.prog 24 #[(.pointer none), (.agg a1)] w R :=
  calls_of_ev (args := [(.pointer none), (.agg a1)])
    (tc := .seq (.reg (.op .bx (.op .bx (.op .p (.nil))))) (.seq (.seq (.reg (.op .p (.op .p (.nil)))) (.ct (.seq (.reg (.op (.ld (.agg)) (.op .u (.op .p (.nil))))) (.leaf)))) (.leaf)))
    (by kernel_rfl) Try.func24 (by kernel_rfl) (by kernel_rfl) (by kernel_rfl) (by kernel_rfl) h

set_option maxRecDepth 100000 in
theorem index_Index_Len_vc (a0b : Nat) (a0o : Nat) (w : World) (R : Ending → World → Prop) (h :
  ∃ (t8 : Value), (Instr.loadAt 75 (.pointer (some ⟨a0b, a0o, none⟩))).run Try.prog w = .ok t8 w ∧
  (∃ (t9 : Int) (w1 : World), (Builtin.len_ #[75] 3 #[t8]).run Try.prog w = .ok (.int .i64 t9) w1 ∧
    (R (.returned (.int .i64 t9)) w1))) : Calls Try.prog 26 #[(.pointer (some ⟨a0b, a0o, none⟩))] w R :=
  calls_of_ev (args := [(.pointer (some ⟨a0b, a0o, none⟩))])
    (tc := .seq (.reg (.op .p (.nil))) (.seq (.seq (.reg (.op .p (.op .p (.nil)))) (.cf (.leaf))) (.seq (.reg (.op .p (.op .p (.op .p (.op (.ld (.val)) (.op (.r (.int .i64)) (.op .p (.nil)))))))) (.leaf))))
    (by kernel_rfl) Try.func26 (by kernel_rfl) (by kernel_rfl) (by kernel_rfl) (by kernel_rfl) h

set_option maxRecDepth 100000 in
theorem index_Index_Len_vc_nil  (w : World) (R : Ending → World → Prop) (h :
  R (.returned (.int .i64 0)) w) : Calls Try.prog 26 #[(.pointer none)] w R :=
  calls_of_ev (args := [(.pointer none)])
    (tc := .seq (.reg (.op .p (.nil))) (.seq (.seq (.reg (.op .p (.op .p (.nil)))) (.ct (.seq (.reg (.op .p (.nil))) (.leaf)))) (.leaf)))
    (by kernel_rfl) Try.func26 (by kernel_rfl) (by kernel_rfl) (by kernel_rfl) (by kernel_rfl) h

set_option maxRecDepth 100000 in
theorem index_Index_All_vc (a0b : Nat) (a0o : Nat) (w : World) (R : Ending → World → Prop) (h :
  ∃ (t11 : Value), (Instr.loadAt 75 (.pointer (some ⟨a0b, a0o, none⟩))).run Try.prog w = .ok t11 w ∧
  (∃ (t12 : Value) (w1 : World), (Instr.range 75 t11).run Try.prog w = .ok t12 w1 ∧
    (∃ (I : Option Addr → Nat → Nat → World → Prop) (μ : Option Addr → Nat → Nat → World → Nat), I none 0 0 w1 ∧
      (∀ (x3a : Option Addr) (x3n : Nat) (x3c : Nat), ∀ w2 : World, I x3a x3n x3c w2 →
        (∃ (t13b : Bool) (t13r : List Value) (w3 : World), (Instr.next t12 false 0).run Try.prog w2 = .ok (.tuple ⟨.bool t13b :: t13r⟩) w3 ∧
          ((t13b = true →
              (∃ (t15_0 : Value) (t15_1 : Array Value) (w4 : World), (Instr.entry t12).run Try.prog w3 = .ok (.tuple #[t15_0, (.agg t15_1)]) w4 ∧
                (∃ (g5 : Nat) (w5 : World), (Instr.alloc 52 true (.tuple #[])).run Try.prog w4 = .ok (.pointer (some ⟨g5, 0, none⟩)) w5 ∧
                  (∃ w6 : World, (Instr.storeAt 52 (.pointer (some ⟨g5, 0, none⟩)) (.agg t15_1)).run Try.prog w5 = .ok () w6 ∧
                    (∃ (t18 : Array Value), (Instr.loadAt 52 (.pointer (some ⟨g5, 0, none⟩))).run Try.prog w6 = .ok (.agg t18) w6 ∧
                      (∃ (t19a : Option Addr) (t19n : Nat) (t19c : Nat) (w7 : World), (Instr.buildSlice 24 1 #[(0, (.agg t18))]).run Try.prog w6 = .ok (.slice t19a t19n t19c) w7 ∧
                        (∃ (t20a : Option Addr) (t20n : Nat) (t20c : Nat) (w8 : World), (Builtin.append_ #[24, 24] 24 #[(.slice x3a x3n x3c), (.slice t19a t19n t19c)]).run Try.prog w7 = .ok (.slice t20a t20n t20c) w8 ∧
                          (I t20a t20n t20c w8 ∧ μ t20a t20n t20c w8 < μ x3a x3n x3c w2)))))))) ∧
            (t13b = false →
              (Calls Try.prog 43 #[(.slice x3a x3n x3c), (.func (.func 44) #[] #[])] w3 fun (e22 : Ending) (w9 : World) => e22 = .returned (.tuple #[]) ∧
                (R (.returned (.slice x3a x3n x3c)) w9))))))))) : Calls Try.prog 23 #[(.pointer (some ⟨a0b, a0o, none⟩))] w R :=
  calls_of_ev (args := [(.pointer (some ⟨a0b, a0o, none⟩))])
    (tc := .seq (.reg (.op .p (.nil))) (.seq (.seq (.reg (.op .p (.op .p (.nil)))) (.cf (.leaf))) (.seq (.reg (.op .p (.nil))) (.seq (.seq (.reg (.op .p (.op .p (.op .p (.op (.ld (.val)) (.op (.r (.val)) (.nil))))))) (.blk (.loop [3, 5, 13, 14, 15, 16, 17, 18, 19, 20] [3] [.slice] (.seq (.reg (.op .nx (.op .p (.nil)))) (.seq (.cond (.leaf) (.leaf)) (.blk (.seq (.reg (.op (.rt [.val, .agg]) (.op .p (.op .bx (.op .u (.nil)))))) (.reg (.op .p (.op (.ld (.agg)) (.op (.r (.slice)) (.op (.r (.slice)) (.op .p (.nil)))))))))))))) (.seq (.reg (.op .p (.op (.cl []) (.nil)))) (.seq (.reg (.op .p (.op .p (.nil)))) (.leaf)))))))
    (by kernel_rfl) Try.func23 (by kernel_rfl) (by kernel_rfl) (by kernel_rfl) (by kernel_rfl) h

set_option maxRecDepth 100000 in
theorem index_Index_All_vc_nil  (w : World) (R : Ending → World → Prop) (h :
  R (.returned (.slice none 0 0)) w) : Calls Try.prog 23 #[(.pointer none)] w R :=
  calls_of_ev (args := [(.pointer none)])
    (tc := .seq (.reg (.op .p (.nil))) (.seq (.seq (.reg (.op .p (.op .p (.nil)))) (.ct (.seq (.reg (.op .p (.nil))) (.leaf)))) (.leaf)))
    (by kernel_rfl) Try.func23 (by kernel_rfl) (by kernel_rfl) (by kernel_rfl) (by kernel_rfl) h

set_option maxRecDepth 100000 in
theorem index_Index_All_1_vc (a0 : Array Value) (a1 : Array Value) (w : World) (R : Ending → World → Prop) (h :
  ∃ (g2 : Nat) (w1 : World), (Instr.box 52 (.agg a0)).run Try.prog w = .ok (.pointer (some ⟨g2, 0, none⟩)) w1 ∧
  (∃ (g3 : Nat) (w2 : World), (Instr.box 52 (.agg a1)).run Try.prog w1 = .ok (.pointer (some ⟨g3, 0, none⟩)) w2 ∧
    (∃ (t6 : Array Value), (Instr.loadAt 40 (.pointer (some ⟨g2, 0, none⟩))).run Try.prog w2 = .ok (.agg t6) w2 ∧
      (∃ (t8 : Array Value), (Instr.loadAt 40 (.pointer (some ⟨g3, 0, none⟩))).run Try.prog w2 = .ok (.agg t8) w2 ∧
        (Calls Try.prog 37 #[(.agg t6), (.agg t8)] w2 fun (e9 : Ending) (w3 : World) => ∃ (t9 : Int), e9 = .returned (.int .i64 t9) ∧
          (R (.returned (.int .i64 t9)) w3)))))) : Calls Try.prog 44 #[(.agg a0), (.agg a1)] w R :=
  calls_of_ev (args := [(.agg a0), (.agg a1)])
    (tc := .seq (.reg (.op .bx (.op .bx (.op .p (.nil))))) (.seq (.reg (.op .p (.op (.ld (.agg)) (.op .p (.op (.ld (.agg)) (.op (.cl [.int .i64]) (.op .p (.nil)))))))) (.leaf)))
    (by kernel_rfl) Try.func44 (by kernel_rfl) (by kernel_rfl) (by kernel_rfl) (by kernel_rfl) h

set_option maxRecDepth 100000 in
theorem index_place_1_vc (a0 : Array Value) (a1 : Array Value) (w : World) (R : Ending → World → Prop) (h :
  ∃ (g2 : Nat) (w1 : World), (Instr.box 52 (.agg a0)).run Try.prog w = .ok (.pointer (some ⟨g2, 0, none⟩)) w1 ∧
  (∃ (g3 : Nat) (w2 : World), (Instr.box 40 (.agg a1)).run Try.prog w1 = .ok (.pointer (some ⟨g3, 0, none⟩)) w2 ∧
    (∃ (t6 : Array Value), (Instr.loadAt 40 (.pointer (some ⟨g2, 0, none⟩))).run Try.prog w2 = .ok (.agg t6) w2 ∧
      (∃ (t7 : Array Value), (Instr.loadAt 40 (.pointer (some ⟨g3, 0, none⟩))).run Try.prog w2 = .ok (.agg t7) w2 ∧
        (Calls Try.prog 37 #[(.agg t6), (.agg t7)] w2 fun (e8 : Ending) (w3 : World) => ∃ (t8 : Int), e8 = .returned (.int .i64 t8) ∧
          (R (.returned (.int .i64 t8)) w3)))))) : Calls Try.prog 62 #[(.agg a0), (.agg a1)] w R :=
  calls_of_ev (args := [(.agg a0), (.agg a1)])
    (tc := .seq (.reg (.op .bx (.op .bx (.op .p (.nil))))) (.seq (.reg (.op .p (.op (.ld (.agg)) (.op (.ld (.agg)) (.op (.cl [.int .i64]) (.op .p (.nil))))))) (.leaf)))
    (by kernel_rfl) Try.func62 (by kernel_rfl) (by kernel_rfl) (by kernel_rfl) (by kernel_rfl) h

set_option maxRecDepth 100000 in
theorem bytes_Compare_vc (a0a : Option Addr) (a0n : Nat) (a0c : Nat) (a1a : Option Addr) (a1n : Nat) (a1c : Nat) (w : World) (R : Ending → World → Prop) (h :
  ∃ (t7 : Int) (w1 : World), (callFunc 69 #[(.slice a0a a0n a0c), (.slice a1a a1n a1c)]).run Try.prog w = .ok (.value (.int .i64 t7)) w1 ∧
  (R (.returned (.int .i64 t7)) w1)) : Calls Try.prog 56 #[(.slice a0a a0n a0c), (.slice a1a a1n a1c)] w R :=
  calls_of_ev (args := [(.slice a0a a0n a0c), (.slice a1a a1n a1c)])
    (tc := .seq (.reg (.op .p (.nil))) (.seq (.reg (.op .p (.op .p (.op (.cx (.int .i64)) (.op .p (.nil)))))) (.leaf)))
    (by kernel_rfl) Try.func56 (by kernel_rfl) (by kernel_rfl) (by kernel_rfl) (by kernel_rfl) h

set_option maxRecDepth 100000 in
theorem slices_ContainsFunc_api_Ref_api_Ref_vc (a0a : Option Addr) (a0n : Nat) (a0c : Nat) (a1 : Value) (w : World) (R : Ending → World → Prop) (h :
  Calls Try.prog 57 #[(.slice a0a a0n a0c), a1] w fun (e7 : Ending) (w1 : World) => ∃ (t7 : Int), e7 = .returned (.int .i64 t7) ∧
  (R (.returned (.bool (decide (t7 ≥ (0 : Int))))) w1)) : Calls Try.prog 38 #[(.slice a0a a0n a0c), a1] w R :=
  calls_of_ev (args := [(.slice a0a a0n a0c), a1])
    (tc := .seq (.reg (.op .p (.nil))) (.seq (.reg (.op .p (.op .p (.op (.cl [.int .i64]) (.op .p (.op .p (.nil))))))) (.leaf)))
    (by kernel_rfl) Try.func38 (by kernel_rfl) (by kernel_rfl) (by kernel_rfl) (by kernel_rfl) h

set_option maxRecDepth 100000 in
theorem slices_IndexFunc_api_Ref_api_Ref_vc (a0a : Option Addr) (a0n : Nat) (a0c : Nat) (a1 : Value) (w : World) (R : Ending → World → Prop) (h :
  ∃ (I : Int → World → Prop) (μ : Int → World → Nat), I 0 w ∧
  (∀ (x8 : Int), ∀ w1 : World, I x8 w1 →
    (((decide (x8 < ((a0n : Nat) : Int))) = true →
        (∃ (t14b t14o : Nat), a0a = some ⟨t14b, t14o, none⟩ ∧ 0 ≤ x8 ∧ x8 < ((a0n : Nat) : Int) ∧
          (∃ (t15 : Array Value), (Instr.loadAt 52 (.pointer (some ⟨t14b, t14o + Int.toNat x8 * 35, none⟩))).run Try.prog w1 = .ok (.agg t15) w1 ∧
            (∃ (f16 : Nat) (cb16 : List Value), a1 = .func (.func f16) #[] ⟨cb16⟩ ∧ goesIn Try.prog f16 = true ∧
              Calls Try.prog f16 (([(.agg t15)] : List Value) ++ cb16).toArray w1 fun (e16 : Ending) (w2 : World) => ∃ (t16 : Bool), e16 = .returned (.bool t16) ∧
              ((t16 = true →
                  (R (.returned (.int .i64 x8)) w2)) ∧
                (t16 = false →
                  (I (IntKind.wrap .i64 (x8 + (1 : Int))) w2 ∧ μ (IntKind.wrap .i64 (x8 + (1 : Int))) w2 < μ x8 w1))))))) ∧
      ((decide (x8 < ((a0n : Nat) : Int))) = false →
        (R (.returned (.int .i64 (-1))) w1))))) : Calls Try.prog 57 #[(.slice a0a a0n a0c), a1] w R :=
  calls_of_ev (args := [(.slice a0a a0n a0c), a1])
    (tc := .seq (.reg (.op .p (.nil))) (.seq (.seq (.reg (.op .p (.op .p (.op .p (.nil))))) (.blk (.loop [4, 5, 8, 9, 10, 11, 12, 13, 14, 15, 16, 17, 18] [8] [.int .i64] (.seq (.reg (.op .p (.nil))) (.seq (.cond (.leaf) (.leaf)) (.seq (.blk (.seq (.reg (.op .p (.op .p (.nil)))) (.seq (.reg (.op .p (.op .p (.op .p (.op .ix (.op (.ld (.agg)) (.op (.cv [.bool]) (.nil)))))))) (.cond (.seq (.reg (.op .p (.op .p (.nil)))) (.leaf)) (.leaf))))) (.reg (.op .p (.op .p (.nil)))))))))) (.seq (.reg (.op .p (.nil))) (.leaf))))
    (by kernel_rfl) Try.func57 (by kernel_rfl) (by kernel_rfl) (by kernel_rfl) (by kernel_rfl) h

set_option maxRecDepth 100000 in
theorem slices_BinarySearchFunc_api_Ref_api_Ref_api_Id_vc (a0a : Option Addr) (a0n : Nat) (a0c : Nat) (a1 : Array Value) (a2 : Value) (w : World) (R : Ending → World → Prop) (h :
  ∃ (g4 : Nat) (w1 : World), (Instr.box 40 (.agg a1)).run Try.prog w = .ok (.pointer (some ⟨g4, 0, none⟩)) w1 ∧
  (∃ (I : Int → Int → World → Prop) (μ : Int → Int → World → Nat), I 0 ((a0n : Nat) : Int) w1 ∧
    (∀ (x9 : Int) (x10 : Int), ∀ w2 : World, I x9 x10 w2 →
      (((decide (x9 < x10)) = true →
          (∃ S : World → Prop, S w2.drew ∧
            (∃ (t27b t27o : Nat), a0a = some ⟨t27b, t27o, none⟩ ∧ 0 ≤ (IntKind.wrap .i64 (shrI .u64 (IntKind.wrap .u64 (IntKind.wrap .i64 (x9 + x10))) (1 : Int))) ∧ (IntKind.wrap .i64 (shrI .u64 (IntKind.wrap .u64 (IntKind.wrap .i64 (x9 + x10))) (1 : Int))) < ((a0n : Nat) : Int) ∧
              (∃ (t28 : Array Value), (∀ w' : World, S w' → (Instr.loadAt 52 (.pointer (some ⟨t27b, t27o + Int.toNat (IntKind.wrap .i64 (shrI .u64 (IntKind.wrap .u64 (IntKind.wrap .i64 (x9 + x10))) (1 : Int))) * 35, none⟩))).run Try.prog w' = .ok (.agg t28) w') ∧
                (∃ (t29 : Array Value), (∀ w' : World, S w' → (Instr.loadAt 40 (.pointer (some ⟨g4, 0, none⟩))).run Try.prog w' = .ok (.agg t29) w') ∧
                  (∃ (f30 : Nat) (cb30 : List Value), a2 = .func (.func f30) #[] ⟨cb30⟩ ∧ goesIn Try.prog f30 = true ∧
                    Calls Try.prog f30 (([(.agg t28), (.agg t29)] : List Value) ++ cb30).toArray w2.drew fun (e30 : Ending) (w3 : World) => ∃ (t30 : Int), e30 = .returned (.int .i64 t30) ∧
                    (∃ S_1 : World → Prop, (∀ w' : World, S_1 w' → S w') ∧ S_1 w3 ∧
                      (∃ J : Int → Int → World → Prop, (((decide (t30 < (0 : Int))) = true →
                            (J (IntKind.wrap .i64 ((IntKind.wrap .i64 (shrI .u64 (IntKind.wrap .u64 (IntKind.wrap .i64 (x9 + x10))) (1 : Int))) + (1 : Int))) x10 w3)) ∧
                          ((decide (t30 < (0 : Int))) = false →
                            (J x9 (IntKind.wrap .i64 (shrI .u64 (IntKind.wrap .u64 (IntKind.wrap .i64 (x9 + x10))) (1 : Int))) w3))) ∧
                        (∀ (x9_1 : Int) (x10_1 : Int), ∀ w4 : World, J x9_1 x10_1 w4 →
                          (I x9_1 x10_1 w4 ∧ μ x9_1 x10_1 w4 < μ x9 x10 w2)))))))))) ∧
        ((decide (x9 < x10)) = false →
          (∃ S : World → Prop, S w2.drew ∧
            (((decide (x9 < ((a0n : Nat) : Int))) = true →
                (∃ (t43b t43o : Nat), a0a = some ⟨t43b, t43o, none⟩ ∧ 0 ≤ x9 ∧ x9 < ((a0n : Nat) : Int) ∧
                  (∃ (t44 : Array Value), (∀ w' : World, S w' → (Instr.loadAt 52 (.pointer (some ⟨t43b, t43o + Int.toNat x9 * 35, none⟩))).run Try.prog w' = .ok (.agg t44) w') ∧
                    (∃ (t45 : Array Value), (∀ w' : World, S w' → (Instr.loadAt 40 (.pointer (some ⟨g4, 0, none⟩))).run Try.prog w' = .ok (.agg t45) w') ∧
                      (∃ (f46 : Nat) (cb46 : List Value), a2 = .func (.func f46) #[] ⟨cb46⟩ ∧ goesIn Try.prog f46 = true ∧
                        Calls Try.prog f46 (([(.agg t44), (.agg t45)] : List Value) ++ cb46).toArray w2.drew fun (e46 : Ending) (w5 : World) => ∃ (t46 : Int), e46 = .returned (.int .i64 t46) ∧
                        (∃ S_1 : World → Prop, (∀ w' : World, S_1 w' → S w') ∧ S_1 w5 ∧
                          (R (.returned (.tuple #[(.int .i64 x9), (.bool (t46 == (0 : Int)))])) w5))))))) ∧
              ((decide (x9 < ((a0n : Nat) : Int))) = false →
                (S w2.drew ∧
                  (R (.returned (.tuple #[(.int .i64 x9), (.bool false)])) w2.drew)))))))))) : Calls Try.prog 61 #[(.slice a0a a0n a0c), (.agg a1), a2] w R :=
  calls_of_ev (args := [(.slice a0a a0n a0c), (.agg a1), a2])
    (tc := .seq (.reg (.op .bx (.op .p (.op .p (.nil))))) (.seq (.reg (.op .p (.op .p (.op .p (.nil))))) (.seq (.reg (.op .p (.op .p (.op .p (.nil))))) (.seq (.blk (.loop [9, 10, 11, 15, 16, 17, 18, 19, 20, 21, 22, 23, 24, 25, 26, 27, 28, 29, 30, 31, 32, 33, 34] [9, 10] [.int .i64, .int .i64] (.seq (.seq (.reg (.op .p (.op .p (.op .p (.nil))))) (.cond (.leaf) (.leaf))) (.blk (.seq (.reg (.op .p (.op .p (.op .p (.op .p (.op .p (.op .p (.op .p (.nil))))))))) (.seq (.drawS (.tk 0 .p (.tk 1 .p (.tk 2 .p (.tk 3 .ix (.ts 4 (.agg) (.ts 5 (.agg) (.go 6 (.cv [.int .i64]) (.tk 7 .p (.nil))))))))) []) (.join [9, 10, 32, 33, 34] [9, 10] [.int .i64, .int .i64] (.cond (.reg (.op .p (.op .p (.op .p (.nil))))) (.reg (.op .p (.op .p (.nil)))))))))))) (.seq (.drawS (.tk 0 .p (.tk 1 .p (.tk 2 .p (.tk 3 .p (.tk 4 .p (.sp 39 (.tk 5 .p (.tk 6 .p (.tk 7 .p (.tk 8 .ix (.ts 9 (.agg) (.ts 10 (.agg) (.go 11 (.cv [.int .i64]) (.tk 12 .p (.tk 13 .p (.tk 14 .p (.tk 15 .p (.nil)))))))))))) (.tk 5 .p (.tk 6 .p (.tk 7 .p (.tk 8 .p (.ts 9 .val (.ts 10 .val (.go 11 .p (.tk 12 .p (.tk 13 .p (.tk 14 .p (.tk 15 .p (.nil)))))))))))))))))) []) (.leaf))))))
    (by kernel_rfl) Try.func61 (by kernel_rfl) (by kernel_rfl) (by kernel_rfl) (by kernel_rfl) h

set_option maxRecDepth 100000 in
theorem slices_Contains_int_int_vc (a0a : Option Addr) (a0n : Nat) (a0c : Nat) (a1 : Int) (w : World) (R : Ending → World → Prop) (h :
  Calls Try.prog 58 #[(.slice a0a a0n a0c), (.int .i64 a1)] w fun (e7 : Ending) (w1 : World) => ∃ (t7 : Int), e7 = .returned (.int .i64 t7) ∧
  (R (.returned (.bool (decide (t7 ≥ (0 : Int))))) w1)) : Calls Try.prog 42 #[(.slice a0a a0n a0c), (.int .i64 a1)] w R :=
  calls_of_ev (args := [(.slice a0a a0n a0c), (.int .i64 a1)])
    (tc := .seq (.reg (.op .p (.nil))) (.seq (.reg (.op .p (.op .p (.op (.cl [.int .i64]) (.op .p (.op .p (.nil))))))) (.leaf)))
    (by kernel_rfl) Try.func42 (by kernel_rfl) (by kernel_rfl) (by kernel_rfl) (by kernel_rfl) h

set_option maxRecDepth 100000 in
theorem slices_Index_int_int_vc (a0a : Option Addr) (a0n : Nat) (a0c : Nat) (a1 : Int) (w : World) (R : Ending → World → Prop) (h :
  ∃ (I : Int → World → Prop) (μ : Int → World → Nat), I 0 w ∧
  (∀ (x8 : Int), ∀ w1 : World, I x8 w1 →
    (((decide (x8 < ((a0n : Nat) : Int))) = true →
        (∃ (t14b t14o : Nat), a0a = some ⟨t14b, t14o, none⟩ ∧ 0 ≤ x8 ∧ x8 < ((a0n : Nat) : Int) ∧
          (∃ (t15 : Int), (Instr.loadAt 3 (.pointer (some ⟨t14b, t14o + Int.toNat x8 * 1, none⟩))).run Try.prog w1 = .ok (.int .i64 t15) w1 ∧
            (((a1 == t15) = true →
                (R (.returned (.int .i64 x8)) w1)) ∧
              ((a1 == t15) = false →
                (I (IntKind.wrap .i64 (x8 + (1 : Int))) w1 ∧ μ (IntKind.wrap .i64 (x8 + (1 : Int))) w1 < μ x8 w1)))))) ∧
      ((decide (x8 < ((a0n : Nat) : Int))) = false →
        (R (.returned (.int .i64 (-1))) w1))))) : Calls Try.prog 58 #[(.slice a0a a0n a0c), (.int .i64 a1)] w R :=
  calls_of_ev (args := [(.slice a0a a0n a0c), (.int .i64 a1)])
    (tc := .seq (.reg (.op .p (.nil))) (.seq (.seq (.reg (.op .p (.op .p (.op .p (.nil))))) (.blk (.loop [4, 5, 8, 9, 10, 11, 12, 13, 14, 15, 16, 17, 18] [8] [.int .i64] (.seq (.reg (.op .p (.nil))) (.seq (.cond (.leaf) (.leaf)) (.seq (.blk (.seq (.reg (.op .p (.op .p (.nil)))) (.seq (.reg (.op .p (.op .p (.op .p (.op .ix (.op (.ld (.int .i64)) (.op .p (.nil)))))))) (.cond (.seq (.reg (.op .p (.op .p (.nil)))) (.leaf)) (.leaf))))) (.reg (.op .p (.op .p (.nil)))))))))) (.seq (.reg (.op .p (.nil))) (.leaf))))
    (by kernel_rfl) Try.func58 (by kernel_rfl) (by kernel_rfl) (by kernel_rfl) (by kernel_rfl) h

end Go.Proofs.Ytoianikapjkekaa
