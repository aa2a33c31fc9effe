/- Verification conditions of functions, printed by the session's own program vc.py: out of each, Calls (conditions: none). -/
import Derived.Test.YtefnlbgkfingfaaDoorRows
import Derived.Test.YtefnlbgkfingfaaDoorSxRun
namespace Go.Proofs.YtefnlbgkfingfaaDoor
open Go Go.Proofs.YtefnlbgkfingfaaDoor.Sx

set_option maxRecDepth 100000 in
theorem amphoralaw15_alive_vc  (w : World) (R : Ending → World → Prop) (h :
  ∃ (t8 : Array Value), (Instr.build 22 #[(0, (.int .u8 1))]).run Tryd.prog w = .ok (.agg t8) w ∧
  (Calls Tryd.prog 10 #[(.agg t8)] w fun (e9 : Ending) (w1 : World) => ∃ (t9 : Array Value), e9 = .returned (.agg t9) ∧
    (∃ (g1 : Nat) (w2 : World), (Instr.alloc 28 true (.tuple #[])).run Tryd.prog w1 = .ok (.pointer (some ⟨g1, 0, none⟩)) w2 ∧
      (∃ w3 : World, (Instr.storeAt 28 (.pointer (some ⟨g1, 0, none⟩)) (.agg t9)).run Tryd.prog w2 = .ok () w3 ∧
        (∃ J : Option Addr → Nat → Nat → Value → World → Prop, (∃ S : World → Prop, S w3.drew ∧
            (∃ (t11 : Array Value), (∀ w' : World, S w' → (Instr.loadAt 28 (.pointer (some ⟨g1, 0, none⟩))).run Tryd.prog w' = .ok (.agg t11) w') ∧
              ((∃ (t12a : Option Addr) (t12n : Nat) (t12c : Nat) (w4 : World), (Instr.makeSlice 30 (.int .i64 17) (.int .i64 17)).run Tryd.prog w3.drew = .ok (.slice t12a t12n t12c) w4 ∧
                  (∃ S_1 : World → Prop, (∀ w' : World, S_1 w' → S w') ∧ S_1 w4 ∧
                    ((Calls Tryd.prog 12 #[(.agg t11), (.slice t12a t12n t12c)] w4 fun (e13 : Ending) (w5 : World) => ∃ (t13_0a : Option Addr) (t13_0n : Nat) (t13_0c : Nat) (t13_1 : Array Value) (t13_2 : Value), e13 = .returned (.tuple #[(.slice t13_0a t13_0n t13_0c), (.agg t13_1), t13_2]) ∧
                        (∃ S_2 : World → Prop, (∀ w' : World, S_2 w' → S_1 w') ∧ S_2 w5 ∧
                          (∃ (g3 : Nat) (w6 : World), (Instr.alloc 33 true (.tuple #[])).run Tryd.prog w5 = .ok (.pointer (some ⟨g3, 0, none⟩)) w6 ∧
                            (∃ S_3 : World → Prop, (∀ w' : World, S_3 w' → S_2 w') ∧ S_3 w6 ∧
                              (∃ w7 : World, (Instr.storeAt 33 (.pointer (some ⟨g3, 0, none⟩)) (.agg t13_1)).run Tryd.prog w6 = .ok () w7 ∧
                                (J t13_0a t13_0n t13_0c t13_2 w7)))))) ∧
                      (∃ (g3 : Nat) (w8 : World), (Instr.alloc 33 true (.tuple #[])).run Tryd.prog w4 = .ok (.pointer (some ⟨g3, 0, none⟩)) w8 ∧
                        (∃ S_2 : World → Prop, (∀ w' : World, S_2 w' → S_1 w') ∧ S_2 w8 ∧
                          (Calls Tryd.prog 12 #[(.agg t11), (.slice t12a t12n t12c)] w8 fun (e13 : Ending) (w9 : World) => ∃ (t13_0a : Option Addr) (t13_0n : Nat) (t13_0c : Nat) (t13_1 : Array Value) (t13_2 : Value), e13 = .returned (.tuple #[(.slice t13_0a t13_0n t13_0c), (.agg t13_1), t13_2]) ∧
                            (∃ S_3 : World → Prop, (∀ w' : World, S_3 w' → S_2 w') ∧ S_3 w9 ∧
                              (∃ w10 : World, (Instr.storeAt 33 (.pointer (some ⟨g3, 0, none⟩)) (.agg t13_1)).run Tryd.prog w9 = .ok () w10 ∧
                                (J t13_0a t13_0n t13_0c t13_2 w10))))))))) ∧
                (∃ (g3 : Nat) (w11 : World), (Instr.alloc 33 true (.tuple #[])).run Tryd.prog w3.drew = .ok (.pointer (some ⟨g3, 0, none⟩)) w11 ∧
                  (∃ S_1 : World → Prop, (∀ w' : World, S_1 w' → S w') ∧ S_1 w11 ∧
                    (∃ (t12a : Option Addr) (t12n : Nat) (t12c : Nat) (w12 : World), (Instr.makeSlice 30 (.int .i64 17) (.int .i64 17)).run Tryd.prog w11 = .ok (.slice t12a t12n t12c) w12 ∧
                      (∃ S_2 : World → Prop, (∀ w' : World, S_2 w' → S_1 w') ∧ S_2 w12 ∧
                        (Calls Tryd.prog 12 #[(.agg t11), (.slice t12a t12n t12c)] w12 fun (e13 : Ending) (w13 : World) => ∃ (t13_0a : Option Addr) (t13_0n : Nat) (t13_0c : Nat) (t13_1 : Array Value) (t13_2 : Value), e13 = .returned (.tuple #[(.slice t13_0a t13_0n t13_0c), (.agg t13_1), t13_2]) ∧
                          (∃ S_3 : World → Prop, (∀ w' : World, S_3 w' → S_2 w') ∧ S_3 w13 ∧
                            (∃ w14 : World, (Instr.storeAt 33 (.pointer (some ⟨g3, 0, none⟩)) (.agg t13_1)).run Tryd.prog w13 = .ok () w14 ∧
                              (J t13_0a t13_0n t13_0c t13_2 w14))))))))))) ∧
          (∀ (x2a : Option Addr) (x2n : Nat) (x2c : Nat) (x4 : Value), ∀ w15 : World, J x2a x2n x2c x4 w15 →
            (∃ (t18 : Array Value), (Instr.loadAt 28 (.pointer (some ⟨g1, 0, none⟩))).run Tryd.prog w15 = .ok (.agg t18) w15 ∧
              (Calls Tryd.prog 12 #[(.agg t18), (.slice none 0 0)] w15 fun (e19 : Ending) (w16 : World) => ∃ (t19_0a : Option Addr) (t19_0n : Nat) (t19_0c : Nat) (t19_1 : Array Value) (t19_2 : Value), e19 = .returned (.tuple #[(.slice t19_0a t19_0n t19_0c), (.agg t19_1), t19_2]) ∧
                (∃ (g6 : Nat) (w17 : World), (Instr.alloc 33 true (.tuple #[])).run Tryd.prog w16 = .ok (.pointer (some ⟨g6, 0, none⟩)) w17 ∧
                  (∃ w18 : World, (Instr.storeAt 33 (.pointer (some ⟨g6, 0, none⟩)) (.agg t19_1)).run Tryd.prog w17 = .ok () w18 ∧
                    (∃ S_4 : World → Prop, S_4 w18.drew ∧
                      (∃ (t24 : Bool), (∀ w' : World, S_4 w' → (eqlS .eql 35 (.tmp 23) (.const .nilIface) x4 .nilIface).run Tryd.prog w' = .ok (.bool t24) w') ∧
                        ((t24 = true →
                            (∃ (t27 : Bool), (∀ w' : World, S_4 w' → (eqlS .eql 35 (.tmp 26) (.const .nilIface) t19_2 .nilIface).run Tryd.prog w' = .ok (.bool t27) w') ∧
                              ((t27 = true →
                                  (((((x2n : Nat) : Int) == (3 : Int)) = true →
                                      (((((t19_0n : Nat) : Int) == (1 : Int)) = true →
                                          (∃ (t41b t41o : Nat), t19_0a = some ⟨t41b, t41o, none⟩ ∧ 0 ≤ (0 : Int) ∧ (0 : Int) < ((t19_0n : Nat) : Int) ∧
                                            (∃ (t42a : Option Addr) (t42n : Nat) (t42c : Nat), (∀ w' : World, S_4 w' → (Instr.loadAt 23 (.pointer (some ⟨t41b, t41o + Int.toNat (0 : Int) * 1, none⟩))).run Tryd.prog w' = .ok (.slice t42a t42n t42c) w') ∧
                                              (∃ (t43 : ByteArray), (∀ w' : World, S_4 w' → (convert 23 9 (.slice t42a t42n t42c)).run Tryd.prog w' = .ok (.string t43) w') ∧
                                                (((t43.toList == (ByteArray.mk #[0, 0]).toList) = true →
                                                    (∃ (t47 : Array Value), (∀ w' : World, S_4 w' → (Instr.loadAt 33 (.pointer (some ⟨g6, 0, none⟩))).run Tryd.prog w' = .ok (.agg t47) w') ∧
                                                      (∃ (t48 : Array Value), (∀ w' : World, S_4 w' → (Instr.loadAt 28 (.pointer (some ⟨g1, 0, none⟩))).run Tryd.prog w' = .ok (.agg t48) w') ∧
                                                        (∃ (t49a : Option Addr) (t49n : Nat) (t49c : Nat) (w19 : World), (Instr.buildSlice 23 2 #[(0, (.int .u8 0)), (1, (.int .u8 0))]).run Tryd.prog w18.drew = .ok (.slice t49a t49n t49c) w19 ∧
                                                          (∃ S_5 : World → Prop, (∀ w' : World, S_5 w' → S_4 w') ∧ S_5 w19 ∧
                                                            (Calls Tryd.prog 27 #[(.agg t48), (.slice t49a t49n t49c)] w19 fun (e50 : Ending) (w20 : World) => ∃ (t50 : Array Value), e50 = .returned (.agg t50) ∧
                                                              (∃ S_6 : World → Prop, (∀ w' : World, S_6 w' → S_5 w') ∧ S_6 w20 ∧
                                                                (∃ (t51 : Bool), (∀ w' : World, S_6 w' → (eqlS .eql 33 (.tmp 47) (.tmp 50) (.agg t47) (.agg t50)).run Tryd.prog w' = .ok (.bool t51) w') ∧
                                                                  (R (.returned (.bool t51)) w20))))))))) ∧
                                                  ((t43.toList == (ByteArray.mk #[0, 0]).toList) = false →
                                                    (S_4 w18.drew ∧
                                                      (S_4 w18.drew ∧
                                                        (R (.returned (.bool false)) w18.drew))))))))) ∧
                                        ((((t19_0n : Nat) : Int) == (1 : Int)) = false →
                                          (S_4 w18.drew ∧
                                            (S_4 w18.drew ∧
                                              (R (.returned (.bool false)) w18.drew)))))) ∧
                                    ((((x2n : Nat) : Int) == (3 : Int)) = false →
                                      (S_4 w18.drew ∧
                                        (S_4 w18.drew ∧
                                          (R (.returned (.bool false)) w18.drew)))))) ∧
                                (t27 = false →
                                  (S_4 w18.drew ∧
                                    (S_4 w18.drew ∧
                                      (R (.returned (.bool false)) w18.drew))))))) ∧
                          (t24 = false →
                            (S_4 w18.drew ∧
                              (S_4 w18.drew ∧
                                (R (.returned (.bool false)) w18.drew))))))))))))))))) : Calls Tryd.prog 8 #[] w R :=
  calls_of_ev (args := [])
    (tc := .seq (.reg (.op .p (.nil))) (.seq (.reg (.op (.ld (.agg)) (.op (.cl [.agg]) (.op .bx (.op .u (.nil)))))) (.seq (.join [2, 3, 4, 10, 11, 12, 13, 14, 15, 16] [2, 4] [.slice, .val] (.drawS (.ts 0 (.agg) (.two 1 (.r (.slice)) (.two 2 (.cl [.slice, .agg, .val]) (.tk 3 .p (.tk 4 .p (.tk 5 .p (.tk 6 .p (.go 7 .bx (.tk 8 .p (.go 9 .u (.tk 10 .p (.nil))))))))) 7 .bx (.go 2 (.cl [.slice, .agg, .val]) (.tk 3 .p (.tk 4 .p (.tk 5 .p (.tk 6 .p (.tk 8 .p (.go 9 .u (.tk 10 .p (.nil)))))))))) 7 .bx (.go 1 (.r (.slice)) (.go 2 (.cl [.slice, .agg, .val]) (.tk 3 .p (.tk 4 .p (.tk 5 .p (.tk 6 .p (.tk 8 .p (.go 9 .u (.tk 10 .p (.nil)))))))))))) [4, 5, 6, 8, 9, 10])) (.seq (.reg (.op (.ld (.agg)) (.op (.cl [.slice, .agg, .val]) (.op .p (.op .p (.op .p (.op .p (.op .bx (.op .p (.op .u (.op .p (.nil)))))))))))) (.seq (.drawS (.tk 0 .p (.ts 1 (.bool) (.tk 2 .p (.sp 25 (.tk 3 .p (.ts 4 (.bool) (.tk 5 .p (.tk 6 .p (.sp 29 (.tk 7 .p (.tk 8 .p (.tk 9 .p (.tk 10 .p (.tk 11 .p (.sp 34 (.tk 12 .p (.tk 13 .p (.tk 14 .p (.tk 15 .p (.tk 16 .p (.sp 39 (.tk 17 .p (.tk 18 .ix (.ts 19 (.slice) (.ts 20 (.str) (.tk 21 .p (.tk 22 .p (.tk 23 .p (.sp 46 (.ts 24 (.agg) (.ts 25 (.agg) (.go 26 (.r (.slice)) (.go 27 (.cl [.agg]) (.ts 28 (.bool) (.tk 29 .p (.tk 30 .p (.nil)))))))) (.ts 24 .val (.ts 25 .val (.go 26 .p (.go 27 .p (.ts 28 .val (.tk 29 .p (.tk 30 .p (.nil)))))))))))))))) (.tk 17 .p (.tk 18 .p (.ts 19 .val (.ts 20 .val (.tk 21 .p (.tk 22 .p (.tk 23 .p (.ts 24 .val (.ts 25 .val (.go 26 .p (.go 27 .p (.ts 28 .val (.tk 29 .p (.tk 30 .p (.nil))))))))))))))))))))) (.tk 12 .p (.tk 13 .p (.tk 14 .p (.tk 15 .p (.tk 16 .p (.tk 17 .p (.tk 18 .p (.ts 19 .val (.ts 20 .val (.tk 21 .p (.tk 22 .p (.tk 23 .p (.ts 24 .val (.ts 25 .val (.go 26 .p (.go 27 .p (.ts 28 .val (.tk 29 .p (.tk 30 .p (.nil)))))))))))))))))))))))))) (.tk 7 .p (.tk 8 .p (.tk 9 .p (.tk 10 .p (.tk 11 .p (.tk 12 .p (.tk 13 .p (.tk 14 .p (.tk 15 .p (.tk 16 .p (.tk 17 .p (.tk 18 .p (.ts 19 .val (.ts 20 .val (.tk 21 .p (.tk 22 .p (.tk 23 .p (.ts 24 .val (.ts 25 .val (.go 26 .p (.go 27 .p (.ts 28 .val (.tk 29 .p (.tk 30 .p (.nil)))))))))))))))))))))))))))))) (.tk 3 .p (.ts 4 .val (.tk 5 .p (.tk 6 .p (.tk 7 .p (.tk 8 .p (.tk 9 .p (.tk 10 .p (.tk 11 .p (.tk 12 .p (.tk 13 .p (.tk 14 .p (.tk 15 .p (.tk 16 .p (.tk 17 .p (.tk 18 .p (.ts 19 .val (.ts 20 .val (.tk 21 .p (.tk 22 .p (.tk 23 .p (.ts 24 .val (.ts 25 .val (.go 26 .p (.go 27 .p (.ts 28 .val (.tk 29 .p (.tk 30 .p (.nil))))))))))))))))))))))))))))))))) []) (.leaf))))))
    (by kernel_rfl) Tryd.func8 (by kernel_rfl) (by kernel_rfl) (by kernel_rfl) (by kernel_rfl) h

set_option maxRecDepth 100000 in
theorem amphoralaw15_same_vc (a0a : Option Addr) (a0n : Nat) (a0c : Nat) (a1a : Option Addr) (a1n : Nat) (a1c : Nat) (w : World) (R : Ending → World → Prop) (h :
  ((((a0n : Nat) : Int) != ((a1n : Nat) : Int)) = true →
    (R (.returned (.bool false)) w)) ∧
  ((((a0n : Nat) : Int) != ((a1n : Nat) : Int)) = false →
    (∃ (I : Int → World → Prop) (μ : Int → World → Nat), I 0 w ∧
      (∀ (x13 : Int), ∀ w1 : World, I x13 w1 →
        (((decide (x13 < ((a0n : Nat) : Int))) = true →
            (∃ S : World → Prop, S w1.drew ∧
              (∃ (t18b t18o : Nat), a0a = some ⟨t18b, t18o, none⟩ ∧ 0 ≤ x13 ∧ x13 < ((a0n : Nat) : Int) ∧
                (∃ (t23b t23o : Nat), a1a = some ⟨t23b, t23o, none⟩ ∧ 0 ≤ x13 ∧ x13 < ((a1n : Nat) : Int) ∧
                  (∃ (t19a : Option Addr) (t19n : Nat) (t19c : Nat), (∀ w' : World, S w' → (Instr.loadAt 23 (.pointer (some ⟨t18b, t18o + Int.toNat x13 * 1, none⟩))).run Tryd.prog w' = .ok (.slice t19a t19n t19c) w') ∧
                    (∃ (t20 : ByteArray), (∀ w' : World, S w' → (convert 23 9 (.slice t19a t19n t19c)).run Tryd.prog w' = .ok (.string t20) w') ∧
                      (∃ (t24a : Option Addr) (t24n : Nat) (t24c : Nat), (∀ w' : World, S w' → (Instr.loadAt 23 (.pointer (some ⟨t23b, t23o + Int.toNat x13 * 1, none⟩))).run Tryd.prog w' = .ok (.slice t24a t24n t24c) w') ∧
                        (∃ (t25 : ByteArray), (∀ w' : World, S w' → (convert 23 9 (.slice t24a t24n t24c)).run Tryd.prog w' = .ok (.string t25) w') ∧
                          (((!(t20.toList == t25.toList)) = true →
                              (R (.returned (.bool false)) w1.drew)) ∧
                            ((!(t20.toList == t25.toList)) = false →
                              (I (IntKind.wrap .i64 (x13 + (1 : Int))) w1.drew ∧ μ (IntKind.wrap .i64 (x13 + (1 : Int))) w1.drew < μ x13 w1))))))))))) ∧
          ((decide (x13 < ((a0n : Nat) : Int))) = false →
            (R (.returned (.bool true)) w1))))))) : Calls Tryd.prog 14 #[(.slice a0a a0n a0c), (.slice a1a a1n a1c)] w R :=
  calls_of_ev (args := [(.slice a0a a0n a0c), (.slice a1a a1n a1c)])
    (tc := .seq (.reg (.op .p (.nil))) (.seq (.seq (.reg (.op .p (.op .p (.op .p (.op .p (.op .p (.nil))))))) (.cond (.seq (.reg (.op .p (.nil))) (.leaf)) (.leaf))) (.seq (.seq (.reg (.op .p (.op .p (.op .p (.nil))))) (.blk (.loop [4, 5, 13, 14, 15, 16, 17, 18, 19, 20, 21, 22, 23, 24, 25, 26, 27] [13] [.int .i64] (.seq (.reg (.op .p (.nil))) (.seq (.cond (.leaf) (.leaf)) (.seq (.blk (.seq (.reg (.op .p (.op .p (.nil)))) (.seq (.drawS (.tk 0 .p (.tk 1 .p (.tk 2 .ix (.tk 5 .p (.tk 6 .p (.tk 7 .ix (.ts 3 (.slice) (.ts 4 (.str) (.ts 8 (.slice) (.ts 9 (.str) (.tk 10 .p (.nil)))))))))))) []) (.cond (.seq (.reg (.op .p (.nil))) (.leaf)) (.leaf))))) (.reg (.op .p (.op .p (.nil)))))))))) (.seq (.reg (.op .p (.nil))) (.leaf)))))
    (by kernel_rfl) Tryd.func14 (by kernel_rfl) (by kernel_rfl) (by kernel_rfl) (by kernel_rfl) h

set_option maxRecDepth 100000 in
theorem amphoralaw15_Case_ids_vc (a0 : Array Value) (w : World) (R : Ending → World → Prop) (h :
  ∃ (g1 : Nat) (w1 : World), (Instr.box 25 (.agg a0)).run Tryd.prog w = .ok (.pointer (some ⟨g1, 0, none⟩)) w1 ∧
  (∃ (t6a : Option Addr) (t6n : Nat) (t6c : Nat) (w2 : World), (Instr.buildSlice 30 0 #[]).run Tryd.prog w1 = .ok (.slice t6a t6n t6c) w2 ∧
    (∃ (t8 : Int), (Instr.loadAt 3 (.pointer (some ⟨g1, 33, none⟩))).run Tryd.prog w2 = .ok (.int .i64 t8) w2 ∧
      (∃ (I : Option Addr → Nat → Nat → Int → World → Prop) (μ : Option Addr → Nat → Nat → Int → World → Nat), I t6a t6n t6c 0 w2 ∧
        (∀ (x3a : Option Addr) (x3n : Nat) (x3c : Nat) (x11 : Int), ∀ w3 : World, I x3a x3n x3c x11 w3 →
          (((decide (x11 < (if (50 : Int) < (if t8 < (1 : Int) then (1 : Int) else t8) then (50 : Int) else (if t8 < (1 : Int) then (1 : Int) else t8)))) = true →
              (∃ (t14a : Option Addr) (t14n : Nat) (t14c : Nat), (Instr.loadAt 23 (.pointer (some ⟨g1, 32, none⟩))).run Tryd.prog w3 = .ok (.slice t14a t14n t14c) w3 ∧
                (∃ (I_1 : Option Addr → Nat → Nat → Int → World → Prop) (μ_1 : Option Addr → Nat → Nat → Int → World → Nat), I_1 x3a x3n x3c 0 w3 ∧
                  (∀ (x3a_1 : Option Addr) (x3n_1 : Nat) (x3c_1 : Nat) (x16 : Int), ∀ w4 : World, I_1 x3a_1 x3n_1 x3c_1 x16 w4 →
                    (((decide (x16 < ((t14n : Nat) : Int))) = true →
                        (∃ (t19b t19o : Nat), t14a = some ⟨t19b, t19o, none⟩ ∧ 0 ≤ x16 ∧ x16 < ((t14n : Nat) : Int) ∧
                          (∃ (t20 : Int), (Instr.loadAt 5 (.pointer (some ⟨t19b, t19o + Int.toNat x16 * 1, none⟩))).run Tryd.prog w4 = .ok (.int .u8 t20) w4 ∧
                            (∃ (t25 : Array Value), (Instr.build 33 #[(0, (.int .u8 t20)), (1, (.int .u8 (IntKind.wrap .u8 x16)))]).run Tryd.prog w4 = .ok (.agg t25) w4 ∧
                              (∃ (t26a : Option Addr) (t26n : Nat) (t26c : Nat) (w5 : World), (Instr.buildSlice 30 1 #[(0, (.agg t25))]).run Tryd.prog w4 = .ok (.slice t26a t26n t26c) w5 ∧
                                (∃ (t27a : Option Addr) (t27n : Nat) (t27c : Nat) (w6 : World), (Builtin.append_ #[30, 30] 30 #[(.slice x3a_1 x3n_1 x3c_1), (.slice t26a t26n t26c)]).run Tryd.prog w5 = .ok (.slice t27a t27n t27c) w6 ∧
                                  (I_1 t27a t27n t27c (IntKind.wrap .i64 (x16 + (1 : Int))) w6 ∧ μ_1 t27a t27n t27c (IntKind.wrap .i64 (x16 + (1 : Int))) w6 < μ_1 x3a_1 x3n_1 x3c_1 x16 w4))))))) ∧
                      ((decide (x16 < ((t14n : Nat) : Int))) = false →
                        (I x3a_1 x3n_1 x3c_1 (IntKind.wrap .i64 (x11 + (1 : Int))) w4 ∧ μ x3a_1 x3n_1 x3c_1 (IntKind.wrap .i64 (x11 + (1 : Int))) w4 < μ x3a x3n x3c x11 w3))))))) ∧
            ((decide (x11 < (if (50 : Int) < (if t8 < (1 : Int) then (1 : Int) else t8) then (50 : Int) else (if t8 < (1 : Int) then (1 : Int) else t8)))) = false →
              (R (.returned (.slice x3a x3n x3c)) w3)))))))) : Calls Tryd.prog 11 #[(.agg a0)] w R :=
  calls_of_ev (args := [(.agg a0)])
    (tc := .seq (.reg (.op .bx (.op .p (.nil)))) (.seq (.reg (.op (.r (.slice)) (.op .p (.nil)))) (.seq (.seq (.reg (.op .p (.op (.ld (.int .i64)) (.op .p (.op .p (.op .p (.nil))))))) (.blk (.loop [3, 4, 5, 11, 12, 13, 14, 15, 16, 17, 18, 19, 20, 21, 22, 23, 24, 25, 26, 27, 28, 29] [3, 11] [.slice, .int .i64] (.seq (.reg (.op .p (.nil))) (.seq (.cond (.leaf) (.leaf)) (.seq (.blk (.seq (.reg (.op .p (.op (.ld (.slice)) (.op .p (.op .p (.nil)))))) (.blk (.loop [3, 4, 5, 16, 17, 18, 19, 20, 21, 22, 23, 24, 25, 26, 27, 28] [3, 16] [.slice, .int .i64] (.seq (.reg (.op .p (.nil))) (.seq (.cond (.leaf) (.leaf)) (.seq (.blk (.seq (.reg (.op .p (.op .ix (.op (.ld (.int .u8)) (.op .p (.op .p (.nil))))))) (.reg (.op .p (.op .p (.op .p (.op .p (.op (.ld (.agg)) (.op (.r (.slice)) (.op (.r (.slice)) (.op .p (.nil)))))))))))) (.reg (.op .p (.op .p (.nil))))))))))) (.reg (.op .p (.op .p (.nil)))))))))) (.seq (.reg (.op .p (.op .p (.nil)))) (.leaf)))))
    (by kernel_rfl) Tryd.func11 (by kernel_rfl) (by kernel_rfl) (by kernel_rfl) (by kernel_rfl) h

set_option maxRecDepth 100000 in
theorem amphoralaw15_Case_large_vc (a0 : Array Value) (w : World) (R : Ending → World → Prop) (h :
  ∃ (g1 : Nat) (w1 : World), (Instr.box 25 (.agg a0)).run Tryd.prog w = .ok (.pointer (some ⟨g1, 0, none⟩)) w1 ∧
  (∃ (t4a : Option Addr) (t4n : Nat) (t4c : Nat), (Instr.loadAt 23 (.pointer (some ⟨g1, 32, none⟩))).run Tryd.prog w1 = .ok (.slice t4a t4n t4c) w1 ∧
    (∃ (t7 : Int), (Instr.loadAt 3 (.pointer (some ⟨g1, 33, none⟩))).run Tryd.prog w1 = .ok (.int .i64 t7) w1 ∧
      (R (.returned (.bool (decide ((IntKind.wrap .i64 (((t4n : Nat) : Int) * (if (50 : Int) < (if t7 < (1 : Int) then (1 : Int) else t7) then (50 : Int) else (if t7 < (1 : Int) then (1 : Int) else t7)))) > (1500 : Int))))) w1)))) : Calls Tryd.prog 9 #[(.agg a0)] w R :=
  calls_of_ev (args := [(.agg a0)])
    (tc := .seq (.reg (.op .bx (.op .p (.nil)))) (.seq (.reg (.op .p (.op (.ld (.slice)) (.op .p (.op .p (.op (.ld (.int .i64)) (.op .p (.op .p (.op .p (.op .p (.op .p (.nil)))))))))))) (.leaf)))
    (by kernel_rfl) Tryd.func9 (by kernel_rfl) (by kernel_rfl) (by kernel_rfl) (by kernel_rfl) h

set_option maxRecDepth 100000 in
theorem amphoralaw15_forms_vc (a0 : Int) (a1a : Option Addr) (a1n : Nat) (a1c : Nat) (a2 : Int) (a3 : Int) (w : World) (R : Ending → World → Prop) (h :
  Calls Tryd.prog 8 #[] w fun (e22 : Ending) (w1 : World) => ∃ (t22 : Bool), e22 = .returned (.bool t22) ∧
  (((!t22) = true →
      (R (.returned (.bool false)) w1)) ∧
    ((!t22) = false →
      (∃ J : Bool → World → Prop, (((((decide (((a1n : Nat) : Int) > (16 : Int))) || (decide (a0 < (0 : Int)))) || (decide (a0 > (3 : Int)))) = true →
            (J true w1)) ∧
          ((((decide (((a1n : Nat) : Int) > (16 : Int))) || (decide (a0 < (0 : Int)))) || (decide (a0 > (3 : Int)))) = false →
            (((((a1n : Nat) : Int) == (0 : Int)) = true →
                (J (decide (a0 > (0 : Int))) w1)) ∧
              ((((a1n : Nat) : Int) == (0 : Int)) = false →
                (J false w1))))) ∧
        (∀ (x43 : Bool), ∀ w2 : World, J x43 w2 →
          ((x43 = true →
              (R (.returned (.bool true)) w2)) ∧
            (x43 = false →
              (∃ (t44a : Option Addr) (t44n : Nat) (t44c : Nat) (w3 : World), (Instr.buildSlice 30 0 #[]).run Tryd.prog w2 = .ok (.slice t44a t44n t44c) w3 ∧
                (∃ (I : Option Addr → Nat → Nat → Int → World → Prop) (μ : Option Addr → Nat → Nat → Int → World → Nat), I t44a t44n t44c 0 w3 ∧
                  (∀ (x9a : Option Addr) (x9n : Nat) (x9c : Nat) (x47 : Int), ∀ w4 : World, I x9a x9n x9c x47 w4 →
                    (((decide (x47 < ((a1n : Nat) : Int))) = true →
                        (∃ (t49b t49o : Nat), a1a = some ⟨t49b, t49o, none⟩ ∧ 0 ≤ x47 ∧ x47 < ((a1n : Nat) : Int) ∧
                          (∃ (t50 : Int), (Instr.loadAt 5 (.pointer (some ⟨t49b, t49o + Int.toNat x47 * 1, none⟩))).run Tryd.prog w4 = .ok (.int .u8 t50) w4 ∧
                            (∃ (t53 : Array Value), (Instr.build 33 #[(0, (.int .u8 t50))]).run Tryd.prog w4 = .ok (.agg t53) w4 ∧
                              (∃ (t54a : Option Addr) (t54n : Nat) (t54c : Nat) (w5 : World), (Instr.buildSlice 30 1 #[(0, (.agg t53))]).run Tryd.prog w4 = .ok (.slice t54a t54n t54c) w5 ∧
                                (∃ (t55a : Option Addr) (t55n : Nat) (t55c : Nat) (w6 : World), (Builtin.append_ #[30, 30] 30 #[(.slice x9a x9n x9c), (.slice t54a t54n t54c)]).run Tryd.prog w5 = .ok (.slice t55a t55n t55c) w6 ∧
                                  (I t55a t55n t55c (IntKind.wrap .i64 (x47 + (1 : Int))) w6 ∧ μ t55a t55n t55c (IntKind.wrap .i64 (x47 + (1 : Int))) w6 < μ x9a x9n x9c x47 w4))))))) ∧
                      ((decide (x47 < ((a1n : Nat) : Int))) = false →
                        (Calls Tryd.prog 32 #[(.int .i64 a0), (.slice x9a x9n x9c)] w4 fun (e59 : Ending) (w7 : World) => ∃ (t59a : Option Addr) (t59n : Nat) (t59c : Nat), e59 = .returned (.slice t59a t59n t59c) ∧
                          (Calls Tryd.prog 22 #[(.slice t59a t59n t59c)] w7 fun (e62 : Ending) (w8 : World) => ∃ (t62_0 : Int) (t62_1a : Option Addr) (t62_1n : Nat) (t62_1c : Nat) (t62_2 : Value), e62 = .returned (.tuple #[(.int .i64 t62_0), (.slice t62_1a t62_1n t62_1c), t62_2]) ∧
                            (∃ J_1 : Bool → World → Prop, (∃ (t67 : Bool), (eqlS .neq 35 (.tmp 66) (.const .nilIface) t62_2 .nilIface).run Tryd.prog w8 = .ok (.bool t67) w8 ∧
                                (((t67 || (t62_0 != a0)) = true →
                                    (J_1 true w8)) ∧
                                  ((t67 || (t62_0 != a0)) = false →
                                    (Calls Tryd.prog 16 #[(.slice t62_1a t62_1n t62_1c), (.slice x9a x9n x9c)] w8 fun (e76 : Ending) (w9 : World) => ∃ (t76 : Bool), e76 = .returned (.bool t76) ∧
                                      (J_1 (!t76) w9))))) ∧
                              (∀ (x78 : Bool), ∀ w10 : World, J_1 x78 w10 →
                                ((x78 = true →
                                    (R (.returned (.bool false)) w10)) ∧
                                  (x78 = false →
                                    (∃ (t80a : Option Addr) (t80n : Nat) (t80c : Nat) (w11 : World), (Instr.buildSlice 23 0 #[]).run Tryd.prog w10 = .ok (.slice t80a t80n t80c) w11 ∧
                                      (∃ (t82a : Option Addr) (t82n : Nat) (t82c : Nat) (w12 : World), (Builtin.append_ #[23, 23] 23 #[(.slice t80a t80n t80c), (.slice t59a t59n t59c)]).run Tryd.prog w11 = .ok (.slice t82a t82n t82c) w12 ∧
                                        (∃ (t84a : Option Addr) (t84n : Nat) (t84c : Nat) (w13 : World), (Instr.buildSlice 23 1 #[(0, (.int .u8 a3))]).run Tryd.prog w12 = .ok (.slice t84a t84n t84c) w13 ∧
                                          (∃ (t85a : Option Addr) (t85n : Nat) (t85c : Nat) (w14 : World), (Builtin.append_ #[23, 23] 23 #[(.slice t82a t82n t82c), (.slice t84a t84n t84c)]).run Tryd.prog w13 = .ok (.slice t85a t85n t85c) w14 ∧
                                            (Calls Tryd.prog 22 #[(.slice t85a t85n t85c)] w14 fun (e86 : Ending) (w15 : World) => ∃ (t86_0 : Int) (t86_1a : Option Addr) (t86_1n : Nat) (t86_1c : Nat) (t86_2 : Value), e86 = .returned (.tuple #[(.int .i64 t86_0), (.slice t86_1a t86_1n t86_1c), t86_2]) ∧
                                              (0 ≤ (IntKind.wrap .i64 (((t59n : Nat) : Int) - (1 : Int))) ∧ (IntKind.wrap .i64 (((t59n : Nat) : Int) - (1 : Int))) ≤ ((t59c : Nat) : Int) ∧
                                                (Calls Tryd.prog 22 #[(.slice t59a (Int.toNat (IntKind.wrap .i64 (((t59n : Nat) : Int) - (1 : Int)))) t59c)] w15 fun (e96 : Ending) (w16 : World) => ∃ (t96_0 : Int) (t96_1a : Option Addr) (t96_1n : Nat) (t96_1c : Nat) (t96_2 : Value), e96 = .returned (.tuple #[(.int .i64 t96_0), (.slice t96_1a t96_1n t96_1c), t96_2]) ∧
                                                  (∃ J_2 : Bool → World → Prop, (∃ (t102 : Bool), (eqlS .neq 35 (.tmp 100) (.tmp 101) t86_2 (.iface 65 (.int .i64 9))).run Tryd.prog w16 = .ok (.bool t102) w16 ∧
                                                      ((t102 = true →
                                                          (J_2 true w16)) ∧
                                                        (t102 = false →
                                                          (∃ (t106 : Bool), (eqlS .neq 35 (.tmp 104) (.tmp 105) t96_2 (.iface 65 (.int .i64 9))).run Tryd.prog w16 = .ok (.bool t106) w16 ∧
                                                            (J_2 t106 w16))))) ∧
                                                    (∀ (x107 : Bool), ∀ w17 : World, J_2 x107 w17 →
                                                      ((x107 = true →
                                                          (R (.returned (.bool false)) w17)) ∧
                                                        (x107 = false →
                                                          (∃ (t108a : Option Addr) (t108n : Nat) (t108c : Nat) (w18 : World), (Instr.buildSlice 23 0 #[]).run Tryd.prog w17 = .ok (.slice t108a t108n t108c) w18 ∧
                                                            (∃ (t110a : Option Addr) (t110n : Nat) (t110c : Nat) (w19 : World), (Builtin.append_ #[23, 23] 23 #[(.slice t108a t108n t108c), (.slice t59a t59n t59c)]).run Tryd.prog w18 = .ok (.slice t110a t110n t110c) w19 ∧
                                                              ((IntKind.wrap .u64 ((t59n : Nat) : Int)) ≠ 0 ∧
                                                                (∃ (t119b t119o : Nat), t110a = some ⟨t119b, t119o, none⟩ ∧ 0 ≤ (IntKind.wrap .i64 (Int.tmod (IntKind.wrap .u64 a2) (IntKind.wrap .u64 ((t59n : Nat) : Int)))) ∧ (IntKind.wrap .i64 (Int.tmod (IntKind.wrap .u64 a2) (IntKind.wrap .u64 ((t59n : Nat) : Int)))) < ((t110n : Nat) : Int) ∧
                                                                  (∃ (t120 : Int), (Instr.loadAt 5 (.pointer (some ⟨t119b, t119o + Int.toNat (IntKind.wrap .i64 (Int.tmod (IntKind.wrap .u64 a2) (IntKind.wrap .u64 ((t59n : Nat) : Int)))) * 1, none⟩))).run Tryd.prog w19 = .ok (.int .u8 t120) w19 ∧
                                                                    (∃ (t123b t123o : Nat), t110a = some ⟨t123b, t123o, none⟩ ∧ 0 ≤ (IntKind.wrap .i64 (Int.tmod (IntKind.wrap .u64 a2) (IntKind.wrap .u64 ((t59n : Nat) : Int)))) ∧ (IntKind.wrap .i64 (Int.tmod (IntKind.wrap .u64 a2) (IntKind.wrap .u64 ((t59n : Nat) : Int)))) < ((t110n : Nat) : Int) ∧
                                                                      (∃ w20 : World, (Instr.storeAt 5 (.pointer (some ⟨t123b, t123o + Int.toNat (IntKind.wrap .i64 (Int.tmod (IntKind.wrap .u64 a2) (IntKind.wrap .u64 ((t59n : Nat) : Int)))) * 1, none⟩)) (.int .u8 (bxor .u8 t120 a3))).run Tryd.prog w19 = .ok () w20 ∧
                                                                        (Calls Tryd.prog 22 #[(.slice t110a t110n t110c)] w20 fun (e126 : Ending) (w21 : World) => ∃ (t126_0 : Int) (t126_1a : Option Addr) (t126_1n : Nat) (t126_1c : Nat) (t126_2 : Value), e126 = .returned (.tuple #[(.int .i64 t126_0), (.slice t126_1a t126_1n t126_1c), t126_2]) ∧
                                                                          (((a3 == (0 : Int)) = true →
                                                                              (R (.returned (.bool true)) w21)) ∧
                                                                            ((a3 == (0 : Int)) = false →
                                                                              (∃ (t135 : Bool), (eqlS .eql 35 (.tmp 133) (.tmp 134) t126_2 (.iface 65 (.int .i64 9))).run Tryd.prog w21 = .ok (.bool t135) w21 ∧
                                                                                (((t135 || (t126_0 != t62_0)) = true →
                                                                                (R (.returned (.bool true)) w21)) ∧
                                                                                ((t135 || (t126_0 != t62_0)) = false →
                                                                                (Calls Tryd.prog 16 #[(.slice t126_1a t126_1n t126_1c), (.slice x9a x9n x9c)] w21 fun (e145 : Ending) (w22 : World) => ∃ (t145 : Bool), e145 = .returned (.bool t145) ∧
                                                                                (R (.returned (.bool (!t145))) w22)))))))))))))))))))))))))))))))))))))))))))) : Calls Tryd.prog 19 #[(.int .i64 a0), (.slice a1a a1n a1c), (.int .i64 a2), (.int .u8 a3)] w R :=
  calls_of_ev (args := [(.int .i64 a0), (.slice a1a a1n a1c), (.int .i64 a2), (.int .u8 a3)])
    (tc := .seq (.reg (.op .p (.nil))) (.seq (.seq (.reg (.op (.cl [.bool]) (.op .p (.nil)))) (.cond (.seq (.reg (.op .p (.nil))) (.leaf)) (.leaf))) (.seq (.seq (.join [24, 25, 26, 27, 28, 29, 30, 31, 32, 33, 34, 35, 36, 37, 38, 39, 40, 41, 42, 43] [43] [.bool] (.reg (.op .p (.op .p (.op .p (.op .p (.ap 2 (.op .p (.ap 2 (.op .p (.sp 35 (.op .p (.op .p (.op .p (.op .p (.op .p (.op .p (.op .p (.op .p (.nil))))))))) (.op .p (.op .p (.op .p (.op .p (.sp 39 (.op .p (.op .p (.op .p (.op .p (.nil))))) (.op .p (.op .p (.op .p (.op .p (.nil))))))))))))))))))))) (.cond (.seq (.reg (.op .p (.nil))) (.leaf)) (.leaf))) (.seq (.reg (.op (.r (.slice)) (.op .p (.nil)))) (.seq (.seq (.reg (.op .p (.op .p (.op .p (.nil))))) (.blk (.loop [9, 11, 47, 48, 49, 50, 51, 52, 53, 54, 55, 56] [9, 47] [.slice, .int .i64] (.seq (.reg (.op .p (.nil))) (.seq (.cond (.leaf) (.leaf)) (.seq (.blk (.seq (.reg (.op .ix (.op (.ld (.int .u8)) (.op .p (.nil))))) (.reg (.op .p (.op .p (.op (.ld (.agg)) (.op (.r (.slice)) (.op (.r (.slice)) (.op .p (.nil)))))))))) (.reg (.op .p (.op .p (.nil)))))))))) (.seq (.reg (.op .p (.op .p (.op (.cl [.slice]) (.op .p (.nil)))))) (.seq (.reg (.op .p (.op (.cl [.int .i64, .slice, .val]) (.op .p (.op .p (.op .p (.op .p (.op .p (.op .p (.op .p (.nil))))))))))) (.seq (.seq (.join [66, 67, 68, 69, 70, 71, 72, 73, 74, 75, 76, 77, 78] [78] [.bool] (.reg (.op .p (.op (.ld (.bool)) (.op .p (.ap 3 (.op .p (.sp 73 (.op .p (.op .p (.op .p (.op .p (.op .p (.nil)))))) (.op .p (.op .p (.op (.cl [.bool]) (.op .p (.op .p (.nil)))))))))))))) (.cond (.seq (.reg (.op .p (.nil))) (.leaf)) (.leaf))) (.seq (.reg (.op (.r (.slice)) (.op .p (.op (.r (.slice)) (.op .p (.op (.r (.slice)) (.op (.r (.slice)) (.op (.cl [.int .i64, .slice, .val]) (.op .p (.op .p (.op .p (.op .p (.op .p (.nil)))))))))))))) (.seq (.reg (.op .p (.op .p (.op .p (.op .p (.op .sl (.op (.cl [.int .i64, .slice, .val]) (.op .p (.op .p (.op .p (.op .p (.op .p (.op .p (.op .p (.nil))))))))))))))) (.seq (.seq (.join [100, 101, 102, 103, 104, 105, 106, 107] [107] [.bool] (.reg (.op .p (.op .p (.op (.ld (.bool)) (.op .p (.sp 103 (.op .p (.op .p (.op .p (.op .p (.nil))))) (.op .p (.op .p (.op (.ld (.bool)) (.op .p (.nil)))))))))))) (.cond (.seq (.reg (.op .p (.nil))) (.leaf)) (.leaf))) (.seq (.reg (.op (.r (.slice)) (.op .p (.op (.r (.slice)) (.op .p (.nil)))))) (.seq (.reg (.op .p (.op .p (.op .p (.op .p (.op .p (.op .p (.op .sc (.op .p (.op .ix (.op (.ld (.int .u8)) (.op .p (.op .p (.op .ix (.op .u (.nil)))))))))))))))) (.seq (.reg (.op .p (.op (.cl [.int .i64, .slice, .val]) (.op .p (.op .p (.op .p (.op .p (.op .p (.op .p (.op .p (.nil))))))))))) (.seq (.reg (.op .p (.op .p (.op .p (.sp 132 (.op .p (.op .p (.op .p (.op .p (.op .p (.op .p (.op .p (.op .p (.op .p (.op .p (.op .p (.op .p (.op .p (.op .p (.op .p (.op .p (.nil))))))))))))))))) (.op .p (.op .p (.op (.ld (.bool)) (.op .p (.op .p (.ap 3 (.op .p (.sp 142 (.op .p (.op .p (.op .p (.op .p (.op .p (.op .p (.nil))))))) (.op .p (.op .p (.op (.cl [.bool]) (.op .p (.op .p (.op .p (.nil)))))))))))))))))))) (.leaf))))))))))))))))
    (by kernel_rfl) Tryd.func19 (by kernel_rfl) (by kernel_rfl) (by kernel_rfl) (by kernel_rfl) h

set_option maxRecDepth 100000 in
theorem amphoralaw15_ManifestBuilds_vc (a0 : Array Value) (w : World) (R : Ending → World → Prop) (h :
  ∃ (g1 : Nat) (w1 : World), (Instr.box 25 (.agg a0)).run Tryd.prog w = .ok (.pointer (some ⟨g1, 0, none⟩)) w1 ∧
  (Calls Tryd.prog 8 #[] w1 fun (e11 : Ending) (w2 : World) => ∃ (t11 : Bool), e11 = .returned (.bool t11) ∧
    (((!t11) = true →
        (R (.returned (.bool false)) w2)) ∧
      ((!t11) = false →
        (∃ (t13 : Array Value), (Instr.loadAt 25 (.pointer (some ⟨g1, 0, none⟩))).run Tryd.prog w2 = .ok (.agg t13) w2 ∧
          (Calls Tryd.prog 9 #[(.agg t13)] w2 fun (e14 : Ending) (w3 : World) => ∃ (t14 : Bool), e14 = .returned (.bool t14) ∧
            ((t14 = true →
                (R (.returned (.bool true)) w3)) ∧
              (t14 = false →
                (∃ (t16 : Array Value), (Instr.loadAt 22 (.pointer (some ⟨g1, 0, none⟩))).run Tryd.prog w3 = .ok (.agg t16) w3 ∧
                  (Calls Tryd.prog 10 #[(.agg t16)] w3 fun (e17 : Ending) (w4 : World) => ∃ (t17 : Array Value), e17 = .returned (.agg t17) ∧
                    (∃ (g3 : Nat) (w5 : World), (Instr.alloc 28 true (.tuple #[])).run Tryd.prog w4 = .ok (.pointer (some ⟨g3, 0, none⟩)) w5 ∧
                      (∃ w6 : World, (Instr.storeAt 28 (.pointer (some ⟨g3, 0, none⟩)) (.agg t17)).run Tryd.prog w5 = .ok () w6 ∧
                        (∃ (t18 : Array Value), (Instr.loadAt 25 (.pointer (some ⟨g1, 0, none⟩))).run Tryd.prog w6 = .ok (.agg t18) w6 ∧
                          (Calls Tryd.prog 11 #[(.agg t18)] w6 fun (e19 : Ending) (w7 : World) => ∃ (t19a : Option Addr) (t19n : Nat) (t19c : Nat), e19 = .returned (.slice t19a t19n t19c) ∧
                            (∃ (t21 : Array Value), (Instr.loadAt 28 (.pointer (some ⟨g3, 0, none⟩))).run Tryd.prog w7 = .ok (.agg t21) w7 ∧
                              (Calls Tryd.prog 12 #[(.agg t21), (.slice t19a t19n t19c)] w7 fun (e23 : Ending) (w8 : World) => ∃ (t23_0a : Option Addr) (t23_0n : Nat) (t23_0c : Nat) (t23_1 : Array Value) (t23_2 : Value), e23 = .returned (.tuple #[(.slice t23_0a t23_0n t23_0c), (.agg t23_1), t23_2]) ∧
                                (∃ (g6 : Nat) (w9 : World), (Instr.alloc 33 true (.tuple #[])).run Tryd.prog w8 = .ok (.pointer (some ⟨g6, 0, none⟩)) w9 ∧
                                  (∃ w10 : World, (Instr.storeAt 33 (.pointer (some ⟨g6, 0, none⟩)) (.agg t23_1)).run Tryd.prog w9 = .ok () w10 ∧
                                    (∃ J : Option Addr → Nat → Nat → Nat → Nat → Int → World → Prop, (∃ S : World → Prop, S w10.drew ∧
                                        (∃ (t28 : Array Value), (∀ w' : World, S w' → (Instr.loadAt 28 (.pointer (some ⟨g3, 0, none⟩))).run Tryd.prog w' = .ok (.agg t28) w') ∧
                                          (∃ (t29 : Array Value), (∀ w' : World, S w' → (Instr.loadAt 25 (.pointer (some ⟨g1, 0, none⟩))).run Tryd.prog w' = .ok (.agg t29) w') ∧
                                            ((Calls Tryd.prog 11 #[(.agg t29)] w10.drew fun (e30 : Ending) (w11 : World) => ∃ (t30a : Option Addr) (t30n : Nat) (t30c : Nat), e30 = .returned (.slice t30a t30n t30c) ∧
                                                (∃ S_1 : World → Prop, (∀ w' : World, S_1 w' → S w') ∧ S_1 w11 ∧
                                                  ((Calls Tryd.prog 13 #[(.agg t28), (.slice t30a t30n t30c)] w11 fun (e31 : Ending) (w12 : World) => ∃ (t31_0a : Option Addr) (t31_0n : Nat) (t31_0c : Nat) (t31_1 : Array Value) (t31_2 : Int), e31 = .returned (.tuple #[(.slice t31_0a t31_0n t31_0c), (.agg t31_1), (.int .i64 t31_2)]) ∧
                                                      (∃ S_2 : World → Prop, (∀ w' : World, S_2 w' → S_1 w') ∧ S_2 w12 ∧
                                                        (∃ (g9 : Nat) (w13 : World), (Instr.alloc 33 true (.tuple #[])).run Tryd.prog w12 = .ok (.pointer (some ⟨g9, 0, none⟩)) w13 ∧
                                                          (∃ S_3 : World → Prop, (∀ w' : World, S_3 w' → S_2 w') ∧ S_3 w13 ∧
                                                            (∃ w14 : World, (Instr.storeAt 33 (.pointer (some ⟨g9, 0, none⟩)) (.agg t31_1)).run Tryd.prog w13 = .ok () w14 ∧
                                                              (J t31_0a t31_0n t31_0c g9 0 t31_2 w14)))))) ∧
                                                    (∃ (g9 : Nat) (w15 : World), (Instr.alloc 33 true (.tuple #[])).run Tryd.prog w11 = .ok (.pointer (some ⟨g9, 0, none⟩)) w15 ∧
                                                      (∃ S_2 : World → Prop, (∀ w' : World, S_2 w' → S_1 w') ∧ S_2 w15 ∧
                                                        (Calls Tryd.prog 13 #[(.agg t28), (.slice t30a t30n t30c)] w15 fun (e31 : Ending) (w16 : World) => ∃ (t31_0a : Option Addr) (t31_0n : Nat) (t31_0c : Nat) (t31_1 : Array Value) (t31_2 : Int), e31 = .returned (.tuple #[(.slice t31_0a t31_0n t31_0c), (.agg t31_1), (.int .i64 t31_2)]) ∧
                                                          (∃ S_3 : World → Prop, (∀ w' : World, S_3 w' → S_2 w') ∧ S_3 w16 ∧
                                                            (∃ w17 : World, (Instr.storeAt 33 (.pointer (some ⟨g9, 0, none⟩)) (.agg t31_1)).run Tryd.prog w16 = .ok () w17 ∧
                                                              (J t31_0a t31_0n t31_0c g9 0 t31_2 w17))))))))) ∧
                                              (∃ (g9 : Nat) (w18 : World), (Instr.alloc 33 true (.tuple #[])).run Tryd.prog w10.drew = .ok (.pointer (some ⟨g9, 0, none⟩)) w18 ∧
                                                (∃ S_1 : World → Prop, (∀ w' : World, S_1 w' → S w') ∧ S_1 w18 ∧
                                                  (Calls Tryd.prog 11 #[(.agg t29)] w18 fun (e30 : Ending) (w19 : World) => ∃ (t30a : Option Addr) (t30n : Nat) (t30c : Nat), e30 = .returned (.slice t30a t30n t30c) ∧
                                                    (∃ S_2 : World → Prop, (∀ w' : World, S_2 w' → S_1 w') ∧ S_2 w19 ∧
                                                      (Calls Tryd.prog 13 #[(.agg t28), (.slice t30a t30n t30c)] w19 fun (e31 : Ending) (w20 : World) => ∃ (t31_0a : Option Addr) (t31_0n : Nat) (t31_0c : Nat) (t31_1 : Array Value) (t31_2 : Int), e31 = .returned (.tuple #[(.slice t31_0a t31_0n t31_0c), (.agg t31_1), (.int .i64 t31_2)]) ∧
                                                        (∃ S_3 : World → Prop, (∀ w' : World, S_3 w' → S_2 w') ∧ S_3 w20 ∧
                                                          (∃ w21 : World, (Instr.storeAt 33 (.pointer (some ⟨g9, 0, none⟩)) (.agg t31_1)).run Tryd.prog w20 = .ok () w21 ∧
                                                            (J t31_0a t31_0n t31_0c g9 0 t31_2 w21)))))))))))) ∧
                                      (∀ (x8a : Option Addr) (x8n : Nat) (x8c : Nat) (x9b : Nat) (x9o : Nat) (x10 : Int), ∀ w22 : World, J x8a x8n x8c x9b x9o x10 w22 →
                                        (Calls Tryd.prog 14 #[(.slice t23_0a t23_0n t23_0c), (.slice x8a x8n x8c)] w22 fun (e37 : Ending) (w23 : World) => ∃ (t37 : Bool), e37 = .returned (.bool t37) ∧
                                          ((t37 = true →
                                              (∃ (t39 : Array Value), (Instr.loadAt 33 (.pointer (some ⟨g6, 0, none⟩))).run Tryd.prog w23 = .ok (.agg t39) w23 ∧
                                                (∃ (t40 : Array Value), (Instr.loadAt 33 (.pointer (some ⟨x9b, x9o, none⟩))).run Tryd.prog w23 = .ok (.agg t40) w23 ∧
                                                  (∃ (t41 : Bool), (eqlS .eql 33 (.tmp 39) (.tmp 40) (.agg t39) (.agg t40)).run Tryd.prog w23 = .ok (.bool t41) w23 ∧
                                                    ((t41 = true →
                                                        (Calls Tryd.prog 15 #[t23_2] w23 fun (e45 : Ending) (w24 : World) => ∃ (t45 : Int), e45 = .returned (.int .i64 t45) ∧
                                                          (((t45 == x10) = true →
                                                              (∃ (t51 : Array Value), (Instr.loadAt 25 (.pointer (some ⟨g1, 0, none⟩))).run Tryd.prog w24 = .ok (.agg t51) w24 ∧
                                                                (Calls Tryd.prog 11 #[(.agg t51)] w24 fun (e52 : Ending) (w25 : World) => ∃ (t52a : Option Addr) (t52n : Nat) (t52c : Nat), e52 = .returned (.slice t52a t52n t52c) ∧
                                                                  (Calls Tryd.prog 16 #[(.slice t19a t19n t19c), (.slice t52a t52n t52c)] w25 fun (e53 : Ending) (w26 : World) => ∃ (t53 : Bool), e53 = .returned (.bool t53) ∧
                                                                    ((t53 = true →
                                                                        (Calls Tryd.prog 17 #[(.slice t23_0a t23_0n t23_0c)] w26 fun (e57 : Ending) (w27 : World) => ∃ (t57 : Bool), e57 = .returned (.bool t57) ∧
                                                                          (R (.returned (.bool t57)) w27))) ∧
                                                                      (t53 = false →
                                                                        (R (.returned (.bool false)) w26))))))) ∧
                                                            ((t45 == x10) = false →
                                                              (R (.returned (.bool false)) w24))))) ∧
                                                      (t41 = false →
                                                        (R (.returned (.bool false)) w23))))))) ∧
                                            (t37 = false →
                                              (R (.returned (.bool false)) w23)))))))))))))))))))))))) : Calls Tryd.prog 3 #[(.agg a0)] w R :=
  calls_of_ev (args := [(.agg a0)])
    (tc := .seq (.reg (.op .bx (.op .p (.nil)))) (.seq (.seq (.reg (.op (.cl [.bool]) (.op .p (.nil)))) (.cond (.seq (.reg (.op .p (.nil))) (.leaf)) (.leaf))) (.seq (.seq (.reg (.op (.ld (.agg)) (.op (.cl [.bool]) (.nil)))) (.cond (.seq (.reg (.op .p (.nil))) (.leaf)) (.leaf))) (.seq (.reg (.op .p (.op (.ld (.agg)) (.op (.cl [.agg]) (.op .bx (.op .u (.nil))))))) (.seq (.reg (.op (.ld (.agg)) (.op (.cl [.slice]) (.op .p (.nil))))) (.seq (.reg (.op (.ld (.agg)) (.op .p (.op (.cl [.slice, .agg, .val]) (.op .p (.op .p (.op .p (.op .p (.op .bx (.op .p (.op .u (.op .p (.nil))))))))))))) (.seq (.join [8, 9, 10, 27, 28, 29, 30, 31, 32, 33, 34] [8, 9, 10] [.slice, .ptr, .int .i64] (.drawS (.ts 0 (.agg) (.ts 1 (.agg) (.two 2 (.cl [.slice]) (.two 3 (.cl [.slice, .agg, .int .i64]) (.tk 4 .p (.tk 5 .p (.tk 6 .p (.tk 7 .p (.go 8 .bx (.tk 9 .p (.go 10 .u (.tk 11 .p (.nil))))))))) 8 .bx (.go 3 (.cl [.slice, .agg, .int .i64]) (.tk 4 .p (.tk 5 .p (.tk 6 .p (.tk 7 .p (.tk 9 .p (.go 10 .u (.tk 11 .p (.nil)))))))))) 8 .bx (.go 2 (.cl [.slice]) (.go 3 (.cl [.slice, .agg, .int .i64]) (.tk 4 .p (.tk 5 .p (.tk 6 .p (.tk 7 .p (.tk 9 .p (.go 10 .u (.tk 11 .p (.nil))))))))))))) [5, 6, 7, 9, 10, 11])) (.seq (.reg (.op .p (.op .p (.op (.cl [.bool]) (.op .p (.sp 38 (.op (.ld (.agg)) (.op (.ld (.agg)) (.op (.ld (.bool)) (.op .p (.op .p (.sp 43 (.op .p (.op (.cl [.int .i64]) (.op .p (.op .p (.op .p (.op .p (.sp 49 (.op .p (.op (.ld (.agg)) (.op (.cl [.slice]) (.op (.cl [.bool]) (.op .p (.op .p (.sp 55 (.op .p (.op (.cl [.bool]) (.op .p (.op .p (.nil))))) (.op .p (.op .p (.op .p (.op .p (.nil)))))))))))) (.op .p (.op .p (.op .p (.op .p (.op .p (.op .p (.op .p (.op .p (.op .p (.op .p (.nil)))))))))))))))))) (.op .p (.op .p (.op .p (.op .p (.op .p (.op .p (.op .p (.op .p (.op .p (.op .p (.op .p (.op .p (.op .p (.op .p (.op .p (.op .p (.nil))))))))))))))))))))))) (.op .p (.op .p (.op .p (.op .p (.op .p (.op .p (.op .p (.op .p (.op .p (.op .p (.op .p (.op .p (.op .p (.op .p (.op .p (.op .p (.op .p (.op .p (.op .p (.op .p (.op .p (.nil)))))))))))))))))))))))))))) (.leaf)))))))))
    (by kernel_rfl) Tryd.func3 (by kernel_rfl) (by kernel_rfl) (by kernel_rfl) (by kernel_rfl) h

set_option maxRecDepth 100000 in
theorem amphoralaw15_ManifestCounts_vc (a0 : Int) (w : World) (R : Ending → World → Prop) (h :
  Calls Tryd.prog 8 #[] w fun (e8 : Ending) (w1 : World) => ∃ (t8 : Bool), e8 = .returned (.bool t8) ∧
  (((!t8) = true →
      (R (.returned (.bool false)) w1)) ∧
    ((!t8) = false →
      (Calls Tryd.prog 18 #[(.int .i64 a0)] w1 fun (e12 : Ending) (w2 : World) => ∃ (t12_0 : Int) (t12_1 : Int), e12 = .returned (.tuple #[(.int .i64 t12_0), (.int .i64 t12_1)]) ∧
        ((((decide (a0 < (0 : Int))) || (decide (a0 > (65536 : Int)))) = true →
            (R (.returned (.bool ((t12_0 == (0 : Int)) && (t12_1 == (0 : Int))))) w2)) ∧
          (((decide (a0 < (0 : Int))) || (decide (a0 > (65536 : Int)))) = false →
            (∃ (I : Int → Int → Int → World → Prop) (μ : Int → Int → Int → World → Nat), I 1 (IntKind.wrap .i64 (Int.tdiv (IntKind.wrap .i64 (a0 + (15 : Int))) (16 : Int))) 0 w2 ∧
              (∀ (x5 : Int) (x6 : Int) (x7 : Int), ∀ w3 : World, I x5 x6 x7 w3 →
                (((decide (x6 > (1 : Int))) = true →
                    (I (IntKind.wrap .i64 (x5 + (1 : Int))) (IntKind.wrap .i64 (Int.tdiv (IntKind.wrap .i64 (x6 + (15 : Int))) (16 : Int))) (IntKind.wrap .i64 (x7 + x6)) w3 ∧ μ (IntKind.wrap .i64 (x5 + (1 : Int))) (IntKind.wrap .i64 (Int.tdiv (IntKind.wrap .i64 (x6 + (15 : Int))) (16 : Int))) (IntKind.wrap .i64 (x7 + x6)) w3 < μ x5 x6 x7 w3)) ∧
                  ((decide (x6 > (1 : Int))) = false →
                    (R (.returned (.bool ((t12_0 == (IntKind.wrap .i64 (x7 + (1 : Int)))) && (t12_1 == x5)))) w3))))))))))) : Calls Tryd.prog 4 #[(.int .i64 a0)] w R :=
  calls_of_ev (args := [(.int .i64 a0)])
    (tc := .seq (.reg (.op .p (.nil))) (.seq (.seq (.reg (.op (.cl [.bool]) (.op .p (.nil)))) (.cond (.seq (.reg (.op .p (.nil))) (.leaf)) (.leaf))) (.seq (.reg (.op .p (.op (.cl [.int .i64, .int .i64]) (.op .p (.op .p (.op .p (.op .p (.op .p (.nil))))))))) (.seq (.seq (.reg (.op .p (.op .p (.op .p (.ap 2 (.nil)))))) (.cond (.seq (.reg (.op .p (.op .p (.op .p (.ap 2 (.op .p (.nil))))))) (.leaf)) (.leaf))) (.seq (.reg (.op .p (.op .p (.op .p (.op .p (.op .p (.op .p (.nil)))))))) (.seq (.blk (.loop [5, 6, 7, 30, 31, 32, 33, 34, 35, 36, 37, 38, 39] [5, 6, 7] [.int .i64, .int .i64, .int .i64] (.seq (.seq (.reg (.op .p (.op .p (.nil)))) (.cond (.leaf) (.leaf))) (.blk (.seq (.reg (.op .p (.op .p (.op .p (.op .p (.nil)))))) (.seq (.reg (.op .p (.op .p (.op .p (.op .p (.nil)))))) (.reg (.op .p (.op .p (.op .p (.nil))))))))))) (.seq (.reg (.op .p (.op .p (.op .p (.op .p (.op .p (.ap 3 (.op .p (.nil))))))))) (.leaf))))))))
    (by kernel_rfl) Tryd.func4 (by kernel_rfl) (by kernel_rfl) (by kernel_rfl) (by kernel_rfl) h

set_option maxRecDepth 100000 in
theorem amphoralaw15_ManifestNodes_vc (a0 : Array Value) (w : World) (R : Ending → World → Prop) (h :
  ∃ (g1 : Nat) (w1 : World), (Instr.box 49 (.agg a0)).run Tryd.prog w = .ok (.pointer (some ⟨g1, 0, none⟩)) w1 ∧
  (∃ (t4 : Int), (Instr.loadAt 3 (.pointer (some ⟨g1, 0, none⟩))).run Tryd.prog w1 = .ok (.int .i64 t4) w1 ∧
    (∃ (t6a : Option Addr) (t6n : Nat) (t6c : Nat), (Instr.loadAt 23 (.pointer (some ⟨g1, 1, none⟩))).run Tryd.prog w1 = .ok (.slice t6a t6n t6c) w1 ∧
      (∃ (t8 : Int), (Instr.loadAt 3 (.pointer (some ⟨g1, 2, none⟩))).run Tryd.prog w1 = .ok (.int .i64 t8) w1 ∧
        (∃ (t10 : Int), (Instr.loadAt 5 (.pointer (some ⟨g1, 3, none⟩))).run Tryd.prog w1 = .ok (.int .u8 t10) w1 ∧
          (Calls Tryd.prog 19 #[(.int .i64 t4), (.slice t6a t6n t6c), (.int .i64 t8), (.int .u8 t10)] w1 fun (e11 : Ending) (w2 : World) => ∃ (t11 : Bool), e11 = .returned (.bool t11) ∧
            (R (.returned (.bool t11)) w2))))))) : Calls Tryd.prog 5 #[(.agg a0)] w R :=
  calls_of_ev (args := [(.agg a0)])
    (tc := .seq (.reg (.op .bx (.op .p (.nil)))) (.seq (.reg (.op .p (.op (.ld (.int .i64)) (.op .p (.op (.ld (.slice)) (.op .p (.op (.ld (.int .i64)) (.op .p (.op (.ld (.int .u8)) (.op (.cl [.bool]) (.op .p (.nil)))))))))))) (.leaf)))
    (by kernel_rfl) Tryd.func5 (by kernel_rfl) (by kernel_rfl) (by kernel_rfl) (by kernel_rfl) h

set_option maxRecDepth 100000 in
theorem amphoralaw15_ManifestParses_vc (a0 : Int) (a1a : Option Addr) (a1n : Nat) (a1c : Nat) (w : World) (R : Ending → World → Prop) (h :
  Calls Tryd.prog 8 #[] w fun (e19 : Ending) (w1 : World) => ∃ (t19 : Bool), e19 = .returned (.bool t19) ∧
  (((!t19) = true →
      (R (.returned (.bool false)) w1)) ∧
    ((!t19) = false →
      (∃ J : Bool → World → Prop, (((decide (((a1n : Nat) : Int) > (300 : Int))) = true →
            (J true w1)) ∧
          ((decide (((a1n : Nat) : Int) > (300 : Int))) = false →
            (Calls Tryd.prog 20 #[(.slice a1a a1n a1c), (.int .i64 1048576)] w1 fun (e26 : Ending) (w2 : World) => ∃ (t26 : Int), e26 = .returned (.int .i64 t26) ∧
              (J (decide (t26 > (65536 : Int))) w2)))) ∧
        (∀ (x28 : Bool), ∀ w3 : World, J x28 w3 →
          ((x28 = true →
              (R (.returned (.bool true)) w3)) ∧
            (x28 = false →
              (∃ (t29a : Option Addr) (t29n : Nat) (t29c : Nat) (w4 : World), (Instr.buildSlice 32 0 #[]).run Tryd.prog w3 = .ok (.slice t29a t29n t29c) w4 ∧
                (∃ (I : Option Addr → Nat → Nat → Int → World → Prop) (μ : Option Addr → Nat → Nat → Int → World → Nat), I t29a t29n t29c 0 w4 ∧
                  (∀ (x5a : Option Addr) (x5n : Nat) (x5c : Nat) (x32 : Int), ∀ w5 : World, I x5a x5n x5c x32 w5 →
                    (((decide (x32 < ((a1n : Nat) : Int))) = true →
                        (∃ (t34b t34o : Nat), a1a = some ⟨t34b, t34o, none⟩ ∧ 0 ≤ x32 ∧ x32 < ((a1n : Nat) : Int) ∧
                          (∃ (t35a : Option Addr) (t35n : Nat) (t35c : Nat), (Instr.loadAt 23 (.pointer (some ⟨t34b, t34o + Int.toNat x32 * 1, none⟩))).run Tryd.prog w5 = .ok (.slice t35a t35n t35c) w5 ∧
                            (Calls Tryd.prog 21 #[(.slice t35a t35n t35c)] w5 fun (e37 : Ending) (w6 : World) => ∃ (t37a : Option Addr) (t37n : Nat) (t37c : Nat), e37 = .returned (.slice t37a t37n t37c) ∧
                              (∃ (t40a : Option Addr) (t40n : Nat) (t40c : Nat) (w7 : World), (Instr.buildSlice 32 1 #[(0, (.slice t37a t37n t37c))]).run Tryd.prog w6 = .ok (.slice t40a t40n t40c) w7 ∧
                                (∃ (t41a : Option Addr) (t41n : Nat) (t41c : Nat) (w8 : World), (Builtin.append_ #[32, 32] 32 #[(.slice x5a x5n x5c), (.slice t40a t40n t40c)]).run Tryd.prog w7 = .ok (.slice t41a t41n t41c) w8 ∧
                                  (Calls Tryd.prog 22 #[(.slice t37a t37n t37c)] w8 fun (e44 : Ending) (w9 : World) => ∃ (t44_0 : Int) (t44_1a : Option Addr) (t44_1n : Nat) (t44_1c : Nat) (t44_2 : Value), e44 = .returned (.tuple #[(.int .i64 t44_0), (.slice t44_1a t44_1n t44_1c), t44_2]) ∧
                                    (Calls Tryd.prog 23 #[(.slice t35a t35n t35c)] w9 fun (e50 : Ending) (w10 : World) => ∃ (t50_0 : Int) (t50_1a : Option Addr) (t50_1n : Nat) (t50_1c : Nat) (t50_2 : Int), e50 = .returned (.tuple #[(.int .i64 t50_0), (.slice t50_1a t50_1n t50_1c), (.int .i64 t50_2)]) ∧
                                      (∃ J_1 : Bool → World → Prop, (((t44_0 != t50_0) = true →
                                            (J_1 true w10)) ∧
                                          ((t44_0 != t50_0) = false →
                                            (Calls Tryd.prog 16 #[(.slice t44_1a t44_1n t44_1c), (.slice t50_1a t50_1n t50_1c)] w10 fun (e60 : Ending) (w11 : World) => ∃ (t60 : Bool), e60 = .returned (.bool t60) ∧
                                              (((!t60) = true →
                                                  (J_1 true w11)) ∧
                                                ((!t60) = false →
                                                  (Calls Tryd.prog 15 #[t44_2] w11 fun (e65 : Ending) (w12 : World) => ∃ (t65 : Int), e65 = .returned (.int .i64 t65) ∧
                                                    (J_1 (t65 != t50_2) w12))))))) ∧
                                        (∀ (x68 : Bool), ∀ w13 : World, J_1 x68 w13 →
                                          ((x68 = true →
                                              (R (.returned (.bool false)) w13)) ∧
                                            (x68 = false →
                                              (I t41a t41n t41c (IntKind.wrap .i64 (x32 + (1 : Int))) w13 ∧ μ t41a t41n t41c (IntKind.wrap .i64 (x32 + (1 : Int))) w13 < μ x5a x5n x5c x32 w5))))))))))))) ∧
                      ((decide (x32 < ((a1n : Nat) : Int))) = false →
                        (Calls Tryd.prog 24 #[(.int .i64 a0), (.slice x5a x5n x5c)] w5 fun (e73 : Ending) (w14 : World) => ∃ (t73_0a : Option Addr) (t73_0n : Nat) (t73_0c : Nat) (t73_1 : Value), e73 = .returned (.tuple #[(.slice t73_0a t73_0n t73_0c), t73_1]) ∧
                          (Calls Tryd.prog 25 #[(.int .i64 a0), (.slice a1a a1n a1c)] w14 fun (e79 : Ending) (w15 : World) => ∃ (t79_0a : Option Addr) (t79_0n : Nat) (t79_0c : Nat) (t79_1 : Int), e79 = .returned (.tuple #[(.slice t79_0a t79_0n t79_0c), (.int .i64 t79_1)]) ∧
                            (Calls Tryd.prog 16 #[(.slice t73_0a t73_0n t73_0c), (.slice t79_0a t79_0n t79_0c)] w15 fun (e84 : Ending) (w16 : World) => ∃ (t84 : Bool), e84 = .returned (.bool t84) ∧
                              ((t84 = true →
                                  (Calls Tryd.prog 15 #[t73_1] w16 fun (e87 : Ending) (w17 : World) => ∃ (t87 : Int), e87 = .returned (.int .i64 t87) ∧
                                    (((t87 == t79_1) = true →
                                        (Calls Tryd.prog 14 #[(.slice x5a x5n x5c), (.slice a1a a1n a1c)] w17 fun (e94 : Ending) (w18 : World) => ∃ (t94 : Bool), e94 = .returned (.bool t94) ∧
                                          (R (.returned (.bool t94)) w18))) ∧
                                      ((t87 == t79_1) = false →
                                        (R (.returned (.bool false)) w17))))) ∧
                                (t84 = false →
                                  (R (.returned (.bool false)) w16)))))))))))))))))) : Calls Tryd.prog 6 #[(.int .i64 a0), (.slice a1a a1n a1c)] w R :=
  calls_of_ev (args := [(.int .i64 a0), (.slice a1a a1n a1c)])
    (tc := .seq (.reg (.op .p (.nil))) (.seq (.seq (.reg (.op (.cl [.bool]) (.op .p (.nil)))) (.cond (.seq (.reg (.op .p (.nil))) (.leaf)) (.leaf))) (.seq (.seq (.join [21, 22, 23, 24, 25, 26, 27, 28] [28] [.bool] (.reg (.op .p (.op .p (.op .p (.op .p (.sp 24 (.op .p (.op .p (.op .p (.op .p (.nil))))) (.op .p (.op (.cl [.int .i64]) (.op .p (.op .p (.nil)))))))))))) (.cond (.seq (.reg (.op .p (.nil))) (.leaf)) (.leaf))) (.seq (.reg (.op (.r (.slice)) (.op .p (.nil)))) (.seq (.seq (.reg (.op .p (.op .p (.op .p (.nil))))) (.blk (.loop [4, 5, 7, 8, 9, 10, 11, 12, 13, 14, 32, 33, 34, 35, 36, 37, 38, 39, 40, 41, 42, 43, 44, 45, 46, 47, 48, 49, 50, 51, 52, 53, 54, 55, 56, 57, 58, 59, 60, 61, 62, 63, 64, 65, 66, 67, 68, 69] [5, 32] [.slice, .int .i64] (.seq (.reg (.op .p (.nil))) (.seq (.cond (.leaf) (.leaf)) (.seq (.blk (.seq (.reg (.op .ix (.op (.ld (.slice)) (.op .p (.nil))))) (.seq (.reg (.op .p (.op (.cl [.slice]) (.op .p (.nil))))) (.seq (.reg (.op .p (.op .p (.op (.r (.slice)) (.op (.r (.slice)) (.op .p (.nil))))))) (.seq (.reg (.op .p (.op (.cl [.int .i64, .slice, .val]) (.op .p (.op .p (.op .p (.op .p (.op .p (.op .p (.op .p (.nil))))))))))) (.seq (.reg (.op .p (.op (.cl [.int .i64, .slice, .int .i64]) (.op .p (.op .p (.op .p (.op .p (.op .p (.op .p (.op .p (.nil))))))))))) (.seq (.join [54, 55, 56, 57, 58, 59, 60, 61, 62, 63, 64, 65, 66, 67, 68] [68] [.bool] (.reg (.op .p (.op .p (.op .p (.op .p (.sp 57 (.op .p (.op .p (.op .p (.op .p (.op .p (.op .p (.op .p (.op .p (.op .p (.op .p (.op .p (.nil)))))))))))) (.op .p (.op .p (.op (.cl [.bool]) (.op .p (.op .p (.op .p (.sp 63 (.op .p (.op .p (.op .p (.op .p (.op .p (.nil)))))) (.op .p (.op (.cl [.int .i64]) (.op .p (.op .p (.op .p (.nil)))))))))))))))))))) (.cond (.seq (.reg (.op .p (.nil))) (.leaf)) (.leaf))))))))) (.reg (.op .p (.op .p (.nil)))))))))) (.seq (.reg (.op .p (.op .p (.op (.cl [.slice, .val]) (.op .p (.op .p (.op .p (.op .p (.op .p (.nil)))))))))) (.seq (.reg (.op .p (.op .p (.op (.cl [.slice, .int .i64]) (.op .p (.op .p (.op .p (.op .p (.op .p (.nil)))))))))) (.seq (.reg (.op .p (.op .p (.op (.cl [.bool]) (.op .p (.sp 85 (.op .p (.op (.cl [.int .i64]) (.op .p (.op .p (.op .p (.op .p (.sp 91 (.op .p (.op .p (.op (.cl [.bool]) (.op .p (.op .p (.nil)))))) (.op .p (.op .p (.op .p (.op .p (.op .p (.nil))))))))))))) (.op .p (.op .p (.op .p (.op .p (.op .p (.op .p (.op .p (.op .p (.op .p (.op .p (.op .p (.nil)))))))))))))))))) (.leaf)))))))))
    (by kernel_rfl) Tryd.func6 (by kernel_rfl) (by kernel_rfl) (by kernel_rfl) (by kernel_rfl) h

set_option maxRecDepth 100000 in
theorem amphoralaw15_ManifestWalks_vc (a0 : Array Value) (w : World) (R : Ending → World → Prop) (h :
  ∃ (g1 : Nat) (w1 : World), (Instr.box 25 (.agg a0)).run Tryd.prog w = .ok (.pointer (some ⟨g1, 0, none⟩)) w1 ∧
  (Calls Tryd.prog 8 #[] w1 fun (e18 : Ending) (w2 : World) => ∃ (t18 : Bool), e18 = .returned (.bool t18) ∧
    (((!t18) = true →
        (R (.returned (.bool false)) w2)) ∧
      ((!t18) = false →
        (∃ (t20 : Array Value), (Instr.loadAt 25 (.pointer (some ⟨g1, 0, none⟩))).run Tryd.prog w2 = .ok (.agg t20) w2 ∧
          (Calls Tryd.prog 9 #[(.agg t20)] w2 fun (e21 : Ending) (w3 : World) => ∃ (t21 : Bool), e21 = .returned (.bool t21) ∧
            ((t21 = true →
                (R (.returned (.bool true)) w3)) ∧
              (t21 = false →
                (∃ (t23 : Array Value), (Instr.loadAt 22 (.pointer (some ⟨g1, 0, none⟩))).run Tryd.prog w3 = .ok (.agg t23) w3 ∧
                  (Calls Tryd.prog 10 #[(.agg t23)] w3 fun (e24 : Ending) (w4 : World) => ∃ (t24 : Array Value), e24 = .returned (.agg t24) ∧
                    (∃ (g3 : Nat) (w5 : World), (Instr.alloc 28 true (.tuple #[])).run Tryd.prog w4 = .ok (.pointer (some ⟨g3, 0, none⟩)) w5 ∧
                      (∃ w6 : World, (Instr.storeAt 28 (.pointer (some ⟨g3, 0, none⟩)) (.agg t24)).run Tryd.prog w5 = .ok () w6 ∧
                        (∃ (t25 : Array Value), (Instr.loadAt 25 (.pointer (some ⟨g1, 0, none⟩))).run Tryd.prog w6 = .ok (.agg t25) w6 ∧
                          (Calls Tryd.prog 11 #[(.agg t25)] w6 fun (e26 : Ending) (w7 : World) => ∃ (t26a : Option Addr) (t26n : Nat) (t26c : Nat), e26 = .returned (.slice t26a t26n t26c) ∧
                            (∃ (t28 : Array Value), (Instr.loadAt 28 (.pointer (some ⟨g3, 0, none⟩))).run Tryd.prog w7 = .ok (.agg t28) w7 ∧
                              (Calls Tryd.prog 12 #[(.agg t28), (.slice t26a t26n t26c)] w7 fun (e30 : Ending) (w8 : World) => ∃ (t30_0a : Option Addr) (t30_0n : Nat) (t30_0c : Nat) (t30_1 : Array Value) (t30_2 : Value), e30 = .returned (.tuple #[(.slice t30_0a t30_0n t30_0c), (.agg t30_1), t30_2]) ∧
                                (∃ (g6 : Nat) (w9 : World), (Instr.alloc 33 true (.tuple #[])).run Tryd.prog w8 = .ok (.pointer (some ⟨g6, 0, none⟩)) w9 ∧
                                  (∃ w10 : World, (Instr.storeAt 33 (.pointer (some ⟨g6, 0, none⟩)) (.agg t30_1)).run Tryd.prog w9 = .ok () w10 ∧
                                    (Calls Tryd.prog 18 #[(.int .i64 ((t26n : Nat) : Int))] w10 fun (e37 : Ending) (w11 : World) => ∃ (t37_0 : Int) (t37_1 : Int), e37 = .returned (.tuple #[(.int .i64 t37_0), (.int .i64 t37_1)]) ∧
                                      (∃ (t41 : Bool), (eqlS .neq 35 (.tmp 40) (.const .nilIface) t30_2 .nilIface).run Tryd.prog w11 = .ok (.bool t41) w11 ∧
                                        ((((t41 || (((t30_0n : Nat) : Int) != t37_0)) || (decide (t37_1 < (1 : Int)))) = true →
                                            (R (.returned (.bool false)) w11)) ∧
                                          (((t41 || (((t30_0n : Nat) : Int) != t37_0)) || (decide (t37_1 < (1 : Int)))) = false →
                                            (∃ (t54 : Array Value), (Instr.loadAt 33 (.pointer (some ⟨g6, 0, none⟩))).run Tryd.prog w11 = .ok (.agg t54) w11 ∧
                                              (∃ (t55a : Option Addr) (t55n : Nat) (t55c : Nat) (w12 : World), (Instr.buildSlice 30 1 #[(0, (.agg t54))]).run Tryd.prog w11 = .ok (.slice t55a t55n t55c) w12 ∧
                                                (∃ (I : Int → Option Addr → Nat → Nat → Int → World → Prop) (μ : Int → Option Addr → Nat → Nat → Int → World → Nat), I ((t30_0n : Nat) : Int) t55a t55n t55c (IntKind.wrap .i64 (t37_1 - (1 : Int))) w12 ∧
                                                  (∀ (x10 : Int) (x11a : Option Addr) (x11n : Nat) (x11c : Nat) (x12 : Int), ∀ w13 : World, I x10 x11a x11n x11c x12 w13 →
                                                    (((decide (x12 ≥ (0 : Int))) = true →
                                                        (((decide ((IntKind.wrap .i64 (x10 - ((x11n : Nat) : Int))) < (0 : Int))) = true →
                                                            (R (.returned (.bool false)) w13)) ∧
                                                          ((decide ((IntKind.wrap .i64 (x10 - ((x11n : Nat) : Int))) < (0 : Int))) = false →
                                                            (0 ≤ (IntKind.wrap .i64 (x10 - ((x11n : Nat) : Int))) ∧ (IntKind.wrap .i64 (x10 - ((x11n : Nat) : Int))) ≤ (IntKind.wrap .i64 ((IntKind.wrap .i64 (x10 - ((x11n : Nat) : Int))) + ((x11n : Nat) : Int))) ∧ (IntKind.wrap .i64 ((IntKind.wrap .i64 (x10 - ((x11n : Nat) : Int))) + ((x11n : Nat) : Int))) ≤ ((t30_0c : Nat) : Int) ∧ ∀ t74a : Option Addr, SubA 1 t30_0a (Int.toNat (IntKind.wrap .i64 (x10 - ((x11n : Nat) : Int)))) t30_0c t74a →
                                                              (∃ (I_1 : Int → World → Prop) (μ_1 : Int → World → Nat), I_1 0 w13 ∧
                                                                (∀ (x77 : Int), ∀ w14 : World, I_1 x77 w14 →
                                                                  (((decide (x77 < ((((Int.toNat (IntKind.wrap .i64 ((IntKind.wrap .i64 (x10 - ((x11n : Nat) : Int))) + ((x11n : Nat) : Int)))) - (Int.toNat (IntKind.wrap .i64 (x10 - ((x11n : Nat) : Int))))) : Nat) : Int))) = true →
                                                                      (∃ (t80b t80o : Nat), t74a = some ⟨t80b, t80o, none⟩ ∧ 0 ≤ x77 ∧ x77 < ((((Int.toNat (IntKind.wrap .i64 ((IntKind.wrap .i64 (x10 - ((x11n : Nat) : Int))) + ((x11n : Nat) : Int)))) - (Int.toNat (IntKind.wrap .i64 (x10 - ((x11n : Nat) : Int))))) : Nat) : Int) ∧
                                                                        (∃ (t81a : Option Addr) (t81n : Nat) (t81c : Nat), (Instr.loadAt 23 (.pointer (some ⟨t80b, t80o + Int.toNat x77 * 1, none⟩))).run Tryd.prog w14 = .ok (.slice t81a t81n t81c) w14 ∧
                                                                          (∃ S : World → Prop, S w14.drew ∧
                                                                            (∃ (t87b t87o : Nat), x11a = some ⟨t87b, t87o, none⟩ ∧ 0 ≤ x77 ∧ x77 < ((x11n : Nat) : Int) ∧
                                                                              (∃ (t82 : Array Value), (∀ w' : World, S w' → (Instr.loadAt 28 (.pointer (some ⟨g3, 0, none⟩))).run Tryd.prog w' = .ok (.agg t82) w') ∧
                                                                                (∃ (t88 : Array Value), (∀ w' : World, S w' → (Instr.loadAt 33 (.pointer (some ⟨t87b, t87o + Int.toNat x77 * 32, none⟩))).run Tryd.prog w' = .ok (.agg t88) w') ∧
                                                                                (Calls Tryd.prog 26 #[(.agg t82), (.slice t81a t81n t81c)] w14.drew fun (e84 : Ending) (w15 : World) => ∃ (t84 : Array Value), e84 = .returned (.agg t84) ∧
                                                                                (∃ S_1 : World → Prop, (∀ w' : World, S_1 w' → S w') ∧ S_1 w15 ∧
                                                                                (∃ (t89 : Bool), (∀ w' : World, S_1 w' → (eqlS .neq 33 (.tmp 84) (.tmp 88) (.agg t84) (.agg t88)).run Tryd.prog w' = .ok (.bool t89) w') ∧
                                                                                ((t89 = true →
                                                                                (R (.returned (.bool false)) w15)) ∧
                                                                                (t89 = false →
                                                                                (I_1 (IntKind.wrap .i64 (x77 + (1 : Int))) w15 ∧ μ_1 (IntKind.wrap .i64 (x77 + (1 : Int))) w15 < μ_1 x77 w14))))))))))))) ∧
                                                                    ((decide (x77 < ((((Int.toNat (IntKind.wrap .i64 ((IntKind.wrap .i64 (x10 - ((x11n : Nat) : Int))) + ((x11n : Nat) : Int)))) - (Int.toNat (IntKind.wrap .i64 (x10 - ((x11n : Nat) : Int))))) : Nat) : Int))) = false →
                                                                      (Calls Tryd.prog 24 #[(.int .i64 x12), (.slice t74a ((Int.toNat (IntKind.wrap .i64 ((IntKind.wrap .i64 (x10 - ((x11n : Nat) : Int))) + ((x11n : Nat) : Int)))) - (Int.toNat (IntKind.wrap .i64 (x10 - ((x11n : Nat) : Int))))) (t30_0c - (Int.toNat (IntKind.wrap .i64 (x10 - ((x11n : Nat) : Int))))))] w14 fun (e94 : Ending) (w16 : World) => ∃ (t94_0a : Option Addr) (t94_0n : Nat) (t94_0c : Nat) (t94_1 : Value), e94 = .returned (.tuple #[(.slice t94_0a t94_0n t94_0c), t94_1]) ∧
                                                                        (∃ (t98 : Bool), (eqlS .neq 35 (.tmp 97) (.const .nilIface) t94_1 .nilIface).run Tryd.prog w16 = .ok (.bool t98) w16 ∧
                                                                          ((t98 = true →
                                                                              (R (.returned (.bool false)) w16)) ∧
                                                                            (t98 = false →
                                                                              (I (IntKind.wrap .i64 (x10 - ((x11n : Nat) : Int))) t94_0a t94_0n t94_0c (IntKind.wrap .i64 (x12 - (1 : Int))) w16 ∧ μ (IntKind.wrap .i64 (x10 - ((x11n : Nat) : Int))) t94_0a t94_0n t94_0c (IntKind.wrap .i64 (x12 - (1 : Int))) w16 < μ x10 x11a x11n x11c x12 w13))))))))))))) ∧
                                                      ((decide (x12 ≥ (0 : Int))) = false →
                                                        (((x10 == (0 : Int)) = true →
                                                            (Calls Tryd.prog 16 #[(.slice x11a x11n x11c), (.slice t26a t26n t26c)] w13 fun (e105 : Ending) (w17 : World) => ∃ (t105 : Bool), e105 = .returned (.bool t105) ∧
                                                              (R (.returned (.bool t105)) w17))) ∧
                                                          ((x10 == (0 : Int)) = false →
                                                            (R (.returned (.bool false)) w13))))))))))))))))))))))))))))))) : Calls Tryd.prog 7 #[(.agg a0)] w R :=
  calls_of_ev (args := [(.agg a0)])
    (tc := .seq (.reg (.op .bx (.op .p (.nil)))) (.seq (.seq (.reg (.op (.cl [.bool]) (.op .p (.nil)))) (.cond (.seq (.reg (.op .p (.nil))) (.leaf)) (.leaf))) (.seq (.seq (.reg (.op (.ld (.agg)) (.op (.cl [.bool]) (.nil)))) (.cond (.seq (.reg (.op .p (.nil))) (.leaf)) (.leaf))) (.seq (.reg (.op .p (.op (.ld (.agg)) (.op (.cl [.agg]) (.op .bx (.op .u (.nil))))))) (.seq (.reg (.op (.ld (.agg)) (.op (.cl [.slice]) (.op .p (.nil))))) (.seq (.reg (.op (.ld (.agg)) (.op .p (.op (.cl [.slice, .agg, .val]) (.op .p (.op .p (.op .p (.op .p (.op .bx (.op .p (.op .u (.op .p (.nil))))))))))))) (.seq (.reg (.op .p (.op .p (.op (.cl [.int .i64, .int .i64]) (.op .p (.op .p (.op .p (.op .p (.op .p (.nil)))))))))) (.seq (.seq (.reg (.op .p (.op (.ld (.bool)) (.op .p (.ap 4 (.op .p (.ap 2 (.nil)))))))) (.cond (.seq (.reg (.op .p (.nil))) (.leaf)) (.leaf))) (.seq (.reg (.op .p (.op .p (.op .p (.nil))))) (.seq (.reg (.op (.ld (.agg)) (.op (.r (.slice)) (.op .p (.nil))))) (.seq (.seq (.reg (.op .p (.op .p (.op .p (.nil))))) (.blk (.loop [2, 10, 11, 12, 13, 14, 15, 16, 17, 58, 59, 60, 61, 62, 63, 64, 65, 66, 67, 68, 69, 70, 71, 72, 73, 74, 75, 76, 77, 78, 79, 80, 81, 82, 83, 84, 85, 86, 87, 88, 89, 90, 91, 92, 93, 94, 95, 96, 97, 98, 99] [10, 11, 12] [.int .i64, .slice, .int .i64] (.seq (.seq (.reg (.op .p (.op .p (.nil)))) (.cond (.leaf) (.leaf))) (.seq (.blk (.seq (.reg (.op .p (.op .p (.op .p (.op .p (.op .p (.nil))))))) (.seq (.seq (.reg (.op .p (.op .p (.nil)))) (.cond (.seq (.reg (.op .p (.nil))) (.leaf)) (.leaf))) (.seq (.reg (.op .p (.op .p (.op .p (.op .p (.op .p (.op .p (.op .sl (.op .p (.nil)))))))))) (.seq (.seq (.reg (.op .p (.op .p (.op .p (.nil))))) (.blk (.loop [2, 14, 15, 77, 78, 79, 80, 81, 82, 83, 84, 85, 86, 87, 88, 89, 90] [77] [.int .i64] (.seq (.reg (.op .p (.nil))) (.seq (.cond (.leaf) (.leaf)) (.seq (.blk (.seq (.reg (.op .p (.op .ix (.op (.ld (.slice)) (.op .p (.op .p (.nil))))))) (.seq (.drawS (.tk 1 .p (.tk 3 .p (.tk 4 .p (.tk 5 .ix (.ts 0 (.agg) (.ts 6 (.agg) (.go 2 (.cl [.agg]) (.ts 7 (.bool) (.nil))))))))) []) (.cond (.seq (.reg (.op .p (.nil))) (.leaf)) (.leaf))))) (.reg (.op .p (.op .p (.nil)))))))))) (.seq (.reg (.op .p (.op .p (.op (.cl [.slice, .val]) (.op .p (.op .p (.op .p (.op .p (.op .p (.nil)))))))))) (.seq (.seq (.reg (.op .p (.op (.ld (.bool)) (.nil)))) (.cond (.seq (.reg (.op .p (.nil))) (.leaf)) (.leaf))) (.reg (.op .p (.op .p (.nil))))))))))) (.reg (.op .p (.op .p (.op .p (.nil)))))))))) (.seq (.reg (.op .p (.op .p (.op .p (.sp 102 (.op .p (.op .p (.op (.cl [.bool]) (.op .p (.op .p (.nil)))))) (.op .p (.op .p (.op .p (.op .p (.op .p (.nil))))))))))) (.leaf)))))))))))))
    (by kernel_rfl) Tryd.func7 (by kernel_rfl) (by kernel_rfl) (by kernel_rfl) (by kernel_rfl) h

end Go.Proofs.YtefnlbgkfingfaaDoor
