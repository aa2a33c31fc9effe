/- Verification conditions of functions, printed by the session's own program vc.py: out of each, Calls (conditions: none). -/
import Derived.Test.YtoijbpkplegnkaaRows
import Derived.Test.YtoijbpkplegnkaaSxRun
namespace Go.Proofs.Ytoijbpkplegnkaa
open Go Go.Proofs.Ytoijbpkplegnkaa.Sx

set_option maxRecDepth 100000 in
theorem amphoranum_Texts_vc (a0a : Option Addr) (a0n : Nat) (a0c : Nat) (a1a : Option Addr) (a1n : Nat) (a1c : Nat) (w : World) (R : Ending → World → Prop) (h :
  ((((a0n : Nat) : Int) != ((a1n : Nat) : Int)) = true →
    (R (.returned (.bool false)) w)) ∧
  ((((a0n : Nat) : Int) != ((a1n : Nat) : Int)) = false →
    (∃ (I : Int → World → Prop) (μ : Int → World → Nat), I 0 w ∧
      (∀ (x13 : Int), ∀ w1 : World, I x13 w1 →
        (((decide (x13 < ((a0n : Nat) : Int))) = true →
            (∃ S : World → Prop, S w1.drew ∧
              (∃ (t18b t18o : Nat), a0a = some ⟨t18b, t18o, none⟩ ∧ 0 ≤ x13 ∧ x13 < ((a0n : Nat) : Int) ∧
                (∃ (t22b t22o : Nat), a1a = some ⟨t22b, t22o, none⟩ ∧ 0 ≤ x13 ∧ x13 < ((a1n : Nat) : Int) ∧
                  (∃ (t19 : ByteArray), (∀ w' : World, S w' → (Instr.loadAt 9 (.pointer (some ⟨t18b, t18o + Int.toNat x13 * 1, none⟩))).run Try.prog w' = .ok (.string t19) w') ∧
                    (∃ (t23 : ByteArray), (∀ w' : World, S w' → (Instr.loadAt 9 (.pointer (some ⟨t22b, t22o + Int.toNat x13 * 1, none⟩))).run Try.prog w' = .ok (.string t23) w') ∧
                      (((!(t19.toList == t23.toList)) = true →
                          (R (.returned (.bool false)) w1.drew)) ∧
                        ((!(t19.toList == t23.toList)) = false →
                          (I (IntKind.wrap .i64 (x13 + (1 : Int))) w1.drew ∧ μ (IntKind.wrap .i64 (x13 + (1 : Int))) w1.drew < μ x13 w1))))))))) ∧
          ((decide (x13 < ((a0n : Nat) : Int))) = false →
            (R (.returned (.bool true)) w1))))))) : Calls Try.prog 20 #[(.slice a0a a0n a0c), (.slice a1a a1n a1c)] w R :=
  calls_of_ev (args := [(.slice a0a a0n a0c), (.slice a1a a1n a1c)])
    (tc := .seq (.reg (.op .p (.nil))) (.seq (.seq (.reg (.op .p (.op .p (.op .p (.op .p (.op .p (.nil))))))) (.cond (.seq (.reg (.op .p (.nil))) (.leaf)) (.leaf))) (.seq (.seq (.reg (.op .p (.op .p (.op .p (.nil))))) (.blk (.loop [4, 5, 13, 14, 15, 16, 17, 18, 19, 20, 21, 22, 23, 24, 25] [13] [.int .i64] (.seq (.reg (.op .p (.nil))) (.seq (.cond (.leaf) (.leaf)) (.seq (.blk (.seq (.reg (.op .p (.op .p (.nil)))) (.seq (.drawS (.tk 0 .p (.tk 1 .p (.tk 2 .ix (.tk 4 .p (.tk 5 .p (.tk 6 .ix (.ts 3 (.str) (.ts 7 (.str) (.tk 8 .p (.nil)))))))))) []) (.cond (.seq (.reg (.op .p (.nil))) (.leaf)) (.leaf))))) (.reg (.op .p (.op .p (.nil)))))))))) (.seq (.reg (.op .p (.nil))) (.leaf)))))
    (by kernel_rfl) Try.func20 (by kernel_rfl) (by kernel_rfl) (by kernel_rfl) (by kernel_rfl) h

set_option maxRecDepth 100000 in
theorem amphoranum_Files_vc (a0a : Option Addr) (a0n : Nat) (a0c : Nat) (a1a : Option Addr) (a1n : Nat) (a1c : Nat) (w : World) (R : Ending → World → Prop) (h :
  ((((a0n : Nat) : Int) != ((a1n : Nat) : Int)) = true →
    (R (.returned (.bool false)) w)) ∧
  ((((a0n : Nat) : Int) != ((a1n : Nat) : Int)) = false →
    (∃ (I : Int → World → Prop) (μ : Int → World → Nat), I 0 w ∧
      (∀ (x13 : Int), ∀ w1 : World, I x13 w1 →
        (((decide (x13 < ((a0n : Nat) : Int))) = true →
            (∃ J : Bool → World → Prop, (∃ S : World → Prop, S w1.drew ∧
                (∃ (t18b t18o : Nat), a0a = some ⟨t18b, t18o, none⟩ ∧ 0 ≤ x13 ∧ x13 < ((a0n : Nat) : Int) ∧
                  (∃ (t23b t23o : Nat), a1a = some ⟨t23b, t23o, none⟩ ∧ 0 ≤ x13 ∧ x13 < ((a1n : Nat) : Int) ∧
                    (∃ (t20 : ByteArray), (∀ w' : World, S w' → (Instr.loadAt 9 (.pointer (some ⟨t18b, t18o + Int.toNat x13 * 2, none⟩))).run Try.prog w' = .ok (.string t20) w') ∧
                      (∃ (t25 : ByteArray), (∀ w' : World, S w' → (Instr.loadAt 9 (.pointer (some ⟨t23b, t23o + Int.toNat x13 * 2, none⟩))).run Try.prog w' = .ok (.string t25) w') ∧
                        (((!(t20.toList == t25.toList)) = true →
                            (J true w1.drew)) ∧
                          ((!(t20.toList == t25.toList)) = false →
                            (∃ (t30b t30o : Nat), a0a = some ⟨t30b, t30o, none⟩ ∧ 0 ≤ x13 ∧ x13 < ((a0n : Nat) : Int) ∧
                              (∃ (t36b t36o : Nat), a1a = some ⟨t36b, t36o, none⟩ ∧ 0 ≤ x13 ∧ x13 < ((a1n : Nat) : Int) ∧
                                (∃ (t32a : Option Addr) (t32n : Nat) (t32c : Nat), (∀ w' : World, S w' → (Instr.loadAt 22 (.pointer (some ⟨t30b, t30o + Int.toNat x13 * 2 + 1, none⟩))).run Try.prog w' = .ok (.slice t32a t32n t32c) w') ∧
                                  (∃ (t33 : ByteArray), (∀ w' : World, S w' → (convert 22 9 (.slice t32a t32n t32c)).run Try.prog w' = .ok (.string t33) w') ∧
                                    (∃ (t38a : Option Addr) (t38n : Nat) (t38c : Nat), (∀ w' : World, S w' → (Instr.loadAt 22 (.pointer (some ⟨t36b, t36o + Int.toNat x13 * 2 + 1, none⟩))).run Try.prog w' = .ok (.slice t38a t38n t38c) w') ∧
                                      (∃ (t39 : ByteArray), (∀ w' : World, S w' → (convert 22 9 (.slice t38a t38n t38c)).run Try.prog w' = .ok (.string t39) w') ∧
                                        (J (!(t33.toList == t39.toList)) w1.drew)))))))))))))) ∧
              (∀ (x41 : Bool), ∀ w2 : World, J x41 w2 →
                ((x41 = true →
                    (R (.returned (.bool false)) w2)) ∧
                  (x41 = false →
                    (I (IntKind.wrap .i64 (x13 + (1 : Int))) w2 ∧ μ (IntKind.wrap .i64 (x13 + (1 : Int))) w2 < μ x13 w1)))))) ∧
          ((decide (x13 < ((a0n : Nat) : Int))) = false →
            (R (.returned (.bool true)) w1))))))) : Calls Try.prog 26 #[(.slice a0a a0n a0c), (.slice a1a a1n a1c)] w R :=
  calls_of_ev (args := [(.slice a0a a0n a0c), (.slice a1a a1n a1c)])
    (tc := .seq (.reg (.op .p (.nil))) (.seq (.seq (.reg (.op .p (.op .p (.op .p (.op .p (.op .p (.nil))))))) (.cond (.seq (.reg (.op .p (.nil))) (.leaf)) (.leaf))) (.seq (.seq (.reg (.op .p (.op .p (.op .p (.nil))))) (.blk (.loop [4, 5, 13, 14, 15, 16, 17, 18, 19, 20, 21, 22, 23, 24, 25, 26, 27, 28, 29, 30, 31, 32, 33, 34, 35, 36, 37, 38, 39, 40, 41, 42] [13] [.int .i64] (.seq (.reg (.op .p (.nil))) (.seq (.cond (.leaf) (.leaf)) (.seq (.blk (.seq (.reg (.op .p (.op .p (.nil)))) (.seq (.join [16, 17, 18, 19, 20, 21, 22, 23, 24, 25, 26, 27, 28, 29, 30, 31, 32, 33, 34, 35, 36, 37, 38, 39, 40, 41] [41] [.bool] (.drawS (.tk 0 .p (.tk 1 .p (.tk 2 .ix (.tk 3 .p (.tk 5 .p (.tk 6 .p (.tk 7 .ix (.tk 8 .p (.ts 4 (.str) (.ts 9 (.str) (.tk 10 .p (.tk 11 .p (.sp 27 (.tk 12 .p (.tk 13 .p (.tk 14 .p (.tk 15 .p (.tk 18 .p (.tk 19 .p (.tk 20 .p (.tk 21 .p (.ts 16 .val (.ts 17 .val (.ts 22 .val (.ts 23 .val (.tk 24 .p (.tk 25 .p (.nil))))))))))))))) (.tk 12 .p (.tk 13 .p (.tk 14 .ix (.tk 15 .p (.tk 18 .p (.tk 19 .p (.tk 20 .ix (.tk 21 .p (.ts 16 (.slice) (.ts 17 (.str) (.ts 22 (.slice) (.ts 23 (.str) (.tk 24 .p (.tk 25 .p (.nil)))))))))))))))))))))))))))) [])) (.cond (.seq (.reg (.op .p (.nil))) (.leaf)) (.leaf))))) (.reg (.op .p (.op .p (.nil)))))))))) (.seq (.reg (.op .p (.nil))) (.leaf)))))
    (by kernel_rfl) Try.func26 (by kernel_rfl) (by kernel_rfl) (by kernel_rfl) (by kernel_rfl) h

set_option maxRecDepth 100000 in
theorem amphoralaw01_alive_vc  (w : World) (R : Ending → World → Prop) (h :
  Calls Try.prog 9 #[(.int .i64 10)] w fun (e5 : Ending) (w1 : World) => ∃ (t5_0 : Value) (t5_1 : Value), e5 = .returned (.tuple #[t5_0, t5_1]) ∧
  (∃ J : Bool → World → Prop, (∃ (t9 : Bool), (eqlS .neq 26 (.tmp 8) (.const .nilIface) t5_1 .nilIface).run Try.prog w1 = .ok (.bool t9) w1 ∧
      ((t9 = true →
          (J true w1)) ∧
        (t9 = false →
          (∃ (t12 : Bool), (eqlS .eql 24 (.tmp 11) (.const (.pointer none)) t5_0 (.pointer none)).run Try.prog w1 = .ok (.bool t12) w1 ∧
            ((t12 = true →
                (J true w1)) ∧
              (t12 = false →
                (Calls Try.prog 10 #[t5_0, (.string (ByteArray.mk #[97]))] w1 fun (e16 : Ending) (w2 : World) => ∃ (t16 : Value), e16 = .returned t16 ∧
                  (∃ (t17 : Bool), (eqlS .neq 26 (.tmp 16) (.const .nilIface) t16 .nilIface).run Try.prog w2 = .ok (.bool t17) w2 ∧
                    ((t17 = true →
                        (J true w2)) ∧
                      (t17 = false →
                        (∃ (t21a : Option Addr) (t21n : Nat) (t21c : Nat) (w3 : World), (Instr.buildSlice 22 2 #[(0, (.int .u8 104)), (1, (.int .u8 101))]).run Try.prog w2 = .ok (.slice t21a t21n t21c) w3 ∧
                          (∃ (t22a : Option Addr) (t22n : Nat) (t22c : Nat) (w4 : World), (convert 22 22 (.slice t21a t21n t21c)).run Try.prog w3 = .ok (.slice t22a t22n t22c) w4 ∧
                            (∃ (t23a : Option Addr) (t23n : Nat) (t23c : Nat) (w5 : World), (Instr.buildSlice 22 3 #[(0, (.int .u8 108)), (1, (.int .u8 108)), (2, (.int .u8 111))]).run Try.prog w4 = .ok (.slice t23a t23n t23c) w5 ∧
                              (∃ (t24a : Option Addr) (t24n : Nat) (t24c : Nat) (w6 : World), (convert 22 22 (.slice t23a t23n t23c)).run Try.prog w5 = .ok (.slice t24a t24n t24c) w6 ∧
                                (∃ (t25a : Option Addr) (t25n : Nat) (t25c : Nat) (w7 : World), (Instr.buildSlice 44 2 #[(0, (.slice t22a t22n t22c)), (1, (.slice t24a t24n t24c))]).run Try.prog w6 = .ok (.slice t25a t25n t25c) w7 ∧
                                  (Calls Try.prog 12 #[t5_0, (.string (ByteArray.mk #[97])), (.slice t25a t25n t25c)] w7 fun (e26 : Ending) (w8 : World) => ∃ (t26 : Value), e26 = .returned t26 ∧
                                    (∃ (t27 : Bool), (eqlS .neq 26 (.tmp 26) (.const .nilIface) t26 .nilIface).run Try.prog w8 = .ok (.bool t27) w8 ∧
                                      ((t27 = true →
                                          (J true w8)) ∧
                                        (t27 = false →
                                          (Calls Try.prog 31 #[t5_0, (.string (ByteArray.mk #[97]))] w8 fun (e31 : Ending) (w9 : World) => ∃ (t31 : Value), e31 = .returned t31 ∧
                                            (∃ (t32 : Bool), (eqlS .neq 26 (.tmp 31) (.const .nilIface) t31 .nilIface).run Try.prog w9 = .ok (.bool t32) w9 ∧
                                              ((t32 = true →
                                                  (J true w9)) ∧
                                                (t32 = false →
                                                  (Calls Try.prog 32 #[t5_0] w9 fun (e36 : Ending) (w10 : World) => ∃ (t36 : Value), e36 = .returned t36 ∧
                                                    (∃ (t37 : Bool), (eqlS .neq 26 (.tmp 36) (.const .nilIface) t36 .nilIface).run Try.prog w10 = .ok (.bool t37) w10 ∧
                                                      ((t37 = true →
                                                          (J true w10)) ∧
                                                        (t37 = false →
                                                          (Calls Try.prog 10 #[t5_0, (.string (ByteArray.mk #[98]))] w10 fun (e41 : Ending) (w11 : World) => ∃ (t41 : Value), e41 = .returned t41 ∧
                                                            (∃ (t42 : Bool), (eqlS .neq 26 (.tmp 41) (.const .nilIface) t41 .nilIface).run Try.prog w11 = .ok (.bool t42) w11 ∧
                                                              (J t42 w11)))))))))))))))))))))))))))))) ∧
    (∀ (x43 : Bool), ∀ w12 : World, J x43 w12 →
      ((x43 = true →
          (R (.returned (.bool false)) w12)) ∧
        (x43 = false →
          (∃ (t45 : Array Value), (Instr.build 50 #[]).run Try.prog w12 = .ok (.agg t45) w12 ∧
            (Calls Try.prog 25 #[t5_0, (.agg t45)] w12 fun (e46 : Ending) (w13 : World) => e46 = .returned (.tuple #[]) ∧
              (Calls Try.prog 15 #[t5_0, (.string (ByteArray.mk #[97]))] w13 fun (e49 : Ending) (w14 : World) => ∃ (t49_0a : Option Addr) (t49_0n : Nat) (t49_0c : Nat) (t49_1 : Value), e49 = .returned (.tuple #[(.slice t49_0a t49_0n t49_0c), t49_1]) ∧
                (∃ (t53 : Bool), (eqlS .eql 26 (.tmp 52) (.const .nilIface) t49_1 .nilIface).run Try.prog w14 = .ok (.bool t53) w14 ∧
                  ((t53 = true →
                      (∃ (t56 : ByteArray), (convert 22 9 (.slice t49_0a t49_0n t49_0c)).run Try.prog w14 = .ok (.string t56) w14 ∧
                        (((t56.toList == (ByteArray.mk #[104, 101, 108, 108, 111]).toList) = true →
                            (Calls Try.prog 18 #[t5_0] w14 fun (e61 : Ending) (w15 : World) => ∃ (t61a : Option Addr) (t61n : Nat) (t61c : Nat), e61 = .returned (.slice t61a t61n t61c) ∧
                              (((((t61n : Nat) : Int) == (1 : Int)) = true →
                                  (Calls Try.prog 23 #[t5_0] w15 fun (e67 : Ending) (w16 : World) => ∃ (t67 : Int), e67 = .returned (.int .i64 t67) ∧
                                    (R (.returned (.bool (t67 == (5 : Int)))) w16))) ∧
                                ((((t61n : Nat) : Int) == (1 : Int)) = false →
                                  (R (.returned (.bool false)) w15))))) ∧
                          ((t56.toList == (ByteArray.mk #[104, 101, 108, 108, 111]).toList) = false →
                            (R (.returned (.bool false)) w14))))) ∧
                    (t53 = false →
                      (R (.returned (.bool false)) w14)))))))))))) : Calls Try.prog 8 #[] w R :=
  calls_of_ev (args := [])
    (tc := .seq (.reg (.op .p (.nil))) (.seq (.reg (.op (.cl [.val, .val]) (.op .p (.op .p (.op .p (.op .p (.op .p (.nil)))))))) (.seq (.seq (.join [8, 9, 10, 11, 12, 13, 14, 15, 16, 17, 18, 19, 20, 21, 22, 23, 24, 25, 26, 27, 28, 29, 30, 31, 32, 33, 34, 35, 36, 37, 38, 39, 40, 41, 42, 43] [43] [.bool] (.reg (.op .p (.op (.ld (.bool)) (.op .p (.sp 10 (.op .p (.op .p (.op .p (.op .p (.op .p (.op .p (.op .p (.op .p (.op .p (.op .p (.op .p (.op .p (.op .p (.op .p (.op .p (.op .p (.op .p (.op .p (.op .p (.op .p (.op .p (.op .p (.op .p (.op .p (.op .p (.op .p (.op .p (.op .p (.op .p (.op .p (.op .p (.op .p (.op .p (.nil)))))))))))))))))))))))))))))))))) (.op .p (.op (.ld (.bool)) (.op .p (.op .p (.sp 14 (.op .p (.op .p (.op .p (.op .p (.op .p (.op .p (.op .p (.op .p (.op .p (.op .p (.op .p (.op .p (.op .p (.op .p (.op .p (.op .p (.op .p (.op .p (.op .p (.op .p (.op .p (.op .p (.op .p (.op .p (.op .p (.op .p (.op .p (.op .p (.op .p (.nil)))))))))))))))))))))))))))))) (.op .p (.op (.cl [.val]) (.op (.ld (.bool)) (.op .p (.op .p (.sp 19 (.op .p (.op .p (.op .p (.op .p (.op .p (.op .p (.op .p (.op .p (.op .p (.op .p (.op .p (.op .p (.op .p (.op .p (.op .p (.op .p (.op .p (.op .p (.op .p (.op .p (.op .p (.op .p (.op .p (.op .p (.nil))))))))))))))))))))))))) (.op .p (.op (.r (.slice)) (.op (.r (.slice)) (.op (.r (.slice)) (.op (.r (.slice)) (.op (.r (.slice)) (.op (.cl [.val]) (.op (.ld (.bool)) (.op .p (.op .p (.sp 29 (.op .p (.op .p (.op .p (.op .p (.op .p (.op .p (.op .p (.op .p (.op .p (.op .p (.op .p (.op .p (.op .p (.op .p (.nil))))))))))))))) (.op .p (.op (.cl [.val]) (.op (.ld (.bool)) (.op .p (.op .p (.sp 34 (.op .p (.op .p (.op .p (.op .p (.op .p (.op .p (.op .p (.op .p (.op .p (.nil)))))))))) (.op .p (.op (.cl [.val]) (.op (.ld (.bool)) (.op .p (.op .p (.sp 39 (.op .p (.op .p (.op .p (.op .p (.nil))))) (.op .p (.op (.cl [.val]) (.op (.ld (.bool)) (.op .p (.nil))))))))))))))))))))))))))))))))))))))))))))) (.cond (.seq (.reg (.op .p (.nil))) (.leaf)) (.leaf))) (.seq (.reg (.op .p (.op (.ld (.agg)) (.op (.cl []) (.nil))))) (.seq (.reg (.op .p (.op (.cl [.slice, .val]) (.op .p (.op .p (.op .p (.op .p (.op .p (.nil))))))))) (.seq (.reg (.op .p (.op (.ld (.bool)) (.op .p (.sp 54 (.op .p (.op (.ld (.str)) (.op .p (.op .p (.op .p (.sp 59 (.op .p (.op (.cl [.slice]) (.op .p (.op .p (.op .p (.op .p (.sp 65 (.op .p (.op (.cl [.int .i64]) (.op .p (.op .p (.op .p (.nil)))))) (.op .p (.op .p (.op .p (.op .p (.op .p (.nil))))))))))))) (.op .p (.op .p (.op .p (.op .p (.op .p (.op .p (.op .p (.op .p (.op .p (.op .p (.op .p (.nil)))))))))))))))))) (.op .p (.op .p (.op .p (.op .p (.op .p (.op .p (.op .p (.op .p (.op .p (.op .p (.op .p (.op .p (.op .p (.op .p (.op .p (.op .p (.nil)))))))))))))))))))))) (.leaf)))))))
    (by kernel_rfl) Try.func8 (by kernel_rfl) (by kernel_rfl) (by kernel_rfl) (by kernel_rfl) h

set_option maxRecDepth 100000 in
theorem amphoralaw01_two_vc (a0 : Array Value) (w : World) (R : Ending → World → Prop) (h :
  ∃ (g1 : Nat) (w1 : World), (Instr.box 57 (.agg a0)).run Try.prog w = .ok (.pointer (some ⟨g1, 0, none⟩)) w1 ∧
  (∃ (t5 : Int), (Instr.loadAt 3 (.pointer (some ⟨g1, 5, none⟩))).run Try.prog w1 = .ok (.int .i64 t5) w1 ∧
    (∃ (t8a : Option Addr) (t8n : Nat) (t8c : Nat), (Instr.loadAt 22 (.pointer (some ⟨g1, 3, none⟩))).run Try.prog w1 = .ok (.slice t8a t8n t8c) w1 ∧
      (∃ S : World → Prop, S w1.drew ∧
        (∃ (t12a : Option Addr) (t12n : Nat) (t12c : Nat), (∀ w' : World, S w' → (Instr.loadAt 22 (.pointer (some ⟨g1, 3, none⟩))).run Try.prog w' = .ok (.slice t12a t12n t12c) w') ∧
          (0 ≤ (if ((t8n : Nat) : Int) < (if t5 < (0 : Int) then (0 : Int) else t5) then ((t8n : Nat) : Int) else (if t5 < (0 : Int) then (0 : Int) else t5)) ∧ (if ((t8n : Nat) : Int) < (if t5 < (0 : Int) then (0 : Int) else t5) then ((t8n : Nat) : Int) else (if t5 < (0 : Int) then (0 : Int) else t5)) ≤ ((t12c : Nat) : Int) ∧
            (∃ (t17a : Option Addr) (t17n : Nat) (t17c : Nat), (∀ w' : World, S w' → (Instr.loadAt 22 (.pointer (some ⟨g1, 3, none⟩))).run Try.prog w' = .ok (.slice t17a t17n t17c) w') ∧
              (0 ≤ (if ((t8n : Nat) : Int) < (if t5 < (0 : Int) then (0 : Int) else t5) then ((t8n : Nat) : Int) else (if t5 < (0 : Int) then (0 : Int) else t5)) ∧ (if ((t8n : Nat) : Int) < (if t5 < (0 : Int) then (0 : Int) else t5) then ((t8n : Nat) : Int) else (if t5 < (0 : Int) then (0 : Int) else t5)) ≤ ((t17n : Nat) : Int) ∧ ((t17n : Nat) : Int) ≤ ((t17c : Nat) : Int) ∧ ∀ t19a : Option Addr, SubA 1 t17a (Int.toNat (if ((t8n : Nat) : Int) < (if t5 < (0 : Int) then (0 : Int) else t5) then ((t8n : Nat) : Int) else (if t5 < (0 : Int) then (0 : Int) else t5))) t17c t19a →
                (Calls Try.prog 11 #[(.slice t12a (Int.toNat (if ((t8n : Nat) : Int) < (if t5 < (0 : Int) then (0 : Int) else t5) then ((t8n : Nat) : Int) else (if t5 < (0 : Int) then (0 : Int) else t5))) t12c)] w1.drew fun (e15 : Ending) (w2 : World) => ∃ (t15a : Option Addr) (t15n : Nat) (t15c : Nat), e15 = .returned (.slice t15a t15n t15c) ∧
                  (∃ S_1 : World → Prop, (∀ w' : World, S_1 w' → S w') ∧ S_1 w2 ∧
                    (Calls Try.prog 11 #[(.slice t19a ((t17n) - (Int.toNat (if ((t8n : Nat) : Int) < (if t5 < (0 : Int) then (0 : Int) else t5) then ((t8n : Nat) : Int) else (if t5 < (0 : Int) then (0 : Int) else t5)))) (t17c - (Int.toNat (if ((t8n : Nat) : Int) < (if t5 < (0 : Int) then (0 : Int) else t5) then ((t8n : Nat) : Int) else (if t5 < (0 : Int) then (0 : Int) else t5)))))] w2 fun (e20 : Ending) (w3 : World) => ∃ (t20a : Option Addr) (t20n : Nat) (t20c : Nat), e20 = .returned (.slice t20a t20n t20c) ∧
                      (∃ S_2 : World → Prop, (∀ w' : World, S_2 w' → S_1 w') ∧ S_2 w3 ∧
                        (∃ (t21a : Option Addr) (t21n : Nat) (t21c : Nat) (w4 : World), (Instr.buildSlice 44 2 #[(0, (.slice t15a t15n t15c)), (1, (.slice t20a t20n t20c))]).run Try.prog w3 = .ok (.slice t21a t21n t21c) w4 ∧
                          (∃ S_3 : World → Prop, (∀ w' : World, S_3 w' → S_2 w') ∧ S_3 w4 ∧
                            (R (.returned (.slice t21a t21n t21c)) w4))))))))))))))) : Calls Try.prog 51 #[(.agg a0)] w R :=
  calls_of_ev (args := [(.agg a0)])
    (tc := .seq (.reg (.op .bx (.op .p (.nil)))) (.seq (.reg (.op .p (.op (.ld (.int .i64)) (.op .p (.op .p (.op (.ld (.slice)) (.op .p (.op .p (.op .p (.nil)))))))))) (.seq (.drawS (.tk 0 .p (.tk 2 .p (.tk 5 .p (.tk 7 .p (.ts 1 (.slice) (.tk 3 .sl (.ts 6 (.slice) (.tk 8 .sl (.go 4 (.cl [.slice]) (.go 9 (.cl [.slice]) (.go 10 (.r (.slice)) (.tk 11 .p (.nil))))))))))))) []) (.leaf))))
    (by kernel_rfl) Try.func51 (by kernel_rfl) (by kernel_rfl) (by kernel_rfl) (by kernel_rfl) h

set_option maxRecDepth 100000 in
theorem amphoralaw01_step_vc (a0b : Nat) (a0o : Nat) (a1b : Nat) (a1o : Nat) (a2 : Array Value) (w : World) (R : Ending → World → Prop) (h :
  ∃ (g5 : Nat) (w1 : World), (Instr.box 57 (.agg a2)).run Try.prog w = .ok (.pointer (some ⟨g5, 0, none⟩)) w1 ∧
  (∃ (t29 : Int), (Instr.loadAt 3 (.pointer (some ⟨g5, 0, none⟩))).run Try.prog w1 = .ok (.int .i64 t29) w1 ∧
    (((t29 == (0 : Int)) = true →
        (∃ S : World → Prop, S w1.drew ∧
          (∃ (t34 : ByteArray), (∀ w' : World, S w' → (Instr.loadAt 9 (.pointer (some ⟨g5, 1, none⟩))).run Try.prog w' = .ok (.string t34) w') ∧
            (∃ (t39 : ByteArray), (∀ w' : World, S w' → (Instr.loadAt 9 (.pointer (some ⟨g5, 1, none⟩))).run Try.prog w' = .ok (.string t39) w') ∧
              (Calls Try.prog 10 #[(.pointer (some ⟨a0b, a0o, none⟩)), (.string t34)] w1.drew fun (e35 : Ending) (w2 : World) => ∃ (t35 : Value), e35 = .returned t35 ∧
                (∃ S_1 : World → Prop, (∀ w' : World, S_1 w' → S w') ∧ S_1 w2 ∧
                  (Calls Try.prog 28 #[t35] w2 fun (e36 : Ending) (w3 : World) => ∃ (t36 : Int), e36 = .returned (.int .i64 t36) ∧
                    (∃ S_2 : World → Prop, (∀ w' : World, S_2 w' → S_1 w') ∧ S_2 w3 ∧
                      (Calls Try.prog 50 #[(.pointer (some ⟨a1b, a1o, none⟩)), (.string t39)] w3 fun (e40 : Ending) (w4 : World) => ∃ (t40 : Int), e40 = .returned (.int .i64 t40) ∧
                        (∃ S_3 : World → Prop, (∀ w' : World, S_3 w' → S_2 w') ∧ S_3 w4 ∧
                          (R (.returned (.bool (t36 == t40))) w4))))))))))) ∧
      ((t29 == (0 : Int)) = false →
        (((t29 == (1 : Int)) = true →
            (∃ (t44 : Array Value), (Instr.loadAt 57 (.pointer (some ⟨g5, 0, none⟩))).run Try.prog w1 = .ok (.agg t44) w1 ∧
              (Calls Try.prog 51 #[(.agg t44)] w1 fun (e45 : Ending) (w5 : World) => ∃ (t45a : Option Addr) (t45n : Nat) (t45c : Nat), e45 = .returned (.slice t45a t45n t45c) ∧
                (∃ (t48 : ByteArray), (Instr.loadAt 9 (.pointer (some ⟨g5, 1, none⟩))).run Try.prog w5 = .ok (.string t48) w5 ∧
                  (Calls Try.prog 12 #[(.pointer (some ⟨a0b, a0o, none⟩)), (.string t48), (.slice t45a t45n t45c)] w5 fun (e50 : Ending) (w6 : World) => ∃ (t50 : Value), e50 = .returned t50 ∧
                    (∃ (t52b t52o : Nat), t45a = some ⟨t52b, t52o, none⟩ ∧ 0 ≤ (0 : Int) ∧ (0 : Int) < ((t45n : Nat) : Int) ∧
                      (∃ (t53a : Option Addr) (t53n : Nat) (t53c : Nat), (Instr.loadAt 22 (.pointer (some ⟨t52b, t52o + Int.toNat (0 : Int) * 1, none⟩))).run Try.prog w6 = .ok (.slice t53a t53n t53c) w6 ∧
                        (∃ J : Bool → World → Prop, (∃ S : World → Prop, S w6.drew ∧
                            (∃ (t59 : ByteArray), (∀ w' : World, S w' → (Instr.loadAt 9 (.pointer (some ⟨g5, 1, none⟩))).run Try.prog w' = .ok (.string t59) w') ∧
                              (∃ (t61a : Option Addr) (t61n : Nat) (t61c : Nat), (∀ w' : World, S w' → (Instr.loadAt 22 (.pointer (some ⟨g5, 3, none⟩))).run Try.prog w' = .ok (.slice t61a t61n t61c) w') ∧
                                ((Calls Try.prog 28 #[t50] w6.drew fun (e56 : Ending) (w7 : World) => ∃ (t56 : Int), e56 = .returned (.int .i64 t56) ∧
                                    (∃ S_1 : World → Prop, (∀ w' : World, S_1 w' → S w') ∧ S_1 w7 ∧
                                      (∃ (t62a : Option Addr) (t62n : Nat) (t62c : Nat) (w8 : World), (Instr.buildSlice 44 1 #[(0, (.slice t61a t61n t61c))]).run Try.prog w7 = .ok (.slice t62a t62n t62c) w8 ∧
                                        (∃ S_2 : World → Prop, (∀ w' : World, S_2 w' → S_1 w') ∧ S_2 w8 ∧
                                          (Calls Try.prog 52 #[(.pointer (some ⟨a1b, a1o, none⟩)), (.string t59), (.slice t62a t62n t62c)] w8 fun (e63 : Ending) (w9 : World) => ∃ (t63 : Int), e63 = .returned (.int .i64 t63) ∧
                                            (∃ S_3 : World → Prop, (∀ w' : World, S_3 w' → S_2 w') ∧ S_3 w9 ∧
                                              (((t56 == t63) = true →
                                                  (∃ (t67b t67o : Nat), t45a = some ⟨t67b, t67o, none⟩ ∧ 0 ≤ (0 : Int) ∧ (0 : Int) < ((t45n : Nat) : Int) ∧
                                                    (∃ (t68a : Option Addr) (t68n : Nat) (t68c : Nat), (∀ w' : World, S_3 w' → (Instr.loadAt 22 (.pointer (some ⟨t67b, t67o + Int.toNat (0 : Int) * 1, none⟩))).run Try.prog w' = .ok (.slice t68a t68n t68c) w') ∧
                                                      (∃ (t70a : Option Addr) (t70n : Nat) (t70c : Nat), (∀ w' : World, S_3 w' → (Instr.loadAt 22 (.pointer (some ⟨g5, 3, none⟩))).run Try.prog w' = .ok (.slice t70a t70n t70c) w') ∧
                                                        (0 ≤ ((t53n : Nat) : Int) ∧ ((t53n : Nat) : Int) ≤ ((t70c : Nat) : Int) ∧
                                                          (Calls Try.prog 13 #[(.slice t68a t68n t68c), (.slice t70a (t53n) t70c)] w9 fun (e73 : Ending) (w10 : World) => ∃ (t73 : Bool), e73 = .returned (.bool t73) ∧
                                                            (∃ S_4 : World → Prop, (∀ w' : World, S_4 w' → S_3 w') ∧ S_4 w10 ∧
                                                              ((t73 = true →
                                                                  (∃ (t77b t77o : Nat), t45a = some ⟨t77b, t77o, none⟩ ∧ 0 ≤ (1 : Int) ∧ (1 : Int) < ((t45n : Nat) : Int) ∧
                                                                    (∃ (t78a : Option Addr) (t78n : Nat) (t78c : Nat), (∀ w' : World, S_4 w' → (Instr.loadAt 22 (.pointer (some ⟨t77b, t77o + Int.toNat (1 : Int) * 1, none⟩))).run Try.prog w' = .ok (.slice t78a t78n t78c) w') ∧
                                                                      (∃ (t80a : Option Addr) (t80n : Nat) (t80c : Nat), (∀ w' : World, S_4 w' → (Instr.loadAt 22 (.pointer (some ⟨g5, 3, none⟩))).run Try.prog w' = .ok (.slice t80a t80n t80c) w') ∧
                                                                        (0 ≤ ((t53n : Nat) : Int) ∧ ((t53n : Nat) : Int) ≤ ((t80n : Nat) : Int) ∧ ((t80n : Nat) : Int) ≤ ((t80c : Nat) : Int) ∧ ∀ t82a : Option Addr, SubA 1 t80a (t53n) t80c t82a →
                                                                          (Calls Try.prog 13 #[(.slice t78a t78n t78c), (.slice t82a ((t80n) - (t53n)) (t80c - (t53n)))] w10 fun (e83 : Ending) (w11 : World) => ∃ (t83 : Bool), e83 = .returned (.bool t83) ∧
                                                                            (∃ S_5 : World → Prop, (∀ w' : World, S_5 w' → S_4 w') ∧ S_5 w11 ∧
                                                                              (J t83 w11)))))))) ∧
                                                                (t73 = false →
                                                                  (S_4 w10 ∧
                                                                    (J false w10))))))))))) ∧
                                                ((t56 == t63) = false →
                                                  (S_3 w9 ∧
                                                    (S_3 w9 ∧
                                                      (J false w9))))))))))) ∧
                                  (∃ (t62a : Option Addr) (t62n : Nat) (t62c : Nat) (w12 : World), (Instr.buildSlice 44 1 #[(0, (.slice t61a t61n t61c))]).run Try.prog w6.drew = .ok (.slice t62a t62n t62c) w12 ∧
                                    (∃ S_1 : World → Prop, (∀ w' : World, S_1 w' → S w') ∧ S_1 w12 ∧
                                      (Calls Try.prog 28 #[t50] w12 fun (e56 : Ending) (w13 : World) => ∃ (t56 : Int), e56 = .returned (.int .i64 t56) ∧
                                        (∃ S_2 : World → Prop, (∀ w' : World, S_2 w' → S_1 w') ∧ S_2 w13 ∧
                                          (Calls Try.prog 52 #[(.pointer (some ⟨a1b, a1o, none⟩)), (.string t59), (.slice t62a t62n t62c)] w13 fun (e63 : Ending) (w14 : World) => ∃ (t63 : Int), e63 = .returned (.int .i64 t63) ∧
                                            (∃ S_3 : World → Prop, (∀ w' : World, S_3 w' → S_2 w') ∧ S_3 w14 ∧
                                              (((t56 == t63) = true →
                                                  (∃ (t67b t67o : Nat), t45a = some ⟨t67b, t67o, none⟩ ∧ 0 ≤ (0 : Int) ∧ (0 : Int) < ((t45n : Nat) : Int) ∧
                                                    (∃ (t68a : Option Addr) (t68n : Nat) (t68c : Nat), (∀ w' : World, S_3 w' → (Instr.loadAt 22 (.pointer (some ⟨t67b, t67o + Int.toNat (0 : Int) * 1, none⟩))).run Try.prog w' = .ok (.slice t68a t68n t68c) w') ∧
                                                      (∃ (t70a : Option Addr) (t70n : Nat) (t70c : Nat), (∀ w' : World, S_3 w' → (Instr.loadAt 22 (.pointer (some ⟨g5, 3, none⟩))).run Try.prog w' = .ok (.slice t70a t70n t70c) w') ∧
                                                        (0 ≤ ((t53n : Nat) : Int) ∧ ((t53n : Nat) : Int) ≤ ((t70c : Nat) : Int) ∧
                                                          (Calls Try.prog 13 #[(.slice t68a t68n t68c), (.slice t70a (t53n) t70c)] w14 fun (e73 : Ending) (w15 : World) => ∃ (t73 : Bool), e73 = .returned (.bool t73) ∧
                                                            (∃ S_4 : World → Prop, (∀ w' : World, S_4 w' → S_3 w') ∧ S_4 w15 ∧
                                                              ((t73 = true →
                                                                  (∃ (t77b t77o : Nat), t45a = some ⟨t77b, t77o, none⟩ ∧ 0 ≤ (1 : Int) ∧ (1 : Int) < ((t45n : Nat) : Int) ∧
                                                                    (∃ (t78a : Option Addr) (t78n : Nat) (t78c : Nat), (∀ w' : World, S_4 w' → (Instr.loadAt 22 (.pointer (some ⟨t77b, t77o + Int.toNat (1 : Int) * 1, none⟩))).run Try.prog w' = .ok (.slice t78a t78n t78c) w') ∧
                                                                      (∃ (t80a : Option Addr) (t80n : Nat) (t80c : Nat), (∀ w' : World, S_4 w' → (Instr.loadAt 22 (.pointer (some ⟨g5, 3, none⟩))).run Try.prog w' = .ok (.slice t80a t80n t80c) w') ∧
                                                                        (0 ≤ ((t53n : Nat) : Int) ∧ ((t53n : Nat) : Int) ≤ ((t80n : Nat) : Int) ∧ ((t80n : Nat) : Int) ≤ ((t80c : Nat) : Int) ∧ ∀ t82a : Option Addr, SubA 1 t80a (t53n) t80c t82a →
                                                                          (Calls Try.prog 13 #[(.slice t78a t78n t78c), (.slice t82a ((t80n) - (t53n)) (t80c - (t53n)))] w15 fun (e83 : Ending) (w16 : World) => ∃ (t83 : Bool), e83 = .returned (.bool t83) ∧
                                                                            (∃ S_5 : World → Prop, (∀ w' : World, S_5 w' → S_4 w') ∧ S_5 w16 ∧
                                                                              (J t83 w16)))))))) ∧
                                                                (t73 = false →
                                                                  (S_4 w15 ∧
                                                                    (J false w15))))))))))) ∧
                                                ((t56 == t63) = false →
                                                  (S_3 w14 ∧
                                                    (S_3 w14 ∧
                                                      (J false w14))))))))))))))) ∧
                          (∀ (x10 : Bool), ∀ w17 : World, J x10 w17 →
                            (∃ (t86b t86o : Nat), t45a = some ⟨t86b, t86o, none⟩ ∧ 0 ≤ (0 : Int) ∧ (0 : Int) < ((t45n : Nat) : Int) ∧
                              (∃ (t87a : Option Addr) (t87n : Nat) (t87c : Nat), (Instr.loadAt 22 (.pointer (some ⟨t86b, t86o + Int.toNat (0 : Int) * 1, none⟩))).run Try.prog w17 = .ok (.slice t87a t87n t87c) w17 ∧
                                (Calls Try.prog 14 #[(.slice t87a t87n t87c)] w17 fun (e88 : Ending) (w18 : World) => e88 = .returned (.tuple #[]) ∧
                                  (∃ (t90b t90o : Nat), t45a = some ⟨t90b, t90o, none⟩ ∧ 0 ≤ (1 : Int) ∧ (1 : Int) < ((t45n : Nat) : Int) ∧
                                    (∃ (t91a : Option Addr) (t91n : Nat) (t91c : Nat), (Instr.loadAt 22 (.pointer (some ⟨t90b, t90o + Int.toNat (1 : Int) * 1, none⟩))).run Try.prog w18 = .ok (.slice t91a t91n t91c) w18 ∧
                                      (Calls Try.prog 14 #[(.slice t91a t91n t91c)] w18 fun (e92 : Ending) (w19 : World) => e92 = .returned (.tuple #[]) ∧
                                        (R (.returned (.bool x10)) w19)))))))))))))))) ∧
          ((t29 == (1 : Int)) = false →
            (((t29 == (2 : Int)) = true →
                (∃ S : World → Prop, S w1.drew ∧
                  (∃ (t98 : ByteArray), (∀ w' : World, S w' → (Instr.loadAt 9 (.pointer (some ⟨g5, 1, none⟩))).run Try.prog w' = .ok (.string t98) w') ∧
                    (∃ (t103 : ByteArray), (∀ w' : World, S w' → (Instr.loadAt 9 (.pointer (some ⟨g5, 1, none⟩))).run Try.prog w' = .ok (.string t103) w') ∧
                      (Calls Try.prog 31 #[(.pointer (some ⟨a0b, a0o, none⟩)), (.string t98)] w1.drew fun (e99 : Ending) (w20 : World) => ∃ (t99 : Value), e99 = .returned t99 ∧
                        (∃ S_1 : World → Prop, (∀ w' : World, S_1 w' → S w') ∧ S_1 w20 ∧
                          (Calls Try.prog 28 #[t99] w20 fun (e100 : Ending) (w21 : World) => ∃ (t100 : Int), e100 = .returned (.int .i64 t100) ∧
                            (∃ S_2 : World → Prop, (∀ w' : World, S_2 w' → S_1 w') ∧ S_2 w21 ∧
                              (Calls Try.prog 53 #[(.pointer (some ⟨a1b, a1o, none⟩)), (.string t103)] w21 fun (e104 : Ending) (w22 : World) => ∃ (t104 : Int), e104 = .returned (.int .i64 t104) ∧
                                (∃ S_3 : World → Prop, (∀ w' : World, S_3 w' → S_2 w') ∧ S_3 w22 ∧
                                  (R (.returned (.bool (t100 == t104))) w22))))))))))) ∧
              ((t29 == (2 : Int)) = false →
                (((t29 == (3 : Int)) = true →
                    (Calls Try.prog 32 #[(.pointer (some ⟨a0b, a0o, none⟩))] w1 fun (e109 : Ending) (w23 : World) => ∃ (t109 : Value), e109 = .returned t109 ∧
                      (Calls Try.prog 28 #[t109] w23 fun (e110 : Ending) (w24 : World) => ∃ (t110 : Int), e110 = .returned (.int .i64 t110) ∧
                        (Calls Try.prog 54 #[(.pointer (some ⟨a1b, a1o, none⟩))] w24 fun (e112 : Ending) (w25 : World) => ∃ (t112 : Int), e112 = .returned (.int .i64 t112) ∧
                          (R (.returned (.bool (t110 == t112))) w25))))) ∧
                  ((t29 == (3 : Int)) = false →
                    (((t29 == (4 : Int)) = true →
                        (∃ S : World → Prop, S w1.drew ∧
                          (∃ (t118 : ByteArray), (∀ w' : World, S w' → (Instr.loadAt 9 (.pointer (some ⟨g5, 1, none⟩))).run Try.prog w' = .ok (.string t118) w') ∧
                            (∃ (t120 : ByteArray), (∀ w' : World, S w' → (Instr.loadAt 9 (.pointer (some ⟨g5, 2, none⟩))).run Try.prog w' = .ok (.string t120) w') ∧
                              (∃ (t125 : ByteArray), (∀ w' : World, S w' → (Instr.loadAt 9 (.pointer (some ⟨g5, 1, none⟩))).run Try.prog w' = .ok (.string t125) w') ∧
                                (∃ (t127 : ByteArray), (∀ w' : World, S w' → (Instr.loadAt 9 (.pointer (some ⟨g5, 2, none⟩))).run Try.prog w' = .ok (.string t127) w') ∧
                                  (Calls Try.prog 33 #[(.pointer (some ⟨a0b, a0o, none⟩)), (.string t118), (.string t120)] w1.drew fun (e121 : Ending) (w26 : World) => ∃ (t121 : Value), e121 = .returned t121 ∧
                                    (∃ S_1 : World → Prop, (∀ w' : World, S_1 w' → S w') ∧ S_1 w26 ∧
                                      (Calls Try.prog 28 #[t121] w26 fun (e122 : Ending) (w27 : World) => ∃ (t122 : Int), e122 = .returned (.int .i64 t122) ∧
                                        (∃ S_2 : World → Prop, (∀ w' : World, S_2 w' → S_1 w') ∧ S_2 w27 ∧
                                          (Calls Try.prog 55 #[(.pointer (some ⟨a1b, a1o, none⟩)), (.string t125), (.string t127)] w27 fun (e128 : Ending) (w28 : World) => ∃ (t128 : Int), e128 = .returned (.int .i64 t128) ∧
                                            (∃ S_3 : World → Prop, (∀ w' : World, S_3 w' → S_2 w') ∧ S_3 w28 ∧
                                              (R (.returned (.bool (t122 == t128))) w28))))))))))))) ∧
                      ((t29 == (4 : Int)) = false →
                        (((t29 == (5 : Int)) = true →
                            (∃ S : World → Prop, S w1.drew ∧
                              (∃ (t134 : ByteArray), (∀ w' : World, S w' → (Instr.loadAt 9 (.pointer (some ⟨g5, 1, none⟩))).run Try.prog w' = .ok (.string t134) w') ∧
                                (∃ (t139 : ByteArray), (∀ w' : World, S w' → (Instr.loadAt 9 (.pointer (some ⟨g5, 1, none⟩))).run Try.prog w' = .ok (.string t139) w') ∧
                                  (Calls Try.prog 34 #[(.pointer (some ⟨a0b, a0o, none⟩)), (.string t134)] w1.drew fun (e135 : Ending) (w29 : World) => ∃ (t135 : Value), e135 = .returned t135 ∧
                                    (∃ S_1 : World → Prop, (∀ w' : World, S_1 w' → S w') ∧ S_1 w29 ∧
                                      (Calls Try.prog 28 #[t135] w29 fun (e136 : Ending) (w30 : World) => ∃ (t136 : Int), e136 = .returned (.int .i64 t136) ∧
                                        (∃ S_2 : World → Prop, (∀ w' : World, S_2 w' → S_1 w') ∧ S_2 w30 ∧
                                          (Calls Try.prog 56 #[(.pointer (some ⟨a1b, a1o, none⟩)), (.string t139)] w30 fun (e140 : Ending) (w31 : World) => ∃ (t140 : Int), e140 = .returned (.int .i64 t140) ∧
                                            (∃ S_3 : World → Prop, (∀ w' : World, S_3 w' → S_2 w') ∧ S_3 w31 ∧
                                              (R (.returned (.bool (t136 == t140))) w31))))))))))) ∧
                          ((t29 == (5 : Int)) = false →
                            (((t29 == (6 : Int)) = true →
                                (∃ (t147 : ByteArray), (Instr.loadAt 9 (.pointer (some ⟨g5, 1, none⟩))).run Try.prog w1 = .ok (.string t147) w1 ∧
                                  (Calls Try.prog 15 #[(.pointer (some ⟨a0b, a0o, none⟩)), (.string t147)] w1 fun (e148 : Ending) (w32 : World) => ∃ (t148_0a : Option Addr) (t148_0n : Nat) (t148_0c : Nat) (t148_1 : Value), e148 = .returned (.tuple #[(.slice t148_0a t148_0n t148_0c), t148_1]) ∧
                                    (∃ (t154 : ByteArray), (Instr.loadAt 9 (.pointer (some ⟨g5, 1, none⟩))).run Try.prog w32 = .ok (.string t154) w32 ∧
                                      (Calls Try.prog 57 #[(.pointer (some ⟨a1b, a1o, none⟩)), (.string t154)] w32 fun (e155 : Ending) (w33 : World) => ∃ (t155_0a : Option Addr) (t155_0n : Nat) (t155_0c : Nat) (t155_1 : Int), e155 = .returned (.tuple #[(.slice t155_0a t155_0n t155_0c), (.int .i64 t155_1)]) ∧
                                        (∃ J : Bool → World → Prop, (∃ (t159 : ByteArray), (convert 22 9 (.slice t148_0a t148_0n t148_0c)).run Try.prog w33 = .ok (.string t159) w33 ∧
                                            (∃ (t161 : ByteArray), (convert 22 9 (.slice t155_0a t155_0n t155_0c)).run Try.prog w33 = .ok (.string t161) w33 ∧
                                              (((t159.toList == t161.toList) = true →
                                                  (Calls Try.prog 28 #[t148_1] w33 fun (e165 : Ending) (w34 : World) => ∃ (t165 : Int), e165 = .returned (.int .i64 t165) ∧
                                                    (J (t165 == t155_1) w34))) ∧
                                                ((t159.toList == t161.toList) = false →
                                                  (J false w33))))) ∧
                                          (∀ (x15 : Bool), ∀ w35 : World, J x15 w35 →
                                            (Calls Try.prog 14 #[(.slice t148_0a t148_0n t148_0c)] w35 fun (e170 : Ending) (w36 : World) => e170 = .returned (.tuple #[]) ∧
                                              (R (.returned (.bool x15)) w36))))))))) ∧
                              ((t29 == (6 : Int)) = false →
                                (((t29 == (7 : Int)) = true →
                                    (∃ (t177 : ByteArray), (Instr.loadAt 9 (.pointer (some ⟨g5, 1, none⟩))).run Try.prog w1 = .ok (.string t177) w1 ∧
                                      (∃ (t179 : Int), (Instr.loadAt 3 (.pointer (some ⟨g5, 4, none⟩))).run Try.prog w1 = .ok (.int .i64 t179) w1 ∧
                                        (∃ (t181 : Int), (Instr.loadAt 3 (.pointer (some ⟨g5, 5, none⟩))).run Try.prog w1 = .ok (.int .i64 t181) w1 ∧
                                          (Calls Try.prog 16 #[(.pointer (some ⟨a0b, a0o, none⟩)), (.string t177), (.int .i64 t179), (.int .i64 t181)] w1 fun (e182 : Ending) (w37 : World) => ∃ (t182_0a : Option Addr) (t182_0n : Nat) (t182_0c : Nat) (t182_1 : Value), e182 = .returned (.tuple #[(.slice t182_0a t182_0n t182_0c), t182_1]) ∧
                                            (∃ (t188 : ByteArray), (Instr.loadAt 9 (.pointer (some ⟨g5, 1, none⟩))).run Try.prog w37 = .ok (.string t188) w37 ∧
                                              (∃ (t190 : Int), (Instr.loadAt 3 (.pointer (some ⟨g5, 4, none⟩))).run Try.prog w37 = .ok (.int .i64 t190) w37 ∧
                                                (∃ (t192 : Int), (Instr.loadAt 3 (.pointer (some ⟨g5, 5, none⟩))).run Try.prog w37 = .ok (.int .i64 t192) w37 ∧
                                                  (Calls Try.prog 58 #[(.pointer (some ⟨a1b, a1o, none⟩)), (.string t188), (.int .i64 t190), (.int .i64 t192)] w37 fun (e193 : Ending) (w38 : World) => ∃ (t193_0a : Option Addr) (t193_0n : Nat) (t193_0c : Nat) (t193_1 : Int), e193 = .returned (.tuple #[(.slice t193_0a t193_0n t193_0c), (.int .i64 t193_1)]) ∧
                                                    (∃ (t197 : ByteArray), (convert 22 9 (.slice t182_0a t182_0n t182_0c)).run Try.prog w38 = .ok (.string t197) w38 ∧
                                                      (∃ (t199 : ByteArray), (convert 22 9 (.slice t193_0a t193_0n t193_0c)).run Try.prog w38 = .ok (.string t199) w38 ∧
                                                        (((t197.toList == t199.toList) = true →
                                                            (Calls Try.prog 28 #[t182_1] w38 fun (e203 : Ending) (w39 : World) => ∃ (t203 : Int), e203 = .returned (.int .i64 t203) ∧
                                                              (R (.returned (.bool (t203 == t193_1))) w39))) ∧
                                                          ((t197.toList == t199.toList) = false →
                                                            (R (.returned (.bool false)) w38)))))))))))))) ∧
                                  ((t29 == (7 : Int)) = false →
                                    (((t29 == (8 : Int)) = true →
                                        (∃ (t210 : Int), (Instr.loadAt 3 (.pointer (some ⟨g5, 4, none⟩))).run Try.prog w1 = .ok (.int .i64 t210) w1 ∧
                                          (((decide (t210 < (0 : Int))) = true →
                                              (∃ (t214 : Int), (Instr.loadAt 3 (.pointer (some ⟨g5, 4, none⟩))).run Try.prog w1 = .ok (.int .i64 t214) w1 ∧
                                                (Calls Try.prog 35 #[(.pointer (some ⟨a0b, a0o, none⟩)), (.int .i64 t214)] w1 fun (e215 : Ending) (w40 : World) => ∃ (t215 : Value), e215 = .returned t215 ∧
                                                  (Calls Try.prog 28 #[t215] w40 fun (e216 : Ending) (w41 : World) => ∃ (t216 : Int), e216 = .returned (.int .i64 t216) ∧
                                                    (R (.returned (.bool (t216 == (7 : Int)))) w41))))) ∧
                                            ((decide (t210 < (0 : Int))) = false →
                                              (∃ (t220 : Int), (Instr.loadAt 3 (.pointer (some ⟨g5, 4, none⟩))).run Try.prog w1 = .ok (.int .i64 t220) w1 ∧
                                                (∃ w42 : World, (Instr.storeAt 3 (.pointer (some ⟨a1b, a1o + 7, none⟩)) (.int .i64 t220)).run Try.prog w1 = .ok () w42 ∧
                                                  (∃ (t225 : Int), (Instr.loadAt 3 (.pointer (some ⟨g5, 4, none⟩))).run Try.prog w42 = .ok (.int .i64 t225) w42 ∧
                                                    (Calls Try.prog 35 #[(.pointer (some ⟨a0b, a0o, none⟩)), (.int .i64 t225)] w42 fun (e226 : Ending) (w43 : World) => ∃ (t226 : Value), e226 = .returned t226 ∧
                                                      (∃ (t227 : Bool), (eqlS .eql 26 (.tmp 226) (.const .nilIface) t226 .nilIface).run Try.prog w43 = .ok (.bool t227) w43 ∧
                                                        (R (.returned (.bool t227)) w43)))))))))) ∧
                                      ((t29 == (8 : Int)) = false →
                                        (((t29 == (9 : Int)) = true →
                                            (∃ (t231 : Int), (Instr.loadAt 3 (.pointer (some ⟨g5, 4, none⟩))).run Try.prog w1 = .ok (.int .i64 t231) w1 ∧
                                              (∃ (t232a : Option Addr) (t232n : Nat) (t232c : Nat) (w44 : World), (Instr.buildSlice 48 1 #[(0, (.int .i64 t231))]).run Try.prog w1 = .ok (.slice t232a t232n t232c) w44 ∧
                                                (∃ (t235a : Option Addr) (t235n : Nat) (t235c : Nat), (Instr.loadAt 48 (.pointer (some ⟨g5, 7, none⟩))).run Try.prog w44 = .ok (.slice t235a t235n t235c) w44 ∧
                                                  (∃ (t236a : Option Addr) (t236n : Nat) (t236c : Nat) (w45 : World), (Builtin.append_ #[48, 48] 48 #[(.slice t232a t232n t232c), (.slice t235a t235n t235c)]).run Try.prog w44 = .ok (.slice t236a t236n t236c) w45 ∧
                                                    (Calls Try.prog 36 #[(.pointer (some ⟨a0b, a0o, none⟩)), (.slice t236a t236n t236c)] w45 fun (e239 : Ending) (w46 : World) => ∃ (t239 : Value), e239 = .returned t239 ∧
                                                      (∃ (I : Int → World → Prop) (μ : Int → World → Nat), I 0 w46 ∧
                                                        (∀ (x242 : Int), ∀ w47 : World, I x242 w47 →
                                                          (((decide (x242 < ((t236n : Nat) : Int))) = true →
                                                              (∃ (t244b t244o : Nat), t236a = some ⟨t244b, t244o, none⟩ ∧ 0 ≤ x242 ∧ x242 < ((t236n : Nat) : Int) ∧
                                                                (∃ (t245 : Int), (Instr.loadAt 3 (.pointer (some ⟨t244b, t244o + Int.toNat x242 * 1, none⟩))).run Try.prog w47 = .ok (.int .i64 t245) w47 ∧
                                                                  (((decide (t245 < (0 : Int))) = true →
                                                                      (∃ (t250 : Bool), (eqlS .eql 26 (.tmp 248) (.tmp 249) t239 (.iface 62 (.int .i64 7))).run Try.prog w47 = .ok (.bool t250) w47 ∧
                                                                        (R (.returned (.bool t250)) w47))) ∧
                                                                    ((decide (t245 < (0 : Int))) = false →
                                                                      (I (IntKind.wrap .i64 (x242 + (1 : Int))) w47 ∧ μ (IntKind.wrap .i64 (x242 + (1 : Int))) w47 < μ x242 w47)))))) ∧
                                                            ((decide (x242 < ((t236n : Nat) : Int))) = false →
                                                              (∃ (t253a : Option Addr) (t253n : Nat) (t253c : Nat) (w48 : World), (Instr.buildSlice 48 0 #[]).run Try.prog w47 = .ok (.slice t253a t253n t253c) w48 ∧
                                                                (∃ (t255a : Option Addr) (t255n : Nat) (t255c : Nat) (w49 : World), (Builtin.append_ #[48, 48] 48 #[(.slice t253a t253n t253c), (.slice t236a t236n t236c)]).run Try.prog w48 = .ok (.slice t255a t255n t255c) w49 ∧
                                                                  (∃ w50 : World, (Instr.storeAt 48 (.pointer (some ⟨a1b, a1o + 8, none⟩)) (.slice t255a t255n t255c)).run Try.prog w49 = .ok () w50 ∧
                                                                    (∃ (I_1 : Int → World → Prop) (μ_1 : Int → World → Nat), I_1 0 w50 ∧
                                                                      (∀ (x260 : Int), ∀ w51 : World, I_1 x260 w51 →
                                                                        (((decide (x260 < ((t236n : Nat) : Int))) = true →
                                                                            (∃ (t265b t265o : Nat), t236a = some ⟨t265b, t265o, none⟩ ∧ 0 ≤ x260 ∧ x260 < ((t236n : Nat) : Int) ∧
                                                                              (∃ w52 : World, (Instr.storeAt 3 (.pointer (some ⟨t265b, t265o + Int.toNat x260 * 1, none⟩)) (.int .i64 0)).run Try.prog w51 = .ok () w52 ∧
                                                                                (I_1 (IntKind.wrap .i64 (x260 + (1 : Int))) w52 ∧ μ_1 (IntKind.wrap .i64 (x260 + (1 : Int))) w52 < μ_1 x260 w51)))) ∧
                                                                          ((decide (x260 < ((t236n : Nat) : Int))) = false →
                                                                            (∃ (t268 : Bool), (eqlS .eql 26 (.tmp 267) (.const .nilIface) t239 .nilIface).run Try.prog w51 = .ok (.bool t268) w51 ∧
                                                                              (R (.returned (.bool t268)) w51))))))))))))))))))) ∧
                                          ((t29 == (9 : Int)) = false →
                                            (∃ J : World → Prop, (((t29 == (10 : Int)) = true →
                                                  (∃ (t273 : Array Value), (Instr.loadAt 50 (.pointer (some ⟨g5, 6, none⟩))).run Try.prog w1 = .ok (.agg t273) w1 ∧
                                                    (Calls Try.prog 25 #[(.pointer (some ⟨a0b, a0o, none⟩)), (.agg t273)] w1 fun (e274 : Ending) (w53 : World) => e274 = .returned (.tuple #[]) ∧
                                                      (∃ (t277 : Array Value), (Instr.loadAt 50 (.pointer (some ⟨g5, 6, none⟩))).run Try.prog w53 = .ok (.agg t277) w53 ∧
                                                        (Calls Try.prog 59 #[(.pointer (some ⟨a1b, a1o, none⟩)), (.agg t277)] w53 fun (e278 : Ending) (w54 : World) => e278 = .returned (.tuple #[]) ∧
                                                          (J  w54)))))) ∧
                                                ((t29 == (10 : Int)) = false →
                                                  (((t29 == (11 : Int)) = true →
                                                      (∃ (t282a : Option Addr) (t282n : Nat) (t282c : Nat), (Instr.loadAt 22 (.pointer (some ⟨g5, 3, none⟩))).run Try.prog w1 = .ok (.slice t282a t282n t282c) w1 ∧
                                                        (Calls Try.prog 11 #[(.slice t282a t282n t282c)] w1 fun (e283 : Ending) (w55 : World) => ∃ (t283a : Option Addr) (t283n : Nat) (t283c : Nat), e283 = .returned (.slice t283a t283n t283c) ∧
                                                          (∃ (t286 : ByteArray), (Instr.loadAt 9 (.pointer (some ⟨g5, 1, none⟩))).run Try.prog w55 = .ok (.string t286) w55 ∧
                                                            (Calls Try.prog 37 #[(.pointer (some ⟨a0b, a0o, none⟩)), (.string t286), (.slice t283a t283n t283c)] w55 fun (e288 : Ending) (w56 : World) => ∃ (t288 : Value), e288 = .returned t288 ∧
                                                              (∃ J_1 : Bool → World → Prop, (∃ S : World → Prop, S w56.drew ∧
                                                                  (∃ (t293 : ByteArray), (∀ w' : World, S w' → (Instr.loadAt 9 (.pointer (some ⟨g5, 1, none⟩))).run Try.prog w' = .ok (.string t293) w') ∧
                                                                    (∃ (t295a : Option Addr) (t295n : Nat) (t295c : Nat), (∀ w' : World, S w' → (Instr.loadAt 22 (.pointer (some ⟨g5, 3, none⟩))).run Try.prog w' = .ok (.slice t295a t295n t295c) w') ∧
                                                                      (Calls Try.prog 28 #[t288] w56.drew fun (e290 : Ending) (w57 : World) => ∃ (t290 : Int), e290 = .returned (.int .i64 t290) ∧
                                                                        (∃ S_1 : World → Prop, (∀ w' : World, S_1 w' → S w') ∧ S_1 w57 ∧
                                                                          (Calls Try.prog 60 #[(.pointer (some ⟨a1b, a1o, none⟩)), (.string t293), (.slice t295a t295n t295c)] w57 fun (e296 : Ending) (w58 : World) => ∃ (t296 : Int), e296 = .returned (.int .i64 t296) ∧
                                                                            (∃ S_2 : World → Prop, (∀ w' : World, S_2 w' → S_1 w') ∧ S_2 w58 ∧
                                                                              (((t290 == t296) = true →
                                                                                (∃ (t301a : Option Addr) (t301n : Nat) (t301c : Nat), (∀ w' : World, S_2 w' → (Instr.loadAt 22 (.pointer (some ⟨g5, 3, none⟩))).run Try.prog w' = .ok (.slice t301a t301n t301c) w') ∧
                                                                                (Calls Try.prog 13 #[(.slice t283a t283n t283c), (.slice t301a t301n t301c)] w58 fun (e302 : Ending) (w59 : World) => ∃ (t302 : Bool), e302 = .returned (.bool t302) ∧
                                                                                (∃ S_3 : World → Prop, (∀ w' : World, S_3 w' → S_2 w') ∧ S_3 w59 ∧
                                                                                (J_1 t302 w59))))) ∧
                                                                                ((t290 == t296) = false →
                                                                                (S_2 w58 ∧
                                                                                (J_1 false w58))))))))))) ∧
                                                                (∀ (x27 : Bool), ∀ w60 : World, J_1 x27 w60 →
                                                                  (Calls Try.prog 14 #[(.slice t283a t283n t283c)] w60 fun (e305 : Ending) (w61 : World) => e305 = .returned (.tuple #[]) ∧
                                                                    (R (.returned (.bool x27)) w61))))))))) ∧
                                                    ((t29 == (11 : Int)) = false →
                                                      (((t29 == (12 : Int)) = true →
                                                          (∃ S : World → Prop, S w1.drew ∧
                                                            (∃ (t311 : ByteArray), (∀ w' : World, S w' → (Instr.loadAt 9 (.pointer (some ⟨g5, 1, none⟩))).run Try.prog w' = .ok (.string t311) w') ∧
                                                              (∃ (t316 : ByteArray), (∀ w' : World, S w' → (Instr.loadAt 9 (.pointer (some ⟨g5, 1, none⟩))).run Try.prog w' = .ok (.string t316) w') ∧
                                                                (Calls Try.prog 38 #[(.pointer (some ⟨a0b, a0o, none⟩)), (.string t311)] w1.drew fun (e312 : Ending) (w62 : World) => ∃ (t312 : Value), e312 = .returned t312 ∧
                                                                  (∃ S_1 : World → Prop, (∀ w' : World, S_1 w' → S w') ∧ S_1 w62 ∧
                                                                    (Calls Try.prog 28 #[t312] w62 fun (e313 : Ending) (w63 : World) => ∃ (t313 : Int), e313 = .returned (.int .i64 t313) ∧
                                                                      (∃ S_2 : World → Prop, (∀ w' : World, S_2 w' → S_1 w') ∧ S_2 w63 ∧
                                                                        (Calls Try.prog 61 #[(.pointer (some ⟨a1b, a1o, none⟩)), (.string t316)] w63 fun (e317 : Ending) (w64 : World) => ∃ (t317 : Int), e317 = .returned (.int .i64 t317) ∧
                                                                          (∃ S_3 : World → Prop, (∀ w' : World, S_3 w' → S_2 w') ∧ S_3 w64 ∧
                                                                            (R (.returned (.bool (t313 == t317))) w64))))))))))) ∧
                                                        ((t29 == (12 : Int)) = false →
                                                          (J  w1))))))) ∧
                                              (∀ w65 : World, J  w65 →
                                                (R (.returned (.bool true)) w65))))))))))))))))))))))))) : Calls Try.prog 29 #[(.pointer (some ⟨a0b, a0o, none⟩)), (.pointer (some ⟨a1b, a1o, none⟩)), (.agg a2)] w R :=
  calls_of_ev (args := [(.pointer (some ⟨a0b, a0o, none⟩)), (.pointer (some ⟨a1b, a1o, none⟩)), (.agg a2)])
    (tc := .seq (.reg (.op .bx (.op .p (.nil)))) (.seq (.seq (.reg (.op .p (.op (.ld (.int .i64)) (.nil)))) (.blk (.seq (.reg (.op .p (.op .p (.nil)))) (.cond (.seq (.drawS (.tk 0 .p (.tk 1 .p (.tk 5 .p (.tk 6 .p (.ts 2 (.str) (.ts 7 (.str) (.go 3 (.cl [.val]) (.go 4 (.cl [.int .i64]) (.go 8 (.cl [.int .i64]) (.tk 9 .p (.tk 10 .p (.nil)))))))))))) []) (.leaf)) (.seq (.reg (.op .p (.op .p (.nil)))) (.cond (.seq (.reg (.op (.ld (.agg)) (.op (.cl [.slice]) (.op .p (.nil))))) (.seq (.reg (.op .p (.op .p (.op (.ld (.str)) (.op .p (.op (.cl [.val]) (.op .p (.nil)))))))) (.seq (.reg (.op .p (.op .ix (.op (.ld (.slice)) (.op .p (.op .p (.nil))))))) (.seq (.join [10, 55, 56, 57, 58, 59, 60, 61, 62, 63, 64, 65, 66, 67, 68, 69, 70, 71, 72, 73, 74, 75, 76, 77, 78, 79, 80, 81, 82, 83, 84] [10] [.bool] (.drawS (.tk 0 .p (.tk 2 .p (.tk 3 .p (.tk 5 .p (.ts 4 (.str) (.ts 6 (.slice) (.two 1 (.cl [.int .i64]) (.go 7 (.r (.slice)) (.go 8 (.cl [.int .i64]) (.tk 9 .p (.tk 10 .p (.sp 65 (.tk 11 .p (.tk 12 .ix (.tk 14 .p (.tk 16 .p (.ts 13 (.slice) (.ts 15 (.slice) (.tk 17 .sl (.go 18 (.cl [.bool]) (.tk 19 .p (.tk 20 .p (.sp 75 (.tk 21 .p (.tk 22 .ix (.tk 24 .p (.tk 26 .p (.ts 23 (.slice) (.ts 25 (.slice) (.tk 27 .sl (.go 28 (.cl [.bool]) (.tk 29 .p (.tk 30 .p (.nil))))))))))) (.tk 21 .p (.tk 22 .p (.tk 24 .p (.tk 26 .p (.ts 23 .val (.ts 25 .val (.tk 27 .p (.go 28 .p (.tk 29 .p (.tk 30 .p (.nil)))))))))))))))))))))) (.tk 11 .p (.tk 12 .p (.tk 14 .p (.tk 16 .p (.ts 13 .val (.ts 15 .val (.tk 17 .p (.go 18 .p (.tk 19 .p (.tk 20 .p (.tk 21 .p (.tk 22 .p (.tk 24 .p (.tk 26 .p (.ts 23 .val (.ts 25 .val (.tk 27 .p (.go 28 .p (.tk 29 .p (.tk 30 .p (.nil)))))))))))))))))))))))))) 7 (.r (.slice)) (.go 1 (.cl [.int .i64]) (.go 8 (.cl [.int .i64]) (.tk 9 .p (.tk 10 .p (.sp 65 (.tk 11 .p (.tk 12 .ix (.tk 14 .p (.tk 16 .p (.ts 13 (.slice) (.ts 15 (.slice) (.tk 17 .sl (.go 18 (.cl [.bool]) (.tk 19 .p (.tk 20 .p (.sp 75 (.tk 21 .p (.tk 22 .ix (.tk 24 .p (.tk 26 .p (.ts 23 (.slice) (.ts 25 (.slice) (.tk 27 .sl (.go 28 (.cl [.bool]) (.tk 29 .p (.tk 30 .p (.nil))))))))))) (.tk 21 .p (.tk 22 .p (.tk 24 .p (.tk 26 .p (.ts 23 .val (.ts 25 .val (.tk 27 .p (.go 28 .p (.tk 29 .p (.tk 30 .p (.nil)))))))))))))))))))))) (.tk 11 .p (.tk 12 .p (.tk 14 .p (.tk 16 .p (.ts 13 .val (.ts 15 .val (.tk 17 .p (.go 18 .p (.tk 19 .p (.tk 20 .p (.tk 21 .p (.tk 22 .p (.tk 24 .p (.tk 26 .p (.ts 23 .val (.ts 25 .val (.tk 27 .p (.go 28 .p (.tk 29 .p (.tk 30 .p (.nil))))))))))))))))))))))))))))))))) [])) (.seq (.reg (.op .p (.op .ix (.op (.ld (.slice)) (.op (.cl []) (.nil)))))) (.seq (.reg (.op .p (.op .ix (.op (.ld (.slice)) (.op (.cl []) (.nil)))))) (.seq (.reg (.op .p (.op .p (.nil)))) (.leaf)))))))) (.seq (.reg (.op .p (.op .p (.nil)))) (.cond (.seq (.drawS (.tk 0 .p (.tk 1 .p (.tk 5 .p (.tk 6 .p (.ts 2 (.str) (.ts 7 (.str) (.go 3 (.cl [.val]) (.go 4 (.cl [.int .i64]) (.go 8 (.cl [.int .i64]) (.tk 9 .p (.tk 10 .p (.nil)))))))))))) []) (.leaf)) (.seq (.reg (.op .p (.op .p (.nil)))) (.cond (.seq (.reg (.op .p (.op (.cl [.val]) (.op (.cl [.int .i64]) (.op .p (.op (.cl [.int .i64]) (.op .p (.op .p (.nil))))))))) (.leaf)) (.seq (.reg (.op .p (.op .p (.nil)))) (.cond (.seq (.drawS (.tk 0 .p (.tk 1 .p (.tk 3 .p (.tk 7 .p (.tk 8 .p (.tk 10 .p (.ts 2 (.str) (.ts 4 (.str) (.ts 9 (.str) (.ts 11 (.str) (.go 5 (.cl [.val]) (.go 6 (.cl [.int .i64]) (.go 12 (.cl [.int .i64]) (.tk 13 .p (.tk 14 .p (.nil)))))))))))))))) []) (.leaf)) (.seq (.reg (.op .p (.op .p (.nil)))) (.cond (.seq (.drawS (.tk 0 .p (.tk 1 .p (.tk 5 .p (.tk 6 .p (.ts 2 (.str) (.ts 7 (.str) (.go 3 (.cl [.val]) (.go 4 (.cl [.int .i64]) (.go 8 (.cl [.int .i64]) (.tk 9 .p (.tk 10 .p (.nil)))))))))))) []) (.leaf)) (.seq (.reg (.op .p (.op .p (.nil)))) (.cond (.seq (.reg (.op .p (.op .p (.op (.ld (.str)) (.op (.cl [.slice, .val]) (.op .p (.op .p (.op .p (.op .p (.op .p (.nil))))))))))) (.seq (.reg (.op .p (.op .p (.op (.ld (.str)) (.op (.cl [.slice, .int .i64]) (.op .p (.op .p (.op .p (.op .p (.op .p (.nil))))))))))) (.seq (.join [15, 158, 159, 160, 161, 162, 163, 164, 165, 166, 167, 168] [15] [.bool] (.reg (.op .p (.op (.ld (.str)) (.op .p (.op (.ld (.str)) (.op .p (.op .p (.sp 163 (.op .p (.op (.cl [.int .i64]) (.op .p (.op .p (.op .p (.op .p (.nil))))))) (.op .p (.op .p (.op .p (.op .p (.op .p (.op .p (.nil)))))))))))))))) (.seq (.reg (.op .p (.op (.cl []) (.nil)))) (.seq (.reg (.op .p (.op .p (.nil)))) (.leaf)))))) (.seq (.reg (.op .p (.op .p (.nil)))) (.cond (.seq (.reg (.op .p (.op .p (.op (.ld (.str)) (.op .p (.op (.ld (.int .i64)) (.op .p (.op (.ld (.int .i64)) (.op (.cl [.slice, .val]) (.op .p (.op .p (.op .p (.op .p (.op .p (.nil))))))))))))))) (.seq (.reg (.op .p (.op .p (.op (.ld (.str)) (.op .p (.op (.ld (.int .i64)) (.op .p (.op (.ld (.int .i64)) (.op (.cl [.slice, .int .i64]) (.op .p (.op .p (.op .p (.op .p (.op .p (.nil))))))))))))))) (.seq (.reg (.op .p (.op (.ld (.str)) (.op .p (.op (.ld (.str)) (.op .p (.op .p (.sp 201 (.op .p (.op (.cl [.int .i64]) (.op .p (.op .p (.op .p (.op .p (.nil))))))) (.op .p (.op .p (.op .p (.op .p (.op .p (.op .p (.nil))))))))))))))) (.leaf)))) (.seq (.reg (.op .p (.op .p (.nil)))) (.cond (.seq (.seq (.reg (.op .p (.op (.ld (.int .i64)) (.op .p (.nil))))) (.cond (.seq (.reg (.op .p (.op .p (.op (.ld (.int .i64)) (.op (.cl [.val]) (.op (.cl [.int .i64]) (.op .p (.op .p (.nil))))))))) (.leaf)) (.leaf))) (.seq (.reg (.op .p (.op .p (.op (.ld (.int .i64)) (.op .p (.op .p (.op .u (.nil)))))))) (.seq (.reg (.op .p (.op .p (.op (.ld (.int .i64)) (.op (.cl [.val]) (.op (.ld (.bool)) (.op .p (.nil)))))))) (.leaf)))) (.seq (.reg (.op .p (.op .p (.nil)))) (.cond (.seq (.reg (.op .p (.op (.ld (.int .i64)) (.op (.r (.slice)) (.op .p (.op .p (.op (.ld (.slice)) (.op (.r (.slice)) (.op .p (.nil)))))))))) (.seq (.reg (.op .p (.op .p (.op (.cl [.val]) (.op .p (.nil)))))) (.seq (.seq (.reg (.op .p (.op .p (.op .p (.nil))))) (.blk (.loop [6, 23, 242, 243, 244, 245, 246, 247, 248, 249, 250, 251] [242] [.int .i64] (.seq (.reg (.op .p (.nil))) (.seq (.cond (.leaf) (.leaf)) (.seq (.blk (.seq (.reg (.op .ix (.op (.ld (.int .i64)) (.op .p (.nil))))) (.seq (.reg (.op .p (.op .p (.nil)))) (.cond (.seq (.reg (.op .p (.op .p (.op (.ld (.bool)) (.op .p (.nil)))))) (.leaf)) (.leaf))))) (.reg (.op .p (.op .p (.nil)))))))))) (.seq (.reg (.op .p (.op (.r (.slice)) (.op .p (.op (.r (.slice)) (.op .p (.op .p (.op .u (.nil))))))))) (.seq (.seq (.reg (.op .p (.op .p (.op .p (.nil))))) (.blk (.loop [24, 260, 261, 262, 263, 264, 265, 266] [260] [.int .i64] (.seq (.reg (.op .p (.nil))) (.seq (.cond (.leaf) (.leaf)) (.seq (.blk (.seq (.reg (.op .p (.op .p (.nil)))) (.reg (.op .p (.op .p (.op .ix (.op .u (.nil)))))))) (.reg (.op .p (.op .p (.nil)))))))))) (.seq (.reg (.op .p (.op (.ld (.bool)) (.op .p (.nil))))) (.leaf))))))) (.seq (.reg (.op .p (.op .p (.nil)))) (.join [6, 25, 26, 27, 271, 272, 273, 274, 275, 276, 277, 278, 279, 280, 281, 282, 283, 284, 285, 286, 287, 288, 289, 290, 291, 292, 293, 294, 295, 296, 297, 298, 299, 300, 301, 302, 303, 304, 305, 306, 307, 308, 309, 310, 311, 312, 313, 314, 315, 316, 317, 318] [] [] (.cond (.seq (.reg (.op .p (.op .p (.op (.ld (.agg)) (.op (.cl []) (.nil)))))) (.reg (.op .p (.op .p (.op (.ld (.agg)) (.op (.cl []) (.nil))))))) (.seq (.reg (.op .p (.op .p (.nil)))) (.cond (.seq (.reg (.op .p (.op (.ld (.slice)) (.op (.cl [.slice]) (.op .p (.nil)))))) (.seq (.reg (.op .p (.op .p (.op (.ld (.str)) (.op .p (.op (.cl [.val]) (.op .p (.nil)))))))) (.seq (.join [27, 289, 290, 291, 292, 293, 294, 295, 296, 297, 298, 299, 300, 301, 302, 303] [27] [.bool] (.drawS (.tk 0 .p (.tk 2 .p (.tk 3 .p (.tk 5 .p (.ts 4 (.str) (.ts 6 (.slice) (.go 1 (.cl [.int .i64]) (.go 7 (.cl [.int .i64]) (.tk 8 .p (.tk 9 .p (.sp 298 (.tk 10 .p (.tk 11 .p (.ts 12 (.slice) (.go 13 (.cl [.bool]) (.tk 14 .p (.tk 15 .p (.nil))))))) (.tk 10 .p (.tk 11 .p (.ts 12 .val (.go 13 .p (.tk 14 .p (.tk 15 .p (.nil)))))))))))))))))) [])) (.seq (.reg (.op .p (.op (.cl []) (.nil)))) (.seq (.reg (.op .p (.op .p (.nil)))) (.leaf)))))) (.seq (.reg (.op .p (.op .p (.nil)))) (.cond (.seq (.drawS (.tk 0 .p (.tk 1 .p (.tk 5 .p (.tk 6 .p (.ts 2 (.str) (.ts 7 (.str) (.go 3 (.cl [.val]) (.go 4 (.cl [.int .i64]) (.go 8 (.cl [.int .i64]) (.tk 9 .p (.tk 10 .p (.nil)))))))))))) []) (.leaf)) (.leaf)))))))))))))))))))))))))))))) (.seq (.reg (.op .p (.nil))) (.leaf))))
    (by kernel_rfl) Try.func29 (by kernel_rfl) (by kernel_rfl) (by kernel_rfl) (by kernel_rfl) h

set_option maxRecDepth 100000 in
theorem amphoralaw01_long_vc (a0a : Option Addr) (a0n : Nat) (a0c : Nat) (w : World) (R : Ending → World → Prop) (h :
  ∃ (I : Int → Int → World → Prop) (μ : Int → Int → World → Nat), I 0 0 w ∧
  (∀ (x3 : Int) (x8 : Int), ∀ w1 : World, I x3 x8 w1 →
    (((decide (x8 < ((a0n : Nat) : Int))) = true →
        (∃ (t10b t10o : Nat), a0a = some ⟨t10b, t10o, none⟩ ∧ 0 ≤ x8 ∧ x8 < ((a0n : Nat) : Int) ∧
          (∃ (t11 : Array Value), (Instr.loadAt 57 (.pointer (some ⟨t10b, t10o + Int.toNat x8 * 8, none⟩))).run Try.prog w1 = .ok (.agg t11) w1 ∧
            (∃ (g5 : Nat) (w2 : World), (Instr.alloc 57 true (.tuple #[])).run Try.prog w1 = .ok (.pointer (some ⟨g5, 0, none⟩)) w2 ∧
              (∃ w3 : World, (Instr.storeAt 57 (.pointer (some ⟨g5, 0, none⟩)) (.agg t11)).run Try.prog w2 = .ok () w3 ∧
                (∃ (t15a : Option Addr) (t15n : Nat) (t15c : Nat), (Instr.loadAt 22 (.pointer (some ⟨g5, 3, none⟩))).run Try.prog w3 = .ok (.slice t15a t15n t15c) w3 ∧
                  ((((decide (((t15n : Nat) : Int) > (1048576 : Int))) || (decide ((IntKind.wrap .i64 (x3 + (100 : Int))) > (32768 : Int)))) = true →
                      (R (.returned (.bool true)) w3)) ∧
                    (((decide (((t15n : Nat) : Int) > (1048576 : Int))) || (decide ((IntKind.wrap .i64 (x3 + (100 : Int))) > (32768 : Int)))) = false →
                      (∃ (t24a : Option Addr) (t24n : Nat) (t24c : Nat), (Instr.loadAt 22 (.pointer (some ⟨g5, 3, none⟩))).run Try.prog w3 = .ok (.slice t24a t24n t24c) w3 ∧
                        (I (IntKind.wrap .i64 ((IntKind.wrap .i64 (x3 + (100 : Int))) + (IntKind.wrap .i64 (Int.tdiv ((t24n : Nat) : Int) (64 : Int))))) (IntKind.wrap .i64 (x8 + (1 : Int))) w3 ∧ μ (IntKind.wrap .i64 ((IntKind.wrap .i64 (x3 + (100 : Int))) + (IntKind.wrap .i64 (Int.tdiv ((t24n : Nat) : Int) (64 : Int))))) (IntKind.wrap .i64 (x8 + (1 : Int))) w3 < μ x3 x8 w1)))))))))) ∧
      ((decide (x8 < ((a0n : Nat) : Int))) = false →
        (R (.returned (.bool false)) w1))))) : Calls Try.prog 22 #[(.slice a0a a0n a0c)] w R :=
  calls_of_ev (args := [(.slice a0a a0n a0c)])
    (tc := .seq (.reg (.op .p (.nil))) (.seq (.reg (.op .p (.nil))) (.seq (.seq (.reg (.op .p (.op .p (.op .p (.nil))))) (.blk (.loop [2, 3, 5, 8, 9, 10, 11, 12, 13, 14, 15, 16, 17, 18, 19, 20, 21, 22, 23, 24, 25, 26, 27, 28] [3, 8] [.int .i64, .int .i64] (.seq (.reg (.op .p (.nil))) (.seq (.cond (.leaf) (.leaf)) (.seq (.blk (.seq (.reg (.op .ix (.op (.ld (.agg)) (.op .bx (.op .u (.nil)))))) (.seq (.reg (.op .p (.op .p (.op .p (.nil))))) (.seq (.seq (.reg (.op .p (.op (.ld (.slice)) (.op .p (.op .p (.op .p (.ap 2 (.nil)))))))) (.cond (.seq (.reg (.op .p (.nil))) (.leaf)) (.leaf))) (.reg (.op .p (.op .p (.op (.ld (.slice)) (.op .p (.op .p (.op .p (.op .p (.nil))))))))))))) (.reg (.op .p (.op .p (.nil)))))))))) (.seq (.reg (.op .p (.nil))) (.leaf)))))
    (by kernel_rfl) Try.func22 (by kernel_rfl) (by kernel_rfl) (by kernel_rfl) (by kernel_rfl) h

set_option maxRecDepth 100000 in
theorem amphoralaw01_same_vc (a0b : Nat) (a0o : Nat) (a1b : Nat) (a1o : Nat) (w : World) (R : Ending → World → Prop) (h :
  ∃ S : World → Prop, S w.drew ∧
  (Calls Try.prog 17 #[(.pointer (some ⟨a0b, a0o, none⟩))] w.drew fun (e6 : Ending) (w1 : World) => ∃ (t6a : Option Addr) (t6n : Nat) (t6c : Nat), e6 = .returned (.slice t6a t6n t6c) ∧
    (∃ S_1 : World → Prop, (∀ w' : World, S_1 w' → S w') ∧ S_1 w1 ∧
      (Calls Try.prog 62 #[(.pointer (some ⟨a1b, a1o, none⟩))] w1 fun (e8 : Ending) (w2 : World) => ∃ (t8a : Option Addr) (t8n : Nat) (t8c : Nat), e8 = .returned (.slice t8a t8n t8c) ∧
        (∃ S_2 : World → Prop, (∀ w' : World, S_2 w' → S_1 w') ∧ S_2 w2 ∧
          (Calls Try.prog 26 #[(.slice t6a t6n t6c), (.slice t8a t8n t8c)] w2 fun (e9 : Ending) (w3 : World) => ∃ (t9 : Bool), e9 = .returned (.bool t9) ∧
            (∃ S_3 : World → Prop, (∀ w' : World, S_3 w' → S_2 w') ∧ S_3 w3 ∧
              ((t9 = true →
                  (Calls Try.prog 18 #[(.pointer (some ⟨a0b, a0o, none⟩))] w3 fun (e12 : Ending) (w4 : World) => ∃ (t12a : Option Addr) (t12n : Nat) (t12c : Nat), e12 = .returned (.slice t12a t12n t12c) ∧
                    (∃ S_4 : World → Prop, (∀ w' : World, S_4 w' → S_3 w') ∧ S_4 w4 ∧
                      (Calls Try.prog 63 #[(.pointer (some ⟨a1b, a1o, none⟩))] w4 fun (e14 : Ending) (w5 : World) => ∃ (t14a : Option Addr) (t14n : Nat) (t14c : Nat), e14 = .returned (.slice t14a t14n t14c) ∧
                        (∃ S_5 : World → Prop, (∀ w' : World, S_5 w' → S_4 w') ∧ S_5 w5 ∧
                          (Calls Try.prog 20 #[(.slice t12a t12n t12c), (.slice t14a t14n t14c)] w5 fun (e15 : Ending) (w6 : World) => ∃ (t15 : Bool), e15 = .returned (.bool t15) ∧
                            (∃ S_6 : World → Prop, (∀ w' : World, S_6 w' → S_5 w') ∧ S_6 w6 ∧
                              ((t15 = true →
                                  (Calls Try.prog 39 #[(.pointer (some ⟨a0b, a0o, none⟩))] w6 fun (e19 : Ending) (w7 : World) => ∃ (t19 : Int), e19 = .returned (.int .i64 t19) ∧
                                    (∃ S_7 : World → Prop, (∀ w' : World, S_7 w' → S_6 w') ∧ S_7 w7 ∧
                                      (Calls Try.prog 64 #[(.pointer (some ⟨a1b, a1o, none⟩))] w7 fun (e21 : Ending) (w8 : World) => ∃ (t21 : Int), e21 = .returned (.int .i64 t21) ∧
                                        (∃ S_8 : World → Prop, (∀ w' : World, S_8 w' → S_7 w') ∧ S_8 w8 ∧
                                          (((t19 == t21) = true →
                                              (∃ (t30 : Int), (∀ w' : World, S_8 w' → (Instr.loadAt 3 (.pointer (some ⟨a1b, a1o + 5, none⟩))).run Try.prog w' = .ok (.int .i64 t30) w') ∧
                                                (Calls Try.prog 23 #[(.pointer (some ⟨a0b, a0o, none⟩))] w8 fun (e26 : Ending) (w9 : World) => ∃ (t26 : Int), e26 = .returned (.int .i64 t26) ∧
                                                  (∃ S_9 : World → Prop, (∀ w' : World, S_9 w' → S_8 w') ∧ S_9 w9 ∧
                                                    (((t26 == t30) = true →
                                                        (∃ (t39 : Bool), (∀ w' : World, S_9 w' → (Instr.loadAt 4 (.pointer (some ⟨a1b, a1o + 6, none⟩))).run Try.prog w' = .ok (.bool t39) w') ∧
                                                          (Calls Try.prog 40 #[(.pointer (some ⟨a0b, a0o, none⟩))] w9 fun (e35 : Ending) (w10 : World) => ∃ (t35 : Bool), e35 = .returned (.bool t35) ∧
                                                            (∃ S_10 : World → Prop, (∀ w' : World, S_10 w' → S_9 w') ∧ S_10 w10 ∧
                                                              (R (.returned (.bool (t35 == t39))) w10))))) ∧
                                                      ((t26 == t30) = false →
                                                        (S_9 w9 ∧
                                                          (R (.returned (.bool false)) w9)))))))) ∧
                                            ((t19 == t21) = false →
                                              (S_8 w8 ∧
                                                (S_8 w8 ∧
                                                  (R (.returned (.bool false)) w8)))))))))) ∧
                                (t15 = false →
                                  (S_6 w6 ∧
                                    (S_6 w6 ∧
                                      (S_6 w6 ∧
                                        (S_6 w6 ∧
                                          (R (.returned (.bool false)) w6)))))))))))))) ∧
                (t9 = false →
                  (S_3 w3 ∧
                    (S_3 w3 ∧
                      (S_3 w3 ∧
                        (S_3 w3 ∧
                          (S_3 w3 ∧
                            (S_3 w3 ∧
                              (S_3 w3 ∧
                                (R (.returned (.bool false)) w3))))))))))))))))) : Calls Try.prog 30 #[(.pointer (some ⟨a0b, a0o, none⟩)), (.pointer (some ⟨a1b, a1o, none⟩))] w R :=
  calls_of_ev (args := [(.pointer (some ⟨a0b, a0o, none⟩)), (.pointer (some ⟨a1b, a1o, none⟩))])
    (tc := .seq (.reg (.op .p (.nil))) (.seq (.drawS (.tk 0 .p (.tk 2 .p (.go 1 (.cl [.slice]) (.go 3 (.cl [.slice]) (.go 4 (.cl [.bool]) (.tk 5 .p (.sp 10 (.tk 6 .p (.tk 8 .p (.go 7 (.cl [.slice]) (.go 9 (.cl [.slice]) (.go 10 (.cl [.bool]) (.tk 11 .p (.tk 12 .p (.sp 17 (.tk 13 .p (.tk 15 .p (.go 14 (.cl [.int .i64]) (.go 16 (.cl [.int .i64]) (.tk 17 .p (.tk 18 .p (.tk 19 .p (.sp 24 (.tk 20 .p (.tk 22 .p (.tk 23 .p (.tk 24 .p (.ts 25 (.int .i64) (.go 21 (.cl [.int .i64]) (.tk 26 .p (.tk 27 .p (.tk 28 .p (.sp 33 (.tk 29 .p (.tk 31 .p (.tk 32 .p (.tk 33 .p (.ts 34 (.bool) (.go 30 (.cl [.bool]) (.tk 35 .p (.tk 36 .p (.tk 37 .p (.nil)))))))))) (.tk 29 .p (.tk 31 .p (.tk 32 .p (.tk 33 .p (.ts 34 .val (.go 30 .p (.tk 35 .p (.tk 36 .p (.tk 37 .p (.nil)))))))))))))))))))) (.tk 20 .p (.tk 22 .p (.tk 23 .p (.tk 24 .p (.ts 25 .val (.go 21 .p (.tk 26 .p (.tk 27 .p (.tk 28 .p (.tk 29 .p (.tk 31 .p (.tk 32 .p (.tk 33 .p (.ts 34 .val (.go 30 .p (.tk 35 .p (.tk 36 .p (.tk 37 .p (.nil))))))))))))))))))))))))))) (.tk 13 .p (.tk 15 .p (.go 14 .p (.go 16 .p (.tk 17 .p (.tk 18 .p (.tk 19 .p (.tk 20 .p (.tk 22 .p (.tk 23 .p (.tk 24 .p (.ts 25 .val (.go 21 .p (.tk 26 .p (.tk 27 .p (.tk 28 .p (.tk 29 .p (.tk 31 .p (.tk 32 .p (.tk 33 .p (.ts 34 .val (.go 30 .p (.tk 35 .p (.tk 36 .p (.tk 37 .p (.nil)))))))))))))))))))))))))))))))))) (.tk 6 .p (.tk 8 .p (.go 7 .p (.go 9 .p (.go 10 .p (.tk 11 .p (.tk 12 .p (.tk 13 .p (.tk 15 .p (.go 14 .p (.go 16 .p (.tk 17 .p (.tk 18 .p (.tk 19 .p (.tk 20 .p (.tk 22 .p (.tk 23 .p (.tk 24 .p (.ts 25 .val (.go 21 .p (.tk 26 .p (.tk 27 .p (.tk 28 .p (.tk 29 .p (.tk 31 .p (.tk 32 .p (.tk 33 .p (.ts 34 .val (.go 30 .p (.tk 35 .p (.tk 36 .p (.tk 37 .p (.nil)))))))))))))))))))))))))))))))))))))))) []) (.leaf)))
    (by kernel_rfl) Try.func30 (by kernel_rfl) (by kernel_rfl) (by kernel_rfl) (by kernel_rfl) h

set_option maxRecDepth 100000 in
theorem amphoralaw01_play_vc (a0b : Nat) (a0o : Nat) (a1 : Array Value) (w : World) (R : Ending → World → Prop) (h :
  ∃ (g3 : Nat) (w1 : World), (Instr.box 57 (.agg a1)).run Try.prog w = .ok (.pointer (some ⟨g3, 0, none⟩)) w1 ∧
  (∃ (t6 : Int), (Instr.loadAt 3 (.pointer (some ⟨g3, 0, none⟩))).run Try.prog w1 = .ok (.int .i64 t6) w1 ∧
    (((t6 == (0 : Int)) = true →
        (∃ (t11 : ByteArray), (Instr.loadAt 9 (.pointer (some ⟨g3, 1, none⟩))).run Try.prog w1 = .ok (.string t11) w1 ∧
          (Calls Try.prog 10 #[(.pointer (some ⟨a0b, a0o, none⟩)), (.string t11)] w1 fun (e12 : Ending) (w2 : World) => ∃ (t12 : Value), e12 = .returned t12 ∧
            (R (.returned t12) w2)))) ∧
      ((t6 == (0 : Int)) = false →
        (((t6 == (1 : Int)) = true →
            (∃ S : World → Prop, S w1.drew ∧
              (∃ (t17 : ByteArray), (∀ w' : World, S w' → (Instr.loadAt 9 (.pointer (some ⟨g3, 1, none⟩))).run Try.prog w' = .ok (.string t17) w') ∧
                (∃ (t20a : Option Addr) (t20n : Nat) (t20c : Nat), (∀ w' : World, S w' → (Instr.loadAt 22 (.pointer (some ⟨g3, 3, none⟩))).run Try.prog w' = .ok (.slice t20a t20n t20c) w') ∧
                  (∃ (t18a : Option Addr) (t18n : Nat) (t18c : Nat) (w3 : World), (Instr.buildSlice 22 0 #[]).run Try.prog w1.drew = .ok (.slice t18a t18n t18c) w3 ∧
                    (∃ S_1 : World → Prop, (∀ w' : World, S_1 w' → S w') ∧ S_1 w3 ∧
                      (∃ (t21a : Option Addr) (t21n : Nat) (t21c : Nat) (w4 : World), (Builtin.append_ #[22, 22] 22 #[(.slice t18a t18n t18c), (.slice t20a t20n t20c)]).run Try.prog w3 = .ok (.slice t21a t21n t21c) w4 ∧
                        (∃ S_2 : World → Prop, (∀ w' : World, S_2 w' → S_1 w') ∧ S_2 w4 ∧
                          (∃ (t22a : Option Addr) (t22n : Nat) (t22c : Nat) (w5 : World), (Instr.buildSlice 44 1 #[(0, (.slice t21a t21n t21c))]).run Try.prog w4 = .ok (.slice t22a t22n t22c) w5 ∧
                            (∃ S_3 : World → Prop, (∀ w' : World, S_3 w' → S_2 w') ∧ S_3 w5 ∧
                              (Calls Try.prog 12 #[(.pointer (some ⟨a0b, a0o, none⟩)), (.string t17), (.slice t22a t22n t22c)] w5 fun (e23 : Ending) (w6 : World) => ∃ (t23 : Value), e23 = .returned t23 ∧
                                (∃ S_4 : World → Prop, (∀ w' : World, S_4 w' → S_3 w') ∧ S_4 w6 ∧
                                  (R (.returned t23) w6))))))))))))) ∧
          ((t6 == (1 : Int)) = false →
            (((t6 == (2 : Int)) = true →
                (∃ (t28 : ByteArray), (Instr.loadAt 9 (.pointer (some ⟨g3, 1, none⟩))).run Try.prog w1 = .ok (.string t28) w1 ∧
                  (Calls Try.prog 31 #[(.pointer (some ⟨a0b, a0o, none⟩)), (.string t28)] w1 fun (e29 : Ending) (w7 : World) => ∃ (t29 : Value), e29 = .returned t29 ∧
                    (R (.returned t29) w7)))) ∧
              ((t6 == (2 : Int)) = false →
                (((t6 == (3 : Int)) = true →
                    (Calls Try.prog 32 #[(.pointer (some ⟨a0b, a0o, none⟩))] w1 fun (e33 : Ending) (w8 : World) => ∃ (t33 : Value), e33 = .returned t33 ∧
                      (R (.returned t33) w8))) ∧
                  ((t6 == (3 : Int)) = false →
                    (((t6 == (4 : Int)) = true →
                        (∃ (t38 : ByteArray), (Instr.loadAt 9 (.pointer (some ⟨g3, 1, none⟩))).run Try.prog w1 = .ok (.string t38) w1 ∧
                          (∃ (t40 : ByteArray), (Instr.loadAt 9 (.pointer (some ⟨g3, 2, none⟩))).run Try.prog w1 = .ok (.string t40) w1 ∧
                            (Calls Try.prog 33 #[(.pointer (some ⟨a0b, a0o, none⟩)), (.string t38), (.string t40)] w1 fun (e41 : Ending) (w9 : World) => ∃ (t41 : Value), e41 = .returned t41 ∧
                              (R (.returned t41) w9))))) ∧
                      ((t6 == (4 : Int)) = false →
                        (((t6 == (5 : Int)) = true →
                            (∃ (t46 : ByteArray), (Instr.loadAt 9 (.pointer (some ⟨g3, 1, none⟩))).run Try.prog w1 = .ok (.string t46) w1 ∧
                              (Calls Try.prog 34 #[(.pointer (some ⟨a0b, a0o, none⟩)), (.string t46)] w1 fun (e47 : Ending) (w10 : World) => ∃ (t47 : Value), e47 = .returned t47 ∧
                                (R (.returned t47) w10)))) ∧
                          ((t6 == (5 : Int)) = false →
                            (((t6 == (8 : Int)) = true →
                                (∃ (t52 : Int), (Instr.loadAt 3 (.pointer (some ⟨g3, 4, none⟩))).run Try.prog w1 = .ok (.int .i64 t52) w1 ∧
                                  (Calls Try.prog 35 #[(.pointer (some ⟨a0b, a0o, none⟩)), (.int .i64 t52)] w1 fun (e53 : Ending) (w11 : World) => ∃ (t53 : Value), e53 = .returned t53 ∧
                                    (R (.returned t53) w11)))) ∧
                              ((t6 == (8 : Int)) = false →
                                (((t6 == (9 : Int)) = true →
                                    (∃ (t58 : Int), (Instr.loadAt 3 (.pointer (some ⟨g3, 4, none⟩))).run Try.prog w1 = .ok (.int .i64 t58) w1 ∧
                                      (∃ (t59a : Option Addr) (t59n : Nat) (t59c : Nat) (w12 : World), (Instr.buildSlice 48 1 #[(0, (.int .i64 t58))]).run Try.prog w1 = .ok (.slice t59a t59n t59c) w12 ∧
                                        (∃ (t62a : Option Addr) (t62n : Nat) (t62c : Nat), (Instr.loadAt 48 (.pointer (some ⟨g3, 7, none⟩))).run Try.prog w12 = .ok (.slice t62a t62n t62c) w12 ∧
                                          (∃ (t63a : Option Addr) (t63n : Nat) (t63c : Nat) (w13 : World), (Builtin.append_ #[48, 48] 48 #[(.slice t59a t59n t59c), (.slice t62a t62n t62c)]).run Try.prog w12 = .ok (.slice t63a t63n t63c) w13 ∧
                                            (Calls Try.prog 36 #[(.pointer (some ⟨a0b, a0o, none⟩)), (.slice t63a t63n t63c)] w13 fun (e64 : Ending) (w14 : World) => ∃ (t64 : Value), e64 = .returned t64 ∧
                                              (R (.returned t64) w14))))))) ∧
                                  ((t6 == (9 : Int)) = false →
                                    (R (.returned .nilIface) w1))))))))))))))))))) : Calls Try.prog 24 #[(.pointer (some ⟨a0b, a0o, none⟩)), (.agg a1)] w R :=
  calls_of_ev (args := [(.pointer (some ⟨a0b, a0o, none⟩)), (.agg a1)])
    (tc := .seq (.reg (.op .bx (.op .p (.nil)))) (.seq (.seq (.reg (.op .p (.op (.ld (.int .i64)) (.nil)))) (.blk (.seq (.reg (.op .p (.op .p (.nil)))) (.cond (.seq (.reg (.op .p (.op .p (.op (.ld (.str)) (.op (.cl [.val]) (.op .p (.nil))))))) (.leaf)) (.seq (.reg (.op .p (.op .p (.nil)))) (.cond (.seq (.drawS (.tk 0 .p (.tk 1 .p (.tk 4 .p (.ts 2 (.str) (.ts 5 (.slice) (.go 3 (.r (.slice)) (.go 6 (.r (.slice)) (.go 7 (.r (.slice)) (.go 8 (.cl [.val]) (.tk 9 .p (.nil))))))))))) []) (.leaf)) (.seq (.reg (.op .p (.op .p (.nil)))) (.cond (.seq (.reg (.op .p (.op .p (.op (.ld (.str)) (.op (.cl [.val]) (.op .p (.nil))))))) (.leaf)) (.seq (.reg (.op .p (.op .p (.nil)))) (.cond (.seq (.reg (.op .p (.op (.cl [.val]) (.op .p (.nil))))) (.leaf)) (.seq (.reg (.op .p (.op .p (.nil)))) (.cond (.seq (.reg (.op .p (.op .p (.op (.ld (.str)) (.op .p (.op (.ld (.str)) (.op (.cl [.val]) (.op .p (.nil))))))))) (.leaf)) (.seq (.reg (.op .p (.op .p (.nil)))) (.cond (.seq (.reg (.op .p (.op .p (.op (.ld (.str)) (.op (.cl [.val]) (.op .p (.nil))))))) (.leaf)) (.seq (.reg (.op .p (.op .p (.nil)))) (.cond (.seq (.reg (.op .p (.op .p (.op (.ld (.int .i64)) (.op (.cl [.val]) (.op .p (.nil))))))) (.leaf)) (.seq (.reg (.op .p (.op .p (.nil)))) (.cond (.seq (.reg (.op .p (.op .p (.op (.ld (.int .i64)) (.op (.r (.slice)) (.op .p (.op .p (.op (.ld (.slice)) (.op (.r (.slice)) (.op (.cl [.val]) (.op .p (.nil)))))))))))) (.leaf)) (.leaf))))))))))))))))))) (.seq (.reg (.op .p (.nil))) (.leaf))))
    (by kernel_rfl) Try.func24 (by kernel_rfl) (by kernel_rfl) (by kernel_rfl) (by kernel_rfl) h

set_option maxRecDepth 100000 in
theorem amphoralaw01_keeps_vc (a0a : Option Addr) (a0n : Nat) (a0c : Nat) (a1a : Option Addr) (a1n : Nat) (a1c : Nat) (a2 : Array Value) (a3a : Option Addr) (a3n : Nat) (a3c : Nat) (w : World) (R : Ending → World → Prop) (h :
  ∃ (g6 : Nat) (w1 : World), (Instr.box 50 (.agg a2)).run Try.prog w = .ok (.pointer (some ⟨g6, 0, none⟩)) w1 ∧
  (Calls Try.prog 8 #[] w1 fun (e14 : Ending) (w2 : World) => ∃ (t14 : Bool), e14 = .returned (.bool t14) ∧
    (((!t14) = true →
        (R (.returned (.bool false)) w2)) ∧
      ((!t14) = false →
        (Calls Try.prog 22 #[(.slice a1a a1n a1c)] w2 fun (e17 : Ending) (w3 : World) => ∃ (t17 : Bool), e17 = .returned (.bool t17) ∧
          ((((t17 || (decide (((a0n : Nat) : Int) > (65536 : Int)))) || (decide (((a3n : Nat) : Int) > (65536 : Int)))) = true →
              (R (.returned (.bool true)) w3)) ∧
            (((t17 || (decide (((a0n : Nat) : Int) > (65536 : Int)))) || (decide (((a3n : Nat) : Int) > (65536 : Int)))) = false →
              (Calls Try.prog 9 #[(.int .i64 1048576)] w3 fun (e29 : Ending) (w4 : World) => ∃ (t29_0 : Value) (t29_1 : Value), e29 = .returned (.tuple #[t29_0, t29_1]) ∧
                (∃ J : Bool → World → Prop, (∃ (t33 : Bool), (eqlS .neq 26 (.tmp 32) (.const .nilIface) t29_1 .nilIface).run Try.prog w4 = .ok (.bool t33) w4 ∧
                    ((t33 = true →
                        (J true w4)) ∧
                      (t33 = false →
                        (∃ (t36 : Bool), (eqlS .eql 24 (.tmp 35) (.const (.pointer none)) t29_0 (.pointer none)).run Try.prog w4 = .ok (.bool t36) w4 ∧
                          ((t36 = true →
                              (J true w4)) ∧
                            (t36 = false →
                              (Calls Try.prog 10 #[t29_0, (.string (ByteArray.mk #[107, 101, 112, 116]))] w4 fun (e40 : Ending) (w5 : World) => ∃ (t40 : Value), e40 = .returned t40 ∧
                                (∃ (t41 : Bool), (eqlS .neq 26 (.tmp 40) (.const .nilIface) t40 .nilIface).run Try.prog w5 = .ok (.bool t41) w5 ∧
                                  ((t41 = true →
                                      (J true w5)) ∧
                                    (t41 = false →
                                      (∃ (t45a : Option Addr) (t45n : Nat) (t45c : Nat) (w6 : World), (Instr.buildSlice 22 0 #[]).run Try.prog w5 = .ok (.slice t45a t45n t45c) w6 ∧
                                        (∃ (t47a : Option Addr) (t47n : Nat) (t47c : Nat) (w7 : World), (Builtin.append_ #[22, 22] 22 #[(.slice t45a t45n t45c), (.slice a0a a0n a0c)]).run Try.prog w6 = .ok (.slice t47a t47n t47c) w7 ∧
                                          (∃ (t48a : Option Addr) (t48n : Nat) (t48c : Nat) (w8 : World), (Instr.buildSlice 44 1 #[(0, (.slice t47a t47n t47c))]).run Try.prog w7 = .ok (.slice t48a t48n t48c) w8 ∧
                                            (Calls Try.prog 12 #[t29_0, (.string (ByteArray.mk #[107, 101, 112, 116])), (.slice t48a t48n t48c)] w8 fun (e49 : Ending) (w9 : World) => ∃ (t49 : Value), e49 = .returned t49 ∧
                                              (∃ (t50 : Bool), (eqlS .neq 26 (.tmp 49) (.const .nilIface) t49 .nilIface).run Try.prog w9 = .ok (.bool t50) w9 ∧
                                                ((t50 = true →
                                                    (J true w9)) ∧
                                                  (t50 = false →
                                                    (Calls Try.prog 31 #[t29_0, (.string (ByteArray.mk #[107, 101, 112, 116]))] w9 fun (e54 : Ending) (w10 : World) => ∃ (t54 : Value), e54 = .returned t54 ∧
                                                      (∃ (t55 : Bool), (eqlS .neq 26 (.tmp 54) (.const .nilIface) t54 .nilIface).run Try.prog w10 = .ok (.bool t55) w10 ∧
                                                        ((t55 = true →
                                                            (J true w10)) ∧
                                                          (t55 = false →
                                                            (Calls Try.prog 32 #[t29_0] w10 fun (e59 : Ending) (w11 : World) => ∃ (t59 : Value), e59 = .returned t59 ∧
                                                              (∃ (t60 : Bool), (eqlS .neq 26 (.tmp 59) (.const .nilIface) t59 .nilIface).run Try.prog w11 = .ok (.bool t60) w11 ∧
                                                                (J t60 w11)))))))))))))))))))))))) ∧
                  (∀ (x61 : Bool), ∀ w12 : World, J x61 w12 →
                    ((x61 = true →
                        (R (.returned (.bool false)) w12)) ∧
                      (x61 = false →
                        (∃ (I : Int → World → Prop) (μ : Int → World → Nat), I 0 w12 ∧
                          (∀ (x64 : Int), ∀ w13 : World, I x64 w13 →
                            (((decide (x64 < ((a1n : Nat) : Int))) = true →
                                (∃ (t67b t67o : Nat), a1a = some ⟨t67b, t67o, none⟩ ∧ 0 ≤ x64 ∧ x64 < ((a1n : Nat) : Int) ∧
                                  (∃ (t68 : Array Value), (Instr.loadAt 57 (.pointer (some ⟨t67b, t67o + Int.toNat x64 * 8, none⟩))).run Try.prog w13 = .ok (.agg t68) w13 ∧
                                    (∃ (g12 : Nat) (w14 : World), (Instr.alloc 57 true (.tuple #[])).run Try.prog w13 = .ok (.pointer (some ⟨g12, 0, none⟩)) w14 ∧
                                      (∃ w15 : World, (Instr.storeAt 57 (.pointer (some ⟨g12, 0, none⟩)) (.agg t68)).run Try.prog w14 = .ok () w15 ∧
                                        (∃ J_1 : Bool → World → Prop, (∃ (t70 : ByteArray), (Instr.loadAt 9 (.pointer (some ⟨g12, 1, none⟩))).run Try.prog w15 = .ok (.string t70) w15 ∧
                                            (((t70.toList == (ByteArray.mk #[107, 101, 112, 116]).toList) = true →
                                                (J_1 true w15)) ∧
                                              ((t70.toList == (ByteArray.mk #[107, 101, 112, 116]).toList) = false →
                                                (∃ (t74 : ByteArray), (Instr.loadAt 9 (.pointer (some ⟨g12, 2, none⟩))).run Try.prog w15 = .ok (.string t74) w15 ∧
                                                  (((t74.toList == (ByteArray.mk #[107, 101, 112, 116]).toList) = true →
                                                      (J_1 true w15)) ∧
                                                    ((t74.toList == (ByteArray.mk #[107, 101, 112, 116]).toList) = false →
                                                      (∃ (t79 : Int), (Instr.loadAt 3 (.pointer (some ⟨g12, 0, none⟩))).run Try.prog w15 = .ok (.int .i64 t79) w15 ∧
                                                        (J_1 (decide (t79 > (9 : Int))) w15)))))))) ∧
                                          (∀ (x81 : Bool), ∀ w16 : World, J_1 x81 w16 →
                                            ((x81 = true →
                                                (I (IntKind.wrap .i64 (x64 + (1 : Int))) w16 ∧ μ (IntKind.wrap .i64 (x64 + (1 : Int))) w16 < μ x64 w13)) ∧
                                              (x81 = false →
                                                (∃ J_2 : World → Prop, (((x64 == (0 : Int)) = true →
                                                      (∃ (t85a : Option Addr) (t85n : Nat) (t85c : Nat) (w17 : World), (Instr.buildSlice 22 0 #[]).run Try.prog w16 = .ok (.slice t85a t85n t85c) w17 ∧
                                                        (∃ (t87a : Option Addr) (t87n : Nat) (t87c : Nat) (w18 : World), (Builtin.append_ #[22, 22] 22 #[(.slice t85a t85n t85c), (.slice a3a a3n a3c)]).run Try.prog w17 = .ok (.slice t87a t87n t87c) w18 ∧
                                                          (∃ (t88a : Option Addr) (t88n : Nat) (t88c : Nat) (w19 : World), (Instr.buildSlice 44 1 #[(0, (.slice t87a t87n t87c))]).run Try.prog w18 = .ok (.slice t88a t88n t88c) w19 ∧
                                                            (Calls Try.prog 12 #[t29_0, (.string (ByteArray.mk #[107, 101, 112, 116])), (.slice t88a t88n t88c)] w19 fun (e89 : Ending) (w20 : World) => ∃ (t89 : Value), e89 = .returned t89 ∧
                                                              (J_2  w20)))))) ∧
                                                    ((x64 == (0 : Int)) = false →
                                                      (J_2  w16))) ∧
                                                  (∀ w21 : World, J_2  w21 →
                                                    (∃ (t91 : Array Value), (Instr.loadAt 57 (.pointer (some ⟨g12, 0, none⟩))).run Try.prog w21 = .ok (.agg t91) w21 ∧
                                                      (Calls Try.prog 24 #[t29_0, (.agg t91)] w21 fun (e92 : Ending) (w22 : World) => ∃ (t92 : Value), e92 = .returned t92 ∧
                                                        (I (IntKind.wrap .i64 (x64 + (1 : Int))) w22 ∧ μ (IntKind.wrap .i64 (x64 + (1 : Int))) w22 < μ x64 w13)))))))))))))) ∧
                              ((decide (x64 < ((a1n : Nat) : Int))) = false →
                                (∃ (t95 : Array Value), (Instr.loadAt 50 (.pointer (some ⟨g6, 0, none⟩))).run Try.prog w13 = .ok (.agg t95) w13 ∧
                                  (Calls Try.prog 25 #[t29_0, (.agg t95)] w13 fun (e96 : Ending) (w23 : World) => e96 = .returned (.tuple #[]) ∧
                                    (Calls Try.prog 15 #[t29_0, (.string (ByteArray.mk #[107, 101, 112, 116]))] w23 fun (e99 : Ending) (w24 : World) => ∃ (t99_0a : Option Addr) (t99_0n : Nat) (t99_0c : Nat) (t99_1 : Value), e99 = .returned (.tuple #[(.slice t99_0a t99_0n t99_0c), t99_1]) ∧
                                      (∃ S : World → Prop, S w24.drew ∧
                                        (∃ (t103 : Bool), (∀ w' : World, S w' → (eqlS .eql 26 (.tmp 102) (.const .nilIface) t99_1 .nilIface).run Try.prog w' = .ok (.bool t103) w') ∧
                                          ((t103 = true →
                                              (((decide (((t99_0n : Nat) : Int) ≥ ((a0n : Nat) : Int))) = true →
                                                  (0 ≤ ((a0n : Nat) : Int) ∧ ((a0n : Nat) : Int) ≤ ((t99_0c : Nat) : Int) ∧
                                                    (∃ (t116 : ByteArray), (∀ w' : World, S w' → (convert 22 9 (.slice t99_0a (a0n) t99_0c)).run Try.prog w' = .ok (.string t116) w') ∧
                                                      (∃ (t118 : ByteArray), (∀ w' : World, S w' → (convert 22 9 (.slice a0a a0n a0c)).run Try.prog w' = .ok (.string t118) w') ∧
                                                        (((t116.toList == t118.toList) = true →
                                                            (R (.returned (.bool (decide (((t99_0n : Nat) : Int) ≤ (IntKind.wrap .i64 (((a0n : Nat) : Int) + ((a3n : Nat) : Int))))))) w24.drew)) ∧
                                                          ((t116.toList == t118.toList) = false →
                                                            (R (.returned (.bool false)) w24.drew))))))) ∧
                                                ((decide (((t99_0n : Nat) : Int) ≥ ((a0n : Nat) : Int))) = false →
                                                  (R (.returned (.bool false)) w24.drew)))) ∧
                                            (t103 = false →
                                              (R (.returned (.bool false)) w24.drew)))))))))))))))))))))))) : Calls Try.prog 21 #[(.slice a0a a0n a0c), (.slice a1a a1n a1c), (.agg a2), (.slice a3a a3n a3c)] w R :=
  calls_of_ev (args := [(.slice a0a a0n a0c), (.slice a1a a1n a1c), (.agg a2), (.slice a3a a3n a3c)])
    (tc := .seq (.reg (.op .bx (.op .p (.nil)))) (.seq (.seq (.reg (.op (.cl [.bool]) (.op .p (.nil)))) (.cond (.seq (.reg (.op .p (.nil))) (.leaf)) (.leaf))) (.seq (.seq (.reg (.op .p (.op (.cl [.bool]) (.op .p (.ap 3 (.op .p (.ap 3 (.nil)))))))) (.cond (.seq (.reg (.op .p (.nil))) (.leaf)) (.leaf))) (.seq (.reg (.op (.cl [.val, .val]) (.op .p (.op .p (.op .p (.op .p (.op .p (.nil)))))))) (.seq (.seq (.join [32, 33, 34, 35, 36, 37, 38, 39, 40, 41, 42, 43, 44, 45, 46, 47, 48, 49, 50, 51, 52, 53, 54, 55, 56, 57, 58, 59, 60, 61] [61] [.bool] (.reg (.op .p (.op (.ld (.bool)) (.op .p (.sp 34 (.op .p (.op .p (.op .p (.op .p (.op .p (.op .p (.op .p (.op .p (.op .p (.op .p (.op .p (.op .p (.op .p (.op .p (.op .p (.op .p (.op .p (.op .p (.op .p (.op .p (.op .p (.op .p (.op .p (.op .p (.op .p (.op .p (.op .p (.nil)))))))))))))))))))))))))))) (.op .p (.op (.ld (.bool)) (.op .p (.op .p (.sp 38 (.op .p (.op .p (.op .p (.op .p (.op .p (.op .p (.op .p (.op .p (.op .p (.op .p (.op .p (.op .p (.op .p (.op .p (.op .p (.op .p (.op .p (.op .p (.op .p (.op .p (.op .p (.op .p (.op .p (.nil)))))))))))))))))))))))) (.op .p (.op (.cl [.val]) (.op (.ld (.bool)) (.op .p (.op .p (.sp 43 (.op .p (.op .p (.op .p (.op .p (.op .p (.op .p (.op .p (.op .p (.op .p (.op .p (.op .p (.op .p (.op .p (.op .p (.op .p (.op .p (.op .p (.op .p (.nil))))))))))))))))))) (.op .p (.op (.r (.slice)) (.op .p (.op (.r (.slice)) (.op (.r (.slice)) (.op (.cl [.val]) (.op (.ld (.bool)) (.op .p (.op .p (.sp 52 (.op .p (.op .p (.op .p (.op .p (.op .p (.op .p (.op .p (.op .p (.op .p (.nil)))))))))) (.op .p (.op (.cl [.val]) (.op (.ld (.bool)) (.op .p (.op .p (.sp 57 (.op .p (.op .p (.op .p (.op .p (.nil))))) (.op .p (.op (.cl [.val]) (.op (.ld (.bool)) (.op .p (.nil)))))))))))))))))))))))))))))))))))))) (.cond (.seq (.reg (.op .p (.nil))) (.leaf)) (.leaf))) (.seq (.seq (.reg (.op .p (.op .p (.op .p (.nil))))) (.blk (.loop [11, 12, 64, 65, 66, 67, 68, 69, 70, 71, 72, 73, 74, 75, 76, 77, 78, 79, 80, 81, 82, 83, 84, 85, 86, 87, 88, 89, 90, 91, 92, 93] [64] [.int .i64] (.seq (.reg (.op .p (.nil))) (.seq (.cond (.leaf) (.leaf)) (.seq (.blk (.seq (.reg (.op .p (.op .ix (.op (.ld (.agg)) (.op .bx (.op .p (.op .u (.nil)))))))) (.seq (.seq (.join [69, 70, 71, 72, 73, 74, 75, 76, 77, 78, 79, 80, 81] [81] [.bool] (.reg (.op .p (.op (.ld (.str)) (.op .p (.op .p (.sp 72 (.op .p (.op .p (.op .p (.op .p (.op .p (.op .p (.op .p (.op .p (.op .p (.nil)))))))))) (.op .p (.op (.ld (.str)) (.op .p (.op .p (.op .p (.sp 77 (.op .p (.op .p (.op .p (.op .p (.nil))))) (.op .p (.op (.ld (.int .i64)) (.op .p (.op .p (.nil)))))))))))))))))) (.cond (.leaf) (.leaf))) (.seq (.seq (.reg (.op .p (.op .p (.nil)))) (.join [84, 85, 86, 87, 88, 89] [] [] (.cond (.reg (.op .p (.op (.r (.slice)) (.op .p (.op (.r (.slice)) (.op (.r (.slice)) (.op (.cl [.val]) (.nil)))))))) (.leaf)))) (.reg (.op .p (.op (.ld (.agg)) (.op (.cl [.val]) (.nil))))))))) (.reg (.op .p (.op .p (.nil)))))))))) (.seq (.reg (.op .p (.op (.ld (.agg)) (.op (.cl []) (.nil))))) (.seq (.reg (.op .p (.op (.cl [.slice, .val]) (.op .p (.op .p (.op .p (.op .p (.op .p (.nil))))))))) (.seq (.drawS (.tk 0 .p (.ts 1 (.bool) (.tk 2 .p (.sp 104 (.tk 3 .p (.tk 4 .p (.tk 5 .p (.tk 6 .p (.tk 7 .p (.tk 8 .p (.tk 9 .p (.sp 111 (.tk 10 .p (.tk 11 .p (.tk 12 .p (.tk 13 .sl (.tk 15 .p (.ts 14 (.str) (.ts 16 (.str) (.tk 17 .p (.tk 18 .p (.tk 19 .p (.sp 121 (.tk 20 .p (.tk 21 .p (.tk 22 .p (.tk 23 .p (.tk 24 .p (.tk 25 .p (.tk 26 .p (.tk 27 .p (.tk 28 .p (.tk 29 .p (.nil))))))))))) (.tk 20 .p (.tk 21 .p (.tk 22 .p (.tk 23 .p (.tk 24 .p (.tk 25 .p (.tk 26 .p (.tk 27 .p (.tk 28 .p (.tk 29 .p (.nil)))))))))))))))))))))) (.tk 10 .p (.tk 11 .p (.tk 12 .p (.tk 13 .p (.tk 15 .p (.ts 14 .val (.ts 16 .val (.tk 17 .p (.tk 18 .p (.tk 19 .p (.tk 20 .p (.tk 21 .p (.tk 22 .p (.tk 23 .p (.tk 24 .p (.tk 25 .p (.tk 26 .p (.tk 27 .p (.tk 28 .p (.tk 29 .p (.nil))))))))))))))))))))))))))))) (.tk 3 .p (.tk 4 .p (.tk 5 .p (.tk 6 .p (.tk 7 .p (.tk 8 .p (.tk 9 .p (.tk 10 .p (.tk 11 .p (.tk 12 .p (.tk 13 .p (.tk 15 .p (.ts 14 .val (.ts 16 .val (.tk 17 .p (.tk 18 .p (.tk 19 .p (.tk 20 .p (.tk 21 .p (.tk 22 .p (.tk 23 .p (.tk 24 .p (.tk 25 .p (.tk 26 .p (.tk 27 .p (.tk 28 .p (.tk 29 .p (.nil)))))))))))))))))))))))))))))))) []) (.leaf))))))))))
    (by kernel_rfl) Try.func21 (by kernel_rfl) (by kernel_rfl) (by kernel_rfl) (by kernel_rfl) h

set_option maxRecDepth 100000 in
theorem amphoralaw01_DiskOwns_vc (a0a : Option Addr) (a0n : Nat) (a0c : Nat) (w : World) (R : Ending → World → Prop) (h :
  Calls Try.prog 8 #[] w fun (e16 : Ending) (w1 : World) => ∃ (t16 : Bool), e16 = .returned (.bool t16) ∧
  (((!t16) = true →
      (R (.returned (.bool false)) w1)) ∧
    ((!t16) = false →
      (((decide (((a0n : Nat) : Int) > (65536 : Int))) = true →
          (R (.returned (.bool true)) w1)) ∧
        ((decide (((a0n : Nat) : Int) > (65536 : Int))) = false →
          (Calls Try.prog 9 #[(.int .i64 131072)] w1 fun (e22 : Ending) (w2 : World) => ∃ (t22_0 : Value) (t22_1 : Value), e22 = .returned (.tuple #[t22_0, t22_1]) ∧
            (∃ J : Bool → World → Prop, (∃ (t26 : Bool), (eqlS .neq 26 (.tmp 25) (.const .nilIface) t22_1 .nilIface).run Try.prog w2 = .ok (.bool t26) w2 ∧
                ((t26 = true →
                    (J true w2)) ∧
                  (t26 = false →
                    (∃ (t29 : Bool), (eqlS .eql 24 (.tmp 28) (.const (.pointer none)) t22_0 (.pointer none)).run Try.prog w2 = .ok (.bool t29) w2 ∧
                      ((t29 = true →
                          (J true w2)) ∧
                        (t29 = false →
                          (Calls Try.prog 10 #[t22_0, (.string (ByteArray.mk #[97]))] w2 fun (e33 : Ending) (w3 : World) => ∃ (t33 : Value), e33 = .returned t33 ∧
                            (∃ (t34 : Bool), (eqlS .neq 26 (.tmp 33) (.const .nilIface) t33 .nilIface).run Try.prog w3 = .ok (.bool t34) w3 ∧
                              (J t34 w3))))))))) ∧
              (∀ (x35 : Bool), ∀ w4 : World, J x35 w4 →
                ((x35 = true →
                    (R (.returned (.bool false)) w4)) ∧
                  (x35 = false →
                    (Calls Try.prog 11 #[(.slice a0a a0n a0c)] w4 fun (e37 : Ending) (w5 : World) => ∃ (t37a : Option Addr) (t37n : Nat) (t37c : Nat), e37 = .returned (.slice t37a t37n t37c) ∧
                      (∃ J_1 : Bool → World → Prop, (∃ (t40a : Option Addr) (t40n : Nat) (t40c : Nat) (w6 : World), (Instr.buildSlice 44 1 #[(0, (.slice t37a t37n t37c))]).run Try.prog w5 = .ok (.slice t40a t40n t40c) w6 ∧
                          (Calls Try.prog 12 #[t22_0, (.string (ByteArray.mk #[97])), (.slice t40a t40n t40c)] w6 fun (e41 : Ending) (w7 : World) => ∃ (t41 : Value), e41 = .returned t41 ∧
                            (∃ (t42 : Bool), (eqlS .neq 26 (.tmp 41) (.const .nilIface) t41 .nilIface).run Try.prog w7 = .ok (.bool t42) w7 ∧
                              ((t42 = true →
                                  (J_1 true w7)) ∧
                                (t42 = false →
                                  (Calls Try.prog 13 #[(.slice t37a t37n t37c), (.slice a0a a0n a0c)] w7 fun (e46 : Ending) (w8 : World) => ∃ (t46 : Bool), e46 = .returned (.bool t46) ∧
                                    (J_1 (!t46) w8))))))) ∧
                        (∀ (x48 : Bool), ∀ w9 : World, J_1 x48 w9 →
                          ((x48 = true →
                              (R (.returned (.bool false)) w9)) ∧
                            (x48 = false →
                              (Calls Try.prog 14 #[(.slice t37a t37n t37c)] w9 fun (e50 : Ending) (w10 : World) => e50 = .returned (.tuple #[]) ∧
                                (Calls Try.prog 15 #[t22_0, (.string (ByteArray.mk #[97]))] w10 fun (e53 : Ending) (w11 : World) => ∃ (t53_0a : Option Addr) (t53_0n : Nat) (t53_0c : Nat) (t53_1 : Value), e53 = .returned (.tuple #[(.slice t53_0a t53_0n t53_0c), t53_1]) ∧
                                  (Calls Try.prog 15 #[t22_0, (.string (ByteArray.mk #[97]))] w11 fun (e58 : Ending) (w12 : World) => ∃ (t58_0a : Option Addr) (t58_0n : Nat) (t58_0c : Nat) (t58_1 : Value), e58 = .returned (.tuple #[(.slice t58_0a t58_0n t58_0c), t58_1]) ∧
                                    (Calls Try.prog 16 #[t22_0, (.string (ByteArray.mk #[97])), (.int .i64 0), (.int .i64 ((a0n : Nat) : Int))] w12 fun (e65 : Ending) (w13 : World) => ∃ (t65_0a : Option Addr) (t65_0n : Nat) (t65_0c : Nat) (t65_1 : Value), e65 = .returned (.tuple #[(.slice t65_0a t65_0n t65_0c), t65_1]) ∧
                                      (Calls Try.prog 17 #[t22_0] w13 fun (e69 : Ending) (w14 : World) => ∃ (t69a : Option Addr) (t69n : Nat) (t69c : Nat), e69 = .returned (.slice t69a t69n t69c) ∧
                                        (Calls Try.prog 18 #[t22_0] w14 fun (e71 : Ending) (w15 : World) => ∃ (t71a : Option Addr) (t71n : Nat) (t71c : Nat), e71 = .returned (.slice t71a t71n t71c) ∧
                                          (∃ J_2 : Bool → World → Prop, (∃ S : World → Prop, S w15.drew ∧
                                              (∃ (t73 : ByteArray), (∀ w' : World, S w' → (convert 22 9 (.slice t53_0a t53_0n t53_0c)).run Try.prog w' = .ok (.string t73) w') ∧
                                                (∃ (t75 : ByteArray), (∀ w' : World, S w' → (convert 22 9 (.slice a0a a0n a0c)).run Try.prog w' = .ok (.string t75) w') ∧
                                                  (((!(t73.toList == t75.toList)) = true →
                                                      (J_2 true w15.drew)) ∧
                                                    ((!(t73.toList == t75.toList)) = false →
                                                      (∃ (t79 : ByteArray), (∀ w' : World, S w' → (convert 22 9 (.slice t58_0a t58_0n t58_0c)).run Try.prog w' = .ok (.string t79) w') ∧
                                                        (∃ (t81 : ByteArray), (∀ w' : World, S w' → (convert 22 9 (.slice a0a a0n a0c)).run Try.prog w' = .ok (.string t81) w') ∧
                                                          (((!(t79.toList == t81.toList)) = true →
                                                              (J_2 true w15.drew)) ∧
                                                            ((!(t79.toList == t81.toList)) = false →
                                                              (∃ (t86 : ByteArray), (∀ w' : World, S w' → (convert 22 9 (.slice t65_0a t65_0n t65_0c)).run Try.prog w' = .ok (.string t86) w') ∧
                                                                (∃ (t88 : ByteArray), (∀ w' : World, S w' → (convert 22 9 (.slice a0a a0n a0c)).run Try.prog w' = .ok (.string t88) w') ∧
                                                                  (((!(t86.toList == t88.toList)) = true →
                                                                      (J_2 true w15.drew)) ∧
                                                                    ((!(t86.toList == t88.toList)) = false →
                                                                      (((((t69n : Nat) : Int) != (1 : Int)) = true →
                                                                          (J_2 true w15.drew)) ∧
                                                                        ((((t69n : Nat) : Int) != (1 : Int)) = false →
                                                                          (∃ (t98b t98o : Nat), t69a = some ⟨t98b, t98o, none⟩ ∧ 0 ≤ (0 : Int) ∧ (0 : Int) < ((t69n : Nat) : Int) ∧
                                                                            (∃ (t100a : Option Addr) (t100n : Nat) (t100c : Nat), (∀ w' : World, S w' → (Instr.loadAt 22 (.pointer (some ⟨t98b, t98o + Int.toNat (0 : Int) * 2 + 1, none⟩))).run Try.prog w' = .ok (.slice t100a t100n t100c) w') ∧
                                                                              (∃ (t101 : ByteArray), (∀ w' : World, S w' → (convert 22 9 (.slice t100a t100n t100c)).run Try.prog w' = .ok (.string t101) w') ∧
                                                                                (∃ (t103 : ByteArray), (∀ w' : World, S w' → (convert 22 9 (.slice a0a a0n a0c)).run Try.prog w' = .ok (.string t103) w') ∧
                                                                                (((!(t101.toList == t103.toList)) = true →
                                                                                (J_2 true w15.drew)) ∧
                                                                                ((!(t101.toList == t103.toList)) = false →
                                                                                (J_2 (((t71n : Nat) : Int) != (1 : Int)) w15.drew)))))))))))))))))))))) ∧
                                            (∀ (x110 : Bool), ∀ w16 : World, J_2 x110 w16 →
                                              ((x110 = true →
                                                  (R (.returned (.bool false)) w16)) ∧
                                                (x110 = false →
                                                  (∃ (t115b t115o : Nat), t69a = some ⟨t115b, t115o, none⟩ ∧ 0 ≤ (0 : Int) ∧ (0 : Int) < ((t69n : Nat) : Int) ∧
                                                    (∃ (t117a : Option Addr) (t117n : Nat) (t117c : Nat), (Instr.loadAt 22 (.pointer (some ⟨t115b, t115o + Int.toNat (0 : Int) * 2 + 1, none⟩))).run Try.prog w16 = .ok (.slice t117a t117n t117c) w16 ∧
                                                      (∃ (t118a : Option Addr) (t118n : Nat) (t118c : Nat) (w17 : World), (Instr.buildSlice 44 4 #[(0, (.slice t53_0a t53_0n t53_0c)), (1, (.slice t58_0a t58_0n t58_0c)), (2, (.slice t65_0a t65_0n t65_0c)), (3, (.slice t117a t117n t117c))]).run Try.prog w16 = .ok (.slice t118a t118n t118c) w17 ∧
                                                        (Calls Try.prog 19 #[(.slice t118a t118n t118c)] w17 fun (e119 : Ending) (w18 : World) => ∃ (t119 : Bool), e119 = .returned (.bool t119) ∧
                                                          (((!t119) = true →
                                                              (R (.returned (.bool false)) w18)) ∧
                                                            ((!t119) = false →
                                                              (∃ (t122b t122o : Nat), t71a = some ⟨t122b, t122o, none⟩ ∧ 0 ≤ (0 : Int) ∧ (0 : Int) < ((t71n : Nat) : Int) ∧
                                                                (∃ w19 : World, (Instr.storeAt 9 (.pointer (some ⟨t122b, t122o + Int.toNat (0 : Int) * 1, none⟩)) (.string (ByteArray.mk #[111, 118, 101, 114]))).run Try.prog w18 = .ok () w19 ∧
                                                                  (Calls Try.prog 15 #[t22_0, (.string (ByteArray.mk #[97]))] w19 fun (e125 : Ending) (w20 : World) => ∃ (t125_0a : Option Addr) (t125_0n : Nat) (t125_0c : Nat) (t125_1 : Value), e125 = .returned (.tuple #[(.slice t125_0a t125_0n t125_0c), t125_1]) ∧
                                                                    (∃ (t129 : ByteArray), (convert 22 9 (.slice t125_0a t125_0n t125_0c)).run Try.prog w20 = .ok (.string t129) w20 ∧
                                                                      (∃ (t131 : ByteArray), (convert 22 9 (.slice a0a a0n a0c)).run Try.prog w20 = .ok (.string t131) w20 ∧
                                                                        (((t129.toList == t131.toList) = true →
                                                                            (Calls Try.prog 18 #[t22_0] w20 fun (e135 : Ending) (w21 : World) => ∃ (t135a : Option Addr) (t135n : Nat) (t135c : Nat), e135 = .returned (.slice t135a t135n t135c) ∧
                                                                              (∃ (t136a : Option Addr) (t136n : Nat) (t136c : Nat) (w22 : World), (Instr.buildSlice 39 1 #[(0, (.string (ByteArray.mk #[97])))]).run Try.prog w21 = .ok (.slice t136a t136n t136c) w22 ∧
                                                                                (Calls Try.prog 20 #[(.slice t135a t135n t135c), (.slice t136a t136n t136c)] w22 fun (e137 : Ending) (w23 : World) => ∃ (t137 : Bool), e137 = .returned (.bool t137) ∧
                                                                                (R (.returned (.bool t137)) w23))))) ∧
                                                                          ((t129.toList == t131.toList) = false →
                                                                            (R (.returned (.bool false)) w20))))))))))))))))))))))))))))))))))))))) : Calls Try.prog 3 #[(.slice a0a a0n a0c)] w R :=
  calls_of_ev (args := [(.slice a0a a0n a0c)])
    (tc := .seq (.reg (.op .p (.nil))) (.seq (.seq (.reg (.op (.cl [.bool]) (.op .p (.nil)))) (.cond (.seq (.reg (.op .p (.nil))) (.leaf)) (.leaf))) (.seq (.seq (.reg (.op .p (.op .p (.op .p (.nil))))) (.cond (.seq (.reg (.op .p (.nil))) (.leaf)) (.leaf))) (.seq (.reg (.op (.cl [.val, .val]) (.op .p (.op .p (.op .p (.op .p (.op .p (.nil)))))))) (.seq (.seq (.join [25, 26, 27, 28, 29, 30, 31, 32, 33, 34, 35] [35] [.bool] (.reg (.op .p (.op (.ld (.bool)) (.op .p (.sp 27 (.op .p (.op .p (.op .p (.op .p (.op .p (.op .p (.op .p (.op .p (.nil))))))))) (.op .p (.op (.ld (.bool)) (.op .p (.op .p (.sp 31 (.op .p (.op .p (.op .p (.op .p (.nil))))) (.op .p (.op (.cl [.val]) (.op (.ld (.bool)) (.op .p (.nil)))))))))))))))) (.cond (.seq (.reg (.op .p (.nil))) (.leaf)) (.leaf))) (.seq (.reg (.op .p (.op (.cl [.slice]) (.op .p (.nil))))) (.seq (.seq (.join [38, 39, 40, 41, 42, 43, 44, 45, 46, 47, 48] [48] [.bool] (.reg (.op .p (.op .p (.op (.r (.slice)) (.op (.cl [.val]) (.op (.ld (.bool)) (.op .p (.sp 43 (.op .p (.op .p (.op .p (.op .p (.op .p (.nil)))))) (.op .p (.op .p (.op (.cl [.bool]) (.op .p (.op .p (.nil))))))))))))))) (.cond (.seq (.reg (.op .p (.nil))) (.leaf)) (.leaf))) (.seq (.reg (.op .p (.op (.cl []) (.nil)))) (.seq (.reg (.op .p (.op (.cl [.slice, .val]) (.op .p (.op .p (.op .p (.op .p (.op .p (.nil))))))))) (.seq (.reg (.op .p (.op (.cl [.slice, .val]) (.op .p (.op .p (.op .p (.op .p (.op .p (.nil))))))))) (.seq (.reg (.op .p (.op .p (.op .p (.op (.cl [.slice, .val]) (.op .p (.op .p (.op .p (.op .p (.op .p (.nil))))))))))) (.seq (.reg (.op .p (.op (.cl [.slice]) (.op .p (.nil))))) (.seq (.reg (.op .p (.op (.cl [.slice]) (.op .p (.nil))))) (.seq (.seq (.join [72, 73, 74, 75, 76, 77, 78, 79, 80, 81, 82, 83, 84, 85, 86, 87, 88, 89, 90, 91, 92, 93, 94, 95, 96, 97, 98, 99, 100, 101, 102, 103, 104, 105, 106, 107, 108, 109, 110] [110] [.bool] (.drawS (.tk 0 .p (.tk 2 .p (.ts 1 (.str) (.ts 3 (.str) (.tk 4 .p (.tk 5 .p (.sp 77 (.tk 6 .p (.tk 8 .p (.ts 7 .val (.ts 9 .val (.tk 10 .p (.tk 11 .p (.tk 12 .p (.tk 13 .p (.tk 15 .p (.ts 14 .val (.ts 16 .val (.tk 17 .p (.tk 18 .p (.tk 19 .p (.tk 20 .p (.tk 21 .p (.tk 22 .p (.tk 23 .p (.tk 24 .p (.tk 25 .p (.tk 26 .p (.tk 27 .p (.tk 30 .p (.ts 28 .val (.ts 29 .val (.ts 31 .val (.tk 32 .p (.tk 33 .p (.tk 34 .p (.tk 35 .p (.tk 36 .p (.tk 37 .p (.tk 38 .p (.nil)))))))))))))))))))))))))))))))))) (.tk 6 .p (.tk 8 .p (.ts 7 (.str) (.ts 9 (.str) (.tk 10 .p (.tk 11 .p (.tk 12 .p (.sp 84 (.tk 13 .p (.tk 15 .p (.ts 14 .val (.ts 16 .val (.tk 17 .p (.tk 18 .p (.tk 19 .p (.tk 20 .p (.tk 21 .p (.tk 22 .p (.tk 23 .p (.tk 24 .p (.tk 25 .p (.tk 26 .p (.tk 27 .p (.tk 30 .p (.ts 28 .val (.ts 29 .val (.ts 31 .val (.tk 32 .p (.tk 33 .p (.tk 34 .p (.tk 35 .p (.tk 36 .p (.tk 37 .p (.tk 38 .p (.nil))))))))))))))))))))))))))) (.tk 13 .p (.tk 15 .p (.ts 14 (.str) (.ts 16 (.str) (.tk 17 .p (.tk 18 .p (.tk 19 .p (.sp 91 (.tk 20 .p (.tk 21 .p (.tk 22 .p (.tk 23 .p (.tk 24 .p (.tk 25 .p (.tk 26 .p (.tk 27 .p (.tk 30 .p (.ts 28 .val (.ts 29 .val (.ts 31 .val (.tk 32 .p (.tk 33 .p (.tk 34 .p (.tk 35 .p (.tk 36 .p (.tk 37 .p (.tk 38 .p (.nil)))))))))))))))))))) (.tk 20 .p (.tk 21 .p (.tk 22 .p (.tk 23 .p (.tk 24 .p (.sp 96 (.tk 25 .p (.tk 26 .p (.tk 27 .p (.tk 30 .p (.ts 28 .val (.ts 29 .val (.ts 31 .val (.tk 32 .p (.tk 33 .p (.tk 34 .p (.tk 35 .p (.tk 36 .p (.tk 37 .p (.tk 38 .p (.nil))))))))))))))) (.tk 25 .p (.tk 26 .ix (.tk 27 .p (.tk 30 .p (.ts 28 (.slice) (.ts 29 (.str) (.ts 31 (.str) (.tk 32 .p (.tk 33 .p (.tk 34 .p (.sp 106 (.tk 35 .p (.tk 36 .p (.tk 37 .p (.tk 38 .p (.nil))))) (.tk 35 .p (.tk 36 .p (.tk 37 .p (.tk 38 .p (.nil))))))))))))))))))))))))))))))))))))))))))))) [])) (.cond (.seq (.reg (.op .p (.nil))) (.leaf)) (.leaf))) (.seq (.seq (.reg (.op .p (.op .p (.op .p (.op .p (.op .ix (.op .p (.op (.ld (.slice)) (.op (.r (.slice)) (.op (.cl [.bool]) (.op .p (.nil)))))))))))) (.cond (.seq (.reg (.op .p (.nil))) (.leaf)) (.leaf))) (.seq (.reg (.op .p (.op .ix (.op .u (.nil))))) (.seq (.reg (.op .p (.op (.cl [.slice, .val]) (.op .p (.op .p (.op .p (.op .p (.op .p (.nil))))))))) (.seq (.reg (.op .p (.op (.ld (.str)) (.op .p (.op (.ld (.str)) (.op .p (.op .p (.sp 133 (.op .p (.op (.cl [.slice]) (.op (.r (.slice)) (.op (.cl [.bool]) (.op .p (.op .p (.nil))))))) (.op .p (.op .p (.op .p (.op .p (.op .p (.op .p (.nil))))))))))))))) (.leaf)))))))))))))))))))
    (by kernel_rfl) Try.func3 (by kernel_rfl) (by kernel_rfl) (by kernel_rfl) (by kernel_rfl) h

set_option maxRecDepth 100000 in
theorem amphoralaw01_DiskSynced_vc (a0 : Array Value) (w : World) (R : Ending → World → Prop) (h :
  ∃ (g1 : Nat) (w1 : World), (Instr.box 52 (.agg a0)).run Try.prog w = .ok (.pointer (some ⟨g1, 0, none⟩)) w1 ∧
  (∃ (t4a : Option Addr) (t4n : Nat) (t4c : Nat), (Instr.loadAt 22 (.pointer (some ⟨g1, 0, none⟩))).run Try.prog w1 = .ok (.slice t4a t4n t4c) w1 ∧
    (∃ (t6a : Option Addr) (t6n : Nat) (t6c : Nat), (Instr.loadAt 47 (.pointer (some ⟨g1, 2, none⟩))).run Try.prog w1 = .ok (.slice t6a t6n t6c) w1 ∧
      (∃ (t8 : Array Value), (Instr.loadAt 50 (.pointer (some ⟨g1, 3, none⟩))).run Try.prog w1 = .ok (.agg t8) w1 ∧
        (∃ (t10a : Option Addr) (t10n : Nat) (t10c : Nat), (Instr.loadAt 22 (.pointer (some ⟨g1, 1, none⟩))).run Try.prog w1 = .ok (.slice t10a t10n t10c) w1 ∧
          (Calls Try.prog 21 #[(.slice t4a t4n t4c), (.slice t6a t6n t6c), (.agg t8), (.slice t10a t10n t10c)] w1 fun (e11 : Ending) (w2 : World) => ∃ (t11 : Bool), e11 = .returned (.bool t11) ∧
            (R (.returned (.bool t11)) w2))))))) : Calls Try.prog 4 #[(.agg a0)] w R :=
  calls_of_ev (args := [(.agg a0)])
    (tc := .seq (.reg (.op .bx (.op .p (.nil)))) (.seq (.reg (.op .p (.op (.ld (.slice)) (.op .p (.op (.ld (.slice)) (.op .p (.op (.ld (.agg)) (.op .p (.op (.ld (.slice)) (.op (.cl [.bool]) (.op .p (.nil)))))))))))) (.leaf)))
    (by kernel_rfl) Try.func4 (by kernel_rfl) (by kernel_rfl) (by kernel_rfl) (by kernel_rfl) h

set_option maxRecDepth 100000 in
theorem amphoralaw01_DiskRefuses_vc (a0a : Option Addr) (a0n : Nat) (a0c : Nat) (w : World) (R : Ending → World → Prop) (h :
  Calls Try.prog 8 #[] w fun (e10 : Ending) (w1 : World) => ∃ (t10 : Bool), e10 = .returned (.bool t10) ∧
  (((!t10) = true →
      (R (.returned (.bool false)) w1)) ∧
    ((!t10) = false →
      (Calls Try.prog 22 #[(.slice a0a a0n a0c)] w1 fun (e13 : Ending) (w2 : World) => ∃ (t13 : Bool), e13 = .returned (.bool t13) ∧
        ((t13 = true →
            (R (.returned (.bool true)) w2)) ∧
          (t13 = false →
            (Calls Try.prog 9 #[(.int .i64 60)] w2 fun (e15 : Ending) (w3 : World) => ∃ (t15_0 : Value) (t15_1 : Value), e15 = .returned (.tuple #[t15_0, t15_1]) ∧
              (∃ J : Bool → World → Prop, (∃ (t19 : Bool), (eqlS .neq 26 (.tmp 18) (.const .nilIface) t15_1 .nilIface).run Try.prog w3 = .ok (.bool t19) w3 ∧
                  ((t19 = true →
                      (J true w3)) ∧
                    (t19 = false →
                      (∃ (t22 : Bool), (eqlS .eql 24 (.tmp 21) (.const (.pointer none)) t15_0 (.pointer none)).run Try.prog w3 = .ok (.bool t22) w3 ∧
                        (J t22 w3))))) ∧
                (∀ (x23 : Bool), ∀ w4 : World, J x23 w4 →
                  ((x23 = true →
                      (R (.returned (.bool false)) w4)) ∧
                    (x23 = false →
                      (∃ (I : Int → World → Prop) (μ : Int → World → Nat), I 0 w4 ∧
                        (∀ (x26 : Int), ∀ w5 : World, I x26 w5 →
                          (((decide (x26 < ((a0n : Nat) : Int))) = true →
                              (∃ (t28b t28o : Nat), a0a = some ⟨t28b, t28o, none⟩ ∧ 0 ≤ x26 ∧ x26 < ((a0n : Nat) : Int) ∧
                                (∃ (t29 : Array Value), (Instr.loadAt 57 (.pointer (some ⟨t28b, t28o + Int.toNat x26 * 8, none⟩))).run Try.prog w5 = .ok (.agg t29) w5 ∧
                                  (∃ (g6 : Nat) (w6 : World), (Instr.alloc 57 true (.tuple #[])).run Try.prog w5 = .ok (.pointer (some ⟨g6, 0, none⟩)) w6 ∧
                                    (∃ w7 : World, (Instr.storeAt 57 (.pointer (some ⟨g6, 0, none⟩)) (.agg t29)).run Try.prog w6 = .ok () w7 ∧
                                      (Calls Try.prog 17 #[t15_0] w7 fun (e31 : Ending) (w8 : World) => ∃ (t31a : Option Addr) (t31n : Nat) (t31c : Nat), e31 = .returned (.slice t31a t31n t31c) ∧
                                        (Calls Try.prog 23 #[t15_0] w8 fun (e33 : Ending) (w9 : World) => ∃ (t33 : Int), e33 = .returned (.int .i64 t33) ∧
                                          (∃ (t35 : Array Value), (Instr.loadAt 57 (.pointer (some ⟨g6, 0, none⟩))).run Try.prog w9 = .ok (.agg t35) w9 ∧
                                            (Calls Try.prog 24 #[t15_0, (.agg t35)] w9 fun (e36 : Ending) (w10 : World) => ∃ (t36 : Value), e36 = .returned t36 ∧
                                              (∃ (t38 : Int), (Instr.loadAt 3 (.pointer (some ⟨g6, 0, none⟩))).run Try.prog w10 = .ok (.int .i64 t38) w10 ∧
                                                (((t38 == (10 : Int)) = true →
                                                    (∃ (t42 : Array Value), (Instr.loadAt 50 (.pointer (some ⟨g6, 6, none⟩))).run Try.prog w10 = .ok (.agg t42) w10 ∧
                                                      (Calls Try.prog 25 #[t15_0, (.agg t42)] w10 fun (e43 : Ending) (w11 : World) => e43 = .returned (.tuple #[]) ∧
                                                        (I (IntKind.wrap .i64 (x26 + (1 : Int))) w11 ∧ μ (IntKind.wrap .i64 (x26 + (1 : Int))) w11 < μ x26 w5)))) ∧
                                                  ((t38 == (10 : Int)) = false →
                                                    (∃ J_1 : Bool → World → Prop, (∃ (t45 : Bool), (eqlS .neq 26 (.tmp 44) (.const .nilIface) t36 .nilIface).run Try.prog w10 = .ok (.bool t45) w10 ∧
                                                        ((t45 = true →
                                                            (Calls Try.prog 17 #[t15_0] w10 fun (e49 : Ending) (w12 : World) => ∃ (t49a : Option Addr) (t49n : Nat) (t49c : Nat), e49 = .returned (.slice t49a t49n t49c) ∧
                                                              (Calls Try.prog 26 #[(.slice t31a t31n t31c), (.slice t49a t49n t49c)] w12 fun (e50 : Ending) (w13 : World) => ∃ (t50 : Bool), e50 = .returned (.bool t50) ∧
                                                                (J_1 (!t50) w13)))) ∧
                                                          (t45 = false →
                                                            (J_1 false w10)))) ∧
                                                      (∀ (x52 : Bool), ∀ w14 : World, J_1 x52 w14 →
                                                        ((x52 = true →
                                                            (R (.returned (.bool false)) w14)) ∧
                                                          (x52 = false →
                                                            (∃ J_2 : Bool → World → Prop, (∃ (t54 : Bool), (eqlS .neq 26 (.tmp 53) (.const .nilIface) t36 .nilIface).run Try.prog w14 = .ok (.bool t54) w14 ∧
                                                                ((t54 = true →
                                                                    (∃ (t58 : Bool), (eqlS .neq 26 (.tmp 56) (.tmp 57) t36 (.iface 62 (.int .i64 2))).run Try.prog w14 = .ok (.bool t58) w14 ∧
                                                                      ((t58 = true →
                                                                          (Calls Try.prog 23 #[t15_0] w14 fun (e62 : Ending) (w15 : World) => ∃ (t62 : Int), e62 = .returned (.int .i64 t62) ∧
                                                                            (((t62 != t33) = true →
                                                                                (J_2 true w15)) ∧
                                                                              ((t62 != t33) = false →
                                                                                (∃ (t69 : Bool), (eqlS .eql 26 (.tmp 67) (.tmp 68) t36 (.iface 62 (.int .i64 2))).run Try.prog w15 = .ok (.bool t69) w15 ∧
                                                                                ((t69 = true →
                                                                                (Calls Try.prog 23 #[t15_0] w15 fun (e72 : Ending) (w16 : World) => ∃ (t72 : Int), e72 = .returned (.int .i64 t72) ∧
                                                                                (J_2 (t72 != (IntKind.wrap .i64 (t33 + (1 : Int)))) w16))) ∧
                                                                                (t69 = false →
                                                                                (J_2 false w15)))))))) ∧
                                                                        (t58 = false →
                                                                          (∃ (t69 : Bool), (eqlS .eql 26 (.tmp 67) (.tmp 68) t36 (.iface 62 (.int .i64 2))).run Try.prog w14 = .ok (.bool t69) w14 ∧
                                                                            ((t69 = true →
                                                                                (Calls Try.prog 23 #[t15_0] w14 fun (e72 : Ending) (w17 : World) => ∃ (t72 : Int), e72 = .returned (.int .i64 t72) ∧
                                                                                (J_2 (t72 != (IntKind.wrap .i64 (t33 + (1 : Int)))) w17))) ∧
                                                                              (t69 = false →
                                                                                (J_2 false w14)))))))) ∧
                                                                  (t54 = false →
                                                                    (∃ (t69 : Bool), (eqlS .eql 26 (.tmp 67) (.tmp 68) t36 (.iface 62 (.int .i64 2))).run Try.prog w14 = .ok (.bool t69) w14 ∧
                                                                      ((t69 = true →
                                                                          (Calls Try.prog 23 #[t15_0] w14 fun (e72 : Ending) (w18 : World) => ∃ (t72 : Int), e72 = .returned (.int .i64 t72) ∧
                                                                            (J_2 (t72 != (IntKind.wrap .i64 (t33 + (1 : Int)))) w18))) ∧
                                                                        (t69 = false →
                                                                          (J_2 false w14))))))) ∧
                                                              (∀ (x77 : Bool), ∀ w19 : World, J_2 x77 w19 →
                                                                ((x77 = true →
                                                                    (R (.returned (.bool false)) w19)) ∧
                                                                  (x77 = false →
                                                                    (I (IntKind.wrap .i64 (x26 + (1 : Int))) w19 ∧ μ (IntKind.wrap .i64 (x26 + (1 : Int))) w19 < μ x26 w5))))))))))))))))))))) ∧
                            ((decide (x26 < ((a0n : Nat) : Int))) = false →
                              (R (.returned (.bool true)) w5)))))))))))))))) : Calls Try.prog 5 #[(.slice a0a a0n a0c)] w R :=
  calls_of_ev (args := [(.slice a0a a0n a0c)])
    (tc := .seq (.reg (.op .p (.nil))) (.seq (.seq (.reg (.op (.cl [.bool]) (.op .p (.nil)))) (.cond (.seq (.reg (.op .p (.nil))) (.leaf)) (.leaf))) (.seq (.seq (.reg (.op .p (.op (.cl [.bool]) (.nil)))) (.cond (.seq (.reg (.op .p (.nil))) (.leaf)) (.leaf))) (.seq (.reg (.op (.cl [.val, .val]) (.op .p (.op .p (.op .p (.op .p (.op .p (.nil)))))))) (.seq (.seq (.join [18, 19, 20, 21, 22, 23] [23] [.bool] (.reg (.op .p (.op (.ld (.bool)) (.op .p (.sp 20 (.op .p (.op .p (.op .p (.nil)))) (.op .p (.op (.ld (.bool)) (.op .p (.nil)))))))))) (.cond (.seq (.reg (.op .p (.nil))) (.leaf)) (.leaf))) (.seq (.seq (.reg (.op .p (.op .p (.op .p (.nil))))) (.blk (.loop [2, 6, 7, 8, 9, 26, 27, 28, 29, 30, 31, 32, 33, 34, 35, 36, 37, 38, 39, 40, 41, 42, 43, 44, 45, 46, 47, 48, 49, 50, 51, 52, 53, 54, 55, 56, 57, 58, 59, 60, 61, 62, 63, 64, 65, 66, 67, 68, 69, 70, 71, 72, 73, 74, 75, 76, 77, 78] [26] [.int .i64] (.seq (.reg (.op .p (.nil))) (.seq (.cond (.leaf) (.leaf)) (.seq (.blk (.seq (.reg (.op .ix (.op (.ld (.agg)) (.op .bx (.op .u (.nil)))))) (.seq (.reg (.op .p (.op (.cl [.slice]) (.op .p (.nil))))) (.seq (.reg (.op .p (.op (.cl [.int .i64]) (.op .p (.nil))))) (.seq (.reg (.op .p (.op (.ld (.agg)) (.op (.cl [.val]) (.op .p (.nil)))))) (.seq (.seq (.reg (.op .p (.op (.ld (.int .i64)) (.op .p (.nil))))) (.cond (.seq (.reg (.op .p (.op .p (.op (.ld (.agg)) (.op (.cl []) (.nil)))))) (.leaf)) (.leaf))) (.seq (.seq (.join [44, 45, 46, 47, 48, 49, 50, 51, 52] [52] [.bool] (.reg (.op .p (.op (.ld (.bool)) (.op .p (.sp 46 (.op .p (.op .p (.op (.cl [.slice]) (.op (.cl [.bool]) (.op .p (.op .p (.nil))))))) (.op .p (.op .p (.op .p (.op .p (.op .p (.op .p (.nil))))))))))))) (.cond (.seq (.reg (.op .p (.nil))) (.leaf)) (.leaf))) (.seq (.join [53, 54, 55, 56, 57, 58, 59, 60, 61, 62, 63, 64, 65, 66, 67, 68, 69, 70, 71, 72, 73, 74, 75, 76, 77] [77] [.bool] (.reg (.op .p (.op (.ld (.bool)) (.op .p (.sp 55 (.op .p (.op .p (.op (.ld (.bool)) (.op .p (.op .p (.sp 60 (.op .p (.op (.cl [.int .i64]) (.op .p (.op .p (.op .p (.op .p (.sp 66 (.op .p (.op .p (.op .p (.op .p (.op .p (.op .p (.op .p (.op .p (.op .p (.op .p (.op .p (.nil)))))))))))) (.op .p (.op .p (.op (.ld (.bool)) (.op .p (.sp 70 (.op .p (.op (.cl [.int .i64]) (.op .p (.op .p (.op .p (.op .p (.op .p (.nil)))))))) (.op .p (.op .p (.op .p (.op .p (.op .p (.op .p (.op .p (.nil)))))))))))))))))))) (.op .p (.op .p (.op .p (.op .p (.op .p (.op .p (.op .p (.op .p (.op (.ld (.bool)) (.op .p (.sp 70 (.op .p (.op (.cl [.int .i64]) (.op .p (.op .p (.op .p (.op .p (.op .p (.nil)))))))) (.op .p (.op .p (.op .p (.op .p (.op .p (.op .p (.op .p (.nil))))))))))))))))))))))))) (.op .p (.op .p (.op .p (.op .p (.op .p (.op .p (.op .p (.op .p (.op .p (.op .p (.op .p (.op .p (.op .p (.op (.ld (.bool)) (.op .p (.sp 70 (.op .p (.op (.cl [.int .i64]) (.op .p (.op .p (.op .p (.op .p (.op .p (.nil)))))))) (.op .p (.op .p (.op .p (.op .p (.op .p (.op .p (.op .p (.nil)))))))))))))))))))))))))))))) (.cond (.seq (.reg (.op .p (.nil))) (.leaf)) (.leaf)))))))))) (.reg (.op .p (.op .p (.nil)))))))))) (.seq (.reg (.op .p (.nil))) (.leaf))))))))
    (by kernel_rfl) Try.func5 (by kernel_rfl) (by kernel_rfl) (by kernel_rfl) (by kernel_rfl) h

set_option maxRecDepth 100000 in
theorem amphoralaw01_DiskPlays_vc (a0 : Int) (a1a : Option Addr) (a1n : Nat) (a1c : Nat) (w : World) (R : Ending → World → Prop) (h :
  Calls Try.prog 8 #[] w fun (e11 : Ending) (w1 : World) => ∃ (t11 : Bool), e11 = .returned (.bool t11) ∧
  (((!t11) = true →
      (R (.returned (.bool false)) w1)) ∧
    ((!t11) = false →
      (Calls Try.prog 9 #[(.int .i64 a0)] w1 fun (e15 : Ending) (w2 : World) => ∃ (t15_0 : Value) (t15_1 : Value), e15 = .returned (.tuple #[t15_0, t15_1]) ∧
        (Calls Try.prog 27 #[(.int .i64 a0)] w2 fun (e20 : Ending) (w3 : World) => ∃ (t20_0 : Value) (t20_1 : Int), e20 = .returned (.tuple #[t20_0, (.int .i64 t20_1)]) ∧
          (∃ J : Bool → World → Prop, (Calls Try.prog 28 #[t15_1] w3 fun (e24 : Ending) (w4 : World) => ∃ (t24 : Int), e24 = .returned (.int .i64 t24) ∧
              (((t24 != t20_1) = true →
                  (J true w4)) ∧
                ((t24 != t20_1) = false →
                  (∃ (t29 : Bool), (eqlS .eql 24 (.tmp 28) (.const (.pointer none)) t15_0 (.pointer none)).run Try.prog w4 = .ok (.bool t29) w4 ∧
                    (J (!(t29 == (t20_1 != (0 : Int)))) w4))))) ∧
            (∀ (x33 : Bool), ∀ w5 : World, J x33 w5 →
              ((x33 = true →
                  (R (.returned (.bool false)) w5)) ∧
                (x33 = false →
                  (∃ J_1 : Bool → World → Prop, (((t20_1 != (0 : Int)) = true →
                        (J_1 true w5)) ∧
                      ((t20_1 != (0 : Int)) = false →
                        (Calls Try.prog 22 #[(.slice a1a a1n a1c)] w5 fun (e38 : Ending) (w6 : World) => ∃ (t38 : Bool), e38 = .returned (.bool t38) ∧
                          (J_1 t38 w6)))) ∧
                    (∀ (x39 : Bool), ∀ w7 : World, J_1 x39 w7 →
                      ((x39 = true →
                          (R (.returned (.bool true)) w7)) ∧
                        (x39 = false →
                          (∃ (I : Int → World → Prop) (μ : Int → World → Nat), I 0 w7 ∧
                            (∀ (x42 : Int), ∀ w8 : World, I x42 w8 →
                              (((decide (x42 < ((a1n : Nat) : Int))) = true →
                                  (∃ (t44b t44o : Nat), a1a = some ⟨t44b, t44o, none⟩ ∧ 0 ≤ x42 ∧ x42 < ((a1n : Nat) : Int) ∧
                                    (∃ (t45 : Array Value), (Instr.loadAt 57 (.pointer (some ⟨t44b, t44o + Int.toNat x42 * 8, none⟩))).run Try.prog w8 = .ok (.agg t45) w8 ∧
                                      (∃ (g10 : Nat) (w9 : World), (Instr.alloc 57 true (.tuple #[])).run Try.prog w8 = .ok (.pointer (some ⟨g10, 0, none⟩)) w9 ∧
                                        (∃ w10 : World, (Instr.storeAt 57 (.pointer (some ⟨g10, 0, none⟩)) (.agg t45)).run Try.prog w9 = .ok () w10 ∧
                                          (∃ J_2 : Bool → World → Prop, (∃ (t48 : Array Value), (Instr.loadAt 57 (.pointer (some ⟨g10, 0, none⟩))).run Try.prog w10 = .ok (.agg t48) w10 ∧
                                              (Calls Try.prog 29 #[t15_0, t20_0, (.agg t48)] w10 fun (e49 : Ending) (w11 : World) => ∃ (t49 : Bool), e49 = .returned (.bool t49) ∧
                                                (((!t49) = true →
                                                    (J_2 true w11)) ∧
                                                  ((!t49) = false →
                                                    (Calls Try.prog 30 #[t15_0, t20_0] w11 fun (e54 : Ending) (w12 : World) => ∃ (t54 : Bool), e54 = .returned (.bool t54) ∧
                                                      (J_2 (!t54) w12)))))) ∧
                                            (∀ (x56 : Bool), ∀ w13 : World, J_2 x56 w13 →
                                              ((x56 = true →
                                                  (R (.returned (.bool false)) w13)) ∧
                                                (x56 = false →
                                                  (I (IntKind.wrap .i64 (x42 + (1 : Int))) w13 ∧ μ (IntKind.wrap .i64 (x42 + (1 : Int))) w13 < μ x42 w8)))))))))) ∧
                                ((decide (x42 < ((a1n : Nat) : Int))) = false →
                                  (R (.returned (.bool true)) w8)))))))))))))))))) : Calls Try.prog 6 #[(.int .i64 a0), (.slice a1a a1n a1c)] w R :=
  calls_of_ev (args := [(.int .i64 a0), (.slice a1a a1n a1c)])
    (tc := .seq (.reg (.op .p (.nil))) (.seq (.seq (.reg (.op (.cl [.bool]) (.op .p (.nil)))) (.cond (.seq (.reg (.op .p (.nil))) (.leaf)) (.leaf))) (.seq (.reg (.op .p (.op (.cl [.val, .val]) (.op .p (.op .p (.op .p (.op .p (.op .p (.nil))))))))) (.seq (.reg (.op .p (.op (.cl [.val, .int .i64]) (.op .p (.op .p (.op .p (.op .p (.op .p (.nil))))))))) (.seq (.seq (.join [23, 24, 25, 26, 27, 28, 29, 30, 31, 32, 33] [33] [.bool] (.reg (.op .p (.op (.cl [.int .i64]) (.op .p (.op .p (.op .p (.sp 27 (.op .p (.op .p (.op .p (.op .p (.op .p (.op .p (.nil))))))) (.op .p (.op (.ld (.bool)) (.op .p (.op .p (.op .p (.op .p (.nil))))))))))))))) (.cond (.seq (.reg (.op .p (.nil))) (.leaf)) (.leaf))) (.seq (.seq (.join [34, 35, 36, 37, 38, 39] [39] [.bool] (.reg (.op .p (.op .p (.op .p (.sp 36 (.op .p (.op .p (.op .p (.nil)))) (.op .p (.op (.cl [.bool]) (.op .p (.nil)))))))))) (.cond (.seq (.reg (.op .p (.nil))) (.leaf)) (.leaf))) (.seq (.seq (.reg (.op .p (.op .p (.op .p (.nil))))) (.blk (.loop [4, 10, 42, 43, 44, 45, 46, 47, 48, 49, 50, 51, 52, 53, 54, 55, 56, 57] [42] [.int .i64] (.seq (.reg (.op .p (.nil))) (.seq (.cond (.leaf) (.leaf)) (.seq (.blk (.seq (.reg (.op .ix (.op (.ld (.agg)) (.op .bx (.op .u (.nil)))))) (.seq (.join [46, 47, 48, 49, 50, 51, 52, 53, 54, 55, 56] [56] [.bool] (.reg (.op .p (.op .p (.op (.ld (.agg)) (.op (.cl [.bool]) (.op .p (.op .p (.sp 51 (.op .p (.op .p (.op .p (.op .p (.op .p (.nil)))))) (.op .p (.op .p (.op (.cl [.bool]) (.op .p (.op .p (.nil))))))))))))))) (.cond (.seq (.reg (.op .p (.nil))) (.leaf)) (.leaf))))) (.reg (.op .p (.op .p (.nil)))))))))) (.seq (.reg (.op .p (.nil))) (.leaf)))))))))
    (by kernel_rfl) Try.func6 (by kernel_rfl) (by kernel_rfl) (by kernel_rfl) (by kernel_rfl) h

set_option maxRecDepth 100000 in
theorem amphoralaw01_DiskNone_vc (a0 : ByteArray) (a1 : Int) (w : World) (R : Ending → World → Prop) (h :
  Calls Try.prog 8 #[] w fun (e11 : Ending) (w1 : World) => ∃ (t11 : Bool), e11 = .returned (.bool t11) ∧
  (((!t11) = true →
      (R (.returned (.bool false)) w1)) ∧
    ((!t11) = false →
      (∃ (t15 : Array Value), (Instr.build 50 #[(0, (.int .i64 a1))]).run Try.prog w1 = .ok (.agg t15) w1 ∧
        (Calls Try.prog 25 #[(.pointer none), (.agg t15)] w1 fun (e16 : Ending) (w2 : World) => e16 = .returned (.tuple #[]) ∧
          (Calls Try.prog 15 #[(.pointer none), (.string a0)] w2 fun (e20 : Ending) (w3 : World) => ∃ (t20_0a : Option Addr) (t20_0n : Nat) (t20_0c : Nat) (t20_1 : Value), e20 = .returned (.tuple #[(.slice t20_0a t20_0n t20_0c), t20_1]) ∧
            (Calls Try.prog 16 #[(.pointer none), (.string a0), (.int .i64 a1), (.int .i64 a1)] w3 fun (e28 : Ending) (w4 : World) => ∃ (t28_0a : Option Addr) (t28_0n : Nat) (t28_0c : Nat) (t28_1 : Value), e28 = .returned (.tuple #[(.slice t28_0a t28_0n t28_0c), t28_1]) ∧
              (∃ J : Bool → World → Prop, (Calls Try.prog 28 #[t20_1] w4 fun (e32 : Ending) (w5 : World) => ∃ (t32 : Int), e32 = .returned (.int .i64 t32) ∧
                  (((t32 != (28 : Int)) = true →
                      (J true w5)) ∧
                    ((t32 != (28 : Int)) = false →
                      (Calls Try.prog 28 #[t28_1] w5 fun (e37 : Ending) (w6 : World) => ∃ (t37 : Int), e37 = .returned (.int .i64 t37) ∧
                        (((t37 != (28 : Int)) = true →
                            (J true w6)) ∧
                          ((t37 != (28 : Int)) = false →
                            (Calls Try.prog 10 #[(.pointer none), (.string a0)] w6 fun (e44 : Ending) (w7 : World) => ∃ (t44 : Value), e44 = .returned t44 ∧
                              (Calls Try.prog 28 #[t44] w7 fun (e45 : Ending) (w8 : World) => ∃ (t45 : Int), e45 = .returned (.int .i64 t45) ∧
                                (((t45 != (28 : Int)) = true →
                                    (J true w8)) ∧
                                  ((t45 != (28 : Int)) = false →
                                    (Calls Try.prog 12 #[(.pointer none), (.string a0), (.slice none 0 0)] w8 fun (e52 : Ending) (w9 : World) => ∃ (t52 : Value), e52 = .returned t52 ∧
                                      (Calls Try.prog 28 #[t52] w9 fun (e53 : Ending) (w10 : World) => ∃ (t53 : Int), e53 = .returned (.int .i64 t53) ∧
                                        (((t53 != (28 : Int)) = true →
                                            (J true w10)) ∧
                                          ((t53 != (28 : Int)) = false →
                                            (Calls Try.prog 31 #[(.pointer none), (.string a0)] w10 fun (e60 : Ending) (w11 : World) => ∃ (t60 : Value), e60 = .returned t60 ∧
                                              (Calls Try.prog 28 #[t60] w11 fun (e61 : Ending) (w12 : World) => ∃ (t61 : Int), e61 = .returned (.int .i64 t61) ∧
                                                (((t61 != (28 : Int)) = true →
                                                    (J true w12)) ∧
                                                  ((t61 != (28 : Int)) = false →
                                                    (Calls Try.prog 32 #[(.pointer none)] w12 fun (e67 : Ending) (w13 : World) => ∃ (t67 : Value), e67 = .returned t67 ∧
                                                      (Calls Try.prog 28 #[t67] w13 fun (e68 : Ending) (w14 : World) => ∃ (t68 : Int), e68 = .returned (.int .i64 t68) ∧
                                                        (((t68 != (28 : Int)) = true →
                                                            (J true w14)) ∧
                                                          ((t68 != (28 : Int)) = false →
                                                            (Calls Try.prog 33 #[(.pointer none), (.string a0), (.string a0)] w14 fun (e76 : Ending) (w15 : World) => ∃ (t76 : Value), e76 = .returned t76 ∧
                                                              (Calls Try.prog 28 #[t76] w15 fun (e77 : Ending) (w16 : World) => ∃ (t77 : Int), e77 = .returned (.int .i64 t77) ∧
                                                                (((t77 != (28 : Int)) = true →
                                                                    (J true w16)) ∧
                                                                  ((t77 != (28 : Int)) = false →
                                                                    (Calls Try.prog 34 #[(.pointer none), (.string a0)] w16 fun (e84 : Ending) (w17 : World) => ∃ (t84 : Value), e84 = .returned t84 ∧
                                                                      (Calls Try.prog 28 #[t84] w17 fun (e85 : Ending) (w18 : World) => ∃ (t85 : Int), e85 = .returned (.int .i64 t85) ∧
                                                                        (J (t85 != (28 : Int)) w18))))))))))))))))))))))))))))) ∧
                (∀ (x88 : Bool), ∀ w19 : World, J x88 w19 →
                  ((x88 = true →
                      (R (.returned (.bool false)) w19)) ∧
                    (x88 = false →
                      (Calls Try.prog 35 #[(.pointer none), (.int .i64 a1)] w19 fun (e91 : Ending) (w20 : World) => ∃ (t91 : Value), e91 = .returned t91 ∧
                        (Calls Try.prog 28 #[t91] w20 fun (e92 : Ending) (w21 : World) => ∃ (t92 : Int), e92 = .returned (.int .i64 t92) ∧
                          (((t92 == (28 : Int)) = true →
                              (∃ (t98a : Option Addr) (t98n : Nat) (t98c : Nat) (w22 : World), (Instr.buildSlice 48 1 #[(0, (.int .i64 a1))]).run Try.prog w21 = .ok (.slice t98a t98n t98c) w22 ∧
                                (Calls Try.prog 36 #[(.pointer none), (.slice t98a t98n t98c)] w22 fun (e99 : Ending) (w23 : World) => ∃ (t99 : Value), e99 = .returned t99 ∧
                                  (Calls Try.prog 28 #[t99] w23 fun (e100 : Ending) (w24 : World) => ∃ (t100 : Int), e100 = .returned (.int .i64 t100) ∧
                                    (((t100 == (28 : Int)) = true →
                                        (Calls Try.prog 37 #[(.pointer none), (.string a0), (.slice none 0 0)] w24 fun (e107 : Ending) (w25 : World) => ∃ (t107 : Value), e107 = .returned t107 ∧
                                          (Calls Try.prog 28 #[t107] w25 fun (e108 : Ending) (w26 : World) => ∃ (t108 : Int), e108 = .returned (.int .i64 t108) ∧
                                            (((t108 == (28 : Int)) = true →
                                                (Calls Try.prog 38 #[(.pointer none), (.string a0)] w26 fun (e115 : Ending) (w27 : World) => ∃ (t115 : Value), e115 = .returned t115 ∧
                                                  (Calls Try.prog 28 #[t115] w27 fun (e116 : Ending) (w28 : World) => ∃ (t116 : Int), e116 = .returned (.int .i64 t116) ∧
                                                    (((t116 == (28 : Int)) = true →
                                                        (Calls Try.prog 18 #[(.pointer none)] w28 fun (e122 : Ending) (w29 : World) => ∃ (t122a : Option Addr) (t122n : Nat) (t122c : Nat), e122 = .returned (.slice t122a t122n t122c) ∧
                                                          (((((t122n : Nat) : Int) == (0 : Int)) = true →
                                                              (Calls Try.prog 17 #[(.pointer none)] w29 fun (e128 : Ending) (w30 : World) => ∃ (t128a : Option Addr) (t128n : Nat) (t128c : Nat), e128 = .returned (.slice t128a t128n t128c) ∧
                                                                (((((t128n : Nat) : Int) == (0 : Int)) = true →
                                                                    (Calls Try.prog 39 #[(.pointer none)] w30 fun (e134 : Ending) (w31 : World) => ∃ (t134 : Int), e134 = .returned (.int .i64 t134) ∧
                                                                      (((t134 == (0 : Int)) = true →
                                                                          (Calls Try.prog 23 #[(.pointer none)] w31 fun (e139 : Ending) (w32 : World) => ∃ (t139 : Int), e139 = .returned (.int .i64 t139) ∧
                                                                            (((t139 == (0 : Int)) = true →
                                                                                (Calls Try.prog 40 #[(.pointer none)] w32 fun (e144 : Ending) (w33 : World) => ∃ (t144 : Bool), e144 = .returned (.bool t144) ∧
                                                                                (R (.returned (.bool (!t144))) w33))) ∧
                                                                              ((t139 == (0 : Int)) = false →
                                                                                (R (.returned (.bool false)) w32))))) ∧
                                                                        ((t134 == (0 : Int)) = false →
                                                                          (R (.returned (.bool false)) w31))))) ∧
                                                                  ((((t128n : Nat) : Int) == (0 : Int)) = false →
                                                                    (R (.returned (.bool false)) w30))))) ∧
                                                            ((((t122n : Nat) : Int) == (0 : Int)) = false →
                                                              (R (.returned (.bool false)) w29))))) ∧
                                                      ((t116 == (28 : Int)) = false →
                                                        (R (.returned (.bool false)) w28)))))) ∧
                                              ((t108 == (28 : Int)) = false →
                                                (R (.returned (.bool false)) w26)))))) ∧
                                      ((t100 == (28 : Int)) = false →
                                        (R (.returned (.bool false)) w24))))))) ∧
                            ((t92 == (28 : Int)) = false →
                              (R (.returned (.bool false)) w21)))))))))))))))) : Calls Try.prog 7 #[(.string a0), (.int .i64 a1)] w R :=
  calls_of_ev (args := [(.string a0), (.int .i64 a1)])
    (tc := .seq (.reg (.op .p (.nil))) (.seq (.seq (.reg (.op (.cl [.bool]) (.op .p (.nil)))) (.cond (.seq (.reg (.op .p (.nil))) (.leaf)) (.leaf))) (.seq (.reg (.op .p (.nil))) (.seq (.reg (.op .p (.nil))) (.seq (.reg (.op .p (.op .p (.op (.ld (.agg)) (.op (.cl []) (.nil)))))) (.seq (.reg (.op .p (.op .p (.op (.cl [.slice, .val]) (.op .p (.op .p (.op .p (.op .p (.op .p (.nil)))))))))) (.seq (.reg (.op .p (.op .p (.op .p (.op .p (.op (.cl [.slice, .val]) (.op .p (.op .p (.op .p (.op .p (.op .p (.nil)))))))))))) (.seq (.seq (.join [31, 32, 33, 34, 35, 36, 37, 38, 39, 40, 41, 42, 43, 44, 45, 46, 47, 48, 49, 50, 51, 52, 53, 54, 55, 56, 57, 58, 59, 60, 61, 62, 63, 64, 65, 66, 67, 68, 69, 70, 71, 72, 73, 74, 75, 76, 77, 78, 79, 80, 81, 82, 83, 84, 85, 86, 87, 88] [88] [.bool] (.reg (.op .p (.op (.cl [.int .i64]) (.op .p (.op .p (.op .p (.sp 35 (.op .p (.op .p (.op .p (.op .p (.op .p (.op .p (.op .p (.op .p (.op .p (.op .p (.op .p (.op .p (.op .p (.op .p (.op .p (.op .p (.op .p (.op .p (.op .p (.op .p (.op .p (.op .p (.op .p (.op .p (.op .p (.op .p (.op .p (.op .p (.op .p (.op .p (.op .p (.op .p (.op .p (.op .p (.op .p (.op .p (.op .p (.op .p (.op .p (.op .p (.op .p (.op .p (.op .p (.op .p (.op .p (.op .p (.op .p (.op .p (.op .p (.op .p (.op .p (.op .p (.op .p (.nil)))))))))))))))))))))))))))))))))))))))))))))))))))))) (.op .p (.op (.cl [.int .i64]) (.op .p (.op .p (.op .p (.op .p (.sp 41 (.op .p (.op .p (.op .p (.op .p (.op .p (.op .p (.op .p (.op .p (.op .p (.op .p (.op .p (.op .p (.op .p (.op .p (.op .p (.op .p (.op .p (.op .p (.op .p (.op .p (.op .p (.op .p (.op .p (.op .p (.op .p (.op .p (.op .p (.op .p (.op .p (.op .p (.op .p (.op .p (.op .p (.op .p (.op .p (.op .p (.op .p (.op .p (.op .p (.op .p (.op .p (.op .p (.op .p (.op .p (.op .p (.op .p (.op .p (.nil)))))))))))))))))))))))))))))))))))))))))))))))) (.op .p (.op .p (.op (.cl [.val]) (.op (.cl [.int .i64]) (.op .p (.op .p (.op .p (.op .p (.sp 49 (.op .p (.op .p (.op .p (.op .p (.op .p (.op .p (.op .p (.op .p (.op .p (.op .p (.op .p (.op .p (.op .p (.op .p (.op .p (.op .p (.op .p (.op .p (.op .p (.op .p (.op .p (.op .p (.op .p (.op .p (.op .p (.op .p (.op .p (.op .p (.op .p (.op .p (.op .p (.op .p (.op .p (.op .p (.op .p (.op .p (.op .p (.op .p (.op .p (.nil)))))))))))))))))))))))))))))))))))))))) (.op .p (.op .p (.op (.cl [.val]) (.op (.cl [.int .i64]) (.op .p (.op .p (.op .p (.op .p (.sp 57 (.op .p (.op .p (.op .p (.op .p (.op .p (.op .p (.op .p (.op .p (.op .p (.op .p (.op .p (.op .p (.op .p (.op .p (.op .p (.op .p (.op .p (.op .p (.op .p (.op .p (.op .p (.op .p (.op .p (.op .p (.op .p (.op .p (.op .p (.op .p (.op .p (.op .p (.op .p (.nil)))))))))))))))))))))))))))))))) (.op .p (.op .p (.op (.cl [.val]) (.op (.cl [.int .i64]) (.op .p (.op .p (.op .p (.op .p (.sp 65 (.op .p (.op .p (.op .p (.op .p (.op .p (.op .p (.op .p (.op .p (.op .p (.op .p (.op .p (.op .p (.op .p (.op .p (.op .p (.op .p (.op .p (.op .p (.op .p (.op .p (.op .p (.op .p (.op .p (.nil)))))))))))))))))))))))) (.op .p (.op (.cl [.val]) (.op (.cl [.int .i64]) (.op .p (.op .p (.op .p (.op .p (.sp 72 (.op .p (.op .p (.op .p (.op .p (.op .p (.op .p (.op .p (.op .p (.op .p (.op .p (.op .p (.op .p (.op .p (.op .p (.op .p (.op .p (.nil))))))))))))))))) (.op .p (.op .p (.op .p (.op (.cl [.val]) (.op (.cl [.int .i64]) (.op .p (.op .p (.op .p (.op .p (.sp 81 (.op .p (.op .p (.op .p (.op .p (.op .p (.op .p (.op .p (.nil)))))))) (.op .p (.op .p (.op (.cl [.val]) (.op (.cl [.int .i64]) (.op .p (.op .p (.op .p (.nil)))))))))))))))))))))))))))))))))))))))))))))))))))))))))))))))))))) (.cond (.seq (.reg (.op .p (.nil))) (.leaf)) (.leaf))) (.seq (.reg (.op .p (.op .p (.op (.cl [.val]) (.op (.cl [.int .i64]) (.op .p (.op .p (.op .p (.sp 95 (.op .p (.op .p (.op (.r (.slice)) (.op (.cl [.val]) (.op (.cl [.int .i64]) (.op .p (.op .p (.op .p (.op .p (.sp 104 (.op .p (.op .p (.op (.cl [.val]) (.op (.cl [.int .i64]) (.op .p (.op .p (.op .p (.op .p (.sp 112 (.op .p (.op .p (.op (.cl [.val]) (.op (.cl [.int .i64]) (.op .p (.op .p (.op .p (.op .p (.sp 120 (.op .p (.op (.cl [.slice]) (.op .p (.op .p (.op .p (.op .p (.sp 126 (.op .p (.op (.cl [.slice]) (.op .p (.op .p (.op .p (.op .p (.sp 132 (.op .p (.op (.cl [.int .i64]) (.op .p (.op .p (.op .p (.sp 137 (.op .p (.op (.cl [.int .i64]) (.op .p (.op .p (.op .p (.sp 142 (.op .p (.op (.cl [.bool]) (.op .p (.op .p (.op .p (.nil)))))) (.op .p (.op .p (.op .p (.op .p (.op .p (.nil)))))))))))) (.op .p (.op .p (.op .p (.op .p (.op .p (.op .p (.op .p (.op .p (.op .p (.op .p (.nil))))))))))))))))) (.op .p (.op .p (.op .p (.op .p (.op .p (.op .p (.op .p (.op .p (.op .p (.op .p (.op .p (.op .p (.op .p (.op .p (.op .p (.nil))))))))))))))))))))))) (.op .p (.op .p (.op .p (.op .p (.op .p (.op .p (.op .p (.op .p (.op .p (.op .p (.op .p (.op .p (.op .p (.op .p (.op .p (.op .p (.op .p (.op .p (.op .p (.op .p (.op .p (.nil))))))))))))))))))))))))))))) (.op .p (.op .p (.op .p (.op .p (.op .p (.op .p (.op .p (.op .p (.op .p (.op .p (.op .p (.op .p (.op .p (.op .p (.op .p (.op .p (.op .p (.op .p (.op .p (.op .p (.op .p (.op .p (.op .p (.op .p (.op .p (.op .p (.op .p (.nil))))))))))))))))))))))))))))))))))))) (.op .p (.op .p (.op .p (.op .p (.op .p (.op .p (.op .p (.op .p (.op .p (.op .p (.op .p (.op .p (.op .p (.op .p (.op .p (.op .p (.op .p (.op .p (.op .p (.op .p (.op .p (.op .p (.op .p (.op .p (.op .p (.op .p (.op .p (.op .p (.op .p (.op .p (.op .p (.op .p (.op .p (.op .p (.op .p (.nil))))))))))))))))))))))))))))))))))))))))))))) (.op .p (.op .p (.op .p (.op .p (.op .p (.op .p (.op .p (.op .p (.op .p (.op .p (.op .p (.op .p (.op .p (.op .p (.op .p (.op .p (.op .p (.op .p (.op .p (.op .p (.op .p (.op .p (.op .p (.op .p (.op .p (.op .p (.op .p (.op .p (.op .p (.op .p (.op .p (.op .p (.op .p (.op .p (.op .p (.op .p (.op .p (.op .p (.op .p (.op .p (.op .p (.op .p (.op .p (.nil)))))))))))))))))))))))))))))))))))))))))))))))))))))) (.op .p (.op .p (.op .p (.op .p (.op .p (.op .p (.op .p (.op .p (.op .p (.op .p (.op .p (.op .p (.op .p (.op .p (.op .p (.op .p (.op .p (.op .p (.op .p (.op .p (.op .p (.op .p (.op .p (.op .p (.op .p (.op .p (.op .p (.op .p (.op .p (.op .p (.op .p (.op .p (.op .p (.op .p (.op .p (.op .p (.op .p (.op .p (.op .p (.op .p (.op .p (.op .p (.op .p (.op .p (.op .p (.op .p (.op .p (.op .p (.op .p (.op .p (.op .p (.op .p (.nil)))))))))))))))))))))))))))))))))))))))))))))))))))))))))))))) (.leaf))))))))))
    (by kernel_rfl) Try.func7 (by kernel_rfl) (by kernel_rfl) (by kernel_rfl) (by kernel_rfl) h

end Go.Proofs.Ytoijbpkplegnkaa
