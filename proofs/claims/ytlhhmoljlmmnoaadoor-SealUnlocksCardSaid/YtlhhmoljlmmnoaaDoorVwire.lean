/- Verification conditions of functions, printed by the session's own program vc.py: out of each, Calls (conditions: none). -/
import Derived.Test.YtlhhmoljlmmnoaaDoorRows
import Derived.Test.YtlhhmoljlmmnoaaDoorSxRun
namespace Go.Proofs.YtlhhmoljlmmnoaaDoor
open Go Go.Proofs.YtlhhmoljlmmnoaaDoor.Sx

set_option maxRecDepth 100000 in
theorem wire_Var_vc (a0 : Int) (w : World) (R : Ending → World → Prop) (h :
  ((decide (a0 < (0 : Int))) = true →
    (R (.returned (.slice none 0 0)) w)) ∧
  ((decide (a0 < (0 : Int))) = false →
    (∃ (I : Int → Option Addr → Nat → Nat → World → Prop) (μ : Int → Option Addr → Nat → Nat → World → Nat), I a0 none 0 0 w ∧
      (∀ (x0 : Int) (x3a : Option Addr) (x3n : Nat) (x3c : Nat), ∀ w1 : World, I x0 x3a x3n x3c w1 →
        (((decide (x0 ≥ (128 : Int))) = true →
            (∃ (t12a : Option Addr) (t12n : Nat) (t12c : Nat) (w2 : World), (Instr.buildSlice 25 1 #[(0, (.int .u8 (bor .u8 (IntKind.wrap .u8 x0) (128 : Int))))]).run Tryd.prog w1 = .ok (.slice t12a t12n t12c) w2 ∧
              (∃ (t13a : Option Addr) (t13n : Nat) (t13c : Nat) (w3 : World), (Builtin.append_ #[25, 25] 25 #[(.slice x3a x3n x3c), (.slice t12a t12n t12c)]).run Tryd.prog w2 = .ok (.slice t13a t13n t13c) w3 ∧
                (I (shrI .i64 x0 (7 : Int)) t13a t13n t13c w3 ∧ μ (shrI .i64 x0 (7 : Int)) t13a t13n t13c w3 < μ x0 x3a x3n x3c w1)))) ∧
          ((decide (x0 ≥ (128 : Int))) = false →
            (∃ (t19a : Option Addr) (t19n : Nat) (t19c : Nat) (w4 : World), (Instr.buildSlice 25 1 #[(0, (.int .u8 (IntKind.wrap .u8 x0)))]).run Tryd.prog w1 = .ok (.slice t19a t19n t19c) w4 ∧
              (∃ (t20a : Option Addr) (t20n : Nat) (t20c : Nat) (w5 : World), (Builtin.append_ #[25, 25] 25 #[(.slice x3a x3n x3c), (.slice t19a t19n t19c)]).run Tryd.prog w4 = .ok (.slice t20a t20n t20c) w5 ∧
                (R (.returned (.slice t20a t20n t20c)) w5))))))))) : Calls Tryd.prog 46 #[(.int .i64 a0)] w R :=
  calls_of_ev (args := [(.int .i64 a0)])
    (tc := .seq (.reg (.op .p (.nil))) (.seq (.seq (.reg (.op .p (.op .p (.nil)))) (.cond (.seq (.reg (.op .p (.nil))) (.leaf)) (.leaf))) (.seq (.reg (.op .p (.nil))) (.seq (.blk (.loop [0, 3, 6, 7, 8, 9, 10, 11, 12, 13, 14, 15] [0, 3] [.int .i64, .slice] (.seq (.seq (.reg (.op .p (.op .p (.nil)))) (.cond (.leaf) (.leaf))) (.blk (.seq (.reg (.op .p (.op .p (.op .p (.op .p (.op (.r (.slice)) (.op (.r (.slice)) (.op .p (.nil))))))))) (.reg (.op .p (.op .p (.op .p (.nil)))))))))) (.seq (.reg (.op .p (.op .p (.op .p (.op (.r (.slice)) (.op (.r (.slice)) (.op .p (.nil)))))))) (.leaf))))))
    (by kernel_rfl) Tryd.func46 (by kernel_rfl) (by kernel_rfl) (by kernel_rfl) (by kernel_rfl) h

set_option maxRecDepth 100000 in
theorem wire_Pack_vc (a0a : Option Addr) (a0n : Nat) (a0c : Nat) (w : World) (R : Ending → World → Prop) (h :
  ∃ (I : Option Addr → Nat → Nat → Int → World → Prop) (μ : Option Addr → Nat → Nat → Int → World → Nat), I none 0 0 0 w ∧
  (∀ (x3a : Option Addr) (x3n : Nat) (x3c : Nat) (x8 : Int), ∀ w1 : World, I x3a x3n x3c x8 w1 →
    (((decide (x8 < ((a0n : Nat) : Int))) = true →
        (∃ (t10b t10o : Nat), a0a = some ⟨t10b, t10o, none⟩ ∧ 0 ≤ x8 ∧ x8 < ((a0n : Nat) : Int) ∧
          (∃ (t11a : Option Addr) (t11n : Nat) (t11c : Nat), (Instr.loadAt 25 (.pointer (some ⟨t10b, t10o + Int.toNat x8 * 1, none⟩))).run Tryd.prog w1 = .ok (.slice t11a t11n t11c) w1 ∧
            (((decide (((t11n : Nat) : Int) > (67108864 : Int))) = true →
                (R (.returned (.slice none 0 0)) w1)) ∧
              ((decide (((t11n : Nat) : Int) > (67108864 : Int))) = false →
                (Calls Tryd.prog 46 #[(.int .i64 ((t11n : Nat) : Int))] w1 fun (e18 : Ending) (w2 : World) => ∃ (t18a : Option Addr) (t18n : Nat) (t18c : Nat), e18 = .returned (.slice t18a t18n t18c) ∧
                  (∃ (t19a : Option Addr) (t19n : Nat) (t19c : Nat) (w3 : World), (Builtin.append_ #[25, 25] 25 #[(.slice x3a x3n x3c), (.slice t18a t18n t18c)]).run Tryd.prog w2 = .ok (.slice t19a t19n t19c) w3 ∧
                    (∃ (t22a : Option Addr) (t22n : Nat) (t22c : Nat) (w4 : World), (Builtin.append_ #[25, 25] 25 #[(.slice t19a t19n t19c), (.slice t11a t11n t11c)]).run Tryd.prog w3 = .ok (.slice t22a t22n t22c) w4 ∧
                      (I t22a t22n t22c (IntKind.wrap .i64 (x8 + (1 : Int))) w4 ∧ μ t22a t22n t22c (IntKind.wrap .i64 (x8 + (1 : Int))) w4 < μ x3a x3n x3c x8 w1))))))))) ∧
      ((decide (x8 < ((a0n : Nat) : Int))) = false →
        (R (.returned (.slice x3a x3n x3c)) w1))))) : Calls Tryd.prog 30 #[(.slice a0a a0n a0c)] w R :=
  calls_of_ev (args := [(.slice a0a a0n a0c)])
    (tc := .seq (.reg (.op .p (.nil))) (.seq (.reg (.op .p (.nil))) (.seq (.seq (.reg (.op .p (.op .p (.op .p (.nil))))) (.blk (.loop [2, 3, 5, 8, 9, 10, 11, 12, 13, 14, 15, 16, 17, 18, 19, 20, 21, 22, 23] [3, 8] [.slice, .int .i64] (.seq (.reg (.op .p (.nil))) (.seq (.cond (.leaf) (.leaf)) (.seq (.blk (.seq (.reg (.op .ix (.op (.ld (.slice)) (.op .p (.nil))))) (.seq (.seq (.reg (.op .p (.op .p (.op .p (.nil))))) (.cond (.seq (.reg (.op .p (.nil))) (.leaf)) (.leaf))) (.seq (.reg (.op .p (.op .p (.op .p (.op (.cl [.slice]) (.op (.r (.slice)) (.op .p (.nil)))))))) (.reg (.op .p (.op .p (.op (.r (.slice)) (.op .p (.nil)))))))))) (.reg (.op .p (.op .p (.nil)))))))))) (.seq (.reg (.op .p (.op .p (.nil)))) (.leaf)))))
    (by kernel_rfl) Tryd.func30 (by kernel_rfl) (by kernel_rfl) (by kernel_rfl) (by kernel_rfl) h

set_option maxRecDepth 100000 in
theorem amphoraref04_Var_vc (a0 : Int) (w : World) (R : Ending → World → Prop) (h :
  ∃ (I : Int → Option Addr → Nat → Nat → World → Prop) (μ : Int → Option Addr → Nat → Nat → World → Nat), I a0 none 0 0 w ∧
  (∀ (x0 : Int) (x3a : Option Addr) (x3n : Nat) (x3c : Nat), ∀ w1 : World, I x0 x3a x3n x3c w1 →
    (((decide (x0 ≥ (0 : Int))) = true →
        ((((IntKind.wrap .i64 (Int.tdiv x0 (128 : Int))) == (0 : Int)) = true →
            (∃ (t16a : Option Addr) (t16n : Nat) (t16c : Nat) (w2 : World), (Instr.buildSlice 25 1 #[(0, (.int .u8 (IntKind.wrap .u8 (Int.tmod x0 (128 : Int)))))]).run Tryd.prog w1 = .ok (.slice t16a t16n t16c) w2 ∧
              (∃ (t17a : Option Addr) (t17n : Nat) (t17c : Nat) (w3 : World), (Builtin.append_ #[25, 25] 25 #[(.slice x3a x3n x3c), (.slice t16a t16n t16c)]).run Tryd.prog w2 = .ok (.slice t17a t17n t17c) w3 ∧
                (R (.returned (.slice t17a t17n t17c)) w3)))) ∧
          (((IntKind.wrap .i64 (Int.tdiv x0 (128 : Int))) == (0 : Int)) = false →
            (∃ (t22a : Option Addr) (t22n : Nat) (t22c : Nat) (w4 : World), (Instr.buildSlice 25 1 #[(0, (.int .u8 (IntKind.wrap .u8 (IntKind.wrap .i64 ((Int.tmod x0 (128 : Int)) + (128 : Int))))))]).run Tryd.prog w1 = .ok (.slice t22a t22n t22c) w4 ∧
              (∃ (t23a : Option Addr) (t23n : Nat) (t23c : Nat) (w5 : World), (Builtin.append_ #[25, 25] 25 #[(.slice x3a x3n x3c), (.slice t22a t22n t22c)]).run Tryd.prog w4 = .ok (.slice t23a t23n t23c) w5 ∧
                (I (IntKind.wrap .i64 (Int.tdiv x0 (128 : Int))) t23a t23n t23c w5 ∧ μ (IntKind.wrap .i64 (Int.tdiv x0 (128 : Int))) t23a t23n t23c w5 < μ x0 x3a x3n x3c w1)))))) ∧
      ((decide (x0 ≥ (0 : Int))) = false →
        (R (.returned (.slice none 0 0)) w1))))) : Calls Tryd.prog 51 #[(.int .i64 a0)] w R :=
  calls_of_ev (args := [(.int .i64 a0)])
    (tc := .seq (.reg (.op .p (.nil))) (.seq (.reg (.op .p (.nil))) (.seq (.blk (.loop [0, 2, 3, 4, 5, 6, 7, 8, 9, 10, 11, 12, 13, 14, 15, 16, 17, 18, 19, 20, 21, 22, 23] [0, 3] [.int .i64, .slice] (.seq (.seq (.reg (.op .p (.op .p (.nil)))) (.cond (.leaf) (.leaf))) (.blk (.seq (.reg (.op .p (.op .p (.op .p (.nil))))) (.seq (.reg (.op .p (.op .p (.op .p (.nil))))) (.seq (.seq (.reg (.op .p (.op .p (.nil)))) (.cond (.seq (.reg (.op .p (.op .p (.op .p (.op (.r (.slice)) (.op (.r (.slice)) (.op .p (.nil)))))))) (.leaf)) (.leaf))) (.reg (.op .p (.op .p (.op .p (.op .p (.op (.r (.slice)) (.op (.r (.slice)) (.op .p (.nil)))))))))))))))) (.seq (.reg (.op .p (.nil))) (.leaf)))))
    (by kernel_rfl) Tryd.func51 (by kernel_rfl) (by kernel_rfl) (by kernel_rfl) (by kernel_rfl) h

set_option maxRecDepth 100000 in
theorem amphoraref04_Pack_vc (a0a : Option Addr) (a0n : Nat) (a0c : Nat) (w : World) (R : Ending → World → Prop) (h :
  ∃ (I : Option Addr → Nat → Nat → Int → World → Prop) (μ : Option Addr → Nat → Nat → Int → World → Nat), I none 0 0 0 w ∧
  (∀ (x3a : Option Addr) (x3n : Nat) (x3c : Nat) (x4 : Int), ∀ w1 : World, I x3a x3n x3c x4 w1 →
    (((decide (x4 < ((a0n : Nat) : Int))) = true →
        (∃ (t13b t13o : Nat), a0a = some ⟨t13b, t13o, none⟩ ∧ 0 ≤ x4 ∧ x4 < ((a0n : Nat) : Int) ∧
          (∃ (t14a : Option Addr) (t14n : Nat) (t14c : Nat), (Instr.loadAt 25 (.pointer (some ⟨t13b, t13o + Int.toNat x4 * 1, none⟩))).run Tryd.prog w1 = .ok (.slice t14a t14n t14c) w1 ∧
            (((decide (((t14n : Nat) : Int) > (67108864 : Int))) = true →
                (R (.returned (.slice none 0 0)) w1)) ∧
              ((decide (((t14n : Nat) : Int) > (67108864 : Int))) = false →
                (∃ S : World → Prop, S w1.drew ∧
                  (∃ (t20b t20o : Nat), a0a = some ⟨t20b, t20o, none⟩ ∧ 0 ≤ x4 ∧ x4 < ((a0n : Nat) : Int) ∧
                    (∃ (t27b t27o : Nat), a0a = some ⟨t27b, t27o, none⟩ ∧ 0 ≤ x4 ∧ x4 < ((a0n : Nat) : Int) ∧
                      (∃ (t21a : Option Addr) (t21n : Nat) (t21c : Nat), (∀ w' : World, S w' → (Instr.loadAt 25 (.pointer (some ⟨t20b, t20o + Int.toNat x4 * 1, none⟩))).run Tryd.prog w' = .ok (.slice t21a t21n t21c) w') ∧
                        (∃ (t28a : Option Addr) (t28n : Nat) (t28c : Nat), (∀ w' : World, S w' → (Instr.loadAt 25 (.pointer (some ⟨t27b, t27o + Int.toNat x4 * 1, none⟩))).run Tryd.prog w' = .ok (.slice t28a t28n t28c) w') ∧
                          (Calls Tryd.prog 51 #[(.int .i64 ((t21n : Nat) : Int))] w1.drew fun (e23 : Ending) (w2 : World) => ∃ (t23a : Option Addr) (t23n : Nat) (t23c : Nat), e23 = .returned (.slice t23a t23n t23c) ∧
                            (∃ S_1 : World → Prop, (∀ w' : World, S_1 w' → S w') ∧ S_1 w2 ∧
                              (∃ (t24a : Option Addr) (t24n : Nat) (t24c : Nat) (w3 : World), (Builtin.append_ #[25, 25] 25 #[(.slice x3a x3n x3c), (.slice t23a t23n t23c)]).run Tryd.prog w2 = .ok (.slice t24a t24n t24c) w3 ∧
                                (∃ S_2 : World → Prop, (∀ w' : World, S_2 w' → S_1 w') ∧ S_2 w3 ∧
                                  (∃ (t29a : Option Addr) (t29n : Nat) (t29c : Nat) (w4 : World), (Builtin.append_ #[25, 25] 25 #[(.slice t24a t24n t24c), (.slice t28a t28n t28c)]).run Tryd.prog w3 = .ok (.slice t29a t29n t29c) w4 ∧
                                    (∃ S_3 : World → Prop, (∀ w' : World, S_3 w' → S_2 w') ∧ S_3 w4 ∧
                                      (I t29a t29n t29c (IntKind.wrap .i64 (x4 + (1 : Int))) w4 ∧ μ t29a t29n t29c (IntKind.wrap .i64 (x4 + (1 : Int))) w4 < μ x3a x3n x3c x4 w1))))))))))))))))) ∧
      ((decide (x4 < ((a0n : Nat) : Int))) = false →
        (R (.returned (.slice x3a x3n x3c)) w1))))) : Calls Tryd.prog 37 #[(.slice a0a a0n a0c)] w R :=
  calls_of_ev (args := [(.slice a0a a0n a0c)])
    (tc := .seq (.reg (.op .p (.nil))) (.seq (.reg (.op .p (.nil))) (.seq (.seq (.reg (.op .p (.nil))) (.blk (.loop [2, 3, 4, 5, 6, 7, 8, 9, 10, 11, 12, 13, 14, 15, 16, 17, 18, 19, 20, 21, 22, 23, 24, 25, 26, 27, 28, 29] [3, 4] [.slice, .int .i64] (.seq (.seq (.reg (.op .p (.op .p (.op .p (.op .p (.nil)))))) (.cond (.leaf) (.leaf))) (.seq (.blk (.seq (.seq (.reg (.op .p (.op .p (.op .ix (.op (.ld (.slice)) (.op .p (.op .p (.nil)))))))) (.cond (.seq (.reg (.op .p (.nil))) (.leaf)) (.leaf))) (.drawS (.tk 0 .p (.tk 1 .p (.tk 2 .p (.tk 3 .ix (.tk 8 .p (.tk 9 .p (.tk 10 .ix (.ts 4 (.slice) (.tk 5 .p (.ts 11 (.slice) (.go 6 (.cl [.slice]) (.go 7 (.r (.slice)) (.go 12 (.r (.slice)) (.tk 13 .p (.nil))))))))))))))) []))) (.reg (.op .p (.op .p (.op .p (.nil)))))))))) (.seq (.reg (.op .p (.op .p (.nil)))) (.leaf)))))
    (by kernel_rfl) Tryd.func37 (by kernel_rfl) (by kernel_rfl) (by kernel_rfl) (by kernel_rfl) h

end Go.Proofs.YtlhhmoljlmmnoaaDoor
