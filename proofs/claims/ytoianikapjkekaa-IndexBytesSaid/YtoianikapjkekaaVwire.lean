/- Verification conditions of functions, printed by the session's own program vc.py: out of each, Calls (conditions: none). -/
import Derived.Test.YtoianikapjkekaaRows
import Derived.Test.YtoianikapjkekaaSxRun
namespace Go.Proofs.Ytoianikapjkekaa
open Go Go.Proofs.Ytoianikapjkekaa.Sx

set_option maxRecDepth 100000 in
theorem wire_Var_vc (a0 : Int) (w : World) (R : Ending → World → Prop) (h :
  ((decide (a0 < (0 : Int))) = true →
    (R (.returned (.slice none 0 0)) w)) ∧
  ((decide (a0 < (0 : Int))) = false →
    (∃ (I : Int → Option Addr → Nat → Nat → World → Prop) (μ : Int → Option Addr → Nat → Nat → World → Nat), I a0 none 0 0 w ∧
      (∀ (x0 : Int) (x3a : Option Addr) (x3n : Nat) (x3c : Nat), ∀ w1 : World, I x0 x3a x3n x3c w1 →
        (((decide (x0 ≥ (128 : Int))) = true →
            (∃ (t12a : Option Addr) (t12n : Nat) (t12c : Nat) (w2 : World), (Instr.buildSlice 63 1 #[(0, (.int .u8 (bor .u8 (IntKind.wrap .u8 x0) (128 : Int))))]).run Try.prog w1 = .ok (.slice t12a t12n t12c) w2 ∧
              (∃ (t13a : Option Addr) (t13n : Nat) (t13c : Nat) (w3 : World), (Builtin.append_ #[63, 63] 63 #[(.slice x3a x3n x3c), (.slice t12a t12n t12c)]).run Try.prog w2 = .ok (.slice t13a t13n t13c) w3 ∧
                (I (shrI .i64 x0 (7 : Int)) t13a t13n t13c w3 ∧ μ (shrI .i64 x0 (7 : Int)) t13a t13n t13c w3 < μ x0 x3a x3n x3c w1)))) ∧
          ((decide (x0 ≥ (128 : Int))) = false →
            (∃ (t19a : Option Addr) (t19n : Nat) (t19c : Nat) (w4 : World), (Instr.buildSlice 63 1 #[(0, (.int .u8 (IntKind.wrap .u8 x0)))]).run Try.prog w1 = .ok (.slice t19a t19n t19c) w4 ∧
              (∃ (t20a : Option Addr) (t20n : Nat) (t20c : Nat) (w5 : World), (Builtin.append_ #[63, 63] 63 #[(.slice x3a x3n x3c), (.slice t19a t19n t19c)]).run Try.prog w4 = .ok (.slice t20a t20n t20c) w5 ∧
                (R (.returned (.slice t20a t20n t20c)) w5))))))))) : Calls Try.prog 47 #[(.int .i64 a0)] w R :=
  calls_of_ev (args := [(.int .i64 a0)])
    (tc := .seq (.reg (.op .p (.nil))) (.seq (.seq (.reg (.op .p (.op .p (.nil)))) (.cond (.seq (.reg (.op .p (.nil))) (.leaf)) (.leaf))) (.seq (.reg (.op .p (.nil))) (.seq (.blk (.loop [0, 3, 6, 7, 8, 9, 10, 11, 12, 13, 14, 15] [0, 3] [.int .i64, .slice] (.seq (.seq (.reg (.op .p (.op .p (.nil)))) (.cond (.leaf) (.leaf))) (.blk (.seq (.reg (.op .p (.op .p (.op .p (.op .p (.op (.r (.slice)) (.op (.r (.slice)) (.op .p (.nil))))))))) (.reg (.op .p (.op .p (.op .p (.nil)))))))))) (.seq (.reg (.op .p (.op .p (.op .p (.op (.r (.slice)) (.op (.r (.slice)) (.op .p (.nil)))))))) (.leaf))))))
    (by kernel_rfl) Try.func47 (by kernel_rfl) (by kernel_rfl) (by kernel_rfl) (by kernel_rfl) h

set_option maxRecDepth 100000 in
theorem wire_ReadVar_vc (a0a : Option Addr) (a0n : Nat) (a0c : Nat) (w : World) (R : Ending → World → Prop) (h :
  ∃ (I : Int → Int → World → Prop) (μ : Int → Int → World → Nat), I 0 0 w ∧
  (∀ (x5 : Int) (x6 : Int), ∀ w1 : World, I x5 x6 w1 →
    ((((decide (x6 < ((a0n : Nat) : Int))) && (decide (x6 < (9 : Int)))) = true →
        (∃ (t20b t20o : Nat), a0a = some ⟨t20b, t20o, none⟩ ∧ 0 ≤ x6 ∧ x6 < ((a0n : Nat) : Int) ∧
          (∃ (t21 : Int), (Instr.loadAt 5 (.pointer (some ⟨t20b, t20o + Int.toNat x6 * 1, none⟩))).run Try.prog w1 = .ok (.int .u8 t21) w1 ∧
            (0 ≤ (IntKind.wrap .i64 ((7 : Int) * x6)) ∧
              (∃ (t30b t30o : Nat), a0a = some ⟨t30b, t30o, none⟩ ∧ 0 ≤ x6 ∧ x6 < ((a0n : Nat) : Int) ∧
                (∃ (t31 : Int), (Instr.loadAt 5 (.pointer (some ⟨t30b, t30o + Int.toNat x6 * 1, none⟩))).run Try.prog w1 = .ok (.int .u8 t31) w1 ∧
                  (((decide (t31 < (128 : Int))) = true →
                      (∃ (t35b t35o : Nat), a0a = some ⟨t35b, t35o, none⟩ ∧ 0 ≤ x6 ∧ x6 < ((a0n : Nat) : Int) ∧
                        (∃ (t36 : Int), (Instr.loadAt 5 (.pointer (some ⟨t35b, t35o + Int.toNat x6 * 1, none⟩))).run Try.prog w1 = .ok (.int .u8 t36) w1 ∧
                          ((((t36 == (0 : Int)) && (decide (x6 > (0 : Int)))) = true →
                              (R (.returned (.tuple #[(.int .i64 0), (.int .i64 0), (.iface 58 (.int .i64 9))])) w1)) ∧
                            (((t36 == (0 : Int)) && (decide (x6 > (0 : Int)))) = false →
                              (R (.returned (.tuple #[(.int .i64 (IntKind.wrap .i64 (bor .u64 x5 (shlI .u64 (IntKind.wrap .u64 (band .u8 t21 (127 : Int))) (IntKind.wrap .i64 ((7 : Int) * x6)))))), (.int .i64 (IntKind.wrap .i64 (x6 + (1 : Int)))), .nilIface])) w1)))))) ∧
                    ((decide (t31 < (128 : Int))) = false →
                      (I (bor .u64 x5 (shlI .u64 (IntKind.wrap .u64 (band .u8 t21 (127 : Int))) (IntKind.wrap .i64 ((7 : Int) * x6)))) (IntKind.wrap .i64 (x6 + (1 : Int))) w1 ∧ μ (bor .u64 x5 (shlI .u64 (IntKind.wrap .u64 (band .u8 t21 (127 : Int))) (IntKind.wrap .i64 ((7 : Int) * x6)))) (IntKind.wrap .i64 (x6 + (1 : Int))) w1 < μ x5 x6 w1))))))))) ∧
      (((decide (x6 < ((a0n : Nat) : Int))) && (decide (x6 < (9 : Int)))) = false →
        (R (.returned (.tuple #[(.int .i64 0), (.int .i64 0), (.iface 58 (.int .i64 9))])) w1))))) : Calls Try.prog 65 #[(.slice a0a a0n a0c)] w R :=
  calls_of_ev (args := [(.slice a0a a0n a0c)])
    (tc := .seq (.reg (.op .p (.op .p (.op .p (.nil))))) (.seq (.reg (.op .p (.nil))) (.seq (.seq (.reg (.op .p (.nil))) (.blk (.loop [2, 3, 4, 5, 6, 7, 8, 9, 10, 11, 12, 13, 14, 15, 16, 17, 18, 19, 20, 21, 22, 23, 24, 25, 26, 27, 28, 29, 30, 31, 32, 33, 34, 35, 36, 37, 38, 39, 40, 41, 42, 43, 44, 45] [5, 6] [.int .u64, .int .i64] (.seq (.seq (.reg (.op .p (.op .p (.op .p (.op .p (.op .p (.ap 2 (.nil)))))))) (.cond (.leaf) (.leaf))) (.seq (.blk (.seq (.reg (.op .p (.op .p (.op .p (.op .ix (.op (.ld (.int .u8)) (.op .p (.op .p (.op .p (.op .p (.op .sc (.op .p (.op .p (.nil)))))))))))))) (.seq (.reg (.op .p (.op .p (.op .ix (.op (.ld (.int .u8)) (.op .p (.nil))))))) (.cond (.seq (.seq (.reg (.op .p (.op .p (.op .ix (.op (.ld (.int .u8)) (.op .p (.op .p (.ap 2 (.nil))))))))) (.cond (.leaf) (.leaf))) (.seq (.reg (.op .p (.op .p (.op .p (.op .p (.op .p (.op .p (.op .p (.nil))))))))) (.leaf))) (.leaf))))) (.reg (.op .p (.op .p (.op .p (.nil)))))))))) (.seq (.reg (.op .p (.op .p (.op .p (.op .p (.nil)))))) (.leaf)))))
    (by kernel_rfl) Try.func65 (by kernel_rfl) (by kernel_rfl) (by kernel_rfl) (by kernel_rfl) h

set_option maxRecDepth 100000 in
theorem wire_NewReader_vc (a0a : Option Addr) (a0n : Nat) (a0c : Nat) (w : World) (R : Ending → World → Prop) (h :
  Calls Try.prog 63 #[(.slice a0a a0n a0c)] w fun (e4 : Ending) (w1 : World) => ∃ (t4a : Option Addr) (t4n : Nat) (t4c : Nat), e4 = .returned (.slice t4a t4n t4c) ∧
  (∃ (t5 : Array Value), (Instr.build 103 #[(0, (.slice t4a t4n t4c))]).run Try.prog w1 = .ok (.agg t5) w1 ∧
    (∃ (g6 : Nat) (w2 : World), (Instr.box 103 (.agg t5)).run Try.prog w1 = .ok (.pointer (some ⟨g6, 0, none⟩)) w2 ∧
      (R (.returned (.pointer (some ⟨g6, 0, none⟩))) w2)))) : Calls Try.prog 49 #[(.slice a0a a0n a0c)] w R :=
  calls_of_ev (args := [(.slice a0a a0n a0c)])
    (tc := .seq (.reg (.op .p (.nil))) (.seq (.reg (.op .p (.op (.cl [.slice]) (.op (.ld (.agg)) (.op .bx (.op .p (.nil))))))) (.leaf)))
    (by kernel_rfl) Try.func49 (by kernel_rfl) (by kernel_rfl) (by kernel_rfl) (by kernel_rfl) h

set_option maxRecDepth 100000 in
theorem wire_Reader_fail_vc (a0b : Nat) (a0o : Nat) (w : World) (R : Ending → World → Prop) (h :
  ∃ w1 : World, (Instr.storeAt 4 (.pointer (some ⟨a0b, a0o + 1, none⟩)) (.bool true)).run Try.prog w = .ok () w1 ∧
  (∃ w2 : World, (Instr.storeAt 63 (.pointer (some ⟨a0b, a0o, none⟩)) (.slice none 0 0)).run Try.prog w1 = .ok () w2 ∧
    (R (.returned (.tuple #[])) w2))) : Calls Try.prog 66 #[(.pointer (some ⟨a0b, a0o, none⟩))] w R :=
  calls_of_ev (args := [(.pointer (some ⟨a0b, a0o, none⟩))])
    (tc := .reg (.op .p (.op .p (.op .p (.op .p (.op .u (.op .p (.op .p (.op .u (.nil))))))))))
    (by kernel_rfl) Try.func66 (by kernel_rfl) (by kernel_rfl) (by kernel_rfl) (by kernel_rfl) h

set_option maxRecDepth 100000 in
theorem wire_Reader_raw_vc (a0b : Nat) (a0o : Nat) (a1 : Int) (w : World) (R : Ending → World → Prop) (h :
  ∃ J : Bool → World → Prop, (((decide (a1 < (0 : Int))) = true →
      (J true w)) ∧
    ((decide (a1 < (0 : Int))) = false →
      (∃ (t13a : Option Addr) (t13n : Nat) (t13c : Nat), (Instr.loadAt 63 (.pointer (some ⟨a0b, a0o, none⟩))).run Try.prog w = .ok (.slice t13a t13n t13c) w ∧
        (J (decide (a1 > ((t13n : Nat) : Int))) w)))) ∧
  (∀ (x16 : Bool), ∀ w1 : World, J x16 w1 →
    (∃ J_1 : World → Prop, ((x16 = true →
          (Calls Try.prog 66 #[(.pointer (some ⟨a0b, a0o, none⟩))] w1 fun (e18 : Ending) (w2 : World) => e18 = .returned (.tuple #[]) ∧
            (J_1  w2))) ∧
        (x16 = false →
          (J_1  w1))) ∧
      (∀ w3 : World, J_1  w3 →
        (∃ (t22 : Bool), (Instr.loadAt 4 (.pointer (some ⟨a0b, a0o + 1, none⟩))).run Try.prog w3 = .ok (.bool t22) w3 ∧
          ((t22 = true →
              (R (.returned (.slice none 0 0)) w3)) ∧
            (t22 = false →
              (∃ (t26a : Option Addr) (t26n : Nat) (t26c : Nat), (Instr.loadAt 63 (.pointer (some ⟨a0b, a0o, none⟩))).run Try.prog w3 = .ok (.slice t26a t26n t26c) w3 ∧
                (0 ≤ a1 ∧ a1 ≤ a1 ∧ a1 ≤ ((t26c : Nat) : Int) ∧
                  (∃ (t34a : Option Addr) (t34n : Nat) (t34c : Nat), (Instr.loadAt 63 (.pointer (some ⟨a0b, a0o, none⟩))).run Try.prog w3 = .ok (.slice t34a t34n t34c) w3 ∧
                    (0 ≤ a1 ∧ a1 ≤ ((t34n : Nat) : Int) ∧ ((t34n : Nat) : Int) ≤ ((t34c : Nat) : Int) ∧ ∀ t36a : Option Addr, SubA 1 t34a (Int.toNat a1) t34c t36a →
                      (∃ w4 : World, (Instr.storeAt 63 (.pointer (some ⟨a0b, a0o, none⟩)) (.slice t36a ((t34n) - (Int.toNat a1)) (t34c - (Int.toNat a1)))).run Try.prog w3 = .ok () w4 ∧
                        (R (.returned (.slice t26a (Int.toNat a1) (Int.toNat a1))) w4))))))))))))) : Calls Try.prog 64 #[(.pointer (some ⟨a0b, a0o, none⟩)), (.int .i64 a1)] w R :=
  calls_of_ev (args := [(.pointer (some ⟨a0b, a0o, none⟩)), (.int .i64 a1)])
    (tc := .seq (.reg (.op .p (.nil))) (.seq (.seq (.join [6, 7, 8, 9, 10, 11, 12, 13, 14, 15, 16] [16] [.bool] (.reg (.op .p (.op .p (.op .p (.sp 8 (.op .p (.op .p (.op .p (.op .p (.op .p (.op .p (.op .p (.op .p (.nil))))))))) (.op .p (.op .p (.op .p (.op .p (.op (.ld (.slice)) (.op .p (.op .p (.op .p (.nil))))))))))))))) (.join [17, 18] [] [] (.cond (.reg (.op .p (.op (.cl []) (.nil)))) (.leaf)))) (.seq (.seq (.reg (.op .p (.op .p (.op .p (.op (.ld (.bool)) (.nil)))))) (.cond (.seq (.reg (.op .p (.nil))) (.leaf)) (.leaf))) (.seq (.reg (.op .p (.op .p (.op .p (.op (.ld (.slice)) (.op .p (.op .p (.op .sl (.op .p (.nil)))))))))) (.seq (.reg (.op .p (.op .p (.op .p (.op .p (.op (.ld (.slice)) (.op .p (.op .sl (.op .p (.op .p (.op .u (.nil)))))))))))) (.seq (.reg (.op .p (.op .p (.nil)))) (.leaf)))))))
    (by kernel_rfl) Try.func64 (by kernel_rfl) (by kernel_rfl) (by kernel_rfl) (by kernel_rfl) h

set_option maxRecDepth 100000 in
theorem wire_Reader_Var_vc (a0b : Nat) (a0o : Nat) (w : World) (R : Ending → World → Prop) (h :
  ∃ (t12 : Bool), (Instr.loadAt 4 (.pointer (some ⟨a0b, a0o + 1, none⟩))).run Try.prog w = .ok (.bool t12) w ∧
  ((t12 = true →
      (R (.returned (.int .i64 0)) w)) ∧
    (t12 = false →
      (∃ (t18a : Option Addr) (t18n : Nat) (t18c : Nat), (Instr.loadAt 63 (.pointer (some ⟨a0b, a0o, none⟩))).run Try.prog w = .ok (.slice t18a t18n t18c) w ∧
        (Calls Try.prog 65 #[(.slice t18a t18n t18c)] w fun (e19 : Ending) (w1 : World) => ∃ (t19_0 : Int) (t19_1 : Int) (t19_2 : Value), e19 = .returned (.tuple #[(.int .i64 t19_0), (.int .i64 t19_1), t19_2]) ∧
          (∃ (t24 : Bool), (eqlS .neq 27 (.tmp 23) (.const .nilIface) t19_2 .nilIface).run Try.prog w1 = .ok (.bool t24) w1 ∧
            ((t24 = true →
                (Calls Try.prog 66 #[(.pointer (some ⟨a0b, a0o, none⟩))] w1 fun (e26 : Ending) (w2 : World) => e26 = .returned (.tuple #[]) ∧
                  (R (.returned (.int .i64 0)) w2))) ∧
              (t24 = false →
                (∃ (t31a : Option Addr) (t31n : Nat) (t31c : Nat), (Instr.loadAt 63 (.pointer (some ⟨a0b, a0o, none⟩))).run Try.prog w1 = .ok (.slice t31a t31n t31c) w1 ∧
                  (0 ≤ t19_1 ∧ t19_1 ≤ ((t31n : Nat) : Int) ∧ ((t31n : Nat) : Int) ≤ ((t31c : Nat) : Int) ∧ ∀ t33a : Option Addr, SubA 1 t31a (Int.toNat t19_1) t31c t33a →
                    (∃ w3 : World, (Instr.storeAt 63 (.pointer (some ⟨a0b, a0o, none⟩)) (.slice t33a ((t31n) - (Int.toNat t19_1)) (t31c - (Int.toNat t19_1)))).run Try.prog w1 = .ok () w3 ∧
                      (R (.returned (.int .i64 t19_0)) w3)))))))))))) : Calls Try.prog 52 #[(.pointer (some ⟨a0b, a0o, none⟩))] w R :=
  calls_of_ev (args := [(.pointer (some ⟨a0b, a0o, none⟩))])
    (tc := .seq (.reg (.op .p (.nil))) (.seq (.seq (.reg (.op .p (.op .p (.op .p (.op .p (.op .p (.op .p (.op (.ld (.bool)) (.op .p (.nil)))))))))) (.cond (.seq (.reg (.op .p (.nil))) (.leaf)) (.leaf))) (.seq (.reg (.op .p (.op .p (.op .p (.op (.ld (.slice)) (.op (.cl [.int .i64, .int .i64, .val]) (.op .p (.op .p (.op .p (.op .p (.op .p (.op .p (.op .p (.nil)))))))))))))) (.seq (.seq (.reg (.op .p (.op (.ld (.bool)) (.nil)))) (.cond (.seq (.reg (.op .p (.op (.cl []) (.nil)))) (.seq (.reg (.op .p (.nil))) (.leaf))) (.leaf))) (.seq (.reg (.op .p (.op .p (.op .p (.op .p (.op (.ld (.slice)) (.op .p (.op .sl (.op .p (.op .p (.op .u (.nil)))))))))))) (.seq (.reg (.op .p (.op .p (.nil)))) (.leaf)))))))
    (by kernel_rfl) Try.func52 (by kernel_rfl) (by kernel_rfl) (by kernel_rfl) (by kernel_rfl) h

set_option maxRecDepth 100000 in
theorem wire_Reader_Var_vc_nil  (w : World) (R : Ending → World → Prop) (h :
  R (.returned (.int .i64 0)) w) : Calls Try.prog 52 #[(.pointer none)] w R :=
  calls_of_ev (args := [(.pointer none)])
    (tc := .seq (.reg (.op .p (.nil))) (.seq (.seq (.reg (.op .p (.op .p (.op .p (.op .p (.op .p (.op .p (.op .p (.op .p (.nil)))))))))) (.ct (.seq (.reg (.op .p (.nil))) (.leaf)))) (.leaf)))
    (by kernel_rfl) Try.func52 (by kernel_rfl) (by kernel_rfl) (by kernel_rfl) (by kernel_rfl) h

set_option maxRecDepth 100000 in
theorem wire_Reader_Raw_vc (a0b : Nat) (a0o : Nat) (a1 : Int) (w : World) (R : Ending → World → Prop) (h :
  Calls Try.prog 64 #[(.pointer (some ⟨a0b, a0o, none⟩)), (.int .i64 a1)] w fun (e9 : Ending) (w1 : World) => ∃ (t9a : Option Addr) (t9n : Nat) (t9c : Nat), e9 = .returned (.slice t9a t9n t9c) ∧
  (Calls Try.prog 63 #[(.slice t9a t9n t9c)] w1 fun (e10 : Ending) (w2 : World) => ∃ (t10a : Option Addr) (t10n : Nat) (t10c : Nat), e10 = .returned (.slice t10a t10n t10c) ∧
    (R (.returned (.slice t10a t10n t10c)) w2))) : Calls Try.prog 51 #[(.pointer (some ⟨a0b, a0o, none⟩)), (.int .i64 a1)] w R :=
  calls_of_ev (args := [(.pointer (some ⟨a0b, a0o, none⟩)), (.int .i64 a1)])
    (tc := .seq (.reg (.op .p (.nil))) (.seq (.seq (.reg (.op .p (.op .p (.nil)))) (.cf (.leaf))) (.seq (.reg (.op .p (.op .p (.op (.cl [.slice]) (.op (.cl [.slice]) (.op .p (.nil))))))) (.leaf))))
    (by kernel_rfl) Try.func51 (by kernel_rfl) (by kernel_rfl) (by kernel_rfl) (by kernel_rfl) h

set_option maxRecDepth 100000 in
theorem wire_Reader_Raw_vc_nil (a1 : Int) (w : World) (R : Ending → World → Prop) (h :
  R (.returned (.slice none 0 0)) w) : Calls Try.prog 51 #[(.pointer none), (.int .i64 a1)] w R :=
  calls_of_ev (args := [(.pointer none), (.int .i64 a1)])
    (tc := .seq (.reg (.op .p (.nil))) (.seq (.seq (.reg (.op .p (.op .p (.nil)))) (.ct (.seq (.reg (.op .p (.nil))) (.leaf)))) (.leaf)))
    (by kernel_rfl) Try.func51 (by kernel_rfl) (by kernel_rfl) (by kernel_rfl) (by kernel_rfl) h

set_option maxRecDepth 100000 in
theorem wire_Reader_Left_vc (a0b : Nat) (a0o : Nat) (w : World) (R : Ending → World → Prop) (h :
  ∃ (t8a : Option Addr) (t8n : Nat) (t8c : Nat), (Instr.loadAt 63 (.pointer (some ⟨a0b, a0o, none⟩))).run Try.prog w = .ok (.slice t8a t8n t8c) w ∧
  (R (.returned (.int .i64 ((t8n : Nat) : Int))) w)) : Calls Try.prog 50 #[(.pointer (some ⟨a0b, a0o, none⟩))] w R :=
  calls_of_ev (args := [(.pointer (some ⟨a0b, a0o, none⟩))])
    (tc := .seq (.reg (.op .p (.nil))) (.seq (.seq (.reg (.op .p (.op .p (.nil)))) (.cf (.leaf))) (.seq (.reg (.op .p (.op .p (.op .p (.op (.ld (.slice)) (.op .p (.op .p (.nil)))))))) (.leaf))))
    (by kernel_rfl) Try.func50 (by kernel_rfl) (by kernel_rfl) (by kernel_rfl) (by kernel_rfl) h

set_option maxRecDepth 100000 in
theorem wire_Reader_Left_vc_nil  (w : World) (R : Ending → World → Prop) (h :
  R (.returned (.int .i64 0)) w) : Calls Try.prog 50 #[(.pointer none)] w R :=
  calls_of_ev (args := [(.pointer none)])
    (tc := .seq (.reg (.op .p (.nil))) (.seq (.seq (.reg (.op .p (.op .p (.nil)))) (.ct (.seq (.reg (.op .p (.nil))) (.leaf)))) (.leaf)))
    (by kernel_rfl) Try.func50 (by kernel_rfl) (by kernel_rfl) (by kernel_rfl) (by kernel_rfl) h

set_option maxRecDepth 100000 in
theorem wire_Reader_Err_vc (a0b : Nat) (a0o : Nat) (w : World) (R : Ending → World → Prop) (h :
  ∃ (t9 : Bool), (Instr.loadAt 4 (.pointer (some ⟨a0b, a0o + 1, none⟩))).run Try.prog w = .ok (.bool t9) w ∧
  ((t9 = true →
      (R (.returned (.iface 58 (.int .i64 9))) w)) ∧
    (t9 = false →
      (R (.returned .nilIface) w)))) : Calls Try.prog 53 #[(.pointer (some ⟨a0b, a0o, none⟩))] w R :=
  calls_of_ev (args := [(.pointer (some ⟨a0b, a0o, none⟩))])
    (tc := .seq (.reg (.op .p (.nil))) (.seq (.seq (.reg (.op .p (.op .p (.op .p (.op .p (.op .p (.op .p (.op (.ld (.bool)) (.op .p (.nil)))))))))) (.cond (.seq (.reg (.op .p (.op .p (.nil)))) (.leaf)) (.leaf))) (.seq (.reg (.op .p (.nil))) (.leaf))))
    (by kernel_rfl) Try.func53 (by kernel_rfl) (by kernel_rfl) (by kernel_rfl) (by kernel_rfl) h

set_option maxRecDepth 100000 in
theorem wire_Reader_Err_vc_nil  (w : World) (R : Ending → World → Prop) (h :
  R (.returned (.iface 58 (.int .i64 9))) w) : Calls Try.prog 53 #[(.pointer none)] w R :=
  calls_of_ev (args := [(.pointer none)])
    (tc := .seq (.reg (.op .p (.nil))) (.seq (.seq (.reg (.op .p (.op .p (.op .p (.op .p (.op .p (.op .p (.op .p (.op .p (.nil)))))))))) (.ct (.seq (.reg (.op .p (.op .p (.nil)))) (.leaf)))) (.leaf)))
    (by kernel_rfl) Try.func53 (by kernel_rfl) (by kernel_rfl) (by kernel_rfl) (by kernel_rfl) h

set_option maxRecDepth 100000 in
theorem amphoraref04_Var_vc (a0 : Int) (w : World) (R : Ending → World → Prop) (h :
  ∃ (I : Int → Option Addr → Nat → Nat → World → Prop) (μ : Int → Option Addr → Nat → Nat → World → Nat), I a0 none 0 0 w ∧
  (∀ (x0 : Int) (x3a : Option Addr) (x3n : Nat) (x3c : Nat), ∀ w1 : World, I x0 x3a x3n x3c w1 →
    (((decide (x0 ≥ (0 : Int))) = true →
        ((((IntKind.wrap .i64 (Int.tdiv x0 (128 : Int))) == (0 : Int)) = true →
            (∃ (t16a : Option Addr) (t16n : Nat) (t16c : Nat) (w2 : World), (Instr.buildSlice 63 1 #[(0, (.int .u8 (IntKind.wrap .u8 (Int.tmod x0 (128 : Int)))))]).run Try.prog w1 = .ok (.slice t16a t16n t16c) w2 ∧
              (∃ (t17a : Option Addr) (t17n : Nat) (t17c : Nat) (w3 : World), (Builtin.append_ #[63, 63] 63 #[(.slice x3a x3n x3c), (.slice t16a t16n t16c)]).run Try.prog w2 = .ok (.slice t17a t17n t17c) w3 ∧
                (R (.returned (.slice t17a t17n t17c)) w3)))) ∧
          (((IntKind.wrap .i64 (Int.tdiv x0 (128 : Int))) == (0 : Int)) = false →
            (∃ (t22a : Option Addr) (t22n : Nat) (t22c : Nat) (w4 : World), (Instr.buildSlice 63 1 #[(0, (.int .u8 (IntKind.wrap .u8 (IntKind.wrap .i64 ((Int.tmod x0 (128 : Int)) + (128 : Int))))))]).run Try.prog w1 = .ok (.slice t22a t22n t22c) w4 ∧
              (∃ (t23a : Option Addr) (t23n : Nat) (t23c : Nat) (w5 : World), (Builtin.append_ #[63, 63] 63 #[(.slice x3a x3n x3c), (.slice t22a t22n t22c)]).run Try.prog w4 = .ok (.slice t23a t23n t23c) w5 ∧
                (I (IntKind.wrap .i64 (Int.tdiv x0 (128 : Int))) t23a t23n t23c w5 ∧ μ (IntKind.wrap .i64 (Int.tdiv x0 (128 : Int))) t23a t23n t23c w5 < μ x0 x3a x3n x3c w1)))))) ∧
      ((decide (x0 ≥ (0 : Int))) = false →
        (R (.returned (.slice none 0 0)) w1))))) : Calls Try.prog 48 #[(.int .i64 a0)] w R :=
  calls_of_ev (args := [(.int .i64 a0)])
    (tc := .seq (.reg (.op .p (.nil))) (.seq (.reg (.op .p (.nil))) (.seq (.blk (.loop [0, 2, 3, 4, 5, 6, 7, 8, 9, 10, 11, 12, 13, 14, 15, 16, 17, 18, 19, 20, 21, 22, 23] [0, 3] [.int .i64, .slice] (.seq (.seq (.reg (.op .p (.op .p (.nil)))) (.cond (.leaf) (.leaf))) (.blk (.seq (.reg (.op .p (.op .p (.op .p (.nil))))) (.seq (.reg (.op .p (.op .p (.op .p (.nil))))) (.seq (.seq (.reg (.op .p (.op .p (.nil)))) (.cond (.seq (.reg (.op .p (.op .p (.op .p (.op (.r (.slice)) (.op (.r (.slice)) (.op .p (.nil)))))))) (.leaf)) (.leaf))) (.reg (.op .p (.op .p (.op .p (.op .p (.op (.r (.slice)) (.op (.r (.slice)) (.op .p (.nil)))))))))))))))) (.seq (.reg (.op .p (.nil))) (.leaf)))))
    (by kernel_rfl) Try.func48 (by kernel_rfl) (by kernel_rfl) (by kernel_rfl) (by kernel_rfl) h

set_option maxRecDepth 100000 in
theorem amphoraref04_ReadVar_vc (a0a : Option Addr) (a0n : Nat) (a0c : Nat) (w : World) (R : Ending → World → Prop) (h :
  ∃ (I : Int → Int → Int → World → Prop) (μ : Int → Int → Int → World → Nat), I 0 1 0 w ∧
  (∀ (x5 : Int) (x6 : Int) (x7 : Int), ∀ w1 : World, I x5 x6 x7 w1 →
    ((((decide (x7 < ((a0n : Nat) : Int))) && (decide (x7 < (9 : Int)))) = true →
        (∃ (t21b t21o : Nat), a0a = some ⟨t21b, t21o, none⟩ ∧ 0 ≤ x7 ∧ x7 < ((a0n : Nat) : Int) ∧
          (∃ (t22 : Int), (Instr.loadAt 5 (.pointer (some ⟨t21b, t21o + Int.toNat x7 * 1, none⟩))).run Try.prog w1 = .ok (.int .u8 t22) w1 ∧
            (∃ (t32b t32o : Nat), a0a = some ⟨t32b, t32o, none⟩ ∧ 0 ≤ x7 ∧ x7 < ((a0n : Nat) : Int) ∧
              (∃ (t33 : Int), (Instr.loadAt 5 (.pointer (some ⟨t32b, t32o + Int.toNat x7 * 1, none⟩))).run Try.prog w1 = .ok (.int .u8 t33) w1 ∧
                (((decide (t33 < (128 : Int))) = true →
                    (∃ S : World → Prop, S w1.drew ∧
                      (0 ≤ (IntKind.wrap .i64 (x7 + (1 : Int))) ∧ (IntKind.wrap .i64 (x7 + (1 : Int))) ≤ ((a0c : Nat) : Int) ∧
                        (∃ (t42 : ByteArray), (∀ w' : World, S w' → (convert 63 9 (.slice a0a (Int.toNat (IntKind.wrap .i64 (x7 + (1 : Int)))) a0c)).run Try.prog w' = .ok (.string t42) w') ∧
                          (Calls Try.prog 48 #[(.int .i64 (IntKind.wrap .i64 (x5 + (IntKind.wrap .i64 ((IntKind.wrap .i64 (Int.tmod t22 (128 : Int))) * x6)))))] w1.drew fun (e36 : Ending) (w2 : World) => ∃ (t36a : Option Addr) (t36n : Nat) (t36c : Nat), e36 = .returned (.slice t36a t36n t36c) ∧
                            (∃ S_1 : World → Prop, (∀ w' : World, S_1 w' → S w') ∧ S_1 w2 ∧
                              (∃ (t37 : ByteArray), (∀ w' : World, S_1 w' → (convert 63 9 (.slice t36a t36n t36c)).run Try.prog w' = .ok (.string t37) w') ∧
                                (((!(t37.toList == t42.toList)) = true →
                                    (R (.returned (.tuple #[(.int .i64 0), (.int .i64 0), (.int .i64 9)])) w2)) ∧
                                  ((!(t37.toList == t42.toList)) = false →
                                    (R (.returned (.tuple #[(.int .i64 (IntKind.wrap .i64 (x5 + (IntKind.wrap .i64 ((IntKind.wrap .i64 (Int.tmod t22 (128 : Int))) * x6))))), (.int .i64 (IntKind.wrap .i64 (x7 + (1 : Int)))), (.int .i64 0)])) w2)))))))))) ∧
                  ((decide (t33 < (128 : Int))) = false →
                    (I (IntKind.wrap .i64 (x5 + (IntKind.wrap .i64 ((IntKind.wrap .i64 (Int.tmod t22 (128 : Int))) * x6)))) (IntKind.wrap .i64 (x6 * (128 : Int))) (IntKind.wrap .i64 (x7 + (1 : Int))) w1 ∧ μ (IntKind.wrap .i64 (x5 + (IntKind.wrap .i64 ((IntKind.wrap .i64 (Int.tmod t22 (128 : Int))) * x6)))) (IntKind.wrap .i64 (x6 * (128 : Int))) (IntKind.wrap .i64 (x7 + (1 : Int))) w1 < μ x5 x6 x7 w1)))))))) ∧
      (((decide (x7 < ((a0n : Nat) : Int))) && (decide (x7 < (9 : Int)))) = false →
        (R (.returned (.tuple #[(.int .i64 0), (.int .i64 0), (.int .i64 9)])) w1))))) : Calls Try.prog 68 #[(.slice a0a a0n a0c)] w R :=
  calls_of_ev (args := [(.slice a0a a0n a0c)])
    (tc := .seq (.reg (.op .p (.op .p (.op .p (.nil))))) (.seq (.reg (.op .p (.nil))) (.seq (.reg (.op .p (.nil))) (.seq (.seq (.reg (.op .p (.nil))) (.blk (.loop [2, 3, 4, 5, 6, 7, 8, 9, 10, 11, 12, 13, 14, 15, 16, 17, 18, 19, 20, 21, 22, 23, 24, 25, 26, 27, 28, 29, 30, 31, 32, 33, 34, 35, 36, 37, 38, 39, 40, 41, 42, 43, 44, 45, 46] [5, 6, 7] [.int .i64, .int .i64, .int .i64] (.seq (.seq (.reg (.op .p (.op .p (.op .p (.op .p (.op .p (.ap 2 (.nil)))))))) (.cond (.leaf) (.leaf))) (.seq (.blk (.seq (.reg (.op .p (.op .p (.op .p (.op .ix (.op (.ld (.int .u8)) (.op .p (.op .p (.op .p (.op .p (.op .p (.op .p (.nil))))))))))))) (.seq (.reg (.op .p (.op .p (.op .p (.nil))))) (.seq (.reg (.op .p (.op .p (.op .ix (.op (.ld (.int .u8)) (.op .p (.nil))))))) (.cond (.seq (.seq (.drawS (.tk 0 .p (.tk 3 .p (.tk 4 .p (.tk 5 .p (.tk 6 .sl (.ts 7 (.str) (.go 1 (.cl [.slice]) (.ts 2 (.str) (.tk 8 .p (.nil)))))))))) []) (.cond (.leaf) (.leaf))) (.seq (.reg (.op .p (.op .p (.op .p (.op .p (.op .p (.op .p (.nil)))))))) (.leaf))) (.leaf)))))) (.reg (.op .p (.op .p (.op .p (.nil)))))))))) (.seq (.reg (.op .p (.op .p (.op .p (.nil))))) (.leaf))))))
    (by kernel_rfl) Try.func68 (by kernel_rfl) (by kernel_rfl) (by kernel_rfl) (by kernel_rfl) h

set_option maxRecDepth 100000 in
theorem amphoraref04_Reader_take_vc (a0b : Nat) (a0o : Nat) (a1 : Int) (w : World) (R : Ending → World → Prop) (h :
  ∃ J : Bool → World → Prop, (∃ (t9 : Bool), (Instr.loadAt 4 (.pointer (some ⟨a0b, a0o + 1, none⟩))).run Try.prog w = .ok (.bool t9) w ∧
    (((t9 || (decide (a1 < (0 : Int)))) = true →
        (J true w)) ∧
      ((t9 || (decide (a1 < (0 : Int)))) = false →
        (∃ (t19a : Option Addr) (t19n : Nat) (t19c : Nat), (Instr.loadAt 63 (.pointer (some ⟨a0b, a0o, none⟩))).run Try.prog w = .ok (.slice t19a t19n t19c) w ∧
          (J (decide (a1 > ((t19n : Nat) : Int))) w))))) ∧
  (∀ (x22 : Bool), ∀ w1 : World, J x22 w1 →
    ((x22 = true →
        (∃ w2 : World, (Instr.storeAt 4 (.pointer (some ⟨a0b, a0o + 1, none⟩)) (.bool true)).run Try.prog w1 = .ok () w2 ∧
          (∃ w3 : World, (Instr.storeAt 63 (.pointer (some ⟨a0b, a0o, none⟩)) (.slice none 0 0)).run Try.prog w2 = .ok () w3 ∧
            (R (.returned (.slice none 0 0)) w3)))) ∧
      (x22 = false →
        (∃ (t32a : Option Addr) (t32n : Nat) (t32c : Nat), (Instr.loadAt 63 (.pointer (some ⟨a0b, a0o, none⟩))).run Try.prog w1 = .ok (.slice t32a t32n t32c) w1 ∧
          (0 ≤ a1 ∧ a1 ≤ ((t32c : Nat) : Int) ∧
            (∃ (t39a : Option Addr) (t39n : Nat) (t39c : Nat), (Instr.loadAt 63 (.pointer (some ⟨a0b, a0o, none⟩))).run Try.prog w1 = .ok (.slice t39a t39n t39c) w1 ∧
              (0 ≤ a1 ∧ a1 ≤ ((t39n : Nat) : Int) ∧ ((t39n : Nat) : Int) ≤ ((t39c : Nat) : Int) ∧ ∀ t41a : Option Addr, SubA 1 t39a (Int.toNat a1) t39c t41a →
                (∃ w4 : World, (Instr.storeAt 63 (.pointer (some ⟨a0b, a0o, none⟩)) (.slice t41a ((t39n) - (Int.toNat a1)) (t39c - (Int.toNat a1)))).run Try.prog w1 = .ok () w4 ∧
                  (R (.returned (.slice t32a (Int.toNat a1) t32c)) w4)))))))))) : Calls Try.prog 67 #[(.pointer (some ⟨a0b, a0o, none⟩)), (.int .i64 a1)] w R :=
  calls_of_ev (args := [(.pointer (some ⟨a0b, a0o, none⟩)), (.int .i64 a1)])
    (tc := .seq (.reg (.op .p (.nil))) (.seq (.seq (.join [6, 7, 8, 9, 10, 11, 12, 13, 14, 15, 16, 17, 18, 19, 20, 21, 22] [22] [.bool] (.reg (.op .p (.op .p (.op .p (.op (.ld (.bool)) (.op .p (.ap 2 (.op .p (.sp 14 (.op .p (.op .p (.op .p (.op .p (.op .p (.op .p (.op .p (.op .p (.nil))))))))) (.op .p (.op .p (.op .p (.op .p (.op (.ld (.slice)) (.op .p (.op .p (.op .p (.nil))))))))))))))))))) (.cond (.seq (.reg (.op .p (.op .p (.op .p (.op .u (.nil)))))) (.seq (.reg (.op .p (.op .p (.op .p (.op .u (.nil)))))) (.seq (.reg (.op .p (.nil))) (.leaf)))) (.leaf))) (.seq (.reg (.op .p (.op .p (.op .p (.op (.ld (.slice)) (.op .p (.op .sl (.op .p (.nil))))))))) (.seq (.reg (.op .p (.op .p (.op .p (.op .p (.op (.ld (.slice)) (.op .p (.op .sl (.op .p (.op .p (.op .u (.nil)))))))))))) (.seq (.reg (.op .p (.op .p (.nil)))) (.leaf))))))
    (by kernel_rfl) Try.func67 (by kernel_rfl) (by kernel_rfl) (by kernel_rfl) (by kernel_rfl) h

set_option maxRecDepth 100000 in
theorem amphoraref04_Reader_Var_vc (a0b : Nat) (a0o : Nat) (w : World) (R : Ending → World → Prop) (h :
  ∃ (t10a : Option Addr) (t10n : Nat) (t10c : Nat), (Instr.loadAt 63 (.pointer (some ⟨a0b, a0o, none⟩))).run Try.prog w = .ok (.slice t10a t10n t10c) w ∧
  (Calls Try.prog 68 #[(.slice t10a t10n t10c)] w fun (e11 : Ending) (w1 : World) => ∃ (t11_0 : Int) (t11_1 : Int) (t11_2 : Int), e11 = .returned (.tuple #[(.int .i64 t11_0), (.int .i64 t11_1), (.int .i64 t11_2)]) ∧
    (∃ J : Int → World → Prop, (((t11_2 != (0 : Int)) = true →
          (J (-1) w1)) ∧
        ((t11_2 != (0 : Int)) = false →
          (J t11_1 w1))) ∧
      (∀ (x4 : Int), ∀ w2 : World, J x4 w2 →
        (Calls Try.prog 67 #[(.pointer (some ⟨a0b, a0o, none⟩)), (.int .i64 x4)] w2 fun (e19 : Ending) (w3 : World) => ∃ (t19a : Option Addr) (t19n : Nat) (t19c : Nat), e19 = .returned (.slice t19a t19n t19c) ∧
          (∃ (t23 : Bool), (Instr.loadAt 4 (.pointer (some ⟨a0b, a0o + 1, none⟩))).run Try.prog w3 = .ok (.bool t23) w3 ∧
            ((t23 = true →
                (R (.returned (.int .i64 0)) w3)) ∧
              (t23 = false →
                (R (.returned (.int .i64 t11_0)) w3))))))))) : Calls Try.prog 55 #[(.pointer (some ⟨a0b, a0o, none⟩))] w R :=
  calls_of_ev (args := [(.pointer (some ⟨a0b, a0o, none⟩))])
    (tc := .seq (.reg (.op .p (.nil))) (.seq (.reg (.op .p (.op .p (.op .p (.op (.ld (.slice)) (.op (.cl [.int .i64, .int .i64, .int .i64]) (.op .p (.op .p (.op .p (.op .p (.op .p (.op .p (.op .p (.nil)))))))))))))) (.seq (.seq (.reg (.op .p (.op .p (.nil)))) (.join [4] [4] [.int .i64] (.cond (.reg (.op .p (.nil))) (.leaf)))) (.seq (.reg (.op .p (.op .p (.op (.cl [.slice]) (.nil))))) (.seq (.seq (.reg (.op .p (.op .p (.op .p (.op (.ld (.bool)) (.nil)))))) (.cond (.seq (.reg (.op .p (.nil))) (.leaf)) (.leaf))) (.seq (.reg (.op .p (.op .p (.nil)))) (.leaf)))))))
    (by kernel_rfl) Try.func55 (by kernel_rfl) (by kernel_rfl) (by kernel_rfl) (by kernel_rfl) h

set_option maxRecDepth 100000 in
theorem amphoraref04_Reader_Raw_vc (a0b : Nat) (a0o : Nat) (a1 : Int) (w : World) (R : Ending → World → Prop) (h :
  Calls Try.prog 67 #[(.pointer (some ⟨a0b, a0o, none⟩)), (.int .i64 a1)] w fun (e7 : Ending) (w1 : World) => ∃ (t7a : Option Addr) (t7n : Nat) (t7c : Nat), e7 = .returned (.slice t7a t7n t7c) ∧
  (R (.returned (.slice t7a t7n t7c)) w1)) : Calls Try.prog 54 #[(.pointer (some ⟨a0b, a0o, none⟩)), (.int .i64 a1)] w R :=
  calls_of_ev (args := [(.pointer (some ⟨a0b, a0o, none⟩)), (.int .i64 a1)])
    (tc := .seq (.reg (.op .p (.nil))) (.seq (.reg (.op .p (.op .p (.op (.cl [.slice]) (.op .p (.nil)))))) (.leaf)))
    (by kernel_rfl) Try.func54 (by kernel_rfl) (by kernel_rfl) (by kernel_rfl) (by kernel_rfl) h

end Go.Proofs.Ytoianikapjkekaa
