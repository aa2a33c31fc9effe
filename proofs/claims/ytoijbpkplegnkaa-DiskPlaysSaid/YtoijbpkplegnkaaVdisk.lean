/- Verification conditions of functions, printed by the session's own program vc.py: out of each, Calls (conditions: none). -/
import Derived.Test.YtoijbpkplegnkaaRows
import Derived.Test.YtoijbpkplegnkaaSxRun
namespace Go.Proofs.Ytoijbpkplegnkaa
open Go Go.Proofs.Ytoijbpkplegnkaa.Sx

set_option maxRecDepth 100000 in
theorem disk_New_vc (a0 : Int) (w : World) (R : Ending → World → Prop) (h :
  (((decide (a0 < (0 : Int))) || (decide (a0 > (67108864 : Int)))) = true →
    (R (.returned (.tuple #[(.pointer none), (.iface 62 (.int .i64 7))])) w)) ∧
  (((decide (a0 < (0 : Int))) || (decide (a0 > (67108864 : Int)))) = false →
    (∃ (t12 : Value) (w1 : World), (Instr.makeMap 77 none).run Try.prog w = .ok t12 w1 ∧
      (∃ (t13 : Value) (w2 : World), (Instr.makeMap 77 none).run Try.prog w1 = .ok t13 w2 ∧
        (∃ (t14 : Array Value), (Instr.build 82 #[(1, (.int .i64 a0)), (2, t12), (3, t13)]).run Try.prog w2 = .ok (.agg t14) w2 ∧
          (∃ (g15 : Nat) (w3 : World), (Instr.box 82 (.agg t14)).run Try.prog w2 = .ok (.pointer (some ⟨g15, 0, none⟩)) w3 ∧
            (R (.returned (.tuple #[(.pointer (some ⟨g15, 0, none⟩)), .nilIface])) w3))))))) : Calls Try.prog 9 #[(.int .i64 a0)] w R :=
  calls_of_ev (args := [(.int .i64 a0)])
    (tc := .seq (.reg (.op .p (.op .p (.nil)))) (.seq (.seq (.reg (.op .p (.op .p (.op .p (.ap 2 (.nil)))))) (.cond (.seq (.reg (.op .p (.op .p (.op .p (.nil))))) (.leaf)) (.leaf))) (.seq (.reg (.op .p (.op (.r (.val)) (.op (.r (.val)) (.op (.ld (.agg)) (.op .bx (.op .p (.op .p (.nil))))))))) (.leaf))))
    (by kernel_rfl) Try.func9 (by kernel_rfl) (by kernel_rfl) (by kernel_rfl) (by kernel_rfl) h

set_option maxRecDepth 100000 in
theorem disk_goodName_vc (a0 : ByteArray) (w : World) (R : Ending → World → Prop) (h :
  (((a0.toList == (ByteArray.mk #[]).toList) || (decide ((a0.size : Int) > (64 : Int)))) = true →
    (R (.returned (.bool false)) w)) ∧
  (((a0.toList == (ByteArray.mk #[]).toList) || (decide ((a0.size : Int) > (64 : Int)))) = false →
    (∃ (I : Int → World → Prop) (μ : Int → World → Nat), I 0 w ∧
      (∀ (x13 : Int), ∀ w1 : World, I x13 w1 →
        (((decide (x13 < (a0.size : Int))) = true →
            (∃ J : Bool → World → Prop, (∃ (t18 : Int), (Instr.index 9 (.string a0) (.int .i64 x13)).run Try.prog w1 = .ok (.int .u8 t18) w1 ∧
                (((decide (t18 < (33 : Int))) = true →
                    (J true w1)) ∧
                  ((decide (t18 < (33 : Int))) = false →
                    (∃ (t23 : Int), (Instr.index 9 (.string a0) (.int .i64 x13)).run Try.prog w1 = .ok (.int .u8 t23) w1 ∧
                      (((decide (t23 > (126 : Int))) = true →
                          (J true w1)) ∧
                        ((decide (t23 > (126 : Int))) = false →
                          (∃ (t29 : Int), (Instr.index 9 (.string a0) (.int .i64 x13)).run Try.prog w1 = .ok (.int .u8 t29) w1 ∧
                            (J (t29 == (47 : Int)) w1)))))))) ∧
              (∀ (x31 : Bool), ∀ w2 : World, J x31 w2 →
                ((x31 = true →
                    (R (.returned (.bool false)) w2)) ∧
                  (x31 = false →
                    (I (IntKind.wrap .i64 (x13 + (1 : Int))) w2 ∧ μ (IntKind.wrap .i64 (x13 + (1 : Int))) w2 < μ x13 w1)))))) ∧
          ((decide (x13 < (a0.size : Int))) = false →
            (R (.returned (.bool true)) w1))))))) : Calls Try.prog 68 #[(.string a0)] w R :=
  calls_of_ev (args := [(.string a0)])
    (tc := .seq (.reg (.op .p (.nil))) (.seq (.seq (.reg (.op .p (.op .p (.op .p (.ap 3 (.nil)))))) (.cond (.seq (.reg (.op .p (.nil))) (.leaf)) (.leaf))) (.seq (.seq (.reg (.op .p (.op .p (.op .p (.nil))))) (.blk (.loop [2, 3, 13, 14, 15, 16, 17, 18, 19, 20, 21, 22, 23, 24, 25, 26, 27, 28, 29, 30, 31, 32] [13] [.int .i64] (.seq (.reg (.op .p (.nil))) (.seq (.cond (.leaf) (.leaf)) (.seq (.blk (.seq (.reg (.op .p (.op .p (.nil)))) (.seq (.join [16, 17, 18, 19, 20, 21, 22, 23, 24, 25, 26, 27, 28, 29, 30, 31] [31] [.bool] (.reg (.op .p (.op .p (.op (.ld (.int .u8)) (.op .p (.op .p (.sp 20 (.op .p (.op .p (.op .p (.op .p (.op .p (.op .p (.op .p (.op .p (.op .p (.op .p (.op .p (.nil)))))))))))) (.op .p (.op .p (.op (.ld (.int .u8)) (.op .p (.op .p (.op .p (.sp 26 (.op .p (.op .p (.op .p (.op .p (.op .p (.nil)))))) (.op .p (.op .p (.op (.ld (.int .u8)) (.op .p (.op .p (.nil))))))))))))))))))))) (.cond (.seq (.reg (.op .p (.nil))) (.leaf)) (.leaf))))) (.reg (.op .p (.op .p (.nil)))))))))) (.seq (.reg (.op .p (.nil))) (.leaf)))))
    (by kernel_rfl) Try.func68 (by kernel_rfl) (by kernel_rfl) (by kernel_rfl) (by kernel_rfl) h

set_option maxRecDepth 100000 in
theorem disk_meter_step_vc (a0b : Nat) (a0o : Nat) (w : World) (R : Ending → World → Prop) (h :
  ∃ J : Bool → World → Prop, (∃ (t6 : Bool), (Instr.loadAt 4 (.pointer (some ⟨a0b, a0o + 2, none⟩))).run Try.prog w = .ok (.bool t6) w ∧
    ((t6 = true →
        (∃ (t11 : Int), (Instr.loadAt 3 (.pointer (some ⟨a0b, a0o + 3, none⟩))).run Try.prog w = .ok (.int .i64 t11) w ∧
          (J (t11 == (0 : Int)) w))) ∧
      (t6 = false →
        (J false w)))) ∧
  (∀ (x13 : Bool), ∀ w1 : World, J x13 w1 →
    ((x13 = true →
        (∃ w2 : World, (Instr.storeAt 4 (.pointer (some ⟨a0b, a0o + 1, none⟩)) (.bool true)).run Try.prog w1 = .ok () w2 ∧
          (R (.returned (.iface 62 (.int .i64 1))) w2))) ∧
      (x13 = false →
        (∃ (t21 : Int), (Instr.loadAt 3 (.pointer (some ⟨a0b, a0o, none⟩))).run Try.prog w1 = .ok (.int .i64 t21) w1 ∧
          (∃ w3 : World, (Instr.storeAt 3 (.pointer (some ⟨a0b, a0o, none⟩)) (.int .i64 (IntKind.wrap .i64 (t21 + (1 : Int))))).run Try.prog w1 = .ok () w3 ∧
            (∃ (t28 : Int), (Instr.loadAt 3 (.pointer (some ⟨a0b, a0o + 3, none⟩))).run Try.prog w3 = .ok (.int .i64 t28) w3 ∧
              (∃ w4 : World, (Instr.storeAt 3 (.pointer (some ⟨a0b, a0o + 3, none⟩)) (.int .i64 (IntKind.wrap .i64 (t28 - (1 : Int))))).run Try.prog w3 = .ok () w4 ∧
                (∃ (t35a : Option Addr) (t35n : Nat) (t35c : Nat), (Instr.loadAt 48 (.pointer (some ⟨a0b, a0o + 4, none⟩))).run Try.prog w4 = .ok (.slice t35a t35n t35c) w4 ∧
                  (((((t35n : Nat) : Int) == (0 : Int)) = true →
                      (R (.returned .nilIface) w4)) ∧
                    ((((t35n : Nat) : Int) == (0 : Int)) = false →
                      (∃ (t41a : Option Addr) (t41n : Nat) (t41c : Nat), (Instr.loadAt 48 (.pointer (some ⟨a0b, a0o + 4, none⟩))).run Try.prog w4 = .ok (.slice t41a t41n t41c) w4 ∧
                        (∃ (t42b t42o : Nat), t41a = some ⟨t42b, t42o, none⟩ ∧ 0 ≤ (0 : Int) ∧ (0 : Int) < ((t41n : Nat) : Int) ∧
                          (∃ (t43 : Int), (Instr.loadAt 3 (.pointer (some ⟨t42b, t42o + Int.toNat (0 : Int) * 1, none⟩))).run Try.prog w4 = .ok (.int .i64 t43) w4 ∧
                            (((t43 == (0 : Int)) = true →
                                (∃ (t49a : Option Addr) (t49n : Nat) (t49c : Nat), (Instr.loadAt 48 (.pointer (some ⟨a0b, a0o + 4, none⟩))).run Try.prog w4 = .ok (.slice t49a t49n t49c) w4 ∧
                                  (0 ≤ (1 : Int) ∧ (1 : Int) ≤ ((t49n : Nat) : Int) ∧ ((t49n : Nat) : Int) ≤ ((t49c : Nat) : Int) ∧ ∀ t50a : Option Addr, SubA 1 t49a 1 t49c t50a →
                                    (∃ w5 : World, (Instr.storeAt 48 (.pointer (some ⟨a0b, a0o + 4, none⟩)) (.slice t50a ((t49n) - 1) (t49c - 1))).run Try.prog w4 = .ok () w5 ∧
                                      (R (.returned (.iface 62 (.int .i64 2))) w5))))) ∧
                              ((t43 == (0 : Int)) = false →
                                (∃ (t57a : Option Addr) (t57n : Nat) (t57c : Nat), (Instr.loadAt 48 (.pointer (some ⟨a0b, a0o + 4, none⟩))).run Try.prog w4 = .ok (.slice t57a t57n t57c) w4 ∧
                                  (∃ (t58b t58o : Nat), t57a = some ⟨t58b, t58o, none⟩ ∧ 0 ≤ (0 : Int) ∧ (0 : Int) < ((t57n : Nat) : Int) ∧
                                    (∃ (t59 : Int), (Instr.loadAt 3 (.pointer (some ⟨t58b, t58o + Int.toNat (0 : Int) * 1, none⟩))).run Try.prog w4 = .ok (.int .i64 t59) w4 ∧
                                      (∃ (t61b t61o : Nat), t57a = some ⟨t61b, t61o, none⟩ ∧ 0 ≤ (0 : Int) ∧ (0 : Int) < ((t57n : Nat) : Int) ∧
                                        (∃ w6 : World, (Instr.storeAt 3 (.pointer (some ⟨t61b, t61o + Int.toNat (0 : Int) * 1, none⟩)) (.int .i64 (IntKind.wrap .i64 (t59 - (1 : Int))))).run Try.prog w4 = .ok () w6 ∧
                                          (R (.returned .nilIface) w6)))))))))))))))))))))) : Calls Try.prog 42 #[(.pointer (some ⟨a0b, a0o, none⟩))] w R :=
  calls_of_ev (args := [(.pointer (some ⟨a0b, a0o, none⟩))])
    (tc := .seq (.reg (.op .p (.nil))) (.seq (.seq (.join [3, 4, 5, 6, 7, 8, 9, 10, 11, 12, 13] [13] [.bool] (.reg (.op .p (.op .p (.op .p (.op (.ld (.bool)) (.op .p (.sp 7 (.op .p (.op .p (.op .p (.op (.ld (.int .i64)) (.op .p (.op .p (.nil))))))) (.op .p (.op .p (.op .p (.op .p (.op .p (.op .p (.nil))))))))))))))) (.cond (.seq (.reg (.op .p (.op .p (.op .p (.op .u (.nil)))))) (.seq (.reg (.op .p (.op .p (.nil)))) (.leaf))) (.leaf))) (.seq (.reg (.op .p (.op .p (.op .p (.op (.ld (.int .i64)) (.op .p (.op .p (.op .p (.op .u (.nil)))))))))) (.seq (.reg (.op .p (.op .p (.op .p (.op (.ld (.int .i64)) (.op .p (.op .p (.op .p (.op .u (.nil)))))))))) (.seq (.seq (.reg (.op .p (.op .p (.op .p (.op (.ld (.slice)) (.op .p (.op .p (.nil)))))))) (.cond (.seq (.reg (.op .p (.nil))) (.leaf)) (.leaf))) (.seq (.seq (.reg (.op .p (.op .p (.op .p (.op (.ld (.slice)) (.op .ix (.op (.ld (.int .i64)) (.op .p (.nil))))))))) (.cond (.seq (.reg (.op .p (.op .p (.op .p (.op .p (.op (.ld (.slice)) (.op .sl (.op .p (.op .p (.op .u (.nil))))))))))) (.seq (.reg (.op .p (.op .p (.nil)))) (.leaf))) (.leaf))) (.seq (.reg (.op .p (.op .p (.op .p (.op (.ld (.slice)) (.op .ix (.op (.ld (.int .i64)) (.op .p (.op .ix (.op .u (.nil))))))))))) (.seq (.reg (.op .p (.nil))) (.leaf)))))))))
    (by kernel_rfl) Try.func42 (by kernel_rfl) (by kernel_rfl) (by kernel_rfl) (by kernel_rfl) h

set_option maxRecDepth 100000 in
theorem disk_Disk_ready_vc (a0b : Nat) (a0o : Nat) (a1a : Option Addr) (a1n : Nat) (a1c : Nat) (w : World) (R : Ending → World → Prop) (h :
  ∃ (t14 : Bool), (Instr.loadAt 4 (.pointer (some ⟨a0b, a0o + 1, none⟩))).run Try.prog w = .ok (.bool t14) w ∧
  ((t14 = true →
      (R (.returned (.iface 62 (.int .i64 1))) w)) ∧
    (t14 = false →
      (∃ (I : Int → World → Prop) (μ : Int → World → Nat), I 0 w ∧
        (∀ (x18 : Int), ∀ w1 : World, I x18 w1 →
          (((decide (x18 < ((a1n : Nat) : Int))) = true →
              (∃ (t20b t20o : Nat), a1a = some ⟨t20b, t20o, none⟩ ∧ 0 ≤ x18 ∧ x18 < ((a1n : Nat) : Int) ∧
                (∃ (t21 : ByteArray), (Instr.loadAt 9 (.pointer (some ⟨t20b, t20o + Int.toNat x18 * 1, none⟩))).run Try.prog w1 = .ok (.string t21) w1 ∧
                  (Calls Try.prog 68 #[(.string t21)] w1 fun (e23 : Ending) (w2 : World) => ∃ (t23 : Bool), e23 = .returned (.bool t23) ∧
                    (((!t23) = true →
                        (R (.returned (.iface 62 (.int .i64 6))) w2)) ∧
                      ((!t23) = false →
                        (I (IntKind.wrap .i64 (x18 + (1 : Int))) w2 ∧ μ (IntKind.wrap .i64 (x18 + (1 : Int))) w2 < μ x18 w1))))))) ∧
            ((decide (x18 < ((a1n : Nat) : Int))) = false →
              (R (.returned .nilIface) w1)))))))) : Calls Try.prog 41 #[(.pointer (some ⟨a0b, a0o, none⟩)), (.slice a1a a1n a1c)] w R :=
  calls_of_ev (args := [(.pointer (some ⟨a0b, a0o, none⟩)), (.slice a1a a1n a1c)])
    (tc := .seq (.reg (.op .p (.nil))) (.seq (.seq (.reg (.op .p (.op .p (.nil)))) (.cf (.leaf))) (.seq (.seq (.reg (.op .p (.op .p (.op .p (.op .p (.op (.ld (.bool)) (.nil))))))) (.cond (.seq (.reg (.op .p (.op .p (.nil)))) (.leaf)) (.leaf))) (.seq (.seq (.reg (.op .p (.op .p (.op .p (.nil))))) (.blk (.loop [4, 6, 18, 19, 20, 21, 22, 23, 24, 25, 26] [18] [.int .i64] (.seq (.reg (.op .p (.nil))) (.seq (.cond (.leaf) (.leaf)) (.seq (.blk (.seq (.reg (.op .ix (.op (.ld (.str)) (.op .p (.nil))))) (.seq (.reg (.op .p (.op (.cl [.bool]) (.op .p (.nil))))) (.cond (.seq (.reg (.op .p (.op .p (.nil)))) (.leaf)) (.leaf))))) (.reg (.op .p (.op .p (.nil)))))))))) (.seq (.reg (.op .p (.nil))) (.leaf))))))
    (by kernel_rfl) Try.func41 (by kernel_rfl) (by kernel_rfl) (by kernel_rfl) (by kernel_rfl) h

set_option maxRecDepth 100000 in
theorem disk_Disk_ready_vc_nil (a1a : Option Addr) (a1n : Nat) (a1c : Nat) (w : World) (R : Ending → World → Prop) (h :
  R (.returned (.iface 62 (.int .i64 28))) w) : Calls Try.prog 41 #[(.pointer none), (.slice a1a a1n a1c)] w R :=
  calls_of_ev (args := [(.pointer none), (.slice a1a a1n a1c)])
    (tc := .seq (.reg (.op .p (.nil))) (.seq (.seq (.reg (.op .p (.op .p (.nil)))) (.ct (.seq (.reg (.op .p (.op .p (.nil)))) (.leaf)))) (.leaf)))
    (by kernel_rfl) Try.func41 (by kernel_rfl) (by kernel_rfl) (by kernel_rfl) (by kernel_rfl) h

set_option maxRecDepth 100000 in
theorem disk_Disk_found_vc (a0b : Nat) (a0o : Nat) (a1 : ByteArray) (w : World) (R : Ending → World → Prop) (h :
  ∃ (t11a : Option Addr) (t11n : Nat) (t11c : Nat) (w1 : World), (Instr.buildSlice 39 1 #[(0, (.string a1))]).run Try.prog w = .ok (.slice t11a t11n t11c) w1 ∧
  (Calls Try.prog 41 #[(.pointer (some ⟨a0b, a0o, none⟩)), (.slice t11a t11n t11c)] w1 fun (e12 : Ending) (w2 : World) => ∃ (t12 : Value), e12 = .returned t12 ∧
    (∃ (t14 : Bool), (eqlS .neq 26 (.tmp 13) (.const .nilIface) t12 .nilIface).run Try.prog w2 = .ok (.bool t14) w2 ∧
      ((t14 = true →
          (R (.returned (.tuple #[(.pointer none), t12])) w2)) ∧
        (t14 = false →
          (∃ (t20 : Value), (Instr.loadAt 77 (.pointer (some ⟨a0b, a0o + 6, none⟩))).run Try.prog w2 = .ok t20 w2 ∧
            (∃ (t22_0 : Value) (t22_1 : Bool) (w3 : World), (Instr.lookup 77 t20 (.string a1) true).run Try.prog w2 = .ok (.tuple #[t22_0, (.bool t22_1)]) w3 ∧
              (((!t22_1) = true →
                  (R (.returned (.tuple #[(.pointer none), (.iface 62 (.int .i64 5))])) w3)) ∧
                ((!t22_1) = false →
                  (R (.returned (.tuple #[t22_0, .nilIface])) w3)))))))))) : Calls Try.prog 43 #[(.pointer (some ⟨a0b, a0o, none⟩)), (.string a1)] w R :=
  calls_of_ev (args := [(.pointer (some ⟨a0b, a0o, none⟩)), (.string a1)])
    (tc := .seq (.reg (.op .p (.op .p (.nil)))) (.seq (.seq (.reg (.op .p (.op .p (.op (.r (.slice)) (.op (.cl [.val]) (.op .p (.nil))))))) (.seq (.reg (.op .p (.op (.ld (.bool)) (.nil)))) (.cond (.seq (.reg (.op .p (.op .p (.op .p (.nil))))) (.leaf)) (.leaf)))) (.seq (.reg (.op .p (.op .p (.op .p (.op (.ld (.val)) (.op .p (.op (.rt [.val, .bool]) (.op .p (.op .p (.op .p (.op .p (.op .p (.nil))))))))))))) (.seq (.seq (.reg (.op .p (.op .p (.nil)))) (.cond (.seq (.reg (.op .p (.op .p (.op .p (.nil))))) (.leaf)) (.leaf))) (.seq (.reg (.op .p (.op .p (.op .p (.nil))))) (.leaf))))))
    (by kernel_rfl) Try.func43 (by kernel_rfl) (by kernel_rfl) (by kernel_rfl) (by kernel_rfl) h

set_option maxRecDepth 100000 in
theorem disk_Disk_found_vc_nil (a1 : ByteArray) (w : World) (R : Ending → World → Prop) (h :
  ∃ (t11a : Option Addr) (t11n : Nat) (t11c : Nat) (w1 : World), (Instr.buildSlice 39 1 #[(0, (.string a1))]).run Try.prog w = .ok (.slice t11a t11n t11c) w1 ∧
  (Calls Try.prog 41 #[(.pointer none), (.slice t11a t11n t11c)] w1 fun (e12 : Ending) (w2 : World) => ∃ (t12 : Value), e12 = .returned t12 ∧
    (∃ (t14 : Bool), (eqlS .neq 26 (.tmp 13) (.const .nilIface) t12 .nilIface).run Try.prog w2 = .ok (.bool t14) w2 ∧
      ((t14 = true →
          (R (.returned (.tuple #[(.pointer none), t12])) w2)) ∧
        (t14 = false →
          (False)))))) : Calls Try.prog 43 #[(.pointer none), (.string a1)] w R :=
  calls_of_ev (args := [(.pointer none), (.string a1)])
    (tc := .seq (.reg (.op .p (.op .p (.nil)))) (.seq (.seq (.reg (.op .p (.op .p (.op (.r (.slice)) (.op (.cl [.val]) (.op .p (.nil))))))) (.seq (.reg (.op .p (.op (.ld (.bool)) (.nil)))) (.cond (.seq (.reg (.op .p (.op .p (.op .p (.nil))))) (.leaf)) (.leaf)))) (.seq (.reg (.op .p (.op .p (.nil)))) (.leaf))))
    (by kernel_rfl) Try.func43 (by kernel_rfl) (by kernel_rfl) (by kernel_rfl) (by kernel_rfl) h

set_option maxRecDepth 100000 in
theorem disk_Disk_Create_vc (a0b : Nat) (a0o : Nat) (a1 : ByteArray) (w : World) (R : Ending → World → Prop) (h :
  ∃ (t12a : Option Addr) (t12n : Nat) (t12c : Nat) (w1 : World), (Instr.buildSlice 39 1 #[(0, (.string a1))]).run Try.prog w = .ok (.slice t12a t12n t12c) w1 ∧
  (Calls Try.prog 41 #[(.pointer (some ⟨a0b, a0o, none⟩)), (.slice t12a t12n t12c)] w1 fun (e13 : Ending) (w2 : World) => ∃ (t13 : Value), e13 = .returned t13 ∧
    (∃ (t15 : Bool), (eqlS .neq 26 (.tmp 14) (.const .nilIface) t13 .nilIface).run Try.prog w2 = .ok (.bool t15) w2 ∧
      ((t15 = true →
          (R (.returned t13) w2)) ∧
        (t15 = false →
          (∃ (t21 : Value), (Instr.loadAt 77 (.pointer (some ⟨a0b, a0o + 6, none⟩))).run Try.prog w2 = .ok t21 w2 ∧
            (∃ (t23_0 : Value) (t23_1 : Bool) (w3 : World), (Instr.lookup 77 t21 (.string a1) true).run Try.prog w2 = .ok (.tuple #[t23_0, (.bool t23_1)]) w3 ∧
              ((t23_1 = true →
                  (R (.returned (.iface 62 (.int .i64 4))) w3)) ∧
                (t23_1 = false →
                  (∃ (t31 : Value), (Instr.loadAt 77 (.pointer (some ⟨a0b, a0o + 6, none⟩))).run Try.prog w3 = .ok t31 w3 ∧
                    (∃ (t32 : Int) (w4 : World), (Builtin.len_ #[77] 3 #[t31]).run Try.prog w3 = .ok (.int .i64 t32) w4 ∧
                      (((decide (t32 ≥ (4096 : Int))) = true →
                          (R (.returned (.iface 62 (.int .i64 19))) w4)) ∧
                        ((decide (t32 ≥ (4096 : Int))) = false →
                          (Calls Try.prog 42 #[(.pointer (some ⟨a0b, a0o, none⟩))] w4 fun (e38 : Ending) (w5 : World) => ∃ (t38 : Value), e38 = .returned t38 ∧
                            (∃ (t40 : Bool), (eqlS .neq 26 (.tmp 39) (.const .nilIface) t38 .nilIface).run Try.prog w5 = .ok (.bool t40) w5 ∧
                              ((t40 = true →
                                  (R (.returned t38) w5)) ∧
                                (t40 = false →
                                  (∃ (t42 : Array Value), (Instr.build 87 #[]).run Try.prog w5 = .ok (.agg t42) w5 ∧
                                    (∃ (g43 : Nat) (w6 : World), (Instr.box 87 (.agg t42)).run Try.prog w5 = .ok (.pointer (some ⟨g43, 0, none⟩)) w6 ∧
                                      (∃ (t47 : Value), (Instr.loadAt 77 (.pointer (some ⟨a0b, a0o + 6, none⟩))).run Try.prog w6 = .ok t47 w6 ∧
                                        (∃ w7 : World, (Instr.mapUpdate 77 t47 (.string a1) (.pointer (some ⟨g43, 0, none⟩))).run Try.prog w6 = .ok () w7 ∧
                                          (∃ (t54a : Option Addr) (t54n : Nat) (t54c : Nat), (Instr.loadAt 80 (.pointer (some ⟨a0b, a0o + 8, none⟩))).run Try.prog w7 = .ok (.slice t54a t54n t54c) w7 ∧
                                            (∃ (t57 : Array Value), (Instr.build 89 #[(0, (.pointer (some ⟨g43, 0, none⟩))), (2, (.string a1))]).run Try.prog w7 = .ok (.agg t57) w7 ∧
                                              (∃ (t58a : Option Addr) (t58n : Nat) (t58c : Nat) (w8 : World), (Instr.buildSlice 80 1 #[(0, (.agg t57))]).run Try.prog w7 = .ok (.slice t58a t58n t58c) w8 ∧
                                                (∃ (t59a : Option Addr) (t59n : Nat) (t59c : Nat) (w9 : World), (Builtin.append_ #[80, 80] 80 #[(.slice t54a t54n t54c), (.slice t58a t58n t58c)]).run Try.prog w8 = .ok (.slice t59a t59n t59c) w9 ∧
                                                  (∃ w10 : World, (Instr.storeAt 80 (.pointer (some ⟨a0b, a0o + 8, none⟩)) (.slice t59a t59n t59c)).run Try.prog w9 = .ok () w10 ∧
                                                    (R (.returned .nilIface) w10))))))))))))))))))))))))))) : Calls Try.prog 10 #[(.pointer (some ⟨a0b, a0o, none⟩)), (.string a1)] w R :=
  calls_of_ev (args := [(.pointer (some ⟨a0b, a0o, none⟩)), (.string a1)])
    (tc := .seq (.reg (.op .p (.nil))) (.seq (.seq (.reg (.op .p (.op .p (.op (.r (.slice)) (.op (.cl [.val]) (.op .p (.nil))))))) (.seq (.reg (.op .p (.op (.ld (.bool)) (.nil)))) (.cond (.seq (.reg (.op .p (.op .p (.nil)))) (.leaf)) (.leaf)))) (.seq (.seq (.reg (.op .p (.op .p (.op .p (.op (.ld (.val)) (.op .p (.op (.rt [.val, .bool]) (.op .p (.op .p (.op .p (.op .p (.op .p (.nil))))))))))))) (.seq (.reg (.op .p (.nil))) (.cond (.seq (.reg (.op .p (.op .p (.nil)))) (.leaf)) (.leaf)))) (.seq (.seq (.reg (.op .p (.op .p (.op .p (.op (.ld (.val)) (.op (.r (.int .i64)) (.op .p (.nil)))))))) (.cond (.seq (.reg (.op .p (.op .p (.nil)))) (.leaf)) (.leaf))) (.seq (.seq (.reg (.op .p (.op .p (.op .p (.op (.cl [.val]) (.op .p (.nil))))))) (.seq (.reg (.op .p (.op (.ld (.bool)) (.nil)))) (.cond (.seq (.reg (.op .p (.op .p (.nil)))) (.leaf)) (.leaf)))) (.seq (.reg (.op (.ld (.agg)) (.op .bx (.op .p (.nil))))) (.seq (.reg (.op .p (.op .p (.op .p (.op (.ld (.val)) (.op .p (.op .p (.op .u (.nil))))))))) (.seq (.reg (.op .p (.op .p (.op .p (.op .p (.op (.ld (.slice)) (.op .p (.op .p (.op (.ld (.agg)) (.op (.r (.slice)) (.op (.r (.slice)) (.op .p (.op .p (.op .u (.nil))))))))))))))) (.seq (.reg (.op .p (.nil))) (.leaf))))))))))
    (by kernel_rfl) Try.func10 (by kernel_rfl) (by kernel_rfl) (by kernel_rfl) (by kernel_rfl) h

set_option maxRecDepth 100000 in
theorem disk_Disk_Create_vc_nil (a1 : ByteArray) (w : World) (R : Ending → World → Prop) (h :
  ∃ (t12a : Option Addr) (t12n : Nat) (t12c : Nat) (w1 : World), (Instr.buildSlice 39 1 #[(0, (.string a1))]).run Try.prog w = .ok (.slice t12a t12n t12c) w1 ∧
  (Calls Try.prog 41 #[(.pointer none), (.slice t12a t12n t12c)] w1 fun (e13 : Ending) (w2 : World) => ∃ (t13 : Value), e13 = .returned t13 ∧
    (∃ (t15 : Bool), (eqlS .neq 26 (.tmp 14) (.const .nilIface) t13 .nilIface).run Try.prog w2 = .ok (.bool t15) w2 ∧
      ((t15 = true →
          (R (.returned t13) w2)) ∧
        (t15 = false →
          (False)))))) : Calls Try.prog 10 #[(.pointer none), (.string a1)] w R :=
  calls_of_ev (args := [(.pointer none), (.string a1)])
    (tc := .seq (.reg (.op .p (.nil))) (.seq (.seq (.reg (.op .p (.op .p (.op (.r (.slice)) (.op (.cl [.val]) (.op .p (.nil))))))) (.seq (.reg (.op .p (.op (.ld (.bool)) (.nil)))) (.cond (.seq (.reg (.op .p (.op .p (.nil)))) (.leaf)) (.leaf)))) (.seq (.seq (.reg (.op .p (.op .p (.nil)))) (.leaf)) (.leaf))))
    (by kernel_rfl) Try.func10 (by kernel_rfl) (by kernel_rfl) (by kernel_rfl) (by kernel_rfl) h

set_option maxRecDepth 100000 in
theorem disk_Disk_Append_vc (a0b : Nat) (a0o : Nat) (a1 : ByteArray) (a2a : Option Addr) (a2n : Nat) (a2c : Nat) (w : World) (R : Ending → World → Prop) (h :
  Calls Try.prog 43 #[(.pointer (some ⟨a0b, a0o, none⟩)), (.string a1)] w fun (e18 : Ending) (w1 : World) => ∃ (t18_0 : Value) (t18_1 : Value), e18 = .returned (.tuple #[t18_0, t18_1]) ∧
  (∃ (t22 : Bool), (eqlS .neq 26 (.tmp 21) (.const .nilIface) t18_1 .nilIface).run Try.prog w1 = .ok (.bool t22) w1 ∧
    ((t22 = true →
        (R (.returned t18_1) w1)) ∧
      (t22 = false →
        (∃ S : World → Prop, S w1.drew ∧
          (∃ (t27 : Int), (∀ w' : World, S w' → (Instr.loadAt 3 (.pointer (some ⟨a0b, a0o + 5, none⟩))).run Try.prog w' = .ok (.int .i64 t27) w') ∧
            (Calls Try.prog 39 #[(.pointer (some ⟨a0b, a0o, none⟩))] w1.drew fun (e29 : Ending) (w2 : World) => ∃ (t29 : Int), e29 = .returned (.int .i64 t29) ∧
              (∃ S_1 : World → Prop, (∀ w' : World, S_1 w' → S w') ∧ S_1 w2 ∧
                (∃ (I : Int → Int → World → Prop) (μ : Int → Int → World → Nat), I (IntKind.wrap .i64 (t27 - t29)) 0 w2 ∧
                  (∀ (x9 : Int) (x33 : Int), ∀ w3 : World, I x9 x33 w3 →
                    (((decide (x33 < ((a2n : Nat) : Int))) = true →
                        (∃ (t35b t35o : Nat), a2a = some ⟨t35b, t35o, none⟩ ∧ 0 ≤ x33 ∧ x33 < ((a2n : Nat) : Int) ∧
                          (∃ (t36a : Option Addr) (t36n : Nat) (t36c : Nat), (Instr.loadAt 22 (.pointer (some ⟨t35b, t35o + Int.toNat x33 * 1, none⟩))).run Try.prog w3 = .ok (.slice t36a t36n t36c) w3 ∧
                            (((decide (((t36n : Nat) : Int) > x9)) = true →
                                (R (.returned (.iface 62 (.int .i64 3))) w3)) ∧
                              ((decide (((t36n : Nat) : Int) > x9)) = false →
                                (I (IntKind.wrap .i64 (x9 - ((t36n : Nat) : Int))) (IntKind.wrap .i64 (x33 + (1 : Int))) w3 ∧ μ (IntKind.wrap .i64 (x9 - ((t36n : Nat) : Int))) (IntKind.wrap .i64 (x33 + (1 : Int))) w3 < μ x9 x33 w3)))))) ∧
                      ((decide (x33 < ((a2n : Nat) : Int))) = false →
                        (Calls Try.prog 42 #[(.pointer (some ⟨a0b, a0o, none⟩))] w3 fun (e50 : Ending) (w4 : World) => ∃ (t50 : Value), e50 = .returned t50 ∧
                          (∃ (t52 : Bool), (eqlS .neq 26 (.tmp 51) (.const .nilIface) t50 .nilIface).run Try.prog w4 = .ok (.bool t52) w4 ∧
                            ((t52 = true →
                                (R (.returned t50) w4)) ∧
                              (t52 = false →
                                (∃ (I_1 : Int → World → Prop) (μ_1 : Int → World → Nat), I_1 0 w4 ∧
                                  (∀ (x56 : Int), ∀ w5 : World, I_1 x56 w5 →
                                    (((decide (x56 < ((a2n : Nat) : Int))) = true →
                                        (∃ (t58b t58o : Nat), a2a = some ⟨t58b, t58o, none⟩ ∧ 0 ≤ x56 ∧ x56 < ((a2n : Nat) : Int) ∧
                                          (∃ (t59a : Option Addr) (t59n : Nat) (t59c : Nat), (Instr.loadAt 22 (.pointer (some ⟨t58b, t58o + Int.toNat x56 * 1, none⟩))).run Try.prog w5 = .ok (.slice t59a t59n t59c) w5 ∧
                                            (∃ (t62b t62o : Nat), t18_0 = .pointer (some ⟨t62b, t62o, none⟩) ∧
                                              (∃ (t64a : Option Addr) (t64n : Nat) (t64c : Nat), (Instr.loadAt 22 (.pointer (some ⟨t62b, t62o, none⟩))).run Try.prog w5 = .ok (.slice t64a t64n t64c) w5 ∧
                                                (∃ (t66a : Option Addr) (t66n : Nat) (t66c : Nat) (w6 : World), (Builtin.append_ #[22, 22] 22 #[(.slice t64a t64n t64c), (.slice t59a t59n t59c)]).run Try.prog w5 = .ok (.slice t66a t66n t66c) w6 ∧
                                                  (∃ (t67b t67o : Nat), t18_0 = .pointer (some ⟨t67b, t67o, none⟩) ∧
                                                    (∃ w7 : World, (Instr.storeAt 22 (.pointer (some ⟨t67b, t67o, none⟩)) (.slice t66a t66n t66c)).run Try.prog w6 = .ok () w7 ∧
                                                      (I_1 (IntKind.wrap .i64 (x56 + (1 : Int))) w7 ∧ μ_1 (IntKind.wrap .i64 (x56 + (1 : Int))) w7 < μ_1 x56 w5))))))))) ∧
                                      ((decide (x56 < ((a2n : Nat) : Int))) = false →
                                        (R (.returned .nilIface) w5))))))))))))))))))))) : Calls Try.prog 12 #[(.pointer (some ⟨a0b, a0o, none⟩)), (.string a1), (.slice a2a a2n a2c)] w R :=
  calls_of_ev (args := [(.pointer (some ⟨a0b, a0o, none⟩)), (.string a1), (.slice a2a a2n a2c)])
    (tc := .seq (.reg (.op .p (.nil))) (.seq (.reg (.op .p (.op .p (.op (.cl [.val, .val]) (.op .p (.op .p (.op .p (.op .p (.op .p (.nil)))))))))) (.seq (.seq (.reg (.op .p (.op (.ld (.bool)) (.nil)))) (.cond (.seq (.reg (.op .p (.op .p (.nil)))) (.leaf)) (.leaf))) (.seq (.drawS (.tk 0 .p (.tk 1 .p (.tk 2 .p (.tk 4 .p (.ts 3 (.int .i64) (.go 5 (.cl [.int .i64]) (.tk 6 .p (.tk 7 .p (.nil))))))))) []) (.seq (.seq (.reg (.op .p (.op .p (.op .p (.nil))))) (.blk (.loop [6, 9, 11, 33, 34, 35, 36, 37, 38, 39, 40, 41, 42, 43, 44, 45, 46] [9, 33] [.int .i64, .int .i64] (.seq (.reg (.op .p (.nil))) (.seq (.cond (.leaf) (.leaf)) (.seq (.blk (.seq (.reg (.op .ix (.op (.ld (.slice)) (.op .p (.nil))))) (.seq (.seq (.reg (.op .p (.op .p (.op .p (.op .p (.nil)))))) (.cond (.seq (.reg (.op .p (.op .p (.nil)))) (.leaf)) (.leaf))) (.reg (.op .p (.op .p (.op .p (.op .p (.op .p (.nil)))))))))) (.reg (.op .p (.op .p (.nil)))))))))) (.seq (.seq (.reg (.op .p (.op .p (.op .p (.op (.cl [.val]) (.op .p (.nil))))))) (.seq (.reg (.op .p (.op (.ld (.bool)) (.nil)))) (.cond (.seq (.reg (.op .p (.op .p (.nil)))) (.leaf)) (.leaf)))) (.seq (.seq (.reg (.op .p (.op .p (.op .p (.nil))))) (.blk (.loop [14, 56, 57, 58, 59, 60, 61, 62, 63, 64, 65, 66, 67, 68, 69] [56] [.int .i64] (.seq (.reg (.op .p (.nil))) (.seq (.cond (.leaf) (.leaf)) (.seq (.blk (.seq (.reg (.op .ix (.op (.ld (.slice)) (.op .p (.nil))))) (.reg (.op .p (.op .p (.op .nc (.op .p (.op (.ld (.slice)) (.op .p (.op (.r (.slice)) (.op .nc (.op .p (.op .u (.nil)))))))))))))) (.reg (.op .p (.op .p (.nil)))))))))) (.seq (.reg (.op .p (.nil))) (.leaf)))))))))
    (by kernel_rfl) Try.func12 (by kernel_rfl) (by kernel_rfl) (by kernel_rfl) (by kernel_rfl) h

set_option maxRecDepth 100000 in
theorem disk_Disk_Append_vc_nil (a1 : ByteArray) (a2a : Option Addr) (a2n : Nat) (a2c : Nat) (w : World) (R : Ending → World → Prop) (h :
  Calls Try.prog 43 #[(.pointer none), (.string a1)] w fun (e18 : Ending) (w1 : World) => ∃ (t18_0 : Value) (t18_1 : Value), e18 = .returned (.tuple #[t18_0, t18_1]) ∧
  (∃ (t22 : Bool), (eqlS .neq 26 (.tmp 21) (.const .nilIface) t18_1 .nilIface).run Try.prog w1 = .ok (.bool t22) w1 ∧
    ((t22 = true →
        (R (.returned t18_1) w1)) ∧
      (t22 = false →
        (False))))) : Calls Try.prog 12 #[(.pointer none), (.string a1), (.slice a2a a2n a2c)] w R :=
  calls_of_ev (args := [(.pointer none), (.string a1), (.slice a2a a2n a2c)])
    (tc := .seq (.reg (.op .p (.nil))) (.seq (.reg (.op .p (.op .p (.op (.cl [.val, .val]) (.op .p (.op .p (.op .p (.op .p (.op .p (.nil)))))))))) (.seq (.seq (.reg (.op .p (.op (.ld (.bool)) (.nil)))) (.cond (.seq (.reg (.op .p (.op .p (.nil)))) (.leaf)) (.leaf))) (.seq (.draw (.nil) []) (.leaf)))))
    (by kernel_rfl) Try.func12 (by kernel_rfl) (by kernel_rfl) (by kernel_rfl) (by kernel_rfl) h

set_option maxRecDepth 100000 in
theorem disk_Disk_Sync_vc (a0b : Nat) (a0o : Nat) (a1 : ByteArray) (w : World) (R : Ending → World → Prop) (h :
  Calls Try.prog 43 #[(.pointer (some ⟨a0b, a0o, none⟩)), (.string a1)] w fun (e11 : Ending) (w1 : World) => ∃ (t11_0 : Value) (t11_1 : Value), e11 = .returned (.tuple #[t11_0, t11_1]) ∧
  (∃ (t15 : Bool), (eqlS .neq 26 (.tmp 14) (.const .nilIface) t11_1 .nilIface).run Try.prog w1 = .ok (.bool t15) w1 ∧
    ((t15 = true →
        (R (.returned t11_1) w1)) ∧
      (t15 = false →
        (Calls Try.prog 42 #[(.pointer (some ⟨a0b, a0o, none⟩))] w1 fun (e20 : Ending) (w2 : World) => ∃ (t20 : Value), e20 = .returned t20 ∧
          (∃ (t22 : Bool), (eqlS .neq 26 (.tmp 21) (.const .nilIface) t20 .nilIface).run Try.prog w2 = .ok (.bool t22) w2 ∧
            ((t22 = true →
                (R (.returned t20) w2)) ∧
              (t22 = false →
                (∃ (t26b t26o : Nat), t11_0 = .pointer (some ⟨t26b, t26o, none⟩) ∧
                  (∃ (t28a : Option Addr) (t28n : Nat) (t28c : Nat), (Instr.loadAt 22 (.pointer (some ⟨t26b, t26o, none⟩))).run Try.prog w2 = .ok (.slice t28a t28n t28c) w2 ∧
                    (∃ (t30b t30o : Nat), t11_0 = .pointer (some ⟨t30b, t30o, none⟩) ∧
                      (∃ w3 : World, (Instr.storeAt 3 (.pointer (some ⟨t30b, t30o + 1, none⟩)) (.int .i64 ((t28n : Nat) : Int))).run Try.prog w2 = .ok () w3 ∧
                        (R (.returned .nilIface) w3))))))))))))) : Calls Try.prog 31 #[(.pointer (some ⟨a0b, a0o, none⟩)), (.string a1)] w R :=
  calls_of_ev (args := [(.pointer (some ⟨a0b, a0o, none⟩)), (.string a1)])
    (tc := .seq (.reg (.op .p (.nil))) (.seq (.reg (.op .p (.op .p (.op (.cl [.val, .val]) (.op .p (.op .p (.op .p (.op .p (.op .p (.nil)))))))))) (.seq (.seq (.reg (.op .p (.op (.ld (.bool)) (.nil)))) (.cond (.seq (.reg (.op .p (.op .p (.nil)))) (.leaf)) (.leaf))) (.seq (.seq (.reg (.op .p (.op .p (.op .p (.op (.cl [.val]) (.op .p (.nil))))))) (.seq (.reg (.op .p (.op (.ld (.bool)) (.nil)))) (.cond (.seq (.reg (.op .p (.op .p (.nil)))) (.leaf)) (.leaf)))) (.seq (.reg (.op .p (.op .p (.op .nc (.op .p (.op (.ld (.slice)) (.op .p (.op .nc (.op .p (.op .u (.nil))))))))))) (.seq (.reg (.op .p (.nil))) (.leaf)))))))
    (by kernel_rfl) Try.func31 (by kernel_rfl) (by kernel_rfl) (by kernel_rfl) (by kernel_rfl) h

set_option maxRecDepth 100000 in
theorem disk_Disk_Sync_vc_nil (a1 : ByteArray) (w : World) (R : Ending → World → Prop) (h :
  Calls Try.prog 43 #[(.pointer none), (.string a1)] w fun (e11 : Ending) (w1 : World) => ∃ (t11_0 : Value) (t11_1 : Value), e11 = .returned (.tuple #[t11_0, t11_1]) ∧
  (∃ (t15 : Bool), (eqlS .neq 26 (.tmp 14) (.const .nilIface) t11_1 .nilIface).run Try.prog w1 = .ok (.bool t15) w1 ∧
    ((t15 = true →
        (R (.returned t11_1) w1)) ∧
      (t15 = false →
        (False))))) : Calls Try.prog 31 #[(.pointer none), (.string a1)] w R :=
  calls_of_ev (args := [(.pointer none), (.string a1)])
    (tc := .seq (.reg (.op .p (.nil))) (.seq (.reg (.op .p (.op .p (.op (.cl [.val, .val]) (.op .p (.op .p (.op .p (.op .p (.op .p (.nil)))))))))) (.seq (.seq (.reg (.op .p (.op (.ld (.bool)) (.nil)))) (.cond (.seq (.reg (.op .p (.op .p (.nil)))) (.leaf)) (.leaf))) (.seq (.seq (.reg (.op .p (.op .p (.nil)))) (.leaf)) (.leaf)))))
    (by kernel_rfl) Try.func31 (by kernel_rfl) (by kernel_rfl) (by kernel_rfl) (by kernel_rfl) h

set_option maxRecDepth 100000 in
theorem disk_Disk_SyncDir_vc (a0b : Nat) (a0o : Nat) (w : World) (R : Ending → World → Prop) (h :
  Calls Try.prog 41 #[(.pointer (some ⟨a0b, a0o, none⟩)), (.slice none 0 0)] w fun (e6 : Ending) (w1 : World) => ∃ (t6 : Value), e6 = .returned t6 ∧
  (∃ (t8 : Bool), (eqlS .neq 26 (.tmp 7) (.const .nilIface) t6 .nilIface).run Try.prog w1 = .ok (.bool t8) w1 ∧
    ((t8 = true →
        (R (.returned t6) w1)) ∧
      (t8 = false →
        (Calls Try.prog 42 #[(.pointer (some ⟨a0b, a0o, none⟩))] w1 fun (e13 : Ending) (w2 : World) => ∃ (t13 : Value), e13 = .returned t13 ∧
          (∃ (t15 : Bool), (eqlS .neq 26 (.tmp 14) (.const .nilIface) t13 .nilIface).run Try.prog w2 = .ok (.bool t15) w2 ∧
            ((t15 = true →
                (R (.returned t13) w2)) ∧
              (t15 = false →
                (∃ (t21 : Value), (Instr.loadAt 77 (.pointer (some ⟨a0b, a0o + 6, none⟩))).run Try.prog w2 = .ok t21 w2 ∧
                  (Calls Try.prog 47 #[t21] w2 fun (e22 : Ending) (w3 : World) => ∃ (t22 : Value), e22 = .returned t22 ∧
                    (∃ w4 : World, (Instr.storeAt 77 (.pointer (some ⟨a0b, a0o + 7, none⟩)) t22).run Try.prog w3 = .ok () w4 ∧
                      (∃ w5 : World, (Instr.storeAt 80 (.pointer (some ⟨a0b, a0o + 8, none⟩)) (.slice none 0 0)).run Try.prog w4 = .ok () w5 ∧
                        (R (.returned .nilIface) w5))))))))))))) : Calls Try.prog 32 #[(.pointer (some ⟨a0b, a0o, none⟩))] w R :=
  calls_of_ev (args := [(.pointer (some ⟨a0b, a0o, none⟩))])
    (tc := .seq (.reg (.op .p (.nil))) (.seq (.seq (.reg (.op .p (.op (.cl [.val]) (.op .p (.nil))))) (.seq (.reg (.op .p (.op (.ld (.bool)) (.nil)))) (.cond (.seq (.reg (.op .p (.op .p (.nil)))) (.leaf)) (.leaf)))) (.seq (.seq (.reg (.op .p (.op .p (.op .p (.op (.cl [.val]) (.op .p (.nil))))))) (.seq (.reg (.op .p (.op (.ld (.bool)) (.nil)))) (.cond (.seq (.reg (.op .p (.op .p (.nil)))) (.leaf)) (.leaf)))) (.seq (.reg (.op .p (.op .p (.op .p (.op .p (.op (.ld (.val)) (.op (.cl [.val]) (.op .p (.op .p (.op .u (.nil))))))))))) (.seq (.reg (.op .p (.op .p (.op .p (.op .u (.nil)))))) (.seq (.reg (.op .p (.nil))) (.leaf)))))))
    (by kernel_rfl) Try.func32 (by kernel_rfl) (by kernel_rfl) (by kernel_rfl) (by kernel_rfl) h

set_option maxRecDepth 100000 in
theorem disk_Disk_SyncDir_vc_nil  (w : World) (R : Ending → World → Prop) (h :
  Calls Try.prog 41 #[(.pointer none), (.slice none 0 0)] w fun (e6 : Ending) (w1 : World) => ∃ (t6 : Value), e6 = .returned t6 ∧
  (∃ (t8 : Bool), (eqlS .neq 26 (.tmp 7) (.const .nilIface) t6 .nilIface).run Try.prog w1 = .ok (.bool t8) w1 ∧
    ((t8 = true →
        (R (.returned t6) w1)) ∧
      (t8 = false →
        (False))))) : Calls Try.prog 32 #[(.pointer none)] w R :=
  calls_of_ev (args := [(.pointer none)])
    (tc := .seq (.reg (.op .p (.nil))) (.seq (.seq (.reg (.op .p (.op (.cl [.val]) (.op .p (.nil))))) (.seq (.reg (.op .p (.op (.ld (.bool)) (.nil)))) (.cond (.seq (.reg (.op .p (.op .p (.nil)))) (.leaf)) (.leaf)))) (.seq (.seq (.reg (.op .p (.op .p (.nil)))) (.leaf)) (.leaf))))
    (by kernel_rfl) Try.func32 (by kernel_rfl) (by kernel_rfl) (by kernel_rfl) (by kernel_rfl) h

set_option maxRecDepth 100000 in
theorem disk_Disk_Rename_vc (a0b : Nat) (a0o : Nat) (a1 : ByteArray) (a2 : ByteArray) (w : World) (R : Ending → World → Prop) (h :
  ∃ (t15a : Option Addr) (t15n : Nat) (t15c : Nat) (w1 : World), (Instr.buildSlice 39 2 #[(0, (.string a1)), (1, (.string a2))]).run Try.prog w = .ok (.slice t15a t15n t15c) w1 ∧
  (Calls Try.prog 41 #[(.pointer (some ⟨a0b, a0o, none⟩)), (.slice t15a t15n t15c)] w1 fun (e16 : Ending) (w2 : World) => ∃ (t16 : Value), e16 = .returned t16 ∧
    (∃ (t18 : Bool), (eqlS .neq 26 (.tmp 17) (.const .nilIface) t16 .nilIface).run Try.prog w2 = .ok (.bool t18) w2 ∧
      ((t18 = true →
          (R (.returned t16) w2)) ∧
        (t18 = false →
          (Calls Try.prog 43 #[(.pointer (some ⟨a0b, a0o, none⟩)), (.string a1)] w2 fun (e23 : Ending) (w3 : World) => ∃ (t23_0 : Value) (t23_1 : Value), e23 = .returned (.tuple #[t23_0, t23_1]) ∧
            (∃ (t27 : Bool), (eqlS .neq 26 (.tmp 26) (.const .nilIface) t23_1 .nilIface).run Try.prog w3 = .ok (.bool t27) w3 ∧
              ((t27 = true →
                  (R (.returned t23_1) w3)) ∧
                (t27 = false →
                  (Calls Try.prog 42 #[(.pointer (some ⟨a0b, a0o, none⟩))] w3 fun (e32 : Ending) (w4 : World) => ∃ (t32 : Value), e32 = .returned t32 ∧
                    (∃ (t34 : Bool), (eqlS .neq 26 (.tmp 33) (.const .nilIface) t32 .nilIface).run Try.prog w4 = .ok (.bool t34) w4 ∧
                      ((t34 = true →
                          (R (.returned t32) w4)) ∧
                        (t34 = false →
                          (∃ (t38 : Array Value), (Instr.build 89 #[(1, (.string a1)), (2, (.string a2))]).run Try.prog w4 = .ok (.agg t38) w4 ∧
                            (∃ (g11 : Nat) (w5 : World), (Instr.alloc 89 true (.tuple #[])).run Try.prog w4 = .ok (.pointer (some ⟨g11, 0, none⟩)) w5 ∧
                              (∃ w6 : World, (Instr.storeAt 89 (.pointer (some ⟨g11, 0, none⟩)) (.agg t38)).run Try.prog w5 = .ok () w6 ∧
                                (∃ S : World → Prop, S w6.drew ∧
                                  (∃ (t42 : Value), (∀ w' : World, S w' → (Instr.loadAt 77 (.pointer (some ⟨a0b, a0o + 6, none⟩))).run Try.prog w' = .ok t42 w') ∧
                                    (∃ (t43 : Array Value), (∀ w' : World, S w' → (Instr.loadAt 89 (.pointer (some ⟨g11, 0, none⟩))).run Try.prog w' = .ok (.agg t43) w') ∧
                                      (Calls Try.prog 48 #[t42, (.agg t43)] w6.drew fun (e44 : Ending) (w7 : World) => e44 = .returned (.tuple #[]) ∧
                                        (∃ S_1 : World → Prop, (∀ w' : World, S_1 w' → S w') ∧ S_1 w7 ∧
                                          (∃ S_2 : World → Prop, S_2 w7.drew ∧
                                            (∃ (t49a : Option Addr) (t49n : Nat) (t49c : Nat), (∀ w' : World, S_2 w' → (Instr.loadAt 80 (.pointer (some ⟨a0b, a0o + 8, none⟩))).run Try.prog w' = .ok (.slice t49a t49n t49c) w') ∧
                                              (∃ (t50 : Array Value), (∀ w' : World, S_2 w' → (Instr.loadAt 89 (.pointer (some ⟨g11, 0, none⟩))).run Try.prog w' = .ok (.agg t50) w') ∧
                                                (∃ (t51a : Option Addr) (t51n : Nat) (t51c : Nat) (w8 : World), (Instr.buildSlice 80 1 #[(0, (.agg t50))]).run Try.prog w7.drew = .ok (.slice t51a t51n t51c) w8 ∧
                                                  (∃ S_3 : World → Prop, (∀ w' : World, S_3 w' → S_2 w') ∧ S_3 w8 ∧
                                                    (∃ (t52a : Option Addr) (t52n : Nat) (t52c : Nat) (w9 : World), (Builtin.append_ #[80, 80] 80 #[(.slice t49a t49n t49c), (.slice t51a t51n t51c)]).run Try.prog w8 = .ok (.slice t52a t52n t52c) w9 ∧
                                                      (∃ S_4 : World → Prop, (∀ w' : World, S_4 w' → S_3 w') ∧ S_4 w9 ∧
                                                        (∃ w10 : World, (Instr.storeAt 80 (.pointer (some ⟨a0b, a0o + 8, none⟩)) (.slice t52a t52n t52c)).run Try.prog w9 = .ok () w10 ∧
                                                          (R (.returned .nilIface) w10)))))))))))))))))))))))))))))) : Calls Try.prog 33 #[(.pointer (some ⟨a0b, a0o, none⟩)), (.string a1), (.string a2)] w R :=
  calls_of_ev (args := [(.pointer (some ⟨a0b, a0o, none⟩)), (.string a1), (.string a2)])
    (tc := .seq (.reg (.op .p (.nil))) (.seq (.seq (.reg (.op .p (.op .p (.op .p (.op (.r (.slice)) (.op (.cl [.val]) (.op .p (.nil)))))))) (.seq (.reg (.op .p (.op (.ld (.bool)) (.nil)))) (.cond (.seq (.reg (.op .p (.op .p (.nil)))) (.leaf)) (.leaf)))) (.seq (.seq (.reg (.op .p (.op .p (.op (.cl [.val, .val]) (.op .p (.op .p (.op .p (.op .p (.op .p (.nil)))))))))) (.seq (.reg (.op .p (.op (.ld (.bool)) (.nil)))) (.cond (.seq (.reg (.op .p (.op .p (.nil)))) (.leaf)) (.leaf)))) (.seq (.seq (.reg (.op .p (.op .p (.op .p (.op (.cl [.val]) (.op .p (.nil))))))) (.seq (.reg (.op .p (.op (.ld (.bool)) (.nil)))) (.cond (.seq (.reg (.op .p (.op .p (.nil)))) (.leaf)) (.leaf)))) (.seq (.reg (.op .p (.op .p (.op (.ld (.agg)) (.op .bx (.op .u (.nil))))))) (.seq (.drawS (.tk 0 .p (.tk 1 .p (.tk 2 .p (.ts 3 (.val) (.ts 4 (.agg) (.go 5 (.cl []) (.nil))))))) []) (.seq (.drawS (.tk 0 .p (.tk 1 .p (.tk 2 .p (.tk 3 .p (.ts 4 (.slice) (.ts 5 (.agg) (.go 6 (.r (.slice)) (.go 7 (.r (.slice)) (.tk 8 .p (.tk 9 .p (.go 10 .u (.nil)))))))))))) [10]) (.seq (.reg (.op .p (.nil))) (.leaf)))))))))
    (by kernel_rfl) Try.func33 (by kernel_rfl) (by kernel_rfl) (by kernel_rfl) (by kernel_rfl) h

set_option maxRecDepth 100000 in
theorem disk_Disk_Rename_vc_nil (a1 : ByteArray) (a2 : ByteArray) (w : World) (R : Ending → World → Prop) (h :
  ∃ (t15a : Option Addr) (t15n : Nat) (t15c : Nat) (w1 : World), (Instr.buildSlice 39 2 #[(0, (.string a1)), (1, (.string a2))]).run Try.prog w = .ok (.slice t15a t15n t15c) w1 ∧
  (Calls Try.prog 41 #[(.pointer none), (.slice t15a t15n t15c)] w1 fun (e16 : Ending) (w2 : World) => ∃ (t16 : Value), e16 = .returned t16 ∧
    (∃ (t18 : Bool), (eqlS .neq 26 (.tmp 17) (.const .nilIface) t16 .nilIface).run Try.prog w2 = .ok (.bool t18) w2 ∧
      ((t18 = true →
          (R (.returned t16) w2)) ∧
        (t18 = false →
          (Calls Try.prog 43 #[(.pointer none), (.string a1)] w2 fun (e23 : Ending) (w3 : World) => ∃ (t23_0 : Value) (t23_1 : Value), e23 = .returned (.tuple #[t23_0, t23_1]) ∧
            (∃ (t27 : Bool), (eqlS .neq 26 (.tmp 26) (.const .nilIface) t23_1 .nilIface).run Try.prog w3 = .ok (.bool t27) w3 ∧
              ((t27 = true →
                  (R (.returned t23_1) w3)) ∧
                (t27 = false →
                  (False)))))))))) : Calls Try.prog 33 #[(.pointer none), (.string a1), (.string a2)] w R :=
  calls_of_ev (args := [(.pointer none), (.string a1), (.string a2)])
    (tc := .seq (.reg (.op .p (.nil))) (.seq (.seq (.reg (.op .p (.op .p (.op .p (.op (.r (.slice)) (.op (.cl [.val]) (.op .p (.nil)))))))) (.seq (.reg (.op .p (.op (.ld (.bool)) (.nil)))) (.cond (.seq (.reg (.op .p (.op .p (.nil)))) (.leaf)) (.leaf)))) (.seq (.seq (.reg (.op .p (.op .p (.op (.cl [.val, .val]) (.op .p (.op .p (.op .p (.op .p (.op .p (.nil)))))))))) (.seq (.reg (.op .p (.op (.ld (.bool)) (.nil)))) (.cond (.seq (.reg (.op .p (.op .p (.nil)))) (.leaf)) (.leaf)))) (.seq (.seq (.reg (.op .p (.op .p (.nil)))) (.leaf)) (.leaf)))))
    (by kernel_rfl) Try.func33 (by kernel_rfl) (by kernel_rfl) (by kernel_rfl) (by kernel_rfl) h

set_option maxRecDepth 100000 in
theorem disk_Disk_Remove_vc (a0b : Nat) (a0o : Nat) (a1 : ByteArray) (w : World) (R : Ending → World → Prop) (h :
  Calls Try.prog 43 #[(.pointer (some ⟨a0b, a0o, none⟩)), (.string a1)] w fun (e12 : Ending) (w1 : World) => ∃ (t12_0 : Value) (t12_1 : Value), e12 = .returned (.tuple #[t12_0, t12_1]) ∧
  (∃ (t16 : Bool), (eqlS .neq 26 (.tmp 15) (.const .nilIface) t12_1 .nilIface).run Try.prog w1 = .ok (.bool t16) w1 ∧
    ((t16 = true →
        (R (.returned t12_1) w1)) ∧
      (t16 = false →
        (Calls Try.prog 42 #[(.pointer (some ⟨a0b, a0o, none⟩))] w1 fun (e21 : Ending) (w2 : World) => ∃ (t21 : Value), e21 = .returned t21 ∧
          (∃ (t23 : Bool), (eqlS .neq 26 (.tmp 22) (.const .nilIface) t21 .nilIface).run Try.prog w2 = .ok (.bool t23) w2 ∧
            ((t23 = true →
                (R (.returned t21) w2)) ∧
              (t23 = false →
                (∃ (t26 : Array Value), (Instr.build 89 #[(1, (.string a1))]).run Try.prog w2 = .ok (.agg t26) w2 ∧
                  (∃ (g8 : Nat) (w3 : World), (Instr.alloc 89 true (.tuple #[])).run Try.prog w2 = .ok (.pointer (some ⟨g8, 0, none⟩)) w3 ∧
                    (∃ w4 : World, (Instr.storeAt 89 (.pointer (some ⟨g8, 0, none⟩)) (.agg t26)).run Try.prog w3 = .ok () w4 ∧
                      (∃ S : World → Prop, S w4.drew ∧
                        (∃ (t30 : Value), (∀ w' : World, S w' → (Instr.loadAt 77 (.pointer (some ⟨a0b, a0o + 6, none⟩))).run Try.prog w' = .ok t30 w') ∧
                          (∃ (t31 : Array Value), (∀ w' : World, S w' → (Instr.loadAt 89 (.pointer (some ⟨g8, 0, none⟩))).run Try.prog w' = .ok (.agg t31) w') ∧
                            (Calls Try.prog 48 #[t30, (.agg t31)] w4.drew fun (e32 : Ending) (w5 : World) => e32 = .returned (.tuple #[]) ∧
                              (∃ S_1 : World → Prop, (∀ w' : World, S_1 w' → S w') ∧ S_1 w5 ∧
                                (∃ S_2 : World → Prop, S_2 w5.drew ∧
                                  (∃ (t37a : Option Addr) (t37n : Nat) (t37c : Nat), (∀ w' : World, S_2 w' → (Instr.loadAt 80 (.pointer (some ⟨a0b, a0o + 8, none⟩))).run Try.prog w' = .ok (.slice t37a t37n t37c) w') ∧
                                    (∃ (t38 : Array Value), (∀ w' : World, S_2 w' → (Instr.loadAt 89 (.pointer (some ⟨g8, 0, none⟩))).run Try.prog w' = .ok (.agg t38) w') ∧
                                      (∃ (t39a : Option Addr) (t39n : Nat) (t39c : Nat) (w6 : World), (Instr.buildSlice 80 1 #[(0, (.agg t38))]).run Try.prog w5.drew = .ok (.slice t39a t39n t39c) w6 ∧
                                        (∃ S_3 : World → Prop, (∀ w' : World, S_3 w' → S_2 w') ∧ S_3 w6 ∧
                                          (∃ (t40a : Option Addr) (t40n : Nat) (t40c : Nat) (w7 : World), (Builtin.append_ #[80, 80] 80 #[(.slice t37a t37n t37c), (.slice t39a t39n t39c)]).run Try.prog w6 = .ok (.slice t40a t40n t40c) w7 ∧
                                            (∃ S_4 : World → Prop, (∀ w' : World, S_4 w' → S_3 w') ∧ S_4 w7 ∧
                                              (∃ w8 : World, (Instr.storeAt 80 (.pointer (some ⟨a0b, a0o + 8, none⟩)) (.slice t40a t40n t40c)).run Try.prog w7 = .ok () w8 ∧
                                                (R (.returned .nilIface) w8))))))))))))))))))))))))) : Calls Try.prog 34 #[(.pointer (some ⟨a0b, a0o, none⟩)), (.string a1)] w R :=
  calls_of_ev (args := [(.pointer (some ⟨a0b, a0o, none⟩)), (.string a1)])
    (tc := .seq (.reg (.op .p (.nil))) (.seq (.seq (.reg (.op .p (.op .p (.op (.cl [.val, .val]) (.op .p (.op .p (.op .p (.op .p (.op .p (.nil)))))))))) (.seq (.reg (.op .p (.op (.ld (.bool)) (.nil)))) (.cond (.seq (.reg (.op .p (.op .p (.nil)))) (.leaf)) (.leaf)))) (.seq (.seq (.reg (.op .p (.op .p (.op .p (.op (.cl [.val]) (.op .p (.nil))))))) (.seq (.reg (.op .p (.op (.ld (.bool)) (.nil)))) (.cond (.seq (.reg (.op .p (.op .p (.nil)))) (.leaf)) (.leaf)))) (.seq (.reg (.op .p (.op (.ld (.agg)) (.op .bx (.op .u (.nil)))))) (.seq (.drawS (.tk 0 .p (.tk 1 .p (.tk 2 .p (.ts 3 (.val) (.ts 4 (.agg) (.go 5 (.cl []) (.nil))))))) []) (.seq (.drawS (.tk 0 .p (.tk 1 .p (.tk 2 .p (.tk 3 .p (.ts 4 (.slice) (.ts 5 (.agg) (.go 6 (.r (.slice)) (.go 7 (.r (.slice)) (.tk 8 .p (.tk 9 .p (.go 10 .u (.nil)))))))))))) [10]) (.seq (.reg (.op .p (.nil))) (.leaf))))))))
    (by kernel_rfl) Try.func34 (by kernel_rfl) (by kernel_rfl) (by kernel_rfl) (by kernel_rfl) h

set_option maxRecDepth 100000 in
theorem disk_Disk_Remove_vc_nil (a1 : ByteArray) (w : World) (R : Ending → World → Prop) (h :
  Calls Try.prog 43 #[(.pointer none), (.string a1)] w fun (e12 : Ending) (w1 : World) => ∃ (t12_0 : Value) (t12_1 : Value), e12 = .returned (.tuple #[t12_0, t12_1]) ∧
  (∃ (t16 : Bool), (eqlS .neq 26 (.tmp 15) (.const .nilIface) t12_1 .nilIface).run Try.prog w1 = .ok (.bool t16) w1 ∧
    ((t16 = true →
        (R (.returned t12_1) w1)) ∧
      (t16 = false →
        (False))))) : Calls Try.prog 34 #[(.pointer none), (.string a1)] w R :=
  calls_of_ev (args := [(.pointer none), (.string a1)])
    (tc := .seq (.reg (.op .p (.nil))) (.seq (.seq (.reg (.op .p (.op .p (.op (.cl [.val, .val]) (.op .p (.op .p (.op .p (.op .p (.op .p (.nil)))))))))) (.seq (.reg (.op .p (.op (.ld (.bool)) (.nil)))) (.cond (.seq (.reg (.op .p (.op .p (.nil)))) (.leaf)) (.leaf)))) (.seq (.seq (.reg (.op .p (.op .p (.nil)))) (.leaf)) (.leaf))))
    (by kernel_rfl) Try.func34 (by kernel_rfl) (by kernel_rfl) (by kernel_rfl) (by kernel_rfl) h

set_option maxRecDepth 100000 in
theorem disk_dir_make_vc (a0 : Value) (a1 : Array Value) (w : World) (R : Ending → World → Prop) (h :
  ∃ (g3 : Nat) (w1 : World), (Instr.box 89 (.agg a1)).run Try.prog w = .ok (.pointer (some ⟨g3, 0, none⟩)) w1 ∧
  (∃ (t7 : Value), (Instr.loadAt 84 (.pointer (some ⟨g3, 0, none⟩))).run Try.prog w1 = .ok t7 w1 ∧
    (∃ (t8 : Bool), (eqlS .neq 84 (.tmp 7) (.const (.pointer none)) t7 (.pointer none)).run Try.prog w1 = .ok (.bool t8) w1 ∧
      ((t8 = true →
          (∃ (t11 : ByteArray), (Instr.loadAt 9 (.pointer (some ⟨g3, 2, none⟩))).run Try.prog w1 = .ok (.string t11) w1 ∧
            (∃ (t13 : Value), (Instr.loadAt 84 (.pointer (some ⟨g3, 0, none⟩))).run Try.prog w1 = .ok t13 w1 ∧
              (∃ w2 : World, (Instr.mapUpdate 77 a0 (.string t11) t13).run Try.prog w1 = .ok () w2 ∧
                (R (.returned (.tuple #[])) w2))))) ∧
        (t8 = false →
          (∃ (t17 : ByteArray), (Instr.loadAt 9 (.pointer (some ⟨g3, 1, none⟩))).run Try.prog w1 = .ok (.string t17) w1 ∧
            (∃ (t18_0 : Value) (t18_1 : Bool) (w3 : World), (Instr.lookup 77 a0 (.string t17) true).run Try.prog w1 = .ok (.tuple #[t18_0, (.bool t18_1)]) w3 ∧
              (((!t18_1) = true →
                  (R (.returned (.tuple #[])) w3)) ∧
                ((!t18_1) = false →
                  (∃ (t25 : ByteArray), (Instr.loadAt 9 (.pointer (some ⟨g3, 1, none⟩))).run Try.prog w3 = .ok (.string t25) w3 ∧
                    (∃ (tNone : Value) (w4 : World), (Builtin.delete_ #[77, 9] 0 #[a0, (.string t25)]).run Try.prog w3 = .ok tNone w4 ∧
                      (∃ (t27 : ByteArray), (Instr.loadAt 9 (.pointer (some ⟨g3, 2, none⟩))).run Try.prog w4 = .ok (.string t27) w4 ∧
                        (∃ J : World → Prop, (((!(t27.toList == (ByteArray.mk #[]).toList)) = true →
                              (∃ (t31 : ByteArray), (Instr.loadAt 9 (.pointer (some ⟨g3, 2, none⟩))).run Try.prog w4 = .ok (.string t31) w4 ∧
                                (∃ w5 : World, (Instr.mapUpdate 77 a0 (.string t31) t18_0).run Try.prog w4 = .ok () w5 ∧
                                  (J  w5)))) ∧
                            ((!(t27.toList == (ByteArray.mk #[]).toList)) = false →
                              (J  w4))) ∧
                          (∀ w6 : World, J  w6 →
                            (R (.returned (.tuple #[])) w6))))))))))))))) : Calls Try.prog 48 #[a0, (.agg a1)] w R :=
  calls_of_ev (args := [a0, (.agg a1)])
    (tc := .seq (.reg (.op .bx (.nil))) (.seq (.seq (.reg (.op .p (.op (.ld (.val)) (.op (.ld (.bool)) (.nil))))) (.cond (.seq (.reg (.op .p (.op .p (.op (.ld (.str)) (.op .p (.op (.ld (.val)) (.op .u (.nil)))))))) (.leaf)) (.leaf))) (.seq (.reg (.op .p (.op .p (.op (.ld (.str)) (.op (.rt [.val, .bool]) (.op .p (.op .p (.op .p (.op .p (.op .p (.nil))))))))))) (.seq (.seq (.reg (.op .p (.op .p (.nil)))) (.cond (.leaf) (.leaf))) (.seq (.reg (.op .p (.op .p (.op (.ld (.str)) (.op (.r (.val)) (.nil)))))) (.seq (.reg (.op .p (.op (.ld (.str)) (.op .p (.nil))))) (.join [29, 30, 31, 32] [] [] (.cond (.reg (.op .p (.op .p (.op (.ld (.str)) (.op .p (.op .u (.nil))))))) (.leaf)))))))))
    (by kernel_rfl) Try.func48 (by kernel_rfl) (by kernel_rfl) (by kernel_rfl) (by kernel_rfl) h

set_option maxRecDepth 100000 in
theorem disk_Disk_Read_vc (a0b : Nat) (a0o : Nat) (a1 : ByteArray) (w : World) (R : Ending → World → Prop) (h :
  Calls Try.prog 43 #[(.pointer (some ⟨a0b, a0o, none⟩)), (.string a1)] w fun (e11 : Ending) (w1 : World) => ∃ (t11_0 : Value) (t11_1 : Value), e11 = .returned (.tuple #[t11_0, t11_1]) ∧
  (∃ (t15 : Bool), (eqlS .neq 26 (.tmp 14) (.const .nilIface) t11_1 .nilIface).run Try.prog w1 = .ok (.bool t15) w1 ∧
    ((t15 = true →
        (R (.returned (.tuple #[(.slice none 0 0), t11_1])) w1)) ∧
      (t15 = false →
        (∃ (t18b t18o : Nat), t11_0 = .pointer (some ⟨t18b, t18o, none⟩) ∧
          (∃ (t20a : Option Addr) (t20n : Nat) (t20c : Nat), (Instr.loadAt 22 (.pointer (some ⟨t18b, t18o, none⟩))).run Try.prog w1 = .ok (.slice t20a t20n t20c) w1 ∧
            (Calls Try.prog 44 #[(.slice t20a t20n t20c)] w1 fun (e21 : Ending) (w2 : World) => ∃ (t21a : Option Addr) (t21n : Nat) (t21c : Nat), e21 = .returned (.slice t21a t21n t21c) ∧
              (R (.returned (.tuple #[(.slice t21a t21n t21c), .nilIface])) w2)))))))) : Calls Try.prog 15 #[(.pointer (some ⟨a0b, a0o, none⟩)), (.string a1)] w R :=
  calls_of_ev (args := [(.pointer (some ⟨a0b, a0o, none⟩)), (.string a1)])
    (tc := .seq (.reg (.op .p (.op .p (.nil)))) (.seq (.reg (.op .p (.op .p (.op (.cl [.val, .val]) (.op .p (.op .p (.op .p (.op .p (.op .p (.nil)))))))))) (.seq (.seq (.reg (.op .p (.op (.ld (.bool)) (.nil)))) (.cond (.seq (.reg (.op .p (.op .p (.op .p (.nil))))) (.leaf)) (.leaf))) (.seq (.reg (.op .p (.op .nc (.op .p (.op (.ld (.slice)) (.op (.cl [.slice]) (.op .p (.op .p (.nil))))))))) (.leaf)))))
    (by kernel_rfl) Try.func15 (by kernel_rfl) (by kernel_rfl) (by kernel_rfl) (by kernel_rfl) h

set_option maxRecDepth 100000 in
theorem disk_Disk_Read_vc_nil (a1 : ByteArray) (w : World) (R : Ending → World → Prop) (h :
  Calls Try.prog 43 #[(.pointer none), (.string a1)] w fun (e11 : Ending) (w1 : World) => ∃ (t11_0 : Value) (t11_1 : Value), e11 = .returned (.tuple #[t11_0, t11_1]) ∧
  (∃ (t15 : Bool), (eqlS .neq 26 (.tmp 14) (.const .nilIface) t11_1 .nilIface).run Try.prog w1 = .ok (.bool t15) w1 ∧
    ((t15 = true →
        (R (.returned (.tuple #[(.slice none 0 0), t11_1])) w1)) ∧
      (t15 = false →
        (∃ (t18b t18o : Nat), t11_0 = .pointer (some ⟨t18b, t18o, none⟩) ∧
          (∃ (t20a : Option Addr) (t20n : Nat) (t20c : Nat), (Instr.loadAt 22 (.pointer (some ⟨t18b, t18o, none⟩))).run Try.prog w1 = .ok (.slice t20a t20n t20c) w1 ∧
            (Calls Try.prog 44 #[(.slice t20a t20n t20c)] w1 fun (e21 : Ending) (w2 : World) => ∃ (t21a : Option Addr) (t21n : Nat) (t21c : Nat), e21 = .returned (.slice t21a t21n t21c) ∧
              (R (.returned (.tuple #[(.slice t21a t21n t21c), .nilIface])) w2)))))))) : Calls Try.prog 15 #[(.pointer none), (.string a1)] w R :=
  calls_of_ev (args := [(.pointer none), (.string a1)])
    (tc := .seq (.reg (.op .p (.op .p (.nil)))) (.seq (.reg (.op .p (.op .p (.op (.cl [.val, .val]) (.op .p (.op .p (.op .p (.op .p (.op .p (.nil)))))))))) (.seq (.seq (.reg (.op .p (.op (.ld (.bool)) (.nil)))) (.cond (.seq (.reg (.op .p (.op .p (.op .p (.nil))))) (.leaf)) (.leaf))) (.seq (.reg (.op .p (.op .nc (.op .p (.op (.ld (.slice)) (.op (.cl [.slice]) (.op .p (.op .p (.nil))))))))) (.leaf)))))
    (by kernel_rfl) Try.func15 (by kernel_rfl) (by kernel_rfl) (by kernel_rfl) (by kernel_rfl) h

set_option maxRecDepth 100000 in
theorem disk_Disk_ReadAt_vc (a0b : Nat) (a0o : Nat) (a1 : ByteArray) (a2 : Int) (a3 : Int) (w : World) (R : Ending → World → Prop) (h :
  Calls Try.prog 43 #[(.pointer (some ⟨a0b, a0o, none⟩)), (.string a1)] w fun (e15 : Ending) (w1 : World) => ∃ (t15_0 : Value) (t15_1 : Value), e15 = .returned (.tuple #[t15_0, t15_1]) ∧
  (∃ (t19 : Bool), (eqlS .neq 26 (.tmp 18) (.const .nilIface) t15_1 .nilIface).run Try.prog w1 = .ok (.bool t19) w1 ∧
    ((t19 = true →
        (R (.returned (.tuple #[(.slice none 0 0), t15_1])) w1)) ∧
      (t19 = false →
        (∃ J : Bool → World → Prop, ((((decide (a2 < (0 : Int))) || (decide (a3 < (0 : Int)))) = true →
              (J true w1)) ∧
            (((decide (a2 < (0 : Int))) || (decide (a3 < (0 : Int)))) = false →
              (∃ (t30b t30o : Nat), t15_0 = .pointer (some ⟨t30b, t30o, none⟩) ∧
                (∃ (t32a : Option Addr) (t32n : Nat) (t32c : Nat), (Instr.loadAt 22 (.pointer (some ⟨t30b, t30o, none⟩))).run Try.prog w1 = .ok (.slice t32a t32n t32c) w1 ∧
                  (((decide (a2 > ((t32n : Nat) : Int))) = true →
                      (J true w1)) ∧
                    ((decide (a2 > ((t32n : Nat) : Int))) = false →
                      (∃ (t39b t39o : Nat), t15_0 = .pointer (some ⟨t39b, t39o, none⟩) ∧
                        (∃ (t41a : Option Addr) (t41n : Nat) (t41c : Nat), (Instr.loadAt 22 (.pointer (some ⟨t39b, t39o, none⟩))).run Try.prog w1 = .ok (.slice t41a t41n t41c) w1 ∧
                          (J (decide (a3 > (IntKind.wrap .i64 (((t41n : Nat) : Int) - a2)))) w1))))))))) ∧
          (∀ (x46 : Bool), ∀ w2 : World, J x46 w2 →
            ((x46 = true →
                (R (.returned (.tuple #[(.slice none 0 0), (.iface 62 (.int .i64 7))])) w2)) ∧
              (x46 = false →
                (∃ (t49b t49o : Nat), t15_0 = .pointer (some ⟨t49b, t49o, none⟩) ∧
                  (∃ (t51a : Option Addr) (t51n : Nat) (t51c : Nat), (Instr.loadAt 22 (.pointer (some ⟨t49b, t49o, none⟩))).run Try.prog w2 = .ok (.slice t51a t51n t51c) w2 ∧
                    (0 ≤ a2 ∧ a2 ≤ (IntKind.wrap .i64 (a2 + a3)) ∧ (IntKind.wrap .i64 (a2 + a3)) ≤ ((t51c : Nat) : Int) ∧ ∀ t56a : Option Addr, SubA 1 t51a (Int.toNat a2) t51c t56a →
                      (Calls Try.prog 44 #[(.slice t56a ((Int.toNat (IntKind.wrap .i64 (a2 + a3))) - (Int.toNat a2)) (t51c - (Int.toNat a2)))] w2 fun (e57 : Ending) (w3 : World) => ∃ (t57a : Option Addr) (t57n : Nat) (t57c : Nat), e57 = .returned (.slice t57a t57n t57c) ∧
                        (R (.returned (.tuple #[(.slice t57a t57n t57c), .nilIface])) w3))))))))))))) : Calls Try.prog 16 #[(.pointer (some ⟨a0b, a0o, none⟩)), (.string a1), (.int .i64 a2), (.int .i64 a3)] w R :=
  calls_of_ev (args := [(.pointer (some ⟨a0b, a0o, none⟩)), (.string a1), (.int .i64 a2), (.int .i64 a3)])
    (tc := .seq (.reg (.op .p (.op .p (.nil)))) (.seq (.reg (.op .p (.op .p (.op (.cl [.val, .val]) (.op .p (.op .p (.op .p (.op .p (.op .p (.nil)))))))))) (.seq (.seq (.reg (.op .p (.op (.ld (.bool)) (.nil)))) (.cond (.seq (.reg (.op .p (.op .p (.op .p (.nil))))) (.leaf)) (.leaf))) (.seq (.seq (.join [21, 22, 23, 24, 25, 26, 27, 28, 29, 30, 31, 32, 33, 34, 35, 36, 37, 38, 39, 40, 41, 42, 43, 44, 45, 46] [46] [.bool] (.reg (.op .p (.op .p (.op .p (.ap 2 (.op .p (.sp 27 (.op .p (.op .p (.op .p (.op .p (.op .p (.op .p (.op .p (.op .p (.op .p (.op .p (.op .p (.op .p (.op .p (.op .p (.op .p (.op .p (.op .p (.op .p (.op .p (.nil)))))))))))))))))))) (.op .p (.op .p (.op .nc (.op .p (.op (.ld (.slice)) (.op .p (.op .p (.op .p (.op .p (.sp 36 (.op .p (.op .p (.op .p (.op .p (.op .p (.op .p (.op .p (.op .p (.op .p (.op .p (.nil))))))))))) (.op .p (.op .p (.op .nc (.op .p (.op (.ld (.slice)) (.op .p (.op .p (.op .p (.op .p (.op .p (.nil))))))))))))))))))))))))))))) (.cond (.seq (.reg (.op .p (.op .p (.op .p (.nil))))) (.leaf)) (.leaf))) (.seq (.reg (.op .p (.op .nc (.op .p (.op (.ld (.slice)) (.op .p (.op .p (.op .p (.op .p (.op .sl (.op (.cl [.slice]) (.op .p (.op .p (.nil)))))))))))))) (.leaf))))))
    (by kernel_rfl) Try.func16 (by kernel_rfl) (by kernel_rfl) (by kernel_rfl) (by kernel_rfl) h

set_option maxRecDepth 100000 in
theorem disk_Disk_ReadAt_vc_nil (a1 : ByteArray) (a2 : Int) (a3 : Int) (w : World) (R : Ending → World → Prop) (h :
  Calls Try.prog 43 #[(.pointer none), (.string a1)] w fun (e15 : Ending) (w1 : World) => ∃ (t15_0 : Value) (t15_1 : Value), e15 = .returned (.tuple #[t15_0, t15_1]) ∧
  (∃ (t19 : Bool), (eqlS .neq 26 (.tmp 18) (.const .nilIface) t15_1 .nilIface).run Try.prog w1 = .ok (.bool t19) w1 ∧
    ((t19 = true →
        (R (.returned (.tuple #[(.slice none 0 0), t15_1])) w1)) ∧
      (t19 = false →
        (∃ J : Bool → World → Prop, ((((decide (a2 < (0 : Int))) || (decide (a3 < (0 : Int)))) = true →
              (J true w1)) ∧
            (((decide (a2 < (0 : Int))) || (decide (a3 < (0 : Int)))) = false →
              (∃ (t30b t30o : Nat), t15_0 = .pointer (some ⟨t30b, t30o, none⟩) ∧
                (∃ (t32a : Option Addr) (t32n : Nat) (t32c : Nat), (Instr.loadAt 22 (.pointer (some ⟨t30b, t30o, none⟩))).run Try.prog w1 = .ok (.slice t32a t32n t32c) w1 ∧
                  (((decide (a2 > ((t32n : Nat) : Int))) = true →
                      (J true w1)) ∧
                    ((decide (a2 > ((t32n : Nat) : Int))) = false →
                      (∃ (t39b t39o : Nat), t15_0 = .pointer (some ⟨t39b, t39o, none⟩) ∧
                        (∃ (t41a : Option Addr) (t41n : Nat) (t41c : Nat), (Instr.loadAt 22 (.pointer (some ⟨t39b, t39o, none⟩))).run Try.prog w1 = .ok (.slice t41a t41n t41c) w1 ∧
                          (J (decide (a3 > (IntKind.wrap .i64 (((t41n : Nat) : Int) - a2)))) w1))))))))) ∧
          (∀ (x46 : Bool), ∀ w2 : World, J x46 w2 →
            ((x46 = true →
                (R (.returned (.tuple #[(.slice none 0 0), (.iface 62 (.int .i64 7))])) w2)) ∧
              (x46 = false →
                (∃ (t49b t49o : Nat), t15_0 = .pointer (some ⟨t49b, t49o, none⟩) ∧
                  (∃ (t51a : Option Addr) (t51n : Nat) (t51c : Nat), (Instr.loadAt 22 (.pointer (some ⟨t49b, t49o, none⟩))).run Try.prog w2 = .ok (.slice t51a t51n t51c) w2 ∧
                    (0 ≤ a2 ∧ a2 ≤ (IntKind.wrap .i64 (a2 + a3)) ∧ (IntKind.wrap .i64 (a2 + a3)) ≤ ((t51c : Nat) : Int) ∧ ∀ t56a : Option Addr, SubA 1 t51a (Int.toNat a2) t51c t56a →
                      (Calls Try.prog 44 #[(.slice t56a ((Int.toNat (IntKind.wrap .i64 (a2 + a3))) - (Int.toNat a2)) (t51c - (Int.toNat a2)))] w2 fun (e57 : Ending) (w3 : World) => ∃ (t57a : Option Addr) (t57n : Nat) (t57c : Nat), e57 = .returned (.slice t57a t57n t57c) ∧
                        (R (.returned (.tuple #[(.slice t57a t57n t57c), .nilIface])) w3))))))))))))) : Calls Try.prog 16 #[(.pointer none), (.string a1), (.int .i64 a2), (.int .i64 a3)] w R :=
  calls_of_ev (args := [(.pointer none), (.string a1), (.int .i64 a2), (.int .i64 a3)])
    (tc := .seq (.reg (.op .p (.op .p (.nil)))) (.seq (.reg (.op .p (.op .p (.op (.cl [.val, .val]) (.op .p (.op .p (.op .p (.op .p (.op .p (.nil)))))))))) (.seq (.seq (.reg (.op .p (.op (.ld (.bool)) (.nil)))) (.cond (.seq (.reg (.op .p (.op .p (.op .p (.nil))))) (.leaf)) (.leaf))) (.seq (.seq (.join [21, 22, 23, 24, 25, 26, 27, 28, 29, 30, 31, 32, 33, 34, 35, 36, 37, 38, 39, 40, 41, 42, 43, 44, 45, 46] [46] [.bool] (.reg (.op .p (.op .p (.op .p (.ap 2 (.op .p (.sp 27 (.op .p (.op .p (.op .p (.op .p (.op .p (.op .p (.op .p (.op .p (.op .p (.op .p (.op .p (.op .p (.op .p (.op .p (.op .p (.op .p (.op .p (.op .p (.op .p (.nil)))))))))))))))))))) (.op .p (.op .p (.op .nc (.op .p (.op (.ld (.slice)) (.op .p (.op .p (.op .p (.op .p (.sp 36 (.op .p (.op .p (.op .p (.op .p (.op .p (.op .p (.op .p (.op .p (.op .p (.op .p (.nil))))))))))) (.op .p (.op .p (.op .nc (.op .p (.op (.ld (.slice)) (.op .p (.op .p (.op .p (.op .p (.op .p (.nil))))))))))))))))))))))))))))) (.cond (.seq (.reg (.op .p (.op .p (.op .p (.nil))))) (.leaf)) (.leaf))) (.seq (.reg (.op .p (.op .nc (.op .p (.op (.ld (.slice)) (.op .p (.op .p (.op .p (.op .p (.op .sl (.op (.cl [.slice]) (.op .p (.op .p (.nil)))))))))))))) (.leaf))))))
    (by kernel_rfl) Try.func16 (by kernel_rfl) (by kernel_rfl) (by kernel_rfl) (by kernel_rfl) h

set_option maxRecDepth 100000 in
theorem disk_Disk_List_vc (a0b : Nat) (a0o : Nat) (w : World) (R : Ending → World → Prop) (h :
  ∃ (t8 : Value), (Instr.loadAt 77 (.pointer (some ⟨a0b, a0o + 6, none⟩))).run Try.prog w = .ok t8 w ∧
  (Calls Try.prog 46 #[t8] w fun (e9 : Ending) (w1 : World) => ∃ (t9 : Value), e9 = .returned t9 ∧
    (Calls Try.prog 45 #[t9] w1 fun (e10 : Ending) (w2 : World) => ∃ (t10a : Option Addr) (t10n : Nat) (t10c : Nat), e10 = .returned (.slice t10a t10n t10c) ∧
      (R (.returned (.slice t10a t10n t10c)) w2)))) : Calls Try.prog 18 #[(.pointer (some ⟨a0b, a0o, none⟩))] w R :=
  calls_of_ev (args := [(.pointer (some ⟨a0b, a0o, none⟩))])
    (tc := .seq (.reg (.op .p (.nil))) (.seq (.seq (.reg (.op .p (.op .p (.nil)))) (.cf (.leaf))) (.seq (.reg (.op .p (.op .p (.op .p (.op (.ld (.val)) (.op (.cl [.val]) (.op (.cl [.slice]) (.op .p (.nil))))))))) (.leaf))))
    (by kernel_rfl) Try.func18 (by kernel_rfl) (by kernel_rfl) (by kernel_rfl) (by kernel_rfl) h

set_option maxRecDepth 100000 in
theorem disk_Disk_List_vc_nil  (w : World) (R : Ending → World → Prop) (h :
  R (.returned (.slice none 0 0)) w) : Calls Try.prog 18 #[(.pointer none)] w R :=
  calls_of_ev (args := [(.pointer none)])
    (tc := .seq (.reg (.op .p (.nil))) (.seq (.seq (.reg (.op .p (.op .p (.nil)))) (.ct (.seq (.reg (.op .p (.nil))) (.leaf)))) (.leaf)))
    (by kernel_rfl) Try.func18 (by kernel_rfl) (by kernel_rfl) (by kernel_rfl) (by kernel_rfl) h

set_option maxRecDepth 100000 in
theorem disk_Disk_Files_vc (a0b : Nat) (a0o : Nat) (w : World) (R : Ending → World → Prop) (h :
  Calls Try.prog 18 #[(.pointer (some ⟨a0b, a0o, none⟩))] w fun (e7 : Ending) (w1 : World) => ∃ (t7a : Option Addr) (t7n : Nat) (t7c : Nat), e7 = .returned (.slice t7a t7n t7c) ∧
  (∃ (I : Option Addr → Nat → Nat → Int → World → Prop) (μ : Option Addr → Nat → Nat → Int → World → Nat), I none 0 0 0 w1 ∧
    (∀ (x3a : Option Addr) (x3n : Nat) (x3c : Nat) (x9 : Int), ∀ w2 : World, I x3a x3n x3c x9 w2 →
      (((decide (x9 < ((t7n : Nat) : Int))) = true →
          (∃ (t11b t11o : Nat), t7a = some ⟨t11b, t11o, none⟩ ∧ 0 ≤ x9 ∧ x9 < ((t7n : Nat) : Int) ∧
            (∃ (t12 : ByteArray), (Instr.loadAt 9 (.pointer (some ⟨t11b, t11o + Int.toNat x9 * 1, none⟩))).run Try.prog w2 = .ok (.string t12) w2 ∧
              (∃ (t18 : Value), (Instr.loadAt 77 (.pointer (some ⟨a0b, a0o + 6, none⟩))).run Try.prog w2 = .ok t18 w2 ∧
                (∃ (t20b : Nat) (t20o : Nat), (Instr.lookup 77 t18 (.string t12) false).run Try.prog w2 = .ok (.pointer (some ⟨t20b, t20o, none⟩)) w2 ∧
                  (∃ (t23a : Option Addr) (t23n : Nat) (t23c : Nat), (Instr.loadAt 22 (.pointer (some ⟨t20b, t20o, none⟩))).run Try.prog w2 = .ok (.slice t23a t23n t23c) w2 ∧
                    (Calls Try.prog 44 #[(.slice t23a t23n t23c)] w2 fun (e24 : Ending) (w3 : World) => ∃ (t24a : Option Addr) (t24n : Nat) (t24c : Nat), e24 = .returned (.slice t24a t24n t24c) ∧
                      (∃ (t25 : Array Value), (Instr.build 42 #[(0, (.string t12)), (1, (.slice t24a t24n t24c))]).run Try.prog w3 = .ok (.agg t25) w3 ∧
                        (∃ (t26a : Option Addr) (t26n : Nat) (t26c : Nat) (w4 : World), (Instr.buildSlice 37 1 #[(0, (.agg t25))]).run Try.prog w3 = .ok (.slice t26a t26n t26c) w4 ∧
                          (∃ (t27a : Option Addr) (t27n : Nat) (t27c : Nat) (w5 : World), (Builtin.append_ #[37, 37] 37 #[(.slice x3a x3n x3c), (.slice t26a t26n t26c)]).run Try.prog w4 = .ok (.slice t27a t27n t27c) w5 ∧
                            (I t27a t27n t27c (IntKind.wrap .i64 (x9 + (1 : Int))) w5 ∧ μ t27a t27n t27c (IntKind.wrap .i64 (x9 + (1 : Int))) w5 < μ x3a x3n x3c x9 w2))))))))))) ∧
        ((decide (x9 < ((t7n : Nat) : Int))) = false →
          (R (.returned (.slice x3a x3n x3c)) w2)))))) : Calls Try.prog 17 #[(.pointer (some ⟨a0b, a0o, none⟩))] w R :=
  calls_of_ev (args := [(.pointer (some ⟨a0b, a0o, none⟩))])
    (tc := .seq (.reg (.op .p (.nil))) (.seq (.reg (.op .p (.nil))) (.seq (.seq (.reg (.op .p (.op (.cl [.slice]) (.op .p (.op .p (.nil)))))) (.blk (.loop [3, 5, 9, 10, 11, 12, 13, 14, 15, 16, 17, 18, 19, 20, 21, 22, 23, 24, 25, 26, 27, 28] [3, 9] [.slice, .int .i64] (.seq (.reg (.op .p (.nil))) (.seq (.cond (.leaf) (.leaf)) (.seq (.blk (.seq (.reg (.op .ix (.op (.ld (.str)) (.op .p (.nil))))) (.reg (.op .p (.op .p (.op .p (.op .p (.op .p (.op (.ld (.val)) (.op .p (.op (.ld (.ptr)) (.op .p (.op .p (.op (.ld (.slice)) (.op (.cl [.slice]) (.op (.ld (.agg)) (.op (.r (.slice)) (.op (.r (.slice)) (.op .p (.nil)))))))))))))))))))) (.reg (.op .p (.op .p (.nil)))))))))) (.seq (.reg (.op .p (.op .p (.nil)))) (.leaf)))))
    (by kernel_rfl) Try.func17 (by kernel_rfl) (by kernel_rfl) (by kernel_rfl) (by kernel_rfl) h

set_option maxRecDepth 100000 in
theorem disk_Disk_Files_vc_nil  (w : World) (R : Ending → World → Prop) (h :
  Calls Try.prog 18 #[(.pointer none)] w fun (e7 : Ending) (w1 : World) => ∃ (t7a : Option Addr) (t7n : Nat) (t7c : Nat), e7 = .returned (.slice t7a t7n t7c) ∧
  (∃ (I : Option Addr → Nat → Nat → Int → World → Prop) (μ : Option Addr → Nat → Nat → Int → World → Nat), I none 0 0 0 w1 ∧
    (∀ (x3a : Option Addr) (x3n : Nat) (x3c : Nat) (x9 : Int), ∀ w2 : World, I x3a x3n x3c x9 w2 →
      (((decide (x9 < ((t7n : Nat) : Int))) = true →
          (∃ (t11b t11o : Nat), t7a = some ⟨t11b, t11o, none⟩ ∧ 0 ≤ x9 ∧ x9 < ((t7n : Nat) : Int) ∧
            (∃ (t12 : ByteArray), (Instr.loadAt 9 (.pointer (some ⟨t11b, t11o + Int.toNat x9 * 1, none⟩))).run Try.prog w2 = .ok (.string t12) w2 ∧
              (False)))) ∧
        ((decide (x9 < ((t7n : Nat) : Int))) = false →
          (R (.returned (.slice x3a x3n x3c)) w2)))))) : Calls Try.prog 17 #[(.pointer none)] w R :=
  calls_of_ev (args := [(.pointer none)])
    (tc := .seq (.reg (.op .p (.nil))) (.seq (.reg (.op .p (.nil))) (.seq (.seq (.reg (.op .p (.op (.cl [.slice]) (.op .p (.op .p (.nil)))))) (.blk (.loop [3, 5, 9, 10, 11, 12, 13, 14, 15, 16, 17, 18, 19, 20, 21, 22, 23, 24, 25, 26, 27, 28] [3, 9] [.slice, .int .i64] (.seq (.reg (.op .p (.nil))) (.seq (.cond (.leaf) (.leaf)) (.seq (.blk (.seq (.reg (.op .ix (.op (.ld (.str)) (.op .p (.nil))))) (.reg (.op .p (.op .p (.op .p (.op .p (.nil)))))))) (.leaf))))))) (.seq (.reg (.op .p (.op .p (.nil)))) (.leaf)))))
    (by kernel_rfl) Try.func17 (by kernel_rfl) (by kernel_rfl) (by kernel_rfl) (by kernel_rfl) h

set_option maxRecDepth 100000 in
theorem disk_Disk_Used_vc (a0b : Nat) (a0o : Nat) (w : World) (R : Ending → World → Prop) (h :
  ∃ (t11 : Value), (Instr.loadAt 77 (.pointer (some ⟨a0b, a0o + 6, none⟩))).run Try.prog w = .ok t11 w ∧
  (∃ (t12 : Value) (w1 : World), (Instr.range 77 t11).run Try.prog w = .ok t12 w1 ∧
    (∃ (I : Int → World → Prop) (μ : Int → World → Nat), I 0 w1 ∧
      (∀ (x3 : Int), ∀ w2 : World, I x3 w2 →
        (∃ (t13b : Bool) (t13r : List Value) (w3 : World), (Instr.next t12 false 0).run Try.prog w2 = .ok (.tuple ⟨.bool t13b :: t13r⟩) w3 ∧
          ((t13b = true →
              (∃ (t15_0 : Value) (t15_1b : Nat) (t15_1o : Nat) (w4 : World), (Instr.entry t12).run Try.prog w3 = .ok (.tuple #[t15_0, (.pointer (some ⟨t15_1b, t15_1o, none⟩))]) w4 ∧
                (∃ (t21a : Option Addr) (t21n : Nat) (t21c : Nat), (Instr.loadAt 22 (.pointer (some ⟨t15_1b, t15_1o, none⟩))).run Try.prog w4 = .ok (.slice t21a t21n t21c) w4 ∧
                  (I (IntKind.wrap .i64 (x3 + ((t21n : Nat) : Int))) w4 ∧ μ (IntKind.wrap .i64 (x3 + ((t21n : Nat) : Int))) w4 < μ x3 w2)))) ∧
            (t13b = false →
              (R (.returned (.int .i64 x3)) w3)))))))) : Calls Try.prog 39 #[(.pointer (some ⟨a0b, a0o, none⟩))] w R :=
  calls_of_ev (args := [(.pointer (some ⟨a0b, a0o, none⟩))])
    (tc := .seq (.reg (.op .p (.nil))) (.seq (.seq (.reg (.op .p (.op .p (.nil)))) (.cf (.leaf))) (.seq (.reg (.op .p (.nil))) (.seq (.seq (.reg (.op .p (.op .p (.op .p (.op (.ld (.val)) (.op (.r (.val)) (.nil))))))) (.blk (.loop [3, 5, 13, 14, 15, 16, 17, 18, 19, 20, 21, 22, 23] [3] [.int .i64] (.seq (.reg (.op .nx (.op .p (.nil)))) (.seq (.cond (.leaf) (.leaf)) (.blk (.seq (.reg (.op (.rt [.val, .ptr]) (.op .p (.op .p (.nil))))) (.reg (.op .p (.op .p (.op .p (.op .p (.op (.ld (.slice)) (.op .p (.op .p (.op .p (.nil))))))))))))))))) (.seq (.reg (.op .p (.op .p (.nil)))) (.leaf))))))
    (by kernel_rfl) Try.func39 (by kernel_rfl) (by kernel_rfl) (by kernel_rfl) (by kernel_rfl) h

set_option maxRecDepth 100000 in
theorem disk_Disk_Used_vc_nil  (w : World) (R : Ending → World → Prop) (h :
  R (.returned (.int .i64 0)) w) : Calls Try.prog 39 #[(.pointer none)] w R :=
  calls_of_ev (args := [(.pointer none)])
    (tc := .seq (.reg (.op .p (.nil))) (.seq (.seq (.reg (.op .p (.op .p (.nil)))) (.ct (.seq (.reg (.op .p (.nil))) (.leaf)))) (.leaf)))
    (by kernel_rfl) Try.func39 (by kernel_rfl) (by kernel_rfl) (by kernel_rfl) (by kernel_rfl) h

set_option maxRecDepth 100000 in
theorem disk_Disk_Steps_vc (a0b : Nat) (a0o : Nat) (w : World) (R : Ending → World → Prop) (h :
  ∃ (t9 : Int), (Instr.loadAt 3 (.pointer (some ⟨a0b, a0o, none⟩))).run Try.prog w = .ok (.int .i64 t9) w ∧
  (R (.returned (.int .i64 t9)) w)) : Calls Try.prog 23 #[(.pointer (some ⟨a0b, a0o, none⟩))] w R :=
  calls_of_ev (args := [(.pointer (some ⟨a0b, a0o, none⟩))])
    (tc := .seq (.reg (.op .p (.nil))) (.seq (.seq (.reg (.op .p (.op .p (.nil)))) (.cf (.leaf))) (.seq (.reg (.op .p (.op .p (.op .p (.op .p (.op (.ld (.int .i64)) (.op .p (.nil)))))))) (.leaf))))
    (by kernel_rfl) Try.func23 (by kernel_rfl) (by kernel_rfl) (by kernel_rfl) (by kernel_rfl) h

set_option maxRecDepth 100000 in
theorem disk_Disk_Steps_vc_nil  (w : World) (R : Ending → World → Prop) (h :
  R (.returned (.int .i64 0)) w) : Calls Try.prog 23 #[(.pointer none)] w R :=
  calls_of_ev (args := [(.pointer none)])
    (tc := .seq (.reg (.op .p (.nil))) (.seq (.seq (.reg (.op .p (.op .p (.nil)))) (.ct (.seq (.reg (.op .p (.nil))) (.leaf)))) (.leaf)))
    (by kernel_rfl) Try.func23 (by kernel_rfl) (by kernel_rfl) (by kernel_rfl) (by kernel_rfl) h

set_option maxRecDepth 100000 in
theorem disk_Disk_Down_vc (a0b : Nat) (a0o : Nat) (w : World) (R : Ending → World → Prop) (h :
  ∃ (t10 : Bool), (Instr.loadAt 4 (.pointer (some ⟨a0b, a0o + 1, none⟩))).run Try.prog w = .ok (.bool t10) w ∧
  (R (.returned (.bool t10)) w)) : Calls Try.prog 40 #[(.pointer (some ⟨a0b, a0o, none⟩))] w R :=
  calls_of_ev (args := [(.pointer (some ⟨a0b, a0o, none⟩))])
    (tc := .seq (.reg (.op .p (.nil))) (.seq (.reg (.op .p (.op .p (.op .p (.op .p (.op .p (.op .p (.op .p (.op (.ld (.bool)) (.op .p (.op .p (.nil)))))))))))) (.leaf)))
    (by kernel_rfl) Try.func40 (by kernel_rfl) (by kernel_rfl) (by kernel_rfl) (by kernel_rfl) h

set_option maxRecDepth 100000 in
theorem disk_Disk_Down_vc_nil  (w : World) (R : Ending → World → Prop) (h :
  R (.returned (.bool false)) w) : Calls Try.prog 40 #[(.pointer none)] w R :=
  calls_of_ev (args := [(.pointer none)])
    (tc := .seq (.reg (.op .p (.nil))) (.seq (.reg (.op .p (.op .p (.op .p (.op .p (.op .p (.op .p (.op .p (.op .p (.op .p (.op .p (.nil)))))))))))) (.leaf)))
    (by kernel_rfl) Try.func40 (by kernel_rfl) (by kernel_rfl) (by kernel_rfl) (by kernel_rfl) h

set_option maxRecDepth 100000 in
theorem disk_Disk_Arm_vc (a0b : Nat) (a0o : Nat) (a1 : Int) (w : World) (R : Ending → World → Prop) (h :
  ((decide (a1 < (0 : Int))) = true →
    (R (.returned (.iface 62 (.int .i64 7))) w)) ∧
  ((decide (a1 < (0 : Int))) = false →
    (∃ w1 : World, (Instr.storeAt 4 (.pointer (some ⟨a0b, a0o + 2, none⟩)) (.bool true)).run Try.prog w = .ok () w1 ∧
      (∃ w2 : World, (Instr.storeAt 3 (.pointer (some ⟨a0b, a0o + 3, none⟩)) (.int .i64 a1)).run Try.prog w1 = .ok () w2 ∧
        (R (.returned .nilIface) w2))))) : Calls Try.prog 35 #[(.pointer (some ⟨a0b, a0o, none⟩)), (.int .i64 a1)] w R :=
  calls_of_ev (args := [(.pointer (some ⟨a0b, a0o, none⟩)), (.int .i64 a1)])
    (tc := .seq (.reg (.op .p (.nil))) (.seq (.seq (.reg (.op .p (.op .p (.nil)))) (.cf (.leaf))) (.seq (.seq (.reg (.op .p (.op .p (.nil)))) (.cond (.seq (.reg (.op .p (.op .p (.nil)))) (.leaf)) (.leaf))) (.seq (.reg (.op .p (.op .p (.op .p (.op .p (.op .p (.op .p (.op .u (.op .p (.op .p (.op .p (.op .u (.nil))))))))))))) (.seq (.reg (.op .p (.nil))) (.leaf))))))
    (by kernel_rfl) Try.func35 (by kernel_rfl) (by kernel_rfl) (by kernel_rfl) (by kernel_rfl) h

set_option maxRecDepth 100000 in
theorem disk_Disk_Arm_vc_nil (a1 : Int) (w : World) (R : Ending → World → Prop) (h :
  R (.returned (.iface 62 (.int .i64 28))) w) : Calls Try.prog 35 #[(.pointer none), (.int .i64 a1)] w R :=
  calls_of_ev (args := [(.pointer none), (.int .i64 a1)])
    (tc := .seq (.reg (.op .p (.nil))) (.seq (.seq (.reg (.op .p (.op .p (.nil)))) (.ct (.seq (.reg (.op .p (.op .p (.nil)))) (.leaf)))) (.leaf)))
    (by kernel_rfl) Try.func35 (by kernel_rfl) (by kernel_rfl) (by kernel_rfl) (by kernel_rfl) h

set_option maxRecDepth 100000 in
theorem disk_Disk_Fail_vc (a0b : Nat) (a0o : Nat) (a1a : Option Addr) (a1n : Nat) (a1c : Nat) (w : World) (R : Ending → World → Prop) (h :
  Calls Try.prog 65 #[(.slice a1a a1n a1c), (.func (.func 66) #[] #[])] w fun (e9 : Ending) (w1 : World) => ∃ (t9 : Bool), e9 = .returned (.bool t9) ∧
  ((t9 = true →
      (R (.returned (.iface 62 (.int .i64 7))) w1)) ∧
    (t9 = false →
      (Calls Try.prog 67 #[(.slice a1a a1n a1c)] w1 fun (e13 : Ending) (w2 : World) => ∃ (t13a : Option Addr) (t13n : Nat) (t13c : Nat), e13 = .returned (.slice t13a t13n t13c) ∧
        (∃ w3 : World, (Instr.storeAt 48 (.pointer (some ⟨a0b, a0o + 4, none⟩)) (.slice t13a t13n t13c)).run Try.prog w2 = .ok () w3 ∧
          (R (.returned .nilIface) w3)))))) : Calls Try.prog 36 #[(.pointer (some ⟨a0b, a0o, none⟩)), (.slice a1a a1n a1c)] w R :=
  calls_of_ev (args := [(.pointer (some ⟨a0b, a0o, none⟩)), (.slice a1a a1n a1c)])
    (tc := .seq (.reg (.op .p (.nil))) (.seq (.seq (.reg (.op .p (.op .p (.nil)))) (.cf (.leaf))) (.seq (.seq (.reg (.op .p (.op (.cl [.bool]) (.nil)))) (.cond (.seq (.reg (.op .p (.op .p (.nil)))) (.leaf)) (.leaf))) (.seq (.reg (.op .p (.op .p (.op (.cl [.slice]) (.op .p (.op .p (.op .p (.op .u (.nil))))))))) (.seq (.reg (.op .p (.nil))) (.leaf))))))
    (by kernel_rfl) Try.func36 (by kernel_rfl) (by kernel_rfl) (by kernel_rfl) (by kernel_rfl) h

set_option maxRecDepth 100000 in
theorem disk_Disk_Fail_vc_nil (a1a : Option Addr) (a1n : Nat) (a1c : Nat) (w : World) (R : Ending → World → Prop) (h :
  R (.returned (.iface 62 (.int .i64 28))) w) : Calls Try.prog 36 #[(.pointer none), (.slice a1a a1n a1c)] w R :=
  calls_of_ev (args := [(.pointer none), (.slice a1a a1n a1c)])
    (tc := .seq (.reg (.op .p (.nil))) (.seq (.seq (.reg (.op .p (.op .p (.nil)))) (.ct (.seq (.reg (.op .p (.op .p (.nil)))) (.leaf)))) (.leaf)))
    (by kernel_rfl) Try.func36 (by kernel_rfl) (by kernel_rfl) (by kernel_rfl) (by kernel_rfl) h

set_option maxRecDepth 100000 in
theorem disk_Disk_Fail_1_vc (a0 : Int) (w : World) (R : Ending → World → Prop) (h :
  R (.returned (.bool (decide (a0 < (0 : Int))))) w) : Calls Try.prog 66 #[(.int .i64 a0)] w R :=
  calls_of_ev (args := [(.int .i64 a0)])
    (tc := .seq (.reg (.op .p (.nil))) (.seq (.reg (.op .p (.op .p (.op .p (.nil))))) (.leaf)))
    (by kernel_rfl) Try.func66 (by kernel_rfl) (by kernel_rfl) (by kernel_rfl) (by kernel_rfl) h

set_option maxRecDepth 100000 in
theorem disk_Disk_settle_vc (a0b : Nat) (a0o : Nat) (w : World) (R : Ending → World → Prop) (h :
  ∃ (t7 : Value), (Instr.loadAt 77 (.pointer (some ⟨a0b, a0o + 6, none⟩))).run Try.prog w = .ok t7 w ∧
  (∃ (t8 : Value) (w1 : World), (Instr.range 77 t7).run Try.prog w = .ok t8 w1 ∧
    (∃ (I : World → Prop) (μ : World → Nat), I  w1 ∧
      (∀ w2 : World, I  w2 →
        (∃ (t9b : Bool) (t9r : List Value) (w3 : World), (Instr.next t8 false 0).run Try.prog w2 = .ok (.tuple ⟨.bool t9b :: t9r⟩) w3 ∧
          ((t9b = true →
              (∃ (t11_0 : Value) (t11_1b : Nat) (t11_1o : Nat) (w4 : World), (Instr.entry t8).run Try.prog w3 = .ok (.tuple #[t11_0, (.pointer (some ⟨t11_1b, t11_1o, none⟩))]) w4 ∧
                (∃ (t17a : Option Addr) (t17n : Nat) (t17c : Nat), (Instr.loadAt 22 (.pointer (some ⟨t11_1b, t11_1o, none⟩))).run Try.prog w4 = .ok (.slice t17a t17n t17c) w4 ∧
                  (∃ w5 : World, (Instr.storeAt 3 (.pointer (some ⟨t11_1b, t11_1o + 1, none⟩)) (.int .i64 ((t17n : Nat) : Int))).run Try.prog w4 = .ok () w5 ∧
                    (I  w5 ∧ μ  w5 < μ  w2))))) ∧
            (t9b = false →
              (∃ (t25 : Value), (Instr.loadAt 77 (.pointer (some ⟨a0b, a0o + 6, none⟩))).run Try.prog w3 = .ok t25 w3 ∧
                (Calls Try.prog 47 #[t25] w3 fun (e26 : Ending) (w6 : World) => ∃ (t26 : Value), e26 = .returned t26 ∧
                  (∃ w7 : World, (Instr.storeAt 77 (.pointer (some ⟨a0b, a0o + 7, none⟩)) t26).run Try.prog w6 = .ok () w7 ∧
                    (∃ w8 : World, (Instr.storeAt 80 (.pointer (some ⟨a0b, a0o + 8, none⟩)) (.slice none 0 0)).run Try.prog w7 = .ok () w8 ∧
                      (R (.returned (.tuple #[])) w8)))))))))))) : Calls Try.prog 49 #[(.pointer (some ⟨a0b, a0o, none⟩))] w R :=
  calls_of_ev (args := [(.pointer (some ⟨a0b, a0o, none⟩))])
    (tc := .seq (.seq (.reg (.op .p (.op .p (.op .p (.op (.ld (.val)) (.op (.r (.val)) (.nil))))))) (.blk (.loop [3, 9, 10, 11, 12, 13, 14, 15, 16, 17, 18, 19, 20] [] [] (.seq (.reg (.op .nx (.op .p (.nil)))) (.seq (.cond (.leaf) (.leaf)) (.blk (.seq (.reg (.op (.rt [.val, .ptr]) (.op .p (.op .p (.nil))))) (.reg (.op .p (.op .p (.op .p (.op .p (.op (.ld (.slice)) (.op .p (.op .p (.op .p (.op .u (.nil)))))))))))))))))) (.seq (.reg (.op .p (.op .p (.op .p (.op .p (.op (.ld (.val)) (.op (.cl [.val]) (.op .p (.op .p (.op .u (.nil))))))))))) (.reg (.op .p (.op .p (.op .p (.op .u (.nil))))))))
    (by kernel_rfl) Try.func49 (by kernel_rfl) (by kernel_rfl) (by kernel_rfl) (by kernel_rfl) h

set_option maxRecDepth 100000 in
theorem disk_Disk_Crash_vc (a0b : Nat) (a0o : Nat) (a1 : Array Value) (w : World) (R : Ending → World → Prop) (h :
  ∃ (g3 : Nat) (w1 : World), (Instr.box 50 (.agg a1)).run Try.prog w = .ok (.pointer (some ⟨g3, 0, none⟩)) w1 ∧
  (∃ (t16 : Value), (Instr.loadAt 77 (.pointer (some ⟨a0b, a0o + 7, none⟩))).run Try.prog w1 = .ok t16 w1 ∧
    (Calls Try.prog 47 #[t16] w1 fun (e17 : Ending) (w2 : World) => ∃ (t17 : Value), e17 = .returned t17 ∧
      (∃ w3 : World, (Instr.storeAt 77 (.pointer (some ⟨a0b, a0o + 6, none⟩)) t17).run Try.prog w2 = .ok () w3 ∧
        (∃ S : World → Prop, S w3.drew ∧
          (∃ (t23a : Option Addr) (t23n : Nat) (t23c : Nat), (∀ w' : World, S w' → (Instr.loadAt 80 (.pointer (some ⟨a0b, a0o + 8, none⟩))).run Try.prog w' = .ok (.slice t23a t23n t23c) w') ∧
            (∃ (t25 : Int), (∀ w' : World, S w' → (Instr.loadAt 3 (.pointer (some ⟨g3, 0, none⟩))).run Try.prog w' = .ok (.int .i64 t25) w') ∧
              (∃ (t30a : Option Addr) (t30n : Nat) (t30c : Nat), (∀ w' : World, S w' → (Instr.loadAt 80 (.pointer (some ⟨a0b, a0o + 8, none⟩))).run Try.prog w' = .ok (.slice t30a t30n t30c) w') ∧
                (0 ≤ (if ((t30n : Nat) : Int) < (if t25 < (0 : Int) then (0 : Int) else t25) then ((t30n : Nat) : Int) else (if t25 < (0 : Int) then (0 : Int) else t25)) ∧ (if ((t30n : Nat) : Int) < (if t25 < (0 : Int) then (0 : Int) else t25) then ((t30n : Nat) : Int) else (if t25 < (0 : Int) then (0 : Int) else t25)) ≤ ((t23c : Nat) : Int) ∧
                  (∃ (I : Int → World → Prop) (μ : Int → World → Nat), I 0 w3.drew ∧
                    (∀ (x35 : Int), ∀ w4 : World, I x35 w4 →
                      (((decide (x35 < (((Int.toNat (if ((t30n : Nat) : Int) < (if t25 < (0 : Int) then (0 : Int) else t25) then ((t30n : Nat) : Int) else (if t25 < (0 : Int) then (0 : Int) else t25))) : Nat) : Int))) = true →
                          (∃ (t37b t37o : Nat), t23a = some ⟨t37b, t37o, none⟩ ∧ 0 ≤ x35 ∧ x35 < (((Int.toNat (if ((t30n : Nat) : Int) < (if t25 < (0 : Int) then (0 : Int) else t25) then ((t30n : Nat) : Int) else (if t25 < (0 : Int) then (0 : Int) else t25))) : Nat) : Int) ∧
                            (∃ (t38 : Array Value), (Instr.loadAt 89 (.pointer (some ⟨t37b, t37o + Int.toNat x35 * 3, none⟩))).run Try.prog w4 = .ok (.agg t38) w4 ∧
                              (∃ (g5 : Nat) (w5 : World), (Instr.alloc 89 true (.tuple #[])).run Try.prog w4 = .ok (.pointer (some ⟨g5, 0, none⟩)) w5 ∧
                                (∃ w6 : World, (Instr.storeAt 89 (.pointer (some ⟨g5, 0, none⟩)) (.agg t38)).run Try.prog w5 = .ok () w6 ∧
                                  (∃ S_1 : World → Prop, S_1 w6.drew ∧
                                    (∃ (t42 : Value), (∀ w' : World, S_1 w' → (Instr.loadAt 77 (.pointer (some ⟨a0b, a0o + 6, none⟩))).run Try.prog w' = .ok t42 w') ∧
                                      (∃ (t43 : Array Value), (∀ w' : World, S_1 w' → (Instr.loadAt 89 (.pointer (some ⟨g5, 0, none⟩))).run Try.prog w' = .ok (.agg t43) w') ∧
                                        (Calls Try.prog 48 #[t42, (.agg t43)] w6.drew fun (e44 : Ending) (w7 : World) => e44 = .returned (.tuple #[]) ∧
                                          (∃ S_2 : World → Prop, (∀ w' : World, S_2 w' → S_1 w') ∧ S_2 w7 ∧
                                            (I (IntKind.wrap .i64 (x35 + (1 : Int))) w7 ∧ μ (IntKind.wrap .i64 (x35 + (1 : Int))) w7 < μ x35 w4))))))))))) ∧
                        ((decide (x35 < (((Int.toNat (if ((t30n : Nat) : Int) < (if t25 < (0 : Int) then (0 : Int) else t25) then ((t30n : Nat) : Int) else (if t25 < (0 : Int) then (0 : Int) else t25))) : Nat) : Int))) = false →
                          (Calls Try.prog 18 #[(.pointer (some ⟨a0b, a0o, none⟩))] w4 fun (e47 : Ending) (w8 : World) => ∃ (t47a : Option Addr) (t47n : Nat) (t47c : Nat), e47 = .returned (.slice t47a t47n t47c) ∧
                            (∃ (I_1 : Int → World → Prop) (μ_1 : Int → World → Nat), I_1 0 w8 ∧
                              (∀ (x49 : Int), ∀ w9 : World, I_1 x49 w9 →
                                (((decide (x49 < ((t47n : Nat) : Int))) = true →
                                    (∃ (t52b t52o : Nat), t47a = some ⟨t52b, t52o, none⟩ ∧ 0 ≤ x49 ∧ x49 < ((t47n : Nat) : Int) ∧
                                      (∃ (t53 : ByteArray), (Instr.loadAt 9 (.pointer (some ⟨t52b, t52o + Int.toNat x49 * 1, none⟩))).run Try.prog w9 = .ok (.string t53) w9 ∧
                                        (∃ (t57 : Value), (Instr.loadAt 77 (.pointer (some ⟨a0b, a0o + 6, none⟩))).run Try.prog w9 = .ok t57 w9 ∧
                                          (∃ (t59b : Nat) (t59o : Nat), (Instr.lookup 77 t57 (.string t53) false).run Try.prog w9 = .ok (.pointer (some ⟨t59b, t59o, none⟩)) w9 ∧
                                            (∃ (t62a : Option Addr) (t62n : Nat) (t62c : Nat), (Instr.loadAt 48 (.pointer (some ⟨g3, 1, none⟩))).run Try.prog w9 = .ok (.slice t62a t62n t62c) w9 ∧
                                              (∃ J : Int → World → Prop, (((decide (x49 < ((t62n : Nat) : Int))) = true →
                                                    (∃ (t66a : Option Addr) (t66n : Nat) (t66c : Nat), (Instr.loadAt 48 (.pointer (some ⟨g3, 1, none⟩))).run Try.prog w9 = .ok (.slice t66a t66n t66c) w9 ∧
                                                      (∃ (t68b t68o : Nat), t66a = some ⟨t68b, t68o, none⟩ ∧ 0 ≤ x49 ∧ x49 < ((t66n : Nat) : Int) ∧
                                                        (∃ (t69 : Int), (Instr.loadAt 3 (.pointer (some ⟨t68b, t68o + Int.toNat x49 * 1, none⟩))).run Try.prog w9 = .ok (.int .i64 t69) w9 ∧
                                                          (J (if t69 < (0 : Int) then (0 : Int) else t69) w9))))) ∧
                                                  ((decide (x49 < ((t62n : Nat) : Int))) = false →
                                                    (J 0 w9))) ∧
                                                (∀ (x9 : Int), ∀ w10 : World, J x9 w10 →
                                                  (∃ S_1 : World → Prop, S_1 w10.drew ∧
                                                    (∃ (t75a : Option Addr) (t75n : Nat) (t75c : Nat), (∀ w' : World, S_1 w' → (Instr.loadAt 22 (.pointer (some ⟨t59b, t59o, none⟩))).run Try.prog w' = .ok (.slice t75a t75n t75c) w') ∧
                                                      (∃ (t79 : Int), (∀ w' : World, S_1 w' → (Instr.loadAt 3 (.pointer (some ⟨t59b, t59o + 1, none⟩))).run Try.prog w' = .ok (.int .i64 t79) w') ∧
                                                        (∃ (t84a : Option Addr) (t84n : Nat) (t84c : Nat), (∀ w' : World, S_1 w' → (Instr.loadAt 22 (.pointer (some ⟨t59b, t59o, none⟩))).run Try.prog w' = .ok (.slice t84a t84n t84c) w') ∧
                                                          (∃ (t89 : Int), (∀ w' : World, S_1 w' → (Instr.loadAt 3 (.pointer (some ⟨t59b, t59o + 1, none⟩))).run Try.prog w' = .ok (.int .i64 t89) w') ∧
                                                            (0 ≤ (IntKind.wrap .i64 (t79 + (if (IntKind.wrap .i64 (((t84n : Nat) : Int) - t89)) < x9 then (IntKind.wrap .i64 (((t84n : Nat) : Int) - t89)) else x9))) ∧ (IntKind.wrap .i64 (t79 + (if (IntKind.wrap .i64 (((t84n : Nat) : Int) - t89)) < x9 then (IntKind.wrap .i64 (((t84n : Nat) : Int) - t89)) else x9))) ≤ ((t75c : Nat) : Int) ∧
                                                              (∃ w11 : World, (Instr.storeAt 22 (.pointer (some ⟨t59b, t59o, none⟩)) (.slice t75a (Int.toNat (IntKind.wrap .i64 (t79 + (if (IntKind.wrap .i64 (((t84n : Nat) : Int) - t89)) < x9 then (IntKind.wrap .i64 (((t84n : Nat) : Int) - t89)) else x9)))) t75c)).run Try.prog w10.drew = .ok () w11 ∧
                                                                (I_1 (IntKind.wrap .i64 (x49 + (1 : Int))) w11 ∧ μ_1 (IntKind.wrap .i64 (x49 + (1 : Int))) w11 < μ_1 x49 w9)))))))))))))))) ∧
                                  ((decide (x49 < ((t47n : Nat) : Int))) = false →
                                    (Calls Try.prog 49 #[(.pointer (some ⟨a0b, a0o, none⟩))] w9 fun (e98 : Ending) (w12 : World) => e98 = .returned (.tuple #[]) ∧
                                      (∃ (t104 : Int), (Instr.loadAt 3 (.pointer (some ⟨a0b, a0o, none⟩))).run Try.prog w12 = .ok (.int .i64 t104) w12 ∧
                                        (∃ (t105 : Array Value), (Instr.build 79 #[(0, (.int .i64 t104))]).run Try.prog w12 = .ok (.agg t105) w12 ∧
                                          (∃ w13 : World, (Instr.storeAt 79 (.pointer (some ⟨a0b, a0o, none⟩)) (.agg t105)).run Try.prog w12 = .ok () w13 ∧
                                            (R (.returned (.tuple #[])) w13))))))))))))))))))))))) : Calls Try.prog 25 #[(.pointer (some ⟨a0b, a0o, none⟩)), (.agg a1)] w R :=
  calls_of_ev (args := [(.pointer (some ⟨a0b, a0o, none⟩)), (.agg a1)])
    (tc := .seq (.reg (.op .bx (.nil))) (.seq (.seq (.reg (.op .p (.op .p (.nil)))) (.cf (.leaf))) (.seq (.reg (.op .p (.op .p (.op .p (.op .p (.op (.ld (.val)) (.op (.cl [.val]) (.op .p (.op .p (.op .u (.nil))))))))))) (.seq (.seq (.drawS (.tk 0 .p (.tk 1 .p (.tk 2 .p (.tk 4 .p (.tk 7 .p (.tk 8 .p (.tk 9 .p (.tk 15 .p (.ts 3 (.slice) (.ts 5 (.int .i64) (.tk 6 .p (.ts 10 (.slice) (.tk 11 .p (.tk 12 .p (.tk 13 .sl (.tk 14 .p (.nil))))))))))))))))) []) (.blk (.loop [5, 35, 36, 37, 38, 39, 40, 41, 42, 43, 44, 45] [35] [.int .i64] (.seq (.reg (.op .p (.nil))) (.seq (.cond (.leaf) (.leaf)) (.seq (.blk (.seq (.reg (.op .ix (.op (.ld (.agg)) (.op .bx (.op .u (.nil)))))) (.drawS (.tk 0 .p (.tk 1 .p (.tk 2 .p (.ts 3 (.val) (.ts 4 (.agg) (.go 5 (.cl []) (.nil))))))) []))) (.reg (.op .p (.op .p (.nil)))))))))) (.seq (.seq (.reg (.op .p (.op (.cl [.slice]) (.op .p (.op .p (.nil)))))) (.blk (.loop [6, 7, 8, 9, 49, 50, 51, 52, 53, 54, 55, 56, 57, 58, 59, 60, 61, 62, 63, 64, 65, 66, 67, 68, 69, 70, 71, 72, 73, 74, 75, 76, 77, 78, 79, 80, 81, 82, 83, 84, 85, 86, 87, 88, 89, 90, 91, 92, 93, 94, 95, 96] [49] [.int .i64] (.seq (.reg (.op .p (.nil))) (.seq (.cond (.leaf) (.leaf)) (.seq (.blk (.seq (.reg (.op .p (.op .ix (.op (.ld (.str)) (.op .p (.op .p (.nil))))))) (.seq (.reg (.op .p (.op .p (.op .p (.op (.ld (.val)) (.op .p (.op (.ld (.ptr)) (.op .p (.op .p (.nil)))))))))) (.seq (.seq (.reg (.op .p (.op .p (.op (.ld (.slice)) (.op .p (.op .p (.nil))))))) (.join [9, 65, 66, 67, 68, 69, 70] [9] [.int .i64] (.cond (.reg (.op .p (.op (.ld (.slice)) (.op .p (.op .ix (.op (.ld (.int .i64)) (.op .p (.op .p (.nil))))))))) (.leaf)))) (.drawS (.tk 0 .p (.tk 1 .p (.tk 2 .p (.tk 3 .p (.tk 5 .p (.tk 6 .p (.tk 7 .p (.tk 9 .p (.tk 10 .p (.tk 11 .p (.tk 12 .p (.tk 15 .p (.tk 16 .p (.tk 17 .p (.ts 4 (.slice) (.ts 8 (.int .i64) (.ts 13 (.slice) (.tk 14 .p (.ts 18 (.int .i64) (.tk 19 .p (.tk 20 .p (.tk 21 .p (.tk 22 .sl (.tk 23 .p (.tk 24 .p (.go 25 .u (.nil))))))))))))))))))))))))))) [25]))))) (.reg (.op .p (.op .p (.nil)))))))))) (.seq (.reg (.op .p (.op (.cl []) (.nil)))) (.reg (.op .p (.op .p (.op .p (.op .p (.op .p (.op (.ld (.int .i64)) (.op (.ld (.agg)) (.op .p (.op .p (.op .u (.nil))))))))))))))))))
    (by kernel_rfl) Try.func25 (by kernel_rfl) (by kernel_rfl) (by kernel_rfl) (by kernel_rfl) h

set_option maxRecDepth 100000 in
theorem disk_Disk_Crash_vc_nil (a1 : Array Value) (w : World) (R : Ending → World → Prop) (h :
  ∃ (g3 : Nat) (w1 : World), (Instr.box 50 (.agg a1)).run Try.prog w = .ok (.pointer (some ⟨g3, 0, none⟩)) w1 ∧
  (R (.returned (.tuple #[])) w1)) : Calls Try.prog 25 #[(.pointer none), (.agg a1)] w R :=
  calls_of_ev (args := [(.pointer none), (.agg a1)])
    (tc := .seq (.reg (.op .bx (.nil))) (.seq (.seq (.reg (.op .p (.op .p (.nil)))) (.ct (.leaf))) (.leaf)))
    (by kernel_rfl) Try.func25 (by kernel_rfl) (by kernel_rfl) (by kernel_rfl) (by kernel_rfl) h

set_option maxRecDepth 100000 in
theorem disk_Disk_Put_vc (a0b : Nat) (a0o : Nat) (a1 : ByteArray) (a2a : Option Addr) (a2n : Nat) (a2c : Nat) (w : World) (R : Ending → World → Prop) (h :
  Calls Try.prog 68 #[(.string a1)] w fun (e13 : Ending) (w1 : World) => ∃ (t13 : Bool), e13 = .returned (.bool t13) ∧
  (((!t13) = true →
      (R (.returned (.iface 62 (.int .i64 6))) w1)) ∧
    ((!t13) = false →
      (∃ (t20 : Value), (Instr.loadAt 77 (.pointer (some ⟨a0b, a0o + 6, none⟩))).run Try.prog w1 = .ok t20 w1 ∧
        (∃ (t22_0 : Value) (t22_1 : Bool) (w2 : World), (Instr.lookup 77 t20 (.string a1) true).run Try.prog w1 = .ok (.tuple #[t22_0, (.bool t22_1)]) w2 ∧
          (∃ J : Bool → World → Prop, (((!t22_1) = true →
                (∃ (t31 : Value), (Instr.loadAt 77 (.pointer (some ⟨a0b, a0o + 6, none⟩))).run Try.prog w2 = .ok t31 w2 ∧
                  (∃ (t32 : Int) (w3 : World), (Builtin.len_ #[77] 3 #[t31]).run Try.prog w2 = .ok (.int .i64 t32) w3 ∧
                    (J (decide (t32 ≥ (4096 : Int))) w3)))) ∧
              ((!t22_1) = false →
                (J false w2))) ∧
            (∀ (x34 : Bool), ∀ w4 : World, J x34 w4 →
              ((x34 = true →
                  (R (.returned (.iface 62 (.int .i64 19))) w4)) ∧
                (x34 = false →
                  (∃ S : World → Prop, S w4.drew ∧
                    (∃ (t39 : Value), (∀ w' : World, S w' → (Instr.loadAt 77 (.pointer (some ⟨a0b, a0o + 6, none⟩))).run Try.prog w' = .ok t39 w') ∧
                      (Calls Try.prog 44 #[(.slice a2a a2n a2c)] w4.drew fun (e42 : Ending) (w5 : World) => ∃ (t42a : Option Addr) (t42n : Nat) (t42c : Nat), e42 = .returned (.slice t42a t42n t42c) ∧
                        (∃ S_1 : World → Prop, (∀ w' : World, S_1 w' → S w') ∧ S_1 w5 ∧
                          (∃ (t43 : Array Value), (∀ w' : World, S_1 w' → (Instr.build 87 #[(0, (.slice t42a t42n t42c))]).run Try.prog w' = .ok (.agg t43) w') ∧
                            (∃ (g44 : Nat) (w6 : World), (Instr.box 87 (.agg t43)).run Try.prog w5 = .ok (.pointer (some ⟨g44, 0, none⟩)) w6 ∧
                              (∃ S_2 : World → Prop, (∀ w' : World, S_2 w' → S_1 w') ∧ S_2 w6 ∧
                                (∃ w7 : World, (Instr.mapUpdate 77 t39 (.string a1) (.pointer (some ⟨g44, 0, none⟩))).run Try.prog w6 = .ok () w7 ∧
                                  (∃ S_3 : World → Prop, (∀ w' : World, S_3 w' → S_2 w') ∧ S_3 w7 ∧
                                    (Calls Try.prog 49 #[(.pointer (some ⟨a0b, a0o, none⟩))] w7 fun (e46 : Ending) (w8 : World) => e46 = .returned (.tuple #[]) ∧
                                      (R (.returned .nilIface) w8)))))))))))))))))))) : Calls Try.prog 37 #[(.pointer (some ⟨a0b, a0o, none⟩)), (.string a1), (.slice a2a a2n a2c)] w R :=
  calls_of_ev (args := [(.pointer (some ⟨a0b, a0o, none⟩)), (.string a1), (.slice a2a a2n a2c)])
    (tc := .seq (.reg (.op .p (.nil))) (.seq (.seq (.reg (.op .p (.op .p (.nil)))) (.cf (.leaf))) (.seq (.seq (.reg (.op .p (.op (.cl [.bool]) (.op .p (.nil))))) (.cond (.seq (.reg (.op .p (.op .p (.nil)))) (.leaf)) (.leaf))) (.seq (.seq (.reg (.op .p (.op .p (.op .p (.op (.ld (.val)) (.op .p (.op (.rt [.val, .bool]) (.op .p (.op .p (.op .p (.op .p (.op .p (.nil))))))))))))) (.seq (.join [25, 26, 27, 28, 29, 30, 31, 32, 33, 34] [34] [.bool] (.reg (.op .p (.op .p (.op .p (.sp 27 (.op .p (.op .p (.op .p (.op (.ld (.val)) (.op (.r (.int .i64)) (.op .p (.op .p (.nil)))))))) (.op .p (.op .p (.op .p (.op .p (.op .p (.op .p (.op .p (.nil)))))))))))))) (.cond (.seq (.reg (.op .p (.op .p (.nil)))) (.leaf)) (.leaf)))) (.seq (.drawS (.tk 0 .p (.tk 1 .p (.tk 2 .p (.tk 4 .p (.tk 5 .p (.ts 3 (.val) (.go 6 (.cl [.slice]) (.ts 7 (.agg) (.go 8 .bx (.go 9 .u (.nil))))))))))) []) (.seq (.reg (.op .p (.op (.cl []) (.nil)))) (.seq (.reg (.op .p (.nil))) (.leaf))))))))
    (by kernel_rfl) Try.func37 (by kernel_rfl) (by kernel_rfl) (by kernel_rfl) (by kernel_rfl) h

set_option maxRecDepth 100000 in
theorem disk_Disk_Put_vc_nil (a1 : ByteArray) (a2a : Option Addr) (a2n : Nat) (a2c : Nat) (w : World) (R : Ending → World → Prop) (h :
  R (.returned (.iface 62 (.int .i64 28))) w) : Calls Try.prog 37 #[(.pointer none), (.string a1), (.slice a2a a2n a2c)] w R :=
  calls_of_ev (args := [(.pointer none), (.string a1), (.slice a2a a2n a2c)])
    (tc := .seq (.reg (.op .p (.nil))) (.seq (.seq (.reg (.op .p (.op .p (.nil)))) (.ct (.seq (.reg (.op .p (.op .p (.nil)))) (.leaf)))) (.leaf)))
    (by kernel_rfl) Try.func37 (by kernel_rfl) (by kernel_rfl) (by kernel_rfl) (by kernel_rfl) h

set_option maxRecDepth 100000 in
theorem disk_Disk_Drop_vc (a0b : Nat) (a0o : Nat) (a1 : ByteArray) (w : World) (R : Ending → World → Prop) (h :
  Calls Try.prog 68 #[(.string a1)] w fun (e11 : Ending) (w1 : World) => ∃ (t11 : Bool), e11 = .returned (.bool t11) ∧
  (((!t11) = true →
      (R (.returned (.iface 62 (.int .i64 6))) w1)) ∧
    ((!t11) = false →
      (∃ (t18 : Value), (Instr.loadAt 77 (.pointer (some ⟨a0b, a0o + 6, none⟩))).run Try.prog w1 = .ok t18 w1 ∧
        (∃ (t20_0 : Value) (t20_1 : Bool) (w2 : World), (Instr.lookup 77 t18 (.string a1) true).run Try.prog w1 = .ok (.tuple #[t20_0, (.bool t20_1)]) w2 ∧
          (((!t20_1) = true →
              (R (.returned (.iface 62 (.int .i64 5))) w2)) ∧
            ((!t20_1) = false →
              (∃ (t29 : Value), (Instr.loadAt 77 (.pointer (some ⟨a0b, a0o + 6, none⟩))).run Try.prog w2 = .ok t29 w2 ∧
                (∃ (tNone : Value) (w3 : World), (Builtin.delete_ #[77, 9] 0 #[t29, (.string a1)]).run Try.prog w2 = .ok tNone w3 ∧
                  (Calls Try.prog 49 #[(.pointer (some ⟨a0b, a0o, none⟩))] w3 fun (e32 : Ending) (w4 : World) => e32 = .returned (.tuple #[]) ∧
                    (R (.returned .nilIface) w4))))))))))) : Calls Try.prog 38 #[(.pointer (some ⟨a0b, a0o, none⟩)), (.string a1)] w R :=
  calls_of_ev (args := [(.pointer (some ⟨a0b, a0o, none⟩)), (.string a1)])
    (tc := .seq (.reg (.op .p (.nil))) (.seq (.seq (.reg (.op .p (.op .p (.nil)))) (.cf (.leaf))) (.seq (.seq (.reg (.op .p (.op (.cl [.bool]) (.op .p (.nil))))) (.cond (.seq (.reg (.op .p (.op .p (.nil)))) (.leaf)) (.leaf))) (.seq (.seq (.reg (.op .p (.op .p (.op .p (.op (.ld (.val)) (.op .p (.op (.rt [.val, .bool]) (.op .p (.op .p (.op .p (.op .p (.op .p (.nil))))))))))))) (.seq (.reg (.op .p (.op .p (.nil)))) (.cond (.seq (.reg (.op .p (.op .p (.nil)))) (.leaf)) (.leaf)))) (.seq (.reg (.op .p (.op .p (.op .p (.op (.ld (.val)) (.op .p (.op (.r (.val)) (.nil)))))))) (.seq (.reg (.op .p (.op (.cl []) (.nil)))) (.seq (.reg (.op .p (.nil))) (.leaf))))))))
    (by kernel_rfl) Try.func38 (by kernel_rfl) (by kernel_rfl) (by kernel_rfl) (by kernel_rfl) h

set_option maxRecDepth 100000 in
theorem disk_Disk_Drop_vc_nil (a1 : ByteArray) (w : World) (R : Ending → World → Prop) (h :
  R (.returned (.iface 62 (.int .i64 28))) w) : Calls Try.prog 38 #[(.pointer none), (.string a1)] w R :=
  calls_of_ev (args := [(.pointer none), (.string a1)])
    (tc := .seq (.reg (.op .p (.nil))) (.seq (.seq (.reg (.op .p (.op .p (.nil)))) (.ct (.seq (.reg (.op .p (.op .p (.nil)))) (.leaf)))) (.leaf)))
    (by kernel_rfl) Try.func38 (by kernel_rfl) (by kernel_rfl) (by kernel_rfl) (by kernel_rfl) h

set_option maxRecDepth 100000 in
theorem slices_Clone_int_int_vc (a0a : Option Addr) (a0n : Nat) (a0c : Nat) (w : World) (R : Ending → World → Prop) (h :
  (a0a.isNone = true →
    (R (.returned (.slice none 0 0)) w)) ∧
  (a0a.isNone = false →
    (∃ (t5a : Option Addr) (t5n : Nat) (t5c : Nat) (w1 : World), (Instr.buildSlice 48 0 #[]).run Try.prog w = .ok (.slice t5a t5n t5c) w1 ∧
      (∃ (t7a : Option Addr) (t7n : Nat) (t7c : Nat) (w2 : World), (Builtin.append_ #[48, 48] 48 #[(.slice t5a t5n t5c), (.slice a0a a0n a0c)]).run Try.prog w1 = .ok (.slice t7a t7n t7c) w2 ∧
        (R (.returned (.slice t7a t7n t7c)) w2))))) : Calls Try.prog 67 #[(.slice a0a a0n a0c)] w R :=
  calls_of_ev (args := [(.slice a0a a0n a0c)])
    (tc := .seq (.reg (.op .p (.nil))) (.seq (.seq (.reg (.op .p (.op .p (.nil)))) (.cond (.seq (.reg (.op .p (.nil))) (.leaf)) (.leaf))) (.seq (.reg (.op (.r (.slice)) (.op .p (.op (.r (.slice)) (.op .p (.nil)))))) (.leaf))))
    (by kernel_rfl) Try.func67 (by kernel_rfl) (by kernel_rfl) (by kernel_rfl) (by kernel_rfl) h

set_option maxRecDepth 100000 in
theorem slices_ContainsFunc_int_int_vc (a0a : Option Addr) (a0n : Nat) (a0c : Nat) (a1 : Value) (w : World) (R : Ending → World → Prop) (h :
  Calls Try.prog 81 #[(.slice a0a a0n a0c), a1] w fun (e7 : Ending) (w1 : World) => ∃ (t7 : Int), e7 = .returned (.int .i64 t7) ∧
  (R (.returned (.bool (decide (t7 ≥ (0 : Int))))) w1)) : Calls Try.prog 65 #[(.slice a0a a0n a0c), a1] w R :=
  calls_of_ev (args := [(.slice a0a a0n a0c), a1])
    (tc := .seq (.reg (.op .p (.nil))) (.seq (.reg (.op .p (.op .p (.op (.cl [.int .i64]) (.op .p (.op .p (.nil))))))) (.leaf)))
    (by kernel_rfl) Try.func65 (by kernel_rfl) (by kernel_rfl) (by kernel_rfl) (by kernel_rfl) h

set_option maxRecDepth 100000 in
theorem slices_IndexFunc_int_int_vc (a0a : Option Addr) (a0n : Nat) (a0c : Nat) (a1 : Value) (w : World) (R : Ending → World → Prop) (h :
  ∃ (I : Int → World → Prop) (μ : Int → World → Nat), I 0 w ∧
  (∀ (x8 : Int), ∀ w1 : World, I x8 w1 →
    (((decide (x8 < ((a0n : Nat) : Int))) = true →
        (∃ (t14b t14o : Nat), a0a = some ⟨t14b, t14o, none⟩ ∧ 0 ≤ x8 ∧ x8 < ((a0n : Nat) : Int) ∧
          (∃ (t15 : Int), (Instr.loadAt 3 (.pointer (some ⟨t14b, t14o + Int.toNat x8 * 1, none⟩))).run Try.prog w1 = .ok (.int .i64 t15) w1 ∧
            (∃ (f16 : Nat) (cb16 : List Value), a1 = .func (.func f16) #[] ⟨cb16⟩ ∧ goesIn Try.prog f16 = true ∧
              Calls Try.prog f16 (([(.int .i64 t15)] : List Value) ++ cb16).toArray w1 fun (e16 : Ending) (w2 : World) => ∃ (t16 : Bool), e16 = .returned (.bool t16) ∧
              ((t16 = true →
                  (R (.returned (.int .i64 x8)) w2)) ∧
                (t16 = false →
                  (I (IntKind.wrap .i64 (x8 + (1 : Int))) w2 ∧ μ (IntKind.wrap .i64 (x8 + (1 : Int))) w2 < μ x8 w1))))))) ∧
      ((decide (x8 < ((a0n : Nat) : Int))) = false →
        (R (.returned (.int .i64 (-1))) w1))))) : Calls Try.prog 81 #[(.slice a0a a0n a0c), a1] w R :=
  calls_of_ev (args := [(.slice a0a a0n a0c), a1])
    (tc := .seq (.reg (.op .p (.nil))) (.seq (.seq (.reg (.op .p (.op .p (.op .p (.nil))))) (.blk (.loop [4, 5, 8, 9, 10, 11, 12, 13, 14, 15, 16, 17, 18] [8] [.int .i64] (.seq (.reg (.op .p (.nil))) (.seq (.cond (.leaf) (.leaf)) (.seq (.blk (.seq (.reg (.op .p (.op .p (.nil)))) (.seq (.reg (.op .p (.op .p (.op .p (.op .ix (.op (.ld (.int .i64)) (.op (.cv [.bool]) (.nil)))))))) (.cond (.seq (.reg (.op .p (.op .p (.nil)))) (.leaf)) (.leaf))))) (.reg (.op .p (.op .p (.nil)))))))))) (.seq (.reg (.op .p (.nil))) (.leaf))))
    (by kernel_rfl) Try.func81 (by kernel_rfl) (by kernel_rfl) (by kernel_rfl) (by kernel_rfl) h

set_option maxRecDepth 100000 in
theorem maps_Clone_disk_dir_string_disk_file_vc (a0 : Value) (w : World) (R : Ending → World → Prop) (h :
  ∃ (t4 : Bool), (eqlS .eql 77 (.tmp 3) (.const (.map none)) a0 (.map none)).run Try.prog w = .ok (.bool t4) w ∧
  ((t4 = true →
      (R (.returned (.map none)) w)) ∧
    (t4 = false →
      (∃ (t7 : Value) (w1 : World), (callFunc 72 #[(.iface 77 a0)]).run Try.prog w = .ok (.value t7) w1 ∧
        (∃ (t8 : Value), (Instr.typeAssert t7 20 77 false).run Try.prog w1 = .ok t8 w1 ∧
          (R (.returned t8) w1)))))) : Calls Try.prog 47 #[a0] w R :=
  calls_of_ev (args := [a0])
    (tc := .seq (.reg (.op .p (.nil))) (.seq (.seq (.reg (.op .p (.op (.ld (.bool)) (.nil)))) (.cond (.seq (.reg (.op .p (.nil))) (.leaf)) (.leaf))) (.seq (.reg (.op .p (.op .p (.op (.cx (.val)) (.op (.ld (.val)) (.op .p (.nil))))))) (.leaf))))
    (by kernel_rfl) Try.func47 (by kernel_rfl) (by kernel_rfl) (by kernel_rfl) (by kernel_rfl) h

set_option maxRecDepth 100000 in
theorem maps_Keys_disk_dir_string_disk_file_vc (a0 : Value) (w : World) (R : Ending → World → Prop) (h :
  ∃ (g1 : Nat) (w1 : World), (Instr.box 77 a0).run Try.prog w = .ok (.pointer (some ⟨g1, 0, none⟩)) w1 ∧
  (∃ (t3 : Value) (w2 : World), (Instr.makeFunc (.func 71) #[] #[(.pointer (some ⟨g1, 0, none⟩))]).run Try.prog w1 = .ok t3 w2 ∧
    (R (.returned t3) w2))) : Calls Try.prog 46 #[a0] w R :=
  calls_of_ev (args := [a0])
    (tc := .seq (.reg (.op .bx (.op .p (.nil)))) (.seq (.reg (.op (.r (.val)) (.op .p (.nil)))) (.leaf)))
    (by kernel_rfl) Try.func46 (by kernel_rfl) (by kernel_rfl) (by kernel_rfl) (by kernel_rfl) h

end Go.Proofs.Ytoijbpkplegnkaa
