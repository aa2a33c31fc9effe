/- Verification conditions of functions, printed by the session's own program vc.py: out of each, Calls (conditions: none). -/
import Derived.Test.YtmdandkoajocpaaGreatDoorRows
import Derived.Test.YtmdandkoajocpaaGreatDoorSxRun
namespace Go.Proofs.YtmdandkoajocpaaGreatDoor
open Go Go.Proofs.YtmdandkoajocpaaGreatDoor.Sx

set_option maxRecDepth 100000 in
theorem amphoranum_Copy_vc (a0a : Option Addr) (a0n : Nat) (a0c : Nat) (w : World) (R : Ending → World → Prop) (h :
  ∃ (t6a : Option Addr) (t6n : Nat) (t6c : Nat) (w1 : World), (Instr.makeSlice 33 (.int .i64 0) (.int .i64 (IntKind.wrap .i64 (((a0n : Nat) : Int) + (2 : Int))))).run Tryz.prog w = .ok (.slice t6a t6n t6c) w1 ∧
  (∃ (t8a : Option Addr) (t8n : Nat) (t8c : Nat) (w2 : World), (Builtin.append_ #[33, 33] 33 #[(.slice t6a t6n t6c), (.slice a0a a0n a0c)]).run Tryz.prog w1 = .ok (.slice t8a t8n t8c) w2 ∧
    (∃ (t9a : Option Addr) (t9n : Nat) (t9c : Nat) (w3 : World), (Instr.buildSlice 33 2 #[(0, (.int .u8 165)), (1, (.int .u8 90))]).run Tryz.prog w2 = .ok (.slice t9a t9n t9c) w3 ∧
      (∃ (t10a : Option Addr) (t10n : Nat) (t10c : Nat) (w4 : World), (Builtin.append_ #[33, 33] 33 #[(.slice t8a t8n t8c), (.slice t9a t9n t9c)]).run Tryz.prog w3 = .ok (.slice t10a t10n t10c) w4 ∧
        (0 ≤ ((a0n : Nat) : Int) ∧ ((a0n : Nat) : Int) ≤ ((t10c : Nat) : Int) ∧
          (R (.returned (.slice t10a (a0n) t10c)) w4)))))) : Calls Tryz.prog 38 #[(.slice a0a a0n a0c)] w R :=
  calls_of_ev (args := [(.slice a0a a0n a0c)])
    (tc := .seq (.reg (.op .p (.nil))) (.seq (.reg (.op .p (.op .p (.op .p (.op (.r (.slice)) (.op .p (.op (.r (.slice)) (.op (.r (.slice)) (.op (.r (.slice)) (.op .p (.op .p (.op .sl (.op .p (.nil)))))))))))))) (.leaf)))
    (by kernel_rfl) Tryz.func38 (by kernel_rfl) (by kernel_rfl) (by kernel_rfl) (by kernel_rfl) h

set_option maxRecDepth 100000 in
theorem amphoranum_Kept_vc (a0a : Option Addr) (a0n : Nat) (a0c : Nat) (a1a : Option Addr) (a1n : Nat) (a1c : Nat) (w : World) (R : Ending → World → Prop) (h :
  ∃ (t7 : ByteArray), (convert 33 9 (.slice a0a a0n a0c)).run Tryz.prog w = .ok (.string t7) w ∧
  (∃ (t9 : ByteArray), (convert 33 9 (.slice a1a a1n a1c)).run Tryz.prog w = .ok (.string t9) w ∧
    ((((!(t7.toList == t9.toList)) || (decide (((a0c : Nat) : Int) < (IntKind.wrap .i64 (((a1n : Nat) : Int) + (2 : Int)))))) = true →
        (R (.returned (.bool false)) w)) ∧
      (((!(t7.toList == t9.toList)) || (decide (((a0c : Nat) : Int) < (IntKind.wrap .i64 (((a1n : Nat) : Int) + (2 : Int)))))) = false →
        (0 ≤ (IntKind.wrap .i64 (((a1n : Nat) : Int) + (2 : Int))) ∧ (IntKind.wrap .i64 (((a1n : Nat) : Int) + (2 : Int))) ≤ ((a0c : Nat) : Int) ∧
          (∃ (t27b t27o : Nat), a0a = some ⟨t27b, t27o, none⟩ ∧ 0 ≤ ((a1n : Nat) : Int) ∧ ((a1n : Nat) : Int) < (((Int.toNat (IntKind.wrap .i64 (((a1n : Nat) : Int) + (2 : Int)))) : Nat) : Int) ∧
            (∃ (t28 : Int), (Instr.loadAt 5 (.pointer (some ⟨t27b, t27o + Int.toNat ((a1n : Nat) : Int) * 1, none⟩))).run Tryz.prog w = .ok (.int .u8 t28) w ∧
              (((t28 == (165 : Int)) = true →
                  (∃ (t35b t35o : Nat), a0a = some ⟨t35b, t35o, none⟩ ∧ 0 ≤ (IntKind.wrap .i64 (((a1n : Nat) : Int) + (1 : Int))) ∧ (IntKind.wrap .i64 (((a1n : Nat) : Int) + (1 : Int))) < (((Int.toNat (IntKind.wrap .i64 (((a1n : Nat) : Int) + (2 : Int)))) : Nat) : Int) ∧
                    (∃ (t36 : Int), (Instr.loadAt 5 (.pointer (some ⟨t35b, t35o + Int.toNat (IntKind.wrap .i64 (((a1n : Nat) : Int) + (1 : Int))) * 1, none⟩))).run Tryz.prog w = .ok (.int .u8 t36) w ∧
                      (R (.returned (.bool (t36 == (90 : Int)))) w)))) ∧
                ((t28 == (165 : Int)) = false →
                  (R (.returned (.bool false)) w)))))))))) : Calls Tryz.prog 15 #[(.slice a0a a0n a0c), (.slice a1a a1n a1c)] w R :=
  calls_of_ev (args := [(.slice a0a a0n a0c), (.slice a1a a1n a1c)])
    (tc := .seq (.reg (.op .p (.nil))) (.seq (.seq (.reg (.op .p (.op (.ld (.str)) (.op .p (.op (.ld (.str)) (.op .p (.op .p (.ap 6 (.nil))))))))) (.cond (.seq (.reg (.op .p (.nil))) (.leaf)) (.leaf))) (.seq (.reg (.op .p (.op .p (.op .p (.op .p (.op .sl (.op .p (.nil)))))))) (.seq (.reg (.op .p (.op .p (.op .p (.op .ix (.op (.ld (.int .u8)) (.op .p (.op .p (.sp 30 (.op .p (.op .p (.op .p (.op .p (.op .ix (.op (.ld (.int .u8)) (.op .p (.op .p (.op .p (.nil)))))))))) (.op .p (.op .p (.op .p (.op .p (.op .p (.op .p (.op .p (.op .p (.op .p (.nil))))))))))))))))))) (.leaf)))))
    (by kernel_rfl) Tryz.func15 (by kernel_rfl) (by kernel_rfl) (by kernel_rfl) (by kernel_rfl) h

set_option maxRecDepth 100000 in
theorem amphoranum_Num_vc_nil  (w : World) (R : Ending → World → Prop) (h :
  R (.returned (.int .i64 0)) w) : Calls Tryz.prog 14 #[.nilIface] w R :=
  calls_of_ev (args := [.nilIface])
    (tc := .seq (.reg (.op .p (.nil))) (.seq (.seq (.reg (.op .p (.op .p (.nil)))) (.ct (.seq (.reg (.op .p (.nil))) (.leaf)))) (.leaf)))
    (by kernel_rfl) Tryz.func14 (by kernel_rfl) (by kernel_rfl) (by kernel_rfl) (by kernel_rfl) h

set_option maxRecDepth 100000 in
theorem amphoranum_Num_vc_err (n0 : Int) (w : World) (R : Ending → World → Prop) (h :
  ((n0 == (0 : Int)) = true →
    (R (.returned (.int .i64 (-1))) w)) ∧
  ((n0 == (0 : Int)) = false →
    (R (.returned (.int .i64 n0)) w))) : Calls Tryz.prog 14 #[(.iface 69 (.int .i64 n0))] w R :=
  calls_of_ev (args := [(.iface 69 (.int .i64 n0))])
    (tc := .seq (.reg (.op .p (.nil))) (.seq (.seq (.reg (.op .p (.op .p (.nil)))) (.cf (.leaf))) (.seq (.reg (.op .p (.op .p (.op .p (.op .p (.op .p (.op .p (.op .p (.nil))))))))) (.seq (.seq (.reg (.op .p (.op .p (.op .p (.op .p (.op .p (.op .p (.nil)))))))) (.cond (.seq (.reg (.op .p (.nil))) (.leaf)) (.leaf))) (.seq (.reg (.op .p (.op .p (.nil)))) (.leaf))))))
    (by kernel_rfl) Tryz.func14 (by kernel_rfl) (by kernel_rfl) (by kernel_rfl) (by kernel_rfl) h

set_option maxRecDepth 100000 in
theorem amphoranum_Sum_vc (a0a : Option Addr) (a0n : Nat) (a0c : Nat) (a1 : Int) (w : World) (R : Ending → World → Prop) (h :
  ∃ (I : Int → Int → World → Prop) (μ : Int → Int → World → Nat), I 0 0 w ∧
  (∀ (x5 : Int) (x10 : Int), ∀ w1 : World, I x5 x10 w1 →
    (((decide (x10 < ((a0n : Nat) : Int))) = true →
        (∃ (t12b t12o : Nat), a0a = some ⟨t12b, t12o, none⟩ ∧ 0 ≤ x10 ∧ x10 < ((a0n : Nat) : Int) ∧
          (∃ (t13a : Option Addr) (t13n : Nat) (t13c : Nat), (Instr.loadAt 33 (.pointer (some ⟨t12b, t12o + Int.toNat x10 * 1, none⟩))).run Tryz.prog w1 = .ok (.slice t13a t13n t13c) w1 ∧
            (((decide (((t13n : Nat) : Int) > (IntKind.wrap .i64 (a1 - x5)))) = true →
                (R (.returned (.int .i64 a1)) w1)) ∧
              ((decide (((t13n : Nat) : Int) > (IntKind.wrap .i64 (a1 - x5)))) = false →
                (I (IntKind.wrap .i64 (x5 + ((t13n : Nat) : Int))) (IntKind.wrap .i64 (x10 + (1 : Int))) w1 ∧ μ (IntKind.wrap .i64 (x5 + ((t13n : Nat) : Int))) (IntKind.wrap .i64 (x10 + (1 : Int))) w1 < μ x5 x10 w1)))))) ∧
      ((decide (x10 < ((a0n : Nat) : Int))) = false →
        (R (.returned (.int .i64 x5)) w1))))) : Calls Tryz.prog 36 #[(.slice a0a a0n a0c), (.int .i64 a1)] w R :=
  calls_of_ev (args := [(.slice a0a a0n a0c), (.int .i64 a1)])
    (tc := .seq (.reg (.op .p (.nil))) (.seq (.reg (.op .p (.nil))) (.seq (.seq (.reg (.op .p (.op .p (.op .p (.nil))))) (.blk (.loop [4, 5, 7, 10, 11, 12, 13, 14, 15, 16, 17, 18, 19, 20, 21, 22, 23, 24, 25] [5, 10] [.int .i64, .int .i64] (.seq (.reg (.op .p (.nil))) (.seq (.cond (.leaf) (.leaf)) (.seq (.blk (.seq (.reg (.op .ix (.op (.ld (.slice)) (.op .p (.nil))))) (.seq (.seq (.reg (.op .p (.op .p (.op .p (.op .p (.op .p (.op .p (.nil)))))))) (.cond (.seq (.reg (.op .p (.op .p (.nil)))) (.leaf)) (.leaf))) (.reg (.op .p (.op .p (.op .p (.op .p (.op .p (.nil)))))))))) (.reg (.op .p (.op .p (.nil)))))))))) (.seq (.reg (.op .p (.op .p (.nil)))) (.leaf)))))
    (by kernel_rfl) Tryz.func36 (by kernel_rfl) (by kernel_rfl) (by kernel_rfl) (by kernel_rfl) h

set_option maxRecDepth 100000 in
theorem slices_Clone_byte_byte_vc (a0a : Option Addr) (a0n : Nat) (a0c : Nat) (w : World) (R : Ending → World → Prop) (h :
  (a0a.isNone = true →
    (R (.returned (.slice none 0 0)) w)) ∧
  (a0a.isNone = false →
    (∃ (t5a : Option Addr) (t5n : Nat) (t5c : Nat) (w1 : World), (Instr.buildSlice 33 0 #[]).run Tryz.prog w = .ok (.slice t5a t5n t5c) w1 ∧
      (∃ (t7a : Option Addr) (t7n : Nat) (t7c : Nat) (w2 : World), (Builtin.append_ #[33, 33] 33 #[(.slice t5a t5n t5c), (.slice a0a a0n a0c)]).run Tryz.prog w1 = .ok (.slice t7a t7n t7c) w2 ∧
        (R (.returned (.slice t7a t7n t7c)) w2))))) : Calls Tryz.prog 54 #[(.slice a0a a0n a0c)] w R :=
  calls_of_ev (args := [(.slice a0a a0n a0c)])
    (tc := .seq (.reg (.op .p (.nil))) (.seq (.seq (.reg (.op .p (.op .p (.nil)))) (.cond (.seq (.reg (.op .p (.nil))) (.leaf)) (.leaf))) (.seq (.reg (.op (.r (.slice)) (.op .p (.op (.r (.slice)) (.op .p (.nil)))))) (.leaf))))
    (by kernel_rfl) Tryz.func54 (by kernel_rfl) (by kernel_rfl) (by kernel_rfl) (by kernel_rfl) h

set_option maxRecDepth 100000 in
theorem bits_RotateLeft32_vc (a0 : Int) (a1 : Int) (w : World) (R : Ending → World → Prop) (h :
  0 ≤ (band .u64 (IntKind.wrap .u64 a1) (31 : Int)) ∧
  (0 ≤ (IntKind.wrap .u64 ((32 : Int) - (band .u64 (IntKind.wrap .u64 a1) (31 : Int)))) ∧
    (R (.returned (.int .u32 (bor .u32 (shlI .u32 a0 (band .u64 (IntKind.wrap .u64 a1) (31 : Int))) (shrI .u32 a0 (IntKind.wrap .u64 ((32 : Int) - (band .u64 (IntKind.wrap .u64 a1) (31 : Int)))))))) w))) : Calls Tryz.prog 189 #[(.int .u32 a0), (.int .i64 a1)] w R :=
  calls_of_ev (args := [(.int .u32 a0), (.int .i64 a1)])
    (tc := .seq (.reg (.op .p (.nil))) (.seq (.reg (.op .p (.op .p (.op .p (.op .p (.nil)))))) (.seq (.reg (.op .p (.op .p (.op .sc (.op .p (.op .p (.op .p (.op .sc (.op .p (.op .p (.nil))))))))))) (.leaf))))
    (by kernel_rfl) Tryz.func189 (by kernel_rfl) (by kernel_rfl) (by kernel_rfl) (by kernel_rfl) h

end Go.Proofs.YtmdandkoajocpaaGreatDoor
