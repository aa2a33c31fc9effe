/- Verification conditions of functions, printed by the session's own program vc.py: out of each, Calls (conditions: none). -/
import Derived.Test.YtpodhfomjljfbaaDoorRows
import Derived.Test.YtpodhfomjljfbaaDoorSxRun
namespace Go.Proofs.YtpodhfomjljfbaaDoor
open Go Go.Proofs.YtpodhfomjljfbaaDoor.Sx

set_option maxRecDepth 100000 in
theorem amphoranum_Sum_vc (a0a : Option Addr) (a0n : Nat) (a0c : Nat) (a1 : Int) (w : World) (R : Ending → World → Prop) (h :
  ∃ (I : Int → Int → World → Prop) (μ : Int → Int → World → Nat), I 0 0 w ∧
  (∀ (x5 : Int) (x10 : Int), ∀ w1 : World, I x5 x10 w1 →
    (((decide (x10 < ((a0n : Nat) : Int))) = true →
        (∃ (t12b t12o : Nat), a0a = some ⟨t12b, t12o, none⟩ ∧ 0 ≤ x10 ∧ x10 < ((a0n : Nat) : Int) ∧
          (∃ (t13a : Option Addr) (t13n : Nat) (t13c : Nat), (Instr.loadAt 22 (.pointer (some ⟨t12b, t12o + Int.toNat x10 * 1, none⟩))).run Tryd.prog w1 = .ok (.slice t13a t13n t13c) w1 ∧
            (((decide (((t13n : Nat) : Int) > (IntKind.wrap .i64 (a1 - x5)))) = true →
                (R (.returned (.int .i64 a1)) w1)) ∧
              ((decide (((t13n : Nat) : Int) > (IntKind.wrap .i64 (a1 - x5)))) = false →
                (I (IntKind.wrap .i64 (x5 + ((t13n : Nat) : Int))) (IntKind.wrap .i64 (x10 + (1 : Int))) w1 ∧ μ (IntKind.wrap .i64 (x5 + ((t13n : Nat) : Int))) (IntKind.wrap .i64 (x10 + (1 : Int))) w1 < μ x5 x10 w1)))))) ∧
      ((decide (x10 < ((a0n : Nat) : Int))) = false →
        (R (.returned (.int .i64 x5)) w1))))) : Calls Tryd.prog 18 #[(.slice a0a a0n a0c), (.int .i64 a1)] w R :=
  calls_of_ev (args := [(.slice a0a a0n a0c), (.int .i64 a1)])
    (tc := .seq (.reg (.op .p (.nil))) (.seq (.reg (.op .p (.nil))) (.seq (.seq (.reg (.op .p (.op .p (.op .p (.nil))))) (.blk (.loop [4, 5, 7, 10, 11, 12, 13, 14, 15, 16, 17, 18, 19, 20, 21, 22, 23, 24, 25] [5, 10] [.int .i64, .int .i64] (.seq (.reg (.op .p (.nil))) (.seq (.cond (.leaf) (.leaf)) (.seq (.blk (.seq (.reg (.op .ix (.op (.ld (.slice)) (.op .p (.nil))))) (.seq (.seq (.reg (.op .p (.op .p (.op .p (.op .p (.op .p (.op .p (.nil)))))))) (.cond (.seq (.reg (.op .p (.op .p (.nil)))) (.leaf)) (.leaf))) (.reg (.op .p (.op .p (.op .p (.op .p (.op .p (.nil)))))))))) (.reg (.op .p (.op .p (.nil)))))))))) (.seq (.reg (.op .p (.op .p (.nil)))) (.leaf)))))
    (by kernel_rfl) Tryd.func18 (by kernel_rfl) (by kernel_rfl) (by kernel_rfl) (by kernel_rfl) h

set_option maxRecDepth 100000 in
theorem amphoranum_Over_vc (a0a : Option Addr) (a0n : Nat) (a0c : Nat) (w : World) (R : Ending → World → Prop) (h :
  ∃ (I : Int → World → Prop) (μ : Int → World → Nat), I 0 w ∧
  (∀ (x5 : Int), ∀ w1 : World, I x5 w1 →
    (((decide (x5 < ((a0n : Nat) : Int))) = true →
        (∃ (t10b t10o : Nat), a0a = some ⟨t10b, t10o, none⟩ ∧ 0 ≤ x5 ∧ x5 < ((a0n : Nat) : Int) ∧
          (∃ (t11 : Int), (Instr.loadAt 5 (.pointer (some ⟨t10b, t10o + Int.toNat x5 * 1, none⟩))).run Tryd.prog w1 = .ok (.int .u8 t11) w1 ∧
            (∃ (t13b t13o : Nat), a0a = some ⟨t13b, t13o, none⟩ ∧ 0 ≤ x5 ∧ x5 < ((a0n : Nat) : Int) ∧
              (∃ w2 : World, (Instr.storeAt 5 (.pointer (some ⟨t13b, t13o + Int.toNat x5 * 1, none⟩)) (.int .u8 (bxor .u8 t11 (255 : Int)))).run Tryd.prog w1 = .ok () w2 ∧
                (I (IntKind.wrap .i64 (x5 + (1 : Int))) w2 ∧ μ (IntKind.wrap .i64 (x5 + (1 : Int))) w2 < μ x5 w1)))))) ∧
      ((decide (x5 < ((a0n : Nat) : Int))) = false →
        (R (.returned (.tuple #[])) w1))))) : Calls Tryd.prog 21 #[(.slice a0a a0n a0c)] w R :=
  calls_of_ev (args := [(.slice a0a a0n a0c)])
    (tc := .seq (.reg (.op .p (.op .p (.op .p (.nil))))) (.blk (.loop [2, 5, 6, 7, 8, 9, 10, 11, 12, 13, 14] [5] [.int .i64] (.seq (.reg (.op .p (.nil))) (.seq (.cond (.leaf) (.leaf)) (.seq (.blk (.seq (.reg (.op .p (.op .p (.nil)))) (.reg (.op .p (.op .p (.op .ix (.op (.ld (.int .u8)) (.op .p (.op .ix (.op .u (.nil))))))))))) (.reg (.op .p (.op .p (.nil))))))))))
    (by kernel_rfl) Tryd.func21 (by kernel_rfl) (by kernel_rfl) (by kernel_rfl) (by kernel_rfl) h

end Go.Proofs.YtpodhfomjljfbaaDoor
