/- Comparisons of errors with a fixed one (conditions: none). -/
import Derived.Test.YtdcgapabphjgbaaNum
namespace Go.Proofs.Ytdcgapabphjgbaa
open Go Sx
set_option maxRecDepth 8000

theorem eqlS_err {T : TypeId} {m} (hT : Try.prog.underlying T = some (.interface m)) (o : Option Int) (n : Int) (x y : Operand) (w : World) : (eqlS .eql T x y (errV o) (.iface 59 (.int .i64 n))).run Try.prog w = .ok (.bool (decide (o = some n))) w := by
  have hE := Try.underlying59
  have hI : (typeInfo 59).run Try.prog w = .ok Try.t59 w := by
    simp [typeInfo, show Try.prog.info? 59 = some Try.t59 by kernel_rfl]
  have hc : Try.t59.comparable = true := by kernel_rfl
  have h1 : ∀ d k, (Op.equalIn (d + 2) T (.iface 59 (.int .i64 k)) (.iface 59 (.int .i64 n))).run Try.prog w = .ok (k == n) w := fun d k => by
    simp [Op.equalIn, run_underlying hT, run_underlying hE, hI, hc]
  have h2 : ∀ d U v, (Op.equalIn (d + 1) T .nilIface (.iface U v)).run Try.prog w = .ok false w := fun d U v => by simp [Op.equalIn, run_underlying hT]
  cases o with
  | none => simp [eqlS, eqGuard, errV, binOp, Op.equal, show Op.maxDepth = 9999 + 1 from rfl, h2 9999]
  | some k =>
    have h3 : (some k = some n) = (k = n) := by simp
    simp only [h3]
    have h4 : decide (k = n) = (k == n) := rfl
    rw [h4]
    simp [eqlS, eqGuard, errV, binOp, Op.equal, show Op.maxDepth = 9998 + 2 from rfl, h1 9998]

theorem neqS_errD {T : TypeId} {m} (hT : Try.prog.underlying T = some (.interface m)) (o : Option Int) (n : Int) (x y : Operand) (w : World) : (eqlS .neq T x y (errV o) (.iface 59 (.int .i64 n))).run Try.prog w = .ok (.bool (!decide (o = some n))) w := by
  have hE := Try.underlying59
  have hI : (typeInfo 59).run Try.prog w = .ok Try.t59 w := by
    simp [typeInfo, show Try.prog.info? 59 = some Try.t59 by kernel_rfl]
  have hc : Try.t59.comparable = true := by kernel_rfl
  have h1 : ∀ d k, (Op.equalIn (d + 2) T (.iface 59 (.int .i64 k)) (.iface 59 (.int .i64 n))).run Try.prog w = .ok (k == n) w := fun d k => by
    simp [Op.equalIn, run_underlying hT, run_underlying hE, hI, hc]
  have h2 : ∀ d U v, (Op.equalIn (d + 1) T .nilIface (.iface U v)).run Try.prog w = .ok false w := fun d U v => by simp [Op.equalIn, run_underlying hT]
  cases o with
  | none => simp [eqlS, eqGuard, errV, binOp, Op.equal, show Op.maxDepth = 9999 + 1 from rfl, h2 9999]
  | some k =>
    have h3 : (some k = some n) = (k = n) := by simp
    simp only [h3]
    have h4 : decide (k = n) = (k == n) := rfl
    rw [h4]
    simp [eqlS, eqGuard, errV, binOp, Op.equal, show Op.maxDepth = 9998 + 2 from rfl, h1 9998]

end Go.Proofs.Ytdcgapabphjgbaa
