/- '==' of two structs, field by field (conditions: those that each theorem names). -/
import Derived.Test.YtdcgapabphjgbaaEqG
namespace Go.Proofs.Ytdcgapabphjgbaa.Sx
open Go
set_option maxRecDepth 8000

theorem eqFields_step {P : Program} {d : Nat} {xs ys : Array Value} {f : Field} {fs : List Field} {a b : Value} {r : Bool} {w : World} (hn : f.name ≠ "_") (ha : (part f.type xs f.offset).run P w = .ok a w) (hb : (part f.type ys f.offset).run P w = .ok b w)
    (he : (Op.equalIn d f.type a b).run P w = .ok r w) {q : Bool} (hq : (Op.eqFields d xs ys fs).run P w = .ok q w) : (Op.eqFields d xs ys (f :: fs)).run P w = .ok (r && q) w := by
  rw [Op.eqFields, if_pos hn]
  simp only [Sem.run_bind, ha, hb, he, Result.andThen_ok]
  cases r with
  | true => simp [hq]
  | false => simp

theorem eqS_struct {P : Program} {T : TypeId} {xs ys : Array Value} {r : Bool} {w : World} (hT : P.underlying T = some (.struct (P.fieldsOf T))) (hp : P.stoodInHeld T = false) (hg : P.eqGuardType P.depth T = false) (x y : Operand)
    (h : (Op.eqFields 9999 xs ys (P.fieldsOf T).toList).run P w = .ok r w) : (eqlS .eql T x y (.agg xs) (.agg ys)).run P w = .ok (.bool r) w ∧ (eqlS .neq T x y (.agg xs) (.agg ys)).run P w = .ok (.bool (!r)) w := by
  have h1 := (run_equalIn_struct (P := P) w 9999 T xs ys hT hp).trans h
  refine ⟨?_, ?_⟩
  · simp only [eqlS, Sem.run_bind, run_eqGuard_agg w .eql T x y _ _ hg, Result.andThen_ok, run_eql_struct w, h1]
  · simp only [eqlS, Sem.run_bind, run_eqGuard_agg w .neq T x y _ _ hg, Result.andThen_ok, run_neq_struct w, h1]

end Go.Proofs.Ytdcgapabphjgbaa.Sx
