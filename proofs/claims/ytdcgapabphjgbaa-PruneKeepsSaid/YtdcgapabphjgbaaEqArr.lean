/- Two arrays of whole numbers that are the same are equal (conditions: none). -/
import Derived.Test.YtdcgapabphjgbaaSxArr
import Derived.Laws.StructEq
namespace Go.Proofs.Ytdcgapabphjgbaa.Sx
open Go
set_option maxRecDepth 8000

theorem eq_arr' {P : Program} {T e n d : Nat} {k : IntKind} (hT : P.underlying T = some (.array n e)) (hs : ∀ w, (sizeOf e).run P w = .ok 1 w) (hA : ∀ w, (isAgg e).run P w = .ok false w)
    (hd : ∀ a w, (Op.equalIn d e (.int k a) (.int k a)).run P w = .ok true w) (l : List Int) (hl : l.length = n) (w : World) :
    (Op.equalIn (d + 1) T (.agg (l.map (Value.int k)).toArray) (.agg (l.map (Value.int k)).toArray)).run P w = .ok true w := by
  have hp : ∀ (i : Nat) (w : World), i < n → (part e (l.map (Value.int k)).toArray i).run P w = .ok (.int k (l.getD i 0)) w := by
    intro i w hi
    simp [part, hA, hs, show i < l.length by omega]
  have key : ∀ (js : List Nat) (w : World), (∀ j ∈ js, j < n) → (forIn (m := Sem) js ((none, ()) : Option Bool × Unit) fun i (_ : Option Bool × Unit) => do
      let a ← part e (l.map (Value.int k)).toArray i
      let b ← part e (l.map (Value.int k)).toArray i
      let c ← Op.equalIn d e a b
      if c = false then pure (ForInStep.done (some false, ())) else pure (ForInStep.yield (none, ()))).run P w = .ok (none, ()) w := by
    intro js
    induction js with
    | nil => intro w _; simp
    | cons j js ih =>
      intro w hj
      simp only [List.forIn_cons, Sem.run_bind, hp j w (hj j (by simp)), Result.andThen_ok, hd]
      simpa using ih w (fun i hi => hj i (by simp [hi]))
  simp [Op.equalIn, run_underlying hT, hs, key (List.range' 0 n) w (by simp [List.mem_range'_1])]

theorem eqlS_arr {P : Program} {T e n : Nat} {k : IntKind} (hT : P.underlying T = some (.array n e)) (he : P.underlying e = some (.int k)) (hs : ∀ w, (sizeOf e).run P w = .ok 1 w) (hA : ∀ w, (isAgg e).run P w = .ok false w) (hg : P.eqGuardType P.depth T = false)
    (x y : Operand) (l : List Int) (hl : l.length = n) (w : World) : (eqlS .eql T x y (.agg (l.map (Value.int k)).toArray) (.agg (l.map (Value.int k)).toArray)).run P w = .ok (.bool true) w := by
  have h1 := eq_arr' (d := 9999) hT hs hA (fun a w => by rw [run_equalIn_int w 9998 e k k a a he]; simp) l hl w
  simp only [eqlS, Sem.run_bind, run_eqGuard_agg w .eql T x y _ _ hg, Result.andThen_ok, run_eql_struct w, h1]

theorem neqS_arr {P : Program} {T e n : Nat} {k : IntKind} (hT : P.underlying T = some (.array n e)) (he : P.underlying e = some (.int k)) (hs : ∀ w, (sizeOf e).run P w = .ok 1 w) (hA : ∀ w, (isAgg e).run P w = .ok false w) (hg : P.eqGuardType P.depth T = false)
    (x y : Operand) (l : List Int) (hl : l.length = n) (w : World) : (eqlS .neq T x y (.agg (l.map (Value.int k)).toArray) (.agg (l.map (Value.int k)).toArray)).run P w = .ok (.bool false) w := by
  have h1 := eq_arr' (d := 9999) hT hs hA (fun a w => by rw [run_equalIn_int w 9998 e k k a a he]; simp) l hl w
  simp only [eqlS, Sem.run_bind, run_eqGuard_agg w .neq T x y _ _ hg, Result.andThen_ok]
  simp [binOp, Op.equal, show Op.maxDepth = 9999 + 1 from rfl, h1]

theorem bv_ints (l : List UInt8) : bv l = (l.map fun b => (b.toNat : Int)).map (Value.int .u8) := by simp [bv]

end Go.Proofs.Ytdcgapabphjgbaa.Sx
