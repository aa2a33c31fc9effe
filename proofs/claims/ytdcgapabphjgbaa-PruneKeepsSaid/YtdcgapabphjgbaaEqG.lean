/- Two arrays of whole numbers are equal just if their numbers are the same (conditions: none). -/
import Derived.Test.YtdcgapabphjgbaaEqArr
namespace Go.Proofs.Ytdcgapabphjgbaa.Sx
open Go
set_option maxRecDepth 8000

theorem eq_arrG {P : Program} {T e n d : Nat} {k : IntKind} (hT : P.underlying T = some (.array n e)) (hs : ∀ w, (sizeOf e).run P w = .ok 1 w) (hA : ∀ w, (isAgg e).run P w = .ok false w)
    (hd : ∀ a b w, (Op.equalIn d e (.int k a) (.int k b)).run P w = .ok (a == b) w) (l m : List Int) (hl : l.length = n) (hm : m.length = n) (w : World) :
    (Op.equalIn (d + 1) T (.agg (l.map (Value.int k)).toArray) (.agg (m.map (Value.int k)).toArray)).run P w = .ok (decide (l = m)) w := by
  have hp : ∀ (l : List Int), l.length = n → ∀ (i : Nat) (w : World), i < n → (part e (l.map (Value.int k)).toArray i).run P w = .ok (.int k (l.getD i 0)) w := by
    intro l hl i w hi
    simp [part, hA, hs, show i < l.length by omega]
  have key : ∀ (js : List Nat) (w : World), (∀ j ∈ js, j < n) → (forIn (m := Sem) js ((none, ()) : Option Bool × Unit) fun i (_ : Option Bool × Unit) => do
      let a ← part e (l.map (Value.int k)).toArray i
      let b ← part e (m.map (Value.int k)).toArray i
      let c ← Op.equalIn d e a b
      if c = false then pure (ForInStep.done (some false, ())) else pure (ForInStep.yield (none, ()))).run P w = .ok (if js.all (fun j => l.getD j 0 == m.getD j 0) then (none, ()) else (some false, ())) w := by
    intro js
    induction js with
    | nil => intro w _; simp
    | cons j js ih =>
      intro w hj
      simp only [List.forIn_cons, Sem.run_bind, hp l hl j w (hj j (by simp)), hp m hm j w (hj j (by simp)), Result.andThen_ok, hd, List.all_cons]
      rcases Bool.eq_false_or_eq_true (l.getD j 0 == m.getD j 0) with hb | hb
      · simp only [hb, Bool.true_and]
        simpa using ih w (fun i hi => hj i (by simp [hi]))
      · simp only [hb, Bool.false_and]
        simp
  have hall : (List.range' 0 n).all (fun j => l.getD j 0 == m.getD j 0) = decide (l = m) := by
    rw [Bool.eq_iff_iff]
    simp only [List.all_eq_true, beq_iff_eq, decide_eq_true_eq, List.mem_range'_1]
    constructor
    · intro h
      apply List.ext_getElem (by omega)
      intro i h1 h2
      have := h i ⟨by omega, by omega⟩
      simpa [List.getD, h1, h2] using this
    · intro h; subst h; intro _ _; rfl
  simp only [Op.equalIn, Sem.run_bind, run_underlying hT, Result.andThen_ok, hs]
  have k0 := key (List.range' 0 n) w (by simp [List.mem_range'_1])
  rw [hall] at k0
  by_cases h : l = m
  · simp only [h, decide_true, if_true] at k0
    simp [h, k0]
  · simp only [h, decide_false, Bool.false_eq_true, if_false] at k0
    simp [h, k0]

theorem eqlS_arrG {P : Program} {T e n : Nat} {k : IntKind} (hT : P.underlying T = some (.array n e)) (he : P.underlying e = some (.int k)) (hs : ∀ w, (sizeOf e).run P w = .ok 1 w) (hA : ∀ w, (isAgg e).run P w = .ok false w) (hg : P.eqGuardType P.depth T = false)
    (x y : Operand) (l m : List Int) (hl : l.length = n) (hm : m.length = n) (w : World) : (eqlS .eql T x y (.agg (l.map (Value.int k)).toArray) (.agg (m.map (Value.int k)).toArray)).run P w = .ok (.bool (decide (l = m))) w ∧
    (eqlS .neq T x y (.agg (l.map (Value.int k)).toArray) (.agg (m.map (Value.int k)).toArray)).run P w = .ok (.bool (!decide (l = m))) w := by
  have h1 := eq_arrG (d := 9999) hT hs hA (fun a b w => by rw [run_equalIn_int w 9998 e k k a b he]) l m hl hm w
  refine ⟨?_, ?_⟩
  · simp only [eqlS, Sem.run_bind, run_eqGuard_agg w .eql T x y _ _ hg, Result.andThen_ok, run_eql_struct w, h1]
  · simp only [eqlS, Sem.run_bind, run_eqGuard_agg w .neq T x y _ _ hg, Result.andThen_ok]
    simp [binOp, Op.equal, show Op.maxDepth = 9999 + 1 from rfl, h1]

theorem bvI_inj {l m : List UInt8} : (l.map fun b => (b.toNat : Int)) = (m.map fun b => (b.toNat : Int)) ↔ l = m := by
  constructor
  · intro h
    apply List.ext_getElem?
    intro i
    have := congrArg (fun q => q[i]?) h
    simp only [List.getElem?_map] at this
    cases h1 : l[i]? <;> cases h2 : m[i]? <;> simp [h1, h2] at this ⊢
    exact UInt8.toNat_inj.1 (by omega)
  · intro h; rw [h]

end Go.Proofs.Ytdcgapabphjgbaa.Sx
