/- Maps whose keys are arrays of whole numbers: lookup, update, delete (conditions: none; any program). -/
import Derived.Test.YtoianikapjkekaaSxArr
import Derived.Test.YtoianikapjkekaaEqG
import Derived.Test.YtoianikapjkekaaMapK
namespace Go.Proofs.Ytoianikapjkekaa.Sx
open Go
set_option maxRecDepth 8000

section
variable {P : Program} {T e n : Nat} {k : IntKind}

theorem checkKey_arr (hT : P.underlying T = some (.array n e)) (he : P.underlying e = some (.int k)) (hs : ∀ w, (sizeOf e).run P w = .ok 1 w) (hA : ∀ w, (isAgg e).run P w = .ok false w) (l : List Int) (hl : l.length = n) (em : Bool) (d : Nat) (w : World) :
    (Instr.checkKey em (d + 2) T (.agg (l.map (Value.int k)).toArray)).run P w = .ok () w := by
  have hp : ∀ (i : Nat) (w : World), i < n → (part e (l.map (Value.int k)).toArray i).run P w = .ok (.int k (l.getD i 0)) w := by
    intro i w hi
    simp [part, hA, hs, show i < l.length by omega]
  have hc : ∀ (a : Int) (w : World), (Instr.checkKey em (d + 1) e (.int k a)).run P w = .ok () w := by
    intro a w
    simp [Instr.checkKey, run_underlying he]
  have key : ∀ (js : List Nat) (w : World), (∀ j ∈ js, j < n) → (forIn (m := Sem) js PUnit.unit fun i (_ : PUnit) => do
      let z ← sizeOf e
      let v ← part e (l.map (Value.int k)).toArray (i * z)
      (fun _ => ForInStep.yield PUnit.unit) <$> Instr.checkKey em (d + 1) e v).run P w = .ok PUnit.unit w := by
    intro js
    induction js with
    | nil => intro w _; simp
    | cons j js ih =>
      intro w hj
      simp only [List.forIn_cons, Sem.run_bind, hs, Nat.mul_one, hp j w (hj j (by simp)), Result.andThen_ok, map_eq_pure_bind, hc]
      simpa using ih w (fun i hi => hj i (by simp [hi]))
  have k0 := key (List.range' 0 n) w (by simp [List.mem_range'_1])
  unfold Instr.checkKey
  simp only [Sem.run_bind, run_underlying hT, Result.andThen_ok]
  generalize hq : Instr.checkKey em (d + 1) = q at k0 ⊢
  simp at k0 ⊢
  rw [k0]
  rfl

theorem equal_arr (hT : P.underlying T = some (.array n e)) (he : P.underlying e = some (.int k)) (hs : ∀ w, (sizeOf e).run P w = .ok 1 w) (hA : ∀ w, (isAgg e).run P w = .ok false w) (l m : List Int) (hl : l.length = n) (hm : m.length = n) (w : World) :
    (Op.equal T (.agg (l.map (Value.int k)).toArray) (.agg (m.map (Value.int k)).toArray)).run P w = .ok (decide (l = m)) w := by
  simp only [Op.equal, show Op.maxDepth = 9999 + 1 from rfl]
  exact eq_arrG (d := 9999) hT hs hA (fun a b w => by rw [run_equalIn_int w 9998 e k k a b he]) l m hl hm w
end

section
variable {P : Program} {α : Type} {key val : α → Value} {kid : α → List UInt8} {KT : TypeId}

/-- What is asked of the type of keys: two keys are equal just if their bytes are. -/
structure KeyEq (P : Program) (KT : TypeId) (n : Nat) : Prop where
  und : ∃ e, P.underlying KT = some (.array n e) ∧ P.underlying e = some (.int .u8) ∧ (∀ w, (sizeOf e).run P w = .ok 1 w) ∧ ∀ w, (isAgg e).run P w = .ok false w

theorem KeyEq.chk {n : Nat} (h : KeyEq P KT n) {id : List UInt8} (hl : id.length = n) (em : Bool) (w : World) : (Instr.checkKey em 10000 KT (.agg (bv id).toArray)).run P w = .ok () w := by
  obtain ⟨e, h1, h2, h3, h4⟩ := h.und
  rw [bv_ints]
  exact checkKey_arr h1 h2 h3 h4 _ (by simp [hl]) em 9998 w
theorem KeyEq.eql {n : Nat} (h : KeyEq P KT n) {id id2 : List UInt8} (hl : id.length = n) (hl2 : id2.length = n) (w : World) : (Op.equal KT (.agg (bv id).toArray) (.agg (bv id2).toArray)).run P w = .ok (decide (id = id2)) w := by
  obtain ⟨e, h1, h2, h3, h4⟩ := h.und
  rw [bv_ints, bv_ints]
  have := equal_arr h1 h2 h3 h4 (id.map fun b => (b.toNat : Int)) (id2.map fun b => (b.toNat : Int)) (by simp [hl]) (by simp [hl2]) w
  simpa only [bvI_inj] using this

theorem findAsking_arr {n : Nat} (h : KeyEq P KT n) {id : List UInt8} (hl : id.length = n) (w : World) : ∀ (L : List MapEntry) (M : List α) (i : Nat), L.map (fun x => (x.key, x.val)) = M.map (fun r => (Value.agg (bv (kid r)).toArray, val r)) → (∀ r ∈ M, (kid r).length = n) →
    (Instr.findAsking KT (.agg (bv id).toArray) L i).run P w = .ok (((M.findIdx? fun r => kid r == id).bind fun j => (M[j]?).map fun r => (i + j, val r))) w
  | [], [], i, _, _ => by simp [Instr.findAsking]
  | [], r :: M, i, he, _ => by simp at he
  | x :: L, [], i, he, _ => by simp at he
  | x :: L, r :: M, i, he, hk => by
    simp only [List.map_cons, List.cons.injEq, Prod.mk.injEq] at he
    obtain ⟨⟨e1, e2⟩, e3⟩ := he
    have ih := findAsking_arr h hl w L M (i + 1) e3 fun s hs => hk s (by simp [hs])
    have hq := h.eql hl (hk r (by simp)) w
    simp only [Instr.findAsking, Sem.run_bind, e1, hq, Result.andThen_ok, e2]
    by_cases hr : id = kid r
    · simp [hr, List.findIdx?_cons]
    · have hr' : ¬ kid r = id := fun e => hr e.symm
      simp only [hr, decide_false, Bool.false_eq_true, if_false, ih, List.findIdx?_cons, beq_iff_eq, hr']
      cases hf : M.findIdx? fun r => kid r == id with
      | none => simp
      | some j => simp [Nat.add_assoc, Nat.add_comm 1]

/-- A key sought. -/
theorem findKey_arr {n : Nat} (h : KeyEq P KT n) {id : List UInt8} (hl : id.length = n) (w : World) {L : List MapEntry} {M : List α} (he : L.map (fun x => (x.key, x.val)) = M.map (fun r => (Value.agg (bv (kid r)).toArray, val r))) (hk : ∀ r ∈ M, (kid r).length = n) :
    (Instr.findKey KT (.agg (bv id).toArray) L).run P w = .ok (((M.findIdx? fun r => kid r == id).bind fun j => (M[j]?).map fun r => (j, val r))) w := by
  obtain ⟨e, h1, h2, h3, h4⟩ := h.und
  have hf := findAsking_arr h hl w L M 0 he hk
  simp only [Nat.zero_add] at hf
  cases L with
  | nil =>
    have hm : M = [] := by cases M with
      | nil => rfl
      | cons _ _ => simp at he
    subst hm
    simp [Instr.findKey, Instr.findNow, run_underlying h1]
  | cons x L =>
    simp only [Instr.findKey, Sem.run_bind, run_underlying h1, Result.andThen_ok]
    have : Instr.findNow (.array n e) (.agg (bv id).toArray) (x :: L) 0 = none := by simp [Instr.findNow, Instr.sameNow]
    rw [this]
    exact hf

theorem same_arr (l : List Int) (k : IntKind) : Instr.sameBits 10000 (.agg (l.map (Value.int k)).toArray) (.agg (l.map (Value.int k)).toArray) = true := by
  have h1 : ∀ x ∈ (l.map (Value.int k)).zip (l.map (Value.int k)), Instr.sameBits 9999 x.1 x.2 = true := by
    intro x hx
    rw [List.zip_map] at hx
    simp only [List.mem_map] at hx
    obtain ⟨⟨a, b⟩, hab, rfl⟩ := hx
    have e : a = b := by
      obtain ⟨i, hi⟩ := List.getElem?_of_mem hab
      rw [List.getElem?_zip_eq_some] at hi
      rw [hi.1] at hi
      exact Option.some.inj hi.2
    subst e
    simp [Instr.sameBits]
  rw [show (10000 : Nat) = 9999 + 1 from rfl, Instr.sameBits]
  simp only [beq_self_eq_true, Bool.true_and]
  rw [List.all_eq_true]
  intro x hx
  exact h1 x hx


theorem arr_ops {n : Nat} (h : KeyEq P KT n) : KeyOps P KT (fun id => .agg (bv id).toArray) (fun id => id.length = n) :=
  ⟨fun _ hl em w => h.chk hl em w, fun α val kid L M id hl w he hk => findKey_arr (α := α) (val := val) (kid := kid) h hl w he hk, fun id w => by
    unfold Instr.keyThatStays
    rw [bv_ints, same_arr]
    simp⟩

variable {n : Nat} {w : World} {g : Nat} {es : Array MapEntry} {clock : Nat} {M : List α} {mt ET : TypeId}

/-- What is asked: the keys are arrays of n bytes, told by what each thing bears. -/
structure KeyL (P : Program) (KT : TypeId) (n : Nat) (key : α → Value) (kid : α → List UInt8) (M : List α) : Prop where
  eq : KeyEq P KT n
  key : ∀ r, key r = .agg (bv (kid r)).toArray
  len : ∀ r ∈ M, (kid r).length = n

theorem KeyL.toM (h : KeyL P KT n key kid M) : KeyM P KT (fun id => .agg (bv id).toArray) (fun id => id.length = n) key kid M := ⟨arr_ops h.eq, h.key, h.len⟩

theorem MapE.find (hE : MapE key val es clock M) (hK : KeyL P KT n key kid M) {id : List UInt8} (hl : id.length = n) (w : World) : (Instr.findKey KT (.agg (bv id).toArray) es.toList).run P w = .ok ((fndM kid M id).map fun p => (p.1, val p.2)) w := hE.findK hK.toM hl w

theorem MapE.update (hE : MapE key val es clock M) (hK : KeyL P KT n key kid M) (hm : P.underlying mt = some (.map KT ET)) (hg : w.heap[g]? = some (.map es clock)) (r : α) (hr : (kid r).length = n) :
    ∃ es' clock', (Instr.mapUpdate mt (.map (some g)) (.agg (bv (kid r)).toArray) (val r)).run P w = .ok () (w.putObj g (.map es' clock')) ∧ MapE key val es' clock' (updM kid M r) := hE.updateK hK.toM hm hg r hr

theorem MapE.delete (hE : MapE key val es clock M) (hK : KeyL P KT n key kid M) (hm : P.underlying mt = some (.map KT ET)) (hg : w.heap[g]? = some (.map es clock)) {id : List UInt8} (hl : id.length = n) (ts : Array TypeId) (hts : ts[0]? = some mt) (ty : TypeId) :
    ∃ es', (Builtin.delete_ ts ty #[.map (some g), .agg (bv id).toArray]).run P w = .ok (.tuple #[]) (w.putObj g (.map es' clock)) ∧ (∀ j r, fndM kid M id = some (j, r) → es' = es.eraseIdxIfInBounds j ∧ MapE key val es' clock (M.eraseIdx j)) ∧ (fndM kid M id = none → es' = es ∧ MapE key val es' clock M) := hE.deleteK hK.toM hm hg hl ts hts ty

theorem MapE.lookup (hE : MapE key val es clock M) (hK : KeyL P KT n key kid M) (hm : P.underlying mt = some (.map KT ET)) (hg : w.heap[g]? = some (.map es clock)) {id : List UInt8} (hl : id.length = n) {z : Value} (hz : ∀ w, (zeroValue ET).run P w = .ok z w) :
    (Instr.lookup mt (.map (some g)) (.agg (bv id).toArray) true).run P w = .ok (.tuple #[((fndM kid M id).map fun p => val p.2).getD z, .bool (fndM kid M id).isSome]) w := hE.lookupK hK.toM hm hg hl hz

end

end Go.Proofs.Ytoianikapjkekaa.Sx
