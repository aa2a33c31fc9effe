/- Maps, by keys that are told by bytes: lookup, update, delete (conditions: none; any program). -/
import Derived.Test.YtoijbpkplegnkaaSxArr
import Derived.Maps.RangeRun
import Derived.RangeFuncRecord
namespace Go.Proofs.Ytoijbpkplegnkaa.Sx
open Go
set_option maxRecDepth 8000

/-- A map's entries: by key and value. -/
structure MapE {α : Type} (key val : α → Value) (es : Array MapEntry) (clock : Nat) (M : List α) : Prop where
  ents : es.toList.map (fun x => (x.key, x.val)) = M.map fun r => (key r, val r)
  born : (es.toList.map (·.born)).Nodup
  old : ∀ x ∈ es.toList, x.born < clock

theorem MapE.nil {α : Type} (key val : α → Value) : MapE key val #[] 0 ([] : List α) := ⟨rfl, by simp, by simp⟩
theorem MapE.len {α : Type} {key val : α → Value} {es : Array MapEntry} {clock : Nat} {M : List α} (h : MapE key val es clock M) : es.size = M.length := by
  have := congrArg List.length h.ents
  simpa using this
theorem MapE.at_ {α : Type} {key val : α → Value} {es : Array MapEntry} {clock : Nat} {M : List α} (h : MapE key val es clock M) {i : Nat} {x : MapEntry} (hx : es.toList[i]? = some x) : ∃ r, M[i]? = some r ∧ x.key = key r ∧ x.val = val r := by
  have := congrArg (fun l => l[i]?) h.ents
  simp only [List.getElem?_map, hx, Option.map_some] at this
  cases hm : M[i]? with
  | none => rw [hm] at this; cases this
  | some r =>
    rw [hm] at this
    simp only [Option.map_some, Option.some.injEq, Prod.mk.injEq] at this
    exact ⟨r, rfl, this.1, this.2⟩

section
variable {P : Program} {α : Type} {key val : α → Value} {kid : α → List UInt8} {KT : TypeId} {kv : List UInt8 → Value} {ok : List UInt8 → Prop}

/-- What is asked of a type of keys: kv tells the key of some bytes. -/
structure KeyOps (P : Program) (KT : TypeId) (kv : List UInt8 → Value) (ok : List UInt8 → Prop) : Prop where
  chk : ∀ id, ok id → ∀ (em : Bool) (w : World), (Instr.checkKey em 10000 KT (kv id)).run P w = .ok () w
  find : ∀ (α : Type) (val : α → Value) (kid : α → List UInt8) (L : List MapEntry) (M : List α) (id : List UInt8), ok id → ∀ w : World, L.map (fun x => (x.key, x.val)) = M.map (fun r => (kv (kid r), val r)) → (∀ r ∈ M, ok (kid r)) →
    (Instr.findKey KT (kv id) L).run P w = .ok (((M.findIdx? fun r => kid r == id).bind fun j => (M[j]?).map fun r => (j, val r))) w
  stay : ∀ id, ∀ w : World, (Instr.keyThatStays (kv id) (kv id)).run P w = .ok (kv id) w

/-- The first entry of a key: its place and what it is. -/
def fndM (kid : α → List UInt8) (M : List α) (id : List UInt8) : Option (Nat × α) := (M.findIdx? fun r => kid r == id).bind fun j => (M[j]?).map fun r => (j, r)
theorem fnd_some {M : List α} {id : List UInt8} {j : Nat} {r : α} (h : fndM kid M id = some (j, r)) : M[j]? = some r ∧ kid r = id := by
  unfold fndM at h
  simp only [Option.bind_eq_some_iff, Option.map_eq_some_iff, Prod.mk.injEq] at h
  obtain ⟨j', h1, r', h2, rfl, rfl⟩ := h
  refine ⟨h2, ?_⟩
  rw [List.findIdx?_eq_some_iff_getElem] at h1
  obtain ⟨hl, h3, _⟩ := h1
  rw [List.getElem?_eq_getElem hl, Option.some.injEq] at h2
  rw [h2] at h3
  simpa using h3
theorem fnd_none {M : List α} {id : List UInt8} (h : fndM kid M id = none) : ∀ r ∈ M, kid r ≠ id := by
  intro r hr e
  unfold fndM at h
  cases hf : M.findIdx? fun r => kid r == id with
  | none =>
    have := List.findIdx?_eq_none_iff.1 hf r hr
    simp [e] at this
  | some j =>
    rw [hf] at h
    rw [List.findIdx?_eq_some_iff_getElem] at hf
    obtain ⟨hl, _⟩ := hf
    simp [List.getElem?_eq_getElem hl] at h

variable {w : World} {g : Nat} {es : Array MapEntry} {clock : Nat} {M : List α} {mt ET : TypeId}

structure KeyM (P : Program) (KT : TypeId) (kv : List UInt8 → Value) (ok : List UInt8 → Prop) (key : α → Value) (kid : α → List UInt8) (M : List α) : Prop where
  ops : KeyOps P KT kv ok
  key : ∀ r, key r = kv (kid r)
  len : ∀ r ∈ M, ok (kid r)

theorem MapE.findK (hE : MapE key val es clock M) (hK : KeyM P KT kv ok key kid M) {id : List UInt8} (hl : ok id) (w : World) : (Instr.findKey KT (kv id) es.toList).run P w = .ok ((fndM kid M id).map fun p => (p.1, val p.2)) w := by
  have he : es.toList.map (fun x => (x.key, x.val)) = M.map (fun r => (kv (kid r), val r)) := by
    rw [hE.ents]
    refine List.map_congr_left fun r _ => ?_
    rw [hK.key]
  rw [hK.ops.find α val kid es.toList M id hl w he hK.len]
  unfold fndM
  cases M.findIdx? fun r => kid r == id with
  | none => rfl
  | some j => cases h : M[j]? <;> simp [h]

def updM (kid : α → List UInt8) (M : List α) (r : α) : List α := match fndM kid M (kid r) with
  | some (j, _) => M.set j r
  | none => M ++ [r]

theorem MapE.updateK (hE : MapE key val es clock M) (hK : KeyM P KT kv ok key kid M) (hm : P.underlying mt = some (.map KT ET)) (hg : w.heap[g]? = some (.map es clock)) (r : α) (hr : ok (kid r)) :
    ∃ es' clock', (Instr.mapUpdate mt (.map (some g)) (kv (kid r)) (val r)).run P w = .ok () (w.putObj g (.map es' clock')) ∧ MapE key val es' clock' (updM kid M r) := by
  have hf := hE.findK hK hr w
  have hc := hK.ops.chk _ hr false w
  have hset : ∀ o : Obj, (setObj g o).run P w = .ok () (w.putObj g o) := fun o => by simp [setObj, Sem.run, hg, World.putObj]
  unfold updM
  cases h : fndM kid M (kid r) with
  | none =>
    rw [h] at hf
    refine ⟨es.push { key := kv (kid r), val := val r, born := clock }, clock + 1, ?_, ?_⟩
    · simp only [Instr.mapUpdate, getObj, Sem.run_bind, run_underlying hm, Result.andThen_ok, Sem.run, hg, Result.andThen, hc, hf, Option.map_none]
      exact hset _
    · refine ⟨?_, ?_, ?_⟩
      · rw [Array.toList_push, List.map_append, List.map_append, hE.ents]
        simp [hK.key]
      · rw [Array.toList_push, List.map_append, List.nodup_append]
        refine ⟨hE.born, by simp, ?_⟩
        intro a ha b hb
        simp only [List.map_cons, List.map_nil, List.mem_singleton] at hb
        obtain ⟨x, hx, rfl⟩ := List.mem_map.1 ha
        have := hE.old x hx
        omega
      · intro x hx
        rw [Array.toList_push, List.mem_append, List.mem_singleton] at hx
        rcases hx with hx | rfl
        · have := hE.old x hx; omega
        · show clock < clock + 1; omega
  | some p =>
    obtain ⟨j, s⟩ := p
    rw [h] at hf
    obtain ⟨hj, hs⟩ := fnd_some h
    have hjl : j < M.length := (List.getElem?_eq_some_iff.1 hj).1
    have hsz := hE.len
    have hx : es.toList[j]? = some es[j] := by simp [show j < es.size by omega]
    obtain ⟨s', h1, h2, h3⟩ := hE.at_ hx
    rw [hj, Option.some.injEq] at h1
    subst h1
    refine ⟨es.modify j fun e => { e with key := kv (kid r), val := val r }, clock, ?_, ?_⟩
    · have hk : (((es[j]?).map (·.key)).getD (kv (kid r))) = kv (kid r) := by
        rw [Array.getElem?_eq_getElem (by omega)]
        simp only [Option.map_some, Option.getD_some]
        rw [h2, hK.key, hs]
      have hst : (Instr.keyThatStays (kv (kid r)) (kv (kid r))).run P w = .ok (kv (kid r)) w := by
        exact hK.ops.stay _ w
      simp only [Instr.mapUpdate, getObj, Sem.run_bind, run_underlying hm, Result.andThen_ok, Sem.run, hg, Result.andThen, hc, hf, Option.map_some, hk, hst]
      exact hset _
    · have hl : (es.modify j fun e => { e with key := kv (kid r), val := val r }).toList = es.toList.modify j fun e => { e with key := kv (kid r), val := val r } := Array.toList_modify ..
      refine ⟨?_, ?_, ?_⟩
      · rw [hl]
        apply List.ext_getElem?
        intro i
        have := congrArg (fun l => l[i]?) hE.ents
        simp only [List.getElem?_map] at this
        rw [List.getElem?_map, List.getElem?_modify, List.getElem?_map, List.getElem?_set]
        by_cases hi : j = i
        · subst hi
          rw [hx]
          simp [hjl, hK.key]
        · simp only [if_neg hi]
          cases hq : es.toList[i]? <;> rw [hq] at this <;> simpa using this
      · rw [hl]
        have : (es.toList.modify j fun e => { e with key := kv (kid r), val := val r }).map (·.born) = es.toList.map (·.born) := by
          apply List.ext_getElem?
          intro i
          rw [List.getElem?_map, List.getElem?_modify, List.getElem?_map]
          by_cases hi : j = i
          · subst hi; rw [hx]; simp
          · simp only [if_neg hi]; cases es.toList[i]? <;> rfl
        rw [this]
        exact hE.born
      · intro x hxm
        rw [hl] at hxm
        obtain ⟨i, hi⟩ := List.getElem?_of_mem hxm
        rw [List.getElem?_modify] at hi
        by_cases hji : j = i
        · subst hji
          rw [hx] at hi
          simp at hi
          subst hi
          exact hE.old es[j] (by simp)
        · simp only [if_neg hji] at hi
          cases hq : es.toList[i]? with
          | none => rw [hq] at hi; simp at hi
          | some y => rw [hq] at hi; simp at hi; subst hi; exact hE.old y (List.mem_of_getElem? hq)

theorem MapE.deleteK (hE : MapE key val es clock M) (hK : KeyM P KT kv ok key kid M) (hm : P.underlying mt = some (.map KT ET)) (hg : w.heap[g]? = some (.map es clock)) {id : List UInt8} (hl : ok id) (ts : Array TypeId) (hts : ts[0]? = some mt) (ty : TypeId) :
    ∃ es', (Builtin.delete_ ts ty #[.map (some g), kv id]).run P w = .ok (.tuple #[]) (w.putObj g (.map es' clock)) ∧ (∀ j r, fndM kid M id = some (j, r) → es' = es.eraseIdxIfInBounds j ∧ MapE key val es' clock (M.eraseIdx j)) ∧ (fndM kid M id = none → es' = es ∧ MapE key val es' clock M) := by
  have hf := hE.findK hK hl w
  have hc := hK.ops.chk _ hl es.isEmpty w
  have hset : ∀ o : Obj, (setObj g o).run P w = .ok () (w.putObj g o) := fun o => by simp [setObj, Sem.run, hg, World.putObj]
  cases h : fndM kid M id with
  | none =>
    rw [h] at hf
    refine ⟨es, ?_, by simp, fun _ => ⟨rfl, hE⟩⟩
    simp [Builtin.delete_, getObj, hts, run_underlying hm, Sem.run, hg, Result.andThen, hc, hf, hset]
  | some p =>
    obtain ⟨j, s⟩ := p
    rw [h] at hf
    obtain ⟨hj, hs⟩ := fnd_some h
    have hjl : j < M.length := (List.getElem?_eq_some_iff.1 hj).1
    have hsz := hE.len
    refine ⟨es.eraseIdxIfInBounds j, ?_, ?_, by simp⟩
    · simp [Builtin.delete_, getObj, hts, run_underlying hm, Sem.run, hg, Result.andThen, hc, hf, hset]
    · rintro j' r' h'
      simp only [Option.some.injEq, Prod.mk.injEq] at h'
      obtain ⟨rfl, rfl⟩ := h'
      have hle : (es.eraseIdxIfInBounds j).toList = es.toList.eraseIdx j := by simp [Array.eraseIdxIfInBounds, show j < es.size by omega]
      refine ⟨rfl, ?_, ?_, ?_⟩
      · rw [hle, Go.ChangeMaps.map_eraseIdx, Go.ChangeMaps.map_eraseIdx, hE.ents]
      · rw [hle, Go.ChangeMaps.map_eraseIdx]
        exact hE.born.sublist (List.eraseIdx_sublist _ _)
      · intro x hx
        rw [hle] at hx
        exact hE.old x ((List.eraseIdx_sublist _ _).subset hx)

theorem MapE.lookupK (hE : MapE key val es clock M) (hK : KeyM P KT kv ok key kid M) (hm : P.underlying mt = some (.map KT ET)) (hg : w.heap[g]? = some (.map es clock)) {id : List UInt8} (hl : ok id) {z : Value} (hz : ∀ w, (zeroValue ET).run P w = .ok z w) :
    (Instr.lookup mt (.map (some g)) (kv id) true).run P w = .ok (.tuple #[((fndM kid M id).map fun p => val p.2).getD z, .bool (fndM kid M id).isSome]) w := by
  have hf := hE.findK hK hl w
  have hc := hK.ops.chk _ hl es.isEmpty w
  cases h : fndM kid M id with
  | none =>
    rw [h] at hf
    simp [Instr.lookup, getObj, run_underlying hm, Sem.run, hg, Result.andThen, hc, hf, hz]
  | some p =>
    rw [h] at hf
    simp [Instr.lookup, getObj, run_underlying hm, Sem.run, hg, Result.andThen, hc, hf]

theorem MapE.lenOf (hE : MapE key val es clock M) (hm : P.underlying mt = some (.map KT ET)) (hg : w.heap[g]? = some (.map es clock)) (ty : TypeId) : (Builtin.len_ #[mt] ty #[.map (some g)]).run P w = .ok (.int .i64 (M.length : Int)) w := by
  have := hE.len
  simp [Builtin.len_, getObj, run_underlying hm, Sem.run, hg, Result.andThen, goInt, this]
end

end Go.Proofs.Ytoijbpkplegnkaa.Sx
