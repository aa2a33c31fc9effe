/- Rows opened, with their weights (conditions: none). -/
import Derived.Test.YtoijbpkplegnkaaRowKit
namespace Go.Proofs.Ytoijbpkplegnkaa
open Go Sx Go.ChangeShapes Go.WideShapes Go.RowKit
set_option maxRecDepth 8000

theorem weightsAll_mem {H : Type} {P : Program} {e : TypeId} {d : DataW H} {k : Nat} : ∀ {ds : List (DataW H)}, d ∈ ds → k ∈ d.weights P e → k ∈ DataW.weightsAll P e ds
  | [], h, _ => by simp at h
  | d' :: ds, h, hk => by
    simp only [DataW.weightsAll, List.mem_append]
    rcases List.mem_cons.1 h with rfl | h
    · exact .inl hk
    · exact .inr (weightsAll_mem h hk)

theorem trod_parts {H : Type} {P : Program} {t : TypeId} {fs : Array Field} {xs : List (DataW H × List MemPlace)} {x : DataW H × List MemPlace} (hu : P.underlying t = some (.struct fs)) (hx : x = (.agg (xs.map (·.1)), xs.flatMap (·.2))) {i : Nat} {T : TypeId} {y : DataW H × List MemPlace} (hT : (fs.toList.map (·.type))[i]? = some T) (hy : xs[i]? = some y) :
    ∀ k ∈ y.1.weights P T, k ∈ x.1.weights P t := fun k hk => by
  rw [hx]
  simp only [DataW.weights, hu]
  exact DataW.weights_mem_each hT (by rw [List.getElem?_map, hy]; rfl) k hk

/-- A slice that came in, with its elements' cells and its weights. -/
theorem trodRowsW {H : Type} {enc : TypeId × Value → H} {W : World} {t e sz fuel : Nat} {cs0 : List Value} {x : DataW H × List MemPlace} (hu : Try.prog.underlying t = some (.slice e)) (hc : Try.prog.cellsOf e = sz) (hsz : 0 < sz)
    (hf : DataW.trod enc Try.prog W 0 (fun _ => true) true fuel t cs0 = some x) :
    ∃ a n c cs m, cs0 = [.slice a n c] ∧ Rd W a n c sz cs ∧ (n = 0 ∨ ∃ k ∈ x.1.weights Try.prog t, n * Try.prog.bytesOf e ≤ k) ∧ ∀ i, i < n → ∃ y, DataW.trod enc Try.prog W 0 (fun _ => true) true m e ((cs.drop (sz * i)).take sz) = some y ∧ ∀ k ∈ y.1.weights Try.prog e, k ∈ x.1.weights Try.prog t := by
  rcases DataW.trod_slice hu hf with ⟨rfl, _⟩ | ⟨a, n, c, elems, rest, m, _, rfl, hx, _, hle, _, hel, hget, _⟩
  · exact ⟨none, 0, 0, [], 0, rfl, ⟨Cells.nil _ _, by simp, Nat.le_refl _, fun _ => rfl⟩, .inl rfl, fun i hi => by omega⟩
  · have hwt : x.1.weights Try.prog t = (elems.length + rest.length) * Try.prog.bytesOf e :: (DataW.weightsAll Try.prog e (elems.map (·.1)) ++ DataW.weightsAll Try.prog e (rest.map (·.1))) := by rw [hx]; simp [DataW.weights, hu]
    have hw0 : n = 0 ∨ ∃ k ∈ x.1.weights Try.prog t, n * Try.prog.bytesOf e ≤ k := .inr ⟨_, by rw [hwt]; exact List.mem_cons_self, Nat.mul_le_mul_right _ (by omega)⟩
    have hwy : ∀ y ∈ elems, ∀ k ∈ y.1.weights Try.prog e, k ∈ x.1.weights Try.prog t := fun y hy k hk => by
      rw [hwt]
      exact List.mem_cons_of_mem _ (List.mem_append_left _ (weightsAll_mem (List.mem_map.2 ⟨y, hy, rfl⟩) hk))
    rw [hc] at hget
    have each : ∀ i, i < n → ∃ f : List Value, W.cells? 0 (a.add (i * sz)) sz = some f ∧ ∃ y, DataW.trod enc Try.prog W 0 (fun _ => true) true m e f = some y ∧ y ∈ elems := by
      intro i hi
      have h1 := hget i hi
      rw [List.getElem?_eq_getElem (by omega)] at h1
      obtain ⟨f, h2, h3⟩ := Option.bind_eq_some_iff.1 h1
      exact ⟨f, h2, _, h3, List.getElem_mem _⟩
    rcases Nat.eq_zero_or_pos n with h0 | h0
    · subst h0
      exact ⟨some a, 0, c, [], m, rfl, ⟨Cells.nil _ _, by simp, hle, by simp⟩, .inl rfl, fun i hi => by omega⟩
    · obtain ⟨b, o, sp⟩ := a
      have hsp : sp = none := by
        obtain ⟨f, h2, _⟩ := each 0 h0
        obtain ⟨_, h3, h4⟩ := World.cells?_some h2
        cases sp with
        | none => rfl
        | some s =>
          have h5 := h4 0 hsz
          have h6 : 0 < f.length := by omega
          rw [List.getElem?_eq_getElem h6] at h5
          simp only [Nat.zero_mul, Addr.add, if_true, World.cell?] at h5
          split at h5 <;> simp at h5
      subst hsp
      have cell : ∀ i, i < n → ∃ f : List Value, f.length = sz ∧ (∀ j, j < sz → W.cell? ⟨b, o + (i * sz + j), none⟩ = f[j]?) ∧ ∃ y, DataW.trod enc Try.prog W 0 (fun _ => true) true m e f = some y ∧ y ∈ elems := by
        intro i hi
        obtain ⟨f, h2, h5⟩ := each i hi
        obtain ⟨_, h3, h4⟩ := World.cells?_some h2
        refine ⟨f, h3, fun j hj => ?_, h5⟩
        have := h4 j hj
        rw [Addr.add_mid, Addr.add_mid] at this
        rw [← Nat.add_assoc]; exact this
      refine ⟨some ⟨b, o, none⟩, n, c, (List.range (n * sz)).map fun j => (W.cell? ⟨b, o + j, none⟩).getD .nilIface, m, rfl, ⟨.inr ⟨b, o, rfl, fun j v hj => ?_⟩, by simp, hle, by simp⟩, hw0, fun i hi => ?_⟩
      · have hjl : j < n * sz := by have := (List.getElem?_eq_some_iff.1 hj).1; simpa using this
        have hi : j / sz < n := Nat.div_lt_of_lt_mul (by rw [Nat.mul_comm]; exact hjl)
        obtain ⟨f, h3, h4, _⟩ := cell (j / sz) hi
        have h5 := h4 (j % sz) (Nat.mod_lt _ hsz)
        rw [show j / sz * sz + j % sz = j by rw [Nat.mul_comm]; exact Nat.div_add_mod j sz, List.getElem?_eq_getElem (by rw [h3]; exact Nat.mod_lt _ hsz)] at h5
        rw [List.getElem?_map, List.getElem?_range hjl] at hj
        simp only [Option.map_some, h5, Option.getD_some, Option.some.injEq] at hj
        rw [h5, hj]
      · obtain ⟨f, h3, h4, y, h5, h6⟩ := cell i hi
        refine ⟨y, ?_, hwy y h6⟩
        have hf' : (((List.range (n * sz)).map fun j => (W.cell? ⟨b, o + j, none⟩).getD .nilIface).drop (sz * i)).take sz = f := by
          apply List.ext_getElem?
          intro j
          rw [List.getElem?_take]
          by_cases hj : j < sz
          · have hlt : sz * i + j < n * sz := by
              have : sz * i + sz ≤ sz * n := by rw [← Nat.mul_succ]; exact Nat.mul_le_mul_left _ hi
              rw [Nat.mul_comm n]; omega
            rw [if_pos hj, List.getElem?_drop, List.getElem?_map, List.getElem?_range hlt]
            have h7 := h4 j hj
            rw [Nat.mul_comm i, List.getElem?_eq_getElem (by omega)] at h7
            simp only [Option.map_some, h7, Option.getD_some]
            rw [List.getElem?_eq_getElem (by omega)]
          · rw [if_neg hj, List.getElem?_eq_none (by omega)]
        rw [hf']; exact h5

end Go.Proofs.Ytoijbpkplegnkaa
