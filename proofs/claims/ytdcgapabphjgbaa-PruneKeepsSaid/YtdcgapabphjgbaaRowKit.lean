/- The arguments of a statement, opened as this session's walks ask for them (conditions: none). -/
import Derived.Test.YtdcgapabphjgbaaSxSeat
import Derived.ChangeSlices
import Derived.SizedLaws
import Derived.OpenShut
import Derived.Below
import Derived.ProofKit
namespace Go.Proofs.Ytdcgapabphjgbaa
open Go Sx Go.ChangeShapes Go.WideShapes Go.RowKit
set_option maxRecDepth 8000

theorem u8_back {z : Int} (h : (Lit.int .u8 z).wf = true) : (((UInt8.ofNat z.toNat).toNat : Nat) : Int) = z := by
  have := bounds_u8 h
  simp
  omega

/-- An array of bytes, opened. -/
theorem trodArr {H : Type} {enc : TypeId × Value → H} {W : World} {t n fuel : Nat} {cs : List Value} {x : DataW H × List MemPlace} (ht : Try.prog.underlying t = some (.array n 5)) (hc : Try.prog.cellsOf 5 = 1) (hn : Try.prog.cellsOf t = n)
    (hf : DataW.trod enc Try.prog W 0 (fun _ => true) true fuel t cs = some x) : ∃ l : List UInt8, cs = bv l ∧ l.length = n := by
  obtain ⟨xs, m, _, _, hlen, hxl, hel⟩ := DataW.trod_array ht hf
  have each : ∀ i, i < n → ∃ z : Int, cs[i]? = some (.int .u8 z) ∧ (Lit.int .u8 z).wf = true := by
    intro i hi
    have h1 := hel i hi
    rw [hc, Nat.mul_one, List.getElem?_eq_getElem (by omega)] at h1
    obtain ⟨z, h2, _, h3⟩ := DataW.trod_int bE h1
    refine ⟨z, ?_, h3⟩
    have := congrArg (fun l => l[0]?) h2
    simpa [List.getElem?_take, List.getElem?_drop] using this
  refine ⟨cs.map fun v => match v with | .int _ z => UInt8.ofNat z.toNat | _ => 0, ?_, by simp; omega⟩
  apply List.ext_getElem?
  intro i
  rw [bv_get, List.getElem?_map]
  by_cases hi : i < n
  · obtain ⟨z, h1, h2⟩ := each i hi
    rw [h1]
    simp only [Option.map_some]
    rw [u8_back h2]
  · rw [List.getElem?_eq_none (by omega)]; rfl

theorem openArr {H : Type} {enc : TypeId × Value → H} {W : World} {base t n : Nat} {v : Value} {d : DataW H} {ps : List MemPlace} (ht : Try.prog.underlying t = some (.array n 5)) (hc : Try.prog.cellsOf 5 = 1) (hn : Try.prog.cellsOf t = n) (hval : Value.okWide Try.prog W .any base t v)
    (h : DataW.Trod enc Try.prog W 0 (fun _ => true) true t v d ps) : ∃ l : List UInt8, v = .agg (bv l).toArray ∧ l.length = n := by
  obtain ⟨fuel, hf⟩ := h
  obtain ⟨l, h1, h2⟩ := trodArr ht hc hn hf
  simp only [Value.okWide, ht] at hval
  obtain ⟨cs, rfl, _⟩ := hval
  refine ⟨l, ?_, h2⟩
  simp only [Value.cells] at h1
  rw [← h1]

/-- A slice that came in, with its elements' cells. -/
theorem trodRows {H : Type} {enc : TypeId × Value → H} {W : World} {t e sz fuel : Nat} {cs0 : List Value} {x : DataW H × List MemPlace} (hu : Try.prog.underlying t = some (.slice e)) (hc : Try.prog.cellsOf e = sz) (hsz : 0 < sz)
    (hf : DataW.trod enc Try.prog W 0 (fun _ => true) true fuel t cs0 = some x) :
    ∃ a n c cs m, cs0 = [.slice a n c] ∧ Rd W a n c sz cs ∧ ∀ i, i < n → ∃ y, DataW.trod enc Try.prog W 0 (fun _ => true) true m e ((cs.drop (sz * i)).take sz) = some y := by
  rcases DataW.trod_slice hu hf with ⟨rfl, _⟩ | ⟨a, n, c, elems, rest, m, _, rfl, _, _, hle, _, hel, hget, _⟩
  · exact ⟨none, 0, 0, [], 0, rfl, ⟨Cells.nil _ _, by simp, Nat.le_refl _, fun _ => rfl⟩, fun i hi => by omega⟩
  · rw [hc] at hget
    have each : ∀ i, i < n → ∃ f : List Value, W.cells? 0 (a.add (i * sz)) sz = some f ∧ ∃ y, DataW.trod enc Try.prog W 0 (fun _ => true) true m e f = some y := by
      intro i hi
      have h1 := hget i hi
      rw [List.getElem?_eq_getElem (by omega)] at h1
      obtain ⟨f, h2, h3⟩ := Option.bind_eq_some_iff.1 h1
      exact ⟨f, h2, _, h3⟩
    rcases Nat.eq_zero_or_pos n with h0 | h0
    · subst h0
      exact ⟨some a, 0, c, [], m, rfl, ⟨Cells.nil _ _, by simp, hle, by simp⟩, fun i hi => by omega⟩
    · obtain ⟨b, o, sp⟩ := a
      have hsp : sp = none := by
        obtain ⟨f, h2, _⟩ := each 0 h0
        obtain ⟨_, h3, h4⟩ := World.cells?_some h2
        cases sp with
        | none => rfl
        | some s =>
          have h5 := h4 0 hsz
          have h6 : 0 < f.length := by omega
          rw [List.getElem?_eq_getElem h6] at h5
          simp only [Nat.zero_mul, Addr.add, if_true, World.cell?] at h5
          split at h5 <;> simp at h5
      subst hsp
      have cell : ∀ i, i < n → ∃ f : List Value, f.length = sz ∧ (∀ j, j < sz → W.cell? ⟨b, o + (i * sz + j), none⟩ = f[j]?) ∧ ∃ y, DataW.trod enc Try.prog W 0 (fun _ => true) true m e f = some y := by
        intro i hi
        obtain ⟨f, h2, h5⟩ := each i hi
        obtain ⟨_, h3, h4⟩ := World.cells?_some h2
        refine ⟨f, h3, fun j hj => ?_, h5⟩
        have := h4 j hj
        rw [Addr.add_mid, Addr.add_mid] at this
        rw [← Nat.add_assoc]; exact this
      refine ⟨some ⟨b, o, none⟩, n, c, (List.range (n * sz)).map fun j => (W.cell? ⟨b, o + j, none⟩).getD .nilIface, m, rfl, ⟨.inr ⟨b, o, rfl, fun j v hj => ?_⟩, by simp, hle, by simp⟩, fun i hi => ?_⟩
      · have hjl : j < n * sz := by have := (List.getElem?_eq_some_iff.1 hj).1; simpa using this
        have hi : j / sz < n := Nat.div_lt_of_lt_mul (by rw [Nat.mul_comm]; exact hjl)
        obtain ⟨f, h3, h4, _⟩ := cell (j / sz) hi
        have h5 := h4 (j % sz) (Nat.mod_lt _ hsz)
        rw [show j / sz * sz + j % sz = j by rw [Nat.mul_comm]; exact Nat.div_add_mod j sz, List.getElem?_eq_getElem (by rw [h3]; exact Nat.mod_lt _ hsz)] at h5
        rw [List.getElem?_map, List.getElem?_range hjl] at hj
        simp only [Option.map_some, h5, Option.getD_some, Option.some.injEq] at hj
        rw [h5, hj]
      · obtain ⟨f, h3, h4, y, h5⟩ := cell i hi
        refine ⟨y, ?_⟩
        have hf' : (((List.range (n * sz)).map fun j => (W.cell? ⟨b, o + j, none⟩).getD .nilIface).drop (sz * i)).take sz = f := by
          apply List.ext_getElem?
          intro j
          rw [List.getElem?_take]
          by_cases hj : j < sz
          · have hlt : sz * i + j < n * sz := by
              have : sz * i + sz ≤ sz * n := by rw [← Nat.mul_succ]; exact Nat.mul_le_mul_left _ hi
              rw [Nat.mul_comm n]; omega
            rw [if_pos hj, List.getElem?_drop, List.getElem?_map, List.getElem?_range hlt]
            have h6 := h4 j hj
            rw [Nat.mul_comm i, List.getElem?_eq_getElem (by omega)] at h6
            simp only [Option.map_some, h6, Option.getD_some]
            rw [List.getElem?_eq_getElem (by omega)]
          · rw [if_neg hj, List.getElem?_eq_none (by omega)]
        rw [hf']; exact h5

theorem sizedB {H : Type} {P : Program} {ts : List TypeId} {ds : List (DataW H)} {j n c : Nat} {t e : TypeId} {d : DataW H} (hsz : (DataW.weightsEach P ts ds).all (· ≤ reachBytes) = true) (ht : ts[j]? = some t) (hd : ds[j]? = some d)
    (hu : P.underlying t = some (.slice e)) (hB : P.bytesOf e = 1) (h : (d = .nil ∧ c = 0) ∨ ∃ es sp, d = .slice es sp ∧ es.length + sp.length = c) (hn : n ≤ c) : n ≤ 140737488351232 := by
  rcases h with ⟨_, h0⟩ | ⟨es, sp, rfl, h0⟩
  · omega
  · have z := sized_slice hsz ht hd hu
    rw [hB] at z
    have : reachBytes = 140737488351232 := by decide
    omega

end Go.Proofs.Ytdcgapabphjgbaa
