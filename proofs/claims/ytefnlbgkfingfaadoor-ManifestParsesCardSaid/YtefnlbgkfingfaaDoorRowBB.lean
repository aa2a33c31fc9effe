/- A list of byte slices, opened (conditions: none). -/
import Derived.Test.YtefnlbgkfingfaaDoorRowKit
import Derived.Test.YtefnlbgkfingfaaDoorLists
namespace Go.Proofs.YtefnlbgkfingfaaDoor
open Go Sx Go.ChangeShapes Go.WideShapes Go.RowKit
set_option maxRecDepth 8000

theorem openBB {H : Type} {enc : TypeId × Value → H} {W : World} {base : Nat} {v : Value} {d : DataW H} {ps : List MemPlace} (hval : Value.okWide Tryd.prog W .any base 32 v)
    (h : DataW.Trod enc Tryd.prog W 0 (fun _ => true) true 32 v d ps) : ∃ a n c vs ls, v = .slice a n c ∧ Rd W a n c 1 vs ∧ Row2 W vs ls := by
  have hu := Tryd.underlying32
  obtain ⟨a, n, c, rfl⟩ := okWide_slice hu hval
  obtain ⟨fuel, hf⟩ := h
  obtain ⟨a', n', c', cs, m, hcs, hrd, hel⟩ := trodRows hu (show Tryd.prog.cellsOf 23 = 1 by kernel_rfl) (by decide) hf
  simp [Value.cells] at hcs
  obtain ⟨rfl, rfl, rfl⟩ := hcs
  have hlen : cs.length = n := by have := hrd.len; omega
  have each : ∀ i, i < n → ∃ l : List UInt8, ∃ a k c, cs[i]? = some (.slice a k c) ∧ RdB W a k c l := by
    intro i hi
    obtain ⟨y, hy⟩ := hel i hi
    obtain ⟨a, k, c, l, e, hr, _⟩ := trodB hy
    refine ⟨l, a, k, c, ?_, hr⟩
    rw [Nat.one_mul] at e
    have := congrArg (fun l => l[0]?) e
    simpa [List.getElem?_take, List.getElem?_drop] using this
  refine ⟨a, n, c, cs, (List.range n).map fun i => if hi : i < n then (each i hi).choose else [], rfl, hrd, by simp [hlen], fun i hi => ?_⟩
  have hi' : i < n := by simpa using hi
  obtain ⟨a', k, c', h1, h2⟩ := (each i hi').choose_spec
  refine ⟨a', k, c', h1, ?_⟩
  have : ((List.range n).map fun i => if hi : i < n then (each i hi).choose else []).getD i [] = (each i hi').choose := by
    simp [List.getD, hi']
  rw [this]; exact h2

end Go.Proofs.YtefnlbgkfingfaaDoor
