/- Rows of refs, and rows of these, opened (conditions: none). -/
import Derived.Test.YtoianikapjkekaaRowRef
import Derived.Test.YtoianikapjkekaaIndQ
namespace Go.Proofs.Ytoianikapjkekaa
open Go Sx Go.ChangeShapes Go.WideShapes Go.RowKit
set_option maxRecDepth 8000

theorem blocks_refs : ∀ (n : Nat) (cs : List Value), cs.length = n * 35 → (∀ i, i < n → ∃ r : RefD, (cs.drop (i * 35)).take 35 = refC r) → ∃ l : Refs, cs = l.flatMap refC
  | 0, cs, h, _ => ⟨[], List.eq_nil_of_length_eq_zero (by omega)⟩
  | n + 1, cs, h, hb => by
    obtain ⟨r, hr⟩ := hb 0 (by omega)
    rw [Nat.zero_mul, List.drop_zero] at hr
    obtain ⟨l, hl⟩ := blocks_refs n (cs.drop 35) (by rw [List.length_drop, h]; omega) fun i hi => by
      obtain ⟨q, hq⟩ := hb (i + 1) (by omega)
      exact ⟨q, by rw [List.drop_drop, show 35 + i * 35 = (i + 1) * 35 by omega]; exact hq⟩
    refine ⟨r :: l, ?_⟩
    rw [List.flatMap_cons, ← hl, ← hr, List.take_append_drop]

theorem trodRefs {H : Type} {enc : TypeId × Value → H} {W : World} {fuel : Nat} {cs : List Value} {x : DataW H × List MemPlace} (hf : DataW.trod enc Try.prog W 0 (fun _ => true) true fuel 24 cs = some x) : ∃ a n c l, cs = [.slice a n c] ∧ RdR W a n c l := by
  obtain ⟨a', n', c', cs', m, hcs, hrd, hel⟩ := trodRows Try.underlying24 (show Try.prog.cellsOf 52 = 35 by kernel_rfl) (by decide) hf
  obtain ⟨l, hl⟩ := blocks_refs n' cs' hrd.len fun i hi => by
    obtain ⟨y, hy⟩ := hel i hi
    obtain ⟨r, hr⟩ := trodRef hy
    refine ⟨r, ?_⟩
    first
      | exact hr
      | (rw [Nat.mul_comm]; exact hr)
  subst hl
  exact ⟨a', n', c', l, hcs, hrd, fun x _ => refC_len x⟩

theorem openRR {H : Type} {enc : TypeId × Value → H} {W : World} {base : Nat} {v : Value} {d : DataW H} {ps : List MemPlace} (hval : Value.okWide Try.prog W .any base 22 v)
    (h : DataW.Trod enc Try.prog W 0 (fun _ => true) true 22 v d ps) : ∃ a n c vs ls, v = .slice a n c ∧ Rd W a n c 1 vs ∧ RowR W vs ls := by
  have hu := Try.underlying22
  obtain ⟨a, n, c, rfl⟩ := okWide_slice hu hval
  obtain ⟨fuel, hf⟩ := h
  obtain ⟨a', n', c', cs, m, hcs, hrd, hel⟩ := trodRows hu (show Try.prog.cellsOf 24 = 1 by kernel_rfl) (by decide) hf
  simp [Value.cells] at hcs
  obtain ⟨rfl, rfl, rfl⟩ := hcs
  have hlen : cs.length = n := by have := hrd.len; omega
  have each : ∀ i, i < n → ∃ l : Refs, ∃ a k c, cs[i]? = some (.slice a k c) ∧ RdR W a k c l := by
    intro i hi
    obtain ⟨y, hy⟩ := hel i hi
    obtain ⟨a, k, c, l, e, hr⟩ := trodRefs hy
    refine ⟨l, a, k, c, ?_, hr⟩
    rw [Nat.one_mul] at e
    have := congrArg (fun l => l[0]?) e
    simpa [List.getElem?_take, List.getElem?_drop] using this
  refine ⟨a, n, c, cs, (List.range n).map fun i => if hi : i < n then (each i hi).choose else [], rfl, hrd, by simp [hlen], fun i l hl => ?_⟩
  have hi' : i < n := by have := (List.getElem?_eq_some_iff.1 hl).1; simpa using this
  obtain ⟨a', k, c', h1, h2⟩ := (each i hi').choose_spec
  refine ⟨a', k, c', h1, ?_⟩
  rw [List.getElem?_map, List.getElem?_range hi'] at hl
  simp only [Option.map_some, hi', dif_pos, Option.some.injEq] at hl
  rw [← hl]
  exact h2

end Go.Proofs.Ytoianikapjkekaa
