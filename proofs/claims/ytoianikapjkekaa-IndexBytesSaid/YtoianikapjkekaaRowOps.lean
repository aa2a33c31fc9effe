/- Rows of whole numbers, rows of calls of an Index, opened (conditions: none). -/
import Derived.Test.YtoianikapjkekaaRowRR
import Derived.Test.YtoianikapjkekaaIndW
namespace Go.Proofs.Ytoianikapjkekaa
open Go Sx Go.ChangeShapes Go.WideShapes Go.RowKit
set_option maxRecDepth 8000

theorem ints_of : ∀ (cs : List Value), (∀ v ∈ cs, ∃ z : Int, v = .int .i64 z) → ∃ l, cs = iv l
  | [], _ => ⟨[], rfl⟩
  | v :: cs, h => by
    obtain ⟨z, rfl⟩ := h v (by simp)
    obtain ⟨l, rfl⟩ := ints_of cs fun u hu => h u (by simp [hu])
    exact ⟨z :: l, rfl⟩

theorem trodInts {H : Type} {enc : TypeId × Value → H} {W : World} {fuel : Nat} {cs : List Value} {x : DataW H × List MemPlace} (hf : DataW.trod enc Try.prog W 0 (fun _ => true) true fuel 43 cs = some x) : ∃ a n c l, cs = [.slice a n c] ∧ RdI W a n c l := by
  obtain ⟨a', n', c', cs', m, hcs, hrd, hel⟩ := trodRows Try.underlying43 (show Try.prog.cellsOf 3 = 1 by kernel_rfl) (by decide) hf
  obtain ⟨l, hl⟩ := ints_of cs' fun v hv => by
    obtain ⟨i, hi⟩ := List.getElem?_of_mem hv
    have hil := (List.getElem?_eq_some_iff.1 hi).1
    have := hrd.len
    obtain ⟨y, hy⟩ := hel i (by omega)
    obtain ⟨z, e, _, _⟩ := DataW.trod_int Try.underlying3 hy
    refine ⟨z, ?_⟩
    rw [Nat.one_mul] at e
    have := congrArg (fun l => l[0]?) e
    simp [List.getElem?_take, List.getElem?_drop, hi] at this
    exact this
  subst hl
  exact ⟨a', n', c', l, hcs, hrd⟩

theorem openInts {H : Type} {enc : TypeId × Value → H} {W : World} {base : Nat} {v : Value} {d : DataW H} {ps : List MemPlace} (hval : Value.okWide Try.prog W .any base 43 v)
    (h : DataW.Trod enc Try.prog W 0 (fun _ => true) true 43 v d ps) : ∃ a n c l, v = .slice a n c ∧ RdI W a n c l := by
  obtain ⟨a, n, c, rfl⟩ := okWide_slice Try.underlying43 hval
  obtain ⟨fuel, hf⟩ := h
  obtain ⟨a', n', c', l, hcs, hr⟩ := trodInts hf
  simp [Value.cells] at hcs
  obtain ⟨rfl, rfl, rfl⟩ := hcs
  exact ⟨a, n, c, l, rfl, hr⟩

theorem openRefs {H : Type} {enc : TypeId × Value → H} {W : World} {base : Nat} {v : Value} {d : DataW H} {ps : List MemPlace} (hval : Value.okWide Try.prog W .any base 24 v)
    (h : DataW.Trod enc Try.prog W 0 (fun _ => true) true 24 v d ps) : ∃ a n c l, v = .slice a n c ∧ RdR W a n c l := by
  obtain ⟨a, n, c, rfl⟩ := okWide_slice Try.underlying24 hval
  obtain ⟨fuel, hf⟩ := h
  obtain ⟨a', n', c', l, hcs, hr⟩ := trodRefs hf
  simp [Value.cells] at hcs
  obtain ⟨rfl, rfl, rfl⟩ := hcs
  exact ⟨a, n, c, l, rfl, hr⟩

theorem blocks_of {α : Type} {enc : α → List Value} {k : Nat} {Q : α → Prop} : ∀ (n : Nat) (cs : List Value), cs.length = n * k → (∀ i, i < n → ∃ r : α, (cs.drop (i * k)).take k = enc r ∧ Q r) → ∃ l : List α, cs = l.flatMap enc ∧ ∀ r ∈ l, Q r
  | 0, cs, h, _ => ⟨[], List.eq_nil_of_length_eq_zero (by omega), by simp⟩
  | n + 1, cs, h, hb => by
    obtain ⟨r, hr, hq⟩ := hb 0 (by omega)
    rw [Nat.zero_mul, List.drop_zero] at hr
    obtain ⟨l, hl, hql⟩ := blocks_of (enc := enc) (Q := Q) n (cs.drop k) (by rw [List.length_drop, h, Nat.succ_mul, Nat.add_sub_cancel]) fun i hi => by
      obtain ⟨q, hq, hqq⟩ := hb (i + 1) (by omega)
      exact ⟨q, by rw [List.drop_drop, show k + i * k = (i + 1) * k by rw [Nat.succ_mul]; omega]; exact hq, hqq⟩
    refine ⟨r :: l, ?_, ?_⟩
    · rw [List.flatMap_cons, ← hl, ← hr, List.take_append_drop]
    · intro x hx
      rcases List.mem_cons.1 hx with rfl | hx
      · exact hq
      · exact hql x hx

theorem trodOp {H : Type} {enc : TypeId × Value → H} {W : World} {fuel : Nat} {cs : List Value} {x : DataW H × List MemPlace} (hf : DataW.trod enc Try.prog W 0 (fun _ => true) true fuel 45 cs = some x) :
    ∃ o : OpH, cs = opC o ∧ (∃ rs : Refs, RdR W o.ra o.rn o.rc rs) ∧ ∃ ps : List Int, RdI W o.pa o.pn o.pc ps := by
  have hu := Try.underlying45
  obtain ⟨xs, m, _, hx, hlen, hxl, hel⟩ := DataW.trod_struct hu hf
  have c1 : Try.prog.cellsOf 3 = 1 := by kernel_rfl
  have c2 : Try.prog.cellsOf 24 = 1 := by kernel_rfl
  have c3 : Try.prog.cellsOf 43 = 1 := by kernel_rfl
  have cT : Try.prog.cellsOf 45 = 3 := by kernel_rfl
  have k0 : DataW.trod enc Try.prog W 0 (fun _ => true) true m 3 ((cs.drop 0).take (Try.prog.cellsOf 3)) = xs[0]? := hel 0 _ rfl
  have k1 : DataW.trod enc Try.prog W 0 (fun _ => true) true m 24 ((cs.drop 1).take (Try.prog.cellsOf 24)) = xs[1]? := hel 1 _ rfl
  have k2 : DataW.trod enc Try.prog W 0 (fun _ => true) true m 43 ((cs.drop 2).take (Try.prog.cellsOf 43)) = xs[2]? := hel 2 _ rfl
  have hx3 : xs.length = 3 := hxl
  rw [c1] at k0
  rw [c2] at k1
  rw [c3] at k2
  have hlen : cs.length = 3 := by rw [← cT]; exact hlen
  rw [List.getElem?_eq_getElem (by omega)] at k0 k1 k2
  obtain ⟨z, e0, _, w0⟩ := DataW.trod_int Try.underlying3 k0
  obtain ⟨ra, rn, rc, rs, e1, hrs⟩ := trodRefs k1
  obtain ⟨pa, pn, pc, ps, e2, hps⟩ := trodInts k2
  refine ⟨⟨z, ra, rn, rc, pa, pn, pc⟩, ?_, ⟨rs, hrs⟩, ps, hps⟩
  have s0 := rcut cs 0 1
  have s1 := rcut cs 1 1
  have s2 : (cs.drop 2).take 1 = cs.drop 2 := List.take_of_length_le (by simp; omega)
  rw [e0] at s0
  rw [e1] at s1
  rw [e2] at s2
  simp only [Nat.zero_add, Nat.reduceAdd, List.drop_zero] at s0 s1 s2
  rw [opC, ← s0, ← s1, ← s2]
  rfl

theorem openOps {H : Type} {enc : TypeId × Value → H} {W : World} {base : Nat} {v : Value} {d : DataW H} {ps : List MemPlace} (hval : Value.okWide Try.prog W .any base 38 v)
    (h : DataW.Trod enc Try.prog W 0 (fun _ => true) true 38 v d ps) : ∃ a n c l, v = .slice a n c ∧ RdOps W a n c l := by
  have hu := Try.underlying38
  obtain ⟨a, n, c, rfl⟩ := okWide_slice hu hval
  obtain ⟨fuel, hf⟩ := h
  obtain ⟨a', n', c', cs, m, hcs, hrd, hel⟩ := trodRows hu (show Try.prog.cellsOf 45 = 3 by kernel_rfl) (by decide) hf
  simp [Value.cells] at hcs
  obtain ⟨rfl, rfl, rfl⟩ := hcs
  obtain ⟨l, rfl, hl⟩ := blocks_of (enc := opC) (k := 3) (Q := fun o : OpH => (∃ rs : Refs, RdR W o.ra o.rn o.rc rs) ∧ ∃ ps : List Int, RdI W o.pa o.pn o.pc ps) n cs hrd.len fun i hi => by
    obtain ⟨y, hy⟩ := hel i hi
    obtain ⟨o, h1, h2⟩ := trodOp hy
    refine ⟨o, ?_, h2⟩
    first
      | exact h1
      | (rw [Nat.mul_comm]; exact h1)
  exact ⟨a, n, c, l, rfl, ⟨hrd, fun _ _ => rfl⟩, fun o ho => (hl o ho).1, fun o ho => (hl o ho).2⟩

end Go.Proofs.Ytoianikapjkekaa
