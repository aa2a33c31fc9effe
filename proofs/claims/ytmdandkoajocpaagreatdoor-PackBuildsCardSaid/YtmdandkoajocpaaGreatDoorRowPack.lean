/- A Case of chapter 13, opened (conditions: none). -/
import Derived.Test.YtmdandkoajocpaaGreatDoorRowKit
import Derived.Test.YtmdandkoajocpaaGreatDoorPackJ
namespace Go.Proofs.YtmdandkoajocpaaGreatDoor
open Go Sx Go.ChangeShapes Go.WideShapes Go.RowKit
set_option maxRecDepth 8000

theorem kcut13 {α : Type} (l : List α) (i a : Nat) : (l.drop i).take a ++ l.drop (i + a) = l.drop i := by
  have := List.take_append_drop a (l.drop i); rwa [List.drop_drop] at this

theorem trodBB {H : Type} {enc : TypeId × Value → H} {W : World} {m : Nat} {cs0 : List Value} {x : DataW H × List MemPlace} (h : DataW.trod enc Tryz.prog W 0 (fun _ => true) true m 23 cs0 = some x) :
    ∃ a n c vs ls, cs0 = [.slice a n c] ∧ Rd W a n c 1 vs ∧ Row2 W vs ls := by
  obtain ⟨a, n, c, cs, m, hcs, hrd, hel⟩ := trodRows Tryz.underlying23 (show Tryz.prog.cellsOf 33 = 1 by kernel_rfl) (by decide) h
  have hlen : cs.length = n := by have := hrd.len; omega
  have each : ∀ i, i < n → ∃ l : List UInt8, ∃ a k c, cs[i]? = some (.slice a k c) ∧ RdB W a k c l := by
    intro i hi
    obtain ⟨y, hy⟩ := hel i hi
    obtain ⟨a, k, c, l, e, hr, _⟩ := trodB hy
    refine ⟨l, a, k, c, ?_, hr⟩
    rw [Nat.one_mul] at e
    have := congrArg (fun l => l[0]?) e
    simpa [List.getElem?_take, List.getElem?_drop] using this
  refine ⟨a, n, c, cs, (List.range n).map fun i => if hi : i < n then (each i hi).choose else [], hcs, hrd, by simp [hlen], fun i hi => ?_⟩
  have hi' : i < n := by simpa using hi
  obtain ⟨a', k, c', h1, h2⟩ := (each i hi').choose_spec
  refine ⟨a', k, c', h1, ?_⟩
  have : ((List.range n).map fun i => if hi : i < n then (each i hi).choose else []).getD i [] = (each i hi').choose := by
    simp [List.getD, hi']
  rw [this]; exact h2

theorem openCase13 {H : Type} {enc : TypeId × Value → H} {W : World} {base : Nat} {v : Value} {d : DataW H} {ps : List MemPlace} (hval : Value.okWide Tryz.prog W .any base 25 v)
    (h : DataW.Trod enc Tryz.prog W 0 (fun _ => true) true 25 v d ps) :
    ∃ (C : CaseD), v = .agg (caseC C).toArray ∧ CaseR W C := by
  have hu := Tryz.underlying25
  obtain ⟨cs, rfl, _⟩ := okWide_struct hu hval
  obtain ⟨fuel, hf⟩ := h
  obtain ⟨xs, m, _, hx, hlen, hxl, hel⟩ := DataW.trod_struct hu hf
  have c1 : Tryz.prog.cellsOf 22 = 32 := by kernel_rfl
  have c2 : Tryz.prog.cellsOf 23 = 1 := by kernel_rfl
  have c3 : Tryz.prog.cellsOf 3 = 1 := by kernel_rfl
  have cT : Tryz.prog.cellsOf 25 = 35 := by kernel_rfl
  have k0 : DataW.trod enc Tryz.prog W 0 (fun _ => true) true m 22 ((cs.toList.drop 0).take (Tryz.prog.cellsOf 22)) = xs[0]? := hel 0 _ rfl
  have k1 : DataW.trod enc Tryz.prog W 0 (fun _ => true) true m 3 ((cs.toList.drop 32).take (Tryz.prog.cellsOf 3)) = xs[1]? := hel 1 _ rfl
  have k2 : DataW.trod enc Tryz.prog W 0 (fun _ => true) true m 23 ((cs.toList.drop 33).take (Tryz.prog.cellsOf 23)) = xs[2]? := hel 2 _ rfl
  have k3 : DataW.trod enc Tryz.prog W 0 (fun _ => true) true m 23 ((cs.toList.drop 34).take (Tryz.prog.cellsOf 23)) = xs[3]? := hel 3 _ rfl
  have hx4 : xs.length = 4 := hxl
  rw [c1] at k0
  rw [c3] at k1
  rw [c2] at k2 k3
  have hlen : cs.toList.length = 35 := by rw [← cT]; exact hlen
  rw [List.getElem?_eq_getElem (by omega)] at k0 k1 k2 k3
  obtain ⟨ms, e0, l0⟩ := trodArr Tryz.underlying22 (by kernel_rfl) c1 k0
  obtain ⟨z, e1, _, hz⟩ := DataW.trod_int Tryz.underlying3 k1
  obtain ⟨ia, i_n, ic, ivs, ids, e2, hr2, hq2⟩ := trodBB k2
  obtain ⟨ba, bn, bc, bvs, bls, e3, hr3, hq3⟩ := trodBB k3
  refine ⟨⟨ms, z, ia, i_n, ic, ivs, ids, ba, bn, bc, bvs, bls⟩, ?_, ⟨l0, hr2, hq2, hr3, hq3, ?_⟩⟩
  · have : cs.toList = caseC ⟨ms, z, ia, i_n, ic, ivs, ids, ba, bn, bc, bvs, bls⟩ := by
      have t3 : (cs.toList.drop 34).take 1 = cs.toList.drop 34 := List.take_of_length_le (by simp; omega)
      have s0 := kcut13 cs.toList 0 32
      have s1 := kcut13 cs.toList 32 1
      have s2 := kcut13 cs.toList 33 1
      rw [e0] at s0
      rw [e1] at s1
      rw [e2] at s2
      rw [e3] at t3
      simp only [Nat.zero_add, Nat.reduceAdd, List.drop_zero] at s0 s1 s2
      rw [caseC, ← s0, ← s1, ← s2, ← t3]
      rfl
    rw [← this]
  · have b := bounds_i64 hz
    exact ⟨by show -9223372036854775808 ≤ z; omega, by show z ≤ 9223372036854775807; omega⟩

end Go.Proofs.YtmdandkoajocpaaGreatDoor
