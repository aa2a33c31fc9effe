/- A Node of chapter 15, opened (conditions: none). -/
import Derived.Test.YtefnlbgkfingfaaDoorRowMani
import Derived.Test.YtefnlbgkfingfaaDoorManiN
namespace Go.Proofs.YtefnlbgkfingfaaDoor
open Go Sx Go.ChangeShapes Go.WideShapes Go.RowKit
set_option maxRecDepth 8000

theorem openNode {H : Type} {enc : TypeId × Value → H} {W : World} {base : Nat} {v : Value} {d : DataW H} {ps : List MemPlace} (hval : Value.okWide Tryd.prog W .any base 49 v)
    (h : DataW.Trod enc Tryd.prog W 0 (fun _ => true) true 49 v d ps) :
    ∃ lv a n c at' b l, v = .agg (nodeC lv a n c at' b).toArray ∧ RdB W a n c l := by
  have hu := Tryd.underlying49
  obtain ⟨cs, rfl, _⟩ := okWide_struct hu hval
  obtain ⟨fuel, hf⟩ := h
  obtain ⟨xs, m, _, hx, hlen, hxl, hel⟩ := DataW.trod_struct hu hf
  have c1 : Tryd.prog.cellsOf 3 = 1 := by kernel_rfl
  have c2 : Tryd.prog.cellsOf 23 = 1 := by kernel_rfl
  have c3 : Tryd.prog.cellsOf 5 = 1 := by kernel_rfl
  have cT : Tryd.prog.cellsOf 49 = 4 := by kernel_rfl
  have k0 : DataW.trod enc Tryd.prog W 0 (fun _ => true) true m 3 ((cs.toList.drop 0).take (Tryd.prog.cellsOf 3)) = xs[0]? := hel 0 _ rfl
  have k1 : DataW.trod enc Tryd.prog W 0 (fun _ => true) true m 23 ((cs.toList.drop 1).take (Tryd.prog.cellsOf 23)) = xs[1]? := hel 1 _ rfl
  have k2 : DataW.trod enc Tryd.prog W 0 (fun _ => true) true m 3 ((cs.toList.drop 2).take (Tryd.prog.cellsOf 3)) = xs[2]? := hel 2 _ rfl
  have k3 : DataW.trod enc Tryd.prog W 0 (fun _ => true) true m 5 ((cs.toList.drop 3).take (Tryd.prog.cellsOf 5)) = xs[3]? := hel 3 _ rfl
  have hx4 : xs.length = 4 := hxl
  rw [c1] at k0 k2
  rw [c2] at k1
  rw [c3] at k3
  have hlen : cs.toList.length = 4 := by rw [← cT]; exact hlen
  rw [List.getElem?_eq_getElem (by omega)] at k0 k1 k2 k3
  obtain ⟨z0, f0, _, _⟩ := DataW.trod_int Tryd.underlying3 k0
  obtain ⟨a, n, c, l, f1, hr, _⟩ := trodB k1
  obtain ⟨z2, f2, _, _⟩ := DataW.trod_int Tryd.underlying3 k2
  obtain ⟨z3, f3, _, wz⟩ := DataW.trod_int bE k3
  refine ⟨z0, a, n, c, z2, UInt8.ofNat z3.toNat, l, ?_, hr⟩
  have : cs.toList = nodeC z0 a n c z2 (UInt8.ofNat z3.toNat) := by
    have s0 := kcut cs.toList 0 1
    have s1 := kcut cs.toList 1 1
    have s2 := kcut cs.toList 2 1
    have s3 : (cs.toList.drop 3).take 1 = cs.toList.drop 3 := List.take_of_length_le (by simp; omega)
    rw [f0] at s0
    rw [f1] at s1
    rw [f2] at s2
    rw [f3] at s3
    simp only [Nat.zero_add, Nat.reduceAdd, List.drop_zero] at s0 s1 s2
    rw [nodeC, u8_back wz, ← s0, ← s1, ← s2, ← s3]
    rfl
  rw [← this]

end Go.Proofs.YtefnlbgkfingfaaDoor
