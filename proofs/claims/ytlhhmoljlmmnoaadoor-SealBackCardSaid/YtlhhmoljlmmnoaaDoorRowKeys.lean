/- Keys of chapter 5, opened (conditions: none). -/
import Derived.Test.YtlhhmoljlmmnoaaDoorRowSeal
namespace Go.Proofs.YtlhhmoljlmmnoaaDoor
open Go Sx Go.ChangeShapes Go.WideShapes Go.RowKit
set_option maxRecDepth 8000

theorem openKeys {H : Type} {enc : TypeId × Value → H} {W : World} {base : Nat} {v : Value} {d : DataW H} {ps : List MemPlace} (hval : Value.okWide Tryd.prog W .any base 24 v)
    (h : DataW.Trod enc Tryd.prog W 0 (fun _ => true) true 24 v d ps) : ∃ K : List UInt8, v = .agg (bv K).toArray ∧ K.length = 96 := by
  have hu := Tryd.underlying24
  obtain ⟨cs, rfl, _⟩ := okWide_struct hu hval
  obtain ⟨fuel, hf⟩ := h
  obtain ⟨xs, m, _, _, hlen, hxl, hel⟩ := DataW.trod_struct hu hf
  have c0 : Tryd.prog.cellsOf 22 = 32 := by kernel_rfl
  have cT : Tryd.prog.cellsOf 24 = 96 := by kernel_rfl
  have k0 : DataW.trod enc Tryd.prog W 0 (fun _ => true) true m 22 ((cs.toList.drop 0).take (Tryd.prog.cellsOf 22)) = xs[0]? := hel 0 _ rfl
  have k1 : DataW.trod enc Tryd.prog W 0 (fun _ => true) true m 22 ((cs.toList.drop 32).take (Tryd.prog.cellsOf 22)) = xs[1]? := hel 1 _ rfl
  have k2 : DataW.trod enc Tryd.prog W 0 (fun _ => true) true m 22 ((cs.toList.drop 64).take (Tryd.prog.cellsOf 22)) = xs[2]? := hel 2 _ rfl
  have hx4 : xs.length = 3 := hxl
  rw [c0] at k0 k1 k2
  have hlen : cs.toList.length = 96 := by rw [← cT]; exact hlen
  rw [List.getElem?_eq_getElem (by omega)] at k0 k1 k2
  obtain ⟨p, e0, l0⟩ := trodArr Tryd.underlying22 (by kernel_rfl) c0 k0
  obtain ⟨q, e1, l1⟩ := trodArr Tryd.underlying22 (by kernel_rfl) c0 k1
  obtain ⟨r, e2, l2⟩ := trodArr Tryd.underlying22 (by kernel_rfl) c0 k2
  refine ⟨p ++ q ++ r, ?_, by simp [l0, l1, l2]⟩
  have : cs.toList = bv (p ++ q ++ r) := by
    rw [bv_append, bv_append, ← e0, ← e1, ← e2]
    have t3 : (cs.toList.drop 64).take 32 = cs.toList.drop 64 := List.take_of_length_le (by simp; omega)
    have s1 : (cs.toList.drop 32).take 32 ++ cs.toList.drop 64 = cs.toList.drop 32 := by
      have := List.take_append_drop 32 (cs.toList.drop 32); rw [List.drop_drop] at this; exact this
    rw [t3, List.append_assoc, s1, List.drop_zero, List.take_append_drop]
  rw [← this]

end Go.Proofs.YtlhhmoljlmmnoaaDoor
