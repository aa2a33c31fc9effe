/- A Blob of chapter 5, opened (conditions: none). -/
import Derived.Test.YtlhhmoljlmmnoaaDoorRowKit
import Derived.Test.YtlhhmoljlmmnoaaDoorSealE
namespace Go.Proofs.YtlhhmoljlmmnoaaDoor
open Go Sx Go.ChangeShapes Go.WideShapes Go.RowKit
set_option maxRecDepth 8000

theorem trodKeys {H : Type} {enc : TypeId × Value → H} {W : World} {fuel : Nat} {cells : List Value} {x : DataW H × List MemPlace} (h : DataW.trod enc Tryd.prog W 0 (fun _ => true) true fuel 24 cells = some x) : ∃ K : List UInt8, cells = bv K ∧ K.length = 96 := by
  have hu := Tryd.underlying24
  obtain ⟨d, ps⟩ := x
  obtain ⟨xs, m, _, _, hlen, hxl, hel⟩ := DataW.trod_struct hu h
  have c0 : Tryd.prog.cellsOf 22 = 32 := by kernel_rfl
  have cT : Tryd.prog.cellsOf 24 = 96 := by kernel_rfl
  have k0 : DataW.trod enc Tryd.prog W 0 (fun _ => true) true m 22 ((cells.drop 0).take (Tryd.prog.cellsOf 22)) = xs[0]? := hel 0 _ rfl
  have k1 : DataW.trod enc Tryd.prog W 0 (fun _ => true) true m 22 ((cells.drop 32).take (Tryd.prog.cellsOf 22)) = xs[1]? := hel 1 _ rfl
  have k2 : DataW.trod enc Tryd.prog W 0 (fun _ => true) true m 22 ((cells.drop 64).take (Tryd.prog.cellsOf 22)) = xs[2]? := hel 2 _ rfl
  have hx4 : xs.length = 3 := hxl
  rw [c0] at k0 k1 k2
  have hlen : cells.length = 96 := by rw [← cT]; exact hlen
  rw [List.getElem?_eq_getElem (by omega)] at k0 k1 k2
  obtain ⟨p, e0, l0⟩ := trodArr Tryd.underlying22 (by kernel_rfl) c0 k0
  obtain ⟨q, e1, l1⟩ := trodArr Tryd.underlying22 (by kernel_rfl) c0 k1
  obtain ⟨r, e2, l2⟩ := trodArr Tryd.underlying22 (by kernel_rfl) c0 k2
  refine ⟨p ++ q ++ r, ?_, by simp [l0, l1, l2]⟩
  rw [bv_append, bv_append, ← e0, ← e1, ← e2]
  have t3 : (cells.drop 64).take 32 = cells.drop 64 := List.take_of_length_le (by simp; omega)
  have s1 : (cells.drop 32).take 32 ++ cells.drop 64 = cells.drop 32 := by
    have := List.take_append_drop 32 (cells.drop 32); rw [List.drop_drop] at this; exact this
  rw [t3, List.append_assoc, s1, List.drop_zero, List.take_append_drop]

theorem openBlob {H : Type} {enc : TypeId × Value → H} {W : World} {base : Nat} {v : Value} {d : DataW H} {ps : List MemPlace} (hval : Value.okWide Tryd.prog W .any base 27 v)
    (h : DataW.Trod enc Tryd.prog W 0 (fun _ => true) true 27 v d ps) :
    ∃ K k a1 n1 c1 l1 a2 n2 c2 l2, v = .agg (blobL K k a1 n1 c1 a2 n2 c2).toArray ∧ K.length = 96 ∧ RdB W a1 n1 c1 l1 ∧ RdB W a2 n2 c2 l2 := by
  have hu := Tryd.underlying27
  obtain ⟨cs, rfl, _⟩ := okWide_struct hu hval
  obtain ⟨fuel, hf⟩ := h
  obtain ⟨xs, m, _, _, hlen, hxl, hel⟩ := DataW.trod_struct hu hf
  have c0 : Tryd.prog.cellsOf 24 = 96 := by kernel_rfl
  have c1 : Tryd.prog.cellsOf 5 = 1 := by kernel_rfl
  have c3 : Tryd.prog.cellsOf 25 = 1 := by kernel_rfl
  have cT : Tryd.prog.cellsOf 27 = 99 := by kernel_rfl
  have k0 : DataW.trod enc Tryd.prog W 0 (fun _ => true) true m 24 ((cs.toList.drop 0).take (Tryd.prog.cellsOf 24)) = xs[0]? := hel 0 _ rfl
  have k1 : DataW.trod enc Tryd.prog W 0 (fun _ => true) true m 5 ((cs.toList.drop 96).take (Tryd.prog.cellsOf 5)) = xs[1]? := hel 1 _ rfl
  have k2 : DataW.trod enc Tryd.prog W 0 (fun _ => true) true m 25 ((cs.toList.drop 97).take (Tryd.prog.cellsOf 25)) = xs[2]? := hel 2 _ rfl
  have k3 : DataW.trod enc Tryd.prog W 0 (fun _ => true) true m 25 ((cs.toList.drop 98).take (Tryd.prog.cellsOf 25)) = xs[3]? := hel 3 _ rfl
  have hx4 : xs.length = 4 := hxl
  rw [c0] at k0
  rw [c1] at k1
  rw [c3] at k2 k3
  have hlen : cs.toList.length = 99 := by rw [← cT]; exact hlen
  rw [List.getElem?_eq_getElem (by omega)] at k0 k1 k2 k3
  obtain ⟨K, e0, l0⟩ := trodKeys k0
  obtain ⟨z, e1, _, wz⟩ := DataW.trod_int bE k1
  obtain ⟨a1, n1, d1, l1, e2, hr1, _⟩ := trodB k2
  obtain ⟨a2, n2, d2, l2, e3, hr2, _⟩ := trodB k3
  refine ⟨K, UInt8.ofNat z.toNat, a1, n1, d1, l1, a2, n2, d2, l2, ?_, l0, hr1, hr2⟩
  have : cs.toList = blobL K (UInt8.ofNat z.toNat) a1 n1 d1 a2 n2 d2 := by
    rw [blobL, u8_back wz, ← e0]
    have t3 : (cs.toList.drop 98).take 1 = cs.toList.drop 98 := List.take_of_length_le (by simp; omega)
    have s1 : (cs.toList.drop 97).take 1 ++ cs.toList.drop 98 = cs.toList.drop 97 := by
      have := List.take_append_drop 1 (cs.toList.drop 97); rw [List.drop_drop] at this; exact this
    have s2 : (cs.toList.drop 96).take 1 ++ cs.toList.drop 97 = cs.toList.drop 96 := by
      have := List.take_append_drop 1 (cs.toList.drop 96); rw [List.drop_drop] at this; exact this
    have a2' : [Value.int .u8 z, .slice a1 n1 d1, .slice a2 n2 d2] = (cs.toList.drop 96).take 1 ++ ((cs.toList.drop 97).take 1 ++ (cs.toList.drop 98).take 1) := by rw [e1, e2, e3]; rfl
    rw [a2', t3, s1, s2, List.drop_zero, List.take_append_drop]
  rw [← this]

end Go.Proofs.YtlhhmoljlmmnoaaDoor
