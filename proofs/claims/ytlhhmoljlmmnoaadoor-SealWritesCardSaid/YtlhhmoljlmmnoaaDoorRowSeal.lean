/- A Case of chapter 5, opened (conditions: none). -/
import Derived.Test.YtlhhmoljlmmnoaaDoorRowKit
import Derived.Test.YtlhhmoljlmmnoaaDoorSealC
namespace Go.Proofs.YtlhhmoljlmmnoaaDoor
open Go Sx Go.ChangeShapes Go.WideShapes Go.RowKit
set_option maxRecDepth 8000

theorem openCase {H : Type} {enc : TypeId × Value → H} {W : World} {base : Nat} {v : Value} {d : DataW H} {ps : List MemPlace} (hval : Value.okWide Tryd.prog W .any base 31 v)
    (h : DataW.Trod enc Tryd.prog W 0 (fun _ => true) true 31 v d ps) :
    ∃ m k a1 n1 c1 l1 a2 n2 c2 l2, v = .agg (caseL m k a1 n1 c1 a2 n2 c2).toArray ∧ m.length = 32 ∧ RdB W a1 n1 c1 l1 ∧ RdB W a2 n2 c2 l2 := by
  have hu := Tryd.underlying31
  obtain ⟨cs, rfl, _⟩ := okWide_struct hu hval
  obtain ⟨fuel, hf⟩ := h
  obtain ⟨xs, m, _, _, hlen, hxl, hel⟩ := DataW.trod_struct hu hf
  have c0 : Tryd.prog.cellsOf 22 = 32 := by kernel_rfl
  have c1 : Tryd.prog.cellsOf 5 = 1 := by kernel_rfl
  have c3 : Tryd.prog.cellsOf 25 = 1 := by kernel_rfl
  have cT : Tryd.prog.cellsOf 31 = 35 := by kernel_rfl
  have k0 : DataW.trod enc Tryd.prog W 0 (fun _ => true) true m 22 ((cs.toList.drop 0).take (Tryd.prog.cellsOf 22)) = xs[0]? := hel 0 _ rfl
  have k1 : DataW.trod enc Tryd.prog W 0 (fun _ => true) true m 5 ((cs.toList.drop 32).take (Tryd.prog.cellsOf 5)) = xs[1]? := hel 1 _ rfl
  have k2 : DataW.trod enc Tryd.prog W 0 (fun _ => true) true m 25 ((cs.toList.drop 33).take (Tryd.prog.cellsOf 25)) = xs[2]? := hel 2 _ rfl
  have k3 : DataW.trod enc Tryd.prog W 0 (fun _ => true) true m 25 ((cs.toList.drop 34).take (Tryd.prog.cellsOf 25)) = xs[3]? := hel 3 _ rfl
  have hx4 : xs.length = 4 := hxl
  rw [c0] at k0
  rw [c1] at k1
  rw [c3] at k2 k3
  have hlen : cs.toList.length = 35 := by rw [← cT]; exact hlen
  rw [List.getElem?_eq_getElem (by omega)] at k0 k1 k2 k3
  obtain ⟨ms, e0, l0⟩ := trodArr Tryd.underlying22 (by kernel_rfl) c0 k0
  obtain ⟨z, e1, _, wz⟩ := DataW.trod_int bE k1
  obtain ⟨a1, n1, d1, l1, e2, hr1, _⟩ := trodB k2
  obtain ⟨a2, n2, d2, l2, e3, hr2, _⟩ := trodB k3
  refine ⟨ms, UInt8.ofNat z.toNat, a1, n1, d1, l1, a2, n2, d2, l2, ?_, l0, hr1, hr2⟩
  have : cs.toList = caseL ms (UInt8.ofNat z.toNat) a1 n1 d1 a2 n2 d2 := by
    rw [caseL, u8_back wz, ← e0]
    have t3 : (cs.toList.drop 34).take 1 = cs.toList.drop 34 := List.take_of_length_le (by simp; omega)
    have s1 : (cs.toList.drop 33).take 1 ++ cs.toList.drop 34 = cs.toList.drop 33 := by
      have := List.take_append_drop 1 (cs.toList.drop 33); rw [List.drop_drop] at this; exact this
    have s2 : (cs.toList.drop 32).take 1 ++ cs.toList.drop 33 = cs.toList.drop 32 := by
      have := List.take_append_drop 1 (cs.toList.drop 32); rw [List.drop_drop] at this; exact this
    have a2' : [Value.int .u8 z, .slice a1 n1 d1, .slice a2 n2 d2] = (cs.toList.drop 32).take 1 ++ ((cs.toList.drop 33).take 1 ++ (cs.toList.drop 34).take 1) := by rw [e1, e2, e3]; rfl
    rw [a2', t3, s1, s2, List.drop_zero, List.take_append_drop]
  rw [← this]

end Go.Proofs.YtlhhmoljlmmnoaaDoor
