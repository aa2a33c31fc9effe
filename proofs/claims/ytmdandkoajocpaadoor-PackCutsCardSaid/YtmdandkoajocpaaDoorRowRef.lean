/- A ref, opened (conditions: none). -/
import Derived.Test.YtmdandkoajocpaaDoorRowKit
import Derived.Test.YtmdandkoajocpaaDoorRefsD
namespace Go.Proofs.YtmdandkoajocpaaDoor
open Go Sx Go.ChangeShapes Go.WideShapes Go.RowKit
set_option maxRecDepth 8000

theorem rcut {α : Type} (l : List α) (i a : Nat) : (l.drop i).take a ++ l.drop (i + a) = l.drop i := by
  have := List.take_append_drop a (l.drop i); rwa [List.drop_drop] at this

theorem trodRef {H : Type} {enc : TypeId × Value → H} {W : World} {fuel : Nat} {cs : List Value} {x : DataW H × List MemPlace} (hf : DataW.trod enc Tryd.prog W 0 (fun _ => true) true fuel 26 cs = some x) : ∃ r : RefD, cs = refC r := by
  have hu := Tryd.underlying26
  obtain ⟨xs, m, _, hx, hlen, hxl, hel⟩ := DataW.trod_struct hu hf
  have c0 : Tryd.prog.cellsOf 24 = 32 := by kernel_rfl
  have c1 : Tryd.prog.cellsOf 3 = 1 := by kernel_rfl
  have cT : Tryd.prog.cellsOf 26 = 35 := by kernel_rfl
  have k0 : DataW.trod enc Tryd.prog W 0 (fun _ => true) true m 24 ((cs.drop 0).take (Tryd.prog.cellsOf 24)) = xs[0]? := hel 0 _ rfl
  have k1 : DataW.trod enc Tryd.prog W 0 (fun _ => true) true m 3 ((cs.drop 32).take (Tryd.prog.cellsOf 3)) = xs[1]? := hel 1 _ rfl
  have k2 : DataW.trod enc Tryd.prog W 0 (fun _ => true) true m 3 ((cs.drop 33).take (Tryd.prog.cellsOf 3)) = xs[2]? := hel 2 _ rfl
  have k3 : DataW.trod enc Tryd.prog W 0 (fun _ => true) true m 3 ((cs.drop 34).take (Tryd.prog.cellsOf 3)) = xs[3]? := hel 3 _ rfl
  have hx4 : xs.length = 4 := hxl
  rw [c0] at k0
  rw [c1] at k1 k2 k3
  have hlen : cs.length = 35 := by rw [← cT]; exact hlen
  rw [List.getElem?_eq_getElem (by omega)] at k0 k1 k2 k3
  obtain ⟨id, e0, l0⟩ := trodArr Tryd.underlying24 (by kernel_rfl) c0 k0
  obtain ⟨z1, e1, _, w1⟩ := DataW.trod_int Tryd.underlying3 k1
  obtain ⟨z2, e2, _, w2⟩ := DataW.trod_int Tryd.underlying3 k2
  obtain ⟨z3, e3, _, w3⟩ := DataW.trod_int Tryd.underlying3 k3
  have b1 := bounds_i64 w1
  have b2 := bounds_i64 w2
  have b3 := bounds_i64 w3
  refine ⟨⟨id, z1, z2, z3, l0, by omega, by omega, by omega⟩, ?_⟩
  have s0 := rcut cs 0 32
  have s1 := rcut cs 32 1
  have s2 := rcut cs 33 1
  have s3 : (cs.drop 34).take 1 = cs.drop 34 := List.take_of_length_le (by simp; omega)
  rw [e0] at s0
  rw [e1] at s1
  rw [e2] at s2
  rw [e3] at s3
  simp only [Nat.zero_add, Nat.reduceAdd, List.drop_zero] at s0 s1 s2
  rw [refC, ← s0, ← s1, ← s2, ← s3]
  rfl

theorem openRef {H : Type} {enc : TypeId × Value → H} {W : World} {base : Nat} {v : Value} {d : DataW H} {ps : List MemPlace} (hval : Value.okWide Tryd.prog W .any base 26 v)
    (h : DataW.Trod enc Tryd.prog W 0 (fun _ => true) true 26 v d ps) : ∃ r : RefD, v = .agg (refC r).toArray := by
  obtain ⟨cs, rfl, _⟩ := okWide_struct Tryd.underlying26 hval
  obtain ⟨fuel, hf⟩ := h
  obtain ⟨r, hr⟩ := trodRef hf
  refine ⟨r, ?_⟩
  simp only [Value.cells] at hr
  rw [← hr]

end Go.Proofs.YtmdandkoajocpaaDoor
