/- A Wanted and a Keys, opened (conditions: none). -/
import Derived.Test.YtpodhfomjljfbaaDoorRowKit
import Derived.Test.YtpodhfomjljfbaaDoorShaV
namespace Go.Proofs.YtpodhfomjljfbaaDoor
open Go Sx Go.ChangeShapes Go.WideShapes Go.RowKit

theorem openWanted {H : Type} {enc : TypeId × Value → H} {W : World} {base : Nat} {v : Value} {d : DataW H} {ps : List MemPlace} (hval : Value.okWide Tryd.prog W .any base 43 v)
    (h : DataW.Trod enc Tryd.prog W 0 (fun _ => true) true 43 v d ps) :
    ∃ a1 n1 c1 l1 a2 n2 c2 l2 a3 n3 c3 l3 x, v = .agg (wantL a1 n1 c1 a2 n2 c2 a3 n3 c3 x).toArray ∧ RdB W a1 n1 c1 l1 ∧ RdB W a2 n2 c2 l2 ∧ RdB W a3 n3 c3 l3 := by
  have hu := Tryd.underlying43
  obtain ⟨cs, rfl, _⟩ := okWide_struct hu hval
  obtain ⟨fuel, hf⟩ := h
  obtain ⟨xs, m, _, _, hlen, hxl, hel⟩ := DataW.trod_struct hu hf
  have c1 : Tryd.prog.cellsOf 3 = 1 := by kernel_rfl
  have c3 : Tryd.prog.cellsOf 22 = 1 := by kernel_rfl
  have cT : Tryd.prog.cellsOf 43 = 4 := by kernel_rfl
  have k0 : DataW.trod enc Tryd.prog W 0 (fun _ => true) true m 22 ((cs.toList.drop 0).take (Tryd.prog.cellsOf 22)) = xs[0]? := hel 0 _ rfl
  have k1 : DataW.trod enc Tryd.prog W 0 (fun _ => true) true m 22 ((cs.toList.drop 1).take (Tryd.prog.cellsOf 22)) = xs[1]? := hel 1 _ rfl
  have k2 : DataW.trod enc Tryd.prog W 0 (fun _ => true) true m 22 ((cs.toList.drop 2).take (Tryd.prog.cellsOf 22)) = xs[2]? := hel 2 _ rfl
  have k3 : DataW.trod enc Tryd.prog W 0 (fun _ => true) true m 3 ((cs.toList.drop 3).take (Tryd.prog.cellsOf 3)) = xs[3]? := hel 3 _ rfl
  have hx4 : xs.length = 4 := hxl
  rw [c1] at k3
  rw [c3] at k0 k1 k2
  have hlen : cs.toList.length = 4 := by rw [← cT]; exact hlen
  rw [List.getElem?_eq_getElem (by omega)] at k0 k1 k2 k3
  obtain ⟨a1, n1, d1, l1, e1, hr1, _⟩ := trodB k0
  obtain ⟨a2, n2, d2, l2, e2, hr2, _⟩ := trodB k1
  obtain ⟨a3, n3, d3, l3, e3, hr3, _⟩ := trodB k2
  obtain ⟨z, e0, _, wz⟩ := DataW.trod_int Tryd.underlying3 k3
  refine ⟨a1, n1, d1, l1, a2, n2, d2, l2, a3, n3, d3, l3, z, ?_, hr1, hr2, hr3⟩
  have : cs.toList = wantL a1 n1 d1 a2 n2 d2 a3 n3 d3 z := by
    rw [wantL]
    match hcs : cs.toList, hlen with
    | [v0, v1, v2, v3], _ =>
      rw [hcs] at e0 e1 e2 e3
      simp at e0 e1 e2 e3
      rw [e0, e1, e2, e3]
  rw [← this]

/-- The cells of a Keys. -/
def keysL (a0 : Option Addr) (n0 c0 : Nat) (a1 : Option Addr) (n1 c1 : Nat) (x y : Int) : List Value := [.slice a0 n0 c0, .slice a1 n1 c1, .int .i64 x, .int .i64 y]

theorem openKeys {H : Type} {enc : TypeId × Value → H} {W : World} {base : Nat} {v : Value} {d : DataW H} {ps : List MemPlace} (hval : Value.okWide Tryd.prog W .any base 53 v)
    (h : DataW.Trod enc Tryd.prog W 0 (fun _ => true) true 53 v d ps) :
    ∃ a1 n1 c1 l1 a2 n2 c2 l2 x y, v = .agg (keysL a1 n1 c1 a2 n2 c2 x y).toArray ∧ RdB W a1 n1 c1 l1 ∧ RdB W a2 n2 c2 l2 := by
  have hu := Tryd.underlying53
  obtain ⟨cs, rfl, _⟩ := okWide_struct hu hval
  obtain ⟨fuel, hf⟩ := h
  obtain ⟨xs, m, _, _, hlen, hxl, hel⟩ := DataW.trod_struct hu hf
  have c1 : Tryd.prog.cellsOf 3 = 1 := by kernel_rfl
  have c3 : Tryd.prog.cellsOf 22 = 1 := by kernel_rfl
  have cT : Tryd.prog.cellsOf 53 = 4 := by kernel_rfl
  have k0 : DataW.trod enc Tryd.prog W 0 (fun _ => true) true m 22 ((cs.toList.drop 0).take (Tryd.prog.cellsOf 22)) = xs[0]? := hel 0 _ rfl
  have k1 : DataW.trod enc Tryd.prog W 0 (fun _ => true) true m 22 ((cs.toList.drop 1).take (Tryd.prog.cellsOf 22)) = xs[1]? := hel 1 _ rfl
  have k2 : DataW.trod enc Tryd.prog W 0 (fun _ => true) true m 3 ((cs.toList.drop 2).take (Tryd.prog.cellsOf 3)) = xs[2]? := hel 2 _ rfl
  have k3 : DataW.trod enc Tryd.prog W 0 (fun _ => true) true m 3 ((cs.toList.drop 3).take (Tryd.prog.cellsOf 3)) = xs[3]? := hel 3 _ rfl
  have hx4 : xs.length = 4 := hxl
  rw [c1] at k2 k3
  rw [c3] at k0 k1
  have hlen : cs.toList.length = 4 := by rw [← cT]; exact hlen
  rw [List.getElem?_eq_getElem (by omega)] at k0 k1 k2 k3
  obtain ⟨a1, n1, d1, l1, e1, hr1, _⟩ := trodB k0
  obtain ⟨a2, n2, d2, l2, e2, hr2, _⟩ := trodB k1
  obtain ⟨y, e3, _, wy⟩ := DataW.trod_int Tryd.underlying3 k2
  obtain ⟨z, e0, _, wz⟩ := DataW.trod_int Tryd.underlying3 k3
  refine ⟨a1, n1, d1, l1, a2, n2, d2, l2, y, z, ?_, hr1, hr2⟩
  have : cs.toList = keysL a1 n1 d1 a2 n2 d2 y z := by
    rw [keysL]
    match hcs : cs.toList, hlen with
    | [v0, v1, v2, v3], _ =>
      rw [hcs] at e0 e1 e2 e3
      simp at e0 e1 e2 e3
      rw [e0, e1, e2, e3]
  rw [← this]

end Go.Proofs.YtpodhfomjljfbaaDoor
