/- A Framed, opened (conditions: none). -/
import Derived.Test.YtpfjakmbokkkoaaRowKit
import Derived.Test.YtpfjakmbokkkoaaWireFramed
namespace Go.Proofs.Ytpfjakmbokkkoaa
open Go Sx Go.ChangeShapes Go.WideShapes Go.RowKit

theorem openFramed {H : Type} {enc : TypeId × Value → H} {W : World} {base : Nat} {v : Value} {d : DataW H} {ps : List MemPlace} (hval : Value.okWide Try.prog W .any base 50 v)
    (h : DataW.Trod enc Try.prog W 0 (fun _ => true) true 50 v d ps) :
    ∃ k a1 n1 c1 l1 a2 n2 c2 l2 a3 n3 c3 l3, v = .agg (framedL k a1 n1 c1 a2 n2 c2 a3 n3 c3).toArray ∧ RdB W a1 n1 c1 l1 ∧ RdB W a2 n2 c2 l2 ∧ RdB W a3 n3 c3 l3 := by
  have hu := Try.underlying50
  obtain ⟨cs, rfl, _⟩ := okWide_struct hu hval
  obtain ⟨fuel, hf⟩ := h
  obtain ⟨xs, m, _, _, hlen, hxl, hel⟩ := DataW.trod_struct hu hf
  have c1 : Try.prog.cellsOf 5 = 1 := by kernel_rfl
  have c3 : Try.prog.cellsOf 22 = 1 := by kernel_rfl
  have cT : Try.prog.cellsOf 50 = 4 := by kernel_rfl
  have k0 : DataW.trod enc Try.prog W 0 (fun _ => true) true m 5 ((cs.toList.drop 0).take (Try.prog.cellsOf 5)) = xs[0]? := hel 0 _ rfl
  have k1 : DataW.trod enc Try.prog W 0 (fun _ => true) true m 22 ((cs.toList.drop 1).take (Try.prog.cellsOf 22)) = xs[1]? := hel 1 _ rfl
  have k2 : DataW.trod enc Try.prog W 0 (fun _ => true) true m 22 ((cs.toList.drop 2).take (Try.prog.cellsOf 22)) = xs[2]? := hel 2 _ rfl
  have k3 : DataW.trod enc Try.prog W 0 (fun _ => true) true m 22 ((cs.toList.drop 3).take (Try.prog.cellsOf 22)) = xs[3]? := hel 3 _ rfl
  have hx4 : xs.length = 4 := hxl
  rw [c1] at k0
  rw [c3] at k1 k2 k3
  have hlen : cs.toList.length = 4 := by rw [← cT]; exact hlen
  rw [List.getElem?_eq_getElem (by omega)] at k0 k1 k2 k3
  obtain ⟨z, e0, _, wz⟩ := DataW.trod_int bE k0
  obtain ⟨a1, n1, d1, l1, e1, hr1, _⟩ := trodB k1
  obtain ⟨a2, n2, d2, l2, e2, hr2, _⟩ := trodB k2
  obtain ⟨a3, n3, d3, l3, e3, hr3, _⟩ := trodB k3
  refine ⟨UInt8.ofNat z.toNat, a1, n1, d1, l1, a2, n2, d2, l2, a3, n3, d3, l3, ?_, hr1, hr2, hr3⟩
  have : cs.toList = framedL (UInt8.ofNat z.toNat) a1 n1 d1 a2 n2 d2 a3 n3 d3 := by
    rw [framedL, u8_back wz]
    match hcs : cs.toList, hlen with
    | [v0, v1, v2, v3], _ =>
      rw [hcs] at e0 e1 e2 e3
      simp at e0 e1 e2 e3
      rw [e0, e1, e2, e3]
  rw [← this]

end Go.Proofs.Ytpfjakmbokkkoaa
