/- A script of calls of a Reader, opened (conditions: none). -/
import Derived.Test.YtpfjakmbokkkoaaRowKit
import Derived.Test.YtpfjakmbokkkoaaWireReads
namespace Go.Proofs.Ytpfjakmbokkkoaa
open Go Sx Go.ChangeShapes Go.WideShapes Go.RowKit

theorem openOps {H : Type} {enc : TypeId × Value → H} {W : World} {base : Nat} {v : Value} {d : DataW H} {ps : List MemPlace} (hval : Value.okWide Try.prog W .any base 58 v)
    (h : DataW.Trod enc Try.prog W 0 (fun _ => true) true 58 v d ps) : ∃ a n c cs, v = .slice a n c ∧ Rd W a n c 2 cs ∧ OpsIn cs n := by
  have hu := Try.underlying58
  have hT := Try.underlying65
  obtain ⟨a, n, c, rfl⟩ := okWide_slice hu hval
  obtain ⟨fuel, hf⟩ := h
  obtain ⟨a', n', c', cs, m, hcs, hrd, hel⟩ := trodRows hu (show Try.prog.cellsOf 65 = 2 by kernel_rfl) (by decide) hf
  simp [Value.cells] at hcs
  obtain ⟨rfl, rfl, rfl⟩ := hcs
  refine ⟨_, _, _, cs, rfl, hrd, fun i hi => ?_⟩
  obtain ⟨y, hy⟩ := hel i hi
  rw [Nat.mul_comm] at hy
  have hlen : ((cs.drop (i * 2)).take 2).length = 2 := by have := hrd.len; simp; omega
  generalize (cs.drop (i * 2)).take 2 = q at hy hlen ⊢
  obtain ⟨xs, m', _, _, _, hxl, hg⟩ := DataW.trod_struct hT hy
  have hx2 : xs.length = 2 := hxl
  have c2 : Try.prog.cellsOf 3 = 1 := by kernel_rfl
  have k0 : DataW.trod enc Try.prog W 0 (fun _ => true) true m' 3 ((q.drop 0).take (Try.prog.cellsOf 3)) = xs[0]? := hg 0 _ rfl
  have k1 : DataW.trod enc Try.prog W 0 (fun _ => true) true m' 3 ((q.drop 1).take (Try.prog.cellsOf 3)) = xs[1]? := hg 1 _ rfl
  rw [c2, List.getElem?_eq_getElem (by omega)] at k0 k1
  obtain ⟨kd, e0, _, _⟩ := DataW.trod_int Try.underlying3 k0
  obtain ⟨x, e1, _, wx⟩ := DataW.trod_int Try.underlying3 k1
  refine ⟨kd, x, ?_⟩
  match q, hlen with
  | [v0, v1], _ => simp at e0 e1; rw [e0, e1]

end Go.Proofs.Ytpfjakmbokkkoaa
