/- A script of calls, opened (conditions: none). -/
import Derived.Test.YthjipjhjhanddaaRowKit
import Derived.Test.YthjipjhjhanddaaChaSeek
namespace Go.Proofs.Ythjipjhjhanddaa
open Go Sx Go.ChangeShapes Go.WideShapes Go.RowKit

theorem openOps {H : Type} {enc : TypeId × Value → H} {W : World} {base : Nat} {v : Value} {d : DataW H} {ps : List MemPlace} (hval : Value.okWide Try.prog W .any base 44 v)
    (h : DataW.Trod enc Try.prog W 0 (fun _ => true) true 44 v d ps) : ∃ a n c cs, v = .slice a n c ∧ Rd W a n c 3 cs ∧ OpsIn W cs n := by
  have hu := Try.underlying44
  have hT := Try.underlying48
  obtain ⟨a, n, c, rfl⟩ := okWide_slice hu hval
  obtain ⟨fuel, hf⟩ := h
  obtain ⟨a', n', c', cs, m, hcs, hrd, hel⟩ := trodRows hu (show Try.prog.cellsOf 48 = 3 by kernel_rfl) (by decide) hf
  simp [Value.cells] at hcs
  obtain ⟨rfl, rfl, rfl⟩ := hcs
  refine ⟨_, _, _, cs, rfl, hrd, fun i hi => ?_⟩
  obtain ⟨y, hy⟩ := hel i hi
  have hlen : ((cs.drop (3 * i)).take 3).length = 3 := by have := hrd.len; simp; omega
  generalize (cs.drop (3 * i)).take 3 = q at hy hlen ⊢
  obtain ⟨xs, m', _, _, _, hxl, hg⟩ := DataW.trod_struct hT hy
  have hx3 : xs.length = 3 := hxl
  have c2 : Try.prog.cellsOf 3 = 1 := by kernel_rfl
  have c3 : Try.prog.cellsOf 29 = 1 := by kernel_rfl
  have k0 : DataW.trod enc Try.prog W 0 (fun _ => true) true m' 3 ((q.drop 0).take (Try.prog.cellsOf 3)) = xs[0]? := hg 0 _ rfl
  have k1 : DataW.trod enc Try.prog W 0 (fun _ => true) true m' 3 ((q.drop 1).take (Try.prog.cellsOf 3)) = xs[1]? := hg 1 _ rfl
  have k2 : DataW.trod enc Try.prog W 0 (fun _ => true) true m' 29 ((q.drop 2).take (Try.prog.cellsOf 29)) = xs[2]? := hg 2 _ rfl
  rw [c2, List.getElem?_eq_getElem (by omega)] at k0 k1
  rw [c3, List.getElem?_eq_getElem (by omega)] at k2
  obtain ⟨kd, e0, _, _⟩ := DataW.trod_int Try.underlying3 k0
  obtain ⟨x, e1, _, wx⟩ := DataW.trod_int Try.underlying3 k1
  obtain ⟨a, m, c, l, e2, hr, _⟩ := trodB k2
  refine ⟨kd, x, a, m, c, l, ?_, bounds_i64 wx, hr⟩
  match q, hlen with
  | [v0, v1, v2], _ => simp at e0 e1 e2; rw [e0, e1, e2]

end Go.Proofs.Ythjipjhjhanddaa
