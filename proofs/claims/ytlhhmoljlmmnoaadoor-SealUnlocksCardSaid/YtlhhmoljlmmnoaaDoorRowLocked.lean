/- A Locked of chapter 5, opened (conditions: none). -/
import Derived.Test.YtlhhmoljlmmnoaaDoorRowKit
import Derived.Test.YtlhhmoljlmmnoaaDoorSealM
namespace Go.Proofs.YtlhhmoljlmmnoaaDoor
open Go Sx Go.ChangeShapes Go.WideShapes Go.RowKit
set_option maxRecDepth 8000

theorem cut_at {α : Type} (l : List α) (i a : Nat) : (l.drop i).take a ++ l.drop (i + a) = l.drop i := by
  have := List.take_append_drop a (l.drop i); rwa [List.drop_drop] at this

theorem openLocked {H : Type} {enc : TypeId × Value → H} {W : World} {base : Nat} {v : Value} {d : DataW H} {ps : List MemPlace} (hval : Value.okWide Tryd.prog W .any base 51 v)
    (h : DataW.Trod enc Tryd.prog W 0 (fun _ => true) true 51 v d ps) :
    ∃ s salt m a n c l, v = .agg (lockL s salt m a n c).toArray ∧ salt.length = 16 ∧ m.length = 32 ∧ RdB W a n c l := by
  have hu := Tryd.underlying51
  obtain ⟨cs, rfl, _⟩ := okWide_struct hu hval
  obtain ⟨fuel, hf⟩ := h
  obtain ⟨xs, m, _, _, hlen, hxl, hel⟩ := DataW.trod_struct hu hf
  have c0 : Tryd.prog.cellsOf 9 = 1 := by kernel_rfl
  have c1 : Tryd.prog.cellsOf 49 = 16 := by kernel_rfl
  have c2 : Tryd.prog.cellsOf 22 = 32 := by kernel_rfl
  have c3 : Tryd.prog.cellsOf 25 = 1 := by kernel_rfl
  have cT : Tryd.prog.cellsOf 51 = 50 := by kernel_rfl
  have k0 : DataW.trod enc Tryd.prog W 0 (fun _ => true) true m 9 ((cs.toList.drop 0).take (Tryd.prog.cellsOf 9)) = xs[0]? := hel 0 _ rfl
  have k1 : DataW.trod enc Tryd.prog W 0 (fun _ => true) true m 49 ((cs.toList.drop 1).take (Tryd.prog.cellsOf 49)) = xs[1]? := hel 1 _ rfl
  have k2 : DataW.trod enc Tryd.prog W 0 (fun _ => true) true m 22 ((cs.toList.drop 17).take (Tryd.prog.cellsOf 22)) = xs[2]? := hel 2 _ rfl
  have k3 : DataW.trod enc Tryd.prog W 0 (fun _ => true) true m 25 ((cs.toList.drop 49).take (Tryd.prog.cellsOf 25)) = xs[3]? := hel 3 _ rfl
  have hx4 : xs.length = 4 := hxl
  rw [c0] at k0
  rw [c1] at k1
  rw [c2] at k2
  rw [c3] at k3
  have hlen : cs.toList.length = 50 := by rw [← cT]; exact hlen
  rw [List.getElem?_eq_getElem (by omega)] at k0 k1 k2 k3
  obtain ⟨s, e0, _, _⟩ := DataW.trod_string sS k0
  obtain ⟨salt, e1, l1⟩ := trodArr Tryd.underlying49 (by kernel_rfl) c1 k1
  obtain ⟨ms, e2, l2⟩ := trodArr Tryd.underlying22 (by kernel_rfl) c2 k2
  obtain ⟨a, n, c, l, e3, hr, _⟩ := trodB k3
  refine ⟨s, salt, ms, a, n, c, l, ?_, l1, l2, hr⟩
  have : cs.toList = lockL s salt ms a n c := by
    have t3 : (cs.toList.drop 49).take 1 = cs.toList.drop 49 := List.take_of_length_le (by simp; omega)
    have s0 := cut_at cs.toList 0 1
    have s1 := cut_at cs.toList 1 16
    have s2 := cut_at cs.toList 17 32
    rw [e0] at s0
    rw [e1] at s1
    rw [e2] at s2
    rw [e3] at t3
    simp only [Nat.zero_add, Nat.reduceAdd, List.drop_zero] at s0 s1 s2
    rw [lockL, ← s0, ← s1, ← s2, ← t3]
  rw [← this]

end Go.Proofs.YtlhhmoljlmmnoaaDoor
