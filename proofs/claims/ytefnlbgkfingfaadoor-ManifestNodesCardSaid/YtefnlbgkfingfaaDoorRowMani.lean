/- A Case of chapter 15, opened (conditions: none). -/
import Derived.Test.YtefnlbgkfingfaaDoorRowKit
import Derived.Test.YtefnlbgkfingfaaDoorManiH
namespace Go.Proofs.YtefnlbgkfingfaaDoor
open Go Sx Go.ChangeShapes Go.WideShapes Go.RowKit
set_option maxRecDepth 8000

theorem kcut {α : Type} (l : List α) (i a : Nat) : (l.drop i).take a ++ l.drop (i + a) = l.drop i := by
  have := List.take_append_drop a (l.drop i); rwa [List.drop_drop] at this

theorem sized_struct {H : Type} {P : Program} {ts : List TypeId} {ds parts : List (DataW H)} {j : Nat} {t : TypeId} {fs : Array Field} (h : (DataW.weightsEach P ts ds).all (· ≤ reachBytes) = true) (ht : ts[j]? = some t) (hd : ds[j]? = some (.agg parts)) (hu : P.underlying t = some (.struct fs)) :
    (DataW.weightsEach P (fs.toList.map (·.type)) parts).all (· ≤ reachBytes) = true := by
  refine List.all_eq_true.2 fun n hn => ?_
  have := List.all_eq_true.1 h n (DataW.weights_mem_each ht hd n (by simp only [DataW.weights, hu]; exact hn))
  exact this

theorem openKase {H : Type} {enc : TypeId × Value → H} {W : World} {base : Nat} {v : Value} {d : DataW H} {ps : List MemPlace} (hval : Value.okWide Tryd.prog W .any base 25 v)
    (h : DataW.Trod enc Tryd.prog W 0 (fun _ => true) true 25 v d ps) :
    ∃ m a n c x l, v = .agg (kaseL m a n c x).toArray ∧ m.length = 32 ∧ RdB W a n c l ∧ ∀ (ts : List TypeId) (ds : List (DataW H)) (j : Nat), (DataW.weightsEach Tryd.prog ts ds).all (· ≤ reachBytes) = true → ts[j]? = some 25 → ds[j]? = some d → n ≤ 140737488355328 := by
  have hu := Tryd.underlying25
  obtain ⟨cs, rfl, _⟩ := okWide_struct hu hval
  obtain ⟨fuel, hf⟩ := h
  obtain ⟨xs, m, _, hx, hlen, hxl, hel⟩ := DataW.trod_struct hu hf
  have c1 : Tryd.prog.cellsOf 22 = 32 := by kernel_rfl
  have c2 : Tryd.prog.cellsOf 23 = 1 := by kernel_rfl
  have c3 : Tryd.prog.cellsOf 3 = 1 := by kernel_rfl
  have cT : Tryd.prog.cellsOf 25 = 34 := by kernel_rfl
  have k0 : DataW.trod enc Tryd.prog W 0 (fun _ => true) true m 22 ((cs.toList.drop 0).take (Tryd.prog.cellsOf 22)) = xs[0]? := hel 0 _ rfl
  have k1 : DataW.trod enc Tryd.prog W 0 (fun _ => true) true m 23 ((cs.toList.drop 32).take (Tryd.prog.cellsOf 23)) = xs[1]? := hel 1 _ rfl
  have k2 : DataW.trod enc Tryd.prog W 0 (fun _ => true) true m 3 ((cs.toList.drop 33).take (Tryd.prog.cellsOf 3)) = xs[2]? := hel 2 _ rfl
  have hx3 : xs.length = 3 := hxl
  rw [c1] at k0
  rw [c2] at k1
  rw [c3] at k2
  have hlen : cs.toList.length = 34 := by rw [← cT]; exact hlen
  rw [List.getElem?_eq_getElem (by omega)] at k0 k1 k2
  obtain ⟨ms, e0, l0⟩ := trodArr Tryd.underlying22 (by kernel_rfl) c1 k0
  obtain ⟨a, n, c, l, e1, hr, hs⟩ := trodB k1
  obtain ⟨z, e2, _, _⟩ := DataW.trod_int Tryd.underlying3 k2
  refine ⟨ms, a, n, c, z, l, ?_, l0, hr, ?_⟩
  · have : cs.toList = kaseL ms a n c z := by
      have t3 : (cs.toList.drop 33).take 1 = cs.toList.drop 33 := List.take_of_length_le (by simp; omega)
      have s0 := kcut cs.toList 0 32
      have s1 := kcut cs.toList 32 1
      rw [e0] at s0
      rw [e1] at s1
      rw [e2] at t3
      simp only [Nat.zero_add, Nat.reduceAdd, List.drop_zero] at s0 s1
      rw [kaseL, ← s0, ← s1, ← t3]
      rfl
    rw [← this]
  · intro ts ds j hsz ht hd
    simp only [Prod.mk.injEq] at hx
    rw [hx.1] at hd
    have h1 := sized_struct hsz ht hd hu
    have h2 := sizedB h1 (j := 1) (t := 23) (d := xs[1].1) (by kernel_rfl) (by rw [List.getElem?_map, List.getElem?_eq_getElem (by omega)]; rfl) bS (by kernel_rfl) hs hr.le
    omega

end Go.Proofs.YtefnlbgkfingfaaDoor
