/- A Loss of chapter 1, opened (conditions: none). -/
import Derived.Test.YtoijbpkplegnkaaRowDisk
import Derived.Test.YtoijbpkplegnkaaDiskS
namespace Go.Proofs.Ytoijbpkplegnkaa
open Go Sx Go.ChangeShapes Go.WideShapes Go.RowKit
set_option maxRecDepth 8000

theorem openLoss {H : Type} {enc : TypeId × Value → H} {W : World} {base : Nat} {v : Value} {d : DataW H} {ps : List MemPlace} (hval : Value.okWide Try.prog W .any base 52 v)
    (h : DataW.Trod enc Try.prog W 0 (fun _ => true) true 52 v d ps) :
    ∃ a n c dl a3 n3 c3 ml a1 n1 c1 l dirs ca cn cc cuts, v = .agg (lossC a n c a3 n3 c3 a1 n1 c1 dirs ca cn cc).toArray ∧ RdB W a n c dl ∧ RdB W a3 n3 c3 ml ∧ Rd W ca cn cc 1 (zv cuts) ∧
      ∀ (ts : List TypeId) (ds : List (DataW H)) (j : Nat), (DataW.weightsEach Try.prog ts ds).all (· ≤ reachBytes) = true → ts[j]? = some 52 → ds[j]? = some d → RdScript W a1 n1 c1 l ∧ n1 ≤ 4611686018427387904 := by
  have hu := Try.underlying52
  obtain ⟨cs, rfl, _⟩ := okWide_struct hu hval
  obtain ⟨fuel, hf⟩ := h
  obtain ⟨xs, m, _, hx, hlen, hxl, hel⟩ := DataW.trod_struct hu hf
  have c2 : Try.prog.cellsOf 22 = 1 := by kernel_rfl
  have c3 : Try.prog.cellsOf 47 = 1 := by kernel_rfl
  have c4 : Try.prog.cellsOf 50 = 2 := by kernel_rfl
  have cT : Try.prog.cellsOf 52 = 5 := by kernel_rfl
  have k0 : DataW.trod enc Try.prog W 0 (fun _ => true) true m 22 ((cs.toList.drop 0).take (Try.prog.cellsOf 22)) = xs[0]? := hel 0 _ rfl
  have k1 : DataW.trod enc Try.prog W 0 (fun _ => true) true m 22 ((cs.toList.drop 1).take (Try.prog.cellsOf 22)) = xs[1]? := hel 1 _ rfl
  have k2 : DataW.trod enc Try.prog W 0 (fun _ => true) true m 47 ((cs.toList.drop 2).take (Try.prog.cellsOf 47)) = xs[2]? := hel 2 _ rfl
  have k3 : DataW.trod enc Try.prog W 0 (fun _ => true) true m 50 ((cs.toList.drop 3).take (Try.prog.cellsOf 50)) = xs[3]? := hel 3 _ rfl
  have hx4 : xs.length = 4 := hxl
  rw [c2] at k0 k1
  rw [c3] at k2
  rw [c4] at k3
  have hlen : cs.toList.length = 5 := by rw [← cT]; exact hlen
  have g2 : xs[2]? = some xs[2] := List.getElem?_eq_getElem (by omega)
  rw [List.getElem?_eq_getElem (by omega)] at k0 k1 k3
  rw [g2] at k2
  obtain ⟨a, n, c, dl, e0, hr, _⟩ := trodB k0
  obtain ⟨a3, n3, c3', ml, e1, hm, _⟩ := trodB k1
  obtain ⟨a1, n1, c1, l, e2, hs⟩ := trodScript k2
  obtain ⟨dirs, ca, cn, cc, cuts, e3, hc, _, _⟩ := trodSurv k3
  refine ⟨a, n, c, dl, a3, n3, c3', ml, a1, n1, c1, l, dirs, ca, cn, cc, cuts, ?_, hr, hm, hc, ?_⟩
  · have : cs.toList = lossC a n c a3 n3 c3' a1 n1 c1 dirs ca cn cc := by
      have t0 := rcut cs.toList 0 1
      have t1 := rcut cs.toList 1 1
      have t2 := rcut cs.toList 2 1
      have t3 : (cs.toList.drop 3).take 2 = cs.toList.drop 3 := List.take_of_length_le (by simp; omega)
      rw [e0] at t0
      rw [e1] at t1
      rw [e2] at t2
      rw [e3] at t3
      simp only [Nat.zero_add, Nat.reduceAdd, List.drop_zero] at t0 t1 t2 t3
      rw [lossC, ← t0, ← t1, ← t2, ← t3]
      rfl
    rw [← this]
  · intro ts ds j hsz ht hd
    refine hs fun k hk => ?_
    have hk2 := trod_parts hu hx (i := 2) (T := 47) (by kernel_rfl) g2 k hk
    have := List.all_eq_true.1 hsz k (DataW.weights_mem_each ht hd k hk2)
    have e : reachBytes = 140737488351232 := by decide
    simp only [decide_eq_true_eq] at this
    omega

end Go.Proofs.Ytoijbpkplegnkaa
