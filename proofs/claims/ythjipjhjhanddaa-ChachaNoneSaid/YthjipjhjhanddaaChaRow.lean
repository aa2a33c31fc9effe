/- A Case, opened (conditions: none). -/
import Derived.Test.YthjipjhjhanddaaRowKit
import Derived.Test.YthjipjhjhanddaaChaG
namespace Go.Proofs.Ythjipjhjhanddaa
open Go Sx Go.ChangeShapes Go.WideShapes Go.RowKit

theorem openCase {H : Type} {enc : TypeId × Value → H} {W : World} {base : Nat} {v : Value} {d : DataW H} {ps : List MemPlace} (hval : Value.okWide Try.prog W .any base 31 v)
    (h : DataW.Trod enc Try.prog W 0 (fun _ => true) true 31 v d ps) :
    ∃ key nonce x a n c l, v = .agg (caseL key nonce x a n c).toArray ∧ key.length = 32 ∧ nonce.length = 12 ∧ (-9223372036854775808 ≤ x ∧ x ≤ 9223372036854775807) ∧ RdB W a n c l := by
  have hu := Try.underlying31
  obtain ⟨cs, rfl, _⟩ := okWide_struct hu hval
  obtain ⟨fuel, hf⟩ := h
  obtain ⟨xs, m, _, _, hlen, hxl, hel⟩ := DataW.trod_struct hu hf
  have c0 : Try.prog.cellsOf 22 = 32 := by kernel_rfl
  have c1 : Try.prog.cellsOf 24 = 12 := by kernel_rfl
  have c2 : Try.prog.cellsOf 3 = 1 := by kernel_rfl
  have c3 : Try.prog.cellsOf 29 = 1 := by kernel_rfl
  have cT : Try.prog.cellsOf 31 = 46 := by kernel_rfl
  have k0 : DataW.trod enc Try.prog W 0 (fun _ => true) true m 22 ((cs.toList.drop 0).take (Try.prog.cellsOf 22)) = xs[0]? := hel 0 _ rfl
  have k1 : DataW.trod enc Try.prog W 0 (fun _ => true) true m 24 ((cs.toList.drop 32).take (Try.prog.cellsOf 24)) = xs[1]? := hel 1 _ rfl
  have k2 : DataW.trod enc Try.prog W 0 (fun _ => true) true m 3 ((cs.toList.drop 44).take (Try.prog.cellsOf 3)) = xs[2]? := hel 2 _ rfl
  have k3 : DataW.trod enc Try.prog W 0 (fun _ => true) true m 29 ((cs.toList.drop 45).take (Try.prog.cellsOf 29)) = xs[3]? := hel 3 _ rfl
  have hx4 : xs.length = 4 := hxl
  rw [c0] at k0
  rw [c1] at k1
  rw [c2] at k2
  rw [c3] at k3
  have hlen : cs.toList.length = 46 := by rw [← cT]; exact hlen
  rw [List.getElem?_eq_getElem (by omega)] at k0 k1 k2 k3
  obtain ⟨key, e0, l0⟩ := trodArr Try.underlying22 (by kernel_rfl) c0 k0
  obtain ⟨nonce, e1, l1⟩ := trodArr Try.underlying24 (by kernel_rfl) c1 k1
  obtain ⟨x, e2, _, wx⟩ := DataW.trod_int Try.underlying3 k2
  obtain ⟨a, n, c, l, e3, hr, _⟩ := trodB k3
  refine ⟨key, nonce, x, a, n, c, l, ?_, l0, l1, bounds_i64 wx, hr⟩
  have : cs.toList = caseL key nonce x a n c := by
    rw [caseL, ← e0, ← e1]
    have a2 : (cs.toList.drop 44).take 1 ++ (cs.toList.drop 45).take 1 = [.int .i64 x, .slice a n c] := by rw [e2, e3]; rfl
    rw [← a2, List.drop_zero]
    have t3 : (cs.toList.drop 45).take 1 = cs.toList.drop 45 := List.take_of_length_le (by simp; omega)
    rw [t3]
    have s1 : (cs.toList.drop 44).take 1 ++ cs.toList.drop 45 = cs.toList.drop 44 := by
      have := List.take_append_drop 1 (cs.toList.drop 44); rw [List.drop_drop] at this; exact this
    have s2 : (cs.toList.drop 32).take 12 ++ cs.toList.drop 44 = cs.toList.drop 32 := by
      have := List.take_append_drop 12 (cs.toList.drop 32); rw [List.drop_drop] at this; exact this
    rw [s1, List.append_assoc, s2, List.take_append_drop]
  rw [← this]

end Go.Proofs.Ythjipjhjhanddaa
