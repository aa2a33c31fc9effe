/- Policies and rows of snapshots, opened (conditions: none). -/
import Derived.Test.YtdcgapabphjgbaaRowKit
import Derived.Test.YtdcgapabphjgbaaPruD
namespace Go.Proofs.Ytdcgapabphjgbaa
open Go Sx Go.ChangeShapes Go.WideShapes Go.RowKit
set_option maxRecDepth 8000

theorem scut {α : Type} (l : List α) (i a : Nat) : (l.drop i).take a ++ l.drop (i + a) = l.drop i := by
  have := List.take_append_drop a (l.drop i); rwa [List.drop_drop] at this

def OkI (z : Int) : Prop := -9223372036854775808 ≤ z ∧ z ≤ 9223372036854775807
set_option maxRecDepth 8000 in
theorem openPol {H : Type} {enc : TypeId × Value → H} {W : World} {base : Nat} {v : Value} {d : DataW H} {ps : List MemPlace} (hval : Value.okWide Try.prog W .any base 23 v)
    (h : DataW.Trod enc Try.prog W 0 (fun _ => true) true 23 v d ps) :
    ∃ p0 p1 p2 p3 p4 p5 : Int, v = .agg (iv [p0, p1, p2, p3, p4, p5]).toArray ∧ ∀ z ∈ [p0, p1, p2, p3, p4, p5], OkI z := by
  have hu := Try.underlying23
  obtain ⟨cs, rfl, _⟩ := okWide_struct hu hval
  obtain ⟨fuel, hf⟩ := h
  obtain ⟨xs, m, _, hx, hlen, hxl, hel⟩ := DataW.trod_struct hu hf
  have c1 : Try.prog.cellsOf 3 = 1 := by kernel_rfl
  have cT : Try.prog.cellsOf 23 = 6 := by kernel_rfl
  have hx6 : xs.length = 6 := hxl
  have hlen : cs.toList.length = 6 := by rw [← cT]; exact hlen
  have k0 : DataW.trod enc Try.prog W 0 (fun _ => true) true m 3 ((cs.toList.drop 0).take (Try.prog.cellsOf 3)) = xs[0]? := hel 0 _ rfl
  have k1 : DataW.trod enc Try.prog W 0 (fun _ => true) true m 3 ((cs.toList.drop 1).take (Try.prog.cellsOf 3)) = xs[1]? := hel 1 _ rfl
  have k2 : DataW.trod enc Try.prog W 0 (fun _ => true) true m 3 ((cs.toList.drop 2).take (Try.prog.cellsOf 3)) = xs[2]? := hel 2 _ rfl
  have k3 : DataW.trod enc Try.prog W 0 (fun _ => true) true m 3 ((cs.toList.drop 3).take (Try.prog.cellsOf 3)) = xs[3]? := hel 3 _ rfl
  have k4 : DataW.trod enc Try.prog W 0 (fun _ => true) true m 3 ((cs.toList.drop 4).take (Try.prog.cellsOf 3)) = xs[4]? := hel 4 _ rfl
  have k5 : DataW.trod enc Try.prog W 0 (fun _ => true) true m 3 ((cs.toList.drop 5).take (Try.prog.cellsOf 3)) = xs[5]? := hel 5 _ rfl
  rw [c1] at k0 k1 k2 k3 k4 k5
  rw [List.getElem?_eq_getElem (by omega)] at k0 k1 k2 k3 k4 k5
  obtain ⟨p0, e0, _, z0⟩ := DataW.trod_int Try.underlying3 k0
  obtain ⟨p1, e1, _, z1⟩ := DataW.trod_int Try.underlying3 k1
  obtain ⟨p2, e2, _, z2⟩ := DataW.trod_int Try.underlying3 k2
  obtain ⟨p3, e3, _, z3⟩ := DataW.trod_int Try.underlying3 k3
  obtain ⟨p4, e4, _, z4⟩ := DataW.trod_int Try.underlying3 k4
  obtain ⟨p5, e5, _, z5⟩ := DataW.trod_int Try.underlying3 k5
  have b0 := bounds_i64 z0
  have b1 := bounds_i64 z1
  have b2 := bounds_i64 z2
  have b3 := bounds_i64 z3
  have b4 := bounds_i64 z4
  have b5 := bounds_i64 z5
  refine ⟨p0, p1, p2, p3, p4, p5, ?_, ?_⟩
  · have : cs.toList = iv [p0, p1, p2, p3, p4, p5] := by
      have t5 : (cs.toList.drop 5).take 1 = cs.toList.drop 5 := List.take_of_length_le (by simp; omega)
      have s0 := scut cs.toList 0 1
      have s1 := scut cs.toList 1 1
      have s2 := scut cs.toList 2 1
      have s3 := scut cs.toList 3 1
      have s4 := scut cs.toList 4 1
      rw [e0] at s0
      rw [e1] at s1
      rw [e2] at s2
      rw [e3] at s3
      rw [e4] at s4
      rw [e5] at t5
      simp only [Nat.zero_add, Nat.reduceAdd, List.drop_zero] at s0 s1 s2 s3 s4
      rw [← s0, ← s1, ← s2, ← s3, ← s4, ← t5]
      rfl
    rw [← this]
  · intro z hz
    simp only [List.mem_cons, List.not_mem_nil, or_false] at hz
    rcases hz with rfl | rfl | rfl | rfl | rfl | rfl <;> exact ⟨by omega, by omega⟩

def OkS (s : SnapD) : Prop := OkI s.time ∧ OkI s.size ∧ OkI s.chunks
set_option maxRecDepth 8000 in
theorem trodSnap {H : Type} {enc : TypeId × Value → H} {W : World} {fuel : Nat} {cs : List Value} {x : DataW H × List MemPlace} (hf : DataW.trod enc Try.prog W 0 (fun _ => true) true fuel 30 cs = some x) : ∃ s : SnapD, cs = snapC s ∧ OkS s := by
  have hu := Try.underlying30
  obtain ⟨xs, m, _, hx, hlen, hxl, hel⟩ := DataW.trod_struct hu hf
  have c1 : Try.prog.cellsOf 9 = 1 := by kernel_rfl
  have c2 : Try.prog.cellsOf 3 = 1 := by kernel_rfl
  have c3 : Try.prog.cellsOf 28 = 32 := by kernel_rfl
  have cT : Try.prog.cellsOf 30 = 36 := by kernel_rfl
  have hx5 : xs.length = 5 := hxl
  have hlen : cs.length = 36 := by rw [← cT]; exact hlen
  have k0 : DataW.trod enc Try.prog W 0 (fun _ => true) true m 9 ((cs.drop 0).take (Try.prog.cellsOf 9)) = xs[0]? := hel 0 _ rfl
  have k1 : DataW.trod enc Try.prog W 0 (fun _ => true) true m 3 ((cs.drop 1).take (Try.prog.cellsOf 3)) = xs[1]? := hel 1 _ rfl
  have k2 : DataW.trod enc Try.prog W 0 (fun _ => true) true m 3 ((cs.drop 2).take (Try.prog.cellsOf 3)) = xs[2]? := hel 2 _ rfl
  have k3 : DataW.trod enc Try.prog W 0 (fun _ => true) true m 3 ((cs.drop 3).take (Try.prog.cellsOf 3)) = xs[3]? := hel 3 _ rfl
  have k4 : DataW.trod enc Try.prog W 0 (fun _ => true) true m 28 ((cs.drop 4).take (Try.prog.cellsOf 28)) = xs[4]? := hel 4 _ rfl
  rw [c1] at k0
  rw [c2] at k1 k2 k3
  rw [c3] at k4
  rw [List.getElem?_eq_getElem (by omega)] at k0 k1 k2 k3 k4
  obtain ⟨s1, e0, _⟩ := DataW.trod_string Try.underlying9 k0
  obtain ⟨z1, e1, _, w1⟩ := DataW.trod_int Try.underlying3 k1
  obtain ⟨z2, e2, _, w2⟩ := DataW.trod_int Try.underlying3 k2
  obtain ⟨z3, e3, _, w3⟩ := DataW.trod_int Try.underlying3 k3
  obtain ⟨ms, e4, l4⟩ := trodArr Try.underlying28 (by kernel_rfl) c3 k4
  have b1 := bounds_i64 w1
  have b2 := bounds_i64 w2
  have b3 := bounds_i64 w3
  refine ⟨⟨s1.data.toList, z1, z2, z3, ms, l4⟩, ?_, ⟨by show -9223372036854775808 ≤ z1; omega, by show z1 ≤ 9223372036854775807; omega⟩, ⟨by show -9223372036854775808 ≤ z2; omega, by show z2 ≤ 9223372036854775807; omega⟩, ⟨by show -9223372036854775808 ≤ z3; omega, by show z3 ≤ 9223372036854775807; omega⟩⟩
  have t0 := scut cs 0 1
  have t1 := scut cs 1 1
  have t2 := scut cs 2 1
  have t3 := scut cs 3 1
  have t4 : (cs.drop 4).take 32 = cs.drop 4 := List.take_of_length_le (by simp; omega)
  rw [e0] at t0
  rw [e1] at t1
  rw [e2] at t2
  rw [e3] at t3
  rw [e4] at t4
  simp only [Nat.zero_add, Nat.reduceAdd, List.drop_zero] at t0 t1 t2 t3
  rw [← t0, ← t1, ← t2, ← t3, ← t4]
  rfl

theorem blocks_of {α : Type} {enc : α → List Value} {k : Nat} {Q : α → Prop} : ∀ (n : Nat) (cs : List Value), cs.length = n * k → (∀ i, i < n → ∃ r : α, (cs.drop (i * k)).take k = enc r ∧ Q r) → ∃ l : List α, cs = l.flatMap enc ∧ ∀ r ∈ l, Q r
  | 0, cs, h, _ => ⟨[], List.eq_nil_of_length_eq_zero (by omega), by simp⟩
  | n + 1, cs, h, hb => by
    obtain ⟨r, hr, hq⟩ := hb 0 (by omega)
    rw [Nat.zero_mul, List.drop_zero] at hr
    obtain ⟨l, hl, hql⟩ := blocks_of (enc := enc) (Q := Q) n (cs.drop k) (by rw [List.length_drop, h, Nat.succ_mul, Nat.add_sub_cancel]) fun i hi => by
      obtain ⟨q, hq, hqq⟩ := hb (i + 1) (by omega)
      exact ⟨q, by rw [List.drop_drop, show k + i * k = (i + 1) * k by rw [Nat.succ_mul]; omega]; exact hq, hqq⟩
    refine ⟨r :: l, ?_, ?_⟩
    · rw [List.flatMap_cons, ← hl, ← hr, List.take_append_drop]
    · intro x hx
      rcases List.mem_cons.1 hx with rfl | hx
      · exact hq
      · exact hql x hx

set_option maxRecDepth 8000 in
theorem openSnaps {H : Type} {enc : TypeId × Value → H} {W : World} {base : Nat} {v : Value} {d : DataW H} {ps : List MemPlace} (hval : Value.okWide Try.prog W .any base 24 v)
    (h : DataW.Trod enc Try.prog W 0 (fun _ => true) true 24 v d ps) :
    ∃ a n c l, v = .slice a n c ∧ RdS W a n c l ∧ ∀ s ∈ l, OkS s := by
  have hu := Try.underlying24
  obtain ⟨a, n, c, rfl⟩ := okWide_slice hu hval
  obtain ⟨fuel, hf⟩ := h
  obtain ⟨a', n', c', cs, m, hcs, hrd, hel⟩ := trodRows hu (show Try.prog.cellsOf 30 = 36 by kernel_rfl) (by decide) hf
  simp [Value.cells] at hcs
  obtain ⟨rfl, rfl, rfl⟩ := hcs
  obtain ⟨l, rfl, hq⟩ := blocks_of (enc := snapC) (k := 36) (Q := OkS) n cs hrd.len fun i hi => by
    obtain ⟨y, hy⟩ := hel i hi
    obtain ⟨s, h1, h2⟩ := trodSnap hy
    exact ⟨s, by rw [Nat.mul_comm]; exact h1, h2⟩
  exact ⟨a, n, c, l, rfl, ⟨hrd, fun x _ => snapC_len x⟩, hq⟩

end Go.Proofs.Ytdcgapabphjgbaa
