/- A script of chapter 1, a Loss, opened (conditions: none). -/
import Derived.Test.YtoijbpkplegnkaaRowW
import Derived.Test.YtoijbpkplegnkaaDiskN
namespace Go.Proofs.Ytoijbpkplegnkaa
open Go Sx Go.ChangeShapes Go.WideShapes Go.RowKit
set_option maxRecDepth 8000

theorem rcut {α : Type} (l : List α) (i a : Nat) : (l.drop i).take a ++ l.drop (i + a) = l.drop i := by
  have := List.take_append_drop a (l.drop i); rwa [List.drop_drop] at this

theorem zints_of : ∀ (cs : List Value), (∀ v ∈ cs, ∃ z : Int, v = .int .i64 z ∧ -9223372036854775808 ≤ z ∧ z ≤ 9223372036854775807) → ∃ l, cs = zv l ∧ ∀ z ∈ l, -9223372036854775808 ≤ z ∧ z ≤ 9223372036854775807
  | [], _ => ⟨[], rfl, by simp⟩
  | v :: cs, h => by
    obtain ⟨z, rfl, hz⟩ := h v (by simp)
    obtain ⟨l, rfl, hl⟩ := zints_of cs fun u hu => h u (by simp [hu])
    refine ⟨z :: l, rfl, fun y hy => ?_⟩
    rcases List.mem_cons.1 hy with rfl | hy
    · exact hz
    · exact hl y hy

theorem trodIntsW {H : Type} {enc : TypeId × Value → H} {W : World} {fuel : Nat} {cs : List Value} {x : DataW H × List MemPlace} (hf : DataW.trod enc Try.prog W 0 (fun _ => true) true fuel 48 cs = some x) : ∃ a n c l, cs = [.slice a n c] ∧ Rd W a n c 1 (zv l) ∧ (∀ z ∈ l, -9223372036854775808 ≤ z ∧ z ≤ 9223372036854775807) ∧ (n = 0 ∨ ∃ k ∈ x.1.weights Try.prog 48, n * 8 ≤ k) := by
  obtain ⟨a', n', c', cs', m, hcs, hrd, hw, hel⟩ := trodRowsW Try.underlying48 (show Try.prog.cellsOf 3 = 1 by kernel_rfl) (by decide) hf
  rw [show Try.prog.bytesOf 3 = 8 by kernel_rfl] at hw
  obtain ⟨l, hl, hb⟩ := zints_of cs' fun v hv => by
    obtain ⟨i, hi⟩ := List.getElem?_of_mem hv
    have hil := (List.getElem?_eq_some_iff.1 hi).1
    have := hrd.len
    obtain ⟨y, hy, _⟩ := hel i (by omega)
    obtain ⟨z, e, _, wz⟩ := DataW.trod_int Try.underlying3 hy
    have hb := bounds_i64 wz
    refine ⟨z, ?_, by omega, by omega⟩
    rw [Nat.one_mul] at e
    have := congrArg (fun l => l[0]?) e
    simp [List.getElem?_take, List.getElem?_drop, hi] at this
    exact this
  subst hl
  exact ⟨a', n', c', l, hcs, hrd, hb, hw⟩

theorem trodSurv {H : Type} {enc : TypeId × Value → H} {W : World} {fuel : Nat} {cs : List Value} {x : DataW H × List MemPlace} (hf : DataW.trod enc Try.prog W 0 (fun _ => true) true fuel 50 cs = some x) :
    ∃ d a n c l, cs = [.int .i64 d, .slice a n c] ∧ Rd W a n c 1 (zv l) ∧ (∀ z ∈ l, -9223372036854775808 ≤ z ∧ z ≤ 9223372036854775807) ∧ (n = 0 ∨ ∃ k ∈ x.1.weights Try.prog 50, n * 8 ≤ k) := by
  have hu := Try.underlying50
  obtain ⟨xs, m, _, hx, hlen, hxl, hel⟩ := DataW.trod_struct hu hf
  have c1 : Try.prog.cellsOf 3 = 1 := by kernel_rfl
  have c3 : Try.prog.cellsOf 48 = 1 := by kernel_rfl
  have cT : Try.prog.cellsOf 50 = 2 := by kernel_rfl
  have k0 : DataW.trod enc Try.prog W 0 (fun _ => true) true m 3 ((cs.drop 0).take (Try.prog.cellsOf 3)) = xs[0]? := hel 0 _ rfl
  have k1 : DataW.trod enc Try.prog W 0 (fun _ => true) true m 48 ((cs.drop 1).take (Try.prog.cellsOf 48)) = xs[1]? := hel 1 _ rfl
  have hx2 : xs.length = 2 := hxl
  rw [c1] at k0
  rw [c3] at k1
  have hlen : cs.length = 2 := by rw [← cT]; exact hlen
  have g1 : xs[1]? = some xs[1] := List.getElem?_eq_getElem (by omega)
  rw [List.getElem?_eq_getElem (by omega)] at k0
  rw [g1] at k1
  obtain ⟨z, e0, _, w0⟩ := DataW.trod_int Try.underlying3 k0
  obtain ⟨a, n, c, l, e1, hr, hb, hw⟩ := trodIntsW k1
  have s0 := rcut cs 0 1
  have s1 : (cs.drop 1).take 1 = cs.drop 1 := List.take_of_length_le (by simp; omega)
  rw [e0] at s0
  rw [e1] at s1
  simp only [Nat.zero_add, List.drop_zero] at s0 s1
  refine ⟨z, a, n, c, l, by rw [← s0, ← s1]; rfl, hr, hb, ?_⟩
  rcases hw with h0 | ⟨k, hk, hle⟩
  · exact .inl h0
  · exact .inr ⟨k, trod_parts hu hx (i := 1) (T := 48) (by kernel_rfl) g1 k hk, hle⟩

theorem trodOpD {H : Type} {enc : TypeId × Value → H} {W : World} {fuel : Nat} {cs : List Value} {x : DataW H × List MemPlace} (hf : DataW.trod enc Try.prog W 0 (fun _ => true) true fuel 57 cs = some x) :
    ∃ o : OpD, cs = opD o ∧ ((1 + o.cn) * 8 ≤ 140737488355328 → RdOp W o) ∧ (o.cn = 0 ∨ ∃ k ∈ x.1.weights Try.prog 57, o.cn * 8 ≤ k) := by
  have hu := Try.underlying57
  obtain ⟨xs, m, _, hx, hlen, hxl, hel⟩ := DataW.trod_struct hu hf
  have c1 : Try.prog.cellsOf 3 = 1 := by kernel_rfl
  have c2 : Try.prog.cellsOf 9 = 1 := by kernel_rfl
  have c3 : Try.prog.cellsOf 22 = 1 := by kernel_rfl
  have c4 : Try.prog.cellsOf 50 = 2 := by kernel_rfl
  have cT : Try.prog.cellsOf 57 = 8 := by kernel_rfl
  have k0 : DataW.trod enc Try.prog W 0 (fun _ => true) true m 3 ((cs.drop 0).take (Try.prog.cellsOf 3)) = xs[0]? := hel 0 _ rfl
  have k1 : DataW.trod enc Try.prog W 0 (fun _ => true) true m 9 ((cs.drop 1).take (Try.prog.cellsOf 9)) = xs[1]? := hel 1 _ rfl
  have k2 : DataW.trod enc Try.prog W 0 (fun _ => true) true m 9 ((cs.drop 2).take (Try.prog.cellsOf 9)) = xs[2]? := hel 2 _ rfl
  have k3 : DataW.trod enc Try.prog W 0 (fun _ => true) true m 22 ((cs.drop 3).take (Try.prog.cellsOf 22)) = xs[3]? := hel 3 _ rfl
  have k4 : DataW.trod enc Try.prog W 0 (fun _ => true) true m 3 ((cs.drop 4).take (Try.prog.cellsOf 3)) = xs[4]? := hel 4 _ rfl
  have k5 : DataW.trod enc Try.prog W 0 (fun _ => true) true m 3 ((cs.drop 5).take (Try.prog.cellsOf 3)) = xs[5]? := hel 5 _ rfl
  have k6 : DataW.trod enc Try.prog W 0 (fun _ => true) true m 50 ((cs.drop 6).take (Try.prog.cellsOf 50)) = xs[6]? := hel 6 _ rfl
  have hx7 : xs.length = 7 := hxl
  rw [c1] at k0 k4 k5
  rw [c2] at k1 k2
  rw [c3] at k3
  rw [c4] at k6
  have hlen : cs.length = 8 := by rw [← cT]; exact hlen
  have g6 : xs[6]? = some xs[6] := List.getElem?_eq_getElem (by omega)
  rw [List.getElem?_eq_getElem (by omega)] at k0 k1 k2 k3 k4 k5
  rw [g6] at k6
  obtain ⟨z, e0, _, _⟩ := DataW.trod_int Try.underlying3 k0
  obtain ⟨s1, e1, _, _⟩ := DataW.trod_string Try.underlying9 k1
  obtain ⟨s2, e2, _, _⟩ := DataW.trod_string Try.underlying9 k2
  obtain ⟨da, dn, dc, dl, e3, hd, _⟩ := trodB k3
  obtain ⟨y, e4, _, w4⟩ := DataW.trod_int Try.underlying3 k4
  obtain ⟨v, e5, _, w5⟩ := DataW.trod_int Try.underlying3 k5
  obtain ⟨u, ca, cn, cc, cl, e6, hc, hb, hw⟩ := trodSurv k6
  have b4 := bounds_i64 w4
  have b5 := bounds_i64 w5
  refine ⟨⟨z, s1.data.toList, s2.data.toList, da, dn, dc, dl, y, v, u, ca, cn, cc, cl⟩, ?_, fun hbl => ⟨hd, hc, ⟨by show -9223372036854775808 ≤ y; omega, by show y ≤ 9223372036854775807; omega⟩, ⟨by show -9223372036854775808 ≤ v; omega, by show v ≤ 9223372036854775807; omega⟩, fun x hx => (hb x hx).2, hbl⟩, ?_⟩
  · have t0 := rcut cs 0 1
    have t1 := rcut cs 1 1
    have t2 := rcut cs 2 1
    have t3 := rcut cs 3 1
    have t4 := rcut cs 4 1
    have t5 := rcut cs 5 1
    have t6 : (cs.drop 6).take 2 = cs.drop 6 := List.take_of_length_le (by simp; omega)
    rw [e0] at t0
    rw [e1] at t1
    rw [e2] at t2
    rw [e3] at t3
    rw [e4] at t4
    rw [e5] at t5
    rw [e6] at t6
    simp only [Nat.zero_add, Nat.reduceAdd, List.drop_zero] at t0 t1 t2 t3 t4 t5 t6
    rw [← t0, ← t1, ← t2, ← t3, ← t4, ← t5, ← t6]
    rfl
  · rcases hw with h0 | ⟨k, hk, hle⟩
    · exact .inl h0
    · exact .inr ⟨k, trod_parts hu hx (i := 6) (T := 50) (by kernel_rfl) g6 k hk, hle⟩

theorem blocks_of {α : Type} {enc : α → List Value} {k : Nat} {Q : α → Prop} : ∀ (n : Nat) (cs : List Value), cs.length = n * k → (∀ i, i < n → ∃ r : α, (cs.drop (i * k)).take k = enc r ∧ Q r) → ∃ l : List α, cs = l.flatMap enc ∧ ∀ r ∈ l, Q r
  | 0, cs, h, _ => ⟨[], List.eq_nil_of_length_eq_zero (by omega), by simp⟩
  | n + 1, cs, h, hb => by
    obtain ⟨r, hr, hq⟩ := hb 0 (by omega)
    rw [Nat.zero_mul, List.drop_zero] at hr
    obtain ⟨l, hl, hql⟩ := blocks_of (enc := enc) (Q := Q) n (cs.drop k) (by rw [List.length_drop, h, Nat.succ_mul, Nat.add_sub_cancel]) fun i hi => by
      obtain ⟨q, hq, hqq⟩ := hb (i + 1) (by omega)
      exact ⟨q, by rw [List.drop_drop, show k + i * k = (i + 1) * k by rw [Nat.succ_mul]; omega]; exact hq, hqq⟩
    refine ⟨r :: l, ?_, ?_⟩
    · rw [List.flatMap_cons, ← hl, ← hr, List.take_append_drop]
    · intro x hx
      rcases List.mem_cons.1 hx with rfl | hx
      · exact hq
      · exact hql x hx

/-- Calls that came in; hw: the bounds of all that came in. -/
theorem trodScript {H : Type} {enc : TypeId × Value → H} {W : World} {fuel : Nat} {cs : List Value} {x : DataW H × List MemPlace} (hf : DataW.trod enc Try.prog W 0 (fun _ => true) true fuel 47 cs = some x) :
    ∃ a n c l, cs = [.slice a n c] ∧ ((∀ k ∈ x.1.weights Try.prog 47, k ≤ 140737488351232) → RdScript W a n c l ∧ n ≤ 4611686018427387904) := by
  have hu := Try.underlying47
  obtain ⟨a', n', c', cs, m, hcs, hrd, hw, hel⟩ := trodRowsW hu (show Try.prog.cellsOf 57 = 8 by kernel_rfl) (by decide) hf
  rw [show Try.prog.bytesOf 57 = 112 by kernel_rfl] at hw
  obtain ⟨l, rfl, hl⟩ := blocks_of (enc := opD) (k := 8) (Q := fun o : OpD => ((1 + o.cn) * 8 ≤ 140737488355328 → RdOp W o) ∧ (o.cn = 0 ∨ ∃ k ∈ x.1.weights Try.prog 47, o.cn * 8 ≤ k)) n' cs hrd.len fun i hi => by
    obtain ⟨y, hy, hyw⟩ := hel i hi
    obtain ⟨o, h1, h2, h3⟩ := trodOpD hy
    refine ⟨o, by rw [Nat.mul_comm]; exact h1, h2, ?_⟩
    rcases h3 with h0 | ⟨k, hk, hle⟩
    · exact .inl h0
    · exact .inr ⟨k, hyw k hk, hle⟩
  refine ⟨a', n', c', l, hcs, fun hk => ⟨⟨⟨hrd, fun _ _ => rfl⟩, fun o ho => (hl o ho).1 ?_⟩, ?_⟩⟩
  · rcases (hl o ho).2 with h0 | ⟨k, h1, h2⟩
    · omega
    · have := hk k h1; omega
  · rcases hw with h0 | ⟨k, h1, h2⟩
    · omega
    · have := hk k h1; omega

theorem openScript {H : Type} {enc : TypeId × Value → H} {W : World} {base : Nat} {v : Value} {d : DataW H} {ps : List MemPlace} (hval : Value.okWide Try.prog W .any base 47 v)
    (h : DataW.Trod enc Try.prog W 0 (fun _ => true) true 47 v d ps) :
    ∃ a n c l, v = .slice a n c ∧ ∀ (ts : List TypeId) (ds : List (DataW H)) (j : Nat), (DataW.weightsEach Try.prog ts ds).all (· ≤ reachBytes) = true → ts[j]? = some 47 → ds[j]? = some d → RdScript W a n c l ∧ n ≤ 4611686018427387904 := by
  have hu := Try.underlying47
  obtain ⟨a, n, c, rfl⟩ := okWide_slice hu hval
  obtain ⟨fuel, hf⟩ := h
  obtain ⟨a', n', c', l, hcs, hk⟩ := trodScript hf
  simp [Value.cells] at hcs
  obtain ⟨rfl, rfl, rfl⟩ := hcs
  refine ⟨a, n, c, l, rfl, fun ts ds j hsz ht hd => hk fun k hk => ?_⟩
  have := List.all_eq_true.1 hsz k (DataW.weights_mem_each ht hd k hk)
  have e : reachBytes = 140737488351232 := by decide
  simp only [decide_eq_true_eq] at this
  omega

end Go.Proofs.Ytoijbpkplegnkaa
