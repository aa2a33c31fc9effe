/- A literal's row of things of several cells (conditions: none). -/
import Derived.Test.YtdcgapabphjgbaaLists
import Derived.Test.YtdcgapabphjgbaaRdE
namespace Go.Proofs.Ytdcgapabphjgbaa
open Go Sx
set_option maxRecDepth 8000

/-- A literal's row of things of k cells. -/
theorem fill_rows {α : Type} {enc : α → List Value} {k : Nat} (hk : ∀ x, (enc x).length = k) : ∀ (l : List α) (i : Nat) (cells : Array Value), i * k + l.length * k ≤ cells.size →
    Instr.fill (fun j => some (j * k, k)) cells ((l.zipIdx i).map fun p => (p.2, Value.agg (enc p.1).toArray)) = some (cells.toList.take (i * k) ++ l.flatMap enc ++ cells.toList.drop (i * k + l.length * k)).toArray
  | [], i, cells, _ => by simp [Instr.fill]
  | x :: l, i, cells, h => by
    have hx := hk x
    rw [List.zipIdx_cons, List.map_cons]
    have hs : (i + 1) * k = i * k + k := Nat.succ_mul i k
    have hs2 : (x :: l).length * k = l.length * k + k := by rw [List.length_cons, Nat.succ_mul]
    rw [hs2] at h
    have hlc : cells.toList.length = cells.size := by simp
    have ht : (cells.toList.take (i * k)).length = i * k := by rw [List.length_take, hlc]; omega
    rw [fill_step (off := i * k) (sz := k) rfl (by simp [Value.cells, hx]) (by omega)]
    have hc : (cells.toList.take (i * k) ++ (Value.agg (enc x).toArray).cells.toList ++ cells.toList.drop (i * k + k)).toArray = (cells.toList.take (i * k) ++ enc x ++ cells.toList.drop (i * k + k)).toArray := by simp [Value.cells]
    have e1 : (cells.toList.take (i * k) ++ enc x ++ cells.toList.drop (i * k + k)).take (i * k + k) = cells.toList.take (i * k) ++ enc x := by
      apply List.take_left'
      rw [List.length_append, ht, hx]
    have e2 : (cells.toList.take (i * k) ++ enc x ++ cells.toList.drop (i * k + k)).drop (i * k + k + l.length * k) = cells.toList.drop (i * k + (l.length * k + k)) := by
      have h0 : (cells.toList.take (i * k) ++ enc x).length = i * k + k := by rw [List.length_append, ht, hx]
      rw [List.drop_append, List.drop_of_length_le (by omega), List.nil_append, List.drop_drop, h0]
      congr 1
      omega
    rw [hc, fill_rows hk l (i + 1) _ (by rw [hs]; simp only [List.size_toArray, List.length_append, ht, hx, List.length_drop, hlc]; omega), List.toList_toArray, hs, e1, e2, hs2, List.flatMap_cons]
    simp

theorem Sx.St.litE {w0 w : World} {X : List Nat} {M : List Res} (h : St w0 X w M) {α : Type} {enc : α → List Value} {t e sz by_ : Nat} {z : Value} (E : ElemT Try.prog t e sz by_ z) (hk : ∀ x, (enc x).length = sz) (l : List α) (hl0 : 0 < l.length) (hb : l.length * sz ≤ 16777216) :
    ∃ g w', (Instr.buildSlice t l.length ((l.zipIdx 0).map fun p => (p.2, Value.agg (enc p.1).toArray)).toArray).run Try.prog w = .ok (.slice (some ⟨g, 0, none⟩) l.length l.length) w' ∧ St w0 X w' (M ++ [.row e sz (.slice (some ⟨g, 0, none⟩) l.length l.length) l.length (l.flatMap enc)]) := by
  obtain ⟨inf, hinf, hz, hsz, hby⟩ := E.inf
  have hpos := E.pos
  have hfl : (l.flatMap enc).length = l.length * sz := by rw [flatMap_len fun x _ => hk x, Nat.mul_comm]
  have hlt : ¬ l.length * sz > 2 ^ 24 := by omega
  have hll : l.length ≤ 16777216 := by
    have := Nat.le_mul_of_pos_right l.length hpos
    omega
  have hrow : (w.alloc (.cells (l.flatMap enc).toArray e)).ownsRow 0 e sz (.slice (some ⟨w.heap.size, 0, none⟩) l.length l.length) l.length (l.flatMap enc) := by
    have := World.ownsRow_lit (base := 0) (e := e) (size := sz) w (l.flatMap enc).toArray l.length (Nat.zero_le _) (by simp only [maxLen]; omega) (by simpa using hfl)
    simpa using this
  refine ⟨w.heap.size, _, ?_, h.add (Chg.alloc _ (.cells (l.flatMap enc).toArray e)) hrow (by simp [Res.fp, Value.ownBlock])⟩
  have hne : ¬ l.length * sz = 0 := by have := Nat.mul_pos hl0 hpos; omega
  simp only [Instr.buildSlice, Sem.run_bind, run_underlying E.ht, Result.andThen_ok, sizeOf, typeInfo, run_program, hinf, hsz, Sem.run_pure, hne, if_false, zeroValue, hz, hlt, newRow, List.toList_toArray]
  rw [fill_rows hk l 0 _ (by simp)]
  have e0 : ∀ L : List Value, L.length = l.length * sz → (L.take (0 * sz) ++ l.flatMap enc ++ L.drop (0 * sz + l.length * sz)) = l.flatMap enc := by
    intro L hL
    rw [Nat.zero_mul, Nat.zero_add, List.take_zero, List.nil_append, List.drop_of_length_le (by omega), List.append_nil]
  rw [e0 _ (by simp)]
  simp

end Go.Proofs.Ytdcgapabphjgbaa
