/- The iterator slices.Chunk over identifiers (conditions: those that each theorem names). -/
import Derived.Test.YtefnlbgkfingfaaDoorManiF
import Derived.Test.YtefnlbgkfingfaaDoorVchunk
import Derived.RangeFuncBound
namespace Go.Proofs.YtefnlbgkfingfaaDoor
open Go Sx
set_option maxRecDepth 8000

def encC (a : Option Addr) (n i : Nat) : Value := .slice (a.map (·.add (16 * i * 32))) (min 16 (n - 16 * i)) (min 16 (n - 16 * i))
def keep2 (g1 g2 : Nat) (W W' : World) : Prop := W'.heap[g1]? = W.heap[g1]? ∧ W'.heap[g2]? = W.heap[g2]?

abbrev chunkFn : Nat := 43

theorem chunk_spec (a : Option Addr) (n c : Nat) (w : World) : Calls Tryd.prog 29 #[.slice a n c, .int .i64 16] w fun e w' => ∃ g1 g2, e = .returned (.func (.func chunkFn) #[] #[.pointer (some ⟨g1, 0, none⟩), .pointer (some ⟨g2, 0, none⟩)]) ∧
    St w [] w' [.arr g1 30 [.slice a n c], .arr g2 3 [.int .i64 16]] := by
  apply slices_Chunk_api_Id_api_Id_vc
  obtain ⟨g1, w1, r1, h1⟩ := (St.start w).box (P := Tryd.prog) 30 (.slice a n c)
  obtain ⟨g2, w2, r2, h2⟩ := h1.box (P := Tryd.prog) 3 (.int .i64 16)
  refine ⟨g1, w1, r1, g2, w2, r2, _, h2.ldL (i := 1) (l := [.int .i64 16]) rfl (iA _) rfl rfl, fun w' => w' = w2, ⟨fun h => by simp at h, fun _ => rfl⟩, ?_⟩
  rintro w3 rfl
  exact ⟨.func (.func chunkFn) #[] #[.pointer (some ⟨g1, 0, none⟩), .pointer (some ⟨g2, 0, none⟩)], w3, by simp [Instr.makeFunc], g1, g2, rfl, h2⟩

theorem chunk_enters (args : Array Value) (w : World) : (callFunc chunkFn args).run Tryd.prog w = .ok (.enter chunkFn args) w := by
  have hf := Tryd.func43
  have hn : (Tryd.f43.name == "runtime.NumGoroutine") = false := by kernel_rfl
  have hs : Tryd.f43.body.isSome = true := by kernel_rfl
  have hb : ¬ Tryd.f43.body = none := fun e => by rw [e] at hs; cases hs
  simp only [beq_eq_false_iff_ne, ne_eq] at hn
  simp [callFunc, hf, hn, hb]

theorem cell1 {W : World} {g T : Nat} {v : Value} (h : W.heap[g]? = some (.cells #[v] T)) : W.cell? ⟨g, 0, none⟩ = some v := by
  rw [cell_of_row W g _ _ T (0, 0) h]; rfl

theorem chunk_stops (g1 g2 : Nat) (a : Option Addr) (n c : Nat) (w : World) (h1 : w.heap[g1]? = some (.cells #[.slice a n c] 30)) (h2 : w.heap[g2]? = some (.cells #[.int .i64 16] 3)) (hle : n ≤ c) (hb : n ≤ 1000000) :
    SeqStopsK Fence.wide 4 Tryd.prog chunkFn #[.pointer (some ⟨g1, 0, none⟩), .pointer (some ⟨g2, 0, none⟩)] (fun i => #[encC a n i]) (keep2 g1 g2) (fun xs => xs = List.range (numCh n)) (fun _ => True) (numCh n) w := by
  intro l J Jx W hW hJ hJx hY h0
  refine callsIn_wide.2 (slices_Chunk_api_Id_api_Id_1_vc l g1 0 g2 0 W _ ?_)
  have hl1 : g1 < w.heap.size := (Array.getElem?_eq_some_iff.1 h1).1
  have hl2 : g2 < w.heap.size := (Array.getElem?_eq_some_iff.1 h2).1
  have k1 : W.heap[g1]? = some (.cells #[.slice a n c] 30) := (hW.block g1 hl1).trans h1
  have k2 : W.heap[g2]? = some (.cells #[.int .i64 16] 3) := (hW.block g2 hl2).trans h2
  have ld1' : ∀ W' : World, W'.heap[g1]? = some (.cells #[.slice a n c] 30) → (Instr.loadAt 30 (.pointer (some ⟨g1, 0, none⟩))).run Tryd.prog W' = .ok (.slice a n c) W' := fun W' h => ld1 (idsA _) (cell1 h)
  have ld2' : ∀ W' : World, W'.heap[g2]? = some (.cells #[.int .i64 16] 3) → (Instr.loadAt 3 (.pointer (some ⟨g2, 0, none⟩))).run Tryd.prog W' = .ok (.int .i64 16) W' := fun W' h => ld1 (iA _) (cell1 h)
  refine ⟨fun ds x w' => ds = [] ∧ ∃ i : Nat, x = ((16 * i : Nat) : Int) ∧ i ≤ numCh n ∧ J (List.range i) w' ∧ w'.heap[g1]? = some (.cells #[.slice a n c] 30) ∧ w'.heap[g2]? = some (.cells #[.int .i64 16] 3), fun x _ => n + 16 - x.toNat, ⟨rfl, 0, rfl, Nat.zero_le _, h0, k1, k2⟩, ?_⟩
  rintro x ds w1 ⟨rfl, i, rfl, hi, hj, q1, q2⟩
  refine ⟨_, _, _, ld1' _ q1, fun h => ?_, fun h => ?_⟩
  · have hi' : 16 * i < n := by simp at h; omega
    have hic : i < numCh n := by rw [numCh]; omega
    have hd1 : w1.drew.heap[g1]? = w1.heap[g1]? := rfl
    have hw : IntKind.wrap .i64 (((16 * i : Nat) : Int) + (if (((n - Int.toNat ((16 * i : Nat) : Int)) : Nat) : Int) < 16 then (((n - Int.toNat ((16 * i : Nat) : Int)) : Nat) : Int) else 16)) = ((16 * i + min 16 (n - 16 * i) : Nat) : Int) := by
      rw [Int.toNat_natCast]
      split
      · rw [wrap_i64 (by omega) (by omega)]; omega
      · rw [wrap_i64 (by omega) (by omega)]; omega
    refine ⟨fun w' => w' = w1.drew, rfl, 16, fun w' h => by rw [h]; exact ld2' _ q2, _, _, _, fun w' h => by rw [h]; exact ld1' _ q1, by omega, by omega, by omega, fun t16 _ => ⟨_, _, _, ld1' _ q1, ?_⟩⟩
    rw [hw]
    refine ⟨by omega, by omega, by omega, by omega, fun t28 hs28 => ?_⟩
    rw [Int.toNat_natCast, Int.toNat_natCast] at hs28
    have ht : t28 = a.map (·.add (16 * i * 32)) := hs28.2 (by omega)
    subst ht
    rw [Int.toNat_natCast, Int.toNat_natCast, Nat.add_sub_cancel_left]
    have hjd : J (List.range i) w1.drew := hJ _ w1 _ none hj ⟨rfl, rfl, rfl, Nat.le_refl _, fun _ _ _ => rfl⟩ (fun r e => by cases e)
    refine (yieldAt_any (hY (List.range i) i w1.drew hjd (by simpa using hic))).mono ?_
    rintro e w2 (⟨rfl, hj2, hk1, hk2⟩ | ⟨rfl, hjx⟩)
    · have p1 : w2.heap[g1]? = some (.cells #[.slice a n c] 30) := hk1.trans q1
      have p2 : w2.heap[g2]? = some (.cells #[.int .i64 16] 3) := hk2.trans q2
      have hw2 : IntKind.wrap .i64 (((16 * i : Nat) : Int) + 16) = ((16 * (i + 1) : Nat) : Int) := by rw [wrap_i64 (by omega) (by omega)]; omega
      refine ⟨true, rfl, fun h => by simp at h, fun _ => ⟨16, ld2' _ p2, ?_⟩⟩
      rw [hw2]
      exact ⟨⟨rfl, i + 1, rfl, hic, by rw [List.range_succ]; exact hj2, p1, p2⟩, by simp only [Int.toNat_natCast]; omega⟩
    · exact ⟨false, rfl, fun _ => ⟨⟨_, rfl⟩, ⟨_, rfl⟩, .inr ⟨_, trivial, hjx⟩⟩, fun h => by simp at h⟩
  · have hi' : i = numCh n := by simp at h; rw [numCh] at hi ⊢; omega
    exact ⟨⟨_, rfl⟩, ⟨_, rfl⟩, .inl ⟨_, by rw [hi'], hj⟩⟩

end Go.Proofs.YtefnlbgkfingfaaDoor
