/- Trees of identifiers, in plain bytes; rows of identifiers in memory (conditions: none). -/
import Derived.Test.YtefnlbgkfingfaaDoorSealH
import Derived.Test.YtefnlbgkfingfaaDoorSum
import Derived.Test.YtefnlbgkfingfaaDoorApart
import Derived.Test.YtefnlbgkfingfaaDoorMarks
namespace Go.Proofs.YtefnlbgkfingfaaDoor
open Go Sx
set_option maxRecDepth 8000

abbrev Ids := List (List UInt8)
def All32 (ids : Ids) : Prop := ∀ i ∈ ids, i.length = 32
def nodeL (lv : Nat) (ids : Ids) : List UInt8 := [UInt8.ofNat lv] ++ varL ids.length ++ ids.flatten
def chunkL (ids : Ids) (i : Nat) : Ids := (ids.drop (16 * i)).take 16
def numCh (n : Nat) : Nat := (n + 15) / 16
def levelF (lv : Nat) (ids : Ids) : List (List UInt8) := (List.range (numCh ids.length)).map fun i => nodeL lv (chunkL ids i)
def buildF (K : List UInt8) : Nat → Nat → Ids → List (List UInt8) → List (List UInt8) × List UInt8
  | 0, _, _, out => (out, [])
  | f + 1, lv, ids, out => if ids = [] then ([nodeL lv []], idF K (nodeL lv [])) else
      if (levelF lv ids).length = 1 then (out ++ levelF lv ids, idF K ((levelF lv ids).getD 0 [])) else buildF K f (lv + 1) ((levelF lv ids).map (idF K)) (out ++ levelF lv ids)

theorem flat32 : ∀ {ids : Ids}, All32 ids → ids.flatten.length = 32 * ids.length
  | [], _ => rfl
  | i :: ids, h => by
    have := flat32 (ids := ids) fun x hx => h x (by simp [hx])
    have := h i (by simp)
    rw [List.flatten_cons, List.length_append, List.length_cons]
    omega

theorem flat32_drop : ∀ {ids : Ids} (k : Nat), All32 ids → ids.flatten.drop (32 * k) = (ids.drop k).flatten
  | ids, 0, _ => by simp
  | [], k + 1, _ => by simp
  | i :: ids, k + 1, h => by
    have h1 := h i (by simp)
    rw [List.flatten_cons, List.drop_succ_cons, ← flat32_drop k fun x hx => h x (by simp [hx])]
    rw [show 32 * (k + 1) = i.length + 32 * k by omega, List.drop_append, List.drop_of_length_le (by omega), List.nil_append]
    congr 1
    omega

theorem flat32_take : ∀ {ids : Ids} (k : Nat), All32 ids → ids.flatten.take (32 * k) = (ids.take k).flatten
  | ids, 0, _ => by simp
  | [], k + 1, _ => by simp
  | i :: ids, k + 1, h => by
    have h1 := h i (by simp)
    rw [List.flatten_cons, List.take_succ_cons, List.flatten_cons, ← flat32_take k fun x hx => h x (by simp [hx])]
    rw [show 32 * (k + 1) = i.length + 32 * k by omega, List.take_append, List.take_of_length_le (by omega)]
    congr 2
    omega

theorem All32.drop {ids : Ids} (h : All32 ids) (k : Nat) : All32 (ids.drop k) := fun i hi => h i (List.mem_of_mem_drop hi)
theorem All32.take {ids : Ids} (h : All32 ids) (k : Nat) : All32 (ids.take k) := fun i hi => h i (List.mem_of_mem_take hi)
theorem All32.chunk {ids : Ids} (h : All32 ids) (k : Nat) : All32 (chunkL ids k) := (h.drop _).take _
theorem All32.snoc {ids : Ids} (h : All32 ids) {i : List UInt8} (hi : i.length = 32) : All32 (ids ++ [i]) := fun x hx => by
  simp only [List.mem_append, List.mem_singleton] at hx
  rcases hx with hx | rfl
  · exact h x hx
  · exact hi
theorem All32.nil : All32 [] := fun _ h => by simp at h
theorem All32.mapId (K : List UInt8) (l : List (List UInt8)) : All32 (l.map (idF K)) := fun i hi => by
  simp only [List.mem_map] at hi
  obtain ⟨p, _, rfl⟩ := hi
  exact macF_len _ _
theorem chunk_len (ids : Ids) (i : Nat) : (chunkL ids i).length = min 16 (ids.length - 16 * i) := by simp [chunkL]

theorem idT : ElemT Tryd.prog 30 33 32 32 (.agg (bv (List.replicate 32 0)).toArray) := ⟨by kernel_rfl, ⟨Tryd.t33, by kernel_rfl, by kernel_rfl, by kernel_rfl, by kernel_rfl⟩, rfl, by decide⟩
theorem idsA (w : World) : (isAgg 30).run Tryd.prog w = .ok false w := Tryd.isAgg30 w
theorem idsS (w : World) : (sizeOf 30).run Tryd.prog w = .ok 1 w := Tryd.sizeOf30 w
theorem iA (w : World) : (isAgg 3).run Tryd.prog w = .ok false w := Tryd.isAgg3 w
theorem iS (w : World) : (sizeOf 3).run Tryd.prog w = .ok 1 w := Tryd.sizeOf3 w
theorem bbA (w : World) : (isAgg 32).run Tryd.prog w = .ok false w := Tryd.isAgg32 w
theorem bbS (w : World) : (sizeOf 32).run Tryd.prog w = .ok 1 w := Tryd.sizeOf32 w

/-- A row of identifiers that may be read. -/
structure RdI (w : World) (a : Option Addr) (n c : Nat) (ids : Ids) : Prop where
  rd : Rd w a n c 32 (bv ids.flatten)
  all : All32 ids

theorem RdI.num {w : World} {a : Option Addr} {n c : Nat} {ids : Ids} (h : RdI w a n c ids) : ids.length = n := by
  have h1 := h.rd.len
  rw [bv_length, flat32 h.all] at h1
  omega
theorem RdI.keep0 {w w' : World} {a : Option Addr} {n c : Nat} {ids : Ids} (h : RdI w a n c ids) (hc : Chg [] w w') : RdI w' a n c ids := ⟨h.rd.keep0 hc, h.all⟩
theorem RdI.nil (w : World) : RdI w none 0 0 [] := ⟨⟨Cells.nil _ _, rfl, Nat.le_refl _, fun _ => rfl⟩, All32.nil⟩

/-- The cells of one identifier of a row. -/
theorem RdI.at_ {w : World} {a : Option Addr} {n c : Nat} {ids : Ids} (h : RdI w a n c ids) {i : Nat} (hi : i < n) : ∃ b o, a = some ⟨b, o, none⟩ ∧ w.rangeAt b (o + i * 32) (bv (ids.getD i [])) := by
  have hn := h.num
  have hf := flat32 h.all
  rcases h.rd.cells with h0 | ⟨b, o, rfl, hr⟩
  · have : (bv ids.flatten).length = 0 := by rw [h0]; rfl
    simp only [bv_length] at this
    omega
  · refine ⟨b, o, rfl, fun k v hk => ?_⟩
    have hk32 : k < 32 := by
      have h1 := (List.getElem?_eq_some_iff.1 hk).1
      have h2 := h.all (ids.getD i []) (by rw [List.getD, List.getElem?_eq_getElem (by omega)]; simp)
      simp only [bv_length] at h1
      omega
    have he : (ids.flatten.drop (32 * i)).take 32 = ids.getD i [] := by
      rw [flat32_drop i h.all]
      have := flat32_take 1 (h.all.drop i)
      simp only [Nat.mul_one] at this
      rw [this, List.take_one, List.head?_drop, List.getElem?_eq_getElem (by omega)]
      simp [List.getD, show i < ids.length by omega]
    rw [← he, bv_take, bv_drop, List.getElem?_take, if_pos hk32, List.getElem?_drop] at hk
    have := hr _ _ hk
    rw [show o + i * 32 + k = o + (32 * i + k) by omega]
    exact this

theorem RdI.ld {w : World} {a : Option Addr} {n c : Nat} {ids : Ids} (h : RdI w a n c ids) {i : Nat} (hi : i < n) : ∃ b o, a = some ⟨b, o, none⟩ ∧ ∀ w', RdI w' a n c ids → (Instr.loadAt 33 (.pointer (some ⟨b, o + Int.toNat (i : Int) * 32, none⟩))).run Tryd.prog w' = .ok (.agg (bv (ids.getD i [])).toArray) w' := by
  obtain ⟨b, o, rfl, _⟩ := h.at_ hi
  refine ⟨b, o, rfl, fun w' h' => ?_⟩
  obtain ⟨b', o', e, hr⟩ := h'.at_ hi
  simp only [Option.some.injEq, Addr.mk.injEq, and_true] at e
  obtain ⟨rfl, rfl⟩ := e
  have hn := h.num
  have hl : (ids.getD i []).length = 32 := h.all _ (by rw [List.getD, List.getElem?_eq_getElem (by omega)]; simp)
  have := loadCells_cells (P := Tryd.prog) hr
  rw [bv_length, hl] at this
  rw [Int.toNat_natCast]
  simp [Instr.loadAt, Instr.sureAddr, loadVar, idA, idS, this]

theorem RdI.sub {w : World} {a a' : Option Addr} {n c l hh m : Nat} {ids : Ids} (h : RdI w a n c ids) (hs : SubA 32 a l m a') (h1 : l ≤ hh) (h2 : hh ≤ n) (h3 : hh ≤ m) (h4 : m ≤ c) : RdI w a' (hh - l) (m - l) ((ids.drop l).take (hh - l)) := by
  refine ⟨?_, (h.all.drop _).take _⟩
  have := h.rd.sub hs h1 h2 h3 h4
  have e : ((bv ids.flatten).drop (l * 32)).take ((hh - l) * 32) = bv ((ids.drop l).take (hh - l)).flatten := by
    rw [← bv_drop, ← bv_take, Nat.mul_comm l, flat32_drop l h.all, Nat.mul_comm (hh - l), flat32_take (hh - l) (h.all.drop l)]
  rw [e] at this
  exact this

theorem RdI.chunk {w : World} {a : Option Addr} {n c : Nat} {ids : Ids} (h : RdI w a n c ids) (i : Nat) : RdI w (a.map (·.add (16 * i * 32))) (min 16 (n - 16 * i)) (min 16 (n - 16 * i)) (chunkL ids i) := by
  have hn := h.num
  have hle := h.rd.le
  by_cases hi : 16 * i < n
  · have := h.sub (l := 16 * i) (hh := 16 * i + min 16 (n - 16 * i)) (m := 16 * i + min 16 (n - 16 * i)) (a' := a.map (·.add (16 * i * 32))) ⟨fun e => by omega, fun _ => rfl⟩ (by omega) (by omega) (Nat.le_refl _) (by omega)
    rw [Nat.add_sub_cancel_left] at this
    have e : (ids.drop (16 * i)).take (min 16 (n - 16 * i)) = chunkL ids i := by
      rw [chunkL]
      by_cases h16 : 16 ≤ n - 16 * i
      · rw [Nat.min_eq_left h16]
      · rw [Nat.min_eq_right (by omega), List.take_of_length_le (by simp; omega), List.take_of_length_le (by simp; omega)]
    rw [e] at this
    exact this
  · have e0 : min 16 (n - 16 * i) = 0 := by omega
    have e1 : chunkL ids i = [] := by rw [chunkL, List.drop_of_length_le (by omega)]; rfl
    rw [e0, e1]
    exact ⟨⟨Cells.nil _ _, rfl, Nat.le_refl _, fun _ => rfl⟩, All32.nil⟩

end Go.Proofs.YtefnlbgkfingfaaDoor
