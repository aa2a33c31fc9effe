/- Contracts, several texts in one (conditions: those that each theorem names). -/
import Derived.Test.YtefnlbgkfingfaaDoorSealH
import Derived.Test.YtefnlbgkfingfaaDoorSum
import Derived.Test.YtefnlbgkfingfaaDoorApart
import Derived.Test.YtefnlbgkfingfaaDoorMarks
import Derived.Test.YtefnlbgkfingfaaDoorWireB
import Derived.Test.YtefnlbgkfingfaaDoorVmani
import Derived.Test.YtefnlbgkfingfaaDoorVchunk
import Derived.RangeFuncBound
import Derived.Test.YtefnlbgkfingfaaDoorEqG
import Derived.Test.YtefnlbgkfingfaaDoorVlaw15
namespace Go.Proofs.YtefnlbgkfingfaaDoor
open Go Sx
set_option maxRecDepth 8000

abbrev Ids := List (List UInt8)
def All32 (ids : Ids) : Prop := ∀ i ∈ ids, i.length = 32
def nodeL (lv : Nat) (ids : Ids) : List UInt8 := [UInt8.ofNat lv] ++ varL ids.length ++ ids.flatten
def chunkL (ids : Ids) (i : Nat) : Ids := (ids.drop (16 * i)).take 16
def numCh (n : Nat) : Nat := (n + 15) / 16
def levelF (lv : Nat) (ids : Ids) : List (List UInt8) := (List.range (numCh ids.length)).map fun i => nodeL lv (chunkL ids i)
def buildF (K : List UInt8) : Nat → Nat → Ids → List (List UInt8) → List (List UInt8) × List UInt8
  | 0, _, _, out => (out, [])
  | f + 1, lv, ids, out => if ids = [] then ([nodeL lv []], idF K (nodeL lv [])) else
      if (levelF lv ids).length = 1 then (out ++ levelF lv ids, idF K ((levelF lv ids).getD 0 [])) else buildF K f (lv + 1) ((levelF lv ids).map (idF K)) (out ++ levelF lv ids)

theorem flat32 : ∀ {ids : Ids}, All32 ids → ids.flatten.length = 32 * ids.length
  | [], _ => rfl
  | i :: ids, h => by
    have := flat32 (ids := ids) fun x hx => h x (by simp [hx])
    have := h i (by simp)
    rw [List.flatten_cons, List.length_append, List.length_cons]
    omega

theorem flat32_drop : ∀ {ids : Ids} (k : Nat), All32 ids → ids.flatten.drop (32 * k) = (ids.drop k).flatten
  | ids, 0, _ => by simp
  | [], k + 1, _ => by simp
  | i :: ids, k + 1, h => by
    have h1 := h i (by simp)
    rw [List.flatten_cons, List.drop_succ_cons, ← flat32_drop k fun x hx => h x (by simp [hx])]
    rw [show 32 * (k + 1) = i.length + 32 * k by omega, List.drop_append, List.drop_of_length_le (by omega), List.nil_append]
    congr 1
    omega

theorem flat32_take : ∀ {ids : Ids} (k : Nat), All32 ids → ids.flatten.take (32 * k) = (ids.take k).flatten
  | ids, 0, _ => by simp
  | [], k + 1, _ => by simp
  | i :: ids, k + 1, h => by
    have h1 := h i (by simp)
    rw [List.flatten_cons, List.take_succ_cons, List.flatten_cons, ← flat32_take k fun x hx => h x (by simp [hx])]
    rw [show 32 * (k + 1) = i.length + 32 * k by omega, List.take_append, List.take_of_length_le (by omega)]
    congr 2
    omega

theorem All32.drop {ids : Ids} (h : All32 ids) (k : Nat) : All32 (ids.drop k) := fun i hi => h i (List.mem_of_mem_drop hi)
theorem All32.take {ids : Ids} (h : All32 ids) (k : Nat) : All32 (ids.take k) := fun i hi => h i (List.mem_of_mem_take hi)
theorem All32.chunk {ids : Ids} (h : All32 ids) (k : Nat) : All32 (chunkL ids k) := (h.drop _).take _
theorem All32.snoc {ids : Ids} (h : All32 ids) {i : List UInt8} (hi : i.length = 32) : All32 (ids ++ [i]) := fun x hx => by
  simp only [List.mem_append, List.mem_singleton] at hx
  rcases hx with hx | rfl
  · exact h x hx
  · exact hi
theorem All32.nil : All32 [] := fun _ h => by simp at h
theorem All32.mapId (K : List UInt8) (l : List (List UInt8)) : All32 (l.map (idF K)) := fun i hi => by
  simp only [List.mem_map] at hi
  obtain ⟨p, _, rfl⟩ := hi
  exact macF_len _ _
theorem chunk_len (ids : Ids) (i : Nat) : (chunkL ids i).length = min 16 (ids.length - 16 * i) := by simp [chunkL]

theorem idT : ElemT Tryd.prog 30 33 32 32 (.agg (bv (List.replicate 32 0)).toArray) := ⟨by kernel_rfl, ⟨Tryd.t33, by kernel_rfl, by kernel_rfl, by kernel_rfl, by kernel_rfl⟩, rfl, by decide⟩
theorem idsA (w : World) : (isAgg 30).run Tryd.prog w = .ok false w := Tryd.isAgg30 w
theorem idsS (w : World) : (sizeOf 30).run Tryd.prog w = .ok 1 w := Tryd.sizeOf30 w
theorem iA (w : World) : (isAgg 3).run Tryd.prog w = .ok false w := Tryd.isAgg3 w
theorem iS (w : World) : (sizeOf 3).run Tryd.prog w = .ok 1 w := Tryd.sizeOf3 w
theorem bbA (w : World) : (isAgg 32).run Tryd.prog w = .ok false w := Tryd.isAgg32 w
theorem bbS (w : World) : (sizeOf 32).run Tryd.prog w = .ok 1 w := Tryd.sizeOf32 w

/-- A row of identifiers that may be read. -/
structure RdI (w : World) (a : Option Addr) (n c : Nat) (ids : Ids) : Prop where
  rd : Rd w a n c 32 (bv ids.flatten)
  all : All32 ids

theorem RdI.num {w : World} {a : Option Addr} {n c : Nat} {ids : Ids} (h : RdI w a n c ids) : ids.length = n := by
  have h1 := h.rd.len
  rw [bv_length, flat32 h.all] at h1
  omega
theorem RdI.keep0 {w w' : World} {a : Option Addr} {n c : Nat} {ids : Ids} (h : RdI w a n c ids) (hc : Chg [] w w') : RdI w' a n c ids := ⟨h.rd.keep0 hc, h.all⟩
theorem RdI.nil (w : World) : RdI w none 0 0 [] := ⟨⟨Cells.nil _ _, rfl, Nat.le_refl _, fun _ => rfl⟩, All32.nil⟩

/-- The cells of one identifier of a row. -/
theorem RdI.at_ {w : World} {a : Option Addr} {n c : Nat} {ids : Ids} (h : RdI w a n c ids) {i : Nat} (hi : i < n) : ∃ b o, a = some ⟨b, o, none⟩ ∧ w.rangeAt b (o + i * 32) (bv (ids.getD i [])) := by
  have hn := h.num
  have hf := flat32 h.all
  rcases h.rd.cells with h0 | ⟨b, o, rfl, hr⟩
  · have : (bv ids.flatten).length = 0 := by rw [h0]; rfl
    simp only [bv_length] at this
    omega
  · refine ⟨b, o, rfl, fun k v hk => ?_⟩
    have hk32 : k < 32 := by
      have h1 := (List.getElem?_eq_some_iff.1 hk).1
      have h2 := h.all (ids.getD i []) (by rw [List.getD, List.getElem?_eq_getElem (by omega)]; simp)
      simp only [bv_length] at h1
      omega
    have he : (ids.flatten.drop (32 * i)).take 32 = ids.getD i [] := by
      rw [flat32_drop i h.all]
      have := flat32_take 1 (h.all.drop i)
      simp only [Nat.mul_one] at this
      rw [this, List.take_one, List.head?_drop, List.getElem?_eq_getElem (by omega)]
      simp [List.getD, show i < ids.length by omega]
    rw [← he, bv_take, bv_drop, List.getElem?_take, if_pos hk32, List.getElem?_drop] at hk
    have := hr _ _ hk
    rw [show o + i * 32 + k = o + (32 * i + k) by omega]
    exact this

theorem RdI.ld {w : World} {a : Option Addr} {n c : Nat} {ids : Ids} (h : RdI w a n c ids) {i : Nat} (hi : i < n) : ∃ b o, a = some ⟨b, o, none⟩ ∧ ∀ w', RdI w' a n c ids → (Instr.loadAt 33 (.pointer (some ⟨b, o + Int.toNat (i : Int) * 32, none⟩))).run Tryd.prog w' = .ok (.agg (bv (ids.getD i [])).toArray) w' := by
  obtain ⟨b, o, rfl, _⟩ := h.at_ hi
  refine ⟨b, o, rfl, fun w' h' => ?_⟩
  obtain ⟨b', o', e, hr⟩ := h'.at_ hi
  simp only [Option.some.injEq, Addr.mk.injEq, and_true] at e
  obtain ⟨rfl, rfl⟩ := e
  have hn := h.num
  have hl : (ids.getD i []).length = 32 := h.all _ (by rw [List.getD, List.getElem?_eq_getElem (by omega)]; simp)
  have := loadCells_cells (P := Tryd.prog) hr
  rw [bv_length, hl] at this
  rw [Int.toNat_natCast]
  simp [Instr.loadAt, Instr.sureAddr, loadVar, idA, idS, this]

theorem RdI.sub {w : World} {a a' : Option Addr} {n c l hh m : Nat} {ids : Ids} (h : RdI w a n c ids) (hs : SubA 32 a l m a') (h1 : l ≤ hh) (h2 : hh ≤ n) (h3 : hh ≤ m) (h4 : m ≤ c) : RdI w a' (hh - l) (m - l) ((ids.drop l).take (hh - l)) := by
  refine ⟨?_, (h.all.drop _).take _⟩
  have := h.rd.sub hs h1 h2 h3 h4
  have e : ((bv ids.flatten).drop (l * 32)).take ((hh - l) * 32) = bv ((ids.drop l).take (hh - l)).flatten := by
    rw [← bv_drop, ← bv_take, Nat.mul_comm l, flat32_drop l h.all, Nat.mul_comm (hh - l), flat32_take (hh - l) (h.all.drop l)]
  rw [e] at this
  exact this

theorem RdI.chunk {w : World} {a : Option Addr} {n c : Nat} {ids : Ids} (h : RdI w a n c ids) (i : Nat) : RdI w (a.map (·.add (16 * i * 32))) (min 16 (n - 16 * i)) (min 16 (n - 16 * i)) (chunkL ids i) := by
  have hn := h.num
  have hle := h.rd.le
  by_cases hi : 16 * i < n
  · have := h.sub (l := 16 * i) (hh := 16 * i + min 16 (n - 16 * i)) (m := 16 * i + min 16 (n - 16 * i)) (a' := a.map (·.add (16 * i * 32))) ⟨fun e => by omega, fun _ => rfl⟩ (by omega) (by omega) (Nat.le_refl _) (by omega)
    rw [Nat.add_sub_cancel_left] at this
    have e : (ids.drop (16 * i)).take (min 16 (n - 16 * i)) = chunkL ids i := by
      rw [chunkL]
      by_cases h16 : 16 ≤ n - 16 * i
      · rw [Nat.min_eq_left h16]
      · rw [Nat.min_eq_right (by omega), List.take_of_length_le (by simp; omega), List.take_of_length_le (by simp; omega)]
    rw [e] at this
    exact this
  · have e0 : min 16 (n - 16 * i) = 0 := by omega
    have e1 : chunkL ids i = [] := by rw [chunkL, List.drop_of_length_le (by omega)]; rfl
    rw [e0, e1]
    exact ⟨⟨Cells.nil _ _, rfl, Nat.le_refl _, fun _ => rfl⟩, All32.nil⟩

open Go Sx
set_option maxRecDepth 8000

theorem RdI.elem {w : World} {a : Option Addr} {n c : Nat} {ids : Ids} (h : RdI w a n c ids) {i : Nat} (hi : i < n) : ∃ b o, a = some ⟨b, o, none⟩ ∧ ∀ w', RdI w' a n c ids → RdB w' (some ⟨b, o + Int.toNat (i : Int) * 32, none⟩) 32 32 (ids.getD i []) := by
  obtain ⟨b, o, rfl, _⟩ := h.at_ hi
  refine ⟨b, o, rfl, fun w' h' => ?_⟩
  obtain ⟨b', o', e, hr⟩ := h'.at_ hi
  simp only [Option.some.injEq, Addr.mk.injEq, and_true] at e
  obtain ⟨rfl, rfl⟩ := e
  have hn := h.num
  have hl : (ids.getD i []).length = 32 := h.all _ (by rw [List.getD, List.getElem?_eq_getElem (by omega)]; simp)
  rw [Int.toNat_natCast]
  exact ⟨.inr ⟨_, _, rfl, hr⟩, by rw [bv_length, hl], Nat.le_refl _, by simp⟩

theorem RdI.get32 {w : World} {a : Option Addr} {n c : Nat} {ids : Ids} (h : RdI w a n c ids) {i : Nat} (hi : i < n) : (ids.getD i []).length = 32 := by
  have hn := h.num
  exact h.all _ (by rw [List.getD, List.getElem?_eq_getElem (by omega)]; simp)

theorem lv_byte (lv : Nat) : IntKind.wrap .u8 (lv : Int) = ((UInt8.ofNat lv).toNat : Int) := by
  rw [wrap_u8]
  simp

theorem node_spec (lv : Nat) (a : Option Addr) (n c : Nat) (ids : Ids) (w : World) (hr : RdI w a n c ids) (hb : n ≤ 1000000) :
    Calls Tryd.prog 30 #[.int .i64 (lv : Int), .slice a n c] w fun e w' => ∃ a' n' c', e = .returned (.slice a' n' c') ∧ FreshB w w' a' n' c' (nodeL lv ids) := by
  have hn := hr.num
  apply manifest_node_vc
  rw [lv_byte]
  obtain ⟨g1, w1, r1, h1⟩ := (St.start w).lit bT [.int .u8 ((UInt8.ofNat lv).toNat : Int)] (by simp [Value.oneCell']) (by simp)
  have h1 : St w [] w1 [.row 5 1 (.slice (some ⟨g1, 0, none⟩) 1 1) 1 (bv [UInt8.ofNat lv])] := h1
  have hv9 := varL_len 9 n (by omega) (by decide)
  refine ⟨_, _, _, _, r1, (var_spec n w1 (by omega)).mono ?_⟩
  rintro e w2 ⟨a2, n2, c2, rfl, hf2⟩
  have h2 := hf2.add h1
  have e2 := hf2.2.1
  obtain ⟨va, vc, w3, r3, h3⟩ := h2.appendB (i := 0) rfl (h2.rd (i := 1) (xs := bv (varL n)) rfl) (by omega)
  have h3' : St w [] w3 [.row 5 1 (.slice va (1 + n2) vc) (1 + n2) (bv ([UInt8.ofNat lv] ++ varL n))] := h3.sub (List.Sublist.cons_cons _ (List.nil_sublist _))
  refine ⟨_, _, _, rfl, _, _, _, _, r3, fun xa xn xc x w' => ∃ i : Nat, x = (i : Int) ∧ i ≤ n ∧ St w [] w' [.row 5 1 (.slice xa xn xc) xn (bv ([UInt8.ofNat lv] ++ varL n ++ (ids.take i).flatten))], fun _ _ _ x _ => n - x.toNat, ⟨0, rfl, by omega, by simpa using h3'⟩, ?_⟩
  rintro xa xn xc x w4 ⟨i, rfl, hi, h4⟩
  have hl4 : xn ≤ 10 + 32 * n := by
    have h5 : RdB w4 xa xn xc _ := h4.rd (i := 0) rfl
    have := h5.lenB
    have h6 := flat32 (hr.all.take i)
    rw [List.length_append, List.length_append, h6, List.length_take] at this
    simp only [List.length_singleton] at this
    omega
  refine ⟨fun h => ?_, fun h => ?_⟩
  · have hi' : i < n := by simp at h; omega
    obtain ⟨b, o, ha, q⟩ := hr.ld hi'
    have h32 := hr.get32 hi'
    obtain ⟨g5, w5, r5, h5⟩ := h4.zeroA idZ
    obtain ⟨w6, r6, h6⟩ := h5.stA (i := 1) (v := bv (ids.getD i [])) rfl (idS _) (by simp) (by rw [bv_length]; exact h32) (bv_one _)
    obtain ⟨vb, vd, w7, r7, h7⟩ := h6.appendB (i := 0) (m := 32) rfl (h6.rdA (i := 1) (l := bv (ids.getD i [])) rfl (by rw [bv_length]; exact h32)) (by omega)
    have h7' : St w [] w7 [.row 5 1 (.slice vb (xn + 32) vd) (xn + 32) (bv ([UInt8.ofNat lv] ++ varL n ++ (ids.take (i + 1)).flatten))] := by
      rw [flat_take (by omega), ← List.append_assoc]
      exact h7.sub (List.Sublist.cons_cons _ (List.nil_sublist _))
    exact ⟨b, o, ha, by omega, by omega, _, q w4 (hr.keep0 h4.chg), g5, w5, r5, w6, r6, by omega, by omega, _, _, _, _, r7, ⟨i + 1, wrap_succ hi' (by omega), by omega, h7'⟩, mu_succ hi' (by omega)⟩
  · have hi' : i = n := by simp at h; omega
    rw [hi', List.take_of_length_le (by omega)] at h4
    refine ⟨_, _, _, rfl, ?_⟩
    rw [nodeL, hn]
    exact h4.freshB (i := 0) rfl

theorem rnode_spec (lv : Nat) (a : Option Addr) (n c : Nat) (ids : Ids) (w : World) (hr : RdI w a n c ids) (hb : n ≤ 1000000) :
    Calls Tryd.prog 32 #[.int .i64 (lv : Int), .slice a n c] w fun e w' => ∃ a' n' c', e = .returned (.slice a' n' c') ∧ FreshB w w' a' n' c' (nodeL lv ids) := by
  have hn := hr.num
  apply amphoraref15_Node_vc
  rw [lv_byte]
  obtain ⟨g1, w1, r1, h1⟩ := (St.start w).lit bT [.int .u8 ((UInt8.ofNat lv).toNat : Int)] (by simp [Value.oneCell']) (by simp)
  have h1 : St w [] w1 [.row 5 1 (.slice (some ⟨g1, 0, none⟩) 1 1) 1 (bv [UInt8.ofNat lv])] := h1
  have hv9 := varL_len 9 n (by omega) (by decide)
  refine ⟨_, _, _, _, r1, (rvar_spec n w1 (by omega)).mono ?_⟩
  rintro e w2 ⟨a2, n2, c2, rfl, hf2⟩
  have h2 := hf2.add h1
  have e2 := hf2.2.1
  obtain ⟨va, vc, w3, r3, h3⟩ := h2.appendB (i := 0) rfl (h2.rd (i := 1) (xs := bv (varL n)) rfl) (by omega)
  have h3' : St w [] w3 [.row 5 1 (.slice va (1 + n2) vc) (1 + n2) (bv ([UInt8.ofNat lv] ++ varL n))] := h3.sub (List.Sublist.cons_cons _ (List.nil_sublist _))
  refine ⟨_, _, _, rfl, _, _, _, _, r3, fun xa xn xc x w' => ∃ i : Nat, x = (i : Int) ∧ i ≤ n ∧ St w [] w' [.row 5 1 (.slice xa xn xc) xn (bv ([UInt8.ofNat lv] ++ varL n ++ (ids.take i).flatten))], fun _ _ _ x _ => n - x.toNat, ⟨0, rfl, by omega, by simpa using h3'⟩, ?_⟩
  rintro xa xn xc x w4 ⟨i, rfl, hi, h4⟩
  have hl4 : xn ≤ 10 + 32 * n := by
    have h5 : RdB w4 xa xn xc _ := h4.rd (i := 0) rfl
    have := h5.lenB
    have h6 := flat32 (hr.all.take i)
    rw [List.length_append, List.length_append, h6, List.length_take] at this
    simp only [List.length_singleton] at this
    omega
  refine ⟨fun h => ?_, fun h => ?_⟩
  · have hi' : i < n := by simp at h; omega
    obtain ⟨b, o, ha, q⟩ := hr.elem hi'
    obtain ⟨vb, vd, w7, r7, h7⟩ := h4.appendB (i := 0) (m := 32) rfl (q w4 (hr.keep0 h4.chg)) (by omega)
    have h7' : St w [] w7 [.row 5 1 (.slice vb (xn + 32) vd) (xn + 32) (bv ([UInt8.ofNat lv] ++ varL n ++ (ids.take (i + 1)).flatten))] := by
      rw [flat_take (by omega), ← List.append_assoc]
      exact h7
    exact ⟨b, o, ha, by omega, by omega, by omega, by omega, _, _, _, _, r7, ⟨i + 1, wrap_succ hi' (by omega), by omega, h7'⟩, mu_succ hi' (by omega)⟩
  · have hi' : i = n := by simp at h; omega
    rw [hi', List.take_of_length_le (by omega)] at h4
    refine ⟨_, _, _, rfl, ?_⟩
    rw [nodeL, hn]
    exact h4.freshB (i := 0) rfl

open Go Sx
set_option maxRecDepth 8000

def encC (a : Option Addr) (n i : Nat) : Value := .slice (a.map (·.add (16 * i * 32))) (min 16 (n - 16 * i)) (min 16 (n - 16 * i))
def keep2 (g1 g2 : Nat) (W W' : World) : Prop := W'.heap[g1]? = W.heap[g1]? ∧ W'.heap[g2]? = W.heap[g2]?

abbrev chunkFn : Nat := 43

theorem chunk_spec (a : Option Addr) (n c : Nat) (w : World) : Calls Tryd.prog 29 #[.slice a n c, .int .i64 16] w fun e w' => ∃ g1 g2, e = .returned (.func (.func chunkFn) #[] #[.pointer (some ⟨g1, 0, none⟩), .pointer (some ⟨g2, 0, none⟩)]) ∧
    St w [] w' [.arr g1 30 [.slice a n c], .arr g2 3 [.int .i64 16]] := by
  apply slices_Chunk_api_Id_api_Id_vc
  obtain ⟨g1, w1, r1, h1⟩ := (St.start w).box (P := Tryd.prog) 30 (.slice a n c)
  obtain ⟨g2, w2, r2, h2⟩ := h1.box (P := Tryd.prog) 3 (.int .i64 16)
  refine ⟨g1, w1, r1, g2, w2, r2, _, h2.ldL (i := 1) (l := [.int .i64 16]) rfl (iA _) rfl rfl, fun w' => w' = w2, ⟨fun h => by simp at h, fun _ => rfl⟩, ?_⟩
  rintro w3 rfl
  exact ⟨.func (.func chunkFn) #[] #[.pointer (some ⟨g1, 0, none⟩), .pointer (some ⟨g2, 0, none⟩)], w3, by simp [Instr.makeFunc], g1, g2, rfl, h2⟩

theorem chunk_enters (args : Array Value) (w : World) : (callFunc chunkFn args).run Tryd.prog w = .ok (.enter chunkFn args) w := by
  have hf := Tryd.func43
  have hn : (Tryd.f43.name == "runtime.NumGoroutine") = false := by kernel_rfl
  have hs : Tryd.f43.body.isSome = true := by kernel_rfl
  have hb : ¬ Tryd.f43.body = none := fun e => by rw [e] at hs; cases hs
  simp only [beq_eq_false_iff_ne, ne_eq] at hn
  simp [callFunc, hf, hn, hb]

theorem cell1 {W : World} {g T : Nat} {v : Value} (h : W.heap[g]? = some (.cells #[v] T)) : W.cell? ⟨g, 0, none⟩ = some v := by
  rw [cell_of_row W g _ _ T (0, 0) h]; rfl

theorem chunk_stops (g1 g2 : Nat) (a : Option Addr) (n c : Nat) (w : World) (h1 : w.heap[g1]? = some (.cells #[.slice a n c] 30)) (h2 : w.heap[g2]? = some (.cells #[.int .i64 16] 3)) (hle : n ≤ c) (hb : n ≤ 1000000) :
    SeqStopsK Fence.wide 4 Tryd.prog chunkFn #[.pointer (some ⟨g1, 0, none⟩), .pointer (some ⟨g2, 0, none⟩)] (fun i => #[encC a n i]) (keep2 g1 g2) (fun xs => xs = List.range (numCh n)) (fun _ => True) (numCh n) w := by
  intro l J Jx W hW hJ hJx hY h0
  refine callsIn_wide.2 (slices_Chunk_api_Id_api_Id_1_vc l g1 0 g2 0 W _ ?_)
  have hl1 : g1 < w.heap.size := (Array.getElem?_eq_some_iff.1 h1).1
  have hl2 : g2 < w.heap.size := (Array.getElem?_eq_some_iff.1 h2).1
  have k1 : W.heap[g1]? = some (.cells #[.slice a n c] 30) := (hW.block g1 hl1).trans h1
  have k2 : W.heap[g2]? = some (.cells #[.int .i64 16] 3) := (hW.block g2 hl2).trans h2
  have ld1' : ∀ W' : World, W'.heap[g1]? = some (.cells #[.slice a n c] 30) → (Instr.loadAt 30 (.pointer (some ⟨g1, 0, none⟩))).run Tryd.prog W' = .ok (.slice a n c) W' := fun W' h => ld1 (idsA _) (cell1 h)
  have ld2' : ∀ W' : World, W'.heap[g2]? = some (.cells #[.int .i64 16] 3) → (Instr.loadAt 3 (.pointer (some ⟨g2, 0, none⟩))).run Tryd.prog W' = .ok (.int .i64 16) W' := fun W' h => ld1 (iA _) (cell1 h)
  refine ⟨fun ds x w' => ds = [] ∧ ∃ i : Nat, x = ((16 * i : Nat) : Int) ∧ i ≤ numCh n ∧ J (List.range i) w' ∧ w'.heap[g1]? = some (.cells #[.slice a n c] 30) ∧ w'.heap[g2]? = some (.cells #[.int .i64 16] 3), fun x _ => n + 16 - x.toNat, ⟨rfl, 0, rfl, Nat.zero_le _, h0, k1, k2⟩, ?_⟩
  rintro x ds w1 ⟨rfl, i, rfl, hi, hj, q1, q2⟩
  refine ⟨_, _, _, ld1' _ q1, fun h => ?_, fun h => ?_⟩
  · have hi' : 16 * i < n := by simp at h; omega
    have hic : i < numCh n := by rw [numCh]; omega
    have hd1 : w1.drew.heap[g1]? = w1.heap[g1]? := rfl
    have hw : IntKind.wrap .i64 (((16 * i : Nat) : Int) + (if (((n - Int.toNat ((16 * i : Nat) : Int)) : Nat) : Int) < 16 then (((n - Int.toNat ((16 * i : Nat) : Int)) : Nat) : Int) else 16)) = ((16 * i + min 16 (n - 16 * i) : Nat) : Int) := by
      rw [Int.toNat_natCast]
      split
      · rw [wrap_i64 (by omega) (by omega)]; omega
      · rw [wrap_i64 (by omega) (by omega)]; omega
    refine ⟨fun w' => w' = w1.drew, rfl, 16, fun w' h => by rw [h]; exact ld2' _ q2, _, _, _, fun w' h => by rw [h]; exact ld1' _ q1, by omega, by omega, by omega, fun t16 _ => ⟨_, _, _, ld1' _ q1, ?_⟩⟩
    rw [hw]
    refine ⟨by omega, by omega, by omega, by omega, fun t28 hs28 => ?_⟩
    rw [Int.toNat_natCast, Int.toNat_natCast] at hs28
    have ht : t28 = a.map (·.add (16 * i * 32)) := hs28.2 (by omega)
    subst ht
    rw [Int.toNat_natCast, Int.toNat_natCast, Nat.add_sub_cancel_left]
    have hjd : J (List.range i) w1.drew := hJ _ w1 _ none hj ⟨rfl, rfl, rfl, Nat.le_refl _, fun _ _ _ => rfl⟩ (fun r e => by cases e)
    refine (yieldAt_any (hY (List.range i) i w1.drew hjd (by simpa using hic))).mono ?_
    rintro e w2 (⟨rfl, hj2, hk1, hk2⟩ | ⟨rfl, hjx⟩)
    · have p1 : w2.heap[g1]? = some (.cells #[.slice a n c] 30) := hk1.trans q1
      have p2 : w2.heap[g2]? = some (.cells #[.int .i64 16] 3) := hk2.trans q2
      have hw2 : IntKind.wrap .i64 (((16 * i : Nat) : Int) + 16) = ((16 * (i + 1) : Nat) : Int) := by rw [wrap_i64 (by omega) (by omega)]; omega
      refine ⟨true, rfl, fun h => by simp at h, fun _ => ⟨16, ld2' _ p2, ?_⟩⟩
      rw [hw2]
      exact ⟨⟨rfl, i + 1, rfl, hic, by rw [List.range_succ]; exact hj2, p1, p2⟩, by simp only [Int.toNat_natCast]; omega⟩
    · exact ⟨false, rfl, fun _ => ⟨⟨_, rfl⟩, ⟨_, rfl⟩, .inr ⟨_, trivial, hjx⟩⟩, fun h => by simp at h⟩
  · have hi' : i = numCh n := by simp at h; rw [numCh] at hi ⊢; omega
    exact ⟨⟨_, rfl⟩, ⟨_, rfl⟩, .inl ⟨_, by rw [hi'], hj⟩⟩

open Go Sx
set_option maxRecDepth 8000

theorem Sx.St.ins {w0 w : World} {X : List Nat} {A R : List Res} {x : Res} (h : St w0 X w ((A ++ R) ++ [x])) : St w0 X w ((A ++ [x]) ++ R) :=
  h.perm (by rw [List.append_assoc, List.append_assoc]; exact List.Perm.append_left A List.perm_append_comm)

theorem Sx.St.back {w0 w w' : World} {X : List Nat} {M N : List Res} (h : St w0 X w M) (h' : St w (fpsL M) w' N) : St w0 X w' N := by
  have := St.callPart (M := []) (N := M) (N' := N) (by simpa using h) h'
  simpa using this

/-- The row of identifiers that is walked: the caller's, or one's own. -/
def CurOk (w : World) (a : Option Addr) (n c : Nat) (ids : Ids) (cur : Res) : Prop := (cur = Res.emp ∧ RdI w a n c ids) ∨ (All32 ids ∧ cur = .row 33 32 (.slice a n c) n (bv ids.flatten))

theorem CurOk.rd {w w' : World} {a : Option Addr} {n c : Nat} {ids : Ids} {cur : Res} {M : List Res} (h : CurOk w a n c ids cur) (hS : St w [] w' M) (hi : M[4]? = some cur) : RdI w' a n c ids := by
  rcases h with ⟨_, h⟩ | ⟨h1, rfl⟩
  · exact h.keep0 hS.chg
  · exact ⟨hS.rd hi, h1⟩

theorem CurOk.cellish {w : World} {a : Option Addr} {n c : Nat} {ids : Ids} {cur : Res} (h : CurOk w a n c ids cur) : cur.cellish = true := by
  rcases h with ⟨rfl, _⟩ | ⟨_, rfl⟩ <;> rfl

/-- What Build holds. -/
def bM1 (K z : List UInt8) (g2 g5 g7 : Nat) (oa : Option Addr) (on oc : Nat) (vs : List Value) (cur : Res) (g8 lv : Nat) : List Res :=
  [.arr g2 28 (bv K), .arr g5 33 (bv z), .arr g7 32 [.slice oa on oc], .row 23 1 (.slice oa on oc) on vs, cur, .arr g8 3 [.int .i64 (lv : Int)]]
/-- What it holds besides while it ranges. -/
def bM2 (g9 : Nat) (aa : Option Addr) (an ac : Nat) (above : Ids) (gs gn : Nat) (xa : Option Addr) (xn xc : Nat) : List Res :=
  [.arr g9 30 [.slice aa an ac], .row 33 32 (.slice aa an ac) an (bv above.flatten), .arr gs 30 [.slice xa xn xc], .arr gn 3 [.int .i64 16]]

def HdOk (vs : List Value) (nodes : List (List UInt8)) : Prop := vs.length = nodes.length ∧ ∀ i, i < nodes.length → ∃ a c, vs[i]? = some (.slice a (nodes.getD i []).length c)
theorem HdOk.snoc {vs : List Value} {nodes : List (List UInt8)} (h : HdOk vs nodes) (a : Option Addr) (c : Nat) (l : List UInt8) : HdOk (vs ++ [.slice a l.length c]) (nodes ++ [l]) := ⟨by simp [h.1], hd_snoc h.1 h.2 a c l⟩

def InvB (w : World) (K z : List UInt8) (g2 g5 g7 : Nat) (cur : Res) (g8 lv g9 gs gn : Nat) (xa : Option Addr) (xn xc : Nat) (ds : List Nat) (out : List (List UInt8)) (ids : Ids) (pre : List Nat) (W : World) : Prop :=
  ∃ oa on oc vs aa an ac, HdOk vs (out ++ pre.map fun i => nodeL lv (chunkL ids i)) ∧
    St w [] W (bM1 K z g2 g5 g7 oa on oc vs cur g8 lv ++ bM2 g9 aa an ac ((pre.map fun i => nodeL lv (chunkL ids i)).map (idF K)) gs gn xa xn xc ++ (dmarks ds ++ rowsL vs (out ++ pre.map fun i => nodeL lv (chunkL ids i))))

theorem rowsL_cellish : ∀ (vs : List Value) (ls : List (List UInt8)), ∀ r ∈ rowsL vs ls, r.cellish = true := by
  intro vs ls r hr
  simp only [rowsL] at hr
  obtain ⟨i, hi⟩ := List.getElem?_of_mem hr
  rw [List.getElem?_zipWith] at hi
  cases h1 : vs[i]? <;> cases h2 : ls[i]? <;> simp [h1, h2] at hi
  rw [← hi]; rfl

theorem bM_cellish {w W : World} {X : List Nat} {K z : List UInt8} {g2 g5 g7 : Nat} {oa : Option Addr} {on oc : Nat} {vs : List Value} {cur : Res} {g8 lv g9 : Nat} {aa : Option Addr} {an ac : Nat} {above : Ids} {gs gn : Nat} {xa : Option Addr} {xn xc B : Nat} {ds : List Nat} {nodes : List (List UInt8)} (hc : cur.cellish = true) (hd : ∀ r ∈ dmarks ds, ∀ k ∈ r.fp, k < B) :
    Cellish B (bM1 K z g2 g5 g7 oa on oc vs cur g8 lv ++ bM2 g9 aa an ac above gs gn xa xn xc ++ (dmarks ds ++ rowsL vs nodes)) := by
  intro r hr
  simp only [List.mem_append] at hr
  rcases hr with (hr | hr) | hr | hr
  · left
    simp only [bM1, List.mem_cons, List.not_mem_nil, or_false] at hr
    rcases hr with rfl | rfl | rfl | rfl | rfl | rfl <;> first | rfl | exact hc
  · left
    simp only [bM2, List.mem_cons, List.not_mem_nil, or_false] at hr
    rcases hr with rfl | rfl | rfl | rfl <;> rfl
  · exact .inr (hd r hr)
  · exact .inl (rowsL_cellish _ _ r hr)

theorem nodeL_len (lv : Nat) (ids : Ids) (h : All32 ids) (hn : ids.length ≤ 65536) : (nodeL lv ids).length ≤ 10 + 32 * ids.length := by
  have h1 := flat32 h
  have h2 := varL_len 9 ids.length (by omega) (by decide)
  simp only [nodeL, List.length_append, List.length_singleton]
  omega

theorem levelF_len (lv : Nat) (ids : Ids) : (levelF lv ids).length = numCh ids.length := by simp [levelF]

theorem build_rf : subC [1, 1, 1, 1, 0, 0, 0, 0, 1, 0, 1, 0] (Tryd.f12.body.getD .skip) = .rangeFunc (.tmp 21) #[22] (.region 8 #[{ dst := some 10, op := .assign (.tmp 22), type := 30, pos := "manifest.go:31", after := #[], guard := none }] false)
    (subC [1, 1, 1, 1, 0, 0, 0, 0, 1, 0, 1, 0, 1] (Tryd.f12.body.getD .skip)) := by kernel_rfl

set_option maxHeartbeats 1000000 in
/-- The range over the chunks of one level. -/
theorem build_hole {w W : World} {K z : List UInt8} {g2 g5 g7 : Nat} {oa : Option Addr} {on oc : Nat} {vs : List Value} {cur : Res} {g8 lv g9 gs gn : Nat} {xa : Option Addr} {xn xc : Nat} {ds : List Nat} {out : List (List UInt8)} {ids : Ids}
    (hk : K.length = 96) (hK : KTab w) (hcur : CurOk w xa xn xc ids cur) (hxn : xn ≤ 65536) (hxc : xn ≤ xc) (hon : out.length ≤ 1000000) (hhd : HdOk vs out)
    (h : St w [] W (bM1 K z g2 g5 g7 oa on oc vs cur g8 lv ++ bM2 g9 none 0 0 [] gs gn xa xn xc ++ (dmarks ds ++ rowsL vs out))) :
    HoleOk Tryd.prog 55 (subC [1, 1, 1, 1, 0, 0, 0, 0, 1, 0, 1, 0] (Tryd.f12.body.getD .skip)) [(21, some (.func (.func chunkFn) #[] #[.pointer (some ⟨gs, 0, none⟩), .pointer (some ⟨gn, 0, none⟩)])), (9, some (.pointer (some ⟨g9, 0, none⟩))), (8, some (.pointer (some ⟨g8, 0, none⟩))), (7, some (.pointer (some ⟨g7, 0, none⟩))), (2, some (.pointer (some ⟨g2, 0, none⟩)))] ds W
      fun D W' => ∃ oa on oc vs aa an ac, HdOk vs (out ++ levelF lv ids) ∧ St w [] W' (bM1 K z g2 g5 g7 oa on oc vs cur g8 lv ++ bM2 g9 aa an ac ((levelF lv ids).map (idF K)) gs gn xa xn xc ++ (dmarks (D :: ds) ++ rowsL vs (out ++ levelF lv ids))) := by
  have hmk : ∀ r ∈ dmarks ds, ∀ k ∈ r.fp, k < W.heap.size := dmarks_lt h (fun r hr => List.mem_append_right _ (List.mem_append_left _ hr))
  have hcc := hcur.cellish
  have e7 : W.heap[gs]? = some (.cells #[.slice xa xn xc] 30) := h.holds 8 _ rfl
  have e8 : W.heap[gn]? = some (.cells #[.int .i64 16] 3) := h.holds 9 _ rfl
  have hxi := (hcur.rd h rfl).num
  have hsz := h.chg.size
  have l7 : gs < W.heap.size := (Array.getElem?_eq_some_iff.1 e7).1
  have l8 : gn < W.heap.size := (Array.getElem?_eq_some_iff.1 e8).1
  rw [build_rf]
  refine holeOk_rf (gf := chunkFn) (enc := encC xa xn) (Kp := keep2 gs gn) (S := fun xs => xs = List.range (numCh xn)) (M := numCh xn) (by kernel_rfl) rfl chunk_enters (chunk_stops gs gn xa xn xc W e7 e8 hxc (by omega)) (fun h1 h2 => ⟨h2.1.trans h1.1, h2.2.trans h1.2⟩) (fun W1 l o o' hl ho _ _ => ⟨World.putObj_heap_other (by omega), World.putObj_heap_other (by omega)⟩)
    (InvB w K z g2 g5 g7 cur g8 lv g9 gs gn xa xn xc ds out ids) ?own ?start rfl rfl rfl (by decide) (by decide) (by kernel_rfl) (by kernel_rfl) (fun pre x W1 hI hlen => manifest_Build_vc_round0 _ _ _ _ _ _ _ _ _ _ _ _ W1 _ ?body) ?done
  case own =>
    rintro pre W1 W2 row ⟨oa, on, oc, vs, aa, an, ac, h1, h2⟩ hg hr
    exact ⟨oa, on, oc, vs, aa, an, ac, h1, h2.ownG hsz (bM_cellish (w := w) (W := W1) (X := []) hcc hmk) hg hr⟩
  case start => exact ⟨oa, on, oc, vs, none, 0, 0, by simpa using hhd, by simpa using h⟩
  case body =>
    obtain ⟨oa, on, oc, vs, aa, an, ac, hhd, h1⟩ := hI
    obtain ⟨ns, hns⟩ : ∃ ns, pre.map (fun i => nodeL lv (chunkL ids i)) = ns := ⟨_, rfl⟩
    have hnl : ns.length = pre.length := by rw [← hns]; simp
    rw [hns] at hhd h1
    have hr := (hcur.rd h1 rfl).chunk x
    have hcl : (chunkL ids x).length ≤ 16 := by rw [chunk_len]; omega
    have hC := bM_cellish (w := w) (W := W1) (X := []) (K := K) (z := z) (g2 := g2) (g5 := g5) (g7 := g7) (oa := oa) (on := on) (oc := oc) (vs := vs) (cur := cur) (g8 := g8) (lv := lv) (g9 := g9) (aa := aa) (an := an) (ac := ac) (above := ns.map (idF K)) (gs := gs) (gn := gn) (xa := xa) (xn := xn) (xc := xc) (nodes := out ++ ns) hcc hmk
    obtain ⟨f0, hf0⟩ : ∃ f, nodeL lv (chunkL ids x) = f := ⟨_, rfl⟩
    have hfl : f0.length ≤ 10 + 32 * 16 := by
      have := nodeL_len lv (chunkL ids x) hr.all (by omega)
      rw [← hf0]; omega
    have hon2 : on = out.length + ns.length := by
      have := (h1.rd (i := 3) (xs := vs) rfl).len
      have := hhd.1
      simp at this
      omega
    have hpn : pre.length < 4097 := by rw [numCh] at hlen; omega
    have hs := h1.self
    obtain ⟨F, hF⟩ : ∃ F, fpsL (bM1 K z g2 g5 g7 oa on oc vs cur g8 lv ++ bM2 g9 aa an ac (ns.map (idF K)) gs gn xa xn xc ++ (dmarks ds ++ rowsL vs (out ++ ns))) = F := ⟨_, rfl⟩
    rw [hF] at hs
    have back : ∀ w' N, St W1 F w' N → St w [] w' N := fun w' N hN => h1.back (by rw [hF]; exact hN)
    refine ⟨(lv : Int), hs.ldL (i := 5) (l := [.int .i64 (lv : Int)]) rfl (iA _) rfl rfl, (node_spec lv _ _ _ (chunkL ids x) W1 hr (by omega)).mono ?_⟩
    rintro e w1 ⟨a5, n5, c5, rfl, hf5⟩
    rw [hf0] at hf5
    have e5 := hf5.2.1
    subst e5
    have h2 : St W1 F w1 (bM1 K z g2 g5 g7 oa on oc vs cur g8 lv ++ bM2 g9 aa an ac (ns.map (idF K)) gs gn xa xn xc ++ (dmarks ds ++ rowsL (vs ++ [.slice a5 f0.length c5]) (out ++ ns ++ [f0]))) := by
      have := hf5.add hs
      rw [rowsL_snoc hhd.1, ← List.append_assoc (dmarks ds), ← List.append_assoc]
      exact this
    refine ⟨_, _, _, rfl, _, _, _, h2.ldL (i := 2) (l := [.slice oa on oc]) rfl (bbA _) rfl rfl, ?_⟩
    obtain ⟨g3, w2, va, vc, w3, r2, r3, h3, _, _⟩ := h2.pushV (i := 3) (ty := 32) bbT rfl (.slice a5 f0.length c5) rfl (by omega) (by simp only [maxLen]; omega)
    obtain ⟨w4, r4, h4⟩ := h3.stL (i := 2) (o := 0) (l := [.slice oa on oc]) (T := 32) (v := .slice va (on + 1) vc) rfl (bbS _) rfl (by simp) rfl
    have h4' : St W1 F w4 (bM1 K z g2 g5 g7 va (on + 1) vc (vs ++ [.slice a5 f0.length c5]) cur g8 lv ++ bM2 g9 aa an ac (ns.map (idF K)) gs gn xa xn xc ++ (dmarks ds ++ rowsL (vs ++ [.slice a5 f0.length c5]) (out ++ ns ++ [f0]))) := h4
    have h4d := h4'.drew
    have s0 : ∀ w', (w'.heap[g9]? = some (.cells #[.slice aa an ac] 30) ∧ w'.heap[g2]? = some (.cells (bv K).toArray 28)) → (Instr.loadAt 30 (.pointer (some ⟨g9, 0, none⟩))).run Tryd.prog w' = .ok (.slice aa an ac) w' ∧ (Instr.loadAt 28 (.pointer (some ⟨g2, 0, none⟩))).run Tryd.prog w' = .ok (.agg (bv K).toArray) w' := fun w' h => ⟨ld1 (idsA _) (cell1 h.1), (St.ofBlk h.2).ldA (i := 0) (l := bv K) rfl (kyA _) (kyS _) (by simp [hk])⟩
    have sat : ∀ w' N, St W1 F w' N → N[6]? = some (.arr g9 30 [.slice aa an ac]) → N[0]? = some (.arr g2 28 (bv K)) → (w'.heap[g9]? = some (.cells #[.slice aa an ac] 30) ∧ w'.heap[g2]? = some (.cells (bv K).toArray 28)) := fun w' N hN h6 h0 => ⟨hN.holds 6 _ h6, hN.holds 0 _ h0⟩
    have hrow : RdB w4.drew a5 f0.length c5 f0 := by
      have hh := h4d.sub (N := [.row 5 1 (.slice a5 f0.length c5) f0.length (bv f0)]) (by
        rw [rowsL_snoc hhd.1]
        exact ((List.Sublist.refl _).trans (List.sublist_append_right _ _)).trans ((List.sublist_append_right _ _).trans (List.sublist_append_right _ _)))
      exact hh.rd (i := 0) rfl
    refine ⟨_, _, _, _, r2, _, _, _, _, r3, w4, r4, fun w' => w'.heap[g9]? = some (.cells #[.slice aa an ac] 30) ∧ w'.heap[g2]? = some (.cells (bv K).toArray 28), sat _ _ h4d rfl rfl, _, _, _, fun w' h => (s0 w' h).1, _, fun w' h => (s0 w' h).2,
      (id_spec K a5 f0.length c5 f0 w4.drew hk (hK.keep0 (back _ _ h4d).chg) hrow (by omega)).mono ?_⟩
    rintro e w5 ⟨rfl, c5'⟩
    have h5 := h4d.same c5'
    have hil : (idF K f0).length = 32 := macF_len _ _
    have han : an = ns.length := by
      have h6 : RdI W1 aa an ac (ns.map (idF K)) := ⟨h1.rd (i := 7) rfl, All32.mapId K ns⟩
      have := h6.num
      simpa using this.symm
    obtain ⟨g6, w6, vb, vd, w7, r6, r7, h7, h6⟩ := h5.pushA (i := 7) (ty := 30) idT rfl (bv (idF K f0)) (by simp [hil]) (by decide) (bv_one _) (by omega) (by simp only [maxLen]; omega)
    obtain ⟨w8, r8, h8⟩ := h7.stL (i := 6) (o := 0) (l := [.slice aa an ac]) (T := 30) (v := .slice vb (an + 1) vd) rfl (idsS _) rfl (by simp) rfl
    have hab : (ns ++ [f0]).map (idF K) = ns.map (idF K) ++ [idF K f0] := by simp
    have h8' : St W1 F w8 (bM1 K z g2 g5 g7 va (on + 1) vc (vs ++ [.slice a5 f0.length c5]) cur g8 lv ++ bM2 g9 vb (an + 1) vd ((ns ++ [f0]).map (idF K)) gs gn xa xn xc ++ (dmarks ds ++ rowsL (vs ++ [.slice a5 f0.length c5]) (out ++ ns ++ [f0]))) := by
      have e : bv ((ns ++ [f0]).map (idF K)).flatten = bv (ns.map (idF K)).flatten ++ bv (idF K f0) := by rw [hab, List.flatten_append, bv_append]; simp
      rw [bM2, e]
      exact h8
    refine ⟨_, rfl, _, fun _ h => h, sat _ _ h5 rfl rfl, _, _, _, _, r6, _, fun _ h => h, sat _ _ h6 rfl rfl, _, _, _, _, r7, _, fun _ h => h, sat _ _ h7 rfl rfl, w8, r8, ?_⟩
    refine ⟨h1.keepsFrom hC (by rw [hF]; exact h8'.chg), ⟨?_, ?_⟩, ?_⟩
    · exact (h8'.holds 8 _ rfl).trans (h1.holds 8 _ rfl).symm
    · exact (h8'.holds 9 _ rfl).trans (h1.holds 9 _ rfl).symm
    · have e1 : (pre ++ [x]).map (fun i => nodeL lv (chunkL ids i)) = ns ++ [f0] := by rw [List.map_append, hns]; simp [hf0]
      refine ⟨va, on + 1, vc, vs ++ [.slice a5 f0.length c5], vb, an + 1, vd, ?_, ?_⟩
      · rw [e1, ← List.append_assoc out]; exact hhd.snoc a5 c5 f0
      · rw [e1, ← List.append_assoc out]; exact back _ _ h8'
  case done =>
    rintro D xs W1 hD rfl ⟨oa, on, oc, vs, aa, an, ac, hhd, h1⟩ hDk
    have e1 : (List.range (numCh xn)).map (fun i => nodeL lv (chunkL ids i)) = levelF lv ids := by rw [levelF, hxi]
    rw [e1] at hhd h1
    refine ⟨oa, on, oc, vs, aa, an, ac, hhd, ?_⟩
    have h2 := h1.addMark hsz (bM_cellish (w := w) (W := W1) (X := []) hcc hmk) hD hDk
    have h3 := St.ins h2
    rw [List.append_assoc] at h3
    exact h3

open Go Sx
set_option maxRecDepth 8000

def capF : Nat → Nat
  | 0 => 1
  | f + 1 => 16 * capF f

theorem Sx.St.insL {w0 w : World} {X : List Nat} {A R N : List Res} (h : St w0 X w ((A ++ R) ++ N)) : St w0 X w ((A ++ N) ++ R) :=
  h.perm (by rw [List.append_assoc, List.append_assoc]; exact List.Perm.append_left A List.perm_append_comm)

theorem Sx.St.frontD {w0 w : World} {X : List Nat} {A D B : List Res} (h : St w0 X w (A ++ (D ++ B))) : St w0 X w (D ++ (A ++ B)) :=
  h.perm (by rw [← List.append_assoc, ← List.append_assoc]; exact List.Perm.append_right B List.perm_append_comm)

theorem buildF_nil (K : List UInt8) (f lv : Nat) (out : List (List UInt8)) : buildF K (f + 1) lv [] out = ([nodeL lv []], idF K (nodeL lv [])) := rfl
theorem buildF_one {K : List UInt8} {f lv : Nat} {ids : Ids} {out : List (List UInt8)} (h0 : ids ≠ []) (h : (levelF lv ids).length = 1) : buildF K (f + 1) lv ids out = (out ++ levelF lv ids, idF K ((levelF lv ids).getD 0 [])) := by rw [buildF, if_neg h0, if_pos h]
theorem buildF_more {K : List UInt8} {f lv : Nat} {ids : Ids} {out : List (List UInt8)} (h0 : ids ≠ []) (h : (levelF lv ids).length ≠ 1) : buildF K (f + 1) lv ids out = buildF K f (lv + 1) ((levelF lv ids).map (idF K)) (out ++ levelF lv ids) := by rw [buildF, if_neg h0, if_neg h]

set_option maxHeartbeats 1000000 in
theorem build_spec (K : List UInt8) (a1 : Option Addr) (n1 c1 : Nat) (ids : Ids) (w : World) (hk : K.length = 96) (hK : KTab w) (hr : RdI w a1 n1 c1 ids) (hn : n1 ≤ 65536) :
    Calls Tryd.prog 12 #[.agg (bv K).toArray, .slice a1 n1 c1] w fun e w' => ∃ a n c vs, e = .returned (.tuple #[.slice a n c, .agg (bv (buildF K 5 0 ids []).2).toArray, errV none]) ∧ OwnL w w' a n c vs (buildF K 5 0 ids []).1 := by
  have hnum := hr.num
  apply manifest_Build_vc
  obtain ⟨g2, w1, r1, h1⟩ := (St.start w).boxA 28 (bv K)
  obtain ⟨g5, w2, r2, h2⟩ := h1.zeroA idZ
  refine ⟨g2, w1, r1, g5, w2, r2, fun h => by simp at h; omega, fun _ => ?_⟩
  obtain ⟨g7, w5, r5, h5⟩ := h2.zero (P := Tryd.prog) (T := 32) (z := .slice none 0 0) Tryd.zeroValue32
  have h5b := (h5.addNil 23 1).addNil 0 0
  obtain ⟨g8, w6, r6, h6⟩ := h5b.zero (P := Tryd.prog) (T := 3) (z := .int .i64 0) Tryd.zeroValue3
  obtain ⟨w7, r7, h7⟩ := h6.stL (i := 5) (o := 0) (l := [.int .i64 0]) (T := 3) (v := .int .i64 0) rfl (iS _) rfl (by simp) rfl
  have h7' : St w [] w7 (bM1 K (List.replicate 32 0) g2 g5 g7 none 0 0 [] Res.emp g8 0 ++ (dmarks [] ++ rowsL [] [])) := h7
  refine ⟨g7, w5, r5, g8, w6, r6, w7, r7, fun ds xa xn xc x8b x8o w' => x8o = 0 ∧ ∃ f lv idsC out oa on oc vs cur, lv + f = 4 ∧ idsC.length ≤ capF f ∧ idsC.length = xn ∧ xn ≤ 65536 ∧ xn ≤ xc ∧ out.length ≤ 65536 * lv ∧ CurOk w xa xn xc idsC cur ∧ HdOk vs out ∧ buildF K (f + 1) lv idsC out = buildF K 5 0 ids [] ∧
      St w [] w' (bM1 K (List.replicate 32 0) g2 g5 g7 oa on oc vs cur x8b lv ++ (dmarks ds ++ rowsL vs out)), fun _ xn _ _ _ _ => xn, ⟨rfl, 4, 0, ids, [], none, 0, 0, [], Res.emp, rfl, by simp only [capF]; omega, hnum, hn, hr.rd.le, by simp, .inl ⟨rfl, hr⟩, ⟨rfl, by simp⟩, rfl, h7'⟩, ?_⟩
  rintro xa xn xc x8b x8o ds w8 ⟨rfl, f, lv, idsC, out, oa, on, oc, vs, cur, hlf, hcap, hxl, hx65, hxc, hout, hcur, hhd, hbf, h8⟩
  obtain ⟨g9, w9, r9, h9⟩ := h8.zero (P := Tryd.prog) (T := 30) (z := .slice none 0 0) Tryd.zeroValue30
  have h9 : St w [] w9 ((bM1 K (List.replicate 32 0) g2 g5 g7 oa on oc vs cur x8b lv ++ (dmarks ds ++ rowsL vs out)) ++ [.arr g9 30 [.slice none 0 0]]) := h9
  have h9b := (St.ins h9).addNil 33 32
  have h9c := St.ins h9b
  refine ⟨g9, w9, r9, (chunk_spec xa xn xc w9).mono ?_⟩
  rintro e w10 ⟨gs, gn, rfl, hgs⟩
  have h10 : St w [] w10 (bM1 K (List.replicate 32 0) g2 g5 g7 oa on oc vs cur x8b lv ++ bM2 g9 none 0 0 [] gs gn xa xn xc ++ (dmarks ds ++ rowsL vs out)) := by
    have := St.callPart (N := []) (by rw [List.append_nil]; exact h9c) hgs
    have h := St.insL this
    simpa [bM2, List.append_assoc] using h
  refine ⟨_, rfl, _, build_hole (ids := idsC) hk hK hcur hx65 hxc (by omega) hhd h10, ?_⟩
  rintro D w11 ⟨oa, on, oc, vs', aa, an, ac, hhd', h11⟩
  have hz11 := Chg.refl [] w11
  refine ⟨fun h => ?_, fun h => ?_⟩
  · -- no identifiers
    have hx0 : xn = 0 := by simp at h; omega
    have hi0 : idsC = [] := List.eq_nil_of_length_eq_zero (by omega)
    subst hi0
    have hl0 : levelF lv [] = [] := rfl
    rw [hl0, List.append_nil] at h11 hhd'
    refine ⟨(lv : Int), h11.ldL (i := 5) (l := [.int .i64 (lv : Int)]) rfl (iA _) rfl rfl, (node_spec lv none 0 0 [] w11 (RdI.nil w11) (by omega)).mono ?_⟩
    rintro e w12 ⟨a12, n12, c12, rfl, hf12⟩
    have h12 := hf12.add h11
    have en12 := hf12.2.1
    have hnl := nodeL_len lv [] All32.nil (by simp)
    obtain ⟨g13, w13, r13, h13⟩ := h12.lit bbT [.slice a12 n12 c12] (by simp [Value.oneCell']) (by simp)
    refine ⟨_, _, _, rfl, _, _, _, _, r13, _, h13.ldA (i := 0) (l := bv K) rfl (kyA _) (kyS _) (by simp [hk]), (id_spec K a12 n12 c12 (nodeL lv []) w13 hk (hK.keep0 h13.chg) (hf12.rdB.keep0 ?_) (by simp at hnl; omega)).mono ?_⟩
    · obtain ⟨g', w', r', h'⟩ := (St.start w12).lit bbT [.slice a12 n12 c12] (by simp [Value.oneCell']) (by simp)
      have e := r13.symm.trans r'
      simp only [Result.ok.injEq] at e
      rw [e.2]
      exact h'.chg
    rintro e w14 ⟨rfl, c14⟩
    obtain ⟨w15, r15, h15⟩ := (h13.same c14).stA (i := 1) (v := bv (idF K (nodeL lv []))) rfl (idS _) (by simp) (by simp [idF]) (bv_one _)
    have h15' : St w [] w15 ((bM1 K (idF K (nodeL lv [])) g2 g5 g7 oa on oc vs' cur x8b lv ++ bM2 g9 aa an ac (([] : List (List UInt8)).map (idF K)) gs gn xa xn xc) ++ (dmarks (D :: ds) ++ (rowsL vs' out ++ [.row 5 1 (.slice a12 n12 c12) n12 (bv (nodeL lv [])), .row 23 1 (.slice (some ⟨g13, 0, none⟩) 1 1) 1 [.slice a12 n12 c12]]))) := by
      have h := h15
      simp only [List.append_assoc] at h ⊢
      exact h
    refine ⟨_, rfl, w15, r15, St.downs (St.frontD h15') fun w16 h16 => ⟨_, h16.ldVarA (i := 1) (l := bv (idF K (nodeL lv []))) rfl (idA _) (idS _) (by simp [idF]), ⟨_, rfl⟩, some ⟨g13, 0, none⟩, 1, 1, [.slice a12 n12 c12], ?_, ?_⟩⟩
    · rw [← hbf, buildF_nil]; rfl
    · rw [← hbf, buildF_nil]
      have hs : St w [] w16 [.row 5 1 (.slice a12 n12 c12) n12 (bv (nodeL lv [])), .row 23 1 (.slice (some ⟨g13, 0, none⟩) 1 1) 1 [.slice a12 n12 c12]] := h16.sub ((List.sublist_append_right _ _).trans (List.sublist_append_right _ _))
      have hp := hs.perm (List.Perm.swap _ _ _)
      subst en12
      exact ⟨hp, rfl, fun i hi => ⟨a12, c12, (show i = 0 by simp at hi; omega) ▸ rfl⟩⟩
  · have hx0 : xn ≠ 0 := by simp at h; omega
    have hi0 : idsC ≠ [] := fun e => hx0 (by rw [← hxl, e]; rfl)
    have hll := levelF_len lv idsC
    have hra : RdI w11 aa an ac ((levelF lv idsC).map (idF K)) := ⟨h11.rd (i := 7) rfl, All32.mapId K _⟩
    have han : an = numCh xn := by have := hra.num; rw [List.length_map, hll, hxl] at this; exact this.symm
    have hac := hra.rd.le
    refine ⟨_, _, _, h11.ldL (i := 6) (l := [.slice aa an ac]) rfl (idsA _) rfl rfl, fun h => ?_, fun h => ?_⟩
    · -- the root
      have hone : an = 1 := by simp at h; omega
      have hl1 : (levelF lv idsC).length = 1 := by rw [hll, hxl, ← han]; exact hone
      have h11d := h11.drew
      obtain ⟨b, o, hba, q⟩ := (hra.keep0 (Chg.drew [] w11)).ld (i := 0) (by omega)
      have hroot : ((levelF lv idsC).map (idF K)).getD 0 [] = idF K ((levelF lv idsC).getD 0 []) := by
        match hm : levelF lv idsC, hl1 with
        | [x], _ => rfl
      have q0 := q w11.drew (hra.keep0 (Chg.drew [] w11))
      rw [hroot] at q0
      obtain ⟨w17, r17, h17⟩ := h11d.stA (i := 1) (v := bv (idF K ((levelF lv idsC).getD 0 []))) rfl (idS _) (by simp) (by simp [idF]) (bv_one _)
      have h17' : St w [] w17 ((bM1 K (idF K ((levelF lv idsC).getD 0 [])) g2 g5 g7 oa on oc vs' cur x8b lv ++ bM2 g9 aa an ac ((levelF lv idsC).map (idF K)) gs gn xa xn xc) ++ (dmarks (D :: ds) ++ rowsL vs' (out ++ levelF lv idsC))) := h17
      refine ⟨fun w' => w' = w11.drew, rfl, _, _, _, fun w' h => by rw [h]; exact h11d.ldL (i := 2) (l := [.slice oa on oc]) rfl (bbA _) rfl rfl, _, _, _, fun w' h => by rw [h]; exact h11d.ldL (i := 6) (l := [.slice aa an ac]) rfl (idsA _) rfl rfl, b, o, hba, by omega, by omega, _, fun w' h => by rw [h]; exact q0, w17, r17,
        St.downs (St.frontD h17') fun w18 h18 => ⟨_, h18.ldVarA (i := 1) (l := bv (idF K ((levelF lv idsC).getD 0 []))) rfl (idA _) (idS _) (by simp [idF]), ⟨_, rfl⟩, oa, on, oc, vs', ?_, ?_⟩⟩
      · rw [← hbf, buildF_one hi0 hl1]; rfl
      · rw [← hbf, buildF_one hi0 hl1]
        refine ⟨h18.sub ?_, hhd'.1, hhd'.2⟩
        have : List.Sublist [Res.row 23 1 (.slice oa on oc) on vs'] (bM1 K (idF K ((levelF lv idsC).getD 0 [])) g2 g5 g7 oa on oc vs' cur x8b lv ++ bM2 g9 aa an ac ((levelF lv idsC).map (idF K)) gs gn xa xn xc) := by
          rw [bM1]
          exact List.Sublist.cons _ (List.Sublist.cons _ (List.Sublist.cons _ (List.Sublist.cons_cons _ (List.nil_sublist _))))
        exact List.Sublist.append this (List.Sublist.refl _)
    · have hne : an ≠ 1 := by simp at h; omega
      have hl1 : (levelF lv idsC).length ≠ 1 := by rw [hll, hxl, ← han]; exact hne
      obtain ⟨f', rfl⟩ : ∃ f', f = f' + 1 := by
        cases f with
        | zero => exfalso; simp only [capF] at hcap; apply hne; rw [han, numCh]; omega
        | succ f' => exact ⟨f', rfl⟩
      obtain ⟨g8', w19, r19, h19⟩ := h11.zero (P := Tryd.prog) (T := 3) (z := .int .i64 0) Tryd.zeroValue3
      have h19b : St w [] w19 ((bM1 K (List.replicate 32 0) g2 g5 g7 oa on oc vs' cur x8b lv ++ bM2 g9 aa an ac ((levelF lv idsC).map (idF K)) gs gn xa xn xc ++ [.arr g8' 3 [.int .i64 0]]) ++ (dmarks (D :: ds) ++ rowsL vs' (out ++ levelF lv idsC))) := St.ins h19
      obtain ⟨w20, r20, h20⟩ := h19b.stL (i := 10) (o := 0) (l := [.int .i64 0]) (T := 3) (v := .int .i64 (lv : Int)) rfl (iS _) rfl (by simp) rfl
      obtain ⟨w21, r21, h21⟩ := h20.stL (i := 10) (o := 0) (l := [.int .i64 (lv : Int)]) (T := 3) (v := .int .i64 ((lv + 1 : Nat) : Int)) rfl (iS _) rfl (by simp) rfl
      have hw : IntKind.wrap .i64 ((lv : Int) + 1) = ((lv + 1 : Nat) : Int) := by rw [wrap_i64 (by omega) (by omega)]; rfl
      refine ⟨_, _, _, h11.ldL (i := 6) (l := [.slice aa an ac]) rfl (idsA _) rfl rfl, (lv : Int), h11.ldL (i := 5) (l := [.int .i64 (lv : Int)]) rfl (iA _) rfl rfl, g8', w19, r19, w20, r20, (lv : Int), h20.ldL (i := 10) (l := [.int .i64 (lv : Int)]) rfl (iA _) rfl rfl, w21, ?_, ?_, ?_⟩
      · rw [hw]; exact r21
      · refine ⟨rfl, f', lv + 1, (levelF lv idsC).map (idF K), out ++ levelF lv idsC, oa, on, oc, vs', .row 33 32 (.slice aa an ac) an (bv ((levelF lv idsC).map (idF K)).flatten), by omega, ?_, ?_, ?_, hac, ?_, .inr ⟨All32.mapId K _, rfl⟩, hhd', ?_, ?_⟩
        · rw [List.length_map, hll, hxl, numCh]; simp only [capF] at hcap; omega
        · rw [List.length_map, hll, hxl, han]
        · rw [han, numCh]; omega
        · rw [List.length_append, hll, hxl, numCh]; omega
        · rw [← hbf, buildF_more hi0 hl1]
        · have h21' : St w [] w21 ((bM1 K (List.replicate 32 0) g2 g5 g7 oa on oc vs' cur x8b lv ++ bM2 g9 aa an ac ((levelF lv idsC).map (idF K)) gs gn xa xn xc ++ [.arr g8' 3 [.int .i64 ((lv + 1 : Nat) : Int)]]) ++ (dmarks (D :: ds) ++ rowsL vs' (out ++ levelF lv idsC))) := h21
          refine h21'.sub (List.Sublist.append ?_ (List.Sublist.refl _))
          rw [bM1, bM1, bM2]
          exact List.Sublist.cons_cons _ (List.Sublist.cons_cons _ (List.Sublist.cons_cons _ (List.Sublist.cons_cons _ (List.Sublist.cons _ (List.Sublist.cons _ (List.Sublist.cons _ (List.Sublist.cons_cons _ (List.Sublist.cons _ (List.Sublist.cons _ (List.Sublist.cons_cons _ (List.Sublist.refl _)))))))))))
      · show an < xn
        have : xn ≠ 1 := fun e => hne (by rw [han, e]; rfl)
        rw [han, numCh]
        omega

open Go Sx
set_option maxRecDepth 8000

def ids17 : Ids := List.replicate 17 (List.replicate 32 0)
theorem ids17_flat : ids17.flatten = List.replicate 544 0 := by kernel_rfl
theorem ids17_all : All32 ids17 := fun i hi => by rw [ids17] at hi; rw [List.eq_of_mem_replicate hi]; simp
theorem made17 : (madeCells (bv (List.replicate 32 0)).toArray 544).toList = bv (List.replicate 544 0) := by kernel_rfl

theorem mk17 {w0 w : World} {X : List Nat} {M : List Res} (h : St w0 X w M) : ∃ g w', (Instr.makeSlice 30 (.int .i64 17) (.int .i64 17)).run Tryd.prog w = .ok (.slice (some ⟨g, 0, none⟩) 17 17) w' ∧ St w0 X w' (M ++ [.row 33 32 (.slice (some ⟨g, 0, none⟩) 17 17) 17 (bv ids17.flatten)]) := by
  obtain ⟨inf, hinf, hz, hsz, hby⟩ := (idT).inf
  have hr := run_make (P := Tryd.prog) w 30 33 inf _ (idT).ht hinf hz .i64 .i64 17 17 (by decide) (by decide) (by rw [hby]; decide) (by decide)
  refine ⟨_, _, hr, h.add (Chg.alloc _ _) ?_ (by simp [Res.fp, Value.ownBlock])⟩
  rw [hsz]
  have := World.ownsRow_lit (base := 0) (e := 33) (size := 32) w (madeCells (bv (List.replicate 32 0)).toArray 544) 17 (Nat.zero_le _) (by decide) (by rw [← Array.length_toList, made17]; simp)
  rw [made17, ← ids17_flat] at this
  exact this

theorem build17 (K : List UInt8) : (buildF K 5 0 ids17 []).1.length = 3 := by
  have h0 : ids17 ≠ [] := by decide
  have l0 : (levelF 0 ids17).length = 2 := by rw [levelF_len]; rfl
  rw [buildF_more h0 (by rw [l0]; decide)]
  have l1 : (levelF 1 ((levelF 0 ids17).map (idF K))).length = 1 := by rw [levelF_len, List.length_map, l0]; rfl
  have h1 : (levelF 0 ids17).map (idF K) ≠ [] := fun e => by have := congrArg List.length e; rw [List.length_map, l0] at this; cases this
  rw [buildF_one h1 l1]
  simp only [List.nil_append, List.length_append]
  rw [l0, l1]

theorem node0 : nodeL 0 [] = [0, 0] := by kernel_rfl

def mas1 : List UInt8 := [1, 0, 0, 0, 0, 0, 0, 0, 0, 0, 0, 0, 0, 0, 0, 0, 0, 0, 0, 0, 0, 0, 0, 0, 0, 0, 0, 0, 0, 0, 0, 0]
theorem build_mas1 (w : World) : (Instr.build 22 #[(0, .int .u8 1)]).run Tryd.prog w = .ok (.agg (bv mas1).toArray) w := by
  have := build_arr (P := Tryd.prog) (w := w) (T := 22) (d32Z w) Tryd.underlying22 (sB1 w) [.int .u8 1] (by simp [Value.oneCell']) (by simp)
  exact this

theorem eqId (x y : Operand) (l : List UInt8) (hl : l.length = 32) (w : World) : (eqlS .eql 33 x y (.agg (bv l).toArray) (.agg (bv l).toArray)).run Tryd.prog w = .ok (.bool true) w := by
  rw [bv_ints]
  exact eqlS_arr (P := Tryd.prog) (T := 33) Tryd.underlying33 bE sB1 (fun w => Tryd.isAgg5 w) (by kernel_rfl) x y _ (by simp [hl]) w

theorem alive15_spec (w : World) (hK : KTab w) : Calls Tryd.prog 8 #[] w fun e w' => e = .returned (.bool true) ∧ Chg [] w w' := by
  apply amphoralaw15_alive_vc
  obtain ⟨mI, hI⟩ := eI
  refine ⟨_, build_mas1 w, (rfromMaster_spec mas1 w (by decide)).mono ?_⟩
  rintro e w1 ⟨rfl, c1⟩
  obtain ⟨K, hKK⟩ : ∃ K, masterF mas1 = K := ⟨_, rfl⟩
  have hk : K.length = 96 := by rw [← hKK]; simp
  rw [hKK]
  obtain ⟨g2, w2, r2, h2⟩ := ((St.start w).same c1).zeroA kyZ
  obtain ⟨w3, r3, h3⟩ := h2.stA (i := 0) (v := bv K) rfl (kyS _) (by simp) (by simp [hk]) (bv_one _)
  have h3d := h3.drew
  have hz := Chg.refl [] w3.drew
  have ld : ∀ w', Chg [] w3.drew w' → (Instr.loadAt 28 (.pointer (some ⟨g2, 0, none⟩))).run Tryd.prog w' = .ok (.agg (bv K).toArray) w' := fun w' hc => (h3d.same hc).ldA (i := 0) (l := bv K) rfl (kyA _) (kyS _) (by simp [hk])
  have kK : ∀ w', Chg [] w3.drew w' → KTab w' := fun w' h => hK.keep0 (h3d.chg.trans h)
  have hb17 := build17 K
  have B17 : ∀ w' g, Chg [] w3.drew w' → RdI w' (some ⟨g, 0, none⟩) 17 17 ids17 → Calls Tryd.prog 12 #[.agg (bv K).toArray, .slice (some ⟨g, 0, none⟩) 17 17] w' fun e w'' => ∃ a c rt, e = .returned (.tuple #[.slice a 3 c, .agg (bv rt).toArray, errV none]) ∧ rt.length = 32 ∧ Chg [] w' w'' := fun w' g hc hr => by
    refine (build_spec K _ 17 17 ids17 w' hk (kK _ hc) hr (by omega)).mono ?_
    rintro e w'' ⟨a, n, c, vs, rfl, ho⟩
    have hn := ho.num
    rw [hb17] at hn
    subst hn
    refine ⟨a, c, (buildF K 5 0 ids17 []).2, rfl, ?_, ho.st.chg⟩
    have h0 : ids17 ≠ [] := by decide
    have l0 : (levelF 0 ids17).length = 2 := by rw [levelF_len]; rfl
    rw [buildF_more h0 (by rw [l0]; decide)]
    have l1 : (levelF 1 ((levelF 0 ids17).map (idF K))).length = 1 := by rw [levelF_len, List.length_map, l0]; rfl
    have h1 : (levelF 0 ids17).map (idF K) ≠ [] := fun e => by have := congrArg List.length e; rw [List.length_map, l0] at this; cases this
    rw [buildF_one h1 l1]
    exact macF_len _ _
  have mk : ∀ w', Chg [] w3.drew w' → ∃ g w'', (Instr.makeSlice 30 (.int .i64 17) (.int .i64 17)).run Tryd.prog w' = .ok (.slice (some ⟨g, 0, none⟩) 17 17) w'' ∧ Chg [] w' w'' ∧ RdI w'' (some ⟨g, 0, none⟩) 17 17 ids17 := fun w' _ => by
    obtain ⟨g, w'', r, h⟩ := mk17 (St.start w')
    exact ⟨g, w'', r, h.chg, h.rd (i := 0) rfl, ids17_all⟩
  have fin : ∀ w' g rt, Chg [] w3.drew w' → rt.length = 32 → St w3.drew [] w' [.arr g 33 (bv (List.replicate 32 0))] → ∃ w'', (Instr.storeAt 33 (.pointer (some ⟨g, 0, none⟩)) (.agg (bv rt).toArray)).run Tryd.prog w' = .ok () w'' ∧ Chg [] w3.drew w'' := fun w' g rt hc hl h => by
    obtain ⟨w'', r, h'⟩ := h.stA (i := 0) (v := bv rt) rfl (idS _) (by simp) (by simp [hl]) (bv_one _)
    exact ⟨w'', r, h'.chg⟩
  refine ⟨_, rfl, g2, w2, r2, w3, r3, fun a n c v w' => n = 3 ∧ v = errV none ∧ Chg [] w3.drew w', ⟨fun w' => Chg [] w3.drew w', hz, _, ld, ?o1, ?o2⟩, ?rest⟩
  case o1 =>
    obtain ⟨g4, w4, r4, c4, q4⟩ := mk _ hz
    refine ⟨_, _, _, _, r4, fun w' => Chg [] w3.drew w', fun _ h => h, c4, (B17 w4 g4 c4 q4).mono ?_, ?_⟩
    · rintro e w5 ⟨a, c, rt, rfl, hrt, c5⟩
      have d5 := c4.trans c5
      obtain ⟨g6, w6, r6, h6⟩ := ((St.start w3.drew).same d5).zeroA idZ
      obtain ⟨w7, r7, c7⟩ := fin w6 g6 rt h6.chg hrt h6
      exact ⟨_, _, _, _, _, rfl, fun w' => Chg [] w3.drew w', fun _ h => h, d5, g6, w6, r6, fun w' => Chg [] w3.drew w', fun _ h => h, h6.chg, w7, r7, rfl, rfl, c7⟩
    · obtain ⟨g6, w6, r6, h6, c6⟩ := ((St.start w3.drew).same c4).zeroAC idZ
      refine ⟨g6, w6, r6, fun w' => Chg [] w3.drew w', fun _ h => h, h6.chg, (B17 w6 g4 h6.chg (q4.keep0 c6)).mono ?_⟩
      rintro e w5 ⟨a, c, rt, rfl, hrt, c5⟩
      have d5 := h6.chg.trans c5
      obtain ⟨w7, r7, c7⟩ := fin w5 g6 rt d5 hrt (h6.same c5)
      exact ⟨_, _, _, _, _, rfl, fun w' => Chg [] w3.drew w', fun _ h => h, d5, w7, r7, rfl, rfl, c7⟩
  case o2 =>
    obtain ⟨g6, w6, r6, h6⟩ := (St.start w3.drew).zeroA idZ
    obtain ⟨g4, w4, r4, c4, q4⟩ := mk w6 h6.chg
    have d4 := h6.chg.trans c4
    refine ⟨g6, w6, r6, fun w' => Chg [] w3.drew w', fun _ h => h, h6.chg, _, _, _, _, r4, fun w' => Chg [] w3.drew w', fun _ h => h, d4, (B17 w4 g4 d4 q4).mono ?_⟩
    rintro e w5 ⟨a, c, rt, rfl, hrt, c5⟩
    have d5 := d4.trans c5
    obtain ⟨w7, r7, c7⟩ := fin w5 g6 rt d5 hrt (h6.same (c4.trans c5))
    exact ⟨_, _, _, _, _, rfl, fun w' => Chg [] w3.drew w', fun _ h => h, d5, w7, r7, rfl, rfl, c7⟩
  case rest =>
    rintro xa xn xc v w15 ⟨rfl, rfl, c15⟩
    refine ⟨_, ld _ c15, (build_spec K none 0 0 [] w15 hk (kK _ c15) (RdI.nil _) (by omega)).mono ?_⟩
    rintro e w16 ⟨a, n, c, vs, rfl, ho⟩
    rw [buildF_nil] at ho ⊢
    rw [node0] at ho ⊢
    have hn : n = 1 := by have := ho.num; simpa using this.symm
    subst hn
    have d16 := c15.trans ho.st.chg
    obtain ⟨g17, w17, r17, h17⟩ := (St.start w16).zeroA idZ
    obtain ⟨w18, r18, h18⟩ := h17.stA (i := 0) (v := bv (idF K [0, 0])) rfl (idS _) (by simp) (by simp [idF]) (bv_one _)
    have h18d := h18.drew
    have d18 := d16.trans h18d.chg
    have o18 := ho.same h18d.chg
    obtain ⟨b, o, a', n', c', hab, _, hrd, q⟩ := ixS (i := 0) o18.rd.cells o18.row2 (by simp)
    have hz18 := Chg.refl [] w18.drew
    obtain ⟨g19, w19, r19, h19⟩ := (St.start w18.drew).lit bT [.int .u8 ((0 : UInt8).toNat : Int), .int .u8 ((0 : UInt8).toNat : Int)] (by simp [Value.oneCell']) (by simp)
    have h19 : St w18.drew [] w19 [.row 5 1 (.slice (some ⟨g19, 0, none⟩) 2 2) 2 (bv [0, 0])] := h19
    have hl0 : (([[0, 0]] : List (List UInt8)).getD 0 []) = [0, 0] := rfl
    rw [hl0] at hrd
    refine ⟨_, _, _, _, _, rfl, g17, w17, r17, w18, r18, fun w' => Chg [] w18.drew w', hz18, _, fun w' _ => eqlS_nil hI none _ _, fun _ => ⟨_, fun w' _ => eqlS_nil hI none _ _, fun _ => ⟨fun _ => ⟨fun _ => ⟨b, o, hab, by omega, by omega, _, _, _, fun w' h => q w' (o18.rd.cells.keep0 h), _, fun w' h => toStr bS bE sS (hrd.cells.keep0 h) hrd.lenB,
      fun _ => ⟨_, fun w' h => (h18d.same h).ldA (i := 0) (l := bv (idF K [0, 0])) rfl (idA _) (idS _) (by simp [idF]), _, fun w' h => ld w' (d18.trans h), _, _, _, _, r19, fun w' => Chg [] w18.drew w', fun _ h => h, h19.chg, (rid_spec K _ 2 2 [0, 0] w19 hk (h19.rd (i := 0) rfl) (by omega)).mono ?_⟩, fun h => by simp at h⟩, fun h => by simp at h⟩, fun h => by simp at h⟩, fun h => by simp at h⟩, fun h => by simp at h⟩
    rintro e w20 ⟨rfl, c20⟩
    exact ⟨_, rfl, fun w' => Chg [] w18.drew w', fun _ h => h, h19.chg.trans c20, _, fun w' _ => eqId _ _ _ (by simp [idF]) w', rfl, h3.chg.trans ((Chg.drew [] w3).trans (d18.trans (h19.chg.trans c20)))⟩

def TF : Nat → Nat → Nat × Nat
  | 0, _ => (1, 0)
  | f + 1, q => if q ≤ 1 then (1, 0) else (q + (TF f ((q + 15) / 16)).1, (TF f ((q + 15) / 16)).2 + 1)
theorem TF_one (f : Nat) {q : Nat} (h : q ≤ 1) : TF f q = (1, 0) := by
  cases f with
  | zero => rfl
  | succ f => rw [TF, if_pos h]

theorem wrap_q (m : Nat) (h : m ≤ 1000000) : IntKind.wrap .i64 (Int.tdiv (IntKind.wrap .i64 ((IntKind.wrap .i64 ((m : Int) + 16)) - 1)) 16) = (((m + 15) / 16 : Nat) : Int) := by
  rw [wrap_i64 (n := (m : Int) + 16) (by omega) (by omega), wrap_i64 (n := (m : Int) + 16 - 1) (by omega) (by omega), Int.tdiv_eq_ediv_of_nonneg (by omega), wrap_i64 (by omega) (by omega)]
  omega

theorem wrap_q2 (m : Nat) (h : m ≤ 1000000) : IntKind.wrap .i64 (Int.tdiv (IntKind.wrap .i64 ((m : Int) + 15)) 16) = (((m + 15) / 16 : Nat) : Int) := by
  rw [wrap_i64 (n := (m : Int) + 15) (by omega) (by omega), Int.tdiv_eq_ediv_of_nonneg (by omega), wrap_i64 (by omega) (by omega)]
  omega

def cntF (n : Nat) : Nat × Nat := ((TF 4 ((n + 15) / 16)).1, (TF 4 ((n + 15) / 16)).2 + 1)

theorem count_spec (x : Int) (w : World) : Calls Tryd.prog 18 #[.int .i64 x] w fun e w' => w' = w ∧
    (((x < 0 ∨ 65536 < x) ∧ e = .returned (.tuple #[.int .i64 0, .int .i64 0])) ∨ (∃ n : Nat, x = (n : Int) ∧ n ≤ 65536 ∧ e = .returned (.tuple #[.int .i64 ((cntF n).1 : Int), .int .i64 ((cntF n).2 : Int)]))) := by
  apply manifest_Count_vc
  refine ⟨fun h => ⟨rfl, .inl ⟨by simp at h; omega, rfl⟩⟩, fun h => ?_⟩
  have hx : 0 ≤ x ∧ x ≤ 65536 := by simp at h; omega
  obtain ⟨n, rfl⟩ := Int.eq_ofNat_of_zero_le hx.1
  clear h
  refine ⟨fun x0 x4 x5 w' => w' = w ∧ ∃ f m a b : Nat, x0 = (m : Int) ∧ x4 = (a : Int) ∧ x5 = (b : Int) ∧ 1 ≤ m ∧ m ≤ 65536 ∧ (m + 15) / 16 ≤ capF f ∧ b + f = 4 ∧ a ≤ 65536 * b ∧ a + (TF f ((m + 15) / 16)).1 = (cntF n).1 ∧ b + (TF f ((m + 15) / 16)).2 + 1 = (cntF n).2, fun x0 _ _ _ => x0.toNat, ⟨rfl, 4, max n 1, 0, 0, ?_, rfl, rfl, by omega, by omega, ?_, rfl, by omega, ?_, ?_⟩, ?_⟩
  · split <;> omega
  · simp only [capF]; omega
  · rw [cntF]
    by_cases h0 : n = 0
    · subst h0; rfl
    · rw [Nat.max_eq_left (by omega)]; simp
  · rw [cntF]
    by_cases h0 : n = 0
    · subst h0; rfl
    · rw [Nat.max_eq_left (by omega)]; simp
  rintro x0 x4 x5 w1 ⟨rfl, f, m, a, b, rfl, rfl, rfl, hm1, hm, hcap, hbf, ha, e1, e2⟩
  rw [wrap_q m (by omega)]
  obtain ⟨q, hq⟩ : ∃ q, (m + 15) / 16 = q := ⟨_, rfl⟩
  rw [hq] at hcap e1 e2 ⊢
  have wa : IntKind.wrap .i64 ((a : Int) + (q : Int)) = ((a + q : Nat) : Int) := by rw [wrap_i64 (by omega) (by omega)]; rfl
  have wb : IntKind.wrap .i64 ((b : Int) + 1) = ((b + 1 : Nat) : Int) := by rw [wrap_i64 (by omega) (by omega)]; rfl
  rw [wa, wb]
  refine ⟨fun h => ?_, fun h => ?_⟩
  · have h1 : q = 1 := by simp at h; omega
    rw [h1, TF_one f (by omega)] at e1 e2
    exact ⟨rfl, .inr ⟨n, rfl, by omega, by rw [← e1, ← e2, h1]; rfl⟩⟩
  · have h1 : 2 ≤ q := by simp at h; omega
    cases f with
    | zero => simp only [capF] at hcap; omega
    | succ f =>
      rw [TF, if_neg (by omega)] at e1 e2
      refine ⟨⟨rfl, f, q, a + q, b + 1, rfl, rfl, rfl, by omega, by omega, ?_, by omega, by omega, by simp only at e1; omega, by simp only at e2; omega⟩, ?_⟩
      · simp only [capF] at hcap; omega
      · simp only [Int.toNat_natCast]; omega

theorem manifestCounts_walk (x : Int) (w : World) (hK : KTab w) (hx : -9223372036854775808 ≤ x ∧ x ≤ 9223372036854775807) : Calls Tryd.prog 4 #[.int .i64 x] w fun e w' => e = .returned (.bool true) ∧ Chg [] w w' := by
  apply amphoralaw15_ManifestCounts_vc
  refine (alive15_spec w hK).mono ?_
  rintro e w1 ⟨rfl, c1⟩
  refine ⟨_, rfl, fun h => by simp at h, fun _ => (count_spec x w1).mono ?_⟩
  rintro e w2 ⟨rfl, (⟨h, rfl⟩ | ⟨n, rfl, hn, rfl⟩)⟩
  · exact ⟨_, _, rfl, fun _ => ⟨rfl, c1⟩, fun h' => by simp at h'; omega⟩
  · refine ⟨_, _, rfl, fun h' => by simp at h'; omega, fun _ => ⟨fun x5 x6 x7 w' => w' = w2 ∧ ∃ f q a b : Nat, x5 = (b : Int) ∧ x6 = (q : Int) ∧ x7 = (a : Int) ∧ q ≤ 65536 ∧ q ≤ capF f ∧ b + f = 5 ∧ a ≤ 65536 * b ∧ a + (TF f q).1 = (cntF n).1 ∧ b + (TF f q).2 = (cntF n).2, fun _ x6 _ _ => x6.toNat, ⟨rfl, 4, (n + 15) / 16, 0, 1, rfl, wrap_q2 n (by omega), rfl, by omega, by simp only [capF]; omega, rfl, by omega, by rw [cntF]; simp, by rw [cntF]; omega⟩, ?_⟩⟩
    rintro x5 x6 x7 w3 ⟨rfl, f, q, a, b, rfl, rfl, rfl, hq, hcap, hbf, ha, e1, e2⟩
    have wa : IntKind.wrap .i64 ((a : Int) + (q : Int)) = ((a + q : Nat) : Int) := by rw [wrap_i64 (by omega) (by omega)]; rfl
    have wa1 : IntKind.wrap .i64 ((a : Int) + 1) = ((a + 1 : Nat) : Int) := by rw [wrap_i64 (by omega) (by omega)]; rfl
    have wb : IntKind.wrap .i64 ((b : Int) + 1) = ((b + 1 : Nat) : Int) := by rw [wrap_i64 (by omega) (by omega)]; rfl
    rw [wrap_q2 q (by omega), wa, wa1, wb]
    refine ⟨fun h => ?_, fun h => ?_⟩
    · have h1 : 2 ≤ q := by simp at h; omega
      cases f with
      | zero => simp only [capF] at hcap; omega
      | succ f =>
        rw [TF, if_neg (by omega)] at e1 e2
        refine ⟨⟨rfl, f, (q + 15) / 16, a + q, b + 1, rfl, rfl, rfl, by omega, ?_, by omega, by omega, by simp only at e1; omega, by simp only at e2; omega⟩, ?_⟩
        · simp only [capF] at hcap; omega
        · simp only [Int.toNat_natCast]; omega
    · have h1 : q ≤ 1 := by simp at h; omega
      rw [TF_one f h1] at e1 e2
      refine ⟨?_, c1⟩
      rw [← e1, ← e2]
      simp

end Go.Proofs.YtefnlbgkfingfaaDoor
