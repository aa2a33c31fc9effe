/- Arrays in memory: blocks of cells, read and written by index and whole (conditions: none; any program). -/
import Derived.Test.YtdcgapabphjgbaaSxMem
import Derived.Test.YtdcgapabphjgbaaSxInt
namespace Go.Proofs.Ytdcgapabphjgbaa.Sx
open Go
set_option maxRecDepth 8000

/-- A block that holds these cells. -/
abbrev Res.arr (g : Nat) (T : TypeId) (l : List Value) : Res := .blk g (.cells l.toArray T)

/-- Whole numbers of a kind, as cells. -/
def kv (k : IntKind) (l : List Nat) : List Value := l.map fun (n : Nat) => .int k (n : Int)
@[simp] theorem kv_length (k : IntKind) (l : List Nat) : (kv k l).length = l.length := by simp [kv]
@[simp] theorem kv_append (k : IntKind) (a b : List Nat) : kv k (a ++ b) = kv k a ++ kv k b := by simp [kv]
theorem kv_get {k : IntKind} {l : List Nat} {i : Nat} (h : i < l.length) : (kv k l)[i]? = some (.int k ((l.getD i 0 : Nat) : Int)) := by simp [kv, List.getD, h]
theorem kv_set (k : IntKind) (l : List Nat) (i n : Nat) : (kv k l).set i (.int k (n : Int)) = kv k (l.set i n) := by simp [kv, List.map_set]
theorem kv_one (k : IntKind) (l : List Nat) : ∀ u ∈ kv k l, u.oneCell' = true := by
  intro u hu
  simp only [kv, List.mem_map] at hu
  obtain ⟨n, _, rfl⟩ := hu
  rfl
theorem bv_set (l : List UInt8) (i : Nat) (b : UInt8) : (bv l).set i (.int .u8 (b.toNat : Int)) = bv (l.set i b) := by simp [bv, List.map_set]
theorem bv_getD {l : List UInt8} {i : Nat} (h : i < l.length) : (bv l)[i]? = some (.int .u8 ((l.getD i 0).toNat : Int)) := by rw [bv_get]; simp [List.getD, h]

section
variable {P : Program} {w0 w : World} {X : List Nat} {M : List Res}

theorem St.ofBlk {g : Nat} {o : Obj} (h : w.heap[g]? = some o) : St w [g] w [.blk g o] := by
  have one : ∀ (i : Nat) (r : Res), [Res.blk g o][i]? = some r → i = 0 ∧ r = .blk g o := by
    intro i r hr
    cases i with
    | zero => exact ⟨rfl, (Option.some.inj hr).symm⟩
    | succ i => simp at hr
  refine ⟨Chg.refl _ _, ?_, ?_, ?_⟩
  · intro i r hr; obtain ⟨_, rfl⟩ := one i r hr; exact h
  · intro i r hr k hk; obtain ⟨_, rfl⟩ := one i r hr; exact .inr hk
  · intro i j r s hij hi hj; have := (one i r hi).1; have := (one j s hj).1; omega

theorem St.ldL (h : St w0 X w M) {i g o off : Nat} {l : List Value} {T' T : TypeId} {v : Value} (hi : M[i]? = some (.arr g T' l)) (hT : (isAgg T).run P w = .ok false w) (he : off = o) (hv : l[o]? = some v) :
    (Instr.loadAt T (.pointer (some ⟨g, off, none⟩))).run P w = .ok v w := by
  subst he
  exact h.ld hi hT (by simpa using hv)

theorem St.ldK (h : St w0 X w M) {i g o off : Nat} {k : IntKind} {l : List Nat} {T' T : TypeId} (hi : M[i]? = some (.arr g T' (kv k l))) (hT : (isAgg T).run P w = .ok false w) (he : off = o) (ho : o < l.length) :
    (Instr.loadAt T (.pointer (some ⟨g, off, none⟩))).run P w = .ok (.int k ((l.getD o 0 : Nat) : Int)) w := h.ldL hi hT he (kv_get ho)

theorem St.ldB (h : St w0 X w M) {i g o off : Nat} {l : List UInt8} {T' T : TypeId} (hi : M[i]? = some (.arr g T' (bv l))) (hT : (isAgg T).run P w = .ok false w) (he : off = o) (ho : o < l.length) :
    (Instr.loadAt T (.pointer (some ⟨g, off, none⟩))).run P w = .ok (.int .u8 ((l.getD o 0).toNat : Int)) w := h.ldL hi hT he (bv_getD ho)

theorem St.stL (h : St w0 X w M) {i g o off : Nat} {l : List Value} {T' T : TypeId} {v : Value} (hi : M[i]? = some (.arr g T' l)) (hT : (sizeOf T).run P w = .ok 1 w) (he : off = o) (ho : o < l.length) (hv : v.oneCell' = true) :
    ∃ w', (Instr.storeAt T (.pointer (some ⟨g, off, none⟩)) v).run P w = .ok () w' ∧ St w0 X w' (M.set i (.arr g T' (l.set o v))) := by
  subst he
  obtain ⟨w', hr, h'⟩ := h.st (v := v) hi hT (by simpa using ho) hv
  exact ⟨w', hr, by simpa using h'⟩

theorem St.stK (h : St w0 X w M) {i g o off : Nat} {k : IntKind} {l : List Nat} {T' T : TypeId} {n : Nat} (hi : M[i]? = some (.arr g T' (kv k l))) (hT : (sizeOf T).run P w = .ok 1 w) (he : off = o) (ho : o < l.length) :
    ∃ w', (Instr.storeAt T (.pointer (some ⟨g, off, none⟩)) (.int k (n : Int))).run P w = .ok () w' ∧ St w0 X w' (M.set i (.arr g T' (kv k (l.set o n)))) := by
  obtain ⟨w', hr, h'⟩ := h.stL (v := .int k (n : Int)) hi hT he (by simpa using ho) rfl
  exact ⟨w', hr, by rw [kv_set] at h'; exact h'⟩

theorem St.stB (h : St w0 X w M) {i g o off : Nat} {l : List UInt8} {T' T : TypeId} {b : UInt8} (hi : M[i]? = some (.arr g T' (bv l))) (hT : (sizeOf T).run P w = .ok 1 w) (he : off = o) (ho : o < l.length) :
    ∃ w', (Instr.storeAt T (.pointer (some ⟨g, off, none⟩)) (.int .u8 (b.toNat : Int))).run P w = .ok () w' ∧ St w0 X w' (M.set i (.arr g T' (bv (l.set o b)))) := by
  obtain ⟨w', hr, h'⟩ := h.stL (v := .int .u8 (b.toNat : Int)) hi hT he (by simpa using ho) rfl
  exact ⟨w', hr, by rw [bv_set] at h'; exact h'⟩

theorem St.cellsA (h : St w0 X w M) {i g : Nat} {l : List Value} {T' : TypeId} (hi : M[i]? = some (.arr g T' l)) : w.rangeAt g 0 l := by
  intro j v hj
  rw [cell_of_row w g _ _ T' (0, 0) (h.holds i _ hi)]
  simpa using hj

theorem St.ldVarA (h : St w0 X w M) {i g n : Nat} {l : List Value} {T' T : TypeId} (hi : M[i]? = some (.arr g T' l)) (hT : (isAgg T).run P w = .ok true w) (hS : (sizeOf T).run P w = .ok n w) (hl : l.length = n) :
    (loadVar T ⟨g, 0, none⟩).run P w = .ok (.agg l.toArray) w := by
  subst hl
  simp [loadVar, hT, hS, loadCells_cells (P := P) (h.cellsA hi)]

theorem St.ldA (h : St w0 X w M) {i g n : Nat} {l : List Value} {T' T : TypeId} (hi : M[i]? = some (.arr g T' l)) (hT : (isAgg T).run P w = .ok true w) (hS : (sizeOf T).run P w = .ok n w) (hl : l.length = n) :
    (Instr.loadAt T (.pointer (some ⟨g, 0, none⟩))).run P w = .ok (.agg l.toArray) w := by
  have := h.ldVarA hi hT hS hl
  simp [Instr.loadAt, Instr.sureAddr, this]

theorem St.stA (h : St w0 X w M) {i g n : Nat} {l v : List Value} {T' T : TypeId} (hi : M[i]? = some (.arr g T' l)) (hS : (sizeOf T).run P w = .ok n w) (hl : l.length = n) (hv : v.length = n) (h1 : ∀ u ∈ v, u.oneCell' = true) :
    ∃ w', (Instr.storeAt T (.pointer (some ⟨g, 0, none⟩)) (.agg v.toArray)).run P w = .ok () w' ∧ St w0 X w' (M.set i (.arr g T' v)) := by
  have hg := h.holds i _ hi
  have hst := run_storeCells_at P g 0 T' v 0 l.toArray w hg (by simp; omega) h1
  have hset : (l.toArray.toList.take (0 + 0) ++ v ++ l.toArray.toList.drop (0 + 0 + v.length)).toArray = v.toArray := by
    simp only [Nat.zero_add, List.take_zero, List.nil_append]
    rw [List.drop_of_length_le (by omega), List.append_nil]
  rw [hset] at hst
  refine ⟨_, ?_, h.upd hi (w' := w.setRow g v.toArray) ⟨rfl, rfl, rfl, by simp, fun k _ hk => setRow_other w g k _ (fun e => hk (by simp [Res.fp, e]))⟩ (setRow_heap w g _ _ T' _ hg) (by simp [Res.fp])⟩
  simp [Instr.storeAt, Instr.sureAddr, storeVar, hS, Value.cells, hv, hst]

theorem St.boxA (h : St w0 X w M) (T : TypeId) (l : List Value) : ∃ g w', (Instr.box T (.agg l.toArray)).run P w = .ok (.pointer (some ⟨g, 0, none⟩)) w' ∧ St w0 X w' (M ++ [.arr g T l]) := h.box T (.agg l.toArray)

theorem St.zeroA (h : St w0 X w M) {T : TypeId} {z : List Value} (hz : ∀ w, (zeroValue T).run P w = .ok (.agg z.toArray) w) : ∃ g w', (Instr.alloc T true (.tuple #[])).run P w = .ok (.pointer (some ⟨g, 0, none⟩)) w' ∧ St w0 X w' (M ++ [.arr g T z]) := h.zero hz

theorem St.rdA (h : St w0 X w M) {i g n : Nat} {l : List Value} {T' : TypeId} (hi : M[i]? = some (.arr g T' l)) (hl : l.length = n) : Rd w (some ⟨g, 0, none⟩) n n 1 l :=
  ⟨.inr ⟨g, 0, rfl, h.cellsA hi⟩, by omega, Nat.le_refl _, by simp⟩

/-- A slice of a slice. -/
theorem Rd.sub {a a' : Option Addr} {n c sz l hh m : Nat} {cs : List Value} (h : Rd w a n c sz cs) (hs : SubA sz a l m a') (h1 : l ≤ hh) (h2 : hh ≤ n) (h3 : hh ≤ m) (h4 : m ≤ c) : Rd w a' (hh - l) (m - l) sz ((cs.drop (l * sz)).take ((hh - l) * sz)) := by
  have hlen : ((cs.drop (l * sz)).take ((hh - l) * sz)).length = (hh - l) * sz := by
    rw [List.length_take, List.length_drop, h.len, ← Nat.sub_mul]
    exact Nat.min_eq_left (Nat.mul_le_mul_right _ (by omega))
  refine ⟨?_, hlen, by omega, ?_⟩
  · by_cases hm : m = l
    · left
      have : hh - l = 0 := by omega
      simp [this]
    · have ha := hs.2 hm
      rcases h.cells with h0 | ⟨b, o, rfl, hr⟩
      · left; subst h0; simp
      · right
        refine ⟨b, o + l * sz, by rw [ha]; simp [Addr.add_mid], fun j v hj => ?_⟩
        rw [List.getElem?_take] at hj
        split at hj
        · rw [List.getElem?_drop] at hj
          have := hr _ _ hj
          rw [Nat.add_assoc]; exact this
        · cases hj
  · intro hn
    by_cases hm : m = l
    · omega
    · have ha := hs.2 hm
      rw [hn] at ha
      have : a = none := by cases a with
        | none => rfl
        | some x => simp at ha
      have := h.nil this
      omega

/-- A part of a struct's literal. -/
theorem fill_step {place : Nat → Option (Nat × Nat)} {i off sz : Nat} {v : Value} {rest : List (Nat × Value)} {cells : Array Value} (hp : place i = some (off, sz)) (hs : v.cells.size = sz) (h : off + sz ≤ cells.size) :
    Instr.fill place cells ((i, v) :: rest) = Instr.fill place (cells.toList.take off ++ v.cells.toList ++ cells.toList.drop (off + sz)).toArray rest := by
  have key : ∀ (vs : List Value) (k : Nat) (cells : Array Value), off + k + vs.length ≤ cells.size →
      ((vs.zipIdx k).foldl (fun cs (c, j) => cs.setIfInBounds (off + j) c) cells) = (cells.toList.take (off + k) ++ vs ++ cells.toList.drop (off + k + vs.length)).toArray := by
    intro vs
    induction vs with
    | nil => intro k cells _; simp
    | cons u vs ih =>
      intro k cells hk
      have hkl : off + k < cells.toList.length := by simp at hk; simp; omega
      simp only [List.zipIdx_cons, List.foldl_cons]
      rw [ih (k + 1) _ (by simp at hk ⊢; omega), Array.toList_setIfInBounds]
      have e1 : (cells.toList.set (off + k) u).take (off + (k + 1)) = cells.toList.take (off + k) ++ [u] := by
        rw [show off + (k + 1) = off + k + 1 by omega, List.take_add_one, List.take_set, List.set_eq_of_length_le (by rw [List.length_take]; omega), List.getElem?_set_self hkl]; rfl
      have e2 : (cells.toList.set (off + k) u).drop (off + (k + 1) + vs.length) = cells.toList.drop (off + k + (u :: vs).length) := by
        rw [List.drop_set_of_lt (by omega)]
        congr 1; simp; omega
      rw [e1, e2]
      simp
  subst hs
  have hn : ¬ (v.cells.size ≠ v.cells.size ∨ off + v.cells.size > cells.size) := by omega
  simp only [Instr.fill, hp]
  rw [if_neg (by simpa using hn)]
  congr 1
  rw [← Array.foldl_toList, Array.toList_zipIdx]
  have := key v.cells.toList 0 cells (by simpa using h)
  simpa using this

/-- An array's literal: its first elements. -/
theorem build_arr {T e n : Nat} {z : List Value} (hz : (zeroValue T).run P w = .ok (.agg z.toArray) w) (hT : P.underlying T = some (.array n e)) (hS : (sizeOf e).run P w = .ok 1 w) (vs : List Value) (h1 : ∀ v ∈ vs, v.oneCell' = true) (hl : vs.length ≤ z.length) :
    (Instr.build T ((vs.zipIdx 0).map fun p => (p.2, p.1)).toArray).run P w = .ok (.agg (vs ++ z.drop vs.length).toArray) w := by
  have hf : ∀ (vs : List Value) (k : Nat) (cells : Array Value), (∀ v ∈ vs, v.oneCell' = true) → k + vs.length ≤ cells.size →
      Instr.fill (fun i => some (i * 1, 1)) cells ((vs.zipIdx k).map fun p => (p.2, p.1)) = some (cells.toList.take k ++ vs ++ cells.toList.drop (k + vs.length)).toArray := by
    intro vs
    induction vs with
    | nil => intro k cells _ _; simp [Instr.fill]
    | cons v vs ih =>
      intro k cells h1 hs
      have hc : v.cells = #[v] := by
        have := h1 v (by simp)
        cases v <;> first | rfl | (simp [Value.oneCell'] at this)
      have hk : k < cells.size := by simp at hs; omega
      simp only [List.zipIdx_cons, List.map_cons, Instr.fill, hc]
      have hn : ¬ (#[v].size ≠ 1 ∨ k * 1 + #[v].size > cells.size) := by simp; omega
      rw [if_neg (by simpa using hn)]
      have hf : (#[v].zipIdx.foldl (fun cs (c, j) => cs.setIfInBounds (k * 1 + j) c) cells) = cells.setIfInBounds k v := by simp
      rw [hf, ih (k + 1) (cells.setIfInBounds k v) (fun u hu => h1 u (by simp [hu])) (by simp at hs ⊢; omega)]
      congr 2
      rw [Array.toList_setIfInBounds]
      have hkl : k < cells.toList.length := by simpa using hk
      have e1 : (cells.toList.set k v).take (k + 1) = cells.toList.take k ++ [v] := by
        rw [List.take_add_one, List.take_set, List.set_eq_of_length_le (by rw [List.length_take]; omega), List.getElem?_set_self hkl]; rfl
      have e2 : (cells.toList.set k v).drop (k + 1 + vs.length) = cells.toList.drop (k + (v :: vs).length) := by
        rw [List.drop_set_of_lt (by omega)]
        congr 1; simp; omega
      rw [e1, e2]
      simp
  have hf2 := hf vs 0 z.toArray h1 (by simpa using hl)
  simp only [List.take_zero, List.nil_append, Nat.zero_add] at hf2
  have hpl : (fun i => some (i * 1, 1) : Nat → Option (Nat × Nat)) = fun i => some (i, 1) := by funext i; simp
  rw [hpl] at hf2
  simp [Instr.build, hz, run_underlying hT, hS, Value.cells, hf2]

end
theorem ldRange {P : Program} {w : World} {b o n : Nat} {cs : List Value} {T : TypeId} (h : w.rangeAt b o cs) (hT : (isAgg T).run P w = .ok true w) (hS : (sizeOf T).run P w = .ok n w) (hl : cs.length = n) :
    (Instr.loadAt T (.pointer (some ⟨b, o, none⟩))).run P w = .ok (.agg cs.toArray) w := by
  subst hl
  simp [Instr.loadAt, Instr.sureAddr, loadVar, hT, hS, loadCells_cells (P := P) h]

end Go.Proofs.Ytdcgapabphjgbaa.Sx
