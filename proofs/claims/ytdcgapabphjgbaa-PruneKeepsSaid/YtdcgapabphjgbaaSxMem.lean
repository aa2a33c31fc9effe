/- Memory: what a function owns ('St'), what it may read ('Cells'), and the operations on both (conditions: none; any program). -/
import Derived.Test.YtdcgapabphjgbaaSxRun
import Derived.Deep.MidRow
import Derived.Laws.BytesArg
import Derived.Laws.MakeOwn
import Derived.Laws.OwnMore
import Derived.Maps.AppendAt
namespace Go.Proofs.Ytdcgapabphjgbaa.Sx
open Go
set_option maxRecDepth 8000

def bv (l : List UInt8) : List Value := l.map fun b => .int .u8 (b.toNat : Int)
@[simp] theorem bv_length (l : List UInt8) : (bv l).length = l.length := by simp [bv]
@[simp] theorem bv_nil : bv [] = [] := rfl
@[simp] theorem bv_append (a b : List UInt8) : bv (a ++ b) = bv a ++ bv b := by simp [bv]
theorem bv_get (l : List UInt8) (i : Nat) : (bv l)[i]? = l[i]?.map fun b => .int .u8 (b.toNat : Int) := by simp [bv]
theorem bv_one (l : List UInt8) : ∀ u ∈ bv l, u.oneCell' = true := by
  intro u hu; simp only [bv, List.mem_map] at hu; obtain ⟨b, _, rfl⟩ := hu; rfl
theorem bv_drop (l : List UInt8) (n : Nat) : bv (l.drop n) = (bv l).drop n := by simp [bv]
theorem bv_take (l : List UInt8) (n : Nat) : bv (l.take n) = (bv l).take n := by simp [bv]

/-- These cells lie behind a slice's head. -/
def Cells (w : World) (a : Option Addr) (cs : List Value) : Prop := cs = [] ∨ ∃ b o, a = some ⟨b, o, none⟩ ∧ w.rangeAt b o cs

theorem Cells.nil (w : World) (a : Option Addr) : Cells w a [] := .inl rfl

theorem Cells.at_ {w : World} {a : Option Addr} {cs : List Value} (h : Cells w a cs) {i : Nat} {v : Value} (hv : cs[i]? = some v) : ∃ b o, a = some ⟨b, o, none⟩ ∧ w.cell? ⟨b, o + i, none⟩ = some v := by
  rcases h with rfl | ⟨b, o, ha, hr⟩
  · simp at hv
  · exact ⟨b, o, ha, hr i v hv⟩

theorem Cells.of_none {w : World} {cs : List Value} (h : Cells w none cs) : cs = [] := by
  rcases h with h | ⟨b, o, e, _⟩
  · exact h
  · cases e

/-- A slice that may be read: its cells. -/
structure Rd (w : World) (a : Option Addr) (n c : Nat) (sz : Nat) (cs : List Value) : Prop where
  cells : Cells w a cs
  len : cs.length = n * sz
  le : n ≤ c
  nil : a = none → c = 0

abbrev RdB (w : World) (a : Option Addr) (n c : Nat) (l : List UInt8) : Prop := Rd w a n c 1 (bv l)

theorem Rd.lenB {w : World} {a : Option Addr} {n c : Nat} {l : List UInt8} (h : RdB w a n c l) : l.length = n := by have := h.len; simpa using this

/-- The world has changed at most in the blocks X; new blocks may have come. -/
structure Chg (X : List Nat) (w w' : World) : Prop where
  os : w'.os = w.os
  tape : w'.tape = w.tape
  output : w'.output = w.output
  size : w.heap.size ≤ w'.heap.size
  block : ∀ k, k < w.heap.size → k ∉ X → w'.heap[k]? = w.heap[k]?

theorem Chg.refl (X : List Nat) (w : World) : Chg X w w := ⟨rfl, rfl, rfl, Nat.le_refl _, fun _ _ _ => rfl⟩
theorem Chg.trans {X : List Nat} {a b c : World} (h : Chg X a b) (k : Chg X b c) : Chg X a c :=
  ⟨k.os.trans h.os, k.tape.trans h.tape, k.output.trans h.output, Nat.le_trans h.size k.size, fun i hi hx => (k.block i (Nat.lt_of_lt_of_le hi h.size) hx).trans (h.block i hi hx)⟩
theorem Chg.mono {X Y : List Nat} {a b : World} (h : Chg X a b) (hs : ∀ k ∈ X, k ∈ Y) : Chg Y a b := ⟨h.os, h.tape, h.output, h.size, fun k hk hy => h.block k hk fun hx => hy (hs k hx)⟩
/-- Blocks that came in between do not count. -/
theorem Chg.trans' {X Y : List Nat} {a b c : World} (h : Chg X a b) (k : Chg Y b c) (hY : ∀ i ∈ Y, a.heap.size ≤ i ∨ i ∈ X) : Chg X a c :=
  ⟨k.os.trans h.os, k.tape.trans h.tape, k.output.trans h.output, Nat.le_trans h.size k.size, fun i hi hx => (k.block i (Nat.lt_of_lt_of_le hi h.size) fun hy => by
    rcases hY i hy with h1 | h1
    · omega
    · exact hx h1).trans (h.block i hi hx)⟩
theorem Chg.drew (X : List Nat) (w : World) : Chg X w w.drew := ⟨rfl, rfl, rfl, Nat.le_refl _, fun _ _ _ => rfl⟩
theorem Chg.alloc (w : World) (o : Obj) : Chg [] w (w.alloc o) := ⟨rfl, rfl, rfl, by simp, fun k hk _ => heap_alloc_old w o hk⟩
theorem Chg.below {w w' : World} (h : Chg [] w w') : RowKit.Below w.heap.size w w' := ⟨h.os, h.tape, h.output, h.size, fun k hk => h.block k hk (by simp)⟩
theorem Chg.of_below {w w' : World} (h : RowKit.Below w.heap.size w w') : Chg [] w w' := ⟨h.os, h.tape, h.output, h.size, fun k hk _ => h.block k hk⟩
theorem Chg.of_grown {w w' : World} {r : Option Nat} (h : w.grownBy w' r) : Chg r.toList w w' :=
  ⟨h.os, h.tape, h.output, h.size, fun k hk hx => h.block k hk fun e => hx (by simp [← e])⟩

theorem Cells.keep {w w' : World} {X : List Nat} {a : Option Addr} {cs : List Value} (h : Cells w a cs) (hc : Chg X w w') (hX : ∀ ad, a = some ad → ad.block ∉ X) : Cells w' a cs := by
  rcases h with rfl | ⟨b, o, ha, hr⟩
  · exact .inl rfl
  · refine .inr ⟨b, o, ha, fun j v hv => ?_⟩
    have h1 := hr j v hv
    rw [← h1]
    exact World.cell?_of_block (hc.block b (World.block_lt_of_cell? w _ h1) (hX _ ha))

theorem Cells.keep0 {w w' : World} {a : Option Addr} {cs : List Value} (h : Cells w a cs) (hc : Chg [] w w') : Cells w' a cs := h.keep hc (by simp)

theorem Rd.keep {w w' : World} {X : List Nat} {a : Option Addr} {n c sz : Nat} {cs : List Value} (h : Rd w a n c sz cs) (hc : Chg X w w') (hX : ∀ ad, a = some ad → ad.block ∉ X) : Rd w' a n c sz cs := ⟨h.cells.keep hc hX, h.len, h.le, h.nil⟩
theorem Rd.keep0 {w w' : World} {a : Option Addr} {n c sz : Nat} {cs : List Value} (h : Rd w a n c sz cs) (hc : Chg [] w w') : Rd w' a n c sz cs := h.keep hc (by simp)

/-- Something that a function holds: a block whole, or a slice with its own row (nil too). -/
inductive Res where
  | blk (g : Nat) (o : Obj)
  | row (e : TypeId) (sz : Nat) (v : Value) (n : Nat) (xs : List Value)

def Res.holds (w : World) : Res → Prop
  | .blk g o => w.heap[g]? = some o
  | .row e sz v n xs => w.ownsRow 0 e sz v n xs

def Res.fp : Res → List Nat
  | .blk g _ => [g]
  | .row _ _ v _ _ => v.ownBlock.toList

/-- Nothing: what is held no more. -/
def Res.emp : Res := .row 0 0 (.slice none 0 0) 0 []

theorem Res.lt {w : World} : ∀ {r : Res}, r.holds w → ∀ k ∈ r.fp, k < w.heap.size
  | .blk g o, h, k, hk => by
    simp only [Res.fp, List.mem_singleton] at hk
    subst hk
    exact (Array.getElem?_eq_some_iff.1 h).1
  | .row e sz v n xs, h, k, hk => by
    simp only [Res.fp, Option.mem_toList] at hk
    exact (World.ownsRow.lt h k (by simpa using hk)).2

theorem Res.kept {w w' : World} : ∀ {r : Res}, r.holds w → (∀ k ∈ r.fp, w'.heap[k]? = w.heap[k]?) → r.holds w'
  | .blk g o, h, hk => by rw [Res.holds, hk g (by simp [Res.fp])]; exact h
  | .row e sz v n xs, h, hk => by
    obtain ⟨h1, h2⟩ := h
    refine ⟨h1, ?_⟩
    rcases h2 with h2 | ⟨g, cap, cur, rfl, hb, hg, r⟩
    · exact .inl h2
    · exact .inr ⟨g, cap, cur, rfl, hb, by rw [hk g (by simp [Res.fp, Value.ownBlock])]; exact hg, r⟩

/-- What a function that began in w0 holds in w; of what stood in w0 only the blocks X may have changed. -/
structure St (w0 : World) (X : List Nat) (w : World) (M : List Res) : Prop where
  chg : Chg X w0 w
  holds : ∀ (i : Nat) (r : Res), M[i]? = some r → r.holds w
  own : ∀ (i : Nat) (r : Res), M[i]? = some r → ∀ k ∈ r.fp, w0.heap.size ≤ k ∨ k ∈ X
  apart : ∀ (i j : Nat) (r s : Res), i ≠ j → M[i]? = some r → M[j]? = some s → ∀ k ∈ r.fp, k ∉ s.fp

section
variable {w0 w w' : World} {X : List Nat} {M : List Res}

theorem St.start (w : World) : St w [] w [] := ⟨Chg.refl _ _, by simp, by simp, by simp⟩

/-- A world that differs from w in blocks of one thing held alone, or in none of them. -/
theorem St.upd (h : St w0 X w M) {i : Nat} {r r' : Res} (hi : M[i]? = some r) (hc : Chg r.fp w w') (hr' : r'.holds w') (hfp : ∀ k ∈ r'.fp, k ∈ r.fp ∨ w.heap.size ≤ k) : St w0 X w' (M.set i r') := by
  have hlt : i < M.length := (List.getElem?_eq_some_iff.1 hi).1
  have get : ∀ j s, (M.set i r')[j]? = some s → (j = i ∧ s = r') ∨ (j ≠ i ∧ M[j]? = some s) := by
    intro j s hj
    by_cases e : i = j
    · subst e
      rw [List.getElem?_set_self hlt] at hj
      exact .inl ⟨rfl, (Option.some.inj hj).symm⟩
    · rw [List.getElem?_set_ne e] at hj
      exact .inr ⟨fun h => e h.symm, hj⟩
  refine ⟨?_, ?_, ?_, ?_⟩
  · exact h.chg.trans' hc (fun k hk => h.own i r hi k hk)
  · intro j s hj
    rcases get j s hj with ⟨_, h2⟩ | ⟨hne, hj2⟩
    · rw [h2]; exact hr'
    · exact Res.kept (h.holds j s hj2) fun k hk => hc.block k (Res.lt (h.holds j s hj2) k hk) (fun hx => h.apart j i s r hne hj2 hi k hk hx)
  · intro j s hj k hk
    rcases get j s hj with ⟨_, h2⟩ | ⟨hne, hj2⟩
    · rw [h2] at hk
      rcases hfp k hk with h1 | h1
      · exact h.own i r hi k h1
      · exact .inl (Nat.le_trans h.chg.size h1)
    · exact h.own j s hj2 k hk
  · intro j l s t hjl hj hl k hk hk'
    rcases get j s hj with ⟨ej, es⟩ | ⟨hne, hj2⟩
    · rcases get l t hl with ⟨el, _⟩ | ⟨hne', hl2⟩
      · exact hjl (ej.trans el.symm)
      · rw [es] at hk
        rcases hfp k hk with h1 | h1
        · exact h.apart i l r t (fun e => hne' e.symm) hi hl2 k h1 hk'
        · have := Res.lt (h.holds l t hl2) k hk'; omega
    · rcases get l t hl with ⟨el, et⟩ | ⟨hne', hl2⟩
      · rw [et] at hk'
        rcases hfp k hk' with h1 | h1
        · exact h.apart j i s r hne hj2 hi k hk h1
        · have := Res.lt (h.holds j s hj2) k hk; omega
      · exact h.apart j l s t hjl hj2 hl2 k hk hk'

theorem St.add (h : St w0 X w M) {r : Res} (hc : Chg [] w w') (hr : r.holds w') (hfp : ∀ k ∈ r.fp, w.heap.size ≤ k) : St w0 X w' (M ++ [r]) := by
  have get : ∀ j s, (M ++ [r])[j]? = some s → (j = M.length ∧ s = r) ∨ (j ≠ M.length ∧ M[j]? = some s) := by
    intro j s hj
    by_cases hl : j < M.length
    · rw [List.getElem?_append_left hl] at hj; exact .inr ⟨by omega, hj⟩
    · rw [List.getElem?_append_right (by omega)] at hj
      have : j - M.length = 0 := by
        rcases Nat.eq_zero_or_pos (j - M.length) with h | h
        · exact h
        · rw [List.getElem?_eq_none (by simp; omega)] at hj; cases hj
      rw [this] at hj
      simp at hj
      exact .inl ⟨by omega, hj.symm⟩
  refine ⟨h.chg.trans' hc (by simp), ?_, ?_, ?_⟩
  · intro j s hj
    rcases get j s hj with ⟨_, h2⟩ | ⟨_, hj2⟩
    · rw [h2]; exact hr
    · exact Res.kept (h.holds j s hj2) fun k hk => hc.block k (Res.lt (h.holds j s hj2) k hk) (by simp)
  · intro j s hj k hk
    rcases get j s hj with ⟨_, h2⟩ | ⟨_, hj2⟩
    · rw [h2] at hk; exact .inl (Nat.le_trans h.chg.size (hfp k hk))
    · exact h.own j s hj2 k hk
  · intro j l s t hjl hj hl k hk hk'
    rcases get j s hj with ⟨ej, es⟩ | ⟨_, hj2⟩
    · rcases get l t hl with ⟨el, _⟩ | ⟨_, hl2⟩
      · exact hjl (ej.trans el.symm)
      · rw [es] at hk; have := Res.lt (h.holds l t hl2) k hk'; have := hfp k hk; omega
    · rcases get l t hl with ⟨el, et⟩ | ⟨_, hl2⟩
      · rw [et] at hk'; have := Res.lt (h.holds j s hj2) k hk; have := hfp k hk'; omega
      · exact h.apart j l s t hjl hj2 hl2 k hk hk'

/-- A world in which nothing that stood has changed. -/
theorem St.same (h : St w0 X w M) (hc : Chg [] w w') : St w0 X w' M :=
  ⟨h.chg.trans' hc (by simp), fun j s hj => Res.kept (h.holds j s hj) fun k hk => hc.block k (Res.lt (h.holds j s hj) k hk) (by simp), h.own, h.apart⟩

theorem St.drew (h : St w0 X w M) : St w0 X w.drew M := h.same (Chg.drew _ _)

theorem Res.emp_holds (w : World) : Res.emp.holds w := World.ownsRow_nil w 0 0 0

/-- A nil slice to append to. -/
theorem St.addNil (h : St w0 X w M) (e : TypeId) (sz : Nat) : St w0 X w (M ++ [.row e sz (.slice none 0 0) 0 []]) :=
  h.add (Chg.refl _ _) (World.ownsRow_nil _ _ _ _) (by simp [Res.fp, Value.ownBlock])

/-- One thing is held no more. -/
theorem St.free (h : St w0 X w M) (i : Nat) (hi : i < M.length) : St w0 X w (M.set i Res.emp) :=
  h.upd (r := M[i]) (by simp [hi]) (Chg.refl _ _) (Res.emp_holds w) (by simp [Res.emp, Res.fp, Value.ownBlock])

/-- The last thing is held no more. -/
theorem St.pop {r : Res} (h : St w0 X w (M ++ [r])) : St w0 X w M := by
  have key : ∀ j s, M[j]? = some s → (M ++ [r])[j]? = some s := fun j s hj => by
    rw [List.getElem?_append_left (List.getElem?_eq_some_iff.1 hj).1]; exact hj
  exact ⟨h.chg, fun j s hj => h.holds j s (key j s hj), fun j s hj => h.own j s (key j s hj), fun j l s t hjl hj hl => h.apart j l s t hjl (key j s hj) (key l t hl)⟩

theorem St.cells0 (h : St w0 X w M) {a : Option Addr} {cs : List Value} (hc : Cells w0 a cs) (hX : ∀ ad, a = some ad → ad.block ∉ X) : Cells w a cs := hc.keep h.chg hX

theorem ownsRow_cells {e : TypeId} {sz : Nat} {a : Option Addr} {n c m : Nat} {xs : List Value} (h : w.ownsRow 0 e sz (.slice a n c) m xs) : Cells w a xs := by
  rcases h.2 with ⟨hv, hn⟩ | ⟨g, cap, cur, hv, _⟩
  · have : xs = [] := List.eq_nil_of_length_eq_zero (by rw [h.1, hn]; simp)
    exact .inl this
  · simp only [Value.slice.injEq] at hv
    obtain ⟨rfl, _, _⟩ := hv
    refine .inr ⟨g, 0, rfl, fun j v hj => ?_⟩
    have := World.ownsRow.cells h (g := g) rfl j v hj
    rw [Addr.add_mid] at this
    exact this

theorem St.cells (h : St w0 X w M) {i : Nat} {e : TypeId} {sz : Nat} {a : Option Addr} {n c m : Nat} {xs : List Value} (hi : M[i]? = some (.row e sz (.slice a n c) m xs)) : Cells w a xs := ownsRow_cells (h.holds i _ hi)

theorem ownsRow_rd {e : TypeId} {sz : Nat} {a : Option Addr} {n c : Nat} {xs : List Value} (h : w.ownsRow 0 e sz (.slice a n c) n xs) : Rd w a n c sz xs := by
  refine ⟨ownsRow_cells h, h.1, ?_, ?_⟩
  · rcases h.2 with ⟨hv, hn⟩ | ⟨g, cap, cur, hv, _, _, hnc, _⟩
    · omega
    · simp only [Value.slice.injEq] at hv; omega
  · intro e
    rcases h.2 with ⟨hv, hn⟩ | ⟨g, cap, cur, hv, _, _, hnc, _⟩
    · simp only [Value.slice.injEq] at hv; exact hv.2.2
    · subst e; simp at hv

theorem St.rd (h : St w0 X w M) {i : Nat} {e : TypeId} {sz : Nat} {a : Option Addr} {n c : Nat} {xs : List Value} (hi : M[i]? = some (.row e sz (.slice a n c) n xs)) : Rd w a n c sz xs := ownsRow_rd (h.holds i _ hi)
theorem St.rd0 (h : St w0 X w M) {a : Option Addr} {n c sz : Nat} {cs : List Value} (hr : Rd w0 a n c sz cs) (hX : ∀ ad, a = some ad → ad.block ∉ X) : Rd w a n c sz cs := hr.keep h.chg hX
theorem St.rd1 (h : St w0 [] w M) {a : Option Addr} {n c sz : Nat} {cs : List Value} (hr : Rd w0 a n c sz cs) : Rd w a n c sz cs := hr.keep0 h.chg

theorem cells_blk {g o n : Nat} {c : Array Value} {T : TypeId} {fr : Nat × Nat} (h : w.heap[g]? = some (.cells c T fr)) : Cells w (some ⟨g, o, none⟩) ((c.toList.drop o).take n) := by
  refine .inr ⟨g, o, rfl, fun j v hj => ?_⟩
  rw [cell_of_row w g _ c T fr h]
  rw [List.getElem?_take] at hj
  split at hj
  · rw [List.getElem?_drop] at hj; simpa using hj
  · cases hj

end

/-- The type of a slice and of its elements. -/
structure ElemT (P : Program) (t e sz by_ : Nat) (z : Value) : Prop where
  ht : P.underlying t = some (.slice e)
  inf : ∃ i, P.info? e = some i ∧ i.zero = some z ∧ i.size = sz ∧ i.bytes = by_
  zs : z.cells.size = sz
  pos : 0 < sz

section
variable {P : Program} {w0 w : World} {X : List Nat} {M : List Res}

theorem St.box (h : St w0 X w M) (T : TypeId) (v : Value) : ∃ g w', (Instr.box T v).run P w = .ok (.pointer (some ⟨g, 0, none⟩)) w' ∧ St w0 X w' (M ++ [.blk g (.cells v.cells T)]) := by
  refine ⟨w.heap.size, w.alloc (.cells v.cells T), by simp [Instr.box, newVar, newRow], h.add (Chg.alloc _ _) (heap_alloc_new w _) (by simp [Res.fp])⟩

theorem St.zero (h : St w0 X w M) {T : TypeId} {z : Value} (hz : ∀ w, (zeroValue T).run P w = .ok z w) : ∃ g w', (Instr.alloc T true (.tuple #[])).run P w = .ok (.pointer (some ⟨g, 0, none⟩)) w' ∧ St w0 X w' (M ++ [.blk g (.cells z.cells T)]) := by
  refine ⟨w.heap.size, w.alloc (.cells z.cells T), by simp [Instr.alloc, hz, newVar, newRow], h.add (Chg.alloc _ _) (heap_alloc_new w _) (by simp [Res.fp])⟩

theorem ld1 {T : TypeId} {b o : Nat} {v : Value} (hT : (isAgg T).run P w = .ok false w) (hc : w.cell? ⟨b, o, none⟩ = some v) : (Instr.loadAt T (.pointer (some ⟨b, o, none⟩))).run P w = .ok v w := by
  simp [Instr.loadAt, Instr.sureAddr, loadVar, hT, load, Sem.run, hc]

theorem St.ld (h : St w0 X w M) {i g o : Nat} {c : Array Value} {T' T : TypeId} {fr : Nat × Nat} {v : Value} (hi : M[i]? = some (.blk g (.cells c T' fr))) (hT : (isAgg T).run P w = .ok false w) (hv : c[o]? = some v) :
    (Instr.loadAt T (.pointer (some ⟨g, o, none⟩))).run P w = .ok v w :=
  ld1 hT (by rw [cell_of_row w g o c T' fr (h.holds i _ hi)]; exact hv)

/-- A store of one cell into a block that is held whole. -/
theorem St.st (h : St w0 X w M) {i g o : Nat} {c : Array Value} {T' T : TypeId} {v : Value} (hi : M[i]? = some (.blk g (.cells c T' (0, 0)))) (hT : (sizeOf T).run P w = .ok 1 w) (ho : o < c.size) (hv : v.oneCell' = true) :
    ∃ w', (Instr.storeAt T (.pointer (some ⟨g, o, none⟩)) v).run P w = .ok () w' ∧ St w0 X w' (M.set i (.blk g (.cells (c.setIfInBounds o v) T' (0, 0)))) := by
  have hg := h.holds i _ hi
  have hcs : v.cells = #[v] := by cases v <;> first | rfl | (simp [Value.oneCell'] at hv)
  have hst := run_storeCells_at P g o T' [v] 0 c w hg (by simp; omega) (by simpa using hv)
  have hset : (c.toList.take o ++ [v] ++ c.toList.drop (o + 1)).toArray = c.setIfInBounds o v := by
    apply Array.ext'
    rw [Array.toList_setIfInBounds, List.set_eq_take_append_cons_drop]
    simp [ho]
  simp only [Nat.add_zero, List.length_singleton] at hst
  rw [hset] at hst
  refine ⟨_, ?_, h.upd hi (w' := w.setRow g (c.setIfInBounds o v)) ⟨rfl, rfl, rfl, by simp, fun k _ hk => setRow_other w g k _ (fun e => hk (by simp [Res.fp, e]))⟩ (setRow_heap w g c _ T' _ hg) (by simp [Res.fp])⟩
  simp [Instr.storeAt, Instr.sureAddr, storeVar, hT, hcs, hst]

/-- append to a slice that is held with its row. -/
theorem St.append (h : St w0 X w M) {i : Nat} {t ty e sz by_ : Nat} {z : Value} {va a : Option Addr} {n vc m c : Nat} {xs news : List Value} (E : ElemT P t e sz by_ z)
    (hi : M[i]? = some (.row e sz (.slice va n vc) n xs)) (hs' : Rd w a m c sz news) (h1 : ∀ u ∈ news, u.oneCell' = true) (hb : (n + m) * by_ ≤ 140737488355328) (hm : n + m ≤ maxLen) :
    ∃ va' vc' w', (Builtin.append_ #[t, t] ty #[.slice va n vc, .slice a m c]).run P w = .ok (.slice va' (n + m) vc') w' ∧ St w0 X w' (M.set i (.row e sz (.slice va' (n + m) vc') (n + m) (xs ++ news))) ∧
      (n + m ≤ vc → va' = va ∧ vc' = vc) ∧ n + m ≤ vc' := by
  have hs := hs'.cells
  have hl := hs'.len
  have ha : a = none → c = 0 ∧ m = 0 := fun e => ⟨hs'.nil e, by have := hs'.nil e; have := hs'.le; omega⟩
  obtain ⟨inf, hinf, hz, hsz, hby⟩ := E.inf
  have hown : w.ownsRow 0 e sz (.slice va n vc) n xs := h.holds i _ hi
  have hn : n ≤ vc := by
    rcases hown.2 with ⟨hv, rfl⟩ | ⟨g, cap, cur, hv, _, _, hnc, _⟩
    · omega
    · simp only [Value.slice.injEq] at hv; omega
  cases a with
  | none =>
    obtain ⟨rfl, rfl⟩ := ha rfl
    have hnews : news = [] := List.eq_nil_of_length_eq_zero (by simpa using hl)
    subst hnews
    have hr := run_append_owned_none (P := P) w 0 t ty e inf sz E.ht hinf _ n xs hown
    refine ⟨va, vc, w, by simpa using hr, ?_, fun _ => ⟨rfl, rfl⟩, by omega⟩
    simp only [Nat.add_zero, List.append_nil]
    exact h.upd hi (Chg.refl _ _) hown (fun k hk => .inl hk)
  | some ad =>
    have hnews : ∀ j u, news[j]? = some u → w.cell? (ad.add j) = some u := by
      intro j u hu
      obtain ⟨b, o, he, hc⟩ := hs.at_ hu
      simp only [Option.some.injEq] at he
      subst he
      rw [Addr.add_mid]
      exact hc
    by_cases hroom : n + m ≤ vc
    · by_cases hnil : va = none
      · -- a nil slice has no room: nothing is appended
        subst hnil
        have hv0 : vc = 0 ∧ n = 0 := by
          rcases hown.2 with ⟨hv, rfl⟩ | ⟨g, cap, cur, hv, _⟩
          · simp only [Value.slice.injEq] at hv; omega
          · simp at hv
        have hm0 : m = 0 := by omega
        subst hm0
        have hnw : news = [] := List.eq_nil_of_length_eq_zero (by simpa using hl)
        subst hnw
        obtain ⟨v', w', hr, h2, h3, h4⟩ := run_append_own (P := P) w 0 t ty e inf z sz by_ E.ht hinf hz hsz hby E.zs E.pos _ n xs hown ad 0 c [] (by simp) (by simp) (by simp) (by omega) (by omega) (Nat.zero_le _)
        have hv' : v' = .slice none 0 0 := h4.2 ⟨by rw [hv0.1, hv0.2], rfl⟩
        subst hv'
        refine ⟨none, 0, w', by rw [hv0.2] at hr ⊢; simpa using hr, ?_, fun _ => ⟨rfl, hv0.1.symm⟩, by omega⟩
        have hc := Chg.of_grown h3
        refine h.upd hi (hc.mono (by simp [Res.fp])) ?_ (by simp [Res.fp, Value.ownBlock])
        simp only [hv0.2] at h2 ⊢
        exact h2
      · obtain ⟨g, hg⟩ : ∃ g, va = some ⟨g, 0, none⟩ := by
          rcases hown.2 with ⟨hv, _⟩ | ⟨g, cap, cur, hv, _⟩
          · simp only [Value.slice.injEq] at hv; exact absurd hv.1 hnil
          · simp only [Value.slice.injEq] at hv; exact ⟨g, hv.1⟩
        subst hg
        obtain ⟨w', hr, h2, h3⟩ := run_append_fits (P := P) w 0 t ty e inf sz E.ht hinf hsz g n vc xs hown ad m c news hl hnews h1 hroom
        exact ⟨_, vc, w', hr, h.upd hi ((Chg.of_grown h3).mono (by simp [Res.fp, Value.ownBlock])) h2 (by simp [Res.fp, Value.ownBlock]), fun _ => ⟨rfl, rfl⟩, hroom⟩
    · obtain ⟨v', w', hr, h2, h3, h4, h5⟩ := run_append_own_at (P := P) w 0 t ty e inf z sz by_ E.ht hinf hz hsz hby E.zs E.pos _ n xs hown ad m c news hl hnews h1 hm hb (Nat.zero_le _)
      have hform : ∃ va' vc', v' = .slice va' (n + m) vc' ∧ n + m ≤ vc' := by
        rcases h2.2 with ⟨hv, h0⟩ | ⟨g, cap, cur, hv, _, _, hnc, _⟩
        · exact ⟨none, 0, by rw [hv, h0], by omega⟩
        · exact ⟨_, cap, hv, hnc⟩
      obtain ⟨va', vc', rfl, hle⟩ := hform
      refine ⟨va', vc', w', hr, h.upd hi ((Chg.of_grown h3).mono (by simp [Res.fp])) h2 ?_, fun h => absurd h hroom, hle⟩
      intro k hk
      simp only [Res.fp, Option.mem_toList] at hk ⊢
      rcases h5 with h5 | h5
      · left; rw [← h5]; exact hk
      · right
        rw [h5] at hk
        simp only [Option.some.injEq] at hk
        omega

theorem St.mk0 (h : St w0 X w M) {t e sz by_ : Nat} {z : Value} {kl kc : IntKind} {c : Int} (E : ElemT P t e sz by_ z) (h0 : 0 ≤ c) (hb : (by_ : Int) * c ≤ 281474976710656) (hm : c ≤ 9223372036854775807) :
    ∃ g w', (Instr.makeSlice t (.int kl 0) (.int kc c)).run P w = .ok (.slice (some ⟨g, 0, none⟩) 0 c.toNat) w' ∧ St w0 X w' (M ++ [.row e sz (.slice (some ⟨g, 0, none⟩) 0 c.toNat) 0 []]) := by
  obtain ⟨inf, hinf, hz, hsz, hby⟩ := E.inf
  have hr := run_make (P := P) w t e inf z E.ht hinf hz kl kc 0 c (Int.le_refl _) h0 (by rw [hby]; exact hb) hm
  simp only [Int.toNat_zero] at hr
  refine ⟨_, _, hr, h.add (Chg.alloc _ _) ?_ (by simp [Res.fp, Value.ownBlock])⟩
  refine World.ownsRow_made w _ c.toNat (Nat.zero_le _) (by simp only [maxLen]; omega) ?_
  rw [size_madeCells, hsz]

theorem madeCells_list (z : Value) (n : Nat) : (madeCells #[z] n).toList = List.replicate n z := toList_madeCells_one z n

theorem St.mk0n (h : St w0 X w M) {t e sz by_ : Nat} {z : Value} {kl kc : IntKind} {c : Nat} (E : ElemT P t e sz by_ z) (hb : by_ * c ≤ 281474976710656) (hm : c ≤ 9223372036854775807) :
    ∃ g w', (Instr.makeSlice t (.int kl 0) (.int kc (c : Int))).run P w = .ok (.slice (some ⟨g, 0, none⟩) 0 c) w' ∧ St w0 X w' (M ++ [.row e sz (.slice (some ⟨g, 0, none⟩) 0 c) 0 []]) := by
  have h2 : ((by_ * c : Nat) : Int) ≤ 281474976710656 := by omega
  rw [Int.natCast_mul] at h2
  have := h.mk0 (kl := kl) (kc := kc) (c := (c : Int)) E (by omega) h2 (by omega)
  rwa [Int.toNat_natCast] at this

theorem St.mkN (h : St w0 X w M) {t e by_ : Nat} {z : Value} {kl kc : IntKind} {c : Int} (E : ElemT P t e 1 by_ z) (hz1 : z.cells = #[z]) (h0 : 0 ≤ c) (hb : (by_ : Int) * c ≤ 281474976710656) (hm : c ≤ 9223372036854775807) :
    ∃ g w', (Instr.makeSlice t (.int kl c) (.int kc c)).run P w = .ok (.slice (some ⟨g, 0, none⟩) c.toNat c.toNat) w' ∧ St w0 X w' (M ++ [.row e 1 (.slice (some ⟨g, 0, none⟩) c.toNat c.toNat) c.toNat (List.replicate c.toNat z)]) := by
  obtain ⟨inf, hinf, hz, hsz, hby⟩ := E.inf
  have hr := run_make (P := P) w t e inf z E.ht hinf hz kl kc c c h0 (Int.le_refl _) (by rw [hby]; exact hb) hm
  refine ⟨_, _, hr, h.add (Chg.alloc _ _) ?_ (by simp [Res.fp, Value.ownBlock])⟩
  have := World.ownsRow_lit (base := 0) (e := e) (size := 1) w (madeCells z.cells (c.toNat * inf.size)) c.toNat (Nat.zero_le _) (by simp only [maxLen]; omega) (by rw [size_madeCells, hsz])
  rw [hsz, hz1, madeCells_list, Nat.mul_one] at this
  rw [hsz, hz1, Nat.mul_one]
  exact this

theorem fill_lit : ∀ (vs : List Value) (k : Nat) (cells : Array Value), (∀ v ∈ vs, v.oneCell' = true) → cells.size = k + vs.length →
    Instr.fill (fun i => some (i * 1, 1)) cells ((vs.zipIdx k).map fun p => (p.2, p.1)) = some (cells.toList.take k ++ vs).toArray
  | [], k, cells, _, hs => by
    simp only [List.zipIdx_nil, List.map_nil, Instr.fill, List.append_nil]
    rw [List.take_of_length_le (by simp; simpa using Nat.le_of_eq hs)]
  | v :: vs, k, cells, h1, hs => by
    have hc : v.cells = #[v] := by
      have := h1 v (by simp)
      cases v <;> first | rfl | (simp [Value.oneCell'] at this)
    have hk : k < cells.size := by simp at hs; omega
    simp only [List.zipIdx_cons, List.map_cons, Instr.fill, hc]
    have hn : ¬ (#[v].size ≠ 1 ∨ k * 1 + #[v].size > cells.size) := by simp; omega
    rw [if_neg (by simpa using hn)]
    have hf : (#[v].zipIdx.foldl (fun cs (c, j) => cs.setIfInBounds (k * 1 + j) c) cells) = cells.setIfInBounds k v := by simp
    rw [hf, fill_lit vs (k + 1) (cells.setIfInBounds k v) (fun u hu => h1 u (by simp [hu])) (by simp at hs ⊢; omega)]
    congr 2
    rw [Array.toList_setIfInBounds]
    apply List.ext_getElem?
    intro j
    simp only [List.getElem?_append, List.length_take, List.length_set, Array.length_toList]
    rw [Nat.min_eq_left (by omega), Nat.min_eq_left (by omega)]
    by_cases hj : j < k
    · simp [hj, Nat.lt_succ_of_lt hj, show ¬ k = j by omega]
    · by_cases hj2 : j = k
      · subst hj2; simp [hk]
      · have : ¬ j < k + 1 := by omega
        simp only [hj, this, if_false]
        obtain ⟨d, rfl⟩ : ∃ d, j = k + 1 + d := ⟨j - (k + 1), by omega⟩
        have e1 : k + 1 + d - (k + 1) = d := by omega
        have e2 : k + 1 + d - k = d + 1 := by omega
        rw [e1, e2]
        simp

/-- A slice's literal, each element of one cell. -/
theorem St.lit (h : St w0 X w M) {t e by_ : Nat} {z : Value} (E : ElemT P t e 1 by_ z) (vs : List Value) (h1 : ∀ v ∈ vs, v.oneCell' = true) (hb : vs.length ≤ 16777216) :
    ∃ g w', (Instr.buildSlice t vs.length ((vs.zipIdx 0).map fun p => (p.2, p.1)).toArray).run P w = .ok (.slice (some ⟨g, 0, none⟩) vs.length vs.length) w' ∧
      St w0 X w' (M ++ [.row e 1 (.slice (some ⟨g, 0, none⟩) vs.length vs.length) vs.length vs]) := by
  obtain ⟨inf, hinf, hz, hsz, hby⟩ := E.inf
  have hlt : ¬ vs.length > 2 ^ 24 := by omega
  have hrow : (w.alloc (.cells vs.toArray e)).ownsRow 0 e 1 (.slice (some ⟨w.heap.size, 0, none⟩) vs.length vs.length) vs.length vs := by
    have := World.ownsRow_lit (base := 0) (e := e) (size := 1) w vs.toArray vs.length (Nat.zero_le _) (by simp only [maxLen]; omega) (by simp)
    simpa using this
  refine ⟨w.heap.size, _, ?_, h.add (Chg.alloc _ (.cells vs.toArray e)) hrow (by simp [Res.fp, Value.ownBlock])⟩
  have hf2 := fill_lit vs 0 ((Array.range vs.length).map fun i => z.cells[i % z.cells.size]!) h1 (by simp)
  simp only [List.take_zero, List.nil_append] at hf2
  by_cases h0 : vs.length = 0
  · have : vs = [] := List.eq_nil_of_length_eq_zero h0
    subst this
    simp [Instr.buildSlice, run_underlying E.ht, sizeOf, typeInfo, hinf, Instr.fill, newRow, Array.range_zero']
  · simp only [Instr.buildSlice, Sem.run_bind, run_underlying E.ht, Result.andThen_ok, sizeOf, typeInfo, run_program, hinf, hsz, Sem.run_pure, Nat.mul_one, h0, if_false, zeroValue, hz, hlt, newRow]
    have hpl : (fun i => some (i * 1, 1) : Nat → Option (Nat × Nat)) = fun i => some (i, 1) := by funext i; simp
    rw [hpl] at hf2
    rw [hf2]
    simp

/-- An element of bytes, read by its index. -/
theorem ixB {T : TypeId} {a : Option Addr} {n : Nat} {l : List UInt8} {j : Int} {K : Nat → Nat → Int → Prop} (hT : (isAgg T).run P w = .ok false w) (hc : Cells w a (bv l)) (hn : l.length = n) (h0 : 0 ≤ j) (h1 : j < (n : Int))
    (hK : ∀ b o, a = some ⟨b, o, none⟩ → K b o ((l.getD j.toNat 0).toNat : Int)) :
    ∃ b o, a = some ⟨b, o, none⟩ ∧ 0 ≤ j ∧ j < (n : Int) ∧ ∃ t : Int, (Instr.loadAt T (.pointer (some ⟨b, o + Int.toNat j * 1, none⟩))).run P w = .ok (.int .u8 t) w ∧ K b o t := by
  have hlt : j.toNat < l.length := by omega
  have hv : (bv l)[j.toNat]? = some (.int .u8 ((l.getD j.toNat 0).toNat : Int)) := by
    rw [bv_get, List.getElem?_eq_getElem hlt]; simp [List.getD, hlt]
  obtain ⟨b, o, ha, hcell⟩ := hc.at_ hv
  exact ⟨b, o, ha, h0, h1, _, by rw [Nat.mul_one]; exact ld1 hT hcell, hK b o ha⟩

theorem loadCells_cells {b o : Nat} {cs : List Value} (h : w.rangeAt b o cs) : (loadCells ⟨b, o, none⟩ cs.length).run P w = .ok cs.toArray w :=
  run_loadCells_list (P := P) w ⟨b, o, none⟩ cs (fun j v hv => by rw [Addr.add_mid]; exact h j v hv)

theorem foldl_push (l : List UInt8) : (l.map fun b => (b.toNat : Int)).foldl (fun r n => r.push (UInt8.ofNat n.toNat)) ByteArray.empty = ⟨l.toArray⟩ := by
  rw [foldl_push_bytes]
  have e : ByteArray.empty.data = #[] := rfl
  rw [e, Array.empty_append]
  simp [List.map_map, Function.comp_def]

/-- string(b). -/
theorem toStr {S D e : TypeId} {a : Option Addr} {c : Nat} {n : Nat} {l : List UInt8} (hS : P.underlying S = some (.slice e)) (he : P.underlying e = some (.int .u8)) (hD : P.underlying D = some .string) (hc : Cells w a (bv l)) (hn : l.length = n) :
    (convert S D (.slice a n c)).run P w = .ok (.string ⟨l.toArray⟩) w := by
  subst hn
  have hconv : (convert S D (.slice a l.length c)).run P w = (Conv.bytesToString (.slice a l.length c)).run P w := by
    simp [convert, run_underlying hS, run_underlying hD, run_underlying he]
  rw [hconv]
  rcases hc with h0 | ⟨b, o, rfl, hr⟩
  · have hl : l = [] := by cases l with
      | nil => rfl
      | cons x y => simp [bv] at h0
    subst hl
    cases a with
    | none => exact show _ = Result.ok (Value.string ByteArray.empty) w by simp [Conv.bytesToString]
    | some ad =>
      have := run_bytesToString (P := P) w ad 0 c [] (by simp [loadCells, loadCellsFrom])
      exact this
  · have hb : bv l = (l.map fun b => (b.toNat : Int)).map (Value.int .u8) := by simp [bv]
    have h1 := loadCells_cells (P := P) hr
    rw [bv_length, hb] at h1
    have := run_bytesToString (P := P) w ⟨b, o, none⟩ l.length c _ h1
    rw [foldl_push] at this
    exact this

/-- A store into an element (of one cell) of a row that is held. -/
theorem St.stRow (h : St w0 X w M) {i g n c j : Nat} {e T : TypeId} {xs : List Value} {v : Value} (hi : M[i]? = some (.row e 1 (.slice (some ⟨g, 0, none⟩) n c) n xs)) (hT : (sizeOf T).run P w = .ok 1 w) (hj : j < n) (hv : v.oneCell' = true) :
    ∃ w', (Instr.storeAt T (.pointer (some ⟨g, j, none⟩)) v).run P w = .ok () w' ∧ St w0 X w' (M.set i (.row e 1 (.slice (some ⟨g, 0, none⟩) n c) n (xs.set j v))) := by
  have hown : w.ownsRow 0 e 1 (.slice (some ⟨g, 0, none⟩) n c) n xs := h.holds i _ hi
  obtain ⟨hlen, hrow⟩ := hown
  rcases hrow with ⟨hv0, _⟩ | ⟨g', cap, cur, hv0, hb, hg, hnc, hcm, hcs, ht⟩
  · simp at hv0
  · simp only [Value.slice.injEq, Option.some.injEq, Addr.mk.injEq, and_true, true_and] at hv0
    obtain ⟨rfl, rfl⟩ := hv0
    have hcs' : v.cells = #[v] := by cases v <;> first | rfl | (simp [Value.oneCell'] at hv)
    have hst := run_storeCells_at P g j e [v] 0 cur w hg (by simp; omega) (by simpa using hv)
    have hset : (cur.toList.take j ++ [v] ++ cur.toList.drop (j + 1)).toArray = cur.setIfInBounds j v := by
      apply Array.ext'
      rw [Array.toList_setIfInBounds, List.set_eq_take_append_cons_drop]
      simp [show j < cur.size by omega]
    simp only [Nat.add_zero, List.length_singleton] at hst
    rw [hset] at hst
    refine ⟨_, ?_, h.upd hi (w' := w.setRow g (cur.setIfInBounds j v)) ⟨rfl, rfl, rfl, by simp, fun k _ hk => setRow_other w g k _ (fun e => hk (by simp [Res.fp, Value.ownBlock, e]))⟩ ?_ (by simp [Res.fp, Value.ownBlock])⟩
    · simp [Instr.storeAt, Instr.sureAddr, storeVar, hT, hcs', hst]
    · refine ⟨by simpa using hlen, .inr ⟨g, c, _, rfl, hb, setRow_heap w g cur _ e _ hg, hnc, hcm, by simpa using hcs, ?_⟩⟩
      rw [Array.toList_setIfInBounds, ← ht, List.take_set]

end
end Go.Proofs.Ytdcgapabphjgbaa.Sx
