/- Contracts, several texts in one (conditions: those that each theorem names). -/
import Derived.Test.YtmdandkoajocpaaGreatDoorSxRun
import Derived.Deep.MidRow
import Derived.Laws.BytesArg
import Derived.Laws.MakeOwn
import Derived.Laws.OwnMore
import Derived.Maps.AppendAt
namespace Go.Proofs.YtmdandkoajocpaaGreatDoor
namespace Sx
open Go
set_option maxRecDepth 8000

def bv (l : List UInt8) : List Value := l.map fun b => .int .u8 (b.toNat : Int)
@[simp] theorem bv_length (l : List UInt8) : (bv l).length = l.length := by simp [bv]
@[simp] theorem bv_nil : bv [] = [] := rfl
@[simp] theorem bv_append (a b : List UInt8) : bv (a ++ b) = bv a ++ bv b := by simp [bv]
theorem bv_get (l : List UInt8) (i : Nat) : (bv l)[i]? = l[i]?.map fun b => .int .u8 (b.toNat : Int) := by simp [bv]
theorem bv_one (l : List UInt8) : ∀ u ∈ bv l, u.oneCell' = true := by
  intro u hu; simp only [bv, List.mem_map] at hu; obtain ⟨b, _, rfl⟩ := hu; rfl
theorem bv_drop (l : List UInt8) (n : Nat) : bv (l.drop n) = (bv l).drop n := by simp [bv]
theorem bv_take (l : List UInt8) (n : Nat) : bv (l.take n) = (bv l).take n := by simp [bv]

/-- These cells lie behind a slice's head. -/
def Cells (w : World) (a : Option Addr) (cs : List Value) : Prop := cs = [] ∨ ∃ b o, a = some ⟨b, o, none⟩ ∧ w.rangeAt b o cs

theorem Cells.nil (w : World) (a : Option Addr) : Cells w a [] := .inl rfl

theorem Cells.at_ {w : World} {a : Option Addr} {cs : List Value} (h : Cells w a cs) {i : Nat} {v : Value} (hv : cs[i]? = some v) : ∃ b o, a = some ⟨b, o, none⟩ ∧ w.cell? ⟨b, o + i, none⟩ = some v := by
  rcases h with rfl | ⟨b, o, ha, hr⟩
  · simp at hv
  · exact ⟨b, o, ha, hr i v hv⟩

theorem Cells.of_none {w : World} {cs : List Value} (h : Cells w none cs) : cs = [] := by
  rcases h with h | ⟨b, o, e, _⟩
  · exact h
  · cases e

/-- A slice that may be read: its cells. -/
structure Rd (w : World) (a : Option Addr) (n c : Nat) (sz : Nat) (cs : List Value) : Prop where
  cells : Cells w a cs
  len : cs.length = n * sz
  le : n ≤ c
  nil : a = none → c = 0

abbrev RdB (w : World) (a : Option Addr) (n c : Nat) (l : List UInt8) : Prop := Rd w a n c 1 (bv l)

theorem Rd.lenB {w : World} {a : Option Addr} {n c : Nat} {l : List UInt8} (h : RdB w a n c l) : l.length = n := by have := h.len; simpa using this

/-- The world has changed at most in the blocks X; new blocks may have come. -/
structure Chg (X : List Nat) (w w' : World) : Prop where
  os : w'.os = w.os
  tape : w'.tape = w.tape
  output : w'.output = w.output
  size : w.heap.size ≤ w'.heap.size
  block : ∀ k, k < w.heap.size → k ∉ X → w'.heap[k]? = w.heap[k]?

theorem Chg.refl (X : List Nat) (w : World) : Chg X w w := ⟨rfl, rfl, rfl, Nat.le_refl _, fun _ _ _ => rfl⟩
theorem Chg.trans {X : List Nat} {a b c : World} (h : Chg X a b) (k : Chg X b c) : Chg X a c :=
  ⟨k.os.trans h.os, k.tape.trans h.tape, k.output.trans h.output, Nat.le_trans h.size k.size, fun i hi hx => (k.block i (Nat.lt_of_lt_of_le hi h.size) hx).trans (h.block i hi hx)⟩
theorem Chg.mono {X Y : List Nat} {a b : World} (h : Chg X a b) (hs : ∀ k ∈ X, k ∈ Y) : Chg Y a b := ⟨h.os, h.tape, h.output, h.size, fun k hk hy => h.block k hk fun hx => hy (hs k hx)⟩
/-- Blocks that came in between do not count. -/
theorem Chg.trans' {X Y : List Nat} {a b c : World} (h : Chg X a b) (k : Chg Y b c) (hY : ∀ i ∈ Y, a.heap.size ≤ i ∨ i ∈ X) : Chg X a c :=
  ⟨k.os.trans h.os, k.tape.trans h.tape, k.output.trans h.output, Nat.le_trans h.size k.size, fun i hi hx => (k.block i (Nat.lt_of_lt_of_le hi h.size) fun hy => by
    rcases hY i hy with h1 | h1
    · omega
    · exact hx h1).trans (h.block i hi hx)⟩
theorem Chg.drew (X : List Nat) (w : World) : Chg X w w.drew := ⟨rfl, rfl, rfl, Nat.le_refl _, fun _ _ _ => rfl⟩
theorem Chg.alloc (w : World) (o : Obj) : Chg [] w (w.alloc o) := ⟨rfl, rfl, rfl, by simp, fun k hk _ => heap_alloc_old w o hk⟩
theorem Chg.below {w w' : World} (h : Chg [] w w') : RowKit.Below w.heap.size w w' := ⟨h.os, h.tape, h.output, h.size, fun k hk => h.block k hk (by simp)⟩
theorem Chg.of_below {w w' : World} (h : RowKit.Below w.heap.size w w') : Chg [] w w' := ⟨h.os, h.tape, h.output, h.size, fun k hk _ => h.block k hk⟩
theorem Chg.of_grown {w w' : World} {r : Option Nat} (h : w.grownBy w' r) : Chg r.toList w w' :=
  ⟨h.os, h.tape, h.output, h.size, fun k hk hx => h.block k hk fun e => hx (by simp [← e])⟩

theorem Cells.keep {w w' : World} {X : List Nat} {a : Option Addr} {cs : List Value} (h : Cells w a cs) (hc : Chg X w w') (hX : ∀ ad, a = some ad → ad.block ∉ X) : Cells w' a cs := by
  rcases h with rfl | ⟨b, o, ha, hr⟩
  · exact .inl rfl
  · refine .inr ⟨b, o, ha, fun j v hv => ?_⟩
    have h1 := hr j v hv
    rw [← h1]
    exact World.cell?_of_block (hc.block b (World.block_lt_of_cell? w _ h1) (hX _ ha))

theorem Cells.keep0 {w w' : World} {a : Option Addr} {cs : List Value} (h : Cells w a cs) (hc : Chg [] w w') : Cells w' a cs := h.keep hc (by simp)

theorem Rd.keep {w w' : World} {X : List Nat} {a : Option Addr} {n c sz : Nat} {cs : List Value} (h : Rd w a n c sz cs) (hc : Chg X w w') (hX : ∀ ad, a = some ad → ad.block ∉ X) : Rd w' a n c sz cs := ⟨h.cells.keep hc hX, h.len, h.le, h.nil⟩
theorem Rd.keep0 {w w' : World} {a : Option Addr} {n c sz : Nat} {cs : List Value} (h : Rd w a n c sz cs) (hc : Chg [] w w') : Rd w' a n c sz cs := h.keep hc (by simp)

/-- Something that a function holds: a block whole, or a slice with its own row (nil too). -/
inductive Res where
  | blk (g : Nat) (o : Obj)
  | row (e : TypeId) (sz : Nat) (v : Value) (n : Nat) (xs : List Value)

def Res.holds (w : World) : Res → Prop
  | .blk g o => w.heap[g]? = some o
  | .row e sz v n xs => w.ownsRow 0 e sz v n xs

def Res.fp : Res → List Nat
  | .blk g _ => [g]
  | .row _ _ v _ _ => v.ownBlock.toList

/-- Nothing: what is held no more. -/
def Res.emp : Res := .row 0 0 (.slice none 0 0) 0 []

theorem Res.lt {w : World} : ∀ {r : Res}, r.holds w → ∀ k ∈ r.fp, k < w.heap.size
  | .blk g o, h, k, hk => by
    simp only [Res.fp, List.mem_singleton] at hk
    subst hk
    exact (Array.getElem?_eq_some_iff.1 h).1
  | .row e sz v n xs, h, k, hk => by
    simp only [Res.fp, Option.mem_toList] at hk
    exact (World.ownsRow.lt h k (by simpa using hk)).2

theorem Res.kept {w w' : World} : ∀ {r : Res}, r.holds w → (∀ k ∈ r.fp, w'.heap[k]? = w.heap[k]?) → r.holds w'
  | .blk g o, h, hk => by rw [Res.holds, hk g (by simp [Res.fp])]; exact h
  | .row e sz v n xs, h, hk => by
    obtain ⟨h1, h2⟩ := h
    refine ⟨h1, ?_⟩
    rcases h2 with h2 | ⟨g, cap, cur, rfl, hb, hg, r⟩
    · exact .inl h2
    · exact .inr ⟨g, cap, cur, rfl, hb, by rw [hk g (by simp [Res.fp, Value.ownBlock])]; exact hg, r⟩

/-- What a function that began in w0 holds in w; of what stood in w0 only the blocks X may have changed. -/
structure St (w0 : World) (X : List Nat) (w : World) (M : List Res) : Prop where
  chg : Chg X w0 w
  holds : ∀ (i : Nat) (r : Res), M[i]? = some r → r.holds w
  own : ∀ (i : Nat) (r : Res), M[i]? = some r → ∀ k ∈ r.fp, w0.heap.size ≤ k ∨ k ∈ X
  apart : ∀ (i j : Nat) (r s : Res), i ≠ j → M[i]? = some r → M[j]? = some s → ∀ k ∈ r.fp, k ∉ s.fp

section
variable {w0 w w' : World} {X : List Nat} {M : List Res}

theorem St.start (w : World) : St w [] w [] := ⟨Chg.refl _ _, by simp, by simp, by simp⟩

/-- A world that differs from w in blocks of one thing held alone, or in none of them. -/
theorem St.upd (h : St w0 X w M) {i : Nat} {r r' : Res} (hi : M[i]? = some r) (hc : Chg r.fp w w') (hr' : r'.holds w') (hfp : ∀ k ∈ r'.fp, k ∈ r.fp ∨ w.heap.size ≤ k) : St w0 X w' (M.set i r') := by
  have hlt : i < M.length := (List.getElem?_eq_some_iff.1 hi).1
  have get : ∀ j s, (M.set i r')[j]? = some s → (j = i ∧ s = r') ∨ (j ≠ i ∧ M[j]? = some s) := by
    intro j s hj
    by_cases e : i = j
    · subst e
      rw [List.getElem?_set_self hlt] at hj
      exact .inl ⟨rfl, (Option.some.inj hj).symm⟩
    · rw [List.getElem?_set_ne e] at hj
      exact .inr ⟨fun h => e h.symm, hj⟩
  refine ⟨?_, ?_, ?_, ?_⟩
  · exact h.chg.trans' hc (fun k hk => h.own i r hi k hk)
  · intro j s hj
    rcases get j s hj with ⟨_, h2⟩ | ⟨hne, hj2⟩
    · rw [h2]; exact hr'
    · exact Res.kept (h.holds j s hj2) fun k hk => hc.block k (Res.lt (h.holds j s hj2) k hk) (fun hx => h.apart j i s r hne hj2 hi k hk hx)
  · intro j s hj k hk
    rcases get j s hj with ⟨_, h2⟩ | ⟨hne, hj2⟩
    · rw [h2] at hk
      rcases hfp k hk with h1 | h1
      · exact h.own i r hi k h1
      · exact .inl (Nat.le_trans h.chg.size h1)
    · exact h.own j s hj2 k hk
  · intro j l s t hjl hj hl k hk hk'
    rcases get j s hj with ⟨ej, es⟩ | ⟨hne, hj2⟩
    · rcases get l t hl with ⟨el, _⟩ | ⟨hne', hl2⟩
      · exact hjl (ej.trans el.symm)
      · rw [es] at hk
        rcases hfp k hk with h1 | h1
        · exact h.apart i l r t (fun e => hne' e.symm) hi hl2 k h1 hk'
        · have := Res.lt (h.holds l t hl2) k hk'; omega
    · rcases get l t hl with ⟨el, et⟩ | ⟨hne', hl2⟩
      · rw [et] at hk'
        rcases hfp k hk' with h1 | h1
        · exact h.apart j i s r hne hj2 hi k hk h1
        · have := Res.lt (h.holds j s hj2) k hk; omega
      · exact h.apart j l s t hjl hj2 hl2 k hk hk'

theorem St.add (h : St w0 X w M) {r : Res} (hc : Chg [] w w') (hr : r.holds w') (hfp : ∀ k ∈ r.fp, w.heap.size ≤ k) : St w0 X w' (M ++ [r]) := by
  have get : ∀ j s, (M ++ [r])[j]? = some s → (j = M.length ∧ s = r) ∨ (j ≠ M.length ∧ M[j]? = some s) := by
    intro j s hj
    by_cases hl : j < M.length
    · rw [List.getElem?_append_left hl] at hj; exact .inr ⟨by omega, hj⟩
    · rw [List.getElem?_append_right (by omega)] at hj
      have : j - M.length = 0 := by
        rcases Nat.eq_zero_or_pos (j - M.length) with h | h
        · exact h
        · rw [List.getElem?_eq_none (by simp; omega)] at hj; cases hj
      rw [this] at hj
      simp at hj
      exact .inl ⟨by omega, hj.symm⟩
  refine ⟨h.chg.trans' hc (by simp), ?_, ?_, ?_⟩
  · intro j s hj
    rcases get j s hj with ⟨_, h2⟩ | ⟨_, hj2⟩
    · rw [h2]; exact hr
    · exact Res.kept (h.holds j s hj2) fun k hk => hc.block k (Res.lt (h.holds j s hj2) k hk) (by simp)
  · intro j s hj k hk
    rcases get j s hj with ⟨_, h2⟩ | ⟨_, hj2⟩
    · rw [h2] at hk; exact .inl (Nat.le_trans h.chg.size (hfp k hk))
    · exact h.own j s hj2 k hk
  · intro j l s t hjl hj hl k hk hk'
    rcases get j s hj with ⟨ej, es⟩ | ⟨_, hj2⟩
    · rcases get l t hl with ⟨el, _⟩ | ⟨_, hl2⟩
      · exact hjl (ej.trans el.symm)
      · rw [es] at hk; have := Res.lt (h.holds l t hl2) k hk'; have := hfp k hk; omega
    · rcases get l t hl with ⟨el, et⟩ | ⟨_, hl2⟩
      · rw [et] at hk'; have := Res.lt (h.holds j s hj2) k hk; have := hfp k hk'; omega
      · exact h.apart j l s t hjl hj2 hl2 k hk hk'

/-- A world in which nothing that stood has changed. -/
theorem St.same (h : St w0 X w M) (hc : Chg [] w w') : St w0 X w' M :=
  ⟨h.chg.trans' hc (by simp), fun j s hj => Res.kept (h.holds j s hj) fun k hk => hc.block k (Res.lt (h.holds j s hj) k hk) (by simp), h.own, h.apart⟩

theorem St.drew (h : St w0 X w M) : St w0 X w.drew M := h.same (Chg.drew _ _)

theorem Res.emp_holds (w : World) : Res.emp.holds w := World.ownsRow_nil w 0 0 0

/-- A nil slice to append to. -/
theorem St.addNil (h : St w0 X w M) (e : TypeId) (sz : Nat) : St w0 X w (M ++ [.row e sz (.slice none 0 0) 0 []]) :=
  h.add (Chg.refl _ _) (World.ownsRow_nil _ _ _ _) (by simp [Res.fp, Value.ownBlock])

/-- One thing is held no more. -/
theorem St.free (h : St w0 X w M) (i : Nat) (hi : i < M.length) : St w0 X w (M.set i Res.emp) :=
  h.upd (r := M[i]) (by simp [hi]) (Chg.refl _ _) (Res.emp_holds w) (by simp [Res.emp, Res.fp, Value.ownBlock])

/-- The last thing is held no more. -/
theorem St.pop {r : Res} (h : St w0 X w (M ++ [r])) : St w0 X w M := by
  have key : ∀ j s, M[j]? = some s → (M ++ [r])[j]? = some s := fun j s hj => by
    rw [List.getElem?_append_left (List.getElem?_eq_some_iff.1 hj).1]; exact hj
  exact ⟨h.chg, fun j s hj => h.holds j s (key j s hj), fun j s hj => h.own j s (key j s hj), fun j l s t hjl hj hl => h.apart j l s t hjl (key j s hj) (key l t hl)⟩

theorem St.cells0 (h : St w0 X w M) {a : Option Addr} {cs : List Value} (hc : Cells w0 a cs) (hX : ∀ ad, a = some ad → ad.block ∉ X) : Cells w a cs := hc.keep h.chg hX

theorem ownsRow_cells {e : TypeId} {sz : Nat} {a : Option Addr} {n c m : Nat} {xs : List Value} (h : w.ownsRow 0 e sz (.slice a n c) m xs) : Cells w a xs := by
  rcases h.2 with ⟨hv, hn⟩ | ⟨g, cap, cur, hv, _⟩
  · have : xs = [] := List.eq_nil_of_length_eq_zero (by rw [h.1, hn]; simp)
    exact .inl this
  · simp only [Value.slice.injEq] at hv
    obtain ⟨rfl, _, _⟩ := hv
    refine .inr ⟨g, 0, rfl, fun j v hj => ?_⟩
    have := World.ownsRow.cells h (g := g) rfl j v hj
    rw [Addr.add_mid] at this
    exact this

theorem St.cells (h : St w0 X w M) {i : Nat} {e : TypeId} {sz : Nat} {a : Option Addr} {n c m : Nat} {xs : List Value} (hi : M[i]? = some (.row e sz (.slice a n c) m xs)) : Cells w a xs := ownsRow_cells (h.holds i _ hi)

theorem ownsRow_rd {e : TypeId} {sz : Nat} {a : Option Addr} {n c : Nat} {xs : List Value} (h : w.ownsRow 0 e sz (.slice a n c) n xs) : Rd w a n c sz xs := by
  refine ⟨ownsRow_cells h, h.1, ?_, ?_⟩
  · rcases h.2 with ⟨hv, hn⟩ | ⟨g, cap, cur, hv, _, _, hnc, _⟩
    · omega
    · simp only [Value.slice.injEq] at hv; omega
  · intro e
    rcases h.2 with ⟨hv, hn⟩ | ⟨g, cap, cur, hv, _, _, hnc, _⟩
    · simp only [Value.slice.injEq] at hv; exact hv.2.2
    · subst e; simp at hv

theorem St.rd (h : St w0 X w M) {i : Nat} {e : TypeId} {sz : Nat} {a : Option Addr} {n c : Nat} {xs : List Value} (hi : M[i]? = some (.row e sz (.slice a n c) n xs)) : Rd w a n c sz xs := ownsRow_rd (h.holds i _ hi)
theorem St.rd0 (h : St w0 X w M) {a : Option Addr} {n c sz : Nat} {cs : List Value} (hr : Rd w0 a n c sz cs) (hX : ∀ ad, a = some ad → ad.block ∉ X) : Rd w a n c sz cs := hr.keep h.chg hX
theorem St.rd1 (h : St w0 [] w M) {a : Option Addr} {n c sz : Nat} {cs : List Value} (hr : Rd w0 a n c sz cs) : Rd w a n c sz cs := hr.keep0 h.chg

theorem cells_blk {g o n : Nat} {c : Array Value} {T : TypeId} {fr : Nat × Nat} (h : w.heap[g]? = some (.cells c T fr)) : Cells w (some ⟨g, o, none⟩) ((c.toList.drop o).take n) := by
  refine .inr ⟨g, o, rfl, fun j v hj => ?_⟩
  rw [cell_of_row w g _ c T fr h]
  rw [List.getElem?_take] at hj
  split at hj
  · rw [List.getElem?_drop] at hj; simpa using hj
  · cases hj

end

/-- The type of a slice and of its elements. -/
structure ElemT (P : Program) (t e sz by_ : Nat) (z : Value) : Prop where
  ht : P.underlying t = some (.slice e)
  inf : ∃ i, P.info? e = some i ∧ i.zero = some z ∧ i.size = sz ∧ i.bytes = by_
  zs : z.cells.size = sz
  pos : 0 < sz

section
variable {P : Program} {w0 w : World} {X : List Nat} {M : List Res}

theorem St.box (h : St w0 X w M) (T : TypeId) (v : Value) : ∃ g w', (Instr.box T v).run P w = .ok (.pointer (some ⟨g, 0, none⟩)) w' ∧ St w0 X w' (M ++ [.blk g (.cells v.cells T)]) := by
  refine ⟨w.heap.size, w.alloc (.cells v.cells T), by simp [Instr.box, newVar, newRow], h.add (Chg.alloc _ _) (heap_alloc_new w _) (by simp [Res.fp])⟩

theorem St.zero (h : St w0 X w M) {T : TypeId} {z : Value} (hz : ∀ w, (zeroValue T).run P w = .ok z w) : ∃ g w', (Instr.alloc T true (.tuple #[])).run P w = .ok (.pointer (some ⟨g, 0, none⟩)) w' ∧ St w0 X w' (M ++ [.blk g (.cells z.cells T)]) := by
  refine ⟨w.heap.size, w.alloc (.cells z.cells T), by simp [Instr.alloc, hz, newVar, newRow], h.add (Chg.alloc _ _) (heap_alloc_new w _) (by simp [Res.fp])⟩

theorem ld1 {T : TypeId} {b o : Nat} {v : Value} (hT : (isAgg T).run P w = .ok false w) (hc : w.cell? ⟨b, o, none⟩ = some v) : (Instr.loadAt T (.pointer (some ⟨b, o, none⟩))).run P w = .ok v w := by
  simp [Instr.loadAt, Instr.sureAddr, loadVar, hT, load, Sem.run, hc]

theorem St.ld (h : St w0 X w M) {i g o : Nat} {c : Array Value} {T' T : TypeId} {fr : Nat × Nat} {v : Value} (hi : M[i]? = some (.blk g (.cells c T' fr))) (hT : (isAgg T).run P w = .ok false w) (hv : c[o]? = some v) :
    (Instr.loadAt T (.pointer (some ⟨g, o, none⟩))).run P w = .ok v w :=
  ld1 hT (by rw [cell_of_row w g o c T' fr (h.holds i _ hi)]; exact hv)

/-- A store of one cell into a block that is held whole. -/
theorem St.st (h : St w0 X w M) {i g o : Nat} {c : Array Value} {T' T : TypeId} {v : Value} (hi : M[i]? = some (.blk g (.cells c T' (0, 0)))) (hT : (sizeOf T).run P w = .ok 1 w) (ho : o < c.size) (hv : v.oneCell' = true) :
    ∃ w', (Instr.storeAt T (.pointer (some ⟨g, o, none⟩)) v).run P w = .ok () w' ∧ St w0 X w' (M.set i (.blk g (.cells (c.setIfInBounds o v) T' (0, 0)))) := by
  have hg := h.holds i _ hi
  have hcs : v.cells = #[v] := by cases v <;> first | rfl | (simp [Value.oneCell'] at hv)
  have hst := run_storeCells_at P g o T' [v] 0 c w hg (by simp; omega) (by simpa using hv)
  have hset : (c.toList.take o ++ [v] ++ c.toList.drop (o + 1)).toArray = c.setIfInBounds o v := by
    apply Array.ext'
    rw [Array.toList_setIfInBounds, List.set_eq_take_append_cons_drop]
    simp [ho]
  simp only [Nat.add_zero, List.length_singleton] at hst
  rw [hset] at hst
  refine ⟨_, ?_, h.upd hi (w' := w.setRow g (c.setIfInBounds o v)) ⟨rfl, rfl, rfl, by simp, fun k _ hk => setRow_other w g k _ (fun e => hk (by simp [Res.fp, e]))⟩ (setRow_heap w g c _ T' _ hg) (by simp [Res.fp])⟩
  simp [Instr.storeAt, Instr.sureAddr, storeVar, hT, hcs, hst]

/-- append to a slice that is held with its row. -/
theorem St.append (h : St w0 X w M) {i : Nat} {t ty e sz by_ : Nat} {z : Value} {va a : Option Addr} {n vc m c : Nat} {xs news : List Value} (E : ElemT P t e sz by_ z)
    (hi : M[i]? = some (.row e sz (.slice va n vc) n xs)) (hs' : Rd w a m c sz news) (h1 : ∀ u ∈ news, u.oneCell' = true) (hb : (n + m) * by_ ≤ 140737488355328) (hm : n + m ≤ maxLen) :
    ∃ va' vc' w', (Builtin.append_ #[t, t] ty #[.slice va n vc, .slice a m c]).run P w = .ok (.slice va' (n + m) vc') w' ∧ St w0 X w' (M.set i (.row e sz (.slice va' (n + m) vc') (n + m) (xs ++ news))) ∧
      (n + m ≤ vc → va' = va ∧ vc' = vc) ∧ n + m ≤ vc' := by
  have hs := hs'.cells
  have hl := hs'.len
  have ha : a = none → c = 0 ∧ m = 0 := fun e => ⟨hs'.nil e, by have := hs'.nil e; have := hs'.le; omega⟩
  obtain ⟨inf, hinf, hz, hsz, hby⟩ := E.inf
  have hown : w.ownsRow 0 e sz (.slice va n vc) n xs := h.holds i _ hi
  have hn : n ≤ vc := by
    rcases hown.2 with ⟨hv, rfl⟩ | ⟨g, cap, cur, hv, _, _, hnc, _⟩
    · omega
    · simp only [Value.slice.injEq] at hv; omega
  cases a with
  | none =>
    obtain ⟨rfl, rfl⟩ := ha rfl
    have hnews : news = [] := List.eq_nil_of_length_eq_zero (by simpa using hl)
    subst hnews
    have hr := run_append_owned_none (P := P) w 0 t ty e inf sz E.ht hinf _ n xs hown
    refine ⟨va, vc, w, by simpa using hr, ?_, fun _ => ⟨rfl, rfl⟩, by omega⟩
    simp only [Nat.add_zero, List.append_nil]
    exact h.upd hi (Chg.refl _ _) hown (fun k hk => .inl hk)
  | some ad =>
    have hnews : ∀ j u, news[j]? = some u → w.cell? (ad.add j) = some u := by
      intro j u hu
      obtain ⟨b, o, he, hc⟩ := hs.at_ hu
      simp only [Option.some.injEq] at he
      subst he
      rw [Addr.add_mid]
      exact hc
    by_cases hroom : n + m ≤ vc
    · by_cases hnil : va = none
      · -- a nil slice has no room: nothing is appended
        subst hnil
        have hv0 : vc = 0 ∧ n = 0 := by
          rcases hown.2 with ⟨hv, rfl⟩ | ⟨g, cap, cur, hv, _⟩
          · simp only [Value.slice.injEq] at hv; omega
          · simp at hv
        have hm0 : m = 0 := by omega
        subst hm0
        have hnw : news = [] := List.eq_nil_of_length_eq_zero (by simpa using hl)
        subst hnw
        obtain ⟨v', w', hr, h2, h3, h4⟩ := run_append_own (P := P) w 0 t ty e inf z sz by_ E.ht hinf hz hsz hby E.zs E.pos _ n xs hown ad 0 c [] (by simp) (by simp) (by simp) (by omega) (by omega) (Nat.zero_le _)
        have hv' : v' = .slice none 0 0 := h4.2 ⟨by rw [hv0.1, hv0.2], rfl⟩
        subst hv'
        refine ⟨none, 0, w', by rw [hv0.2] at hr ⊢; simpa using hr, ?_, fun _ => ⟨rfl, hv0.1.symm⟩, by omega⟩
        have hc := Chg.of_grown h3
        refine h.upd hi (hc.mono (by simp [Res.fp])) ?_ (by simp [Res.fp, Value.ownBlock])
        simp only [hv0.2] at h2 ⊢
        exact h2
      · obtain ⟨g, hg⟩ : ∃ g, va = some ⟨g, 0, none⟩ := by
          rcases hown.2 with ⟨hv, _⟩ | ⟨g, cap, cur, hv, _⟩
          · simp only [Value.slice.injEq] at hv; exact absurd hv.1 hnil
          · simp only [Value.slice.injEq] at hv; exact ⟨g, hv.1⟩
        subst hg
        obtain ⟨w', hr, h2, h3⟩ := run_append_fits (P := P) w 0 t ty e inf sz E.ht hinf hsz g n vc xs hown ad m c news hl hnews h1 hroom
        exact ⟨_, vc, w', hr, h.upd hi ((Chg.of_grown h3).mono (by simp [Res.fp, Value.ownBlock])) h2 (by simp [Res.fp, Value.ownBlock]), fun _ => ⟨rfl, rfl⟩, hroom⟩
    · obtain ⟨v', w', hr, h2, h3, h4, h5⟩ := run_append_own_at (P := P) w 0 t ty e inf z sz by_ E.ht hinf hz hsz hby E.zs E.pos _ n xs hown ad m c news hl hnews h1 hm hb (Nat.zero_le _)
      have hform : ∃ va' vc', v' = .slice va' (n + m) vc' ∧ n + m ≤ vc' := by
        rcases h2.2 with ⟨hv, h0⟩ | ⟨g, cap, cur, hv, _, _, hnc, _⟩
        · exact ⟨none, 0, by rw [hv, h0], by omega⟩
        · exact ⟨_, cap, hv, hnc⟩
      obtain ⟨va', vc', rfl, hle⟩ := hform
      refine ⟨va', vc', w', hr, h.upd hi ((Chg.of_grown h3).mono (by simp [Res.fp])) h2 ?_, fun h => absurd h hroom, hle⟩
      intro k hk
      simp only [Res.fp, Option.mem_toList] at hk ⊢
      rcases h5 with h5 | h5
      · left; rw [← h5]; exact hk
      · right
        rw [h5] at hk
        simp only [Option.some.injEq] at hk
        omega

theorem St.mk0 (h : St w0 X w M) {t e sz by_ : Nat} {z : Value} {kl kc : IntKind} {c : Int} (E : ElemT P t e sz by_ z) (h0 : 0 ≤ c) (hb : (by_ : Int) * c ≤ 281474976710656) (hm : c ≤ 9223372036854775807) :
    ∃ g w', (Instr.makeSlice t (.int kl 0) (.int kc c)).run P w = .ok (.slice (some ⟨g, 0, none⟩) 0 c.toNat) w' ∧ St w0 X w' (M ++ [.row e sz (.slice (some ⟨g, 0, none⟩) 0 c.toNat) 0 []]) := by
  obtain ⟨inf, hinf, hz, hsz, hby⟩ := E.inf
  have hr := run_make (P := P) w t e inf z E.ht hinf hz kl kc 0 c (Int.le_refl _) h0 (by rw [hby]; exact hb) hm
  simp only [Int.toNat_zero] at hr
  refine ⟨_, _, hr, h.add (Chg.alloc _ _) ?_ (by simp [Res.fp, Value.ownBlock])⟩
  refine World.ownsRow_made w _ c.toNat (Nat.zero_le _) (by simp only [maxLen]; omega) ?_
  rw [size_madeCells, hsz]

theorem madeCells_list (z : Value) (n : Nat) : (madeCells #[z] n).toList = List.replicate n z := toList_madeCells_one z n

theorem St.mk0n (h : St w0 X w M) {t e sz by_ : Nat} {z : Value} {kl kc : IntKind} {c : Nat} (E : ElemT P t e sz by_ z) (hb : by_ * c ≤ 281474976710656) (hm : c ≤ 9223372036854775807) :
    ∃ g w', (Instr.makeSlice t (.int kl 0) (.int kc (c : Int))).run P w = .ok (.slice (some ⟨g, 0, none⟩) 0 c) w' ∧ St w0 X w' (M ++ [.row e sz (.slice (some ⟨g, 0, none⟩) 0 c) 0 []]) := by
  have h2 : ((by_ * c : Nat) : Int) ≤ 281474976710656 := by omega
  rw [Int.natCast_mul] at h2
  have := h.mk0 (kl := kl) (kc := kc) (c := (c : Int)) E (by omega) h2 (by omega)
  rwa [Int.toNat_natCast] at this

theorem St.mkN (h : St w0 X w M) {t e by_ : Nat} {z : Value} {kl kc : IntKind} {c : Int} (E : ElemT P t e 1 by_ z) (hz1 : z.cells = #[z]) (h0 : 0 ≤ c) (hb : (by_ : Int) * c ≤ 281474976710656) (hm : c ≤ 9223372036854775807) :
    ∃ g w', (Instr.makeSlice t (.int kl c) (.int kc c)).run P w = .ok (.slice (some ⟨g, 0, none⟩) c.toNat c.toNat) w' ∧ St w0 X w' (M ++ [.row e 1 (.slice (some ⟨g, 0, none⟩) c.toNat c.toNat) c.toNat (List.replicate c.toNat z)]) := by
  obtain ⟨inf, hinf, hz, hsz, hby⟩ := E.inf
  have hr := run_make (P := P) w t e inf z E.ht hinf hz kl kc c c h0 (Int.le_refl _) (by rw [hby]; exact hb) hm
  refine ⟨_, _, hr, h.add (Chg.alloc _ _) ?_ (by simp [Res.fp, Value.ownBlock])⟩
  have := World.ownsRow_lit (base := 0) (e := e) (size := 1) w (madeCells z.cells (c.toNat * inf.size)) c.toNat (Nat.zero_le _) (by simp only [maxLen]; omega) (by rw [size_madeCells, hsz])
  rw [hsz, hz1, madeCells_list, Nat.mul_one] at this
  rw [hsz, hz1, Nat.mul_one]
  exact this

theorem fill_lit : ∀ (vs : List Value) (k : Nat) (cells : Array Value), (∀ v ∈ vs, v.oneCell' = true) → cells.size = k + vs.length →
    Instr.fill (fun i => some (i * 1, 1)) cells ((vs.zipIdx k).map fun p => (p.2, p.1)) = some (cells.toList.take k ++ vs).toArray
  | [], k, cells, _, hs => by
    simp only [List.zipIdx_nil, List.map_nil, Instr.fill, List.append_nil]
    rw [List.take_of_length_le (by simp; simpa using Nat.le_of_eq hs)]
  | v :: vs, k, cells, h1, hs => by
    have hc : v.cells = #[v] := by
      have := h1 v (by simp)
      cases v <;> first | rfl | (simp [Value.oneCell'] at this)
    have hk : k < cells.size := by simp at hs; omega
    simp only [List.zipIdx_cons, List.map_cons, Instr.fill, hc]
    have hn : ¬ (#[v].size ≠ 1 ∨ k * 1 + #[v].size > cells.size) := by simp; omega
    rw [if_neg (by simpa using hn)]
    have hf : (#[v].zipIdx.foldl (fun cs (c, j) => cs.setIfInBounds (k * 1 + j) c) cells) = cells.setIfInBounds k v := by simp
    rw [hf, fill_lit vs (k + 1) (cells.setIfInBounds k v) (fun u hu => h1 u (by simp [hu])) (by simp at hs ⊢; omega)]
    congr 2
    rw [Array.toList_setIfInBounds]
    apply List.ext_getElem?
    intro j
    simp only [List.getElem?_append, List.length_take, List.length_set, Array.length_toList]
    rw [Nat.min_eq_left (by omega), Nat.min_eq_left (by omega)]
    by_cases hj : j < k
    · simp [hj, Nat.lt_succ_of_lt hj, show ¬ k = j by omega]
    · by_cases hj2 : j = k
      · subst hj2; simp [hk]
      · have : ¬ j < k + 1 := by omega
        simp only [hj, this, if_false]
        obtain ⟨d, rfl⟩ : ∃ d, j = k + 1 + d := ⟨j - (k + 1), by omega⟩
        have e1 : k + 1 + d - (k + 1) = d := by omega
        have e2 : k + 1 + d - k = d + 1 := by omega
        rw [e1, e2]
        simp

/-- A slice's literal, each element of one cell. -/
theorem St.lit (h : St w0 X w M) {t e by_ : Nat} {z : Value} (E : ElemT P t e 1 by_ z) (vs : List Value) (h1 : ∀ v ∈ vs, v.oneCell' = true) (hb : vs.length ≤ 16777216) :
    ∃ g w', (Instr.buildSlice t vs.length ((vs.zipIdx 0).map fun p => (p.2, p.1)).toArray).run P w = .ok (.slice (some ⟨g, 0, none⟩) vs.length vs.length) w' ∧
      St w0 X w' (M ++ [.row e 1 (.slice (some ⟨g, 0, none⟩) vs.length vs.length) vs.length vs]) := by
  obtain ⟨inf, hinf, hz, hsz, hby⟩ := E.inf
  have hlt : ¬ vs.length > 2 ^ 24 := by omega
  have hrow : (w.alloc (.cells vs.toArray e)).ownsRow 0 e 1 (.slice (some ⟨w.heap.size, 0, none⟩) vs.length vs.length) vs.length vs := by
    have := World.ownsRow_lit (base := 0) (e := e) (size := 1) w vs.toArray vs.length (Nat.zero_le _) (by simp only [maxLen]; omega) (by simp)
    simpa using this
  refine ⟨w.heap.size, _, ?_, h.add (Chg.alloc _ (.cells vs.toArray e)) hrow (by simp [Res.fp, Value.ownBlock])⟩
  have hf2 := fill_lit vs 0 ((Array.range vs.length).map fun i => z.cells[i % z.cells.size]!) h1 (by simp)
  simp only [List.take_zero, List.nil_append] at hf2
  by_cases h0 : vs.length = 0
  · have : vs = [] := List.eq_nil_of_length_eq_zero h0
    subst this
    simp [Instr.buildSlice, run_underlying E.ht, sizeOf, typeInfo, hinf, Instr.fill, newRow, Array.range_zero']
  · simp only [Instr.buildSlice, Sem.run_bind, run_underlying E.ht, Result.andThen_ok, sizeOf, typeInfo, run_program, hinf, hsz, Sem.run_pure, Nat.mul_one, h0, if_false, zeroValue, hz, hlt, newRow]
    have hpl : (fun i => some (i * 1, 1) : Nat → Option (Nat × Nat)) = fun i => some (i, 1) := by funext i; simp
    rw [hpl] at hf2
    rw [hf2]
    simp

/-- An element of bytes, read by its index. -/
theorem ixB {T : TypeId} {a : Option Addr} {n : Nat} {l : List UInt8} {j : Int} {K : Nat → Nat → Int → Prop} (hT : (isAgg T).run P w = .ok false w) (hc : Cells w a (bv l)) (hn : l.length = n) (h0 : 0 ≤ j) (h1 : j < (n : Int))
    (hK : ∀ b o, a = some ⟨b, o, none⟩ → K b o ((l.getD j.toNat 0).toNat : Int)) :
    ∃ b o, a = some ⟨b, o, none⟩ ∧ 0 ≤ j ∧ j < (n : Int) ∧ ∃ t : Int, (Instr.loadAt T (.pointer (some ⟨b, o + Int.toNat j * 1, none⟩))).run P w = .ok (.int .u8 t) w ∧ K b o t := by
  have hlt : j.toNat < l.length := by omega
  have hv : (bv l)[j.toNat]? = some (.int .u8 ((l.getD j.toNat 0).toNat : Int)) := by
    rw [bv_get, List.getElem?_eq_getElem hlt]; simp [List.getD, hlt]
  obtain ⟨b, o, ha, hcell⟩ := hc.at_ hv
  exact ⟨b, o, ha, h0, h1, _, by rw [Nat.mul_one]; exact ld1 hT hcell, hK b o ha⟩

theorem loadCells_cells {b o : Nat} {cs : List Value} (h : w.rangeAt b o cs) : (loadCells ⟨b, o, none⟩ cs.length).run P w = .ok cs.toArray w :=
  run_loadCells_list (P := P) w ⟨b, o, none⟩ cs (fun j v hv => by rw [Addr.add_mid]; exact h j v hv)

theorem foldl_push (l : List UInt8) : (l.map fun b => (b.toNat : Int)).foldl (fun r n => r.push (UInt8.ofNat n.toNat)) ByteArray.empty = ⟨l.toArray⟩ := by
  rw [foldl_push_bytes]
  have e : ByteArray.empty.data = #[] := rfl
  rw [e, Array.empty_append]
  simp [List.map_map, Function.comp_def]

/-- string(b). -/
theorem toStr {S D e : TypeId} {a : Option Addr} {c : Nat} {n : Nat} {l : List UInt8} (hS : P.underlying S = some (.slice e)) (he : P.underlying e = some (.int .u8)) (hD : P.underlying D = some .string) (hc : Cells w a (bv l)) (hn : l.length = n) :
    (convert S D (.slice a n c)).run P w = .ok (.string ⟨l.toArray⟩) w := by
  subst hn
  have hconv : (convert S D (.slice a l.length c)).run P w = (Conv.bytesToString (.slice a l.length c)).run P w := by
    simp [convert, run_underlying hS, run_underlying hD, run_underlying he]
  rw [hconv]
  rcases hc with h0 | ⟨b, o, rfl, hr⟩
  · have hl : l = [] := by cases l with
      | nil => rfl
      | cons x y => simp [bv] at h0
    subst hl
    cases a with
    | none => exact show _ = Result.ok (Value.string ByteArray.empty) w by simp [Conv.bytesToString]
    | some ad =>
      have := run_bytesToString (P := P) w ad 0 c [] (by simp [loadCells, loadCellsFrom])
      exact this
  · have hb : bv l = (l.map fun b => (b.toNat : Int)).map (Value.int .u8) := by simp [bv]
    have h1 := loadCells_cells (P := P) hr
    rw [bv_length, hb] at h1
    have := run_bytesToString (P := P) w ⟨b, o, none⟩ l.length c _ h1
    rw [foldl_push] at this
    exact this

/-- A store into an element (of one cell) of a row that is held. -/
theorem St.stRow (h : St w0 X w M) {i g n c j : Nat} {e T : TypeId} {xs : List Value} {v : Value} (hi : M[i]? = some (.row e 1 (.slice (some ⟨g, 0, none⟩) n c) n xs)) (hT : (sizeOf T).run P w = .ok 1 w) (hj : j < n) (hv : v.oneCell' = true) :
    ∃ w', (Instr.storeAt T (.pointer (some ⟨g, j, none⟩)) v).run P w = .ok () w' ∧ St w0 X w' (M.set i (.row e 1 (.slice (some ⟨g, 0, none⟩) n c) n (xs.set j v))) := by
  have hown : w.ownsRow 0 e 1 (.slice (some ⟨g, 0, none⟩) n c) n xs := h.holds i _ hi
  obtain ⟨hlen, hrow⟩ := hown
  rcases hrow with ⟨hv0, _⟩ | ⟨g', cap, cur, hv0, hb, hg, hnc, hcm, hcs, ht⟩
  · simp at hv0
  · simp only [Value.slice.injEq, Option.some.injEq, Addr.mk.injEq, and_true, true_and] at hv0
    obtain ⟨rfl, rfl⟩ := hv0
    have hcs' : v.cells = #[v] := by cases v <;> first | rfl | (simp [Value.oneCell'] at hv)
    have hst := run_storeCells_at P g j e [v] 0 cur w hg (by simp; omega) (by simpa using hv)
    have hset : (cur.toList.take j ++ [v] ++ cur.toList.drop (j + 1)).toArray = cur.setIfInBounds j v := by
      apply Array.ext'
      rw [Array.toList_setIfInBounds, List.set_eq_take_append_cons_drop]
      simp [show j < cur.size by omega]
    simp only [Nat.add_zero, List.length_singleton] at hst
    rw [hset] at hst
    refine ⟨_, ?_, h.upd hi (w' := w.setRow g (cur.setIfInBounds j v)) ⟨rfl, rfl, rfl, by simp, fun k _ hk => setRow_other w g k _ (fun e => hk (by simp [Res.fp, Value.ownBlock, e]))⟩ ?_ (by simp [Res.fp, Value.ownBlock])⟩
    · simp [Instr.storeAt, Instr.sureAddr, storeVar, hT, hcs', hst]
    · refine ⟨by simpa using hlen, .inr ⟨g, c, _, rfl, hb, setRow_heap w g cur _ e _ hg, hnc, hcm, by simpa using hcs, ?_⟩⟩
      rw [Array.toList_setIfInBounds, ← ht, List.take_set]

end
end Sx

namespace Sx
open Go
set_option maxRecDepth 8000

theorem wrap_u8 (n : Int) : IntKind.wrap .u8 n = n % 256 := by simp [IntKind.wrap, IntKind.bits, IntKind.signed]
theorem wrap_u16 (n : Int) : IntKind.wrap .u16 n = n % 65536 := by simp [IntKind.wrap, IntKind.bits, IntKind.signed]
theorem wrap_u32 (n : Int) : IntKind.wrap .u32 n = n % 4294967296 := by simp [IntKind.wrap, IntKind.bits, IntKind.signed]
theorem wrap_u64 (n : Int) : IntKind.wrap .u64 n = n % 18446744073709551616 := by simp [IntKind.wrap, IntKind.bits, IntKind.signed]
theorem wrap_i64 {n : Int} (h0 : -9223372036854775808 ≤ n) (h1 : n < 9223372036854775808) : IntKind.wrap .i64 n = n := by
  simp only [IntKind.wrap, IntKind.bits, IntKind.signed, Bool.true_and, ge_iff_le, decide_eq_true_eq]
  have e1 : (2 : Int) ^ 64 = 18446744073709551616 := by decide
  have e2 : (2 : Int) ^ (64 - 1) = 9223372036854775808 := by decide
  rw [e1, e2]
  split <;> omega
theorem wrap_i64_nat (n : Nat) (h : n < 9223372036854775808) : IntKind.wrap .i64 (n : Int) = n := wrap_i64 (by omega) (by omega)

theorem wrap_i64_of (n : Int) : IntKind.wrap .i64 n = if n % 18446744073709551616 < 9223372036854775808 then n % 18446744073709551616 else n % 18446744073709551616 - 18446744073709551616 := by
  simp only [IntKind.wrap, IntKind.bits, IntKind.signed, Bool.true_and, ge_iff_le, decide_eq_true_eq]
  have e1 : (2 : Int) ^ 64 = 18446744073709551616 := by decide
  have e2 : (2 : Int) ^ (64 - 1) = 9223372036854775808 := by decide
  rw [e1, e2]
  split <;> split <;> omega

theorem ofInt_nat (n w : Nat) : BitVec.ofInt w (n : Int) = BitVec.ofNat w n := by
  apply BitVec.eq_of_toNat_eq
  simp

def kmod (k : IntKind) : Nat := 2 ^ k.bits

theorem wrap_uns {k : IntKind} (hk : k.signed = false) {n : Nat} (h : n < kmod k) : IntKind.wrap k (n : Int) = n := by
  simp only [IntKind.wrap, hk, Bool.false_and, Bool.false_eq_true, if_false]
  have : ((2 : Int) ^ k.bits) = ((kmod k : Nat) : Int) := by simp [kmod]
  rw [this]
  exact Int.emod_eq_of_lt (by omega) (by omega)

theorem band_nat {k : IntKind} (hk : k.signed = false) {a b : Nat} (ha : a < kmod k) (hb : b < kmod k) : band k (a : Int) (b : Int) = ((a &&& b : Nat) : Int) := by
  unfold band
  rw [ofInt_nat, ofInt_nat]
  simp only [BitVec.toNat_and, BitVec.toNat_ofNat]
  rw [Nat.mod_eq_of_lt (show a < 2 ^ k.bits from ha), Nat.mod_eq_of_lt (show b < 2 ^ k.bits from hb)]
  exact wrap_uns hk (Nat.lt_of_le_of_lt Nat.and_le_left ha)

theorem bor_nat {k : IntKind} (hk : k.signed = false) {a b : Nat} (ha : a < kmod k) (hb : b < kmod k) : bor k (a : Int) (b : Int) = ((a ||| b : Nat) : Int) := by
  unfold bor
  rw [ofInt_nat, ofInt_nat]
  simp only [BitVec.toNat_or, BitVec.toNat_ofNat]
  rw [Nat.mod_eq_of_lt (show a < 2 ^ k.bits from ha), Nat.mod_eq_of_lt (show b < 2 ^ k.bits from hb)]
  exact wrap_uns hk (Nat.or_lt_two_pow ha hb)

theorem bxor_nat {k : IntKind} (hk : k.signed = false) {a b : Nat} (ha : a < kmod k) (hb : b < kmod k) : bxor k (a : Int) (b : Int) = ((a ^^^ b : Nat) : Int) := by
  unfold bxor
  rw [ofInt_nat, ofInt_nat]
  simp only [BitVec.toNat_xor, BitVec.toNat_ofNat]
  rw [Nat.mod_eq_of_lt (show a < 2 ^ k.bits from ha), Nat.mod_eq_of_lt (show b < 2 ^ k.bits from hb)]
  exact wrap_uns hk (Nat.xor_lt_two_pow ha hb)

theorem shr_nat (k : IntKind) (a n : Nat) (hn : n ≤ k.bits) : shrI k (a : Int) (n : Int) = ((a / 2 ^ n : Nat) : Int) := by
  unfold shrI
  rw [Int.toNat_natCast, Nat.min_eq_left hn]
  rw [Int.fdiv_eq_ediv_of_nonneg _ (by exact_mod_cast Nat.zero_le _)]
  simp

theorem shl_nat {k : IntKind} (hk : k.signed = false) (a n : Nat) (hn : n ≤ k.bits) : shlI k (a : Int) (n : Int) = ((a * 2 ^ n % kmod k : Nat) : Int) := by
  unfold shlI
  rw [Int.toNat_natCast, Nat.min_eq_left hn]
  simp only [IntKind.wrap, hk, Bool.false_and, Bool.false_eq_true, if_false, kmod]
  simp

theorem wrap_succ {i n : Nat} (h : i < n) (hn : n ≤ 4611686018427387904) : IntKind.wrap .i64 ((i : Int) + 1) = ((i + 1 : Nat) : Int) := by rw [wrap_i64 (by omega) (by omega)]; rfl
theorem mu_succ {i n : Nat} (h : i < n) (hn : n ≤ 4611686018427387904) : n - (IntKind.wrap .i64 ((i : Int) + 1)).toNat < n - ((i : Int)).toNat := by rw [wrap_succ h hn]; omega

/-- bytes -/
theorem u8_lt (b : UInt8) : (b.toNat : Int) < 256 := by have := b.toNat_lt; omega
end Sx

namespace Sx
open Go
set_option maxRecDepth 8000

/-- A block that holds these cells. -/
abbrev Res.arr (g : Nat) (T : TypeId) (l : List Value) : Res := .blk g (.cells l.toArray T)

/-- Whole numbers of a kind, as cells. -/
def kv (k : IntKind) (l : List Nat) : List Value := l.map fun (n : Nat) => .int k (n : Int)
@[simp] theorem kv_length (k : IntKind) (l : List Nat) : (kv k l).length = l.length := by simp [kv]
@[simp] theorem kv_append (k : IntKind) (a b : List Nat) : kv k (a ++ b) = kv k a ++ kv k b := by simp [kv]
theorem kv_get {k : IntKind} {l : List Nat} {i : Nat} (h : i < l.length) : (kv k l)[i]? = some (.int k ((l.getD i 0 : Nat) : Int)) := by simp [kv, List.getD, h]
theorem kv_set (k : IntKind) (l : List Nat) (i n : Nat) : (kv k l).set i (.int k (n : Int)) = kv k (l.set i n) := by simp [kv, List.map_set]
theorem kv_one (k : IntKind) (l : List Nat) : ∀ u ∈ kv k l, u.oneCell' = true := by
  intro u hu
  simp only [kv, List.mem_map] at hu
  obtain ⟨n, _, rfl⟩ := hu
  rfl
theorem bv_set (l : List UInt8) (i : Nat) (b : UInt8) : (bv l).set i (.int .u8 (b.toNat : Int)) = bv (l.set i b) := by simp [bv, List.map_set]
theorem bv_getD {l : List UInt8} {i : Nat} (h : i < l.length) : (bv l)[i]? = some (.int .u8 ((l.getD i 0).toNat : Int)) := by rw [bv_get]; simp [List.getD, h]

section
variable {P : Program} {w0 w : World} {X : List Nat} {M : List Res}

theorem St.ofBlk {g : Nat} {o : Obj} (h : w.heap[g]? = some o) : St w [g] w [.blk g o] := by
  have one : ∀ (i : Nat) (r : Res), [Res.blk g o][i]? = some r → i = 0 ∧ r = .blk g o := by
    intro i r hr
    cases i with
    | zero => exact ⟨rfl, (Option.some.inj hr).symm⟩
    | succ i => simp at hr
  refine ⟨Chg.refl _ _, ?_, ?_, ?_⟩
  · intro i r hr; obtain ⟨_, rfl⟩ := one i r hr; exact h
  · intro i r hr k hk; obtain ⟨_, rfl⟩ := one i r hr; exact .inr hk
  · intro i j r s hij hi hj; have := (one i r hi).1; have := (one j s hj).1; omega

theorem St.ldL (h : St w0 X w M) {i g o off : Nat} {l : List Value} {T' T : TypeId} {v : Value} (hi : M[i]? = some (.arr g T' l)) (hT : (isAgg T).run P w = .ok false w) (he : off = o) (hv : l[o]? = some v) :
    (Instr.loadAt T (.pointer (some ⟨g, off, none⟩))).run P w = .ok v w := by
  subst he
  exact h.ld hi hT (by simpa using hv)

theorem St.ldK (h : St w0 X w M) {i g o off : Nat} {k : IntKind} {l : List Nat} {T' T : TypeId} (hi : M[i]? = some (.arr g T' (kv k l))) (hT : (isAgg T).run P w = .ok false w) (he : off = o) (ho : o < l.length) :
    (Instr.loadAt T (.pointer (some ⟨g, off, none⟩))).run P w = .ok (.int k ((l.getD o 0 : Nat) : Int)) w := h.ldL hi hT he (kv_get ho)

theorem St.ldB (h : St w0 X w M) {i g o off : Nat} {l : List UInt8} {T' T : TypeId} (hi : M[i]? = some (.arr g T' (bv l))) (hT : (isAgg T).run P w = .ok false w) (he : off = o) (ho : o < l.length) :
    (Instr.loadAt T (.pointer (some ⟨g, off, none⟩))).run P w = .ok (.int .u8 ((l.getD o 0).toNat : Int)) w := h.ldL hi hT he (bv_getD ho)

theorem St.stL (h : St w0 X w M) {i g o off : Nat} {l : List Value} {T' T : TypeId} {v : Value} (hi : M[i]? = some (.arr g T' l)) (hT : (sizeOf T).run P w = .ok 1 w) (he : off = o) (ho : o < l.length) (hv : v.oneCell' = true) :
    ∃ w', (Instr.storeAt T (.pointer (some ⟨g, off, none⟩)) v).run P w = .ok () w' ∧ St w0 X w' (M.set i (.arr g T' (l.set o v))) := by
  subst he
  obtain ⟨w', hr, h'⟩ := h.st (v := v) hi hT (by simpa using ho) hv
  exact ⟨w', hr, by simpa using h'⟩

theorem St.stK (h : St w0 X w M) {i g o off : Nat} {k : IntKind} {l : List Nat} {T' T : TypeId} {n : Nat} (hi : M[i]? = some (.arr g T' (kv k l))) (hT : (sizeOf T).run P w = .ok 1 w) (he : off = o) (ho : o < l.length) :
    ∃ w', (Instr.storeAt T (.pointer (some ⟨g, off, none⟩)) (.int k (n : Int))).run P w = .ok () w' ∧ St w0 X w' (M.set i (.arr g T' (kv k (l.set o n)))) := by
  obtain ⟨w', hr, h'⟩ := h.stL (v := .int k (n : Int)) hi hT he (by simpa using ho) rfl
  exact ⟨w', hr, by rw [kv_set] at h'; exact h'⟩

theorem St.stB (h : St w0 X w M) {i g o off : Nat} {l : List UInt8} {T' T : TypeId} {b : UInt8} (hi : M[i]? = some (.arr g T' (bv l))) (hT : (sizeOf T).run P w = .ok 1 w) (he : off = o) (ho : o < l.length) :
    ∃ w', (Instr.storeAt T (.pointer (some ⟨g, off, none⟩)) (.int .u8 (b.toNat : Int))).run P w = .ok () w' ∧ St w0 X w' (M.set i (.arr g T' (bv (l.set o b)))) := by
  obtain ⟨w', hr, h'⟩ := h.stL (v := .int .u8 (b.toNat : Int)) hi hT he (by simpa using ho) rfl
  exact ⟨w', hr, by rw [bv_set] at h'; exact h'⟩

theorem St.cellsA (h : St w0 X w M) {i g : Nat} {l : List Value} {T' : TypeId} (hi : M[i]? = some (.arr g T' l)) : w.rangeAt g 0 l := by
  intro j v hj
  rw [cell_of_row w g _ _ T' (0, 0) (h.holds i _ hi)]
  simpa using hj

theorem St.ldVarA (h : St w0 X w M) {i g n : Nat} {l : List Value} {T' T : TypeId} (hi : M[i]? = some (.arr g T' l)) (hT : (isAgg T).run P w = .ok true w) (hS : (sizeOf T).run P w = .ok n w) (hl : l.length = n) :
    (loadVar T ⟨g, 0, none⟩).run P w = .ok (.agg l.toArray) w := by
  subst hl
  simp [loadVar, hT, hS, loadCells_cells (P := P) (h.cellsA hi)]

theorem St.ldA (h : St w0 X w M) {i g n : Nat} {l : List Value} {T' T : TypeId} (hi : M[i]? = some (.arr g T' l)) (hT : (isAgg T).run P w = .ok true w) (hS : (sizeOf T).run P w = .ok n w) (hl : l.length = n) :
    (Instr.loadAt T (.pointer (some ⟨g, 0, none⟩))).run P w = .ok (.agg l.toArray) w := by
  have := h.ldVarA hi hT hS hl
  simp [Instr.loadAt, Instr.sureAddr, this]

theorem St.stA (h : St w0 X w M) {i g n : Nat} {l v : List Value} {T' T : TypeId} (hi : M[i]? = some (.arr g T' l)) (hS : (sizeOf T).run P w = .ok n w) (hl : l.length = n) (hv : v.length = n) (h1 : ∀ u ∈ v, u.oneCell' = true) :
    ∃ w', (Instr.storeAt T (.pointer (some ⟨g, 0, none⟩)) (.agg v.toArray)).run P w = .ok () w' ∧ St w0 X w' (M.set i (.arr g T' v)) := by
  have hg := h.holds i _ hi
  have hst := run_storeCells_at P g 0 T' v 0 l.toArray w hg (by simp; omega) h1
  have hset : (l.toArray.toList.take (0 + 0) ++ v ++ l.toArray.toList.drop (0 + 0 + v.length)).toArray = v.toArray := by
    simp only [Nat.zero_add, List.take_zero, List.nil_append]
    rw [List.drop_of_length_le (by omega), List.append_nil]
  rw [hset] at hst
  refine ⟨_, ?_, h.upd hi (w' := w.setRow g v.toArray) ⟨rfl, rfl, rfl, by simp, fun k _ hk => setRow_other w g k _ (fun e => hk (by simp [Res.fp, e]))⟩ (setRow_heap w g _ _ T' _ hg) (by simp [Res.fp])⟩
  simp [Instr.storeAt, Instr.sureAddr, storeVar, hS, Value.cells, hv, hst]

theorem St.boxA (h : St w0 X w M) (T : TypeId) (l : List Value) : ∃ g w', (Instr.box T (.agg l.toArray)).run P w = .ok (.pointer (some ⟨g, 0, none⟩)) w' ∧ St w0 X w' (M ++ [.arr g T l]) := h.box T (.agg l.toArray)

theorem St.zeroA (h : St w0 X w M) {T : TypeId} {z : List Value} (hz : ∀ w, (zeroValue T).run P w = .ok (.agg z.toArray) w) : ∃ g w', (Instr.alloc T true (.tuple #[])).run P w = .ok (.pointer (some ⟨g, 0, none⟩)) w' ∧ St w0 X w' (M ++ [.arr g T z]) := h.zero hz

theorem St.rdA (h : St w0 X w M) {i g n : Nat} {l : List Value} {T' : TypeId} (hi : M[i]? = some (.arr g T' l)) (hl : l.length = n) : Rd w (some ⟨g, 0, none⟩) n n 1 l :=
  ⟨.inr ⟨g, 0, rfl, h.cellsA hi⟩, by omega, Nat.le_refl _, by simp⟩

/-- A slice of a slice. -/
theorem Rd.sub {a a' : Option Addr} {n c sz l hh m : Nat} {cs : List Value} (h : Rd w a n c sz cs) (hs : SubA sz a l m a') (h1 : l ≤ hh) (h2 : hh ≤ n) (h3 : hh ≤ m) (h4 : m ≤ c) : Rd w a' (hh - l) (m - l) sz ((cs.drop (l * sz)).take ((hh - l) * sz)) := by
  have hlen : ((cs.drop (l * sz)).take ((hh - l) * sz)).length = (hh - l) * sz := by
    rw [List.length_take, List.length_drop, h.len, ← Nat.sub_mul]
    exact Nat.min_eq_left (Nat.mul_le_mul_right _ (by omega))
  refine ⟨?_, hlen, by omega, ?_⟩
  · by_cases hm : m = l
    · left
      have : hh - l = 0 := by omega
      simp [this]
    · have ha := hs.2 hm
      rcases h.cells with h0 | ⟨b, o, rfl, hr⟩
      · left; subst h0; simp
      · right
        refine ⟨b, o + l * sz, by rw [ha]; simp [Addr.add_mid], fun j v hj => ?_⟩
        rw [List.getElem?_take] at hj
        split at hj
        · rw [List.getElem?_drop] at hj
          have := hr _ _ hj
          rw [Nat.add_assoc]; exact this
        · cases hj
  · intro hn
    by_cases hm : m = l
    · omega
    · have ha := hs.2 hm
      rw [hn] at ha
      have : a = none := by cases a with
        | none => rfl
        | some x => simp at ha
      have := h.nil this
      omega

/-- A part of a struct's literal. -/
theorem fill_step {place : Nat → Option (Nat × Nat)} {i off sz : Nat} {v : Value} {rest : List (Nat × Value)} {cells : Array Value} (hp : place i = some (off, sz)) (hs : v.cells.size = sz) (h : off + sz ≤ cells.size) :
    Instr.fill place cells ((i, v) :: rest) = Instr.fill place (cells.toList.take off ++ v.cells.toList ++ cells.toList.drop (off + sz)).toArray rest := by
  have key : ∀ (vs : List Value) (k : Nat) (cells : Array Value), off + k + vs.length ≤ cells.size →
      ((vs.zipIdx k).foldl (fun cs (c, j) => cs.setIfInBounds (off + j) c) cells) = (cells.toList.take (off + k) ++ vs ++ cells.toList.drop (off + k + vs.length)).toArray := by
    intro vs
    induction vs with
    | nil => intro k cells _; simp
    | cons u vs ih =>
      intro k cells hk
      have hkl : off + k < cells.toList.length := by simp at hk; simp; omega
      simp only [List.zipIdx_cons, List.foldl_cons]
      rw [ih (k + 1) _ (by simp at hk ⊢; omega), Array.toList_setIfInBounds]
      have e1 : (cells.toList.set (off + k) u).take (off + (k + 1)) = cells.toList.take (off + k) ++ [u] := by
        rw [show off + (k + 1) = off + k + 1 by omega, List.take_add_one, List.take_set, List.set_eq_of_length_le (by rw [List.length_take]; omega), List.getElem?_set_self hkl]; rfl
      have e2 : (cells.toList.set (off + k) u).drop (off + (k + 1) + vs.length) = cells.toList.drop (off + k + (u :: vs).length) := by
        rw [List.drop_set_of_lt (by omega)]
        congr 1; simp; omega
      rw [e1, e2]
      simp
  subst hs
  have hn : ¬ (v.cells.size ≠ v.cells.size ∨ off + v.cells.size > cells.size) := by omega
  simp only [Instr.fill, hp]
  rw [if_neg (by simpa using hn)]
  congr 1
  rw [← Array.foldl_toList, Array.toList_zipIdx]
  have := key v.cells.toList 0 cells (by simpa using h)
  simpa using this

/-- An array's literal: its first elements. -/
theorem build_arr {T e n : Nat} {z : List Value} (hz : (zeroValue T).run P w = .ok (.agg z.toArray) w) (hT : P.underlying T = some (.array n e)) (hS : (sizeOf e).run P w = .ok 1 w) (vs : List Value) (h1 : ∀ v ∈ vs, v.oneCell' = true) (hl : vs.length ≤ z.length) :
    (Instr.build T ((vs.zipIdx 0).map fun p => (p.2, p.1)).toArray).run P w = .ok (.agg (vs ++ z.drop vs.length).toArray) w := by
  have hf : ∀ (vs : List Value) (k : Nat) (cells : Array Value), (∀ v ∈ vs, v.oneCell' = true) → k + vs.length ≤ cells.size →
      Instr.fill (fun i => some (i * 1, 1)) cells ((vs.zipIdx k).map fun p => (p.2, p.1)) = some (cells.toList.take k ++ vs ++ cells.toList.drop (k + vs.length)).toArray := by
    intro vs
    induction vs with
    | nil => intro k cells _ _; simp [Instr.fill]
    | cons v vs ih =>
      intro k cells h1 hs
      have hc : v.cells = #[v] := by
        have := h1 v (by simp)
        cases v <;> first | rfl | (simp [Value.oneCell'] at this)
      have hk : k < cells.size := by simp at hs; omega
      simp only [List.zipIdx_cons, List.map_cons, Instr.fill, hc]
      have hn : ¬ (#[v].size ≠ 1 ∨ k * 1 + #[v].size > cells.size) := by simp; omega
      rw [if_neg (by simpa using hn)]
      have hf : (#[v].zipIdx.foldl (fun cs (c, j) => cs.setIfInBounds (k * 1 + j) c) cells) = cells.setIfInBounds k v := by simp
      rw [hf, ih (k + 1) (cells.setIfInBounds k v) (fun u hu => h1 u (by simp [hu])) (by simp at hs ⊢; omega)]
      congr 2
      rw [Array.toList_setIfInBounds]
      have hkl : k < cells.toList.length := by simpa using hk
      have e1 : (cells.toList.set k v).take (k + 1) = cells.toList.take k ++ [v] := by
        rw [List.take_add_one, List.take_set, List.set_eq_of_length_le (by rw [List.length_take]; omega), List.getElem?_set_self hkl]; rfl
      have e2 : (cells.toList.set k v).drop (k + 1 + vs.length) = cells.toList.drop (k + (v :: vs).length) := by
        rw [List.drop_set_of_lt (by omega)]
        congr 1; simp; omega
      rw [e1, e2]
      simp
  have hf2 := hf vs 0 z.toArray h1 (by simpa using hl)
  simp only [List.take_zero, List.nil_append, Nat.zero_add] at hf2
  have hpl : (fun i => some (i * 1, 1) : Nat → Option (Nat × Nat)) = fun i => some (i, 1) := by funext i; simp
  rw [hpl] at hf2
  simp [Instr.build, hz, run_underlying hT, hS, Value.cells, hf2]

end
theorem ldRange {P : Program} {w : World} {b o n : Nat} {cs : List Value} {T : TypeId} (h : w.rangeAt b o cs) (hT : (isAgg T).run P w = .ok true w) (hS : (sizeOf T).run P w = .ok n w) (hl : cs.length = n) :
    (Instr.loadAt T (.pointer (some ⟨b, o, none⟩))).run P w = .ok (.agg cs.toArray) w := by
  subst hl
  simp [Instr.loadAt, Instr.sureAddr, loadVar, hT, hS, loadCells_cells (P := P) h]
end Sx

namespace Sx
open Go
set_option maxRecDepth 8000

section
variable {P : Program} {w0 w : World} {X : List Nat} {M : List Res}

theorem St.append2 (h : St w0 X w M) {i : Nat} {t ty e sz by_ : Nat} {z : Value} {va a : Option Addr} {n vc m c : Nat} {xs news : List Value} (E : ElemT P t e sz by_ z)
    (hi : M[i]? = some (.row e sz (.slice va n vc) n xs)) (hs' : Rd w a m c sz news) (h1 : ∀ u ∈ news, u.oneCell' = true) (hb : (n + m) * by_ ≤ 140737488355328) (hm : n + m ≤ maxLen) :
    ∃ va' vc' w', (Builtin.append_ #[t, t] ty #[.slice va n vc, .slice a m c]).run P w = .ok (.slice va' (n + m) vc') w' ∧
      ((va' = va ∧ St w0 X w' (M.set i (.row e sz (.slice va' (n + m) vc') (n + m) (xs ++ news)))) ∨ St w0 X w' (M ++ [.row e sz (.slice va' (n + m) vc') (n + m) (xs ++ news)])) := by
  by_cases hroom : n + m ≤ vc
  · obtain ⟨va', vc', w', hr, h', hin, _⟩ := h.append (ty := ty) E hi hs' h1 hb hm
    exact ⟨va', vc', w', hr, .inl ⟨(hin hroom).1, h'⟩⟩
  · have hs := hs'.cells
    have hl := hs'.len
    have ha : a = none → c = 0 ∧ m = 0 := fun e => ⟨hs'.nil e, by have := hs'.nil e; have := hs'.le; omega⟩
    obtain ⟨inf, hinf, hz, hsz, hby⟩ := E.inf
    have hown : w.ownsRow 0 e sz (.slice va n vc) n xs := h.holds i _ hi
    have hn : n ≤ vc := by
      rcases hown.2 with ⟨hv, rfl⟩ | ⟨g, cap, cur, hv, _, _, hnc, _⟩
      · omega
      · simp only [Value.slice.injEq] at hv; omega
    cases a with
    | none => obtain ⟨_, rfl⟩ := ha rfl; omega
    | some ad =>
      have hnews : ∀ j u, news[j]? = some u → w.cell? (ad.add j) = some u := by
        intro j u hu
        obtain ⟨b, o, he, hc⟩ := hs.at_ hu
        simp only [Option.some.injEq] at he
        subst he
        rw [Addr.add_mid]
        exact hc
      have hlen : (xs ++ news).length = (n + m) * sz := by rw [List.length_append, hown.1, hl, Nat.add_mul]
      -- the new row
      have fresh : ∀ old : Nat, old < n + m → St w0 X (w.drew.alloc (.cells (xs.toArray ++ news.toArray ++ Builtin.zeroCells z.cells (grownCap w (n + m) old e - (n + m))) e))
          (M ++ [.row e sz (.slice (some ⟨w.heap.size, 0, none⟩) (n + m) (grownCap w (n + m) old e)) (n + m) (xs ++ news)]) := by
        intro old ho
        have hge := grownCap_ge w (n + m) old e
        have hcm := grownCap_le_maxLen w (n + m) old e hm
        refine h.add ((Chg.drew [] w).trans (Chg.alloc _ _)) ⟨hlen, .inr ⟨w.heap.size, _, _, rfl, Nat.zero_le _, heap_alloc_new w.drew _, hge, hcm, ?_, ?_⟩⟩ (by simp [Res.fp, Value.ownBlock])
        · have e1 : xs.length + news.length = (n + m) * sz := by rw [← List.length_append]; exact hlen
          have e2 : grownCap w (n + m) old e * sz = (n + m) * sz + (grownCap w (n + m) old e - (n + m)) * sz := by rw [← Nat.add_mul]; congr 1; omega
          simp only [Array.size_append, List.size_toArray, size_zeroCells, E.zs]
          omega
        · simp only [Array.toList_append]
          exact List.take_left' hlen
      rcases hown.2 with ⟨hv, hn0⟩ | ⟨g, cap, cur, hv, _, hg, hnc, hcm, hcs, htake⟩
      · simp only [Value.slice.injEq] at hv
        obtain ⟨rfl, _, rfl⟩ := hv
        subst hn0
        have hx : xs = [] := List.eq_nil_of_length_eq_zero (by simpa using hown.1)
        subst hx
        have hr := run_append_nil (P := P) w t ty e inf z E.ht hinf hz ad m c news (by rw [hsz]; exact hl) hnews (by omega) (by simp only [maxLen] at hm; omega) (by rw [hby]; simp only [Nat.zero_add] at hb; omega)
        have hf := fresh 0 (by omega)
        simp only [Nat.zero_add, List.nil_append, Array.empty_append] at hf hr ⊢
        exact ⟨_, _, _, hr, .inr hf⟩
      · simp only [Value.slice.injEq] at hv
        obtain ⟨rfl, _, rfl⟩ := hv
        have holds : ∀ j u, xs[j]? = some u → w.cell? ((⟨g, 0, none⟩ : Addr).add j) = some u := hown.cells (g := g) rfl
        have hr := run_append_grow (P := P) w t ty e inf z E.ht hinf hz ⟨g, 0, none⟩ n vc xs (by rw [hsz]; exact hown.1) holds ad m c news (by rw [hsz]; exact hl) hnews (by omega) (by simp only [maxLen] at hm; omega) (growslice_fits (by omega) (by rw [hby]; exact hb))
        exact ⟨_, _, _, hr, .inr (fresh vc (by omega))⟩

/-- A thing that is held besides the others. -/
theorem St.addAt (h : St w0 X w M) {s : Res} (hs : s.holds w) (hlo : ∀ k ∈ s.fp, w0.heap.size ≤ k ∨ k ∈ X) (hap : ∀ (i : Nat) (r : Res), M[i]? = some r → ∀ k ∈ r.fp, k ∉ s.fp) : St w0 X w (M ++ [s]) := by
  have get : ∀ (j : Nat) (r : Res), (M ++ [s])[j]? = some r → (j < M.length ∧ M[j]? = some r) ∨ (j = M.length ∧ r = s) := by
    intro j r hj
    by_cases hlt : j < M.length
    · rw [List.getElem?_append_left hlt] at hj; exact .inl ⟨hlt, hj⟩
    · rw [List.getElem?_append_right (by omega)] at hj
      have := (List.getElem?_eq_some_iff.1 hj).1
      simp only [List.length_cons, List.length_nil] at this
      have e : j - M.length = 0 := by omega
      rw [e] at hj
      exact .inr ⟨by omega, (Option.some.inj hj).symm⟩
  refine ⟨h.chg, fun j r hj => ?_, fun j r hj k hk => ?_, fun j l r t hjl hj hl k hk hk' => ?_⟩
  · rcases get j r hj with ⟨_, h1⟩ | ⟨_, rfl⟩
    · exact h.holds j r h1
    · exact hs
  · rcases get j r hj with ⟨_, h1⟩ | ⟨_, rfl⟩
    · exact h.own j r h1 k hk
    · exact hlo k hk
  · rcases get j r hj with ⟨_, h1⟩ | ⟨e1, rfl⟩ <;> rcases get l t hl with ⟨_, h2⟩ | ⟨e2, rfl⟩
    · exact h.apart j l r t hjl h1 h2 k hk hk'
    · exact hap j r h1 k hk hk'
    · exact hap l t h2 k hk' hk
    · omega

/-- Some of the things, for a call that may change them all. -/
theorem St.part (h : St w0 X w M) (js : List Nat) (N : List Res) (F : List Nat) (hN : ∀ (i : Nat) (r : Res), N[i]? = some r → ∃ j, js[i]? = some j ∧ M[j]? = some r) (hinj : ∀ (i l j : Nat), js[i]? = some j → js[l]? = some j → i = l)
    (hF : ∀ (i : Nat) (r : Res), N[i]? = some r → ∀ k ∈ r.fp, k ∈ F) : St w F w N := by
  refine ⟨Chg.refl _ _, fun i r hi => ?_, fun i r hi k hk => .inr (hF i r hi k hk), fun i l r t hil hi hl k hk hk' => ?_⟩
  · obtain ⟨j, _, hj⟩ := hN i r hi
    exact h.holds j r hj
  · obtain ⟨j, h1, hj⟩ := hN i r hi
    obtain ⟨j', h2, hj'⟩ := hN l t hl
    refine h.apart j j' r t (fun e => hil ?_) hj hj' k hk hk'
    subst e
    exact hinj i l j h1 h2

end
end Sx

namespace Sx
open Go
set_option maxRecDepth 8000

theorem flatMap_len {α β : Type} {enc : α → List β} {k : Nat} : ∀ {l : List α}, (∀ x ∈ l, (enc x).length = k) → (l.flatMap enc).length = k * l.length
  | [], _ => by simp
  | x :: l, h => by
    rw [List.flatMap_cons, List.length_append, flatMap_len fun y hy => h y (by simp [hy]), h x (by simp), List.length_cons, Nat.mul_succ]
    omega

theorem flatMap_drop {α β : Type} {enc : α → List β} {k : Nat} : ∀ {l : List α} (i : Nat), (∀ x ∈ l, (enc x).length = k) → (l.flatMap enc).drop (i * k) = (l.drop i).flatMap enc
  | l, 0, _ => by simp
  | [], i + 1, _ => by simp
  | x :: l, i + 1, h => by
    have hx := h x (by simp)
    rw [List.flatMap_cons, List.drop_succ_cons, ← flatMap_drop i fun y hy => h y (by simp [hy])]
    rw [show (i + 1) * k = (enc x).length + i * k by rw [hx, Nat.succ_mul]; omega, List.drop_append]
    rw [List.drop_of_length_le (by omega), List.nil_append]
    congr 1
    omega

theorem flatMap_take {α β : Type} {enc : α → List β} {k : Nat} : ∀ {l : List α} (i : Nat), (∀ x ∈ l, (enc x).length = k) → (l.flatMap enc).take (i * k) = (l.take i).flatMap enc
  | l, 0, _ => by simp
  | [], i + 1, _ => by simp
  | x :: l, i + 1, h => by
    have hx := h x (by simp)
    rw [List.flatMap_cons, List.take_succ_cons, List.flatMap_cons, ← flatMap_take i fun y hy => h y (by simp [hy])]
    rw [show (i + 1) * k = (enc x).length + i * k by rw [hx, Nat.succ_mul]; omega, List.take_append]
    rw [List.take_of_length_le (by omega)]
    congr 2
    omega

theorem flatMap_at {α β : Type} {enc : α → List β} {k : Nat} {l : List α} (h : ∀ x ∈ l, (enc x).length = k) {i j : Nat} {x : α} (hx : l[i]? = some x) (hj : j < k) : (l.flatMap enc)[i * k + j]? = (enc x)[j]? := by
  rw [← List.getElem?_drop, flatMap_drop i h]
  have hi := (List.getElem?_eq_some_iff.1 hx).1
  rw [List.drop_eq_getElem_cons hi]
  have e : l[i] = x := (List.getElem?_eq_some_iff.1 hx).2
  rw [e, List.flatMap_cons, List.getElem?_append_left (by rw [h x (List.mem_of_getElem? hx)]; exact hj)]

/-- A row of things of k cells each that may be read. -/
structure RdE {α : Type} (enc : α → List Value) (k : Nat) (w : World) (a : Option Addr) (n c : Nat) (l : List α) : Prop where
  rd : Rd w a n c k (l.flatMap enc)
  len : ∀ x ∈ l, (enc x).length = k

section
variable {P : Program} {α : Type} {enc : α → List Value} {k : Nat} {w w' : World} {a : Option Addr} {n c : Nat} {l : List α}

theorem RdE.num (h : RdE enc k w a n c l) (hk : 0 < k) : l.length = n := by
  have h1 := h.rd.len
  rw [flatMap_len h.len, Nat.mul_comm] at h1
  exact Nat.eq_of_mul_eq_mul_right hk h1
theorem RdE.keep0 (h : RdE enc k w a n c l) (hc : Chg [] w w') : RdE enc k w' a n c l := ⟨h.rd.keep0 hc, h.len⟩
theorem RdE.nil (w : World) : RdE enc k w none 0 0 [] := ⟨⟨Cells.nil _ _, by simp, Nat.le_refl _, fun _ => rfl⟩, by simp⟩

/-- The cells of one thing of a row: its place hangs on the row alone. -/
theorem RdE.at_ (h : RdE enc k w a n c l) (hk : 0 < k) {i : Nat} {x : α} (hx : l[i]? = some x) : ∃ b o, a = some ⟨b, o, none⟩ ∧ ∀ w', RdE enc k w' a n c l → w'.rangeAt b (o + i * k) (enc x) := by
  have key : ∀ w', RdE enc k w' a n c l → ∃ b o, a = some ⟨b, o, none⟩ ∧ w'.rangeAt b (o + i * k) (enc x) := by
    intro w' h'
    rcases h'.rd.cells with h0 | ⟨b, o, rfl, hr⟩
    · have h1 := flatMap_len h'.len
      rw [h0] at h1
      have := (List.getElem?_eq_some_iff.1 hx).1
      simp only [List.length_nil] at h1
      rcases Nat.mul_eq_zero.1 h1.symm with h2 | h2 <;> omega
    · refine ⟨b, o, rfl, fun j v hv => ?_⟩
      have hj : j < k := by have := (List.getElem?_eq_some_iff.1 hv).1; have := h'.len x (List.mem_of_getElem? hx); omega
      have := hr (i * k + j) v (by rw [flatMap_at h'.len hx hj]; exact hv)
      rw [Nat.add_assoc]
      exact this
  obtain ⟨b, o, rfl, _⟩ := key w h
  refine ⟨b, o, rfl, fun w' h' => ?_⟩
  obtain ⟨b', o', e, hr⟩ := key w' h'
  simp only [Option.some.injEq, Addr.mk.injEq, and_true] at e
  obtain ⟨rfl, rfl⟩ := e
  exact hr

/-- A thing of a row, loaded whole. -/
theorem RdE.ld (h : RdE enc k w a n c l) (hk : 0 < k) {T : TypeId} (hA : ∀ w, (isAgg T).run P w = .ok true w) (hS : ∀ w, (sizeOf T).run P w = .ok k w) {i : Nat} {x : α} (hx : l[i]? = some x) :
    ∃ b o, a = some ⟨b, o, none⟩ ∧ ∀ w', RdE enc k w' a n c l → (Instr.loadAt T (.pointer (some ⟨b, o + Int.toNat (i : Int) * k, none⟩))).run P w' = .ok (.agg (enc x).toArray) w' := by
  obtain ⟨b, o, rfl, hr⟩ := h.at_ hk hx
  refine ⟨b, o, rfl, fun w' h' => ?_⟩
  have := loadCells_cells (P := P) (hr w' h')
  rw [h'.len x (List.mem_of_getElem? hx)] at this
  rw [Int.toNat_natCast]
  simp [Instr.loadAt, Instr.sureAddr, loadVar, hA, hS, this]

theorem RdE.sub (h : RdE enc k w a n c l) {a' : Option Addr} {lo hh m : Nat} (hs : SubA k a lo m a') (h1 : lo ≤ hh) (h2 : hh ≤ n) (h3 : hh ≤ m) (h4 : m ≤ c) : RdE enc k w a' (hh - lo) (m - lo) ((l.drop lo).take (hh - lo)) := by
  have hl : ∀ x ∈ (l.drop lo).take (hh - lo), (enc x).length = k := fun x hx => h.len x (List.mem_of_mem_drop (List.mem_of_mem_take hx))
  refine ⟨?_, hl⟩
  have := h.rd.sub hs h1 h2 h3 h4
  rw [flatMap_drop lo h.len, flatMap_take (hh - lo) fun x hx => h.len x (List.mem_of_mem_drop hx)] at this
  exact this
end
end Sx

end Go.Proofs.YtmdandkoajocpaaGreatDoor
