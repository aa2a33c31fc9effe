/- The seat's own types, and what functions hand back (conditions: none). -/
import Derived.Test.YtdcgapabphjgbaaRows
import Derived.Test.YtdcgapabphjgbaaSxInt
namespace Go.Proofs.Ytdcgapabphjgbaa
open Go Sx
set_option maxRecDepth 8000

theorem bE : Try.prog.underlying 5 = some (.int .u8) := by kernel_rfl
theorem sS : Try.prog.underlying 9 = some .string := by kernel_rfl
theorem bA (w : World) : (isAgg 5).run Try.prog w = .ok false w := Try.isAgg5 w

theorem Sx.thenC {P : Program} {f : FuncId} {args : Array Value} {w : World} {R R' : Ending → World → Prop} (h : Calls P f args w R) (k : ∀ e w', R e w' → R' e w') : Calls P f args w R' := by
  intro cs
  obtain ⟨e, w', fr, hR, h⟩ := h cs
  exact ⟨e, w', fr, k _ _ hR, h⟩

/-- A new slice of bytes, in memory of its own. -/
def FreshB (w w' : World) (a : Option Addr) (n c : Nat) (l : List UInt8) : Prop :=
  Chg [] w w' ∧ l.length = n ∧ w'.ownsRow w.heap.size 5 1 (.slice a n c) n (bv l)

theorem ownsRow_base {w : World} {b b' : Nat} {e : TypeId} {sz : Nat} {v : Value} {n : Nat} {xs : List Value} (h : w.ownsRow b e sz v n xs) (hb : b' ≤ b) : w.ownsRow b' e sz v n xs := by
  obtain ⟨h1, h2⟩ := h
  refine ⟨h1, ?_⟩
  rcases h2 with h2 | ⟨g, cap, cur, hv, hg, r⟩
  · exact .inl h2
  · exact .inr ⟨g, cap, cur, hv, by omega, r⟩

theorem FreshB.add {w0 w w' : World} {X : List Nat} {M : List Res} {a : Option Addr} {n c : Nat} {l : List UInt8} (h : FreshB w w' a n c l) (hS : St w0 X w M) : St w0 X w' (M ++ [.row 5 1 (.slice a n c) n (bv l)]) :=
  hS.add h.1 (ownsRow_base h.2.2 (Nat.zero_le _)) fun k hk => (World.ownsRow.lt h.2.2 k (by simpa [Res.fp] using hk)).1

theorem FreshB.cells {w w' : World} {a : Option Addr} {n c : Nat} {l : List UInt8} (h : FreshB w w' a n c l) : Cells w' a (bv l) := ownsRow_cells (ownsRow_base h.2.2 (Nat.zero_le _))

theorem Sx.St.freshRow {w w' : World} {M : List Res} (hS : St w [] w' M) {i : Nat} {e : TypeId} {sz : Nat} {v : Value} {n : Nat} {xs : List Value} (hi : M[i]? = some (.row e sz v n xs)) : w'.ownsRow w.heap.size e sz v n xs := by
  have h := hS.holds i _ hi
  obtain ⟨h1, h2⟩ := h
  refine ⟨h1, ?_⟩
  rcases h2 with h2 | ⟨g, cap, cur, hv, hg, r⟩
  · exact .inl h2
  · have := hS.own i _ hi g (by subst hv; simp [Res.fp, Value.ownBlock])
    simp at this
    exact .inr ⟨g, cap, cur, hv, this, r⟩

theorem Sx.St.freshB {w w' : World} {M : List Res} (hS : St w [] w' M) {i : Nat} {a : Option Addr} {n c : Nat} {l : List UInt8} (hi : M[i]? = some (.row 5 1 (.slice a n c) n (bv l))) : FreshB w w' a n c l := by
  have h := St.freshRow hS hi
  exact ⟨hS.chg, by have := h.1; simpa using this, h⟩

theorem Sx.St.rdLast {w0 w : World} {X : List Nat} {M : List Res} {e : TypeId} {sz : Nat} {a : Option Addr} {n c : Nat} {xs : List Value} (h : St w0 X w (M ++ [.row e sz (.slice a n c) n xs])) : Rd w a n c sz xs := h.rd (i := M.length) (by rw [List.getElem?_append_right (Nat.le_refl _), Nat.sub_self]; rfl)

theorem FreshB.nil (w : World) : FreshB w w none 0 0 [] := ⟨Chg.refl _ _, rfl, World.ownsRow_nil _ _ _ _⟩

end Go.Proofs.Ytdcgapabphjgbaa
