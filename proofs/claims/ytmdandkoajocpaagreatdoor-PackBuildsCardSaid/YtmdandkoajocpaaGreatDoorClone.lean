/- New slices where a block has changed; slices.Clone (conditions: those that each theorem names). -/
import Derived.Test.YtmdandkoajocpaaGreatDoorLists
import Derived.Test.YtmdandkoajocpaaGreatDoorVnum
namespace Go.Proofs.YtmdandkoajocpaaGreatDoor
open Go Sx
set_option maxRecDepth 8000

theorem rdNil (w : World) : RdB w none 0 0 [] := ⟨Cells.nil _ _, rfl, Nat.le_refl _, fun _ => rfl⟩

/-- A new slice of bytes, in memory of its own, where some blocks may have changed. -/
def FreshX (X : List Nat) (w w' : World) (a : Option Addr) (n c : Nat) (l : List UInt8) : Prop :=
  Chg X w w' ∧ l.length = n ∧ w'.ownsRow w.heap.size 5 1 (.slice a n c) n (bv l)

theorem FreshX.of_B {w w' : World} {a : Option Addr} {n c : Nat} {l : List UInt8} (h : FreshB w w' a n c l) : FreshX [] w w' a n c l := h

theorem FreshX.addBlk {w0 w w' : World} {X : List Nat} {M : List Res} {g i : Nat} {o o' : Obj} {a : Option Addr} {n c : Nat} {l : List UInt8} (h : FreshX [g] w w' a n c l) (hS : St w0 X w M) (hi : M[i]? = some (.blk g o)) (hg : w'.heap[g]? = some o') :
    St w0 X w' (M.set i (.blk g o') ++ [.row 5 1 (.slice a n c) n (bv l)]) := by
  have hlt := (Array.getElem?_eq_some_iff.1 (show w.heap[g]? = some o from hS.holds i _ hi)).1
  have hn : ∀ k ∈ (Res.row 5 1 (.slice a n c) n (bv l)).fp, w.heap.size ≤ k := fun k hk => (World.ownsRow.lt h.2.2 k (by simpa [Res.fp] using hk)).1
  refine hS.updAdd hi h.1 hg (by simp [Res.fp]) (ownsRow_base h.2.2 (Nat.zero_le _)) hn (fun k hk hk' => ?_)
  have := hn k hk'
  simp [Res.fp] at hk
  omega

theorem clone_spec (a : Option Addr) (n c : Nat) (l : List UInt8) (w : World) (hr : RdB w a n c l) (hb : n ≤ 140737488355000) :
    Calls Tryz.prog 54 #[.slice a n c] w fun e w' => ∃ a' c', e = .returned (.slice a' n c') ∧ FreshB w w' a' n c' l := by
  apply slices_Clone_byte_byte_vc
  have hl := hr.lenB
  refine ⟨fun h => ?_, fun _ => ?_⟩
  · have ha : a = none := by cases a with
      | none => rfl
      | some _ => simp at h
    have hc := hr.nil ha
    have hle := hr.le
    obtain rfl : n = 0 := by omega
    obtain rfl : l = [] := List.eq_nil_of_length_eq_zero hl
    exact ⟨_, _, rfl, FreshB.nil _⟩
  · obtain ⟨g, w1, r1, h1⟩ := (St.start w).lit bT [] (by simp) (by simp)
    obtain ⟨va, vc, w2, r2, h2⟩ := h1.appendB (i := 0) (xs := []) rfl (h1.rd1 hr) (by simp; omega)
    simp only [List.length_nil, Nat.zero_add, List.nil_append] at r2 h2
    exact ⟨_, _, _, _, r1, _, _, _, _, r2, _, _, rfl, h2.freshB (i := 0) rfl⟩

/-- Fresh behind a step that changed a block. -/
theorem FreshB.after {X : List Nat} {w w1 w' : World} {a : Option Addr} {n c : Nat} {l : List UInt8} (h : FreshB w1 w' a n c l) (hc : Chg X w w1) : FreshX X w w' a n c l := by
  refine ⟨hc.trans' h.1 (by simp), h.2.1, ?_⟩
  exact ownsRow_base h.2.2 hc.size

theorem rdB_upto {w : World} {a : Option Addr} {n c k : Nat} {l : List UInt8} (h : RdB w a n c l) (hk : k ≤ n) : RdB w a k c (l.take k) := by
  have h0 : SubA 1 a 0 c a := ⟨fun _ => rfl, fun _ => by cases a <;> simp [Addr.add]⟩
  have := h.sub h0 (hh := k) (by omega) hk (by have := h.le; omega) (Nat.le_refl _)
  have e2 : ((bv l).drop (0 * 1)).take ((k - 0) * 1) = bv (l.take k) := by simp [bv_take]
  rw [e2] at this
  exact this

theorem FreshB.rdB {w w' : World} {a : Option Addr} {n c : Nat} {l : List UInt8} (h : FreshB w w' a n c l) : RdB w' a n c l := (h.add (St.start w)).rd (i := 0) rfl

end Go.Proofs.YtmdandkoajocpaaGreatDoor
