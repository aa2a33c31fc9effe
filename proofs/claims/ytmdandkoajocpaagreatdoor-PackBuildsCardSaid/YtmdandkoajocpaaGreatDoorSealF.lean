/- What keys, blobs and identifiers are, in plain bytes; strings as bytes (conditions: none). -/
import Derived.Test.YtmdandkoajocpaaGreatDoorShaT
import Derived.Test.YtmdandkoajocpaaGreatDoorChaE
import Derived.Test.YtmdandkoajocpaaGreatDoorWireB
import Derived.Lib.ConvBytes
namespace Go.Proofs.YtmdandkoajocpaaGreatDoor
open Go Sx
set_option maxRecDepth 8000

def der32 (salt secret info : List UInt8) : List UInt8 := deriveF salt secret info 32
@[simp] theorem der32_len (salt secret info : List UInt8) : (der32 salt secret info).length = 32 := deriveF_len _ _ _ _
def amphL : List UInt8 := [97, 109, 112, 104, 111, 114, 97]
def masterF (m : List UInt8) : List UInt8 := der32 amphL m [99, 105, 112, 104, 101, 114] ++ der32 amphL m [109, 97, 99] ++ der32 amphL m [110, 97, 109, 101]
@[simp] theorem masterF_len (m : List UInt8) : (masterF m).length = 96 := by simp [masterF]

def ciphK (K : List UInt8) : List UInt8 := K.take 32
def macKy (K : List UInt8) : List UInt8 := (K.drop 32).take 32
def nameK (K : List UInt8) : List UInt8 := (K.drop 64).take 32

def tagF (K : List UInt8) (kind : UInt8) (ctx nonce body : List UInt8) : List UInt8 := macF (macKy K) (packL [[kind], ctx, nonce, body])
@[simp] theorem tagF_len (K : List UInt8) (kind : UInt8) (ctx nonce body : List UInt8) : (tagF K kind ctx nonce body).length = 32 := macF_len _ _
def nonceF (K : List UInt8) (kind : UInt8) (ctx plain : List UInt8) : List UInt8 := (macF (nameK K) (packL [[kind], ctx, plain])).take 12
@[simp] theorem nonceF_len (K : List UInt8) (kind : UInt8) (ctx plain : List UInt8) : (nonceF K kind ctx plain).length = 12 := by rw [nonceF, List.length_take, macF_len]; rfl
def overF (K nonce b : List UInt8) : List UInt8 := xorR (ciphK K) nonce 0 b
def sealF (K : List UInt8) (kind : UInt8) (ctx plain : List UInt8) : List UInt8 :=
  [kind] ++ nonceF K kind ctx plain ++ overF K (nonceF K kind ctx plain) plain ++ tagF K kind ctx (nonceF K kind ctx plain) (overF K (nonceF K kind ctx plain) plain)
def bNonce (b : List UInt8) : List UInt8 := (b.drop 1).take 12
def bBody (b : List UInt8) : List UInt8 := (b.drop 13).take (b.length - 45)
def bTag (b : List UInt8) : List UInt8 := b.drop (b.length - 32)
def openF (K : List UInt8) (kind : UInt8) (ctx b : List UInt8) : Option (List UInt8) :=
  if b.length < 45 ∨ b.getD 0 0 ≠ kind then none else if tagF K kind ctx (bNonce b) (bBody b) = bTag b then some (overF K (bNonce b) (bBody b)) else none
def idF (K plain : List UInt8) : List UInt8 := macF (nameK K) (packL [[99, 104, 117, 110, 107], plain])
def underF (pw salt : List UInt8) : List UInt8 := masterF (der32 salt pw [107, 101, 121])

/-- A string's bytes, as a slice. -/
theorem toBytes (s : ByteArray) (l : List UInt8) (hs : s = ⟨l.toArray⟩) (w : World) : ∃ g c w', (convert 9 33 (.string s)).run Tryz.prog w = .ok (.slice (some ⟨g, 0, none⟩) l.length c) w' ∧ Chg [] w w' ∧ RdB w' (some ⟨g, 0, none⟩) l.length c l ∧ w.heap.size ≤ g := by
  subst hs
  have hsz : (ByteArray.mk l.toArray).size = l.length := by simp [ByteArray.size]
  have hr := Lib.run_convert_string_bytes (P := Tryz.prog) w 9 33 5 ⟨l.toArray⟩ sS bS bE
  rw [hsz] at hr
  refine ⟨_, _, _, hr, ⟨?_, ?_, ?_, by rw [Lib.bytesWorld_size]; omega, fun k hk _ => Lib.bytesWorld_at_old w _ _ k hk⟩, ⟨.inr ⟨_, 0, rfl, fun j v hj => ?_⟩, by simp, grownCap_ge _ _ _ _, by simp⟩, Nat.le_refl _⟩
  · (simp only [Lib.bytesWorld, World.freeze]; split <;> rfl)
  · (simp only [Lib.bytesWorld, World.freeze]; split <;> rfl)
  · (simp only [Lib.bytesWorld, World.freeze]; split <;> rfl)
  · have hjl : j < l.length := by have := (List.getElem?_eq_some_iff.1 hj).1; simpa using this
    rw [Nat.zero_add, Lib.bytesWorld_cell w _ _ j (by rw [hsz]; exact hjl)]
    rw [bv_getD hjl] at hj
    simpa using hj

/-- A slice that is marked as a string's stays what it is. -/
theorem sameSlice (g n c : Nat) (l : List UInt8) (w : World) (hr : RdB w (some ⟨g, 0, none⟩) n c l) (hg : g < w.heap.size) : ∃ w', (convert 33 33 (.slice (some ⟨g, 0, none⟩) n c)).run Tryz.prog w = .ok (.slice (some ⟨g, 0, none⟩) n c) w' ∧ Chg [g] w w' ∧ RdB w' (some ⟨g, 0, none⟩) n c l := by
  have hfz : ∀ (o m : Nat), Chg [g] w (w.freeze ⟨g, o, none⟩ m) ∧ ∀ j, (w.freeze ⟨g, o, none⟩ m).cell? ⟨g, j, none⟩ = w.cell? ⟨g, j, none⟩ := by
    intro o m
    unfold World.freeze
    split
    · exact ⟨Chg.refl _ _, fun _ => rfl⟩
    · refine ⟨⟨rfl, rfl, rfl, by simp, fun k hk hx => ?_⟩, fun j => ?_⟩
      · have : g ≠ k := fun e => hx (by simp [e])
        simp [Array.getElem?_modify, this]
      · simp only [World.cell?, Array.getElem?_modify, if_true]
        cases hc : w.heap[g]? with
        | none => rfl
        | some o => cases o <;> rfl
  have hrd : ∀ w', (∀ j, w'.cell? ⟨g, j, none⟩ = w.cell? ⟨g, j, none⟩) → RdB w' (some ⟨g, 0, none⟩) n c l := fun w' h => by
    refine ⟨?_, hr.len, hr.le, hr.nil⟩
    rcases hr.cells with h0 | ⟨b, o, e, h1⟩
    · exact .inl h0
    · simp only [Option.some.injEq, Addr.mk.injEq, and_true] at e
      obtain ⟨rfl, rfl⟩ := e
      exact .inr ⟨_, _, rfl, fun j v hj => by rw [h]; exact h1 j v hj⟩
  cases hsh : w.shape? g with
  | none => exact ⟨w, by simp [convert, run_underlying bS, run_underlying bE, markStringish, hsh], Chg.refl _ _, hr⟩
  | some p => exact ⟨w.freeze ⟨g, p.2, none⟩ 1, by simp [convert, run_underlying bS, run_underlying bE, markStringish, hsh], (hfz _ _).1, hrd _ (hfz _ _).2⟩

/-- A part of an array of bytes. -/
theorem Sx.St.rdPart {w0 w : World} {X : List Nat} {M : List Res} (h : St w0 X w M) {i g T o n : Nat} {l : List UInt8} (hi : M[i]? = some (.arr g T (bv l))) (ho : o + n ≤ l.length) : RdB w (some ⟨g, o, none⟩) n n ((l.drop o).take n) := by
  refine ⟨.inr ⟨g, o, rfl, fun j u hj => ?_⟩, by simp; omega, Nat.le_refl _, by simp⟩
  have hjn : j < n := by have := (List.getElem?_eq_some_iff.1 hj).1; simp at this; omega
  have h1 : (bv l)[o + j]? = some u := by
    rw [← hj, bv_take, bv_drop, List.getElem?_take, if_pos hjn, List.getElem?_drop]
  have := h.cellsA hi (o + j) u h1
  rwa [Nat.zero_add] at this

end Go.Proofs.YtmdandkoajocpaaGreatDoor
