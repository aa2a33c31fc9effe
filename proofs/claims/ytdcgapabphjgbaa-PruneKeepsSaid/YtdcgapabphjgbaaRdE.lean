/- Rows of things of several cells each (conditions: none; any program). -/
import Derived.Test.YtdcgapabphjgbaaSxArr
namespace Go.Proofs.Ytdcgapabphjgbaa.Sx
open Go
set_option maxRecDepth 8000

theorem flatMap_len {α β : Type} {enc : α → List β} {k : Nat} : ∀ {l : List α}, (∀ x ∈ l, (enc x).length = k) → (l.flatMap enc).length = k * l.length
  | [], _ => by simp
  | x :: l, h => by
    rw [List.flatMap_cons, List.length_append, flatMap_len fun y hy => h y (by simp [hy]), h x (by simp), List.length_cons, Nat.mul_succ]
    omega

theorem flatMap_drop {α β : Type} {enc : α → List β} {k : Nat} : ∀ {l : List α} (i : Nat), (∀ x ∈ l, (enc x).length = k) → (l.flatMap enc).drop (i * k) = (l.drop i).flatMap enc
  | l, 0, _ => by simp
  | [], i + 1, _ => by simp
  | x :: l, i + 1, h => by
    have hx := h x (by simp)
    rw [List.flatMap_cons, List.drop_succ_cons, ← flatMap_drop i fun y hy => h y (by simp [hy])]
    rw [show (i + 1) * k = (enc x).length + i * k by rw [hx, Nat.succ_mul]; omega, List.drop_append]
    rw [List.drop_of_length_le (by omega), List.nil_append]
    congr 1
    omega

theorem flatMap_take {α β : Type} {enc : α → List β} {k : Nat} : ∀ {l : List α} (i : Nat), (∀ x ∈ l, (enc x).length = k) → (l.flatMap enc).take (i * k) = (l.take i).flatMap enc
  | l, 0, _ => by simp
  | [], i + 1, _ => by simp
  | x :: l, i + 1, h => by
    have hx := h x (by simp)
    rw [List.flatMap_cons, List.take_succ_cons, List.flatMap_cons, ← flatMap_take i fun y hy => h y (by simp [hy])]
    rw [show (i + 1) * k = (enc x).length + i * k by rw [hx, Nat.succ_mul]; omega, List.take_append]
    rw [List.take_of_length_le (by omega)]
    congr 2
    omega

theorem flatMap_at {α β : Type} {enc : α → List β} {k : Nat} {l : List α} (h : ∀ x ∈ l, (enc x).length = k) {i j : Nat} {x : α} (hx : l[i]? = some x) (hj : j < k) : (l.flatMap enc)[i * k + j]? = (enc x)[j]? := by
  rw [← List.getElem?_drop, flatMap_drop i h]
  have hi := (List.getElem?_eq_some_iff.1 hx).1
  rw [List.drop_eq_getElem_cons hi]
  have e : l[i] = x := (List.getElem?_eq_some_iff.1 hx).2
  rw [e, List.flatMap_cons, List.getElem?_append_left (by rw [h x (List.mem_of_getElem? hx)]; exact hj)]

/-- A row of things of k cells each that may be read. -/
structure RdE {α : Type} (enc : α → List Value) (k : Nat) (w : World) (a : Option Addr) (n c : Nat) (l : List α) : Prop where
  rd : Rd w a n c k (l.flatMap enc)
  len : ∀ x ∈ l, (enc x).length = k

section
variable {P : Program} {α : Type} {enc : α → List Value} {k : Nat} {w w' : World} {a : Option Addr} {n c : Nat} {l : List α}

theorem RdE.num (h : RdE enc k w a n c l) (hk : 0 < k) : l.length = n := by
  have h1 := h.rd.len
  rw [flatMap_len h.len, Nat.mul_comm] at h1
  exact Nat.eq_of_mul_eq_mul_right hk h1
theorem RdE.keep0 (h : RdE enc k w a n c l) (hc : Chg [] w w') : RdE enc k w' a n c l := ⟨h.rd.keep0 hc, h.len⟩
theorem RdE.nil (w : World) : RdE enc k w none 0 0 [] := ⟨⟨Cells.nil _ _, by simp, Nat.le_refl _, fun _ => rfl⟩, by simp⟩

/-- The cells of one thing of a row: its place hangs on the row alone. -/
theorem RdE.at_ (h : RdE enc k w a n c l) (hk : 0 < k) {i : Nat} {x : α} (hx : l[i]? = some x) : ∃ b o, a = some ⟨b, o, none⟩ ∧ ∀ w', RdE enc k w' a n c l → w'.rangeAt b (o + i * k) (enc x) := by
  have key : ∀ w', RdE enc k w' a n c l → ∃ b o, a = some ⟨b, o, none⟩ ∧ w'.rangeAt b (o + i * k) (enc x) := by
    intro w' h'
    rcases h'.rd.cells with h0 | ⟨b, o, rfl, hr⟩
    · have h1 := flatMap_len h'.len
      rw [h0] at h1
      have := (List.getElem?_eq_some_iff.1 hx).1
      simp only [List.length_nil] at h1
      rcases Nat.mul_eq_zero.1 h1.symm with h2 | h2 <;> omega
    · refine ⟨b, o, rfl, fun j v hv => ?_⟩
      have hj : j < k := by have := (List.getElem?_eq_some_iff.1 hv).1; have := h'.len x (List.mem_of_getElem? hx); omega
      have := hr (i * k + j) v (by rw [flatMap_at h'.len hx hj]; exact hv)
      rw [Nat.add_assoc]
      exact this
  obtain ⟨b, o, rfl, _⟩ := key w h
  refine ⟨b, o, rfl, fun w' h' => ?_⟩
  obtain ⟨b', o', e, hr⟩ := key w' h'
  simp only [Option.some.injEq, Addr.mk.injEq, and_true] at e
  obtain ⟨rfl, rfl⟩ := e
  exact hr

/-- A thing of a row, loaded whole. -/
theorem RdE.ld (h : RdE enc k w a n c l) (hk : 0 < k) {T : TypeId} (hA : ∀ w, (isAgg T).run P w = .ok true w) (hS : ∀ w, (sizeOf T).run P w = .ok k w) {i : Nat} {x : α} (hx : l[i]? = some x) :
    ∃ b o, a = some ⟨b, o, none⟩ ∧ ∀ w', RdE enc k w' a n c l → (Instr.loadAt T (.pointer (some ⟨b, o + Int.toNat (i : Int) * k, none⟩))).run P w' = .ok (.agg (enc x).toArray) w' := by
  obtain ⟨b, o, rfl, hr⟩ := h.at_ hk hx
  refine ⟨b, o, rfl, fun w' h' => ?_⟩
  have := loadCells_cells (P := P) (hr w' h')
  rw [h'.len x (List.mem_of_getElem? hx)] at this
  rw [Int.toNat_natCast]
  simp [Instr.loadAt, Instr.sureAddr, loadVar, hA, hS, this]

theorem RdE.sub (h : RdE enc k w a n c l) {a' : Option Addr} {lo hh m : Nat} (hs : SubA k a lo m a') (h1 : lo ≤ hh) (h2 : hh ≤ n) (h3 : hh ≤ m) (h4 : m ≤ c) : RdE enc k w a' (hh - lo) (m - lo) ((l.drop lo).take (hh - lo)) := by
  have hl : ∀ x ∈ (l.drop lo).take (hh - lo), (enc x).length = k := fun x hx => h.len x (List.mem_of_mem_drop (List.mem_of_mem_take hx))
  refine ⟨?_, hl⟩
  have := h.rd.sub hs h1 h2 h3 h4
  rw [flatMap_drop lo h.len, flatMap_take (hh - lo) fun x hx => h.len x (List.mem_of_mem_drop hx)] at this
  exact this
end

theorem RdE.fld {P : Program} {α : Type} {enc : α → List Value} {k : Nat} {w : World} {a : Option Addr} {n c : Nat} {l : List α} (h : RdE enc k w a n c l) (hk : 0 < k) {T : TypeId} (hA : ∀ w, (isAgg T).run P w = .ok false w) {i j : Nat} {x : α} {v : Value} (hx : l[i]? = some x) (hv : (enc x)[j]? = some v) :
    ∃ b o, a = some ⟨b, o, none⟩ ∧ ∀ w', RdE enc k w' a n c l → (Instr.loadAt T (.pointer (some ⟨b, o + Int.toNat (i : Int) * k + j, none⟩))).run P w' = .ok v w' := by
  obtain ⟨b, o, rfl, hr⟩ := h.at_ hk hx
  refine ⟨b, o, rfl, fun w' h' => ?_⟩
  rw [Int.toNat_natCast]
  exact ld1 (hA _) (hr w' h' j v hv)

end Go.Proofs.Ytdcgapabphjgbaa.Sx
