/- Rows of bytes in their order; lists in strict order (conditions: none). -/
import Derived.Test.YtdcgapabphjgbaaSxSeat
namespace Go.Proofs.Ytdcgapabphjgbaa

def lexLt : List UInt8 → List UInt8 → Bool
  | [], [] => false
  | [], _ :: _ => true
  | _ :: _, [] => false
  | a :: l, b :: m => if a.toNat < b.toNat then true else if b.toNat < a.toNat then false else lexLt l m
theorem lex_irrefl : ∀ l, lexLt l l = false
  | [] => rfl
  | a :: l => by simp [lexLt, lex_irrefl l]
theorem lex_trans : ∀ l m k, lexLt l m = true → lexLt m k = true → lexLt l k = true
  | [], [], _, h, _ => by simp [lexLt] at h
  | [], _ :: _, [], _, h => by simp [lexLt] at h
  | [], _ :: _, _ :: _, _, _ => rfl
  | _ :: _, [], _, h, _ => by simp [lexLt] at h
  | _ :: _, _ :: _, [], _, h => by simp [lexLt] at h
  | a :: l, b :: m, c :: k, h1, h2 => by
    simp only [lexLt] at h1 h2 ⊢
    split at h1
    · split at h2
      · rw [if_pos (by omega)]
      · split at h2
        · cases h2
        · rw [if_pos (by omega)]
    · split at h1
      · cases h1
      · split at h2
        · rw [if_pos (by omega)]
        · split at h2
          · cases h2
          · rw [if_neg (by omega), if_neg (by omega)]
            exact lex_trans l m k h1 h2
theorem lex_tri : ∀ l m, lexLt l m = false → lexLt m l = false → l = m
  | [], [], _, _ => rfl
  | [], _ :: _, h, _ => by simp [lexLt] at h
  | _ :: _, [], _, h => by simp [lexLt] at h
  | a :: l, b :: m, h1, h2 => by
    simp only [lexLt] at h1 h2
    split at h1
    · cases h1
    · split at h2
      · cases h2
      · rename_i n1 n2
        rw [if_neg (by omega)] at h1
        have e : a = b := UInt8.toNat_inj.1 (by omega)
        rw [e, lex_tri l m h1 h2]
theorem lex_asymm {l m : List UInt8} (h : lexLt l m = true) : lexLt m l = false := by
  cases h2 : lexLt m l with
  | false => rfl
  | true => have := lex_trans l m l h h2; rw [lex_irrefl] at this; cases this
theorem lex_ne {l m : List UInt8} (h : lexLt l m = true) : l ≠ m := fun e => by subst e; rw [lex_irrefl] at h; cases h
def lexCmp (l m : List UInt8) : Int := if lexLt l m then -1 else if lexLt m l then 1 else 0
theorem lexCmp_lt (l m : List UInt8) : decide (lexCmp l m < 0) = lexLt l m := by
  unfold lexCmp
  cases h : lexLt l m <;> cases h2 : lexLt m l <;> simp
theorem lexCmp_eq (l m : List UInt8) : lexCmp l m = 0 ↔ l = m := by
  unfold lexCmp
  constructor
  · intro h
    cases h1 : lexLt l m <;> cases h2 : lexLt m l <;> simp [h1, h2] at h
    exact lex_tri l m h1 h2
  · intro h; subst h; simp [lex_irrefl]

/-- Strictly ascending by a key. -/
def AscBy {α : Type} (key : α → List UInt8) : List α → Prop := List.Pairwise fun x y => lexLt (key x) (key y) = true

theorem asc_uniq {α : Type} {key : α → List UInt8} : ∀ {l m : List α}, AscBy key l → AscBy key m → (∀ x, x ∈ l ↔ x ∈ m) → l = m
  | [], [], _, _, _ => rfl
  | [], y :: m, _, _, h => by have := (h y).2 (by simp); simp at this
  | x :: l, [], _, _, h => by have := (h x).1 (by simp); simp at this
  | x :: l, y :: m, h1, h2, h => by
    have a1 := List.pairwise_cons.1 h1
    have a2 := List.pairwise_cons.1 h2
    have e : x = y := by
      have hx := (h x).1 (by simp)
      have hy := (h y).2 (by simp)
      rcases List.mem_cons.1 hx with e | hx
      · exact e
      · rcases List.mem_cons.1 hy with e | hy
        · exact e.symm
        · have c1 := a2.1 x hx
          have c2 := a1.1 y hy
          rw [lex_asymm c1] at c2
          cases c2
    subst e
    rw [asc_uniq a1.2 a2.2 fun z => ?_]
    have hz := h z
    constructor
    · intro hm
      rcases List.mem_cons.1 (hz.1 (List.mem_cons_of_mem _ hm)) with e | hm'
      · subst e; exact absurd rfl (lex_ne (a1.1 z hm))
      · exact hm'
    · intro hm
      rcases List.mem_cons.1 (hz.2 (List.mem_cons_of_mem _ hm)) with e | hm'
      · subst e; exact absurd rfl (lex_ne (a2.1 z hm))
      · exact hm'

theorem asc_nodup {α : Type} {key : α → List UInt8} {l : List α} (h : AscBy key l) {x y : α} (hx : x ∈ l) (hy : y ∈ l) (he : key x = key y) : x = y := by
  induction l with
  | nil => simp at hx
  | cons z l ih =>
    have a := List.pairwise_cons.1 h
    rcases List.mem_cons.1 hx with e1 | h1 <;> rcases List.mem_cons.1 hy with e2 | h2
    · rw [e1, e2]
    · rw [e1] at he; exact absurd he (lex_ne (a.1 y h2))
    · rw [e2] at he; exact absurd he.symm (lex_ne (a.1 x h1))
    · exact ih a.2 h1 h2

/-! ### strings -/
theorem less_lex : ∀ l m : List UInt8, Op.bytesLess l m = lexLt l m
  | [], [] => rfl
  | _ :: _, [] => rfl
  | [], _ :: _ => rfl
  | a :: l, b :: m => by
    simp only [Op.bytesLess, lexLt, less_lex l m]
    by_cases h1 : a.toNat < b.toNat
    · have : a < b := UInt8.lt_iff_toNat_lt.2 h1
      simp [h1, this]
    · have h2 : ¬ a < b := fun h => h1 (UInt8.lt_iff_toNat_lt.1 h)
      by_cases h3 : b.toNat < a.toNat
      · have : a ≠ b := fun e => by rw [e] at h3; omega
        simp [h1, h2, h3, this]
      · have : a = b := UInt8.toNat_inj.1 (by omega)
        simp [h1, h2, h3, this]
theorem lex_gt (l m : List UInt8) : (!(lexLt l m || (l == m))) = lexLt m l := by
  cases h1 : lexLt l m with
  | true =>
    cases h2 : lexLt m l with
    | false => rfl
    | true => have := lex_trans _ _ _ h1 h2; rw [lex_irrefl] at this; cases this
  | false =>
    by_cases h3 : l = m
    · subst h3; rw [lex_irrefl]; simp
    · have : (l == m) = false := beq_eq_false_iff_ne.2 h3
      rw [this]
      cases h2 : lexLt m l with
      | true => rfl
      | false => exact absurd (lex_tri _ _ h1 h2) h3

namespace Sx
def strV (l : List UInt8) : Value := .string ⟨l.toArray⟩
end Sx

end Go.Proofs.Ytdcgapabphjgbaa
