/- Numbers on the wire, in plain words (conditions: none). -/
import Derived.Test.YtlhhmoljlmmnoaaDoorSxInt
namespace Go.Proofs.YtlhhmoljlmmnoaaDoor
open Go Sx
set_option maxRecDepth 8000

/-- A short number's bytes. -/
def varL (n : Nat) : List UInt8 := if h : n < 128 then [UInt8.ofNat n] else UInt8.ofNat (n % 128 + 128) :: varL (n / 128)
termination_by n
decreasing_by omega

theorem varL_small {n : Nat} (h : n < 128) : varL n = [UInt8.ofNat n] := by rw [varL]; simp [h]
theorem varL_big {n : Nat} (h : ¬ n < 128) : varL n = UInt8.ofNat (n % 128 + 128) :: varL (n / 128) := by rw [varL]; simp [h]
theorem varL_pos (n : Nat) : 0 < (varL n).length := by rw [varL]; split <;> simp

theorem varL_len : ∀ (k n : Nat), n < 128 ^ k → 0 < k → (varL n).length ≤ k
  | 0, _, _, h => by omega
  | k + 1, n, hn, _ => by
    by_cases h : n < 128
    · rw [varL_small h]; simp
    · rw [varL_big h]
      have hk : 0 < k := by
        rcases Nat.eq_zero_or_pos k with rfl | h'
        · simp at hn; omega
        · exact h'
      have := varL_len k (n / 128) (by rw [Nat.pow_succ] at hn; exact Nat.div_lt_of_lt_mul (by rw [Nat.mul_comm]; exact hn)) hk
      simp only [List.length_cons]
      omega

/-- What a short number's bytes say: the number and how many bytes; none: they say nothing. Read from byte i on, n gathered. -/
def rdVar : Nat → List UInt8 → Nat → Nat → Option (Nat × Nat)
  | 0, _, _, _ => none
  | f + 1, l, i, n => match l with
    | [] => none
    | b :: r => if b.toNat < 128 then (if b.toNat = 0 ∧ 0 < i then none else some (n + b.toNat * 128 ^ i, i + 1)) else rdVar f r (i + 1) (n + (b.toNat - 128) * 128 ^ i)

def readVarF (l : List UInt8) : Option (Nat × Nat) := rdVar 9 l 0 0

/-- A long number's bytes. -/
def numL (u : Nat) : List UInt8 := (List.range 8).map fun k => UInt8.ofNat (u / 256 ^ (7 - k) % 256)
theorem numL_len (u : Nat) : (numL u).length = 8 := by simp [numL]
theorem numL_get (u k : Nat) (hk : k < 8) : (numL u)[k]? = some (UInt8.ofNat (u / 256 ^ (7 - k) % 256)) := by simp [numL, hk]

def beNat (l : List UInt8) : Nat := l.foldl (fun a b => a * 256 + b.toNat) 0

theorem beNat_lt (l : List UInt8) : beNat l < 256 ^ l.length := by
  have key : ∀ (l : List UInt8) (a k : Nat), a < 256 ^ k → l.foldl (fun a b => a * 256 + b.toNat) a < 256 ^ (k + l.length) := by
    intro l
    induction l with
    | nil => intro a k h; simpa using h
    | cons b l ih =>
      intro a k h
      have hb := b.toNat_lt
      have := ih (a * 256 + b.toNat) (k + 1) (by rw [Nat.pow_succ]; omega)
      simp only [List.foldl_cons, List.length_cons]
      rw [show k + (l.length + 1) = k + 1 + l.length by omega]
      exact this
  have := key l 0 0 (by decide)
  simpa [beNat] using this

theorem beNat_snoc (l : List UInt8) (b : UInt8) : beNat (l ++ [b]) = beNat l * 256 + b.toNat := by simp [beNat]

/-- What eight bytes say. -/
def readNumF (l : List UInt8) : Option Int := if l.length = 8 then some (IntKind.wrap .i64 (beNat l : Int)) else none

end Go.Proofs.YtlhhmoljlmmnoaaDoor
