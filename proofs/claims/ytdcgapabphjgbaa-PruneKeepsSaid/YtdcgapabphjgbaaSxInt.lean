/- Whole numbers as the model reckons them (conditions: none). -/
import Derived.Test.YtdcgapabphjgbaaSxMem
namespace Go.Proofs.Ytdcgapabphjgbaa.Sx
open Go
set_option maxRecDepth 8000

theorem wrap_u8 (n : Int) : IntKind.wrap .u8 n = n % 256 := by simp [IntKind.wrap, IntKind.bits, IntKind.signed]
theorem wrap_u16 (n : Int) : IntKind.wrap .u16 n = n % 65536 := by simp [IntKind.wrap, IntKind.bits, IntKind.signed]
theorem wrap_u32 (n : Int) : IntKind.wrap .u32 n = n % 4294967296 := by simp [IntKind.wrap, IntKind.bits, IntKind.signed]
theorem wrap_u64 (n : Int) : IntKind.wrap .u64 n = n % 18446744073709551616 := by simp [IntKind.wrap, IntKind.bits, IntKind.signed]
theorem wrap_i64 {n : Int} (h0 : -9223372036854775808 ≤ n) (h1 : n < 9223372036854775808) : IntKind.wrap .i64 n = n := by
  simp only [IntKind.wrap, IntKind.bits, IntKind.signed, Bool.true_and, ge_iff_le, decide_eq_true_eq]
  have e1 : (2 : Int) ^ 64 = 18446744073709551616 := by decide
  have e2 : (2 : Int) ^ (64 - 1) = 9223372036854775808 := by decide
  rw [e1, e2]
  split <;> omega
theorem wrap_i64_nat (n : Nat) (h : n < 9223372036854775808) : IntKind.wrap .i64 (n : Int) = n := wrap_i64 (by omega) (by omega)

theorem wrap_i64_of (n : Int) : IntKind.wrap .i64 n = if n % 18446744073709551616 < 9223372036854775808 then n % 18446744073709551616 else n % 18446744073709551616 - 18446744073709551616 := by
  simp only [IntKind.wrap, IntKind.bits, IntKind.signed, Bool.true_and, ge_iff_le, decide_eq_true_eq]
  have e1 : (2 : Int) ^ 64 = 18446744073709551616 := by decide
  have e2 : (2 : Int) ^ (64 - 1) = 9223372036854775808 := by decide
  rw [e1, e2]
  split <;> split <;> omega

theorem ofInt_nat (n w : Nat) : BitVec.ofInt w (n : Int) = BitVec.ofNat w n := by
  apply BitVec.eq_of_toNat_eq
  simp

def kmod (k : IntKind) : Nat := 2 ^ k.bits

theorem wrap_uns {k : IntKind} (hk : k.signed = false) {n : Nat} (h : n < kmod k) : IntKind.wrap k (n : Int) = n := by
  simp only [IntKind.wrap, hk, Bool.false_and, Bool.false_eq_true, if_false]
  have : ((2 : Int) ^ k.bits) = ((kmod k : Nat) : Int) := by simp [kmod]
  rw [this]
  exact Int.emod_eq_of_lt (by omega) (by omega)

theorem band_nat {k : IntKind} (hk : k.signed = false) {a b : Nat} (ha : a < kmod k) (hb : b < kmod k) : band k (a : Int) (b : Int) = ((a &&& b : Nat) : Int) := by
  unfold band
  rw [ofInt_nat, ofInt_nat]
  simp only [BitVec.toNat_and, BitVec.toNat_ofNat]
  rw [Nat.mod_eq_of_lt (show a < 2 ^ k.bits from ha), Nat.mod_eq_of_lt (show b < 2 ^ k.bits from hb)]
  exact wrap_uns hk (Nat.lt_of_le_of_lt Nat.and_le_left ha)

theorem bor_nat {k : IntKind} (hk : k.signed = false) {a b : Nat} (ha : a < kmod k) (hb : b < kmod k) : bor k (a : Int) (b : Int) = ((a ||| b : Nat) : Int) := by
  unfold bor
  rw [ofInt_nat, ofInt_nat]
  simp only [BitVec.toNat_or, BitVec.toNat_ofNat]
  rw [Nat.mod_eq_of_lt (show a < 2 ^ k.bits from ha), Nat.mod_eq_of_lt (show b < 2 ^ k.bits from hb)]
  exact wrap_uns hk (Nat.or_lt_two_pow ha hb)

theorem bxor_nat {k : IntKind} (hk : k.signed = false) {a b : Nat} (ha : a < kmod k) (hb : b < kmod k) : bxor k (a : Int) (b : Int) = ((a ^^^ b : Nat) : Int) := by
  unfold bxor
  rw [ofInt_nat, ofInt_nat]
  simp only [BitVec.toNat_xor, BitVec.toNat_ofNat]
  rw [Nat.mod_eq_of_lt (show a < 2 ^ k.bits from ha), Nat.mod_eq_of_lt (show b < 2 ^ k.bits from hb)]
  exact wrap_uns hk (Nat.xor_lt_two_pow ha hb)

theorem shr_nat (k : IntKind) (a n : Nat) (hn : n ≤ k.bits) : shrI k (a : Int) (n : Int) = ((a / 2 ^ n : Nat) : Int) := by
  unfold shrI
  rw [Int.toNat_natCast, Nat.min_eq_left hn]
  rw [Int.fdiv_eq_ediv_of_nonneg _ (by exact_mod_cast Nat.zero_le _)]
  simp

theorem shl_nat {k : IntKind} (hk : k.signed = false) (a n : Nat) (hn : n ≤ k.bits) : shlI k (a : Int) (n : Int) = ((a * 2 ^ n % kmod k : Nat) : Int) := by
  unfold shlI
  rw [Int.toNat_natCast, Nat.min_eq_left hn]
  simp only [IntKind.wrap, hk, Bool.false_and, Bool.false_eq_true, if_false, kmod]
  simp

theorem wrap_succ {i n : Nat} (h : i < n) (hn : n ≤ 4611686018427387904) : IntKind.wrap .i64 ((i : Int) + 1) = ((i + 1 : Nat) : Int) := by rw [wrap_i64 (by omega) (by omega)]; rfl
theorem mu_succ {i n : Nat} (h : i < n) (hn : n ≤ 4611686018427387904) : n - (IntKind.wrap .i64 ((i : Int) + 1)).toNat < n - ((i : Int)).toNat := by rw [wrap_succ h hn]; omega

/-- bytes -/
theorem u8_lt (b : UInt8) : (b.toNat : Int) < 256 := by have := b.toNat_lt; omega

end Go.Proofs.Ytdcgapabphjgbaa.Sx
