/- Words of 32 bits in plain numbers, and the model's operations on them (conditions: none). -/
import Derived.Test.YtmdandkoajocpaaGreatDoorSxMem
import Derived.Test.YtmdandkoajocpaaGreatDoorSxSeat
namespace Go.Proofs.YtmdandkoajocpaaGreatDoor
open Go Sx
set_option maxRecDepth 8000

def rotl (x n : Nat) : Nat := (x * 2 ^ n % 4294967296) ||| (x / 2 ^ (32 - n))
def add32 (a b : Nat) : Nat := (a + b) % 4294967296
theorem rotl_lt {x : Nat} (n : Nat) (h : x < 4294967296) : rotl x n < 4294967296 := Nat.or_lt_two_pow (n := 32) (Nat.mod_lt _ (by decide)) (Nat.lt_of_le_of_lt (Nat.div_le_self _ _) h)
theorem add32_lt (a b : Nat) : add32 a b < 4294967296 := Nat.mod_lt _ (by decide)
theorem xor_lt {a b : Nat} (ha : a < 4294967296) (hb : b < 4294967296) : a ^^^ b < 4294967296 := Nat.xor_lt_two_pow (n := 32) ha hb

/-- Numbers that fit 32 bits. -/
def Lt32 (l : List Nat) : Prop := ∀ i, l.getD i 0 < 4294967296

theorem getD_set_self {l : List Nat} {i v : Nat} (h : i < l.length) : (l.set i v).getD i 0 = v := by simp [List.getD, h]
theorem getD_set_ne {l : List Nat} {i j v : Nat} (h : i ≠ j) : (l.set i v).getD j 0 = l.getD j 0 := by simp [List.getD, List.getElem?_set, h]
theorem Lt32.set {l : List Nat} (h : Lt32 l) (i : Nat) {v : Nat} (hv : v < 4294967296) : Lt32 (l.set i v) := by
  intro j
  by_cases e : i = j
  · subst e
    by_cases hi : i < l.length
    · rw [getD_set_self hi]; exact hv
    · rw [List.set_eq_of_length_le (by omega)]; exact h i
  · rw [getD_set_ne e]; exact h j

/-- A row that is filled up to i. -/
def upTo (l : List UInt8) (i : Nat) : List UInt8 := l.take i ++ List.replicate (l.length - i) 0
@[simp] theorem upTo_len {l : List UInt8} {i : Nat} (h : i ≤ l.length) : (upTo l i).length = l.length := by simp [upTo]; omega
theorem upTo_zero (l : List UInt8) : upTo l 0 = List.replicate l.length 0 := by simp [upTo]
theorem upTo_all (l : List UInt8) : upTo l l.length = l := by simp [upTo]
theorem upTo_set {l : List UInt8} {i : Nat} {b : UInt8} (h : l[i]? = some b) : (upTo l i).set i b = upTo l (i + 1) := by
  have hi : i < l.length := (List.getElem?_eq_some_iff.1 h).1
  have hlen : (l.take i).length = i := by rw [List.length_take]; omega
  rw [upTo, upTo, List.set_append_right _ _ (by omega), hlen, Nat.sub_self, show l.length - i = (l.length - (i + 1)) + 1 by omega, List.replicate_succ, List.set_cons_zero, List.take_add_one, h]
  simp

theorem rotl_val (x n : Nat) (hx : x < 4294967296) (hn : n < 32) (h0 : 0 < n) : bor .u32 (shlI .u32 (x : Int) ((n : Nat) : Int)) (shrI .u32 (x : Int) ((32 - n : Nat) : Int)) = ((rotl x n : Nat) : Int) := by
  rw [shl_nat rfl _ _ (show n ≤ 32 by omega), shr_nat _ _ _ (show 32 - n ≤ 32 by omega), bor_nat rfl (by simp only [kmod, IntKind.bits]; exact Nat.mod_lt _ (by decide)) (by simp only [kmod, IntKind.bits]; exact Nat.lt_of_le_of_lt (Nat.div_le_self _ _) hx)]
  rfl

theorem xor_val {a b : Nat} (ha : a < 4294967296) (hb : b < 4294967296) : bxor .u32 (a : Int) (b : Int) = ((a ^^^ b : Nat) : Int) := bxor_nat rfl (by simpa [kmod, IntKind.bits] using ha) (by simpa [kmod, IntKind.bits] using hb)
theorem add_val (a b : Nat) : IntKind.wrap .u32 ((a : Int) + (b : Int)) = ((add32 a b : Nat) : Int) := by rw [wrap_u32, add32]; omega

theorem shl_val {x n : Nat} (hn : n ≤ 32) : shlI .u32 (x : Int) ((n : Nat) : Int) = ((x * 2 ^ n % 4294967296 : Nat) : Int) := shl_nat rfl _ _ hn
theorem or_val {a b : Nat} (ha : a < 4294967296) (hb : b < 4294967296) : bor .u32 (a : Int) (b : Int) = ((a ||| b : Nat) : Int) := bor_nat rfl (by simpa [kmod, IntKind.bits] using ha) (by simpa [kmod, IntKind.bits] using hb)
theorem wrap_u32_nat {n : Nat} (h : n < 4294967296) : IntKind.wrap .u32 (n : Int) = (n : Int) := wrap_uns rfl (by simpa [kmod, IntKind.bits] using h)

theorem ix0 {w : World} {a : Option Addr} {n : Nat} {l : List UInt8} {K : Prop} (hc : Cells w a (bv l)) (hn : l.length = n) (j : Nat) (hj : j < n) (hK : ∀ b o, a = some ⟨b, o, none⟩ → (∀ w', Cells w' a (bv l) → (Instr.loadAt 5 (.pointer (some ⟨b, o + Int.toNat (j : Int) * 1, none⟩))).run Tryz.prog w' = .ok (.int .u8 ((l.getD j 0).toNat : Int)) w') → K) : K := by
  have hv : (bv l)[j]? = some (.int .u8 ((l.getD j 0).toNat : Int)) := bv_getD (by omega)
  obtain ⟨b, o, ha, hcell⟩ := hc.at_ hv
  refine hK b o ha fun w' hc' => ?_
  obtain ⟨b', o', ha', hcell'⟩ := hc'.at_ hv
  rw [ha] at ha'
  simp only [Option.some.injEq, Addr.mk.injEq, and_true] at ha'
  obtain ⟨rfl, rfl⟩ := ha'
  rw [show o + Int.toNat (j : Int) * 1 = o + j by omega]
  exact ld1 (bA _) hcell'

end Go.Proofs.YtmdandkoajocpaaGreatDoor
