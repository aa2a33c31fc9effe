/- The block of RFC 8439 in plain numbers (conditions: none). -/
import Derived.Test.YtlhhmoljlmmnoaaDoorWords
namespace Go.Proofs.YtlhhmoljlmmnoaaDoor
open Go Sx
set_option maxRecDepth 8000

def aStep (l : List Nat) (i j : Nat) : List Nat := l.set i (add32 (l.getD i 0) (l.getD j 0))
def xStep (l : List Nat) (i j n : Nat) : List Nat := l.set i (rotl (l.getD i 0 ^^^ l.getD j 0) n)
@[simp] theorem aStep_len (l : List Nat) (i j : Nat) : (aStep l i j).length = l.length := by simp [aStep]
@[simp] theorem xStep_len (l : List Nat) (i j n : Nat) : (xStep l i j n).length = l.length := by simp [xStep]
theorem Lt32.aStep {l : List Nat} (h : Lt32 l) (i j : Nat) : Lt32 (aStep l i j) := h.set i (add32_lt _ _)
theorem Lt32.xStep {l : List Nat} (h : Lt32 l) (i j n : Nat) : Lt32 (xStep l i j n) := h.set i (rotl_lt n (xor_lt (h i) (h j)))

/-- A quarter round of four words of a list. -/
def rnd (l : List Nat) (a b c d : Nat) : List Nat := xStep (aStep (xStep (aStep (xStep (aStep (xStep (aStep l a b) d a 16) c d) b c 12) a b) d a 8) c d) b c 7
@[simp] theorem rnd_len (l : List Nat) (a b c d : Nat) : (rnd l a b c d).length = l.length := by simp [rnd]
theorem Lt32.rnd {l : List Nat} (h : Lt32 l) (a b c d : Nat) : Lt32 (rnd l a b c d) := (((((((h.aStep a b).xStep d a 16).aStep c d).xStep b c 12).aStep a b).xStep d a 8).aStep c d).xStep b c 7

def hA (a b : Nat) : Nat := add32 a b
def hD (a b d m : Nat) : Nat := rotl (d ^^^ add32 a b) m
def hC (a b c d m : Nat) : Nat := add32 c (hD a b d m)
def hB (a b c d m n : Nat) : Nat := rotl (b ^^^ hC a b c d m) n

/-- The four words of a quarter round. -/
def qA (a b c d : Nat) : Nat := hA (hA a b) (hB a b c d 16 12)
def qD (a b c d : Nat) : Nat := hD (hA a b) (hB a b c d 16 12) (hD a b d 16) 8
def qC (a b c d : Nat) : Nat := hC (hA a b) (hB a b c d 16 12) (hC a b c d 16) (hD a b d 16) 8
def qB (a b c d : Nat) : Nat := hB (hA a b) (hB a b c d 16 12) (hC a b c d 16) (hD a b d 16) 8 7

theorem rnd_eq {l : List Nat} {a b c d : Nat} (ha : a < l.length) (hb : b < l.length) (hc : c < l.length) (hd : d < l.length) (ab : a ≠ b) (ac : a ≠ c) (ad : a ≠ d) (bc : b ≠ c) (bd : b ≠ d) (cd : c ≠ d) :
    rnd l a b c d = (((l.set a (qA (l.getD a 0) (l.getD b 0) (l.getD c 0) (l.getD d 0))).set b (qB (l.getD a 0) (l.getD b 0) (l.getD c 0) (l.getD d 0))).set c (qC (l.getD a 0) (l.getD b 0) (l.getD c 0) (l.getD d 0))).set d (qD (l.getD a 0) (l.getD b 0) (l.getD c 0) (l.getD d 0)) := by
  have h1 : ∀ (k : List Nat) (i v : Nat), i < l.length → k.length = l.length → (k.set i v).getD i 0 = v := fun k i v hi hk => getD_set_self (by omega)
  unfold rnd
  simp only [aStep, xStep]
  simp only [h1, getD_set_ne ab, getD_set_ne ac, getD_set_ne ad, getD_set_ne bc, getD_set_ne bd, getD_set_ne cd, getD_set_ne ab.symm, getD_set_ne ac.symm, getD_set_ne ad.symm, getD_set_ne bc.symm, getD_set_ne bd.symm, getD_set_ne cd.symm, ha, hb, hc, hd, List.length_set]
  simp only [qA, qB, qC, qD, hA, hB, hC, hD]
  apply List.ext_getElem?
  intro i
  simp only [List.getElem?_set, List.length_set]
  by_cases e1 : b = i
  · subst e1; simp [hb, bc.symm, bd.symm, ab, cd]
  · by_cases e2 : c = i
    · subst e2; simp [hc, e1, cd.symm]
    · by_cases e3 : d = i
      · subst e3; simp [hd, e1, e2]
      · by_cases e4 : a = i
        · subst e4; simp [ha, e1, e2, e3]
        · simp [e1, e2, e3, e4]

/-- The column rounds, the diagonal rounds. -/
def colR : Nat → List Nat → List Nat
  | 0, l => l
  | k + 1, l => rnd (colR k l) k (4 + k) (8 + k) (12 + k)
def diaR : Nat → List Nat → List Nat
  | 0, l => l
  | k + 1, l => rnd (diaR k l) k (4 + (k + 1) % 4) (8 + (k + 2) % 4) (12 + (k + 3) % 4)
def dblR : Nat → List Nat → List Nat
  | 0, l => l
  | k + 1, l => diaR 4 (colR 4 (dblR k l))

@[simp] theorem colR_len : ∀ (k : Nat) (l : List Nat), (colR k l).length = l.length
  | 0, _ => rfl
  | k + 1, l => by simp [colR, colR_len k l]
@[simp] theorem diaR_len : ∀ (k : Nat) (l : List Nat), (diaR k l).length = l.length
  | 0, _ => rfl
  | k + 1, l => by simp [diaR, diaR_len k l]
@[simp] theorem dblR_len : ∀ (k : Nat) (l : List Nat), (dblR k l).length = l.length
  | 0, _ => rfl
  | k + 1, l => by simp [dblR, dblR_len k l]
theorem Lt32.colR {l : List Nat} (h : Lt32 l) : ∀ k, Lt32 (colR k l)
  | 0 => h
  | k + 1 => (Lt32.colR h k).rnd _ _ _ _
theorem Lt32.diaR {l : List Nat} (h : Lt32 l) : ∀ k, Lt32 (diaR k l)
  | 0 => h
  | k + 1 => (Lt32.diaR h k).rnd _ _ _ _
theorem Lt32.dblR {l : List Nat} (h : Lt32 l) : ∀ k, Lt32 (dblR k l)
  | 0 => h
  | k + 1 => ((Lt32.dblR h k).colR 4).diaR 4

/-- Four bytes as a word, the least first. -/
def le4 (l : List UInt8) (o : Nat) : Nat :=
  (((l.getD o 0).toNat ||| (l.getD (o + 1) 0).toNat * 2 ^ 8 % 4294967296) ||| (l.getD (o + 2) 0).toNat * 2 ^ 16 % 4294967296) ||| (l.getD (o + 3) 0).toNat * 2 ^ 24 % 4294967296

theorem le4_lt (l : List UInt8) (o : Nat) : le4 l o < 4294967296 := by
  have h0 := (l.getD o 0).toNat_lt
  exact Nat.or_lt_two_pow (n := 32) (Nat.or_lt_two_pow (n := 32) (Nat.or_lt_two_pow (n := 32) (by omega) (Nat.mod_lt _ (by decide))) (Nat.mod_lt _ (by decide))) (Nat.mod_lt _ (by decide))

/-- Words laid from a place on. -/
def setW (base : Nat) (key : List UInt8) : Nat → List Nat → List Nat
  | 0, l => l
  | k + 1, l => (setW base key k l).set (base + k) (le4 key (4 * k))
@[simp] theorem setW_len (base : Nat) (key : List UInt8) : ∀ (k : Nat) (l : List Nat), (setW base key k l).length = l.length
  | 0, _ => rfl
  | k + 1, l => by simp [setW, setW_len base key k l]
theorem Lt32.setW {l : List Nat} (h : Lt32 l) (base : Nat) (key : List UInt8) : ∀ k, Lt32 (setW base key k l)
  | 0 => h
  | k + 1 => (Lt32.setW h base key k).set _ (le4_lt _ _)
theorem setW_far (base : Nat) (key : List UInt8) : ∀ (k : Nat) (l : List Nat) (j : Nat), base + k ≤ j → (setW base key k l).getD j 0 = l.getD j 0
  | 0, _, _, _ => rfl
  | k + 1, l, j, h => by rw [setW, getD_set_ne (by omega), setW_far base key k l j (by omega)]

/-- The same, byte for byte. -/
def orW (base : Nat) (key : List UInt8) : Nat → List Nat → List Nat
  | 0, l => l
  | i + 1, l => (orW base key i l).set (base + i / 4) ((orW base key i l).getD (base + i / 4) 0 ||| (key.getD i 0).toNat * 2 ^ (8 * (i % 4)) % 4294967296)
@[simp] theorem orW_len (base : Nat) (key : List UInt8) : ∀ (k : Nat) (l : List Nat), (orW base key k l).length = l.length
  | 0, _ => rfl
  | k + 1, l => by simp [orW, orW_len base key k l]
theorem Lt32.orW {l : List Nat} (h : Lt32 l) (base : Nat) (key : List UInt8) : ∀ k, Lt32 (orW base key k l)
  | 0 => h
  | k + 1 => (Lt32.orW h base key k).set _ (Nat.or_lt_two_pow (n := 32) (Lt32.orW h base key k _) (Nat.mod_lt _ (by decide)))

theorem orW_setW (base : Nat) (key : List UInt8) (l : List Nat) : ∀ k, base + k ≤ l.length → (∀ j, base ≤ j → j < base + k → l.getD j 0 = 0) → orW base key (4 * k) l = setW base key k l
  | 0, _, _ => rfl
  | k + 1, hk, h0 => by
    have ih := orW_setW base key l k (by omega) (fun j h1 h2 => h0 j h1 (by omega))
    have hz : (setW base key k l).getD (base + k) 0 = 0 := by rw [setW_far _ _ _ _ _ (Nat.le_refl _)]; exact h0 _ (by omega) (by omega)
    have e : 4 * (k + 1) = 4 * k + 3 + 1 := by omega
    have hb := (key.getD (4 * k) 0).toNat_lt
    rw [e]
    simp only [orW, ih, show (4 * k + 3) / 4 = k by omega, show (4 * k + 2) / 4 = k by omega, show (4 * k + 1) / 4 = k by omega, show 4 * k / 4 = k by omega,
      show (4 * k + 3) % 4 = 3 by omega, show (4 * k + 2) % 4 = 2 by omega, show (4 * k + 1) % 4 = 1 by omega, show 4 * k % 4 = 0 by omega, List.set_set]
    have hl : base + k < (setW base key k l).length := by rw [setW_len]; omega
    have g : ∀ v, ((setW base key k l).set (base + k) v).getD (base + k) 0 = v := fun v => getD_set_self hl
    simp only [g, hz, setW, le4, Nat.zero_or, Nat.mul_zero, Nat.pow_zero, Nat.mul_one]
    rw [Nat.mod_eq_of_lt (show (key.getD (4 * k) 0).toNat < 4294967296 by omega)]

/-- The first state. -/
def firstL (key : List UInt8) (ctr : Nat) (nonce : List UInt8) : List Nat :=
  setW 13 nonce 3 ((setW 4 key 8 ([1634760805, 857760878, 2036477234, 1797285236] ++ List.replicate 12 0)).set 12 ctr)
theorem firstL_len (key : List UInt8) (ctr : Nat) (nonce : List UInt8) : (firstL key ctr nonce).length = 16 := by simp [firstL]

theorem lt32_const : Lt32 ([1634760805, 857760878, 2036477234, 1797285236] ++ List.replicate 12 0) := by
  intro i
  by_cases h : i < 16
  · have : ∀ i < 16, ([1634760805, 857760878, 2036477234, 1797285236] ++ List.replicate 12 0 : List Nat).getD i 0 < 4294967296 := by decide
    exact this i h
  · rw [List.getD, List.getElem?_eq_none (by simp; omega)]; decide
theorem lt32_first (key : List UInt8) {ctr : Nat} (nonce : List UInt8) (h : ctr < 4294967296) : Lt32 (firstL key ctr nonce) := ((lt32_const.setW 4 key 8).set 12 h).setW 13 nonce 3

def outB (x y : List Nat) (i : Nat) : UInt8 := UInt8.ofNat (add32 (x.getD (i / 4) 0) (y.getD (i / 4) 0) / 2 ^ (8 * (i % 4)) % 256)
def outL (x y : List Nat) : List UInt8 := (List.range 64).map (outB x y)
@[simp] theorem outL_len (x y : List Nat) : (outL x y).length = 64 := by simp [outL]
theorem outL_comm (x y : List Nat) : outL x y = outL y x := by
  have : outB x y = outB y x := by
    funext i
    simp only [outB, add32]
    rw [Nat.add_comm]
  rw [outL, outL, this]

/-- The block. -/
def blockF (key : List UInt8) (ctr : Nat) (nonce : List UInt8) : List UInt8 := outL (dblR 10 (firstL key ctr nonce)) (firstL key ctr nonce)
@[simp] theorem blockF_len (key : List UInt8) (ctr : Nat) (nonce : List UInt8) : (blockF key ctr nonce).length = 64 := by simp [blockF]

end Go.Proofs.YtlhhmoljlmmnoaaDoor
