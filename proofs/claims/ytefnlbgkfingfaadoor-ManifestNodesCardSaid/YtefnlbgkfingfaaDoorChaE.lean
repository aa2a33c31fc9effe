/- Contracts, several texts in one (conditions: those that each theorem names). -/
import Derived.Test.YtefnlbgkfingfaaDoorWords
import Derived.Test.YtefnlbgkfingfaaDoorSxSeat
import Derived.Test.YtefnlbgkfingfaaDoorVnum
import Derived.Test.YtefnlbgkfingfaaDoorNum
namespace Go.Proofs.YtefnlbgkfingfaaDoor
open Go Sx
set_option maxRecDepth 8000

def aStep (l : List Nat) (i j : Nat) : List Nat := l.set i (add32 (l.getD i 0) (l.getD j 0))
def xStep (l : List Nat) (i j n : Nat) : List Nat := l.set i (rotl (l.getD i 0 ^^^ l.getD j 0) n)
@[simp] theorem aStep_len (l : List Nat) (i j : Nat) : (aStep l i j).length = l.length := by simp [aStep]
@[simp] theorem xStep_len (l : List Nat) (i j n : Nat) : (xStep l i j n).length = l.length := by simp [xStep]
theorem Lt32.aStep {l : List Nat} (h : Lt32 l) (i j : Nat) : Lt32 (aStep l i j) := h.set i (add32_lt _ _)
theorem Lt32.xStep {l : List Nat} (h : Lt32 l) (i j n : Nat) : Lt32 (xStep l i j n) := h.set i (rotl_lt n (xor_lt (h i) (h j)))

/-- A quarter round of four words of a list. -/
def rnd (l : List Nat) (a b c d : Nat) : List Nat := xStep (aStep (xStep (aStep (xStep (aStep (xStep (aStep l a b) d a 16) c d) b c 12) a b) d a 8) c d) b c 7
@[simp] theorem rnd_len (l : List Nat) (a b c d : Nat) : (rnd l a b c d).length = l.length := by simp [rnd]
theorem Lt32.rnd {l : List Nat} (h : Lt32 l) (a b c d : Nat) : Lt32 (rnd l a b c d) := (((((((h.aStep a b).xStep d a 16).aStep c d).xStep b c 12).aStep a b).xStep d a 8).aStep c d).xStep b c 7

def hA (a b : Nat) : Nat := add32 a b
def hD (a b d m : Nat) : Nat := rotl (d ^^^ add32 a b) m
def hC (a b c d m : Nat) : Nat := add32 c (hD a b d m)
def hB (a b c d m n : Nat) : Nat := rotl (b ^^^ hC a b c d m) n

/-- The four words of a quarter round. -/
def qA (a b c d : Nat) : Nat := hA (hA a b) (hB a b c d 16 12)
def qD (a b c d : Nat) : Nat := hD (hA a b) (hB a b c d 16 12) (hD a b d 16) 8
def qC (a b c d : Nat) : Nat := hC (hA a b) (hB a b c d 16 12) (hC a b c d 16) (hD a b d 16) 8
def qB (a b c d : Nat) : Nat := hB (hA a b) (hB a b c d 16 12) (hC a b c d 16) (hD a b d 16) 8 7

theorem rnd_eq {l : List Nat} {a b c d : Nat} (ha : a < l.length) (hb : b < l.length) (hc : c < l.length) (hd : d < l.length) (ab : a ≠ b) (ac : a ≠ c) (ad : a ≠ d) (bc : b ≠ c) (bd : b ≠ d) (cd : c ≠ d) :
    rnd l a b c d = (((l.set a (qA (l.getD a 0) (l.getD b 0) (l.getD c 0) (l.getD d 0))).set b (qB (l.getD a 0) (l.getD b 0) (l.getD c 0) (l.getD d 0))).set c (qC (l.getD a 0) (l.getD b 0) (l.getD c 0) (l.getD d 0))).set d (qD (l.getD a 0) (l.getD b 0) (l.getD c 0) (l.getD d 0)) := by
  have h1 : ∀ (k : List Nat) (i v : Nat), i < l.length → k.length = l.length → (k.set i v).getD i 0 = v := fun k i v hi hk => getD_set_self (by omega)
  unfold rnd
  simp only [aStep, xStep]
  simp only [h1, getD_set_ne ab, getD_set_ne ac, getD_set_ne ad, getD_set_ne bc, getD_set_ne bd, getD_set_ne cd, getD_set_ne ab.symm, getD_set_ne ac.symm, getD_set_ne ad.symm, getD_set_ne bc.symm, getD_set_ne bd.symm, getD_set_ne cd.symm, ha, hb, hc, hd, List.length_set]
  simp only [qA, qB, qC, qD, hA, hB, hC, hD]
  apply List.ext_getElem?
  intro i
  simp only [List.getElem?_set, List.length_set]
  by_cases e1 : b = i
  · subst e1; simp [hb, bc.symm, bd.symm, ab, cd]
  · by_cases e2 : c = i
    · subst e2; simp [hc, e1, cd.symm]
    · by_cases e3 : d = i
      · subst e3; simp [hd, e1, e2]
      · by_cases e4 : a = i
        · subst e4; simp [ha, e1, e2, e3]
        · simp [e1, e2, e3, e4]

/-- The column rounds, the diagonal rounds. -/
def colR : Nat → List Nat → List Nat
  | 0, l => l
  | k + 1, l => rnd (colR k l) k (4 + k) (8 + k) (12 + k)
def diaR : Nat → List Nat → List Nat
  | 0, l => l
  | k + 1, l => rnd (diaR k l) k (4 + (k + 1) % 4) (8 + (k + 2) % 4) (12 + (k + 3) % 4)
def dblR : Nat → List Nat → List Nat
  | 0, l => l
  | k + 1, l => diaR 4 (colR 4 (dblR k l))

@[simp] theorem colR_len : ∀ (k : Nat) (l : List Nat), (colR k l).length = l.length
  | 0, _ => rfl
  | k + 1, l => by simp [colR, colR_len k l]
@[simp] theorem diaR_len : ∀ (k : Nat) (l : List Nat), (diaR k l).length = l.length
  | 0, _ => rfl
  | k + 1, l => by simp [diaR, diaR_len k l]
@[simp] theorem dblR_len : ∀ (k : Nat) (l : List Nat), (dblR k l).length = l.length
  | 0, _ => rfl
  | k + 1, l => by simp [dblR, dblR_len k l]
theorem Lt32.colR {l : List Nat} (h : Lt32 l) : ∀ k, Lt32 (colR k l)
  | 0 => h
  | k + 1 => (Lt32.colR h k).rnd _ _ _ _
theorem Lt32.diaR {l : List Nat} (h : Lt32 l) : ∀ k, Lt32 (diaR k l)
  | 0 => h
  | k + 1 => (Lt32.diaR h k).rnd _ _ _ _
theorem Lt32.dblR {l : List Nat} (h : Lt32 l) : ∀ k, Lt32 (dblR k l)
  | 0 => h
  | k + 1 => ((Lt32.dblR h k).colR 4).diaR 4

/-- Four bytes as a word, the least first. -/
def le4 (l : List UInt8) (o : Nat) : Nat :=
  (((l.getD o 0).toNat ||| (l.getD (o + 1) 0).toNat * 2 ^ 8 % 4294967296) ||| (l.getD (o + 2) 0).toNat * 2 ^ 16 % 4294967296) ||| (l.getD (o + 3) 0).toNat * 2 ^ 24 % 4294967296

theorem le4_lt (l : List UInt8) (o : Nat) : le4 l o < 4294967296 := by
  have h0 := (l.getD o 0).toNat_lt
  exact Nat.or_lt_two_pow (n := 32) (Nat.or_lt_two_pow (n := 32) (Nat.or_lt_two_pow (n := 32) (by omega) (Nat.mod_lt _ (by decide))) (Nat.mod_lt _ (by decide))) (Nat.mod_lt _ (by decide))

/-- Words laid from a place on. -/
def setW (base : Nat) (key : List UInt8) : Nat → List Nat → List Nat
  | 0, l => l
  | k + 1, l => (setW base key k l).set (base + k) (le4 key (4 * k))
@[simp] theorem setW_len (base : Nat) (key : List UInt8) : ∀ (k : Nat) (l : List Nat), (setW base key k l).length = l.length
  | 0, _ => rfl
  | k + 1, l => by simp [setW, setW_len base key k l]
theorem Lt32.setW {l : List Nat} (h : Lt32 l) (base : Nat) (key : List UInt8) : ∀ k, Lt32 (setW base key k l)
  | 0 => h
  | k + 1 => (Lt32.setW h base key k).set _ (le4_lt _ _)
theorem setW_far (base : Nat) (key : List UInt8) : ∀ (k : Nat) (l : List Nat) (j : Nat), base + k ≤ j → (setW base key k l).getD j 0 = l.getD j 0
  | 0, _, _, _ => rfl
  | k + 1, l, j, h => by rw [setW, getD_set_ne (by omega), setW_far base key k l j (by omega)]

/-- The same, byte for byte. -/
def orW (base : Nat) (key : List UInt8) : Nat → List Nat → List Nat
  | 0, l => l
  | i + 1, l => (orW base key i l).set (base + i / 4) ((orW base key i l).getD (base + i / 4) 0 ||| (key.getD i 0).toNat * 2 ^ (8 * (i % 4)) % 4294967296)
@[simp] theorem orW_len (base : Nat) (key : List UInt8) : ∀ (k : Nat) (l : List Nat), (orW base key k l).length = l.length
  | 0, _ => rfl
  | k + 1, l => by simp [orW, orW_len base key k l]
theorem Lt32.orW {l : List Nat} (h : Lt32 l) (base : Nat) (key : List UInt8) : ∀ k, Lt32 (orW base key k l)
  | 0 => h
  | k + 1 => (Lt32.orW h base key k).set _ (Nat.or_lt_two_pow (n := 32) (Lt32.orW h base key k _) (Nat.mod_lt _ (by decide)))

theorem orW_setW (base : Nat) (key : List UInt8) (l : List Nat) : ∀ k, base + k ≤ l.length → (∀ j, base ≤ j → j < base + k → l.getD j 0 = 0) → orW base key (4 * k) l = setW base key k l
  | 0, _, _ => rfl
  | k + 1, hk, h0 => by
    have ih := orW_setW base key l k (by omega) (fun j h1 h2 => h0 j h1 (by omega))
    have hz : (setW base key k l).getD (base + k) 0 = 0 := by rw [setW_far _ _ _ _ _ (Nat.le_refl _)]; exact h0 _ (by omega) (by omega)
    have e : 4 * (k + 1) = 4 * k + 3 + 1 := by omega
    have hb := (key.getD (4 * k) 0).toNat_lt
    rw [e]
    simp only [orW, ih, show (4 * k + 3) / 4 = k by omega, show (4 * k + 2) / 4 = k by omega, show (4 * k + 1) / 4 = k by omega, show 4 * k / 4 = k by omega,
      show (4 * k + 3) % 4 = 3 by omega, show (4 * k + 2) % 4 = 2 by omega, show (4 * k + 1) % 4 = 1 by omega, show 4 * k % 4 = 0 by omega, List.set_set]
    have hl : base + k < (setW base key k l).length := by rw [setW_len]; omega
    have g : ∀ v, ((setW base key k l).set (base + k) v).getD (base + k) 0 = v := fun v => getD_set_self hl
    simp only [g, hz, setW, le4, Nat.zero_or, Nat.mul_zero, Nat.pow_zero, Nat.mul_one]
    rw [Nat.mod_eq_of_lt (show (key.getD (4 * k) 0).toNat < 4294967296 by omega)]

/-- The first state. -/
def firstL (key : List UInt8) (ctr : Nat) (nonce : List UInt8) : List Nat :=
  setW 13 nonce 3 ((setW 4 key 8 ([1634760805, 857760878, 2036477234, 1797285236] ++ List.replicate 12 0)).set 12 ctr)
theorem firstL_len (key : List UInt8) (ctr : Nat) (nonce : List UInt8) : (firstL key ctr nonce).length = 16 := by simp [firstL]

theorem lt32_const : Lt32 ([1634760805, 857760878, 2036477234, 1797285236] ++ List.replicate 12 0) := by
  intro i
  by_cases h : i < 16
  · have : ∀ i < 16, ([1634760805, 857760878, 2036477234, 1797285236] ++ List.replicate 12 0 : List Nat).getD i 0 < 4294967296 := by decide
    exact this i h
  · rw [List.getD, List.getElem?_eq_none (by simp; omega)]; decide
theorem lt32_first (key : List UInt8) {ctr : Nat} (nonce : List UInt8) (h : ctr < 4294967296) : Lt32 (firstL key ctr nonce) := ((lt32_const.setW 4 key 8).set 12 h).setW 13 nonce 3

def outB (x y : List Nat) (i : Nat) : UInt8 := UInt8.ofNat (add32 (x.getD (i / 4) 0) (y.getD (i / 4) 0) / 2 ^ (8 * (i % 4)) % 256)
def outL (x y : List Nat) : List UInt8 := (List.range 64).map (outB x y)
@[simp] theorem outL_len (x y : List Nat) : (outL x y).length = 64 := by simp [outL]
theorem outL_comm (x y : List Nat) : outL x y = outL y x := by
  have : outB x y = outB y x := by
    funext i
    simp only [outB, add32]
    rw [Nat.add_comm]
  rw [outL, outL, this]

/-- The block. -/
def blockF (key : List UInt8) (ctr : Nat) (nonce : List UInt8) : List UInt8 := outL (dblR 10 (firstL key ctr nonce)) (firstL key ctr nonce)
@[simp] theorem blockF_len (key : List UInt8) (ctr : Nat) (nonce : List UInt8) : (blockF key ctr nonce).length = 64 := by simp [blockF]

open Go Sx
set_option maxRecDepth 8000

theorem rot_spec (x n : Nat) (w : World) (hx : x < 4294967296) (hn : n < 32) (h0 : 0 < n) : Calls Tryd.prog 67 #[.int .u32 (x : Int), .int .i64 (n : Int)] w fun e w' => e = .returned (.int .u32 ((rotl x n : Nat) : Int)) ∧ w' = w := by
  apply bits_RotateLeft32_vc
  have h1 : band .u64 (IntKind.wrap .u64 (n : Int)) 31 = (n : Int) := by
    rw [wrap_uns rfl (by simp [kmod, IntKind.bits]; omega), show (31 : Int) = ((31 : Nat) : Int) from rfl, band_nat rfl (by simp [kmod, IntKind.bits]; omega) (by simp [kmod, IntKind.bits]), show n &&& 31 = n % 32 from Nat.and_two_pow_sub_one_eq_mod n 5, Nat.mod_eq_of_lt hn]
  have h2 : IntKind.wrap .u64 ((32 : Int) - (n : Int)) = ((32 - n : Nat) : Int) := by rw [wrap_u64]; omega
  rw [h1, h2]
  refine ⟨by omega, by omega, ?_, rfl⟩
  rw [rotl_val x n hx hn h0]

section
variable {w0 w : World} {X : List Nat} {M : List Res}

/-- A step 'x[i] = x[i] + x[j]' of the reference. -/
theorem aStep_vc (h : St w0 X w M) {m g : Nat} {T : TypeId} {l : List Nat} (hi : M[m]? = some (.arr g T (kv .u32 l))) (hl : l.length = 16) {i j : Nat} (ha : i < 16) (hb : j < 16) {K : World → Prop}
    (hK : ∀ w', St w0 X w' (M.set m (.arr g T (kv .u32 (aStep l i j)))) → K w') :
    ∃ S : World → Prop, S w.drew ∧ (0 ≤ (i : Int) ∧ (i : Int) < 16 ∧ (0 ≤ (j : Int) ∧ (j : Int) < 16 ∧
      (∃ t : Int, (∀ w', S w' → (Instr.loadAt 98 (.pointer (some ⟨g, 0 + Int.toNat (i : Int) * 1, none⟩))).run Tryd.prog w' = .ok (.int .u32 t) w') ∧
      (∃ t' : Int, (∀ w', S w' → (Instr.loadAt 98 (.pointer (some ⟨g, 0 + Int.toNat (j : Int) * 1, none⟩))).run Tryd.prog w' = .ok (.int .u32 t') w') ∧
        (0 ≤ (i : Int) ∧ (i : Int) < 16 ∧ (∃ w1, (Instr.storeAt 98 (.pointer (some ⟨g, 0 + Int.toNat (i : Int) * 1, none⟩)) (.int .u32 (IntKind.wrap .u32 (t + t')))).run Tryd.prog w.drew = .ok () w1 ∧ K w1)))))) := by
  have e : ∀ k : Nat, 0 + Int.toNat (k : Int) * 1 = k := fun k => by omega
  have hT : ∀ w, (isAgg 98).run Tryd.prog w = .ok false w := fun w => Tryd.isAgg98 w
  refine ⟨fun w' => St w0 X w' M, h.drew, by omega, by omega, by omega, by omega, _, fun w' h' => h'.ldK hi (hT _) (e i) (by omega), _, fun w' h' => h'.ldK hi (hT _) (e j) (by omega), by omega, by omega, ?_⟩
  rw [add_val]
  obtain ⟨w1, hr, h1⟩ := h.drew.stK (n := add32 (l.getD i 0) (l.getD j 0)) hi (Tryd.sizeOf98 _) (e i) (by omega)
  exact ⟨w1, hr, hK _ h1⟩

end

open Go Sx
set_option maxRecDepth 8000

theorem le4_sub (l : List UInt8) (o n : Nat) (h : 4 ≤ n) : le4 ((l.drop o).take n) 0 = le4 l o := by
  have : ∀ j, j < 4 → ((l.drop o).take n).getD (0 + j) 0 = l.getD (o + j) 0 := fun j hj => by
    simp only [List.getD, List.getElem?_take, List.getElem?_drop, Nat.zero_add]
    rw [if_pos (by omega)]
  have h0 := this 0 (by omega)
  rw [Nat.add_zero, Nat.add_zero] at h0
  simp only [le4, h0, this 1 (by omega), this 2 (by omega), this 3 (by omega)]

theorem zero64 (w : World) : (zeroValue 93).run Tryd.prog w = .ok (.agg (bv (List.replicate 64 0)).toArray) w := Tryd.zeroValue93 w

open Go Sx
set_option maxRecDepth 8000

theorem e64 : ∀ w, (isAgg 93).run Tryd.prog w = .ok true w := fun w => Tryd.isAgg93 w
theorem e32 : ∀ w, (isAgg 22).run Tryd.prog w = .ok true w := fun w => Tryd.isAgg22 w
theorem eU : ∀ w, (isAgg 98).run Tryd.prog w = .ok false w := fun w => Tryd.isAgg98 w

theorem outB_val (x y : List Nat) (i j : Nat) (hj : j < 4) : IntKind.wrap .u8 ((add32 (x.getD i 0) (y.getD i 0) / 2 ^ (8 * j) : Nat) : Int) = ((outB x y (4 * i + j)).toNat : Int) := by
  rw [wrap_u8, outB, show (4 * i + j) / 4 = i by omega, show (4 * i + j) % 4 = j by omega]
  simp
theorem outL_get (x y : List Nat) (i : Nat) (h : i < 64) : (outL x y)[i]? = some (outB x y i) := by simp [outL, h]

open Go Sx
set_option maxRecDepth 8000

theorem const16 : (((((List.replicate 16 0).set 0 1634760805).set 1 857760878).set 2 2036477234).set 3 1797285236 : List Nat) = [1634760805, 857760878, 2036477234, 1797285236] ++ List.replicate 12 0 := by decide

theorem first_alt (key nonce : List UInt8) (ctr : Nat) :
    orW 13 nonce 12 (orW 4 key 32 (([1634760805, 857760878, 2036477234, 1797285236] ++ List.replicate 12 0).set 12 ctr)) = firstL key ctr nonce := by
  have z : ∀ j, 4 ≤ j → j < 16 → j ≠ 12 → (([1634760805, 857760878, 2036477234, 1797285236] ++ List.replicate 12 0 : List Nat).set 12 ctr).getD j 0 = 0 := by
    intro j h1 h2 h3
    rw [getD_set_ne (fun e => h3 e.symm)]
    have : ∀ j < 16, 4 ≤ j → ([1634760805, 857760878, 2036477234, 1797285236] ++ List.replicate 12 0 : List Nat).getD j 0 = 0 := by decide
    exact this j h2 h1
  have h1 := orW_setW 4 key (([1634760805, 857760878, 2036477234, 1797285236] ++ List.replicate 12 0 : List Nat).set 12 ctr) 8 (by simp) (fun j h1 h2 => z j h1 (by omega) (by omega))
  rw [show 4 * 8 = 32 from rfl] at h1
  rw [h1]
  have h2 := orW_setW 13 nonce (setW 4 key 8 (([1634760805, 857760878, 2036477234, 1797285236] ++ List.replicate 12 0 : List Nat).set 12 ctr)) 3 (by simp) (fun j h1 h2 => by
    rw [setW_far _ _ _ _ _ (by omega)]; exact z j (by omega) (by omega) (by omega))
  rw [show 4 * 3 = 12 from rfl] at h2
  have sw : ∀ (k : Nat) (l : List Nat), 4 + k ≤ 12 → setW 4 key k (l.set 12 ctr) = (setW 4 key k l).set 12 ctr := by
    intro k
    induction k with
    | zero => intro l _; rfl
    | succ k ih =>
      intro l hk
      rw [setW, setW, ih l (by omega), List.set_comm _ _ (by omega)]
  rw [h2, sw 8 _ (by omega), firstL]

open Go Sx
set_option maxRecDepth 8000

/-- The stream's byte at a place; bytes under the stream. -/
def strB (key nonce : List UInt8) (p : Nat) : UInt8 := (blockF key (p / 64) nonce).getD (p % 64) 0
def xorL (key nonce : List UInt8) (at' : Nat) (l : List UInt8) : List UInt8 := l.mapIdx fun i b => b ^^^ strB key nonce (at' + i)
@[simp] theorem xorL_len (key nonce : List UInt8) (at' : Nat) (l : List UInt8) : (xorL key nonce at' l).length = l.length := by simp [xorL]
theorem xorL_get {key nonce : List UInt8} {at' : Nat} {l : List UInt8} {i : Nat} (h : i < l.length) : (xorL key nonce at' l)[i]? = some (l.getD i 0 ^^^ strB key nonce (at' + i)) := by simp [xorL, List.getD, h]

/-- The first i bytes of one row, the others of another. -/
def mix (x l : List UInt8) (i : Nat) : List UInt8 := x.take i ++ l.drop i
theorem mix_zero (x l : List UInt8) : mix x l 0 = l := by simp [mix]
theorem mix_all {x l : List UInt8} {n : Nat} (h : x.length = n) (h' : l.length = n) : mix x l n = x := by simp [mix, ← h, show l.length = x.length by omega]
theorem mix_len {x l : List UInt8} {i : Nat} (h : x.length = l.length) (hi : i ≤ l.length) : (mix x l i).length = l.length := by simp [mix]; omega
theorem mix_get {x l : List UInt8} {i : Nat} (h : x.length = l.length) (hi : i < l.length) : (mix x l i).getD i 0 = l.getD i 0 := by
  have hl : (x.take i).length = i := by rw [List.length_take]; omega
  simp [mix, List.getD, List.getElem?_append_right, hl]
theorem mix_set {x l : List UInt8} {i : Nat} {b : UInt8} (h : x.length = l.length) (hb : x[i]? = some b) : (mix x l i).set i b = mix x l (i + 1) := by
  have hi : i < x.length := (List.getElem?_eq_some_iff.1 hb).1
  have hl : (x.take i).length = i := by rw [List.length_take]; omega
  rw [mix, mix, List.set_append_right _ _ (by omega), hl, Nat.sub_self, List.drop_eq_getElem_cons (by omega : i < l.length), List.set_cons_zero, List.take_add_one, hb]
  simp

theorem xor_u8 (a b : UInt8) : bxor .u8 (a.toNat : Int) (b.toNat : Int) = ((a ^^^ b).toNat : Int) := by
  rw [bxor_nat rfl (by simpa [kmod, IntKind.bits] using a.toNat_lt) (by simpa [kmod, IntKind.bits] using b.toNat_lt), UInt8.toNat_xor]

theorem Sx.Chg.range {w w' : World} {X : List Nat} {b o : Nat} {cs : List Value} (hc : Chg X w w') (h : w.rangeAt b o cs) (hb : b ∉ X) : w'.rangeAt b o cs := by
  have hk : Cells w (some ⟨b, o, none⟩) cs := .inr ⟨b, o, rfl, h⟩
  rcases hk.keep hc (by rintro ad ⟨⟩; exact hb) with h0 | ⟨b', o', he, hr⟩
  · subst h0; intro j v hj; simp at hj
  · simp only [Option.some.injEq, Addr.mk.injEq, and_true] at he
    obtain ⟨rfl, rfl⟩ := he
    exact hr

theorem Sx.ldRange {P : Program} {w : World} {b o n : Nat} {cs : List Value} {T : TypeId} (h : w.rangeAt b o cs) (hT : (isAgg T).run P w = .ok true w) (hS : (sizeOf T).run P w = .ok n w) (hl : cs.length = n) :
    (Instr.loadAt T (.pointer (some ⟨b, o, none⟩))).run P w = .ok (.agg cs.toArray) w := by
  subst hl
  simp [Instr.loadAt, Instr.sureAddr, loadVar, hT, hS, loadCells_cells (P := P) h]

theorem Sx.St.ofRowC {w : World} {e : TypeId} {sz : Nat} {g n m c : Nat} {xs : List Value} (h : w.ownsRow 0 e sz (.slice (some ⟨g, 0, none⟩) n c) m xs) : St w [g] w [.row e sz (.slice (some ⟨g, 0, none⟩) n c) m xs] := by
  have one : ∀ (i : Nat) (r : Res), [Res.row e sz (.slice (some ⟨g, 0, none⟩) n c) m xs][i]? = some r → i = 0 ∧ r = .row e sz (.slice (some ⟨g, 0, none⟩) n c) m xs := by
    intro i r hr
    cases i with
    | zero => exact ⟨rfl, (Option.some.inj hr).symm⟩
    | succ i => simp at hr
  refine ⟨Chg.refl _ _, ?_, ?_, ?_⟩
  · intro i r hr; obtain ⟨_, rfl⟩ := one i r hr; exact h
  · intro i r hr k hk; obtain ⟨_, rfl⟩ := one i r hr; right; simpa [Res.fp, Value.ownBlock] using hk
  · intro i j r s hij hi hj; have := (one i r hi).1; have := (one j s hj).1; omega

/-- Is there room? What XOR answers. -/
def roomF (x : Int) (n : Nat) : Bool := decide (0 ≤ x) && decide (x + n ≤ 274877906944)
def xorE (x : Int) (n : Nat) : Option Int := if roomF x n then none else some 8
def xorR (key nonce : List UInt8) (x : Int) (l : List UInt8) : List UInt8 := if roomF x l.length then xorL key nonce x.toNat l else []

end Go.Proofs.YtefnlbgkfingfaaDoor
