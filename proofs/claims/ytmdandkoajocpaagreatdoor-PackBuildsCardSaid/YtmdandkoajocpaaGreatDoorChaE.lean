/- Contracts, several texts in one (conditions: those that each theorem names). -/
import Derived.Test.YtmdandkoajocpaaGreatDoorWords
import Derived.Test.YtmdandkoajocpaaGreatDoorSxSeat
import Derived.Test.YtmdandkoajocpaaGreatDoorVcha
import Derived.Test.YtmdandkoajocpaaGreatDoorVnum
import Derived.Test.YtmdandkoajocpaaGreatDoorNum
namespace Go.Proofs.YtmdandkoajocpaaGreatDoor
open Go Sx
set_option maxRecDepth 8000

def aStep (l : List Nat) (i j : Nat) : List Nat := l.set i (add32 (l.getD i 0) (l.getD j 0))
def xStep (l : List Nat) (i j n : Nat) : List Nat := l.set i (rotl (l.getD i 0 ^^^ l.getD j 0) n)
@[simp] theorem aStep_len (l : List Nat) (i j : Nat) : (aStep l i j).length = l.length := by simp [aStep]
@[simp] theorem xStep_len (l : List Nat) (i j n : Nat) : (xStep l i j n).length = l.length := by simp [xStep]
theorem Lt32.aStep {l : List Nat} (h : Lt32 l) (i j : Nat) : Lt32 (aStep l i j) := h.set i (add32_lt _ _)
theorem Lt32.xStep {l : List Nat} (h : Lt32 l) (i j n : Nat) : Lt32 (xStep l i j n) := h.set i (rotl_lt n (xor_lt (h i) (h j)))

/-- A quarter round of four words of a list. -/
def rnd (l : List Nat) (a b c d : Nat) : List Nat := xStep (aStep (xStep (aStep (xStep (aStep (xStep (aStep l a b) d a 16) c d) b c 12) a b) d a 8) c d) b c 7
@[simp] theorem rnd_len (l : List Nat) (a b c d : Nat) : (rnd l a b c d).length = l.length := by simp [rnd]
theorem Lt32.rnd {l : List Nat} (h : Lt32 l) (a b c d : Nat) : Lt32 (rnd l a b c d) := (((((((h.aStep a b).xStep d a 16).aStep c d).xStep b c 12).aStep a b).xStep d a 8).aStep c d).xStep b c 7

def hA (a b : Nat) : Nat := add32 a b
def hD (a b d m : Nat) : Nat := rotl (d ^^^ add32 a b) m
def hC (a b c d m : Nat) : Nat := add32 c (hD a b d m)
def hB (a b c d m n : Nat) : Nat := rotl (b ^^^ hC a b c d m) n

/-- The four words of a quarter round. -/
def qA (a b c d : Nat) : Nat := hA (hA a b) (hB a b c d 16 12)
def qD (a b c d : Nat) : Nat := hD (hA a b) (hB a b c d 16 12) (hD a b d 16) 8
def qC (a b c d : Nat) : Nat := hC (hA a b) (hB a b c d 16 12) (hC a b c d 16) (hD a b d 16) 8
def qB (a b c d : Nat) : Nat := hB (hA a b) (hB a b c d 16 12) (hC a b c d 16) (hD a b d 16) 8 7

theorem rnd_eq {l : List Nat} {a b c d : Nat} (ha : a < l.length) (hb : b < l.length) (hc : c < l.length) (hd : d < l.length) (ab : a ≠ b) (ac : a ≠ c) (ad : a ≠ d) (bc : b ≠ c) (bd : b ≠ d) (cd : c ≠ d) :
    rnd l a b c d = (((l.set a (qA (l.getD a 0) (l.getD b 0) (l.getD c 0) (l.getD d 0))).set b (qB (l.getD a 0) (l.getD b 0) (l.getD c 0) (l.getD d 0))).set c (qC (l.getD a 0) (l.getD b 0) (l.getD c 0) (l.getD d 0))).set d (qD (l.getD a 0) (l.getD b 0) (l.getD c 0) (l.getD d 0)) := by
  have h1 : ∀ (k : List Nat) (i v : Nat), i < l.length → k.length = l.length → (k.set i v).getD i 0 = v := fun k i v hi hk => getD_set_self (by omega)
  unfold rnd
  simp only [aStep, xStep]
  simp only [h1, getD_set_ne ab, getD_set_ne ac, getD_set_ne ad, getD_set_ne bc, getD_set_ne bd, getD_set_ne cd, getD_set_ne ab.symm, getD_set_ne ac.symm, getD_set_ne ad.symm, getD_set_ne bc.symm, getD_set_ne bd.symm, getD_set_ne cd.symm, ha, hb, hc, hd, List.length_set]
  simp only [qA, qB, qC, qD, hA, hB, hC, hD]
  apply List.ext_getElem?
  intro i
  simp only [List.getElem?_set, List.length_set]
  by_cases e1 : b = i
  · subst e1; simp [hb, bc.symm, bd.symm, ab, cd]
  · by_cases e2 : c = i
    · subst e2; simp [hc, e1, cd.symm]
    · by_cases e3 : d = i
      · subst e3; simp [hd, e1, e2]
      · by_cases e4 : a = i
        · subst e4; simp [ha, e1, e2, e3]
        · simp [e1, e2, e3, e4]

/-- The column rounds, the diagonal rounds. -/
def colR : Nat → List Nat → List Nat
  | 0, l => l
  | k + 1, l => rnd (colR k l) k (4 + k) (8 + k) (12 + k)
def diaR : Nat → List Nat → List Nat
  | 0, l => l
  | k + 1, l => rnd (diaR k l) k (4 + (k + 1) % 4) (8 + (k + 2) % 4) (12 + (k + 3) % 4)
def dblR : Nat → List Nat → List Nat
  | 0, l => l
  | k + 1, l => diaR 4 (colR 4 (dblR k l))

@[simp] theorem colR_len : ∀ (k : Nat) (l : List Nat), (colR k l).length = l.length
  | 0, _ => rfl
  | k + 1, l => by simp [colR, colR_len k l]
@[simp] theorem diaR_len : ∀ (k : Nat) (l : List Nat), (diaR k l).length = l.length
  | 0, _ => rfl
  | k + 1, l => by simp [diaR, diaR_len k l]
@[simp] theorem dblR_len : ∀ (k : Nat) (l : List Nat), (dblR k l).length = l.length
  | 0, _ => rfl
  | k + 1, l => by simp [dblR, dblR_len k l]
theorem Lt32.colR {l : List Nat} (h : Lt32 l) : ∀ k, Lt32 (colR k l)
  | 0 => h
  | k + 1 => (Lt32.colR h k).rnd _ _ _ _
theorem Lt32.diaR {l : List Nat} (h : Lt32 l) : ∀ k, Lt32 (diaR k l)
  | 0 => h
  | k + 1 => (Lt32.diaR h k).rnd _ _ _ _
theorem Lt32.dblR {l : List Nat} (h : Lt32 l) : ∀ k, Lt32 (dblR k l)
  | 0 => h
  | k + 1 => ((Lt32.dblR h k).colR 4).diaR 4

/-- Four bytes as a word, the least first. -/
def le4 (l : List UInt8) (o : Nat) : Nat :=
  (((l.getD o 0).toNat ||| (l.getD (o + 1) 0).toNat * 2 ^ 8 % 4294967296) ||| (l.getD (o + 2) 0).toNat * 2 ^ 16 % 4294967296) ||| (l.getD (o + 3) 0).toNat * 2 ^ 24 % 4294967296

theorem le4_lt (l : List UInt8) (o : Nat) : le4 l o < 4294967296 := by
  have h0 := (l.getD o 0).toNat_lt
  exact Nat.or_lt_two_pow (n := 32) (Nat.or_lt_two_pow (n := 32) (Nat.or_lt_two_pow (n := 32) (by omega) (Nat.mod_lt _ (by decide))) (Nat.mod_lt _ (by decide))) (Nat.mod_lt _ (by decide))

/-- Words laid from a place on. -/
def setW (base : Nat) (key : List UInt8) : Nat → List Nat → List Nat
  | 0, l => l
  | k + 1, l => (setW base key k l).set (base + k) (le4 key (4 * k))
@[simp] theorem setW_len (base : Nat) (key : List UInt8) : ∀ (k : Nat) (l : List Nat), (setW base key k l).length = l.length
  | 0, _ => rfl
  | k + 1, l => by simp [setW, setW_len base key k l]
theorem Lt32.setW {l : List Nat} (h : Lt32 l) (base : Nat) (key : List UInt8) : ∀ k, Lt32 (setW base key k l)
  | 0 => h
  | k + 1 => (Lt32.setW h base key k).set _ (le4_lt _ _)
theorem setW_far (base : Nat) (key : List UInt8) : ∀ (k : Nat) (l : List Nat) (j : Nat), base + k ≤ j → (setW base key k l).getD j 0 = l.getD j 0
  | 0, _, _, _ => rfl
  | k + 1, l, j, h => by rw [setW, getD_set_ne (by omega), setW_far base key k l j (by omega)]

/-- The same, byte for byte. -/
def orW (base : Nat) (key : List UInt8) : Nat → List Nat → List Nat
  | 0, l => l
  | i + 1, l => (orW base key i l).set (base + i / 4) ((orW base key i l).getD (base + i / 4) 0 ||| (key.getD i 0).toNat * 2 ^ (8 * (i % 4)) % 4294967296)
@[simp] theorem orW_len (base : Nat) (key : List UInt8) : ∀ (k : Nat) (l : List Nat), (orW base key k l).length = l.length
  | 0, _ => rfl
  | k + 1, l => by simp [orW, orW_len base key k l]
theorem Lt32.orW {l : List Nat} (h : Lt32 l) (base : Nat) (key : List UInt8) : ∀ k, Lt32 (orW base key k l)
  | 0 => h
  | k + 1 => (Lt32.orW h base key k).set _ (Nat.or_lt_two_pow (n := 32) (Lt32.orW h base key k _) (Nat.mod_lt _ (by decide)))

theorem orW_setW (base : Nat) (key : List UInt8) (l : List Nat) : ∀ k, base + k ≤ l.length → (∀ j, base ≤ j → j < base + k → l.getD j 0 = 0) → orW base key (4 * k) l = setW base key k l
  | 0, _, _ => rfl
  | k + 1, hk, h0 => by
    have ih := orW_setW base key l k (by omega) (fun j h1 h2 => h0 j h1 (by omega))
    have hz : (setW base key k l).getD (base + k) 0 = 0 := by rw [setW_far _ _ _ _ _ (Nat.le_refl _)]; exact h0 _ (by omega) (by omega)
    have e : 4 * (k + 1) = 4 * k + 3 + 1 := by omega
    have hb := (key.getD (4 * k) 0).toNat_lt
    rw [e]
    simp only [orW, ih, show (4 * k + 3) / 4 = k by omega, show (4 * k + 2) / 4 = k by omega, show (4 * k + 1) / 4 = k by omega, show 4 * k / 4 = k by omega,
      show (4 * k + 3) % 4 = 3 by omega, show (4 * k + 2) % 4 = 2 by omega, show (4 * k + 1) % 4 = 1 by omega, show 4 * k % 4 = 0 by omega, List.set_set]
    have hl : base + k < (setW base key k l).length := by rw [setW_len]; omega
    have g : ∀ v, ((setW base key k l).set (base + k) v).getD (base + k) 0 = v := fun v => getD_set_self hl
    simp only [g, hz, setW, le4, Nat.zero_or, Nat.mul_zero, Nat.pow_zero, Nat.mul_one]
    rw [Nat.mod_eq_of_lt (show (key.getD (4 * k) 0).toNat < 4294967296 by omega)]

/-- The first state. -/
def firstL (key : List UInt8) (ctr : Nat) (nonce : List UInt8) : List Nat :=
  setW 13 nonce 3 ((setW 4 key 8 ([1634760805, 857760878, 2036477234, 1797285236] ++ List.replicate 12 0)).set 12 ctr)
theorem firstL_len (key : List UInt8) (ctr : Nat) (nonce : List UInt8) : (firstL key ctr nonce).length = 16 := by simp [firstL]

theorem lt32_const : Lt32 ([1634760805, 857760878, 2036477234, 1797285236] ++ List.replicate 12 0) := by
  intro i
  by_cases h : i < 16
  · have : ∀ i < 16, ([1634760805, 857760878, 2036477234, 1797285236] ++ List.replicate 12 0 : List Nat).getD i 0 < 4294967296 := by decide
    exact this i h
  · rw [List.getD, List.getElem?_eq_none (by simp; omega)]; decide
theorem lt32_first (key : List UInt8) {ctr : Nat} (nonce : List UInt8) (h : ctr < 4294967296) : Lt32 (firstL key ctr nonce) := ((lt32_const.setW 4 key 8).set 12 h).setW 13 nonce 3

def outB (x y : List Nat) (i : Nat) : UInt8 := UInt8.ofNat (add32 (x.getD (i / 4) 0) (y.getD (i / 4) 0) / 2 ^ (8 * (i % 4)) % 256)
def outL (x y : List Nat) : List UInt8 := (List.range 64).map (outB x y)
@[simp] theorem outL_len (x y : List Nat) : (outL x y).length = 64 := by simp [outL]
theorem outL_comm (x y : List Nat) : outL x y = outL y x := by
  have : outB x y = outB y x := by
    funext i
    simp only [outB, add32]
    rw [Nat.add_comm]
  rw [outL, outL, this]

/-- The block. -/
def blockF (key : List UInt8) (ctr : Nat) (nonce : List UInt8) : List UInt8 := outL (dblR 10 (firstL key ctr nonce)) (firstL key ctr nonce)
@[simp] theorem blockF_len (key : List UInt8) (ctr : Nat) (nonce : List UInt8) : (blockF key ctr nonce).length = 64 := by simp [blockF]

open Go Sx
set_option maxRecDepth 8000

theorem rot_spec (x n : Nat) (w : World) (hx : x < 4294967296) (hn : n < 32) (h0 : 0 < n) : Calls Tryz.prog 189 #[.int .u32 (x : Int), .int .i64 (n : Int)] w fun e w' => e = .returned (.int .u32 ((rotl x n : Nat) : Int)) ∧ w' = w := by
  apply bits_RotateLeft32_vc
  have h1 : band .u64 (IntKind.wrap .u64 (n : Int)) 31 = (n : Int) := by
    rw [wrap_uns rfl (by simp [kmod, IntKind.bits]; omega), show (31 : Int) = ((31 : Nat) : Int) from rfl, band_nat rfl (by simp [kmod, IntKind.bits]; omega) (by simp [kmod, IntKind.bits]), show n &&& 31 = n % 32 from Nat.and_two_pow_sub_one_eq_mod n 5, Nat.mod_eq_of_lt hn]
  have h2 : IntKind.wrap .u64 ((32 : Int) - (n : Int)) = ((32 - n : Nat) : Int) := by rw [wrap_u64]; omega
  rw [h1, h2]
  refine ⟨by omega, by omega, ?_, rfl⟩
  rw [rotl_val x n hx hn h0]

theorem left_spec (x n : Nat) (w : World) (hx : x < 4294967296) (hn : n < 32) (h0 : 0 < n) : Calls Tryz.prog 172 #[.int .u32 (x : Int), .int .u64 (n : Int)] w fun e w' => e = .returned (.int .u32 ((rotl x n : Nat) : Int)) ∧ w' = w := by
  apply amphoraref03_left_vc
  have h2 : IntKind.wrap .u64 ((32 : Int) - (n : Int)) = ((32 - n : Nat) : Int) := by rw [wrap_u64]; omega
  rw [h2]
  refine ⟨by omega, by omega, ?_, rfl⟩
  rw [rotl_val x n hx hn h0]

theorem quarter_spec (a b c d : Nat) (w : World) (hb : b < 4294967296) (hd : d < 4294967296) :
    Calls Tryz.prog 185 #[.int .u32 (a : Int), .int .u32 (b : Int), .int .u32 (c : Int), .int .u32 (d : Int)] w fun e w' => e = .returned (.tuple #[.int .u32 ((qA a b c d : Nat) : Int), .int .u32 ((qB a b c d : Nat) : Int), .int .u32 ((qC a b c d : Nat) : Int), .int .u32 ((qD a b c d : Nat) : Int)]) ∧ w' = w := by
  have l1 : hD a b d 16 < 4294967296 := rotl_lt _ (xor_lt hd (add32_lt _ _))
  have l2 : hB a b c d 16 12 < 4294967296 := rotl_lt _ (xor_lt hb (add32_lt _ _))
  apply chacha_quarter_vc
  simp only [add_val]
  rw [xor_val hd (add32_lt _ _)]
  refine (rot_spec _ 16 w (xor_lt hd (add32_lt _ _)) (by decide) (by decide)).mono ?_
  rintro e w1 ⟨rfl, rfl⟩
  refine ⟨_, rfl, ?_⟩
  simp only [add_val]
  rw [show rotl (d ^^^ add32 a b) 16 = hD a b d 16 from rfl, xor_val hb (add32_lt _ _)]
  refine (rot_spec _ 12 _ (xor_lt hb (add32_lt _ _)) (by decide) (by decide)).mono ?_
  rintro e w2 ⟨rfl, rfl⟩
  refine ⟨_, rfl, ?_⟩
  simp only [add_val]
  rw [show rotl (b ^^^ add32 c (hD a b d 16)) 12 = hB a b c d 16 12 from rfl, xor_val l1 (add32_lt _ _)]
  refine (rot_spec _ 8 _ (xor_lt l1 (add32_lt _ _)) (by decide) (by decide)).mono ?_
  rintro e w3 ⟨rfl, rfl⟩
  refine ⟨_, rfl, ?_⟩
  simp only [add_val]
  rw [xor_val l2 (add32_lt _ _)]
  refine (rot_spec _ 7 _ (xor_lt l2 (add32_lt _ _)) (by decide) (by decide)).mono ?_
  rintro e w4 ⟨rfl, rfl⟩
  exact ⟨_, rfl, rfl, rfl⟩

section
variable {w0 w : World} {X : List Nat} {M : List Res}

/-- A step 'x[i] = x[i] + x[j]' of the reference. -/
theorem aStep_vc (h : St w0 X w M) {m g : Nat} {T : TypeId} {l : List Nat} (hi : M[m]? = some (.arr g T (kv .u32 l))) (hl : l.length = 16) {i j : Nat} (ha : i < 16) (hb : j < 16) {K : World → Prop}
    (hK : ∀ w', St w0 X w' (M.set m (.arr g T (kv .u32 (aStep l i j)))) → K w') :
    ∃ S : World → Prop, S w.drew ∧ (0 ≤ (i : Int) ∧ (i : Int) < 16 ∧ (0 ≤ (j : Int) ∧ (j : Int) < 16 ∧
      (∃ t : Int, (∀ w', S w' → (Instr.loadAt 209 (.pointer (some ⟨g, 0 + Int.toNat (i : Int) * 1, none⟩))).run Tryz.prog w' = .ok (.int .u32 t) w') ∧
      (∃ t' : Int, (∀ w', S w' → (Instr.loadAt 209 (.pointer (some ⟨g, 0 + Int.toNat (j : Int) * 1, none⟩))).run Tryz.prog w' = .ok (.int .u32 t') w') ∧
        (0 ≤ (i : Int) ∧ (i : Int) < 16 ∧ (∃ w1, (Instr.storeAt 209 (.pointer (some ⟨g, 0 + Int.toNat (i : Int) * 1, none⟩)) (.int .u32 (IntKind.wrap .u32 (t + t')))).run Tryz.prog w.drew = .ok () w1 ∧ K w1)))))) := by
  have e : ∀ k : Nat, 0 + Int.toNat (k : Int) * 1 = k := fun k => by omega
  have hT : ∀ w, (isAgg 209).run Tryz.prog w = .ok false w := fun w => Tryz.isAgg209 w
  refine ⟨fun w' => St w0 X w' M, h.drew, by omega, by omega, by omega, by omega, _, fun w' h' => h'.ldK hi (hT _) (e i) (by omega), _, fun w' h' => h'.ldK hi (hT _) (e j) (by omega), by omega, by omega, ?_⟩
  rw [add_val]
  obtain ⟨w1, hr, h1⟩ := h.drew.stK (n := add32 (l.getD i 0) (l.getD j 0)) hi (Tryz.sizeOf209 _) (e i) (by omega)
  exact ⟨w1, hr, hK _ h1⟩

/-- A step 'x[i] = left(x[i]^x[j], n)' of the reference. -/
theorem xStep_vc (h : St w0 X w M) {m g : Nat} {T : TypeId} {l : List Nat} (hi : M[m]? = some (.arr g T (kv .u32 l))) (hl : l.length = 16) (hlt : Lt32 l) {i j n : Nat} (ha : i < 16) (hb : j < 16) (hn : n < 32) (h0 : 0 < n) {K : World → Prop}
    (hK : ∀ w', St w0 X w' (M.set m (.arr g T (kv .u32 (xStep l i j n)))) → K w') :
    ∃ S : World → Prop, S w.drew ∧ (0 ≤ (i : Int) ∧ (i : Int) < 16 ∧ (0 ≤ (j : Int) ∧ (j : Int) < 16 ∧
      (∃ t : Int, (∀ w', S w' → (Instr.loadAt 209 (.pointer (some ⟨g, 0 + Int.toNat (i : Int) * 1, none⟩))).run Tryz.prog w' = .ok (.int .u32 t) w') ∧
      (∃ t' : Int, (∀ w', S w' → (Instr.loadAt 209 (.pointer (some ⟨g, 0 + Int.toNat (j : Int) * 1, none⟩))).run Tryz.prog w' = .ok (.int .u32 t') w') ∧
      (Calls Tryz.prog 172 #[.int .u32 (bxor .u32 t t'), .int .u64 ((n : Nat) : Int)] w.drew fun e w2 => ∃ t2 : Int, e = .returned (.int .u32 t2) ∧
        (∃ S_2 : World → Prop, (∀ w', S_2 w' → S w') ∧ S_2 w2 ∧
        (0 ≤ (i : Int) ∧ (i : Int) < 16 ∧ (∃ w1, (Instr.storeAt 209 (.pointer (some ⟨g, 0 + Int.toNat (i : Int) * 1, none⟩)) (.int .u32 t2)).run Tryz.prog w2 = .ok () w1 ∧ K w1)))))))) := by
  have e : ∀ k : Nat, 0 + Int.toNat (k : Int) * 1 = k := fun k => by omega
  have hT : ∀ w, (isAgg 209).run Tryz.prog w = .ok false w := fun w => Tryz.isAgg209 w
  refine ⟨fun w' => St w0 X w' M, h.drew, by omega, by omega, by omega, by omega, _, fun w' h' => h'.ldK hi (hT _) (e i) (by omega), _, fun w' h' => h'.ldK hi (hT _) (e j) (by omega), ?_⟩
  rw [xor_val (hlt i) (hlt j)]
  refine (left_spec _ n _ (xor_lt (hlt i) (hlt j)) hn h0).mono ?_
  rintro e1 w2 ⟨rfl, rfl⟩
  refine ⟨_, rfl, fun w' => St w0 X w' M, fun _ h => h, h.drew, by omega, by omega, ?_⟩
  obtain ⟨w1, hr, h1⟩ := h.drew.stK (n := rotl (l.getD i 0 ^^^ l.getD j 0) n) hi (Tryz.sizeOf209 _) (e i) (by omega)
  exact ⟨w1, hr, hK _ h1⟩

end

theorem round_spec (g : Nat) (T : TypeId) (l : List Nat) (a b c d : Nat) (w : World) (hg : w.heap[g]? = some (.cells (kv .u32 l).toArray T)) (hl : l.length = 16) (hlt : Lt32 l) (ha : a < 16) (hb : b < 16) (hc : c < 16) (hd : d < 16) :
    Calls Tryz.prog 148 #[.pointer (some ⟨g, 0, none⟩), .int .i64 (a : Int), .int .i64 (b : Int), .int .i64 (c : Int), .int .i64 (d : Int)] w fun e w' => e = .returned (.tuple #[]) ∧ Chg [g] w w' ∧ w'.heap[g]? = some (.cells (kv .u32 (rnd l a b c d)).toArray T) := by
  apply amphoraref03_round_vc
  refine aStep_vc (St.ofBlk hg) (m := 0) rfl hl ha hb fun w1 h1 => ?_
  refine xStep_vc h1 (m := 0) rfl (by simp [hl]) (hlt.aStep _ _) hd ha (by decide) (by decide) fun w2 h2 => ?_
  refine aStep_vc h2 (m := 0) rfl (by simp [hl]) hc hd fun w3 h3 => ?_
  refine xStep_vc h3 (m := 0) rfl (by simp [hl]) (((hlt.aStep _ _).xStep _ _ _).aStep _ _) hb hc (by decide) (by decide) fun w4 h4 => ?_
  refine aStep_vc h4 (m := 0) rfl (by simp [hl]) ha hb fun w5 h5 => ?_
  refine xStep_vc h5 (m := 0) rfl (by simp [hl]) (((((hlt.aStep _ _).xStep _ _ _).aStep _ _).xStep _ _ _).aStep _ _) hd ha (by decide) (by decide) fun w6 h6 => ?_
  refine aStep_vc h6 (m := 0) rfl (by simp [hl]) hc hd fun w7 h7 => ?_
  refine xStep_vc h7 (m := 0) rfl (by simp [hl]) (((((((hlt.aStep _ _).xStep _ _ _).aStep _ _).xStep _ _ _).aStep _ _).xStep _ _ _).aStep _ _) hb hc (by decide) (by decide) fun w8 h8 => ?_
  exact ⟨rfl, h8.chg, h8.holds 0 _ rfl⟩

open Go Sx
set_option maxRecDepth 8000

theorem word_spec (a : Option Addr) (n c : Nat) (l : List UInt8) (w : World) (hr : RdB w a n c l) (hn : 4 ≤ n) : Calls Tryz.prog 188 #[.slice a n c] w fun e w' => e = .returned (.int .u32 ((le4 l 0 : Nat) : Int)) ∧ Chg [] w w' := by
  have hl := hr.lenB
  apply chacha_word_vc
  have b0 := (l.getD 0 0).toNat_lt
  have b1 := (l.getD 1 0).toNat_lt
  have b2 := (l.getD 2 0).toNat_lt
  have b3 := (l.getD 3 0).toNat_lt
  have hc : Cells w.drew a (bv l) := hr.cells.keep0 (Chg.drew _ _)
  refine ⟨fun w' => Chg [] w w', Chg.drew _ _, ?_⟩
  refine ix0 hr.cells hl 0 (by omega) fun g0 o0 e0 h0 => ix0 hr.cells hl 1 (by omega) fun g1 o1 e1 h1 => ix0 hr.cells hl 2 (by omega) fun g2 o2 e2 h2 => ix0 hr.cells hl 3 (by omega) fun g3 o3 e3 h3 => ?_
  refine ⟨g0, o0, e0, by omega, by omega, g1, o1, e1, by omega, by omega, g2, o2, e2, by omega, by omega, g3, o3, e3, by omega, by omega,
    _, fun w' h => h0 w' (hr.cells.keep0 h), _, fun w' h => h1 w' (hr.cells.keep0 h), _, fun w' h => h2 w' (hr.cells.keep0 h), _, fun w' h => h3 w' (hr.cells.keep0 h), ?_, Chg.drew _ _⟩
  rw [wrap_u32_nat (show (l.getD 0 0).toNat < 4294967296 by omega), wrap_u32_nat (show (l.getD 1 0).toNat < 4294967296 by omega), wrap_u32_nat (show (l.getD 2 0).toNat < 4294967296 by omega), wrap_u32_nat (show (l.getD 3 0).toNat < 4294967296 by omega),
    show (8 : Int) = ((8 : Nat) : Int) from rfl, show (16 : Int) = ((16 : Nat) : Int) from rfl, show (24 : Int) = ((24 : Nat) : Int) from rfl, shl_val (by decide), shl_val (by decide), shl_val (by decide)]
  have m : ∀ x : Nat, x % 4294967296 < 4294967296 := fun x => Nat.mod_lt _ (by decide)
  rw [or_val (by omega) (m _), or_val (Nat.or_lt_two_pow (n := 32) (by omega) (m _)) (m _), or_val (Nat.or_lt_two_pow (n := 32) (Nat.or_lt_two_pow (n := 32) (by omega) (m _)) (m _)) (m _)]
  rfl

theorem le4_sub (l : List UInt8) (o n : Nat) (h : 4 ≤ n) : le4 ((l.drop o).take n) 0 = le4 l o := by
  have : ∀ j, j < 4 → ((l.drop o).take n).getD (0 + j) 0 = l.getD (o + j) 0 := fun j hj => by
    simp only [List.getD, List.getElem?_take, List.getElem?_drop, Nat.zero_add]
    rw [if_pos (by omega)]
  have h0 := this 0 (by omega)
  rw [Nat.add_zero, Nat.add_zero] at h0
  simp only [le4, h0, this 1 (by omega), this 2 (by omega), this 3 (by omega)]

theorem zero16 (w : World) : (zeroValue 235).run Tryz.prog w = .ok (.agg (kv .u32 (List.replicate 16 0)).toArray) w := Tryz.zeroValue235 w
theorem zero64 (w : World) : (zeroValue 207).run Tryz.prog w = .ok (.agg (bv (List.replicate 64 0)).toArray) w := Tryz.zeroValue207 w

theorem begin_spec (key nonce : List UInt8) (ctr : Nat) (w : World) (hk : key.length = 32) (hn : nonce.length = 12) (hc : ctr < 4294967296) :
    Calls Tryz.prog 184 #[.agg (bv key).toArray, .int .u32 (ctr : Int), .agg (bv nonce).toArray] w fun e w' => e = .returned (.agg (kv .u32 (firstL key ctr nonce)).toArray) ∧ Chg [] w w' := by
  apply chacha_begin_vc
  obtain ⟨g1, w1, r1, h1⟩ := (St.start w).boxA (P := Tryz.prog) 22 (bv key)
  obtain ⟨g2, w2, r2, h2⟩ := h1.boxA (P := Tryz.prog) 187 (bv nonce)
  obtain ⟨g3, w3, r3, h3⟩ := h2.zeroA zero16
  have hb := build_arr (P := Tryz.prog) (w := w3) (zero16 w3) Tryz.underlying235 (Tryz.sizeOf209 _) (kv .u32 [1634760805, 857760878, 2036477234, 1797285236]) (kv_one _ _) (by simp)
  obtain ⟨g4, w4, r4, h4⟩ := h3.zeroA zero16
  obtain ⟨w5, r5, h5⟩ := h4.stA (i := 3) (v := kv .u32 ([1634760805, 857760878, 2036477234, 1797285236] ++ List.replicate 12 0)) rfl (Tryz.sizeOf235 _) (by simp) (by simp) (kv_one _ _)
  refine ⟨_, _, r1, _, _, r2, _, _, r3, _, hb, _, _, r4, _, r5, ?_⟩
  refine ⟨fun i w' => ∃ k : Nat, i = (k : Int) ∧ k ≤ 8 ∧ St w [] w' [.arr g1 22 (bv key), .arr g2 187 (bv nonce), .arr g3 235 (kv .u32 (List.replicate 16 0)), .arr g4 235 (kv .u32 (setW 4 key k ([1634760805, 857760878, 2036477234, 1797285236] ++ List.replicate 12 0)))], fun i _ => 8 - i.toNat,
    ⟨0, rfl, by omega, h5⟩, ?_⟩
  rintro i w6 ⟨k, rfl, hk8, hS⟩
  refine ⟨fun h => ?_, fun h => ?_⟩
  · have hk' : k < 8 := by simp at h; omega
    have e1 : IntKind.wrap .i64 ((4 : Int) * (k : Int)) = ((4 * k : Nat) : Int) := by rw [wrap_i64 (by omega) (by omega)]; omega
    have e2 : IntKind.wrap .i64 ((4 : Int) + (k : Int)) = ((4 + k : Nat) : Int) := by rw [wrap_i64 (by omega) (by omega)]; omega
    have e3 : IntKind.wrap .i64 ((k : Int) + 1) = ((k + 1 : Nat) : Int) := by rw [wrap_i64 (by omega) (by omega)]; rfl
    rw [e1, e2, e3]
    refine ⟨by omega, by omega, by omega, fun a' hs => ?_⟩
    have hrd := (hS.rdA (i := 0) (n := 32) rfl (by simp [hk])).sub (l := 4 * k) (hh := 32) (m := 32) hs (by omega) (by omega) (by omega) (by omega)
    rw [Nat.mul_one, Nat.mul_one, ← bv_drop, ← bv_take] at hrd
    refine (word_spec _ _ _ _ _ hrd (by omega)).mono ?_
    rintro e w7 ⟨rfl, hc7⟩
    rw [le4_sub _ _ _ (by omega)]
    refine ⟨_, rfl, by omega, by omega, ?_⟩
    obtain ⟨w8, r8, h8⟩ := (hS.same hc7).stK (i := 3) (off := 0 + Int.toNat ((4 + k : Nat) : Int) * 1) (o := 4 + k) (n := le4 key (4 * k)) rfl (Tryz.sizeOf209 _) (by omega) (by simp; omega)
    exact ⟨w8, r8, ⟨k + 1, rfl, by omega, h8⟩, by simp; omega⟩
  · have hk' : k = 8 := by simp at h; omega
    subst hk'
    obtain ⟨w7, r7, h7⟩ := hS.stK (i := 3) (off := 12) (o := 12) (n := ctr) rfl (Tryz.sizeOf209 _) rfl (by simp)
    refine ⟨w7, r7, ?_⟩
    refine ⟨fun i w' => ∃ k : Nat, i = (k : Int) ∧ k ≤ 3 ∧ St w [] w' [.arr g1 22 (bv key), .arr g2 187 (bv nonce), .arr g3 235 (kv .u32 (List.replicate 16 0)), .arr g4 235 (kv .u32 (setW 13 nonce k ((setW 4 key 8 ([1634760805, 857760878, 2036477234, 1797285236] ++ List.replicate 12 0)).set 12 ctr)))], fun i _ => 3 - i.toNat,
      ⟨0, rfl, by omega, h7⟩, ?_⟩
    rintro i w8 ⟨k, rfl, hk8, hS⟩
    refine ⟨fun h => ?_, fun h => ?_⟩
    · have hk' : k < 3 := by simp at h; omega
      have e1 : IntKind.wrap .i64 ((4 : Int) * (k : Int)) = ((4 * k : Nat) : Int) := by rw [wrap_i64 (by omega) (by omega)]; omega
      have e2 : IntKind.wrap .i64 ((13 : Int) + (k : Int)) = ((13 + k : Nat) : Int) := by rw [wrap_i64 (by omega) (by omega)]; omega
      have e3 : IntKind.wrap .i64 ((k : Int) + 1) = ((k + 1 : Nat) : Int) := by rw [wrap_i64 (by omega) (by omega)]; rfl
      rw [e1, e2, e3]
      refine ⟨by omega, by omega, by omega, fun a' hs => ?_⟩
      have hrd := (hS.rdA (i := 1) (n := 12) rfl (by simp [hn])).sub (l := 4 * k) (hh := 12) (m := 12) hs (by omega) (by omega) (by omega) (by omega)
      rw [Nat.mul_one, Nat.mul_one, ← bv_drop, ← bv_take] at hrd
      refine (word_spec _ _ _ _ _ hrd (by omega)).mono ?_
      rintro e w9 ⟨rfl, hc9⟩
      rw [le4_sub _ _ _ (by omega)]
      refine ⟨_, rfl, by omega, by omega, ?_⟩
      obtain ⟨w10, r10, h10⟩ := (hS.same hc9).stK (i := 3) (off := 0 + Int.toNat ((13 + k : Nat) : Int) * 1) (o := 13 + k) (n := le4 nonce (4 * k)) rfl (Tryz.sizeOf209 _) (by omega) (by simp; omega)
      exact ⟨w10, r10, ⟨k + 1, rfl, by omega, h10⟩, by simp; omega⟩
    · have hk' : k = 3 := by simp at h; omega
      subst hk'
      have hA : ∀ w, (isAgg 235).run Tryz.prog w = .ok true w := fun w => Tryz.isAgg235 w
      refine ⟨_, hS.ldA (i := 3) rfl (hA _) (Tryz.sizeOf235 _) (by simp), ?_⟩
      obtain ⟨w9, r9, h9⟩ := hS.stA (i := 2) (v := kv .u32 (firstL key ctr nonce)) rfl (Tryz.sizeOf235 _) (by simp) (by simp [firstL]) (kv_one _ _)
      exact ⟨w9, r9, _, h9.ldVarA (i := 2) rfl (hA _) (Tryz.sizeOf235 _) (by simp [firstL]), rfl, h9.chg⟩

open Go Sx
set_option maxRecDepth 8000

theorem e16 : ∀ w, (isAgg 235).run Tryz.prog w = .ok true w := fun w => Tryz.isAgg235 w
theorem e64 : ∀ w, (isAgg 207).run Tryz.prog w = .ok true w := fun w => Tryz.isAgg207 w
theorem e32 : ∀ w, (isAgg 22).run Tryz.prog w = .ok true w := fun w => Tryz.isAgg22 w
theorem e12 : ∀ w, (isAgg 187).run Tryz.prog w = .ok true w := fun w => Tryz.isAgg187 w
theorem eU : ∀ w, (isAgg 209).run Tryz.prog w = .ok false w := fun w => Tryz.isAgg209 w

theorem outB_val (x y : List Nat) (i j : Nat) (hj : j < 4) : IntKind.wrap .u8 ((add32 (x.getD i 0) (y.getD i 0) / 2 ^ (8 * j) : Nat) : Int) = ((outB x y (4 * i + j)).toNat : Int) := by
  rw [wrap_u8, outB, show (4 * i + j) / 4 = i by omega, show (4 * i + j) % 4 = j by omega]
  simp
theorem outL_get (x y : List Nat) (i : Nat) (h : i < 64) : (outL x y)[i]? = some (outB x y i) := by simp [outL, h]

theorem block_spec (key nonce : List UInt8) (ctr : Nat) (w : World) (hk : key.length = 32) (hn : nonce.length = 12) (hc : ctr < 4294967296) :
    Calls Tryz.prog 171 #[.agg (bv key).toArray, .int .u32 (ctr : Int), .agg (bv nonce).toArray] w fun e w' => e = .returned (.agg (bv (blockF key ctr nonce)).toArray) ∧ Chg [] w w' := by
  apply chacha_Block_vc
  obtain ⟨g1, w1, r1, h1⟩ := (St.start w).boxA (P := Tryz.prog) 22 (bv key)
  obtain ⟨g2, w2, r2, h2⟩ := h1.boxA (P := Tryz.prog) 187 (bv nonce)
  obtain ⟨g3, w3, r3, h3⟩ := h2.zeroA zero64
  refine ⟨_, _, r1, _, _, r2, _, _, r3, _, h3.ldA (i := 0) rfl (e32 _) (Tryz.sizeOf22 _) (by simp [hk]), _, h3.ldA (i := 1) rfl (e12 _) (Tryz.sizeOf187 _) (by simp [hn]), (begin_spec key nonce ctr w3 hk hn hc).mono ?_⟩
  rintro e w4 ⟨rfl, hc4⟩
  have h4 := h3.same hc4
  have hF := firstL_len key ctr nonce
  have hlF := lt32_first key nonce hc
  obtain ⟨F, hFd⟩ : ∃ F, firstL key ctr nonce = F := ⟨_, rfl⟩
  have hB : blockF key ctr nonce = outL (dblR 10 F) F := by rw [blockF, hFd]
  rw [hB]
  rw [hFd] at hF hlF ⊢
  obtain ⟨g5, w5, r5, h5⟩ := h4.zeroA zero16
  obtain ⟨w6, r6, h6⟩ := h5.stA (i := 3) (v := kv .u32 F) rfl (Tryz.sizeOf235 _) (by simp) (by simp [hF]) (kv_one _ _)
  obtain ⟨g7, w7, r7, h7⟩ := h6.zeroA zero16
  obtain ⟨w8, r8, h8⟩ := h7.stA (i := 4) (v := kv .u32 F) rfl (Tryz.sizeOf235 _) (by simp) (by simp [hF]) (kv_one _ _)
  refine ⟨_, rfl, _, _, r5, _, r6, _, h6.ldA (i := 3) rfl (e16 _) (Tryz.sizeOf235 _) (by simp [hF]), _, _, r7, _, r8, ?_⟩
  obtain ⟨Mx, hMx⟩ : ∃ Mx : List Nat → List Res, Mx = fun x => [.arr g1 22 (bv key), .arr g2 187 (bv nonce), .arr g3 207 (bv (List.replicate 64 0)), .arr g5 235 (kv .u32 F), .arr g7 235 (kv .u32 x)] := ⟨_, rfl⟩
  have hi4 : ∀ x, (Mx x)[4]? = some (.arr g7 235 (kv .u32 x)) := fun x => by rw [hMx]; rfl
  have hi3 : ∀ x, (Mx x)[3]? = some (.arr g5 235 (kv .u32 F)) := fun x => by rw [hMx]; rfl
  have hi2 : ∀ x, (Mx x)[2]? = some (.arr g3 207 (bv (List.replicate 64 0))) := fun x => by rw [hMx]; rfl
  have hset : ∀ x y, (Mx x).set 4 (.arr g7 235 (kv .u32 y)) = Mx y := fun x y => by rw [hMx]; rfl
  have h8' : St w [] w8 (Mx F) := by rw [hMx]; exact h8
  have hw : ∀ i : Nat, i < 100 → IntKind.wrap .i64 ((i : Int) + 1) = ((i + 1 : Nat) : Int) := fun i h => by rw [wrap_i64 (by omega) (by omega)]; rfl
  have ze : ∀ k : Nat, 0 + Int.toNat (k : Int) * 1 = k := fun k => by omega
  have sU : ∀ w, (sizeOf 209).run Tryz.prog w = .ok 1 w := fun w => Tryz.sizeOf209 w
  have sB : ∀ w, (sizeOf 5).run Tryz.prog w = .ok 1 w := fun w => Tryz.sizeOf5 w
  -- a quarter round in place
  have step : ∀ (x : List Nat) (a b c d : Nat) (wa : World) (K : World → Prop), St w [] wa (Mx x) → x.length = 16 → Lt32 x → a < 16 → b < 16 → c < 16 → d < 16 → a ≠ b → a ≠ c → a ≠ d → b ≠ c → b ≠ d → c ≠ d → (∀ wb, St w [] wb (Mx (rnd x a b c d)) → K wb) →
      (∃ S : World → Prop, S wa.drew ∧ (0 ≤ (a : Int) ∧ (a : Int) < 16 ∧ (0 ≤ (b : Int) ∧ (b : Int) < 16 ∧ (0 ≤ (c : Int) ∧ (c : Int) < 16 ∧ (0 ≤ (d : Int) ∧ (d : Int) < 16 ∧
        (∃ ta : Int, (∀ w', S w' → (Instr.loadAt 209 (.pointer (some ⟨g7, 0 + Int.toNat (a : Int) * 1, none⟩))).run Tryz.prog w' = .ok (.int .u32 ta) w') ∧
        (∃ tb : Int, (∀ w', S w' → (Instr.loadAt 209 (.pointer (some ⟨g7, 0 + Int.toNat (b : Int) * 1, none⟩))).run Tryz.prog w' = .ok (.int .u32 tb) w') ∧
        (∃ tc : Int, (∀ w', S w' → (Instr.loadAt 209 (.pointer (some ⟨g7, 0 + Int.toNat (c : Int) * 1, none⟩))).run Tryz.prog w' = .ok (.int .u32 tc) w') ∧
        (∃ td : Int, (∀ w', S w' → (Instr.loadAt 209 (.pointer (some ⟨g7, 0 + Int.toNat (d : Int) * 1, none⟩))).run Tryz.prog w' = .ok (.int .u32 td) w') ∧
          (Calls Tryz.prog 185 #[.int .u32 ta, .int .u32 tb, .int .u32 tc, .int .u32 td] wa.drew fun e w11 => ∃ t0 t1 t2 t3 : Int, e = .returned (.tuple #[.int .u32 t0, .int .u32 t1, .int .u32 t2, .int .u32 t3]) ∧
            (∃ S_1 : World → Prop, (∀ w', S_1 w' → S w') ∧ S_1 w11 ∧
              (0 ≤ (a : Int) ∧ (a : Int) < 16 ∧ (∃ w12, (Instr.storeAt 209 (.pointer (some ⟨g7, 0 + Int.toNat (a : Int) * 1, none⟩)) (.int .u32 t0)).run Tryz.prog w11 = .ok () w12 ∧
              (0 ≤ (b : Int) ∧ (b : Int) < 16 ∧ (∃ w13, (Instr.storeAt 209 (.pointer (some ⟨g7, 0 + Int.toNat (b : Int) * 1, none⟩)) (.int .u32 t1)).run Tryz.prog w12 = .ok () w13 ∧
              (0 ≤ (c : Int) ∧ (c : Int) < 16 ∧ (∃ w14, (Instr.storeAt 209 (.pointer (some ⟨g7, 0 + Int.toNat (c : Int) * 1, none⟩)) (.int .u32 t2)).run Tryz.prog w13 = .ok () w14 ∧
              (0 ≤ (d : Int) ∧ (d : Int) < 16 ∧ (∃ w15, (Instr.storeAt 209 (.pointer (some ⟨g7, 0 + Int.toNat (d : Int) * 1, none⟩)) (.int .u32 t3)).run Tryz.prog w14 = .ok () w15 ∧ K w15))))))))))))))))))) := by
    intro x a b c d wa K hS hx hlx ha hb hcc hd ab ac ad bc bd cd hK
    refine ⟨fun w' => St w [] w' (Mx x), hS.drew, by omega, by omega, by omega, by omega, by omega, by omega, by omega, by omega, _, fun w' h => h.ldK (hi4 x) (eU _) (ze a) (by omega), _, fun w' h => h.ldK (hi4 x) (eU _) (ze b) (by omega), _, fun w' h => h.ldK (hi4 x) (eU _) (ze c) (by omega), _, fun w' h => h.ldK (hi4 x) (eU _) (ze d) (by omega), ?_⟩
    refine (quarter_spec _ _ _ _ _ (hlx b) (hlx d)).mono ?_
    rintro e w11 ⟨rfl, rfl⟩
    obtain ⟨w12, q1, s1⟩ := hS.drew.stK (n := qA (x.getD a 0) (x.getD b 0) (x.getD c 0) (x.getD d 0)) (hi4 x) (sU _) (ze a) (by omega)
    rw [hset] at s1
    obtain ⟨w13, q2, s2⟩ := s1.stK (n := qB (x.getD a 0) (x.getD b 0) (x.getD c 0) (x.getD d 0)) (hi4 _) (sU _) (ze b) (by simp; omega)
    rw [hset] at s2
    obtain ⟨w14, q3, s3⟩ := s2.stK (n := qC (x.getD a 0) (x.getD b 0) (x.getD c 0) (x.getD d 0)) (hi4 _) (sU _) (ze c) (by simp; omega)
    rw [hset] at s3
    obtain ⟨w15, q4, s4⟩ := s3.stK (n := qD (x.getD a 0) (x.getD b 0) (x.getD c 0) (x.getD d 0)) (hi4 _) (sU _) (ze d) (by simp; omega)
    rw [hset] at s4
    refine ⟨_, _, _, _, rfl, fun w' => St w [] w' (Mx x), fun _ h => h, hS.drew, by omega, by omega, w12, q1, by omega, by omega, w13, q2, by omega, by omega, w14, q3, by omega, by omega, w15, q4, hK _ ?_⟩
    rw [rnd_eq (by omega) (by omega) (by omega) (by omega) ab ac ad bc bd cd]
    exact s4
  refine ⟨fun i w' => ∃ k : Nat, i = (k : Int) ∧ k ≤ 10 ∧ St w [] w' (Mx (dblR k F)), fun i _ => 10 - i.toNat, ⟨0, rfl, by omega, h8'⟩, ?_⟩
  rintro i w9 ⟨k, rfl, hk10, hS⟩
  refine ⟨fun h => ?_, fun h => ?_⟩
  · have hk' : k < 10 := by simp at h; omega
    refine ⟨fun i w' => ∃ j : Nat, i = (j : Int) ∧ j ≤ 4 ∧ St w [] w' (Mx (colR j (dblR k F))), fun i _ => 4 - i.toNat, ⟨0, rfl, by omega, hS⟩, ?_⟩
    rintro i w10 ⟨j, rfl, hj4, hS⟩
    refine ⟨fun h => ?_, fun h => ?_⟩
    · have hj' : j < 4 := by simp at h; omega
      have e1 : IntKind.wrap .i64 ((4 : Int) + (j : Int)) = ((4 + j : Nat) : Int) := by rw [wrap_i64 (by omega) (by omega)]; omega
      have e2 : IntKind.wrap .i64 ((8 : Int) + (j : Int)) = ((8 + j : Nat) : Int) := by rw [wrap_i64 (by omega) (by omega)]; omega
      have e3 : IntKind.wrap .i64 ((12 : Int) + (j : Int)) = ((12 + j : Nat) : Int) := by rw [wrap_i64 (by omega) (by omega)]; omega
      rw [e1, e2, e3, hw j (by omega)]
      refine step _ j (4 + j) (8 + j) (12 + j) _ _ hS (by simp [hF]) ((hlF.dblR k).colR j) (by omega) (by omega) (by omega) (by omega) (by omega) (by omega) (by omega) (by omega) (by omega) (by omega) fun wb hb => ?_
      exact ⟨⟨j + 1, rfl, by omega, hb⟩, by simp; omega⟩
    · have hj' : j = 4 := by simp at h; omega
      subst hj'
      refine ⟨fun i w' => ∃ j : Nat, i = (j : Int) ∧ j ≤ 4 ∧ St w [] w' (Mx (diaR j (colR 4 (dblR k F)))), fun i _ => 4 - i.toNat, ⟨0, rfl, by omega, hS⟩, ?_⟩
      rintro i w11 ⟨j, rfl, hj4, hS⟩
      refine ⟨fun h => ?_, fun h => ?_⟩
      · have hj' : j < 4 := by simp at h; omega
        have e0 : ∀ (u v : Nat), u < 100 → v < 100 → IntKind.wrap .i64 ((u : Int) + Int.tmod (IntKind.wrap .i64 ((j : Int) + (v : Int))) 4) = ((u + (j + v) % 4 : Nat) : Int) := fun u v hu hv => by
          rw [show IntKind.wrap .i64 ((j : Int) + (v : Int)) = ((j + v : Nat) : Int) by rw [wrap_i64 (by omega) (by omega)]; omega, Int.tmod_eq_emod_of_nonneg (by omega), wrap_i64 (by omega) (by omega)]; omega
        have e1 : IntKind.wrap .i64 ((4 : Int) + Int.tmod (IntKind.wrap .i64 ((j : Int) + 1)) 4) = _ := e0 4 1 (by omega) (by omega)
        have e2 : IntKind.wrap .i64 ((8 : Int) + Int.tmod (IntKind.wrap .i64 ((j : Int) + 2)) 4) = _ := e0 8 2 (by omega) (by omega)
        have e3 : IntKind.wrap .i64 ((12 : Int) + Int.tmod (IntKind.wrap .i64 ((j : Int) + 3)) 4) = _ := e0 12 3 (by omega) (by omega)
        rw [e1, e2, e3, hw j (by omega)]
        refine step _ j (4 + (j + 1) % 4) (8 + (j + 2) % 4) (12 + (j + 3) % 4) _ _ hS (by simp [hF]) (((hlF.dblR k).colR 4).diaR j) (by omega) (by omega) (by omega) (by omega) (by omega) (by omega) (by omega) (by omega) (by omega) (by omega) fun wb hb => ?_
        exact ⟨⟨j + 1, rfl, by omega, hb⟩, by simp; omega⟩
      · have hj' : j = 4 := by simp at h; omega
        subst hj'
        rw [hw k (by omega)]
        exact ⟨⟨k + 1, rfl, by omega, hS⟩, by simp; omega⟩
  · have hk' : k = 10 := by simp at h; omega
    subst hk'
    obtain ⟨g10, w10, r10, h10⟩ := hS.zeroA zero64
    obtain ⟨O, hO⟩ : ∃ O, outL (dblR 10 F) F = O := ⟨_, rfl⟩
    have hOl : O.length = 64 := by rw [← hO]; simp
    rw [hO]
    have hm5 : ∀ y, (Mx (dblR 10 F) ++ [Res.arr g10 207 (bv y)])[5]? = some (.arr g10 207 (bv y)) := fun y => by rw [hMx]; rfl
    have hm4 : ∀ y, (Mx (dblR 10 F) ++ [Res.arr g10 207 (bv y)])[4]? = some (.arr g7 235 (kv .u32 (dblR 10 F))) := fun y => by rw [hMx]; rfl
    have hm3 : ∀ y, (Mx (dblR 10 F) ++ [Res.arr g10 207 (bv y)])[3]? = some (.arr g5 235 (kv .u32 F)) := fun y => by rw [hMx]; rfl
    have hm2 : ∀ y, (Mx (dblR 10 F) ++ [Res.arr g10 207 (bv y)])[2]? = some (.arr g3 207 (bv (List.replicate 64 0))) := fun y => by rw [hMx]; rfl
    have hms : ∀ x y, (Mx (dblR 10 F) ++ [Res.arr g10 207 (bv x)]).set 5 (.arr g10 207 (bv y)) = Mx (dblR 10 F) ++ [Res.arr g10 207 (bv y)] := fun x y => by rw [hMx]; rfl
    refine ⟨_, _, r10, fun i w' => ∃ k : Nat, i = (k : Int) ∧ k ≤ 16 ∧ St w [] w' (Mx (dblR 10 F) ++ [.arr g10 207 (bv (upTo O (4 * k)))]), fun i _ => 16 - i.toNat, ⟨0, rfl, by omega, by rw [Nat.mul_zero, upTo_zero, hOl]; exact h10⟩, ?_⟩
    rintro i w11 ⟨k, rfl, hk16, hT⟩
    refine ⟨fun h => ?_, fun h => ?_⟩
    · have hk' : k < 16 := by simp at h; omega
      have e1 : IntKind.wrap .i64 ((4 : Int) * (k : Int)) = ((4 * k : Nat) : Int) := by rw [wrap_i64 (by omega) (by omega)]; omega
      have e2 : ∀ j : Nat, j < 4 → IntKind.wrap .i64 (((4 * k : Nat) : Int) + (j : Int)) = ((4 * k + j : Nat) : Int) := fun j hj => by rw [wrap_i64 (by omega) (by omega)]; omega
      have e21 := e2 1 (by omega)
      have e22 := e2 2 (by omega)
      have e23 := e2 3 (by omega)
      rw [show ((1 : Nat) : Int) = 1 from rfl] at e21
      rw [show ((2 : Nat) : Int) = 2 from rfl] at e22
      rw [show ((3 : Nat) : Int) = 3 from rfl] at e23
      rw [e1, e21, e22, e23, hw k (by omega)]
      have ot : ∀ j, j < 4 → O[4 * k + j]? = some (outB (dblR 10 F) F (4 * k + j)) := fun j hj => by rw [← hO]; exact outL_get _ _ _ (by omega)
      have v0 : IntKind.wrap .u8 (IntKind.wrap .u32 (((dblR 10 F).getD k 0 : Nat) + (F.getD k 0 : Nat) : Int)) = ((outB (dblR 10 F) F (4 * k)).toNat : Int) := by
        rw [add_val]; have := outB_val (dblR 10 F) F k 0 (by omega); simpa using this
      have vj : ∀ (j : Nat), j < 4 → IntKind.wrap .u8 (shrI .u32 (IntKind.wrap .u32 (((dblR 10 F).getD k 0 : Nat) + (F.getD k 0 : Nat) : Int)) ((8 * j : Nat) : Int)) = ((outB (dblR 10 F) F (4 * k + j)).toNat : Int) := fun j hj => by
        rw [add_val, shr_nat _ _ _ (show 8 * j ≤ 32 by omega)]; exact outB_val (dblR 10 F) F k j hj
      have v1 : IntKind.wrap .u8 (shrI .u32 (IntKind.wrap .u32 (((dblR 10 F).getD k 0 : Nat) + (F.getD k 0 : Nat) : Int)) 8) = _ := vj 1 (by omega)
      have v2 : IntKind.wrap .u8 (shrI .u32 (IntKind.wrap .u32 (((dblR 10 F).getD k 0 : Nat) + (F.getD k 0 : Nat) : Int)) 16) = _ := vj 2 (by omega)
      have v3 : IntKind.wrap .u8 (shrI .u32 (IntKind.wrap .u32 (((dblR 10 F).getD k 0 : Nat) + (F.getD k 0 : Nat) : Int)) 24) = _ := vj 3 (by omega)
      refine ⟨fun w' => St w [] w' (Mx (dblR 10 F) ++ [.arr g10 207 (bv (upTo O (4 * k)))]), hT.drew, by omega, by omega, by omega, by omega, _, fun w' h => h.ldK (hm4 _) (eU _) (ze k) (by simp [hF]; omega), _, fun w' h => h.ldK (hm3 _) (eU _) (ze k) (by omega), by omega, by omega, ?_⟩
      rw [v0, v1, v2, v3]
      obtain ⟨w12, q1, s1⟩ := hT.drew.stB (b := outB (dblR 10 F) F (4 * k)) (hm5 _) (sB _) (ze (4 * k)) (by rw [upTo_len (by omega)]; omega)
      rw [hms, upTo_set (show O[4 * k]? = some (outB (dblR 10 F) F (4 * k)) from ot 0 (by omega))] at s1
      obtain ⟨w13, q2, s2⟩ := s1.stB (b := outB (dblR 10 F) F (4 * k + 1)) (hm5 _) (sB _) (ze (4 * k + 1)) (by rw [upTo_len (by omega)]; omega)
      rw [hms, upTo_set (ot 1 (by omega))] at s2
      obtain ⟨w14, q3, s3⟩ := s2.stB (b := outB (dblR 10 F) F (4 * k + 2)) (hm5 _) (sB _) (ze (4 * k + 2)) (by rw [upTo_len (by omega)]; omega)
      rw [hms, upTo_set (ot 2 (by omega))] at s3
      obtain ⟨w15, q4, s4⟩ := s3.stB (b := outB (dblR 10 F) F (4 * k + 3)) (hm5 _) (sB _) (ze (4 * k + 3)) (by rw [upTo_len (by omega)]; omega)
      rw [hms, upTo_set (ot 3 (by omega))] at s4
      exact ⟨w12, q1, by omega, by omega, w13, q2, by omega, by omega, w14, q3, by omega, by omega, w15, q4, ⟨k + 1, rfl, by omega, s4⟩, by simp; omega⟩
    · have hk' : k = 16 := by simp at h; omega
      subst hk'
      rw [show 4 * 16 = O.length by omega, upTo_all] at hT
      refine ⟨_, hT.ldA (hm5 _) (e64 _) (Tryz.sizeOf207 _) (by simp [hOl]), ?_⟩
      obtain ⟨w12, q1, s1⟩ := hT.stA (v := bv O) (hm2 _) (Tryz.sizeOf207 _) (by simp) (by simp [hOl]) (bv_one _)
      refine ⟨w12, q1, _, s1.ldVarA (i := 2) (l := bv O) (by rw [hMx]; rfl) (e64 _) (Tryz.sizeOf207 _) (by simp [hOl]), rfl, s1.chg⟩

open Go Sx
set_option maxRecDepth 8000

theorem const16 : (((((List.replicate 16 0).set 0 1634760805).set 1 857760878).set 2 2036477234).set 3 1797285236 : List Nat) = [1634760805, 857760878, 2036477234, 1797285236] ++ List.replicate 12 0 := by decide

theorem first_alt (key nonce : List UInt8) (ctr : Nat) :
    orW 13 nonce 12 (orW 4 key 32 (([1634760805, 857760878, 2036477234, 1797285236] ++ List.replicate 12 0).set 12 ctr)) = firstL key ctr nonce := by
  have z : ∀ j, 4 ≤ j → j < 16 → j ≠ 12 → (([1634760805, 857760878, 2036477234, 1797285236] ++ List.replicate 12 0 : List Nat).set 12 ctr).getD j 0 = 0 := by
    intro j h1 h2 h3
    rw [getD_set_ne (fun e => h3 e.symm)]
    have : ∀ j < 16, 4 ≤ j → ([1634760805, 857760878, 2036477234, 1797285236] ++ List.replicate 12 0 : List Nat).getD j 0 = 0 := by decide
    exact this j h2 h1
  have h1 := orW_setW 4 key (([1634760805, 857760878, 2036477234, 1797285236] ++ List.replicate 12 0 : List Nat).set 12 ctr) 8 (by simp) (fun j h1 h2 => z j h1 (by omega) (by omega))
  rw [show 4 * 8 = 32 from rfl] at h1
  rw [h1]
  have h2 := orW_setW 13 nonce (setW 4 key 8 (([1634760805, 857760878, 2036477234, 1797285236] ++ List.replicate 12 0 : List Nat).set 12 ctr)) 3 (by simp) (fun j h1 h2 => by
    rw [setW_far _ _ _ _ _ (by omega)]; exact z j (by omega) (by omega) (by omega))
  rw [show 4 * 3 = 12 from rfl] at h2
  have sw : ∀ (k : Nat) (l : List Nat), 4 + k ≤ 12 → setW 4 key k (l.set 12 ctr) = (setW 4 key k l).set 12 ctr := by
    intro k
    induction k with
    | zero => intro l _; rfl
    | succ k ih =>
      intro l hk
      rw [setW, setW, ih l (by omega), List.set_comm _ _ (by omega)]
  rw [h2, sw 8 _ (by omega), firstL]

theorem rblock_spec (key nonce : List UInt8) (ctr : Nat) (w : World) (hk : key.length = 32) (hn : nonce.length = 12) (hc : ctr < 4294967296) :
    Calls Tryz.prog 127 #[.agg (bv key).toArray, .int .u32 (ctr : Int), .agg (bv nonce).toArray] w fun e w' => e = .returned (.agg (bv (blockF key ctr nonce)).toArray) ∧ Chg [] w w' := by
  apply amphoraref03_Block_vc
  have hw : ∀ i : Nat, i < 100 → IntKind.wrap .i64 ((i : Int) + 1) = ((i + 1 : Nat) : Int) := fun i h => by rw [wrap_i64 (by omega) (by omega)]; rfl
  have ze : ∀ k : Nat, 0 + Int.toNat (k : Int) * 1 = k := fun k => by omega
  have sU : ∀ w, (sizeOf 209).run Tryz.prog w = .ok 1 w := fun w => Tryz.sizeOf209 w
  have sB : ∀ w, (sizeOf 5).run Tryz.prog w = .ok 1 w := fun w => Tryz.sizeOf5 w
  have s16 : ∀ w, (sizeOf 235).run Tryz.prog w = .ok 16 w := fun w => Tryz.sizeOf235 w
  have s64 : ∀ w, (sizeOf 207).run Tryz.prog w = .ok 64 w := fun w => Tryz.sizeOf207 w
  obtain ⟨g1, w1, r1, h1⟩ := (St.start w).boxA (P := Tryz.prog) 22 (bv key)
  obtain ⟨g2, w2, r2, h2⟩ := h1.boxA (P := Tryz.prog) 187 (bv nonce)
  obtain ⟨g3, w3, r3, h3⟩ := h2.zeroA zero64
  have hb := build_arr (P := Tryz.prog) (w := w3) (zero16 w3) Tryz.underlying235 (sU _) [] (by simp) (by simp)
  obtain ⟨g4, w4, r4, h4⟩ := h3.zeroA zero16
  obtain ⟨w5, r5, h5⟩ := h4.stA (i := 3) (v := kv .u32 (List.replicate 16 0)) rfl (s16 _) (by simp) (by simp) (kv_one _ _)
  obtain ⟨w6, r6, h6⟩ := h5.stK (i := 3) (off := 0) (o := 0) (n := 1634760805) rfl (sU _) rfl (by simp)
  obtain ⟨w7, r7, h7⟩ := h6.stK (i := 3) (off := 1) (o := 1) (n := 857760878) rfl (sU _) rfl (by simp)
  obtain ⟨w8, r8, h8⟩ := h7.stK (i := 3) (off := 2) (o := 2) (n := 2036477234) rfl (sU _) rfl (by simp)
  obtain ⟨w9, r9, h9⟩ := h8.stK (i := 3) (off := 3) (o := 3) (n := 1797285236) rfl (sU _) rfl (by simp)
  obtain ⟨w10, r10, h10⟩ := h9.stK (i := 3) (off := 12) (o := 12) (n := ctr) rfl (sU _) rfl (by simp)
  rw [const16] at h10
  refine ⟨_, _, r1, _, _, r2, _, _, r3, _, hb, _, _, r4, _, r5, _, r6, _, r7, _, r8, _, r9, _, r10, ?_⟩
  obtain ⟨C0, hC0⟩ : ∃ C0, ([1634760805, 857760878, 2036477234, 1797285236] ++ List.replicate 12 0 : List Nat).set 12 ctr = C0 := ⟨_, rfl⟩
  have hC0l : C0.length = 16 := by rw [← hC0]; simp
  have hC0t : Lt32 C0 := by rw [← hC0]; exact lt32_const.set 12 hc
  obtain ⟨Mx, hMx⟩ : ∃ Mx : List Nat → List Res, Mx = fun x => [.arr g1 22 (bv key), .arr g2 187 (bv nonce), .arr g3 207 (bv (List.replicate 64 0)), .arr g4 235 (kv .u32 x)] := ⟨_, rfl⟩
  have hi0 : ∀ x, (Mx x)[0]? = some (.arr g1 22 (bv key)) := fun x => by rw [hMx]; rfl
  have hi1 : ∀ x, (Mx x)[1]? = some (.arr g2 187 (bv nonce)) := fun x => by rw [hMx]; rfl
  have hi3 : ∀ x, (Mx x)[3]? = some (.arr g4 235 (kv .u32 x)) := fun x => by rw [hMx]; rfl
  have hset : ∀ x y, (Mx x).set 3 (.arr g4 235 (kv .u32 y)) = Mx y := fun x y => by rw [hMx]; rfl
  have h10' : St w [] w10 (Mx C0) := by rw [hMx, ← hC0]; exact h10
  have ed : ∀ i : Nat, i < 100 → IntKind.wrap .i64 (Int.tdiv (i : Int) 4) = ((i / 4 : Nat) : Int) := fun i hi => by rw [Int.tdiv_eq_ediv_of_nonneg (by omega), wrap_i64 (by omega) (by omega)]; omega
  have em : ∀ i : Nat, IntKind.wrap .u64 (Int.tmod (i : Int) 4) = ((i % 4 : Nat) : Int) := fun i => by rw [Int.tmod_eq_emod_of_nonneg (by omega), wrap_u64]; omega
  have e8 : ∀ j : Nat, j < 4 → IntKind.wrap .u64 ((8 : Int) * (j : Int)) = ((8 * j : Nat) : Int) := fun j hj => by rw [wrap_u64]; omega
  have ea : ∀ b j : Nat, b < 100 → j < 100 → IntKind.wrap .i64 ((b : Int) + (j : Int)) = ((b + j : Nat) : Int) := fun b j hb hj => by rw [wrap_i64 (by omega) (by omega)]; omega
  have vor : ∀ (x : Nat) (b : UInt8) (j : Nat), x < 4294967296 → j < 4 → bor .u32 (x : Int) (shlI .u32 (IntKind.wrap .u32 (b.toNat : Int)) ((8 * j : Nat) : Int)) = ((x ||| b.toNat * 2 ^ (8 * j) % 4294967296 : Nat) : Int) := fun x b j hx hj => by
    have := b.toNat_lt
    rw [wrap_u32_nat (by omega), shl_val (by omega), or_val hx (Nat.mod_lt _ (by decide))]
  refine ⟨fun i w' => ∃ k : Nat, i = (k : Int) ∧ k ≤ 32 ∧ St w [] w' (Mx (orW 4 key k C0)), fun i _ => 32 - i.toNat, ⟨0, rfl, by omega, h10'⟩, ?_⟩
  rintro i w11 ⟨k, rfl, hk32, hS⟩
  refine ⟨fun h => ?_, fun h => ?_⟩
  · have hk' : k < 32 := by simp at h; omega
    have e4 : IntKind.wrap .i64 ((4 : Int) + ((k / 4 : Nat) : Int)) = _ := ea 4 (k / 4) (by omega) (by omega)
    rw [ed k (by omega), e4, em, e8 _ (by omega), hw k (by omega)]
    have ht := hC0t.orW 4 key k
    refine ⟨fun w' => St w [] w' (Mx (orW 4 key k C0)), hS.drew, by omega, by omega, by omega, by omega, _, fun w' h => h.ldK (hi3 _) (eU _) (ze (4 + k / 4)) (by rw [orW_len]; omega), _, fun w' h => h.ldB (hi0 _) (bA _) (ze k) (by omega), by omega, by omega, by omega, ?_⟩
    rw [vor _ _ _ (ht _) (by omega)]
    obtain ⟨w12, q, s⟩ := hS.drew.stK (n := (orW 4 key k C0).getD (4 + k / 4) 0 ||| (key.getD k 0).toNat * 2 ^ (8 * (k % 4)) % 4294967296) (hi3 _) (sU _) (ze (4 + k / 4)) (by rw [orW_len]; omega)
    rw [hset] at s
    exact ⟨w12, q, ⟨k + 1, rfl, by omega, s⟩, by simp; omega⟩
  · have hk' : k = 32 := by simp at h; omega
    subst hk'
    refine ⟨fun i w' => ∃ k : Nat, i = (k : Int) ∧ k ≤ 12 ∧ St w [] w' (Mx (orW 13 nonce k (orW 4 key 32 C0))), fun i _ => 12 - i.toNat, ⟨0, rfl, by omega, hS⟩, ?_⟩
    rintro i w13 ⟨k, rfl, hk12, hS⟩
    refine ⟨fun h => ?_, fun h => ?_⟩
    · have hk' : k < 12 := by simp at h; omega
      have e4 : IntKind.wrap .i64 ((13 : Int) + ((k / 4 : Nat) : Int)) = _ := ea 13 (k / 4) (by omega) (by omega)
      rw [ed k (by omega), e4, em, e8 _ (by omega), hw k (by omega)]
      have ht := (hC0t.orW 4 key 32).orW 13 nonce k
      refine ⟨fun w' => St w [] w' (Mx (orW 13 nonce k (orW 4 key 32 C0))), hS.drew, by omega, by omega, by omega, by omega, _, fun w' h => h.ldK (hi3 _) (eU _) (ze (13 + k / 4)) (by rw [orW_len, orW_len]; omega), _, fun w' h => h.ldB (hi1 _) (bA _) (ze k) (by omega), by omega, by omega, by omega, ?_⟩
      rw [vor _ _ _ (ht _) (by omega)]
      obtain ⟨w14, q, s⟩ := hS.drew.stK (n := (orW 13 nonce k (orW 4 key 32 C0)).getD (13 + k / 4) 0 ||| (nonce.getD k 0).toNat * 2 ^ (8 * (k % 4)) % 4294967296) (hi3 _) (sU _) (ze (13 + k / 4)) (by rw [orW_len, orW_len]; omega)
      rw [hset] at s
      exact ⟨w14, q, ⟨k + 1, rfl, by omega, s⟩, by simp; omega⟩
    · have hk' : k = 12 := by simp at h; omega
      subst hk'
      have hfa := first_alt key nonce ctr
      rw [hC0] at hfa
      have hF := firstL_len key ctr nonce
      have hlF := lt32_first key nonce hc
      obtain ⟨F, hFd⟩ : ∃ F, firstL key ctr nonce = F := ⟨_, rfl⟩
      have hB : blockF key ctr nonce = outL F (dblR 10 F) := by rw [blockF, hFd, outL_comm]
      rw [hB]
      rw [hfa] at hS
      rw [hFd] at hF hlF hS
      obtain ⟨g5, w15, r15, h15⟩ := hS.zeroA zero16
      have m4 : ∀ x y, (Mx x ++ [Res.arr g5 235 (kv .u32 y)])[4]? = some (.arr g5 235 (kv .u32 y)) := fun x y => by rw [hMx]; rfl
      have m3 : ∀ x y, (Mx x ++ [Res.arr g5 235 (kv .u32 y)])[3]? = some (.arr g4 235 (kv .u32 x)) := fun x y => by rw [hMx]; rfl
      have ms : ∀ x y z, (Mx x ++ [Res.arr g5 235 (kv .u32 y)]).set 4 (.arr g5 235 (kv .u32 z)) = Mx x ++ [Res.arr g5 235 (kv .u32 z)] := fun x y z => by rw [hMx]; rfl
      obtain ⟨w16, r16, h16⟩ := h15.stA (v := kv .u32 F) (m4 _ _) (s16 _) (by simp) (by simp [hF]) (kv_one _ _)
      rw [ms] at h16
      refine ⟨_, hS.ldA (hi3 _) (e16 _) (s16 _) (by simp [hF]), _, _, r15, _, r16, ?_⟩
      have rs : ∀ (x : List Nat) (a b c d : Nat) (wa : World) (K : Ending → World → Prop), St w [] wa (Mx F ++ [Res.arr g5 235 (kv .u32 x)]) → x.length = 16 → Lt32 x → a < 16 → b < 16 → c < 16 → d < 16 →
          (∀ wb, St w [] wb (Mx F ++ [Res.arr g5 235 (kv .u32 (rnd x a b c d))]) → K (.returned (.tuple #[])) wb) →
          Calls Tryz.prog 148 #[.pointer (some ⟨g5, 0, none⟩), .int .i64 (a : Int), .int .i64 (b : Int), .int .i64 (c : Int), .int .i64 (d : Int)] wa K := by
        intro x a b c d wa K hS hx hlx ha hb hc hd hK
        refine (round_spec g5 _ x a b c d wa (hS.holds 4 _ (m4 _ _)) hx hlx ha hb hc hd).mono ?_
        rintro e wb ⟨rfl, hcb, hgb⟩
        refine hK wb ?_
        have := hS.upd (m4 _ _) (w' := wb) (r' := .arr g5 235 (kv .u32 (rnd x a b c d))) hcb hgb (by simp [Res.fp])
        rw [ms] at this
        exact this
      refine ⟨fun i w' => ∃ k : Nat, i = (k : Int) ∧ k ≤ 10 ∧ St w [] w' (Mx F ++ [Res.arr g5 235 (kv .u32 (dblR k F))]), fun i _ => 10 - i.toNat, ⟨0, rfl, by omega, h16⟩, ?_⟩
      rintro i w17 ⟨k, rfl, hk10, hS⟩
      refine ⟨fun h => ?_, fun h => ?_⟩
      · have hk' : k < 10 := by simp at h; omega
        have ht := hlF.dblR k
        have hl0 : (dblR k F).length = 16 := by simp [hF]
        refine rs (dblR k F) 0 4 8 12 _ _ hS hl0 ht (by decide) (by decide) (by decide) (by decide) fun w18 h18 => ⟨rfl, ?_⟩
        have t1 := ht.rnd 0 4 8 12
        refine rs _ 1 5 9 13 _ _ h18 (by simp [hF]) t1 (by decide) (by decide) (by decide) (by decide) fun w19 h19 => ⟨rfl, ?_⟩
        have t2 := t1.rnd 1 5 9 13
        refine rs _ 2 6 10 14 _ _ h19 (by simp [hF]) t2 (by decide) (by decide) (by decide) (by decide) fun w20 h20 => ⟨rfl, ?_⟩
        have t3 := t2.rnd 2 6 10 14
        refine rs _ 3 7 11 15 _ _ h20 (by simp [hF]) t3 (by decide) (by decide) (by decide) (by decide) fun w21 h21 => ⟨rfl, ?_⟩
        have t4 := t3.rnd 3 7 11 15
        refine rs _ 0 5 10 15 _ _ h21 (by simp [hF]) t4 (by decide) (by decide) (by decide) (by decide) fun w22 h22 => ⟨rfl, ?_⟩
        have t5 := t4.rnd 0 5 10 15
        refine rs _ 1 6 11 12 _ _ h22 (by simp [hF]) t5 (by decide) (by decide) (by decide) (by decide) fun w23 h23 => ⟨rfl, ?_⟩
        have t6 := t5.rnd 1 6 11 12
        refine rs _ 2 7 8 13 _ _ h23 (by simp [hF]) t6 (by decide) (by decide) (by decide) (by decide) fun w24 h24 => ⟨rfl, ?_⟩
        have t7 := t6.rnd 2 7 8 13
        refine rs _ 3 4 9 14 _ _ h24 (by simp [hF]) t7 (by decide) (by decide) (by decide) (by decide) fun w25 h25 => ⟨rfl, ?_⟩
        rw [hw k (by omega)]
        exact ⟨⟨k + 1, rfl, by omega, h25⟩, by simp; omega⟩
      · have hk' : k = 10 := by simp at h; omega
        subst hk'
        have hb64 := build_arr (P := Tryz.prog) (w := w17) (zero64 w17) Tryz.underlying207 (sB _) [] (by simp) (by simp)
        obtain ⟨g6, w18, r18, h18⟩ := hS.zeroA zero64
        obtain ⟨O, hO⟩ : ∃ O, outL F (dblR 10 F) = O := ⟨_, rfl⟩
        have hOl : O.length = 64 := by rw [← hO]; simp
        rw [hO]
        obtain ⟨Nx, hNx⟩ : ∃ Nx : List UInt8 → List Res, Nx = fun y => Mx F ++ [Res.arr g5 235 (kv .u32 (dblR 10 F))] ++ [Res.arr g6 207 (bv y)] := ⟨_, rfl⟩
        have n5 : ∀ y, (Nx y)[5]? = some (.arr g6 207 (bv y)) := fun y => by rw [hNx, hMx]; rfl
        have n4 : ∀ y, (Nx y)[4]? = some (.arr g5 235 (kv .u32 (dblR 10 F))) := fun y => by rw [hNx, hMx]; rfl
        have n3 : ∀ y, (Nx y)[3]? = some (.arr g4 235 (kv .u32 F)) := fun y => by rw [hNx, hMx]; rfl
        have n2 : ∀ y, (Nx y)[2]? = some (.arr g3 207 (bv (List.replicate 64 0))) := fun y => by rw [hNx, hMx]; rfl
        have ns : ∀ x y, (Nx x).set 5 (.arr g6 207 (bv y)) = Nx y := fun x y => by rw [hNx, hMx]; rfl
        have h18' : St w [] w18 (Nx (List.replicate 64 0)) := by rw [hNx]; exact h18
        obtain ⟨w19, r19, h19⟩ := h18'.stA (v := bv (List.replicate 64 0)) (n5 _) (s64 _) (by simp) (by simp) (bv_one _)
        rw [ns] at h19
        refine ⟨_, hb64, _, _, r18, _, r19, fun i w' => ∃ k : Nat, i = (k : Int) ∧ k ≤ 64 ∧ St w [] w' (Nx (upTo O k)), fun i _ => 64 - i.toNat, ⟨0, rfl, by omega, by rw [upTo_zero, hOl]; exact h19⟩, ?_⟩
        rintro i w20 ⟨k, rfl, hk64, hT⟩
        refine ⟨fun h => ?_, fun h => ?_⟩
        · have hk' : k < 64 := by simp at h; omega
          rw [ed k (by omega), em, e8 _ (by omega), hw k (by omega)]
          have ov : IntKind.wrap .u8 (shrI .u32 (IntKind.wrap .u32 ((F.getD (k / 4) 0 : Nat) + ((dblR 10 F).getD (k / 4) 0 : Nat) : Int)) ((8 * (k % 4) : Nat) : Int)) = ((outB F (dblR 10 F) k).toNat : Int) := by
            rw [add_val, shr_nat _ _ _ (show 8 * (k % 4) ≤ 32 by omega), outB_val F (dblR 10 F) (k / 4) (k % 4) (by omega), show 4 * (k / 4) + k % 4 = k by omega]
          refine ⟨fun w' => St w [] w' (Nx (upTo O k)), hT.drew, by omega, by omega, by omega, by omega, _, fun w' h => h.ldK (n3 _) (eU _) (ze (k / 4)) (by omega), _, fun w' h => h.ldK (n4 _) (eU _) (ze (k / 4)) (by simp [hF]; omega), by omega, by omega, by omega, ?_⟩
          rw [ov]
          obtain ⟨w21, q, s⟩ := hT.drew.stB (b := outB F (dblR 10 F) k) (n5 _) (sB _) (ze k) (by rw [upTo_len (by omega)]; omega)
          rw [ns, upTo_set (by rw [← hO]; exact outL_get _ _ _ hk')] at s
          exact ⟨w21, q, ⟨k + 1, rfl, by omega, s⟩, by simp; omega⟩
        · have hk' : k = 64 := by simp at h; omega
          subst hk'
          rw [show 64 = O.length by omega, upTo_all] at hT
          refine ⟨_, hT.ldA (n5 _) (e64 _) (s64 _) (by simp [hOl]), ?_⟩
          obtain ⟨w22, q, s⟩ := hT.stA (v := bv O) (n2 _) (s64 _) (by simp) (by simp [hOl]) (bv_one _)
          refine ⟨w22, q, _, s.ldVarA (i := 2) (l := bv O) (by rw [hNx, hMx]; rfl) (e64 _) (s64 _) (by simp [hOl]), rfl, s.chg⟩

open Go Sx
set_option maxRecDepth 8000

/-- The stream's byte at a place; bytes under the stream. -/
def strB (key nonce : List UInt8) (p : Nat) : UInt8 := (blockF key (p / 64) nonce).getD (p % 64) 0
def xorL (key nonce : List UInt8) (at' : Nat) (l : List UInt8) : List UInt8 := l.mapIdx fun i b => b ^^^ strB key nonce (at' + i)
@[simp] theorem xorL_len (key nonce : List UInt8) (at' : Nat) (l : List UInt8) : (xorL key nonce at' l).length = l.length := by simp [xorL]
theorem xorL_get {key nonce : List UInt8} {at' : Nat} {l : List UInt8} {i : Nat} (h : i < l.length) : (xorL key nonce at' l)[i]? = some (l.getD i 0 ^^^ strB key nonce (at' + i)) := by simp [xorL, List.getD, h]

/-- The first i bytes of one row, the others of another. -/
def mix (x l : List UInt8) (i : Nat) : List UInt8 := x.take i ++ l.drop i
theorem mix_zero (x l : List UInt8) : mix x l 0 = l := by simp [mix]
theorem mix_all {x l : List UInt8} {n : Nat} (h : x.length = n) (h' : l.length = n) : mix x l n = x := by simp [mix, ← h, show l.length = x.length by omega]
theorem mix_len {x l : List UInt8} {i : Nat} (h : x.length = l.length) (hi : i ≤ l.length) : (mix x l i).length = l.length := by simp [mix]; omega
theorem mix_get {x l : List UInt8} {i : Nat} (h : x.length = l.length) (hi : i < l.length) : (mix x l i).getD i 0 = l.getD i 0 := by
  have hl : (x.take i).length = i := by rw [List.length_take]; omega
  simp [mix, List.getD, List.getElem?_append_right, hl]
theorem mix_set {x l : List UInt8} {i : Nat} {b : UInt8} (h : x.length = l.length) (hb : x[i]? = some b) : (mix x l i).set i b = mix x l (i + 1) := by
  have hi : i < x.length := (List.getElem?_eq_some_iff.1 hb).1
  have hl : (x.take i).length = i := by rw [List.length_take]; omega
  rw [mix, mix, List.set_append_right _ _ (by omega), hl, Nat.sub_self, List.drop_eq_getElem_cons (by omega : i < l.length), List.set_cons_zero, List.take_add_one, hb]
  simp

theorem xor_u8 (a b : UInt8) : bxor .u8 (a.toNat : Int) (b.toNat : Int) = ((a ^^^ b).toNat : Int) := by
  rw [bxor_nat rfl (by simpa [kmod, IntKind.bits] using a.toNat_lt) (by simpa [kmod, IntKind.bits] using b.toNat_lt), UInt8.toNat_xor]

theorem Sx.Chg.range {w w' : World} {X : List Nat} {b o : Nat} {cs : List Value} (hc : Chg X w w') (h : w.rangeAt b o cs) (hb : b ∉ X) : w'.rangeAt b o cs := by
  have hk : Cells w (some ⟨b, o, none⟩) cs := .inr ⟨b, o, rfl, h⟩
  rcases hk.keep hc (by rintro ad ⟨⟩; exact hb) with h0 | ⟨b', o', he, hr⟩
  · subst h0; intro j v hj; simp at hj
  · simp only [Option.some.injEq, Addr.mk.injEq, and_true] at he
    obtain ⟨rfl, rfl⟩ := he
    exact hr

theorem Sx.St.ofRowC {w : World} {e : TypeId} {sz : Nat} {g n m c : Nat} {xs : List Value} (h : w.ownsRow 0 e sz (.slice (some ⟨g, 0, none⟩) n c) m xs) : St w [g] w [.row e sz (.slice (some ⟨g, 0, none⟩) n c) m xs] := by
  have one : ∀ (i : Nat) (r : Res), [Res.row e sz (.slice (some ⟨g, 0, none⟩) n c) m xs][i]? = some r → i = 0 ∧ r = .row e sz (.slice (some ⟨g, 0, none⟩) n c) m xs := by
    intro i r hr
    cases i with
    | zero => exact ⟨rfl, (Option.some.inj hr).symm⟩
    | succ i => simp at hr
  refine ⟨Chg.refl _ _, ?_, ?_, ?_⟩
  · intro i r hr; obtain ⟨_, rfl⟩ := one i r hr; exact h
  · intro i r hr k hk; obtain ⟨_, rfl⟩ := one i r hr; right; simpa [Res.fp, Value.ownBlock] using hk
  · intro i j r s hij hi hj; have := (one i r hi).1; have := (one j s hj).1; omega

theorem seatOver_spec (gs o g n c at' : Nat) (key nonce l : List UInt8) (w : World) (hk : key.length = 32) (hn : nonce.length = 12) (rk : w.rangeAt gs o (bv key)) (rn : w.rangeAt gs (o + 32) (bv nonce)) (hne : gs ≠ g)
    (hrow : w.ownsRow 0 5 1 (.slice (some ⟨g, 0, none⟩) n c) n (bv l)) (hat : at' + n ≤ 274877906944) :
    Calls Tryz.prog 145 #[.pointer (some ⟨gs, o, none⟩), .int .i64 (at' : Int), .slice (some ⟨g, 0, none⟩) n c] w fun e w' => e = .returned (.tuple #[]) ∧ Chg [g] w w' ∧ w'.ownsRow 0 5 1 (.slice (some ⟨g, 0, none⟩) n c) n (bv (xorL key nonce at' l)) := by
  apply chacha_seat_over_vc
  have hl : l.length = n := by have := hrow.1; simpa using this
  have ze : ∀ k : Nat, 0 + Int.toNat (k : Int) * 1 = k := fun k => by omega
  have sB : ∀ w, (sizeOf 5).run Tryz.prog w = .ok 1 w := fun w => Tryz.sizeOf5 w
  have s64 : ∀ w, (sizeOf 207).run Tryz.prog w = .ok 64 w := fun w => Tryz.sizeOf207 w
  have s32 : ∀ w, (sizeOf 22).run Tryz.prog w = .ok 32 w := fun w => Tryz.sizeOf22 w
  have s12 : ∀ w, (sizeOf 187).run Tryz.prog w = .ok 12 w := fun w => Tryz.sizeOf187 w
  obtain ⟨X, hX⟩ : ∃ X, xorL key nonce at' l = X := ⟨_, rfl⟩
  have hXl : X.length = l.length := by rw [← hX]; simp
  rw [hX]
  obtain ⟨g6, w1, r1, h1⟩ := (St.ofRowC hrow).zeroA zero64
  obtain ⟨M, hM⟩ : ∃ M : List UInt8 → List UInt8 → List Res, M = fun x B => [.row 5 1 (.slice (some ⟨g, 0, none⟩) n c) n (bv x), .arr g6 207 (bv B)] := ⟨_, rfl⟩
  have i0 : ∀ x B, (M x B)[0]? = some (.row 5 1 (.slice (some ⟨g, 0, none⟩) n c) n (bv x)) := fun x B => by rw [hM]; rfl
  have i1 : ∀ x B, (M x B)[1]? = some (.arr g6 207 (bv B)) := fun x B => by rw [hM]; rfl
  have q0 : ∀ x B y, (M x B).set 0 (.row 5 1 (.slice (some ⟨g, 0, none⟩) n c) n (bv y)) = M y B := fun x B y => by rw [hM]; rfl
  have q1 : ∀ x B y, (M x B).set 1 (.arr g6 207 (bv y)) = M x y := fun x B y => by rw [hM]; rfl
  have h1' : St w [g] w1 (M (mix X l 0) (List.replicate 64 0)) := by rw [hM, mix_zero]; exact h1
  refine ⟨_, _, r1, fun x y w' => ∃ (i : Nat) (B : List UInt8), y = (i : Int) ∧ i ≤ n ∧ B.length = 64 ∧ (x = -1 ∨ ∃ h : Nat, x = (h : Int) ∧ B = blockF key h nonce) ∧ St w [g] w' (M (mix X l i) B), fun _ y _ => n - y.toNat,
    ⟨0, _, rfl, by omega, by simp, .inl rfl, h1'⟩, ?_⟩
  rintro x y w2 ⟨i, B, rfl, hi, hBl, hB, hS⟩
  refine ⟨fun h => ?_, fun h => ?_⟩
  · have hi' : i < n := by simp at h; omega
    have ea : IntKind.wrap .i64 ((at' : Int) + (i : Int)) = ((at' + i : Nat) : Int) := by rw [wrap_i64 (by omega) (by omega)]; omega
    have ed : IntKind.wrap .i64 (Int.tdiv ((at' + i : Nat) : Int) 64) = (((at' + i) / 64 : Nat) : Int) := by rw [Int.tdiv_eq_ediv_of_nonneg (by omega), wrap_i64 (by omega) (by omega)]; omega
    have em : Int.tmod ((at' + i : Nat) : Int) 64 = (((at' + i) % 64 : Nat) : Int) := by rw [Int.tmod_eq_emod_of_nonneg (by omega)]; omega
    have ew : IntKind.wrap .u32 (((at' + i) / 64 : Nat) : Int) = (((at' + i) / 64 : Nat) : Int) := wrap_u32_nat (by omega)
    have e1 : IntKind.wrap .i64 ((i : Int) + 1) = ((i + 1 : Nat) : Int) := by rw [wrap_i64 (by omega) (by omega)]; rfl
    rw [ea, ed, em, ew, e1]
    refine ⟨fun x' w' => x' = (((at' + i) / 64 : Nat) : Int) ∧ St w [g] w' (M (mix X l i) (blockF key ((at' + i) / 64) nonce)), ⟨fun hd => ?_, fun hd => ?_⟩, ?_⟩
    · have kd := fun (w' : World) (h : St w [g] w' (M (mix X l i) B)) => h.chg.range rk (by simp [hne])
      have nd := fun (w' : World) (h : St w [g] w' (M (mix X l i) B)) => h.chg.range rn (by simp [hne])
      refine ⟨fun w' => St w [g] w' (M (mix X l i) B), hS.drew, _, fun w' h => ldRange (kd w' h) (e32 _) (s32 _) (by simp [hk]), _, fun w' h => ldRange (nd w' h) (e12 _) (s12 _) (by simp [hn]), (block_spec key nonce ((at' + i) / 64) _ hk hn (by omega)).mono ?_⟩
      rintro e w3 ⟨rfl, hc3⟩
      obtain ⟨w4, r4, h4⟩ := (hS.drew.same hc3).stA (v := bv (blockF key ((at' + i) / 64) nonce)) (i1 _ _) (s64 _) (by simp [hBl]) (by simp) (bv_one _)
      rw [q1] at h4
      exact ⟨_, rfl, fun w' => St w [g] w' (M (mix X l i) B), fun _ h => h, hS.drew.same hc3, w4, r4, rfl, h4⟩
    · have hx : x = (((at' + i) / 64 : Nat) : Int) := by simp at hd; exact hd.symm
      rcases hB with h0 | ⟨h', h0, hBh⟩
      · omega
      · have : h' = (at' + i) / 64 := by omega
        rw [this] at hBh
        exact ⟨hx, by rw [← hBh]; exact hS⟩
    · rintro x' w5 ⟨rfl, h5⟩
      have hlt : (at' + i) % 64 < 64 := Nat.mod_lt _ (by decide)
      have hml := mix_len hXl (show i ≤ l.length by omega)
      have ldm : ∀ w', St w [g] w' (M (mix X l i) (blockF key ((at' + i) / 64) nonce)) → (Instr.loadAt 5 (.pointer (some ⟨g, 0 + Int.toNat (i : Int) * 1, none⟩))).run Tryz.prog w' = .ok (.int .u8 ((l.getD i 0).toNat : Int)) w' := fun w' h => by
        have hc := h.cells (i0 _ _)
        have hv : (bv (mix X l i))[i]? = some (.int .u8 ((l.getD i 0).toNat : Int)) := by rw [bv_getD (by omega), mix_get hXl (by omega)]
        obtain ⟨b, o', he, hcell⟩ := hc.at_ hv
        simp only [Option.some.injEq, Addr.mk.injEq, and_true] at he
        obtain ⟨rfl, rfl⟩ := he
        rw [show 0 + Int.toNat (i : Int) * 1 = 0 + i by omega]
        exact ld1 (bA _) hcell
      refine ⟨fun w' => St w [g] w' (M (mix X l i) (blockF key ((at' + i) / 64) nonce)), h5.drew, g, 0, rfl, by omega, by omega, by omega, by omega, _, ldm, _, fun w' h => h.ldB (i1 _ _) (bA _) (ze ((at' + i) % 64)) (by simpa using hlt), g, 0, rfl, by omega, by omega, ?_⟩
      rw [xor_u8, show 0 + Int.toNat (i : Int) * 1 = i by omega]
      obtain ⟨w6, r6, h6⟩ := h5.drew.stRow (v := .int .u8 ((l.getD i 0 ^^^ (blockF key ((at' + i) / 64) nonce).getD ((at' + i) % 64) 0).toNat : Int)) (i0 _ _) (sB _) hi' rfl
      rw [bv_set, q0, mix_set hXl (by rw [← hX]; exact xorL_get (by omega))] at h6
      exact ⟨w6, r6, ⟨i + 1, _, rfl, by omega, by simp, .inr ⟨_, rfl, rfl⟩, h6⟩, by simp; omega⟩
  · have hi' : i = n := by simp at h; omega
    subst hi'
    rw [mix_all (by omega) (by omega)] at hS
    exact ⟨rfl, hS.chg, hS.holds 0 _ (i0 _ _)⟩

/-- Is there room? What XOR answers. -/
def roomF (x : Int) (n : Nat) : Bool := decide (0 ≤ x) && decide (x + n ≤ 274877906944)
def xorE (x : Int) (n : Nat) : Option Int := if roomF x n then none else some 8
def xorR (key nonce : List UInt8) (x : Int) (l : List UInt8) : List UInt8 := if roomF x l.length then xorL key nonce x.toNat l else []

theorem room_spec (x : Int) (n : Nat) (w : World) (h1 : -9223372036854775808 ≤ x) (h2 : x ≤ 9223372036854775807) (hn : n ≤ 9223372036854775807) : Calls Tryz.prog 144 #[.int .i64 x, .int .i64 (n : Int)] w fun e w' => e = .returned (.bool (roomF x n)) ∧ w' = w := by
  apply chacha_room_vc
  refine ⟨?_, rfl⟩
  have : (((decide (x ≥ (0 : Int))) && (decide (x ≤ (274877906944 : Int)))) && (decide ((n : Int) ≤ (IntKind.wrap .i64 ((274877906944 : Int) - x))))) = roomF x n := by
    by_cases h0 : 0 ≤ x
    · rw [wrap_i64 (by omega) (by omega)]
      simp only [roomF]
      rw [Bool.eq_iff_iff]
      simp only [Bool.and_eq_true, decide_eq_true_eq]
      omega
    · simp [roomF, h0]
  rw [this]

theorem built_seat : Tryz.prog.built 230 = fun parts => Instr.fill (fun i => (#[(0, 32), (32, 12)] : Array (Nat × Nat))[i]?) (bv (List.replicate 44 0)).toArray parts := by kernel_rfl

theorem seat_build (key nonce : List UInt8) (hk : key.length = 32) (hn : nonce.length = 12) (w : World) : (Instr.build 230 #[(0, .agg (bv key).toArray), (1, .agg (bv nonce).toArray)]).run Tryz.prog w = .ok (.agg (bv key ++ bv nonce).toArray) w := by
  apply run_build
  rw [built_seat]
  show Instr.fill _ _ [(0, .agg (bv key).toArray), (1, .agg (bv nonce).toArray)] = _
  rw [fill_step (off := 0) (sz := 32) rfl (by simp [Value.cells, hk]) (by simp), fill_step (off := 32) (sz := 12) rfl (by simp [Value.cells, hn]) (by simp [Value.cells, hk])]
  simp [Instr.fill, Value.cells, hk, hn]

theorem xor_spec (key nonce : List UInt8) (x : Int) (a : Option Addr) (n c : Nat) (l : List UInt8) (w : World) (hk : key.length = 32) (hn : nonce.length = 12) (h1 : -9223372036854775808 ≤ x) (h2 : x ≤ 9223372036854775807) (hr : RdB w a n c l) (hb : n ≤ 9223372036854775807) :
    Calls Tryz.prog 122 #[.agg (bv key).toArray, .agg (bv nonce).toArray, .int .i64 x, .slice a n c] w fun e w' => ∃ a' n' c', e = .returned (.tuple #[.slice a' n' c', errV (xorE x n)]) ∧ FreshB w w' a' n' c' (xorR key nonce x l) := by
  have hl := hr.lenB
  apply chacha_XOR_vc
  have s32 : ∀ w, (sizeOf 22).run Tryz.prog w = .ok 32 w := fun w => Tryz.sizeOf22 w
  have s12 : ∀ w, (sizeOf 187).run Tryz.prog w = .ok 12 w := fun w => Tryz.sizeOf187 w
  obtain ⟨g1, w1, r1, k1⟩ := (St.start w).boxA (P := Tryz.prog) 22 (bv key)
  obtain ⟨g2, w2, r2, k2⟩ := k1.boxA (P := Tryz.prog) 187 (bv nonce)
  refine ⟨_, _, r1, _, _, r2, (room_spec x n w2 h1 h2 hb).mono ?_⟩
  rintro e w3 ⟨rfl, rfl⟩
  refine ⟨_, rfl, fun h => ?_, fun h => ?_⟩
  · have hf : roomF x n = false := by simpa using h
    refine ⟨none, 0, 0, by simp [xorE, hf, errV], ?_⟩
    rw [xorR, hl, hf]
    exact ⟨k2.chg, rfl, World.ownsRow_nil _ _ _ _⟩
  · have hf : roomF x n = true := by simpa using h
    have hx0 : 0 ≤ x ∧ x + n ≤ 274877906944 := by simpa [roomF] using hf
    obtain ⟨at', rfl⟩ := Int.eq_ofNat_of_zero_le hx0.1
    obtain ⟨g, w4, r4, k4⟩ := k2.mk0n (kl := .i64) (kc := .i64) (c := n) bT (by omega) (by omega)
    obtain ⟨va, vc, w5, r5, k5, hin, _⟩ := k4.append (i := 2) (ty := 33) bT rfl (k4.rd1 hr) (bv_one l) (by omega) (by simp only [maxLen]; omega)
    have hv := hin (by omega)
    rw [Nat.zero_add, hv.1, hv.2] at r5 k5
    refine ⟨_, _, _, _, r4, _, _, _, _, r5, _, k5.ldA (i := 0) rfl (e32 _) (s32 _) (by simp [hk]), _, k5.ldA (i := 1) rfl (e12 _) (s12 _) (by simp [hn]), _, seat_build key nonce hk hn _, ?_⟩
    obtain ⟨g6, w6, r6, k6⟩ := k5.boxA (P := Tryz.prog) 230 (bv key ++ bv nonce)
    refine ⟨_, _, r6, ?_⟩
    have rng := k6.cellsA (i := 3) rfl
    have hne : g6 ≠ g := fun e => k6.apart 3 2 _ _ (by decide) rfl rfl g6 (by simp [Res.fp]) (by simp [Res.fp, Value.ownBlock, e])
    have rk : w6.rangeAt g6 0 (bv key) := fun j v hj => rng j v (by rw [List.getElem?_append_left (List.getElem?_eq_some_iff.1 hj).1]; exact hj)
    have rn : w6.rangeAt g6 (0 + 32) (bv nonce) := fun j v hj => by
      have := rng (32 + j) v (by rw [List.getElem?_append_right (by simp [hk]), bv_length, hk, Nat.add_sub_cancel_left]; exact hj)
      rw [show 0 + 32 + j = 0 + (32 + j) by omega]; exact this
    refine (seatOver_spec g6 0 g n n at' key nonce l w6 hk hn rk rn hne (k6.holds 2 _ rfl) (by omega)).mono ?_
    rintro e w7 ⟨rfl, hc7, hrow⟩
    have he : errV (xorE (at' : Int) n) = .nilIface := by simp [xorE, hf, errV]
    rw [he]
    refine ⟨rfl, _, _, _, rfl, ?_⟩
    rw [xorR, hl, hf, if_pos rfl, Int.toNat_natCast]
    have := k6.upd (i := 2) (r' := .row 5 1 (.slice (some ⟨g, 0, none⟩) n n) n (bv (xorL key nonce at' l))) rfl (by simpa [Res.fp, Value.ownBlock] using hc7) hrow (by simp [Res.fp, Value.ownBlock])
    exact this.freshB (i := 2) rfl

theorem rxor_spec (key nonce : List UInt8) (x : Int) (a : Option Addr) (n c : Nat) (l : List UInt8) (w : World) (hk : key.length = 32) (hn : nonce.length = 12) (h1 : -9223372036854775808 ≤ x) (h2 : x ≤ 9223372036854775807) (hr : RdB w a n c l) (hb : n ≤ 9223372036854775807) :
    Calls Tryz.prog 106 #[.agg (bv key).toArray, .agg (bv nonce).toArray, .int .i64 x, .slice a n c] w fun e w' => ∃ a' n' c', e = .returned (.tuple #[.slice a' n' c', .int .i64 ((xorE x n).getD 0)]) ∧ FreshB w w' a' n' c' (xorR key nonce x l) := by
  have hl := hr.lenB
  apply amphoraref03_XOR_vc
  have ze : ∀ k : Nat, 0 + Int.toNat (k : Int) * 1 = k := fun k => by omega
  have sB : ∀ w, (sizeOf 5).run Tryz.prog w = .ok 1 w := fun w => Tryz.sizeOf5 w
  have s64 : ∀ w, (sizeOf 207).run Tryz.prog w = .ok 64 w := fun w => Tryz.sizeOf207 w
  have s32 : ∀ w, (sizeOf 22).run Tryz.prog w = .ok 32 w := fun w => Tryz.sizeOf22 w
  have s12 : ∀ w, (sizeOf 187).run Tryz.prog w = .ok 12 w := fun w => Tryz.sizeOf187 w
  obtain ⟨g1, w1, r1, k1⟩ := (St.start w).boxA (P := Tryz.prog) 22 (bv key)
  obtain ⟨g2, w2, r2, k2⟩ := k1.boxA (P := Tryz.prog) 187 (bv nonce)
  have hbool : (((decide (x < (0 : Int))) || (decide (x > (274877906944 : Int)))) || (decide (((n : Nat) : Int) > (IntKind.wrap .i64 ((274877906944 : Int) - x))))) = !(roomF x n) := by
    by_cases h0 : 0 ≤ x
    · rw [wrap_i64 (by omega) (by omega)]
      simp only [roomF]
      rw [Bool.eq_iff_iff]
      simp only [Bool.and_eq_true, Bool.or_eq_true, Bool.not_eq_true', Bool.and_eq_false_iff, decide_eq_true_eq, decide_eq_false_iff_not]
      omega
    · have : x < 0 := by omega
      simp [roomF, h0, this]
  rw [hbool]
  refine ⟨_, _, r1, _, _, r2, fun h => ?_, fun h => ?_⟩
  · have hf : roomF x n = false := by simpa using h
    refine ⟨none, 0, 0, by simp [xorE, hf], ?_⟩
    rw [xorR, hl, hf]
    exact ⟨k2.chg, rfl, World.ownsRow_nil _ _ _ _⟩
  · have hf : roomF x n = true := by simpa using h
    have hx0 : 0 ≤ x ∧ x + n ≤ 274877906944 := by simpa [roomF] using hf
    obtain ⟨at', rfl⟩ := Int.eq_ofNat_of_zero_le hx0.1
    obtain ⟨g3, w3, r3, k3⟩ := k2.lit bT [] (by simp) (by simp)
    have hb := build_arr (P := Tryz.prog) (w := w3) (zero64 w3) Tryz.underlying207 (sB _) [] (by simp) (by simp)
    obtain ⟨g4, w4, r4, k4⟩ := k3.zeroA zero64
    obtain ⟨w5, r5, k5⟩ := k4.stA (i := 3) (v := bv (List.replicate 64 0)) rfl (s64 _) (by simp) (by simp) (bv_one _)
    have he : (xorE (at' : Int) n).getD 0 = 0 := by simp [xorE, hf]
    have hR : xorR key nonce (at' : Int) l = xorL key nonce at' l := by rw [xorR, hl, hf, if_pos rfl, Int.toNat_natCast]
    rw [he, hR]
    obtain ⟨X, hX⟩ : ∃ X, xorL key nonce at' l = X := ⟨_, rfl⟩
    have hXl : X.length = l.length := by rw [← hX]; simp
    rw [hX]
    obtain ⟨M, hM⟩ : ∃ M : Option Addr → Nat → Nat → List UInt8 → List UInt8 → List Res, M = fun va vn vc y B => [.arr g1 22 (bv key), .arr g2 187 (bv nonce), .row 5 1 (.slice va vn vc) vn (bv y), .arr g4 207 (bv B)] := ⟨_, rfl⟩
    have i0 : ∀ va vn vc y B, (M va vn vc y B)[0]? = some (.arr g1 22 (bv key)) := fun va vn vc y B => by rw [hM]; rfl
    have i1 : ∀ va vn vc y B, (M va vn vc y B)[1]? = some (.arr g2 187 (bv nonce)) := fun va vn vc y B => by rw [hM]; rfl
    have i2 : ∀ va vn vc y B, (M va vn vc y B)[2]? = some (.row 5 1 (.slice va vn vc) vn (bv y)) := fun va vn vc y B => by rw [hM]; rfl
    have i3 : ∀ va vn vc y B, (M va vn vc y B)[3]? = some (.arr g4 207 (bv B)) := fun va vn vc y B => by rw [hM]; rfl
    have q2 : ∀ va vn vc y B va' vn' vc' y', (M va vn vc y B).set 2 (.row 5 1 (.slice va' vn' vc') vn' (bv y')) = M va' vn' vc' y' B := fun va vn vc y B va' vn' vc' y' => by rw [hM]; rfl
    have q3 : ∀ va vn vc y B B', (M va vn vc y B).set 3 (.arr g4 207 (bv B')) = M va vn vc y B' := fun va vn vc y B B' => by rw [hM]; rfl
    refine ⟨_, _, _, _, r3, _, hb, _, _, r4, _, r5, fun va vn vc y w' => ∃ (i : Nat) (B : List UInt8), y = (i : Int) ∧ vn = i ∧ i ≤ n ∧ B.length = 64 ∧ (i = 0 ∨ B = blockF key ((at' + i - 1) / 64) nonce) ∧ St w [] w' (M va vn vc (X.take i) B), fun _ _ _ y _ => n - y.toNat,
      ⟨0, List.replicate 64 0, rfl, rfl, by omega, by simp, .inl rfl, by rw [hM]; exact k5⟩, ?_⟩
    rintro va vn vc y w6 ⟨i, B, rfl, rfl, hi, hBl, hB, hS⟩
    refine ⟨fun h => ?_, fun h => ?_⟩
    · have hi' : vn < n := by simp at h; omega
      have ea : IntKind.wrap .i64 ((at' : Int) + (vn : Int)) = ((at' + vn : Nat) : Int) := by rw [wrap_i64 (by omega) (by omega)]; omega
      have ed : IntKind.wrap .i64 (Int.tdiv ((at' + vn : Nat) : Int) 64) = (((at' + vn) / 64 : Nat) : Int) := by rw [Int.tdiv_eq_ediv_of_nonneg (by omega), wrap_i64 (by omega) (by omega)]; omega
      have em : Int.tmod ((at' + vn : Nat) : Int) 64 = (((at' + vn) % 64 : Nat) : Int) := by rw [Int.tmod_eq_emod_of_nonneg (by omega)]; omega
      have ew : IntKind.wrap .u32 (((at' + vn) / 64 : Nat) : Int) = (((at' + vn) / 64 : Nat) : Int) := wrap_u32_nat (by omega)
      have e1 : IntKind.wrap .i64 ((vn : Int) + 1) = ((vn + 1 : Nat) : Int) := by rw [wrap_i64 (by omega) (by omega)]; rfl
      rw [ea, ed, em, ew, e1]
      refine ⟨fun w' => St w [] w' (M va vn vc (X.take vn) (blockF key ((at' + vn) / 64) nonce)), ⟨fun hd => ?_, fun hd => ?_⟩, ?_⟩
      · refine ⟨_, hS.ldA (i0 _ _ _ _ _) (e32 _) (s32 _) (by simp [hk]), _, hS.ldA (i1 _ _ _ _ _) (e12 _) (s12 _) (by simp [hn]), (rblock_spec key nonce ((at' + vn) / 64) _ hk hn (by omega)).mono ?_⟩
        rintro e w7 ⟨rfl, hc7⟩
        obtain ⟨w8, r8, h8⟩ := (hS.same hc7).stA (v := bv (blockF key ((at' + vn) / 64) nonce)) (i3 _ _ _ _ _) (s64 _) (by simp [hBl]) (by simp) (bv_one _)
        rw [q3] at h8
        exact ⟨_, rfl, w8, r8, h8⟩
      · simp only [Bool.or_eq_false_iff, beq_eq_false_iff_ne] at hd
        rcases hB with h0 | h0
        · omega
        · rw [show (at' + vn) / 64 = (at' + vn - 1) / 64 by omega, ← h0]; exact hS
      · intro w7 h7
        have hlt : (at' + vn) % 64 < 64 := Nat.mod_lt _ (by decide)
        have hxg : X[vn]? = some (l.getD vn 0 ^^^ strB key nonce (at' + vn)) := by rw [← hX]; exact xorL_get (by omega)
        refine ix0 hr.cells hl vn hi' fun b o ha hld => ?_
        obtain ⟨g8, w8, va', vc', w9, r8, r9, h9, h8⟩ := h7.drew.push1 (i2 _ _ _ _ _) (by omega) (l.getD vn 0 ^^^ (blockF key ((at' + vn) / 64) nonce).getD ((at' + vn) % 64) 0).toNat (UInt8.toNat_lt _)
        rw [q2, UInt8.ofNat_toNat, show X.take vn ++ [l.getD vn 0 ^^^ (blockF key ((at' + vn) / 64) nonce).getD ((at' + vn) % 64) 0] = X.take (vn + 1) by rw [List.take_add_one, hxg]; rfl] at h9
        have toS : ∀ w' va vm vc y, St w [] w' (M va vm vc y (blockF key ((at' + vn) / 64) nonce)) → ∃ va vm vc y, St w [] w' (M va vm vc y (blockF key ((at' + vn) / 64) nonce)) := fun w' va vm vc y h => ⟨_, _, _, _, h⟩
        refine ⟨fun w' => ∃ va vm vc y, St w [] w' (M va vm vc y (blockF key ((at' + vn) / 64) nonce)), toS _ _ _ _ _ h7.drew, b, o, ha, by omega, by omega, by omega, by omega, _, fun w' ⟨_, _, _, _, h⟩ => hld w' (h.rd1 hr).cells, _, fun w' ⟨_, _, _, _, h⟩ => h.ldB (i3 _ _ _ _ _) (bA _) (ze ((at' + vn) % 64)) (by simpa using hlt), ?_⟩
        rw [xor_u8]
        exact ⟨_, _, _, _, r8, _, fun _ h => h, toS _ _ _ _ _ h8, _, _, _, _, r9, _, fun _ h => h, toS _ _ _ _ _ h9, ⟨vn + 1, _, rfl, rfl, by omega, by simp, .inr (by rw [show at' + (vn + 1) - 1 = at' + vn by omega]), h9⟩, by simp; omega⟩
    · have hi' : vn = n := by simp at h; omega
      subst hi'
      rw [List.take_of_length_le (by omega)] at hS
      exact ⟨_, _, _, rfl, hS.freshB (i2 _ _ _ _ _)⟩

end Go.Proofs.YtmdandkoajocpaaGreatDoor
