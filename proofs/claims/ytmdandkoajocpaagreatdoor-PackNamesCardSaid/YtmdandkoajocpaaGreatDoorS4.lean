/- The proof of PackNamesCardSaid, part 4: what it rests on (conditions: those that each theorem names). -/
import Derived.Test.YtmdandkoajocpaaGreatDoorS3
import Derived.Lib.ConvBytes
import Derived.Test.YtmdandkoajocpaaGreatDoorRows
import Derived.Laws.Cover3
section
namespace Go.Proofs.YtmdandkoajocpaaGreatDoor
open Go Sx
set_option maxRecDepth 8000

def aStep (l : List Nat) (i j : Nat) : List Nat := l.set i (add32 (l.getD i 0) (l.getD j 0))
def xStep (l : List Nat) (i j n : Nat) : List Nat := l.set i (rotl (l.getD i 0 ^^^ l.getD j 0) n)
@[simp] theorem aStep_len (l : List Nat) (i j : Nat) : (aStep l i j).length = l.length := by simp [aStep]
@[simp] theorem xStep_len (l : List Nat) (i j n : Nat) : (xStep l i j n).length = l.length := by simp [xStep]
theorem Lt32.aStep {l : List Nat} (h : Lt32 l) (i j : Nat) : Lt32 (aStep l i j) := h.set i (add32_lt _ _)
theorem Lt32.xStep {l : List Nat} (h : Lt32 l) (i j n : Nat) : Lt32 (xStep l i j n) := h.set i (rotl_lt n (xor_lt (h i) (h j)))

/-- A quarter round of four words of a list. -/
def rnd (l : List Nat) (a b c d : Nat) : List Nat := xStep (aStep (xStep (aStep (xStep (aStep (xStep (aStep l a b) d a 16) c d) b c 12) a b) d a 8) c d) b c 7
@[simp] theorem rnd_len (l : List Nat) (a b c d : Nat) : (rnd l a b c d).length = l.length := by simp [rnd]
theorem Lt32.rnd {l : List Nat} (h : Lt32 l) (a b c d : Nat) : Lt32 (rnd l a b c d) := (((((((h.aStep a b).xStep d a 16).aStep c d).xStep b c 12).aStep a b).xStep d a 8).aStep c d).xStep b c 7

def hA (a b : Nat) : Nat := add32 a b
def hD (a b d m : Nat) : Nat := rotl (d ^^^ add32 a b) m
def hC (a b c d m : Nat) : Nat := add32 c (hD a b d m)
def hB (a b c d m n : Nat) : Nat := rotl (b ^^^ hC a b c d m) n

/-- The four words of a quarter round. -/
def qA (a b c d : Nat) : Nat := hA (hA a b) (hB a b c d 16 12)
def qD (a b c d : Nat) : Nat := hD (hA a b) (hB a b c d 16 12) (hD a b d 16) 8
def qC (a b c d : Nat) : Nat := hC (hA a b) (hB a b c d 16 12) (hC a b c d 16) (hD a b d 16) 8
def qB (a b c d : Nat) : Nat := hB (hA a b) (hB a b c d 16 12) (hC a b c d 16) (hD a b d 16) 8 7

theorem rnd_eq {l : List Nat} {a b c d : Nat} (ha : a < l.length) (hb : b < l.length) (hc : c < l.length) (hd : d < l.length) (ab : a ≠ b) (ac : a ≠ c) (ad : a ≠ d) (bc : b ≠ c) (bd : b ≠ d) (cd : c ≠ d) :
    rnd l a b c d = (((l.set a (qA (l.getD a 0) (l.getD b 0) (l.getD c 0) (l.getD d 0))).set b (qB (l.getD a 0) (l.getD b 0) (l.getD c 0) (l.getD d 0))).set c (qC (l.getD a 0) (l.getD b 0) (l.getD c 0) (l.getD d 0))).set d (qD (l.getD a 0) (l.getD b 0) (l.getD c 0) (l.getD d 0)) := by
  have h1 : ∀ (k : List Nat) (i v : Nat), i < l.length → k.length = l.length → (k.set i v).getD i 0 = v := fun k i v hi hk => getD_set_self (by omega)
  unfold rnd
  simp only [aStep, xStep]
  simp only [h1, getD_set_ne ab, getD_set_ne ac, getD_set_ne ad, getD_set_ne bc, getD_set_ne bd, getD_set_ne cd, getD_set_ne ab.symm, getD_set_ne ac.symm, getD_set_ne ad.symm, getD_set_ne bc.symm, getD_set_ne bd.symm, getD_set_ne cd.symm, ha, hb, hc, hd, List.length_set]
  simp only [qA, qB, qC, qD, hA, hB, hC, hD]
  apply List.ext_getElem?
  intro i
  simp only [List.getElem?_set, List.length_set]
  by_cases e1 : b = i
  · subst e1; simp [hb, bc.symm, bd.symm, ab, cd]
  · by_cases e2 : c = i
    · subst e2; simp [hc, e1, cd.symm]
    · by_cases e3 : d = i
      · subst e3; simp [hd, e1, e2]
      · by_cases e4 : a = i
        · subst e4; simp [ha, e1, e2, e3]
        · simp [e1, e2, e3, e4]

/-- The column rounds, the diagonal rounds. -/
def colR : Nat → List Nat → List Nat
  | 0, l => l
  | k + 1, l => rnd (colR k l) k (4 + k) (8 + k) (12 + k)
def diaR : Nat → List Nat → List Nat
  | 0, l => l
  | k + 1, l => rnd (diaR k l) k (4 + (k + 1) % 4) (8 + (k + 2) % 4) (12 + (k + 3) % 4)
def dblR : Nat → List Nat → List Nat
  | 0, l => l
  | k + 1, l => diaR 4 (colR 4 (dblR k l))

@[simp] theorem colR_len : ∀ (k : Nat) (l : List Nat), (colR k l).length = l.length
  | 0, _ => rfl
  | k + 1, l => by simp [colR, colR_len k l]
@[simp] theorem diaR_len : ∀ (k : Nat) (l : List Nat), (diaR k l).length = l.length
  | 0, _ => rfl
  | k + 1, l => by simp [diaR, diaR_len k l]
@[simp] theorem dblR_len : ∀ (k : Nat) (l : List Nat), (dblR k l).length = l.length
  | 0, _ => rfl
  | k + 1, l => by simp [dblR, dblR_len k l]
theorem Lt32.colR {l : List Nat} (h : Lt32 l) : ∀ k, Lt32 (colR k l)
  | 0 => h
  | k + 1 => (Lt32.colR h k).rnd _ _ _ _
theorem Lt32.diaR {l : List Nat} (h : Lt32 l) : ∀ k, Lt32 (diaR k l)
  | 0 => h
  | k + 1 => (Lt32.diaR h k).rnd _ _ _ _
theorem Lt32.dblR {l : List Nat} (h : Lt32 l) : ∀ k, Lt32 (dblR k l)
  | 0 => h
  | k + 1 => ((Lt32.dblR h k).colR 4).diaR 4

/-- Four bytes as a word, the least first. -/
def le4 (l : List UInt8) (o : Nat) : Nat :=
  (((l.getD o 0).toNat ||| (l.getD (o + 1) 0).toNat * 2 ^ 8 % 4294967296) ||| (l.getD (o + 2) 0).toNat * 2 ^ 16 % 4294967296) ||| (l.getD (o + 3) 0).toNat * 2 ^ 24 % 4294967296

theorem le4_lt (l : List UInt8) (o : Nat) : le4 l o < 4294967296 := by
  have h0 := (l.getD o 0).toNat_lt
  exact Nat.or_lt_two_pow (n := 32) (Nat.or_lt_two_pow (n := 32) (Nat.or_lt_two_pow (n := 32) (by omega) (Nat.mod_lt _ (by decide))) (Nat.mod_lt _ (by decide))) (Nat.mod_lt _ (by decide))

/-- Words laid from a place on. -/
def setW (base : Nat) (key : List UInt8) : Nat → List Nat → List Nat
  | 0, l => l
  | k + 1, l => (setW base key k l).set (base + k) (le4 key (4 * k))
@[simp] theorem setW_len (base : Nat) (key : List UInt8) : ∀ (k : Nat) (l : List Nat), (setW base key k l).length = l.length
  | 0, _ => rfl
  | k + 1, l => by simp [setW, setW_len base key k l]
theorem Lt32.setW {l : List Nat} (h : Lt32 l) (base : Nat) (key : List UInt8) : ∀ k, Lt32 (setW base key k l)
  | 0 => h
  | k + 1 => (Lt32.setW h base key k).set _ (le4_lt _ _)
/-- The first state. -/
def firstL (key : List UInt8) (ctr : Nat) (nonce : List UInt8) : List Nat :=
  setW 13 nonce 3 ((setW 4 key 8 ([1634760805, 857760878, 2036477234, 1797285236] ++ List.replicate 12 0)).set 12 ctr)
theorem firstL_len (key : List UInt8) (ctr : Nat) (nonce : List UInt8) : (firstL key ctr nonce).length = 16 := by simp [firstL]

theorem lt32_const : Lt32 ([1634760805, 857760878, 2036477234, 1797285236] ++ List.replicate 12 0) := by
  intro i
  by_cases h : i < 16
  · have : ∀ i < 16, ([1634760805, 857760878, 2036477234, 1797285236] ++ List.replicate 12 0 : List Nat).getD i 0 < 4294967296 := by decide
    exact this i h
  · rw [List.getD, List.getElem?_eq_none (by simp; omega)]; decide
theorem lt32_first (key : List UInt8) {ctr : Nat} (nonce : List UInt8) (h : ctr < 4294967296) : Lt32 (firstL key ctr nonce) := ((lt32_const.setW 4 key 8).set 12 h).setW 13 nonce 3

def outB (x y : List Nat) (i : Nat) : UInt8 := UInt8.ofNat (add32 (x.getD (i / 4) 0) (y.getD (i / 4) 0) / 2 ^ (8 * (i % 4)) % 256)
def outL (x y : List Nat) : List UInt8 := (List.range 64).map (outB x y)
@[simp] theorem outL_len (x y : List Nat) : (outL x y).length = 64 := by simp [outL]
/-- The block. -/
def blockF (key : List UInt8) (ctr : Nat) (nonce : List UInt8) : List UInt8 := outL (dblR 10 (firstL key ctr nonce)) (firstL key ctr nonce)
@[simp] theorem blockF_len (key : List UInt8) (ctr : Nat) (nonce : List UInt8) : (blockF key ctr nonce).length = 64 := by simp [blockF]

open Go Sx
set_option maxRecDepth 8000

theorem rot_spec (x n : Nat) (w : World) (hx : x < 4294967296) (hn : n < 32) (h0 : 0 < n) : Calls Tryz.prog 189 #[.int .u32 (x : Int), .int .i64 (n : Int)] w fun e w' => e = .returned (.int .u32 ((rotl x n : Nat) : Int)) ∧ w' = w := by
  apply bits_RotateLeft32_vc
  have h1 : band .u64 (IntKind.wrap .u64 (n : Int)) 31 = (n : Int) := by
    rw [wrap_uns rfl (by simp [kmod, IntKind.bits]; omega), show (31 : Int) = ((31 : Nat) : Int) from rfl, band_nat rfl (by simp [kmod, IntKind.bits]; omega) (by simp [kmod, IntKind.bits]), show n &&& 31 = n % 32 from Nat.and_two_pow_sub_one_eq_mod n 5, Nat.mod_eq_of_lt hn]
  have h2 : IntKind.wrap .u64 ((32 : Int) - (n : Int)) = ((32 - n : Nat) : Int) := by rw [wrap_u64]; omega
  rw [h1, h2]
  refine ⟨by omega, by omega, ?_, rfl⟩
  rw [rotl_val x n hx hn h0]

theorem quarter_spec (a b c d : Nat) (w : World) (hb : b < 4294967296) (hd : d < 4294967296) :
    Calls Tryz.prog 185 #[.int .u32 (a : Int), .int .u32 (b : Int), .int .u32 (c : Int), .int .u32 (d : Int)] w fun e w' => e = .returned (.tuple #[.int .u32 ((qA a b c d : Nat) : Int), .int .u32 ((qB a b c d : Nat) : Int), .int .u32 ((qC a b c d : Nat) : Int), .int .u32 ((qD a b c d : Nat) : Int)]) ∧ w' = w := by
  have l1 : hD a b d 16 < 4294967296 := rotl_lt _ (xor_lt hd (add32_lt _ _))
  have l2 : hB a b c d 16 12 < 4294967296 := rotl_lt _ (xor_lt hb (add32_lt _ _))
  apply chacha_quarter_vc
  simp only [add_val]
  rw [xor_val hd (add32_lt _ _)]
  refine (rot_spec _ 16 w (xor_lt hd (add32_lt _ _)) (by decide) (by decide)).mono ?_
  rintro e w1 ⟨rfl, rfl⟩
  refine ⟨_, rfl, ?_⟩
  simp only [add_val]
  rw [show rotl (d ^^^ add32 a b) 16 = hD a b d 16 from rfl, xor_val hb (add32_lt _ _)]
  refine (rot_spec _ 12 _ (xor_lt hb (add32_lt _ _)) (by decide) (by decide)).mono ?_
  rintro e w2 ⟨rfl, rfl⟩
  refine ⟨_, rfl, ?_⟩
  simp only [add_val]
  rw [show rotl (b ^^^ add32 c (hD a b d 16)) 12 = hB a b c d 16 12 from rfl, xor_val l1 (add32_lt _ _)]
  refine (rot_spec _ 8 _ (xor_lt l1 (add32_lt _ _)) (by decide) (by decide)).mono ?_
  rintro e w3 ⟨rfl, rfl⟩
  refine ⟨_, rfl, ?_⟩
  simp only [add_val]
  rw [xor_val l2 (add32_lt _ _)]
  refine (rot_spec _ 7 _ (xor_lt l2 (add32_lt _ _)) (by decide) (by decide)).mono ?_
  rintro e w4 ⟨rfl, rfl⟩
  exact ⟨_, rfl, rfl, rfl⟩

section
variable {w0 w : World} {X : List Nat} {M : List Res}

end

open Go Sx
set_option maxRecDepth 8000

theorem word_spec (a : Option Addr) (n c : Nat) (l : List UInt8) (w : World) (hr : RdB w a n c l) (hn : 4 ≤ n) : Calls Tryz.prog 188 #[.slice a n c] w fun e w' => e = .returned (.int .u32 ((le4 l 0 : Nat) : Int)) ∧ Chg [] w w' := by
  have hl := hr.lenB
  apply chacha_word_vc
  have b0 := (l.getD 0 0).toNat_lt
  have b1 := (l.getD 1 0).toNat_lt
  have b2 := (l.getD 2 0).toNat_lt
  have b3 := (l.getD 3 0).toNat_lt
  have hc : Cells w.drew a (bv l) := hr.cells.keep0 (Chg.drew _ _)
  refine ⟨fun w' => Chg [] w w', Chg.drew _ _, ?_⟩
  refine ix0 hr.cells hl 0 (by omega) fun g0 o0 e0 h0 => ix0 hr.cells hl 1 (by omega) fun g1 o1 e1 h1 => ix0 hr.cells hl 2 (by omega) fun g2 o2 e2 h2 => ix0 hr.cells hl 3 (by omega) fun g3 o3 e3 h3 => ?_
  refine ⟨g0, o0, e0, by omega, by omega, g1, o1, e1, by omega, by omega, g2, o2, e2, by omega, by omega, g3, o3, e3, by omega, by omega,
    _, fun w' h => h0 w' (hr.cells.keep0 h), _, fun w' h => h1 w' (hr.cells.keep0 h), _, fun w' h => h2 w' (hr.cells.keep0 h), _, fun w' h => h3 w' (hr.cells.keep0 h), ?_, Chg.drew _ _⟩
  rw [wrap_u32_nat (show (l.getD 0 0).toNat < 4294967296 by omega), wrap_u32_nat (show (l.getD 1 0).toNat < 4294967296 by omega), wrap_u32_nat (show (l.getD 2 0).toNat < 4294967296 by omega), wrap_u32_nat (show (l.getD 3 0).toNat < 4294967296 by omega),
    show (8 : Int) = ((8 : Nat) : Int) from rfl, show (16 : Int) = ((16 : Nat) : Int) from rfl, show (24 : Int) = ((24 : Nat) : Int) from rfl, shl_val (by decide), shl_val (by decide), shl_val (by decide)]
  have m : ∀ x : Nat, x % 4294967296 < 4294967296 := fun x => Nat.mod_lt _ (by decide)
  rw [or_val (by omega) (m _), or_val (Nat.or_lt_two_pow (n := 32) (by omega) (m _)) (m _), or_val (Nat.or_lt_two_pow (n := 32) (Nat.or_lt_two_pow (n := 32) (by omega) (m _)) (m _)) (m _)]
  rfl

theorem le4_sub (l : List UInt8) (o n : Nat) (h : 4 ≤ n) : le4 ((l.drop o).take n) 0 = le4 l o := by
  have : ∀ j, j < 4 → ((l.drop o).take n).getD (0 + j) 0 = l.getD (o + j) 0 := fun j hj => by
    simp only [List.getD, List.getElem?_take, List.getElem?_drop, Nat.zero_add]
    rw [if_pos (by omega)]
  have h0 := this 0 (by omega)
  rw [Nat.add_zero, Nat.add_zero] at h0
  simp only [le4, h0, this 1 (by omega), this 2 (by omega), this 3 (by omega)]

theorem zero16 (w : World) : (zeroValue 235).run Tryz.prog w = .ok (.agg (kv .u32 (List.replicate 16 0)).toArray) w := Tryz.zeroValue235 w
theorem zero64 (w : World) : (zeroValue 207).run Tryz.prog w = .ok (.agg (bv (List.replicate 64 0)).toArray) w := Tryz.zeroValue207 w

theorem begin_spec (key nonce : List UInt8) (ctr : Nat) (w : World) (hk : key.length = 32) (hn : nonce.length = 12) (hc : ctr < 4294967296) :
    Calls Tryz.prog 184 #[.agg (bv key).toArray, .int .u32 (ctr : Int), .agg (bv nonce).toArray] w fun e w' => e = .returned (.agg (kv .u32 (firstL key ctr nonce)).toArray) ∧ Chg [] w w' := by
  apply chacha_begin_vc
  obtain ⟨g1, w1, r1, h1⟩ := (St.start w).boxA (P := Tryz.prog) 22 (bv key)
  obtain ⟨g2, w2, r2, h2⟩ := h1.boxA (P := Tryz.prog) 187 (bv nonce)
  obtain ⟨g3, w3, r3, h3⟩ := h2.zeroA zero16
  have hb := build_arr (P := Tryz.prog) (w := w3) (zero16 w3) Tryz.underlying235 (Tryz.sizeOf209 _) (kv .u32 [1634760805, 857760878, 2036477234, 1797285236]) (kv_one _ _) (by simp)
  obtain ⟨g4, w4, r4, h4⟩ := h3.zeroA zero16
  obtain ⟨w5, r5, h5⟩ := h4.stA (i := 3) (v := kv .u32 ([1634760805, 857760878, 2036477234, 1797285236] ++ List.replicate 12 0)) rfl (Tryz.sizeOf235 _) (by simp) (by simp) (kv_one _ _)
  refine ⟨_, _, r1, _, _, r2, _, _, r3, _, hb, _, _, r4, _, r5, ?_⟩
  refine ⟨fun i w' => ∃ k : Nat, i = (k : Int) ∧ k ≤ 8 ∧ St w [] w' [.arr g1 22 (bv key), .arr g2 187 (bv nonce), .arr g3 235 (kv .u32 (List.replicate 16 0)), .arr g4 235 (kv .u32 (setW 4 key k ([1634760805, 857760878, 2036477234, 1797285236] ++ List.replicate 12 0)))], fun i _ => 8 - i.toNat,
    ⟨0, rfl, by omega, h5⟩, ?_⟩
  rintro i w6 ⟨k, rfl, hk8, hS⟩
  refine ⟨fun h => ?_, fun h => ?_⟩
  · have hk' : k < 8 := by simp at h; omega
    have e1 : IntKind.wrap .i64 ((4 : Int) * (k : Int)) = ((4 * k : Nat) : Int) := by rw [wrap_i64 (by omega) (by omega)]; omega
    have e2 : IntKind.wrap .i64 ((4 : Int) + (k : Int)) = ((4 + k : Nat) : Int) := by rw [wrap_i64 (by omega) (by omega)]; omega
    have e3 : IntKind.wrap .i64 ((k : Int) + 1) = ((k + 1 : Nat) : Int) := by rw [wrap_i64 (by omega) (by omega)]; rfl
    rw [e1, e2, e3]
    refine ⟨by omega, by omega, by omega, fun a' hs => ?_⟩
    have hrd := (hS.rdA (i := 0) (n := 32) rfl (by simp [hk])).sub (l := 4 * k) (hh := 32) (m := 32) hs (by omega) (by omega) (by omega) (by omega)
    rw [Nat.mul_one, Nat.mul_one, ← bv_drop, ← bv_take] at hrd
    refine (word_spec _ _ _ _ _ hrd (by omega)).mono ?_
    rintro e w7 ⟨rfl, hc7⟩
    rw [le4_sub _ _ _ (by omega)]
    refine ⟨_, rfl, by omega, by omega, ?_⟩
    obtain ⟨w8, r8, h8⟩ := (hS.same hc7).stK (i := 3) (off := 0 + Int.toNat ((4 + k : Nat) : Int) * 1) (o := 4 + k) (n := le4 key (4 * k)) rfl (Tryz.sizeOf209 _) (by omega) (by simp; omega)
    exact ⟨w8, r8, ⟨k + 1, rfl, by omega, h8⟩, by simp; omega⟩
  · have hk' : k = 8 := by simp at h; omega
    subst hk'
    obtain ⟨w7, r7, h7⟩ := hS.stK (i := 3) (off := 12) (o := 12) (n := ctr) rfl (Tryz.sizeOf209 _) rfl (by simp)
    refine ⟨w7, r7, ?_⟩
    refine ⟨fun i w' => ∃ k : Nat, i = (k : Int) ∧ k ≤ 3 ∧ St w [] w' [.arr g1 22 (bv key), .arr g2 187 (bv nonce), .arr g3 235 (kv .u32 (List.replicate 16 0)), .arr g4 235 (kv .u32 (setW 13 nonce k ((setW 4 key 8 ([1634760805, 857760878, 2036477234, 1797285236] ++ List.replicate 12 0)).set 12 ctr)))], fun i _ => 3 - i.toNat,
      ⟨0, rfl, by omega, h7⟩, ?_⟩
    rintro i w8 ⟨k, rfl, hk8, hS⟩
    refine ⟨fun h => ?_, fun h => ?_⟩
    · have hk' : k < 3 := by simp at h; omega
      have e1 : IntKind.wrap .i64 ((4 : Int) * (k : Int)) = ((4 * k : Nat) : Int) := by rw [wrap_i64 (by omega) (by omega)]; omega
      have e2 : IntKind.wrap .i64 ((13 : Int) + (k : Int)) = ((13 + k : Nat) : Int) := by rw [wrap_i64 (by omega) (by omega)]; omega
      have e3 : IntKind.wrap .i64 ((k : Int) + 1) = ((k + 1 : Nat) : Int) := by rw [wrap_i64 (by omega) (by omega)]; rfl
      rw [e1, e2, e3]
      refine ⟨by omega, by omega, by omega, fun a' hs => ?_⟩
      have hrd := (hS.rdA (i := 1) (n := 12) rfl (by simp [hn])).sub (l := 4 * k) (hh := 12) (m := 12) hs (by omega) (by omega) (by omega) (by omega)
      rw [Nat.mul_one, Nat.mul_one, ← bv_drop, ← bv_take] at hrd
      refine (word_spec _ _ _ _ _ hrd (by omega)).mono ?_
      rintro e w9 ⟨rfl, hc9⟩
      rw [le4_sub _ _ _ (by omega)]
      refine ⟨_, rfl, by omega, by omega, ?_⟩
      obtain ⟨w10, r10, h10⟩ := (hS.same hc9).stK (i := 3) (off := 0 + Int.toNat ((13 + k : Nat) : Int) * 1) (o := 13 + k) (n := le4 nonce (4 * k)) rfl (Tryz.sizeOf209 _) (by omega) (by simp; omega)
      exact ⟨w10, r10, ⟨k + 1, rfl, by omega, h10⟩, by simp; omega⟩
    · have hk' : k = 3 := by simp at h; omega
      subst hk'
      have hA : ∀ w, (isAgg 235).run Tryz.prog w = .ok true w := fun w => Tryz.isAgg235 w
      refine ⟨_, hS.ldA (i := 3) rfl (hA _) (Tryz.sizeOf235 _) (by simp), ?_⟩
      obtain ⟨w9, r9, h9⟩ := hS.stA (i := 2) (v := kv .u32 (firstL key ctr nonce)) rfl (Tryz.sizeOf235 _) (by simp) (by simp [firstL]) (kv_one _ _)
      exact ⟨w9, r9, _, h9.ldVarA (i := 2) rfl (hA _) (Tryz.sizeOf235 _) (by simp [firstL]), rfl, h9.chg⟩

open Go Sx
set_option maxRecDepth 8000

theorem e16 : ∀ w, (isAgg 235).run Tryz.prog w = .ok true w := fun w => Tryz.isAgg235 w
theorem e64 : ∀ w, (isAgg 207).run Tryz.prog w = .ok true w := fun w => Tryz.isAgg207 w
theorem e32 : ∀ w, (isAgg 22).run Tryz.prog w = .ok true w := fun w => Tryz.isAgg22 w
theorem e12 : ∀ w, (isAgg 187).run Tryz.prog w = .ok true w := fun w => Tryz.isAgg187 w
theorem eU : ∀ w, (isAgg 209).run Tryz.prog w = .ok false w := fun w => Tryz.isAgg209 w

theorem outB_val (x y : List Nat) (i j : Nat) (hj : j < 4) : IntKind.wrap .u8 ((add32 (x.getD i 0) (y.getD i 0) / 2 ^ (8 * j) : Nat) : Int) = ((outB x y (4 * i + j)).toNat : Int) := by
  rw [wrap_u8, outB, show (4 * i + j) / 4 = i by omega, show (4 * i + j) % 4 = j by omega]
  simp
theorem outL_get (x y : List Nat) (i : Nat) (h : i < 64) : (outL x y)[i]? = some (outB x y i) := by simp [outL, h]

theorem block_spec (key nonce : List UInt8) (ctr : Nat) (w : World) (hk : key.length = 32) (hn : nonce.length = 12) (hc : ctr < 4294967296) :
    Calls Tryz.prog 171 #[.agg (bv key).toArray, .int .u32 (ctr : Int), .agg (bv nonce).toArray] w fun e w' => e = .returned (.agg (bv (blockF key ctr nonce)).toArray) ∧ Chg [] w w' := by
  apply chacha_Block_vc
  obtain ⟨g1, w1, r1, h1⟩ := (St.start w).boxA (P := Tryz.prog) 22 (bv key)
  obtain ⟨g2, w2, r2, h2⟩ := h1.boxA (P := Tryz.prog) 187 (bv nonce)
  obtain ⟨g3, w3, r3, h3⟩ := h2.zeroA zero64
  refine ⟨_, _, r1, _, _, r2, _, _, r3, _, h3.ldA (i := 0) rfl (e32 _) (Tryz.sizeOf22 _) (by simp [hk]), _, h3.ldA (i := 1) rfl (e12 _) (Tryz.sizeOf187 _) (by simp [hn]), (begin_spec key nonce ctr w3 hk hn hc).mono ?_⟩
  rintro e w4 ⟨rfl, hc4⟩
  have h4 := h3.same hc4
  have hF := firstL_len key ctr nonce
  have hlF := lt32_first key nonce hc
  obtain ⟨F, hFd⟩ : ∃ F, firstL key ctr nonce = F := ⟨_, rfl⟩
  have hB : blockF key ctr nonce = outL (dblR 10 F) F := by rw [blockF, hFd]
  rw [hB]
  rw [hFd] at hF hlF ⊢
  obtain ⟨g5, w5, r5, h5⟩ := h4.zeroA zero16
  obtain ⟨w6, r6, h6⟩ := h5.stA (i := 3) (v := kv .u32 F) rfl (Tryz.sizeOf235 _) (by simp) (by simp [hF]) (kv_one _ _)
  obtain ⟨g7, w7, r7, h7⟩ := h6.zeroA zero16
  obtain ⟨w8, r8, h8⟩ := h7.stA (i := 4) (v := kv .u32 F) rfl (Tryz.sizeOf235 _) (by simp) (by simp [hF]) (kv_one _ _)
  refine ⟨_, rfl, _, _, r5, _, r6, _, h6.ldA (i := 3) rfl (e16 _) (Tryz.sizeOf235 _) (by simp [hF]), _, _, r7, _, r8, ?_⟩
  obtain ⟨Mx, hMx⟩ : ∃ Mx : List Nat → List Res, Mx = fun x => [.arr g1 22 (bv key), .arr g2 187 (bv nonce), .arr g3 207 (bv (List.replicate 64 0)), .arr g5 235 (kv .u32 F), .arr g7 235 (kv .u32 x)] := ⟨_, rfl⟩
  have hi4 : ∀ x, (Mx x)[4]? = some (.arr g7 235 (kv .u32 x)) := fun x => by rw [hMx]; rfl
  have hi3 : ∀ x, (Mx x)[3]? = some (.arr g5 235 (kv .u32 F)) := fun x => by rw [hMx]; rfl
  have hi2 : ∀ x, (Mx x)[2]? = some (.arr g3 207 (bv (List.replicate 64 0))) := fun x => by rw [hMx]; rfl
  have hset : ∀ x y, (Mx x).set 4 (.arr g7 235 (kv .u32 y)) = Mx y := fun x y => by rw [hMx]; rfl
  have h8' : St w [] w8 (Mx F) := by rw [hMx]; exact h8
  have hw : ∀ i : Nat, i < 100 → IntKind.wrap .i64 ((i : Int) + 1) = ((i + 1 : Nat) : Int) := fun i h => by rw [wrap_i64 (by omega) (by omega)]; rfl
  have ze : ∀ k : Nat, 0 + Int.toNat (k : Int) * 1 = k := fun k => by omega
  have sU : ∀ w, (sizeOf 209).run Tryz.prog w = .ok 1 w := fun w => Tryz.sizeOf209 w
  have sB : ∀ w, (sizeOf 5).run Tryz.prog w = .ok 1 w := fun w => Tryz.sizeOf5 w
  -- a quarter round in place
  have step : ∀ (x : List Nat) (a b c d : Nat) (wa : World) (K : World → Prop), St w [] wa (Mx x) → x.length = 16 → Lt32 x → a < 16 → b < 16 → c < 16 → d < 16 → a ≠ b → a ≠ c → a ≠ d → b ≠ c → b ≠ d → c ≠ d → (∀ wb, St w [] wb (Mx (rnd x a b c d)) → K wb) →
      (∃ S : World → Prop, S wa.drew ∧ (0 ≤ (a : Int) ∧ (a : Int) < 16 ∧ (0 ≤ (b : Int) ∧ (b : Int) < 16 ∧ (0 ≤ (c : Int) ∧ (c : Int) < 16 ∧ (0 ≤ (d : Int) ∧ (d : Int) < 16 ∧
        (∃ ta : Int, (∀ w', S w' → (Instr.loadAt 209 (.pointer (some ⟨g7, 0 + Int.toNat (a : Int) * 1, none⟩))).run Tryz.prog w' = .ok (.int .u32 ta) w') ∧
        (∃ tb : Int, (∀ w', S w' → (Instr.loadAt 209 (.pointer (some ⟨g7, 0 + Int.toNat (b : Int) * 1, none⟩))).run Tryz.prog w' = .ok (.int .u32 tb) w') ∧
        (∃ tc : Int, (∀ w', S w' → (Instr.loadAt 209 (.pointer (some ⟨g7, 0 + Int.toNat (c : Int) * 1, none⟩))).run Tryz.prog w' = .ok (.int .u32 tc) w') ∧
        (∃ td : Int, (∀ w', S w' → (Instr.loadAt 209 (.pointer (some ⟨g7, 0 + Int.toNat (d : Int) * 1, none⟩))).run Tryz.prog w' = .ok (.int .u32 td) w') ∧
          (Calls Tryz.prog 185 #[.int .u32 ta, .int .u32 tb, .int .u32 tc, .int .u32 td] wa.drew fun e w11 => ∃ t0 t1 t2 t3 : Int, e = .returned (.tuple #[.int .u32 t0, .int .u32 t1, .int .u32 t2, .int .u32 t3]) ∧
            (∃ S_1 : World → Prop, (∀ w', S_1 w' → S w') ∧ S_1 w11 ∧
              (0 ≤ (a : Int) ∧ (a : Int) < 16 ∧ (∃ w12, (Instr.storeAt 209 (.pointer (some ⟨g7, 0 + Int.toNat (a : Int) * 1, none⟩)) (.int .u32 t0)).run Tryz.prog w11 = .ok () w12 ∧
              (0 ≤ (b : Int) ∧ (b : Int) < 16 ∧ (∃ w13, (Instr.storeAt 209 (.pointer (some ⟨g7, 0 + Int.toNat (b : Int) * 1, none⟩)) (.int .u32 t1)).run Tryz.prog w12 = .ok () w13 ∧
              (0 ≤ (c : Int) ∧ (c : Int) < 16 ∧ (∃ w14, (Instr.storeAt 209 (.pointer (some ⟨g7, 0 + Int.toNat (c : Int) * 1, none⟩)) (.int .u32 t2)).run Tryz.prog w13 = .ok () w14 ∧
              (0 ≤ (d : Int) ∧ (d : Int) < 16 ∧ (∃ w15, (Instr.storeAt 209 (.pointer (some ⟨g7, 0 + Int.toNat (d : Int) * 1, none⟩)) (.int .u32 t3)).run Tryz.prog w14 = .ok () w15 ∧ K w15))))))))))))))))))) := by
    intro x a b c d wa K hS hx hlx ha hb hcc hd ab ac ad bc bd cd hK
    refine ⟨fun w' => St w [] w' (Mx x), hS.drew, by omega, by omega, by omega, by omega, by omega, by omega, by omega, by omega, _, fun w' h => h.ldK (hi4 x) (eU _) (ze a) (by omega), _, fun w' h => h.ldK (hi4 x) (eU _) (ze b) (by omega), _, fun w' h => h.ldK (hi4 x) (eU _) (ze c) (by omega), _, fun w' h => h.ldK (hi4 x) (eU _) (ze d) (by omega), ?_⟩
    refine (quarter_spec _ _ _ _ _ (hlx b) (hlx d)).mono ?_
    rintro e w11 ⟨rfl, rfl⟩
    obtain ⟨w12, q1, s1⟩ := hS.drew.stK (n := qA (x.getD a 0) (x.getD b 0) (x.getD c 0) (x.getD d 0)) (hi4 x) (sU _) (ze a) (by omega)
    rw [hset] at s1
    obtain ⟨w13, q2, s2⟩ := s1.stK (n := qB (x.getD a 0) (x.getD b 0) (x.getD c 0) (x.getD d 0)) (hi4 _) (sU _) (ze b) (by simp; omega)
    rw [hset] at s2
    obtain ⟨w14, q3, s3⟩ := s2.stK (n := qC (x.getD a 0) (x.getD b 0) (x.getD c 0) (x.getD d 0)) (hi4 _) (sU _) (ze c) (by simp; omega)
    rw [hset] at s3
    obtain ⟨w15, q4, s4⟩ := s3.stK (n := qD (x.getD a 0) (x.getD b 0) (x.getD c 0) (x.getD d 0)) (hi4 _) (sU _) (ze d) (by simp; omega)
    rw [hset] at s4
    refine ⟨_, _, _, _, rfl, fun w' => St w [] w' (Mx x), fun _ h => h, hS.drew, by omega, by omega, w12, q1, by omega, by omega, w13, q2, by omega, by omega, w14, q3, by omega, by omega, w15, q4, hK _ ?_⟩
    rw [rnd_eq (by omega) (by omega) (by omega) (by omega) ab ac ad bc bd cd]
    exact s4
  refine ⟨fun i w' => ∃ k : Nat, i = (k : Int) ∧ k ≤ 10 ∧ St w [] w' (Mx (dblR k F)), fun i _ => 10 - i.toNat, ⟨0, rfl, by omega, h8'⟩, ?_⟩
  rintro i w9 ⟨k, rfl, hk10, hS⟩
  refine ⟨fun h => ?_, fun h => ?_⟩
  · have hk' : k < 10 := by simp at h; omega
    refine ⟨fun i w' => ∃ j : Nat, i = (j : Int) ∧ j ≤ 4 ∧ St w [] w' (Mx (colR j (dblR k F))), fun i _ => 4 - i.toNat, ⟨0, rfl, by omega, hS⟩, ?_⟩
    rintro i w10 ⟨j, rfl, hj4, hS⟩
    refine ⟨fun h => ?_, fun h => ?_⟩
    · have hj' : j < 4 := by simp at h; omega
      have e1 : IntKind.wrap .i64 ((4 : Int) + (j : Int)) = ((4 + j : Nat) : Int) := by rw [wrap_i64 (by omega) (by omega)]; omega
      have e2 : IntKind.wrap .i64 ((8 : Int) + (j : Int)) = ((8 + j : Nat) : Int) := by rw [wrap_i64 (by omega) (by omega)]; omega
      have e3 : IntKind.wrap .i64 ((12 : Int) + (j : Int)) = ((12 + j : Nat) : Int) := by rw [wrap_i64 (by omega) (by omega)]; omega
      rw [e1, e2, e3, hw j (by omega)]
      refine step _ j (4 + j) (8 + j) (12 + j) _ _ hS (by simp [hF]) ((hlF.dblR k).colR j) (by omega) (by omega) (by omega) (by omega) (by omega) (by omega) (by omega) (by omega) (by omega) (by omega) fun wb hb => ?_
      exact ⟨⟨j + 1, rfl, by omega, hb⟩, by simp; omega⟩
    · have hj' : j = 4 := by simp at h; omega
      subst hj'
      refine ⟨fun i w' => ∃ j : Nat, i = (j : Int) ∧ j ≤ 4 ∧ St w [] w' (Mx (diaR j (colR 4 (dblR k F)))), fun i _ => 4 - i.toNat, ⟨0, rfl, by omega, hS⟩, ?_⟩
      rintro i w11 ⟨j, rfl, hj4, hS⟩
      refine ⟨fun h => ?_, fun h => ?_⟩
      · have hj' : j < 4 := by simp at h; omega
        have e0 : ∀ (u v : Nat), u < 100 → v < 100 → IntKind.wrap .i64 ((u : Int) + Int.tmod (IntKind.wrap .i64 ((j : Int) + (v : Int))) 4) = ((u + (j + v) % 4 : Nat) : Int) := fun u v hu hv => by
          rw [show IntKind.wrap .i64 ((j : Int) + (v : Int)) = ((j + v : Nat) : Int) by rw [wrap_i64 (by omega) (by omega)]; omega, Int.tmod_eq_emod_of_nonneg (by omega), wrap_i64 (by omega) (by omega)]; omega
        have e1 : IntKind.wrap .i64 ((4 : Int) + Int.tmod (IntKind.wrap .i64 ((j : Int) + 1)) 4) = _ := e0 4 1 (by omega) (by omega)
        have e2 : IntKind.wrap .i64 ((8 : Int) + Int.tmod (IntKind.wrap .i64 ((j : Int) + 2)) 4) = _ := e0 8 2 (by omega) (by omega)
        have e3 : IntKind.wrap .i64 ((12 : Int) + Int.tmod (IntKind.wrap .i64 ((j : Int) + 3)) 4) = _ := e0 12 3 (by omega) (by omega)
        rw [e1, e2, e3, hw j (by omega)]
        refine step _ j (4 + (j + 1) % 4) (8 + (j + 2) % 4) (12 + (j + 3) % 4) _ _ hS (by simp [hF]) (((hlF.dblR k).colR 4).diaR j) (by omega) (by omega) (by omega) (by omega) (by omega) (by omega) (by omega) (by omega) (by omega) (by omega) fun wb hb => ?_
        exact ⟨⟨j + 1, rfl, by omega, hb⟩, by simp; omega⟩
      · have hj' : j = 4 := by simp at h; omega
        subst hj'
        rw [hw k (by omega)]
        exact ⟨⟨k + 1, rfl, by omega, hS⟩, by simp; omega⟩
  · have hk' : k = 10 := by simp at h; omega
    subst hk'
    obtain ⟨g10, w10, r10, h10⟩ := hS.zeroA zero64
    obtain ⟨O, hO⟩ : ∃ O, outL (dblR 10 F) F = O := ⟨_, rfl⟩
    have hOl : O.length = 64 := by rw [← hO]; simp
    rw [hO]
    have hm5 : ∀ y, (Mx (dblR 10 F) ++ [Res.arr g10 207 (bv y)])[5]? = some (.arr g10 207 (bv y)) := fun y => by rw [hMx]; rfl
    have hm4 : ∀ y, (Mx (dblR 10 F) ++ [Res.arr g10 207 (bv y)])[4]? = some (.arr g7 235 (kv .u32 (dblR 10 F))) := fun y => by rw [hMx]; rfl
    have hm3 : ∀ y, (Mx (dblR 10 F) ++ [Res.arr g10 207 (bv y)])[3]? = some (.arr g5 235 (kv .u32 F)) := fun y => by rw [hMx]; rfl
    have hm2 : ∀ y, (Mx (dblR 10 F) ++ [Res.arr g10 207 (bv y)])[2]? = some (.arr g3 207 (bv (List.replicate 64 0))) := fun y => by rw [hMx]; rfl
    have hms : ∀ x y, (Mx (dblR 10 F) ++ [Res.arr g10 207 (bv x)]).set 5 (.arr g10 207 (bv y)) = Mx (dblR 10 F) ++ [Res.arr g10 207 (bv y)] := fun x y => by rw [hMx]; rfl
    refine ⟨_, _, r10, fun i w' => ∃ k : Nat, i = (k : Int) ∧ k ≤ 16 ∧ St w [] w' (Mx (dblR 10 F) ++ [.arr g10 207 (bv (upTo O (4 * k)))]), fun i _ => 16 - i.toNat, ⟨0, rfl, by omega, by rw [Nat.mul_zero, upTo_zero, hOl]; exact h10⟩, ?_⟩
    rintro i w11 ⟨k, rfl, hk16, hT⟩
    refine ⟨fun h => ?_, fun h => ?_⟩
    · have hk' : k < 16 := by simp at h; omega
      have e1 : IntKind.wrap .i64 ((4 : Int) * (k : Int)) = ((4 * k : Nat) : Int) := by rw [wrap_i64 (by omega) (by omega)]; omega
      have e2 : ∀ j : Nat, j < 4 → IntKind.wrap .i64 (((4 * k : Nat) : Int) + (j : Int)) = ((4 * k + j : Nat) : Int) := fun j hj => by rw [wrap_i64 (by omega) (by omega)]; omega
      have e21 := e2 1 (by omega)
      have e22 := e2 2 (by omega)
      have e23 := e2 3 (by omega)
      rw [show ((1 : Nat) : Int) = 1 from rfl] at e21
      rw [show ((2 : Nat) : Int) = 2 from rfl] at e22
      rw [show ((3 : Nat) : Int) = 3 from rfl] at e23
      rw [e1, e21, e22, e23, hw k (by omega)]
      have ot : ∀ j, j < 4 → O[4 * k + j]? = some (outB (dblR 10 F) F (4 * k + j)) := fun j hj => by rw [← hO]; exact outL_get _ _ _ (by omega)
      have v0 : IntKind.wrap .u8 (IntKind.wrap .u32 (((dblR 10 F).getD k 0 : Nat) + (F.getD k 0 : Nat) : Int)) = ((outB (dblR 10 F) F (4 * k)).toNat : Int) := by
        rw [add_val]; have := outB_val (dblR 10 F) F k 0 (by omega); simpa using this
      have vj : ∀ (j : Nat), j < 4 → IntKind.wrap .u8 (shrI .u32 (IntKind.wrap .u32 (((dblR 10 F).getD k 0 : Nat) + (F.getD k 0 : Nat) : Int)) ((8 * j : Nat) : Int)) = ((outB (dblR 10 F) F (4 * k + j)).toNat : Int) := fun j hj => by
        rw [add_val, shr_nat _ _ _ (show 8 * j ≤ 32 by omega)]; exact outB_val (dblR 10 F) F k j hj
      have v1 : IntKind.wrap .u8 (shrI .u32 (IntKind.wrap .u32 (((dblR 10 F).getD k 0 : Nat) + (F.getD k 0 : Nat) : Int)) 8) = _ := vj 1 (by omega)
      have v2 : IntKind.wrap .u8 (shrI .u32 (IntKind.wrap .u32 (((dblR 10 F).getD k 0 : Nat) + (F.getD k 0 : Nat) : Int)) 16) = _ := vj 2 (by omega)
      have v3 : IntKind.wrap .u8 (shrI .u32 (IntKind.wrap .u32 (((dblR 10 F).getD k 0 : Nat) + (F.getD k 0 : Nat) : Int)) 24) = _ := vj 3 (by omega)
      refine ⟨fun w' => St w [] w' (Mx (dblR 10 F) ++ [.arr g10 207 (bv (upTo O (4 * k)))]), hT.drew, by omega, by omega, by omega, by omega, _, fun w' h => h.ldK (hm4 _) (eU _) (ze k) (by simp [hF]; omega), _, fun w' h => h.ldK (hm3 _) (eU _) (ze k) (by omega), by omega, by omega, ?_⟩
      rw [v0, v1, v2, v3]
      obtain ⟨w12, q1, s1⟩ := hT.drew.stB (b := outB (dblR 10 F) F (4 * k)) (hm5 _) (sB _) (ze (4 * k)) (by rw [upTo_len (by omega)]; omega)
      rw [hms, upTo_set (show O[4 * k]? = some (outB (dblR 10 F) F (4 * k)) from ot 0 (by omega))] at s1
      obtain ⟨w13, q2, s2⟩ := s1.stB (b := outB (dblR 10 F) F (4 * k + 1)) (hm5 _) (sB _) (ze (4 * k + 1)) (by rw [upTo_len (by omega)]; omega)
      rw [hms, upTo_set (ot 1 (by omega))] at s2
      obtain ⟨w14, q3, s3⟩ := s2.stB (b := outB (dblR 10 F) F (4 * k + 2)) (hm5 _) (sB _) (ze (4 * k + 2)) (by rw [upTo_len (by omega)]; omega)
      rw [hms, upTo_set (ot 2 (by omega))] at s3
      obtain ⟨w15, q4, s4⟩ := s3.stB (b := outB (dblR 10 F) F (4 * k + 3)) (hm5 _) (sB _) (ze (4 * k + 3)) (by rw [upTo_len (by omega)]; omega)
      rw [hms, upTo_set (ot 3 (by omega))] at s4
      exact ⟨w12, q1, by omega, by omega, w13, q2, by omega, by omega, w14, q3, by omega, by omega, w15, q4, ⟨k + 1, rfl, by omega, s4⟩, by simp; omega⟩
    · have hk' : k = 16 := by simp at h; omega
      subst hk'
      rw [show 4 * 16 = O.length by omega, upTo_all] at hT
      refine ⟨_, hT.ldA (hm5 _) (e64 _) (Tryz.sizeOf207 _) (by simp [hOl]), ?_⟩
      obtain ⟨w12, q1, s1⟩ := hT.stA (v := bv O) (hm2 _) (Tryz.sizeOf207 _) (by simp) (by simp [hOl]) (bv_one _)
      refine ⟨w12, q1, _, s1.ldVarA (i := 2) (l := bv O) (by rw [hMx]; rfl) (e64 _) (Tryz.sizeOf207 _) (by simp [hOl]), rfl, s1.chg⟩

open Go Sx
set_option maxRecDepth 8000

open Go Sx
set_option maxRecDepth 8000

/-- The stream's byte at a place; bytes under the stream. -/
def strB (key nonce : List UInt8) (p : Nat) : UInt8 := (blockF key (p / 64) nonce).getD (p % 64) 0
def xorL (key nonce : List UInt8) (at' : Nat) (l : List UInt8) : List UInt8 := l.mapIdx fun i b => b ^^^ strB key nonce (at' + i)
@[simp] theorem xorL_len (key nonce : List UInt8) (at' : Nat) (l : List UInt8) : (xorL key nonce at' l).length = l.length := by simp [xorL]
theorem xorL_get {key nonce : List UInt8} {at' : Nat} {l : List UInt8} {i : Nat} (h : i < l.length) : (xorL key nonce at' l)[i]? = some (l.getD i 0 ^^^ strB key nonce (at' + i)) := by simp [xorL, List.getD, h]

/-- The first i bytes of one row, the others of another. -/
def mix (x l : List UInt8) (i : Nat) : List UInt8 := x.take i ++ l.drop i
theorem mix_zero (x l : List UInt8) : mix x l 0 = l := by simp [mix]
theorem mix_all {x l : List UInt8} {n : Nat} (h : x.length = n) (h' : l.length = n) : mix x l n = x := by simp [mix, ← h, show l.length = x.length by omega]
theorem mix_len {x l : List UInt8} {i : Nat} (h : x.length = l.length) (hi : i ≤ l.length) : (mix x l i).length = l.length := by simp [mix]; omega
theorem mix_get {x l : List UInt8} {i : Nat} (h : x.length = l.length) (hi : i < l.length) : (mix x l i).getD i 0 = l.getD i 0 := by
  have hl : (x.take i).length = i := by rw [List.length_take]; omega
  simp [mix, List.getD, List.getElem?_append_right, hl]
theorem mix_set {x l : List UInt8} {i : Nat} {b : UInt8} (h : x.length = l.length) (hb : x[i]? = some b) : (mix x l i).set i b = mix x l (i + 1) := by
  have hi : i < x.length := (List.getElem?_eq_some_iff.1 hb).1
  have hl : (x.take i).length = i := by rw [List.length_take]; omega
  rw [mix, mix, List.set_append_right _ _ (by omega), hl, Nat.sub_self, List.drop_eq_getElem_cons (by omega : i < l.length), List.set_cons_zero, List.take_add_one, hb]
  simp

theorem xor_u8 (a b : UInt8) : bxor .u8 (a.toNat : Int) (b.toNat : Int) = ((a ^^^ b).toNat : Int) := by
  rw [bxor_nat rfl (by simpa [kmod, IntKind.bits] using a.toNat_lt) (by simpa [kmod, IntKind.bits] using b.toNat_lt), UInt8.toNat_xor]

theorem Sx.Chg.range {w w' : World} {X : List Nat} {b o : Nat} {cs : List Value} (hc : Chg X w w') (h : w.rangeAt b o cs) (hb : b ∉ X) : w'.rangeAt b o cs := by
  have hk : Cells w (some ⟨b, o, none⟩) cs := .inr ⟨b, o, rfl, h⟩
  rcases hk.keep hc (by rintro ad ⟨⟩; exact hb) with h0 | ⟨b', o', he, hr⟩
  · subst h0; intro j v hj; simp at hj
  · simp only [Option.some.injEq, Addr.mk.injEq, and_true] at he
    obtain ⟨rfl, rfl⟩ := he
    exact hr

theorem Sx.St.ofRowC {w : World} {e : TypeId} {sz : Nat} {g n m c : Nat} {xs : List Value} (h : w.ownsRow 0 e sz (.slice (some ⟨g, 0, none⟩) n c) m xs) : St w [g] w [.row e sz (.slice (some ⟨g, 0, none⟩) n c) m xs] := by
  have one : ∀ (i : Nat) (r : Res), [Res.row e sz (.slice (some ⟨g, 0, none⟩) n c) m xs][i]? = some r → i = 0 ∧ r = .row e sz (.slice (some ⟨g, 0, none⟩) n c) m xs := by
    intro i r hr
    cases i with
    | zero => exact ⟨rfl, (Option.some.inj hr).symm⟩
    | succ i => simp at hr
  refine ⟨Chg.refl _ _, ?_, ?_, ?_⟩
  · intro i r hr; obtain ⟨_, rfl⟩ := one i r hr; exact h
  · intro i r hr k hk; obtain ⟨_, rfl⟩ := one i r hr; right; simpa [Res.fp, Value.ownBlock] using hk
  · intro i j r s hij hi hj; have := (one i r hi).1; have := (one j s hj).1; omega

theorem seatOver_spec (gs o g n c at' : Nat) (key nonce l : List UInt8) (w : World) (hk : key.length = 32) (hn : nonce.length = 12) (rk : w.rangeAt gs o (bv key)) (rn : w.rangeAt gs (o + 32) (bv nonce)) (hne : gs ≠ g)
    (hrow : w.ownsRow 0 5 1 (.slice (some ⟨g, 0, none⟩) n c) n (bv l)) (hat : at' + n ≤ 274877906944) :
    Calls Tryz.prog 145 #[.pointer (some ⟨gs, o, none⟩), .int .i64 (at' : Int), .slice (some ⟨g, 0, none⟩) n c] w fun e w' => e = .returned (.tuple #[]) ∧ Chg [g] w w' ∧ w'.ownsRow 0 5 1 (.slice (some ⟨g, 0, none⟩) n c) n (bv (xorL key nonce at' l)) := by
  apply chacha_seat_over_vc
  have hl : l.length = n := by have := hrow.1; simpa using this
  have ze : ∀ k : Nat, 0 + Int.toNat (k : Int) * 1 = k := fun k => by omega
  have sB : ∀ w, (sizeOf 5).run Tryz.prog w = .ok 1 w := fun w => Tryz.sizeOf5 w
  have s64 : ∀ w, (sizeOf 207).run Tryz.prog w = .ok 64 w := fun w => Tryz.sizeOf207 w
  have s32 : ∀ w, (sizeOf 22).run Tryz.prog w = .ok 32 w := fun w => Tryz.sizeOf22 w
  have s12 : ∀ w, (sizeOf 187).run Tryz.prog w = .ok 12 w := fun w => Tryz.sizeOf187 w
  obtain ⟨X, hX⟩ : ∃ X, xorL key nonce at' l = X := ⟨_, rfl⟩
  have hXl : X.length = l.length := by rw [← hX]; simp
  rw [hX]
  obtain ⟨g6, w1, r1, h1⟩ := (St.ofRowC hrow).zeroA zero64
  obtain ⟨M, hM⟩ : ∃ M : List UInt8 → List UInt8 → List Res, M = fun x B => [.row 5 1 (.slice (some ⟨g, 0, none⟩) n c) n (bv x), .arr g6 207 (bv B)] := ⟨_, rfl⟩
  have i0 : ∀ x B, (M x B)[0]? = some (.row 5 1 (.slice (some ⟨g, 0, none⟩) n c) n (bv x)) := fun x B => by rw [hM]; rfl
  have i1 : ∀ x B, (M x B)[1]? = some (.arr g6 207 (bv B)) := fun x B => by rw [hM]; rfl
  have q0 : ∀ x B y, (M x B).set 0 (.row 5 1 (.slice (some ⟨g, 0, none⟩) n c) n (bv y)) = M y B := fun x B y => by rw [hM]; rfl
  have q1 : ∀ x B y, (M x B).set 1 (.arr g6 207 (bv y)) = M x y := fun x B y => by rw [hM]; rfl
  have h1' : St w [g] w1 (M (mix X l 0) (List.replicate 64 0)) := by rw [hM, mix_zero]; exact h1
  refine ⟨_, _, r1, fun x y w' => ∃ (i : Nat) (B : List UInt8), y = (i : Int) ∧ i ≤ n ∧ B.length = 64 ∧ (x = -1 ∨ ∃ h : Nat, x = (h : Int) ∧ B = blockF key h nonce) ∧ St w [g] w' (M (mix X l i) B), fun _ y _ => n - y.toNat,
    ⟨0, _, rfl, by omega, by simp, .inl rfl, h1'⟩, ?_⟩
  rintro x y w2 ⟨i, B, rfl, hi, hBl, hB, hS⟩
  refine ⟨fun h => ?_, fun h => ?_⟩
  · have hi' : i < n := by simp at h; omega
    have ea : IntKind.wrap .i64 ((at' : Int) + (i : Int)) = ((at' + i : Nat) : Int) := by rw [wrap_i64 (by omega) (by omega)]; omega
    have ed : IntKind.wrap .i64 (Int.tdiv ((at' + i : Nat) : Int) 64) = (((at' + i) / 64 : Nat) : Int) := by rw [Int.tdiv_eq_ediv_of_nonneg (by omega), wrap_i64 (by omega) (by omega)]; omega
    have em : Int.tmod ((at' + i : Nat) : Int) 64 = (((at' + i) % 64 : Nat) : Int) := by rw [Int.tmod_eq_emod_of_nonneg (by omega)]; omega
    have ew : IntKind.wrap .u32 (((at' + i) / 64 : Nat) : Int) = (((at' + i) / 64 : Nat) : Int) := wrap_u32_nat (by omega)
    have e1 : IntKind.wrap .i64 ((i : Int) + 1) = ((i + 1 : Nat) : Int) := by rw [wrap_i64 (by omega) (by omega)]; rfl
    rw [ea, ed, em, ew, e1]
    refine ⟨fun x' w' => x' = (((at' + i) / 64 : Nat) : Int) ∧ St w [g] w' (M (mix X l i) (blockF key ((at' + i) / 64) nonce)), ⟨fun hd => ?_, fun hd => ?_⟩, ?_⟩
    · have kd := fun (w' : World) (h : St w [g] w' (M (mix X l i) B)) => h.chg.range rk (by simp [hne])
      have nd := fun (w' : World) (h : St w [g] w' (M (mix X l i) B)) => h.chg.range rn (by simp [hne])
      refine ⟨fun w' => St w [g] w' (M (mix X l i) B), hS.drew, _, fun w' h => ldRange (kd w' h) (e32 _) (s32 _) (by simp [hk]), _, fun w' h => ldRange (nd w' h) (e12 _) (s12 _) (by simp [hn]), (block_spec key nonce ((at' + i) / 64) _ hk hn (by omega)).mono ?_⟩
      rintro e w3 ⟨rfl, hc3⟩
      obtain ⟨w4, r4, h4⟩ := (hS.drew.same hc3).stA (v := bv (blockF key ((at' + i) / 64) nonce)) (i1 _ _) (s64 _) (by simp [hBl]) (by simp) (bv_one _)
      rw [q1] at h4
      exact ⟨_, rfl, fun w' => St w [g] w' (M (mix X l i) B), fun _ h => h, hS.drew.same hc3, w4, r4, rfl, h4⟩
    · have hx : x = (((at' + i) / 64 : Nat) : Int) := by simp at hd; exact hd.symm
      rcases hB with h0 | ⟨h', h0, hBh⟩
      · omega
      · have : h' = (at' + i) / 64 := by omega
        rw [this] at hBh
        exact ⟨hx, by rw [← hBh]; exact hS⟩
    · rintro x' w5 ⟨rfl, h5⟩
      have hlt : (at' + i) % 64 < 64 := Nat.mod_lt _ (by decide)
      have hml := mix_len hXl (show i ≤ l.length by omega)
      have ldm : ∀ w', St w [g] w' (M (mix X l i) (blockF key ((at' + i) / 64) nonce)) → (Instr.loadAt 5 (.pointer (some ⟨g, 0 + Int.toNat (i : Int) * 1, none⟩))).run Tryz.prog w' = .ok (.int .u8 ((l.getD i 0).toNat : Int)) w' := fun w' h => by
        have hc := h.cells (i0 _ _)
        have hv : (bv (mix X l i))[i]? = some (.int .u8 ((l.getD i 0).toNat : Int)) := by rw [bv_getD (by omega), mix_get hXl (by omega)]
        obtain ⟨b, o', he, hcell⟩ := hc.at_ hv
        simp only [Option.some.injEq, Addr.mk.injEq, and_true] at he
        obtain ⟨rfl, rfl⟩ := he
        rw [show 0 + Int.toNat (i : Int) * 1 = 0 + i by omega]
        exact ld1 (bA _) hcell
      refine ⟨fun w' => St w [g] w' (M (mix X l i) (blockF key ((at' + i) / 64) nonce)), h5.drew, g, 0, rfl, by omega, by omega, by omega, by omega, _, ldm, _, fun w' h => h.ldB (i1 _ _) (bA _) (ze ((at' + i) % 64)) (by simpa using hlt), g, 0, rfl, by omega, by omega, ?_⟩
      rw [xor_u8, show 0 + Int.toNat (i : Int) * 1 = i by omega]
      obtain ⟨w6, r6, h6⟩ := h5.drew.stRow (v := .int .u8 ((l.getD i 0 ^^^ (blockF key ((at' + i) / 64) nonce).getD ((at' + i) % 64) 0).toNat : Int)) (i0 _ _) (sB _) hi' rfl
      rw [bv_set, q0, mix_set hXl (by rw [← hX]; exact xorL_get (by omega))] at h6
      exact ⟨w6, r6, ⟨i + 1, _, rfl, by omega, by simp, .inr ⟨_, rfl, rfl⟩, h6⟩, by simp; omega⟩
  · have hi' : i = n := by simp at h; omega
    subst hi'
    rw [mix_all (by omega) (by omega)] at hS
    exact ⟨rfl, hS.chg, hS.holds 0 _ (i0 _ _)⟩

/-- Is there room? What XOR answers. -/
def roomF (x : Int) (n : Nat) : Bool := decide (0 ≤ x) && decide (x + n ≤ 274877906944)
def xorE (x : Int) (n : Nat) : Option Int := if roomF x n then none else some 8
def xorR (key nonce : List UInt8) (x : Int) (l : List UInt8) : List UInt8 := if roomF x l.length then xorL key nonce x.toNat l else []

theorem room_spec (x : Int) (n : Nat) (w : World) (h1 : -9223372036854775808 ≤ x) (h2 : x ≤ 9223372036854775807) (hn : n ≤ 9223372036854775807) : Calls Tryz.prog 144 #[.int .i64 x, .int .i64 (n : Int)] w fun e w' => e = .returned (.bool (roomF x n)) ∧ w' = w := by
  apply chacha_room_vc
  refine ⟨?_, rfl⟩
  have : (((decide (x ≥ (0 : Int))) && (decide (x ≤ (274877906944 : Int)))) && (decide ((n : Int) ≤ (IntKind.wrap .i64 ((274877906944 : Int) - x))))) = roomF x n := by
    by_cases h0 : 0 ≤ x
    · rw [wrap_i64 (by omega) (by omega)]
      simp only [roomF]
      rw [Bool.eq_iff_iff]
      simp only [Bool.and_eq_true, decide_eq_true_eq]
      omega
    · simp [roomF, h0]
  rw [this]

theorem built_seat : Tryz.prog.built 230 = fun parts => Instr.fill (fun i => (#[(0, 32), (32, 12)] : Array (Nat × Nat))[i]?) (bv (List.replicate 44 0)).toArray parts := by kernel_rfl

theorem seat_build (key nonce : List UInt8) (hk : key.length = 32) (hn : nonce.length = 12) (w : World) : (Instr.build 230 #[(0, .agg (bv key).toArray), (1, .agg (bv nonce).toArray)]).run Tryz.prog w = .ok (.agg (bv key ++ bv nonce).toArray) w := by
  apply run_build
  rw [built_seat]
  show Instr.fill _ _ [(0, .agg (bv key).toArray), (1, .agg (bv nonce).toArray)] = _
  rw [fill_step (off := 0) (sz := 32) rfl (by simp [Value.cells, hk]) (by simp), fill_step (off := 32) (sz := 12) rfl (by simp [Value.cells, hn]) (by simp [Value.cells, hk])]
  simp [Instr.fill, Value.cells, hk, hn]

theorem xor_spec (key nonce : List UInt8) (x : Int) (a : Option Addr) (n c : Nat) (l : List UInt8) (w : World) (hk : key.length = 32) (hn : nonce.length = 12) (h1 : -9223372036854775808 ≤ x) (h2 : x ≤ 9223372036854775807) (hr : RdB w a n c l) (hb : n ≤ 9223372036854775807) :
    Calls Tryz.prog 122 #[.agg (bv key).toArray, .agg (bv nonce).toArray, .int .i64 x, .slice a n c] w fun e w' => ∃ a' n' c', e = .returned (.tuple #[.slice a' n' c', errV (xorE x n)]) ∧ FreshB w w' a' n' c' (xorR key nonce x l) := by
  have hl := hr.lenB
  apply chacha_XOR_vc
  have s32 : ∀ w, (sizeOf 22).run Tryz.prog w = .ok 32 w := fun w => Tryz.sizeOf22 w
  have s12 : ∀ w, (sizeOf 187).run Tryz.prog w = .ok 12 w := fun w => Tryz.sizeOf187 w
  obtain ⟨g1, w1, r1, k1⟩ := (St.start w).boxA (P := Tryz.prog) 22 (bv key)
  obtain ⟨g2, w2, r2, k2⟩ := k1.boxA (P := Tryz.prog) 187 (bv nonce)
  refine ⟨_, _, r1, _, _, r2, (room_spec x n w2 h1 h2 hb).mono ?_⟩
  rintro e w3 ⟨rfl, rfl⟩
  refine ⟨_, rfl, fun h => ?_, fun h => ?_⟩
  · have hf : roomF x n = false := by simpa using h
    refine ⟨none, 0, 0, by simp [xorE, hf, errV], ?_⟩
    rw [xorR, hl, hf]
    exact ⟨k2.chg, rfl, World.ownsRow_nil _ _ _ _⟩
  · have hf : roomF x n = true := by simpa using h
    have hx0 : 0 ≤ x ∧ x + n ≤ 274877906944 := by simpa [roomF] using hf
    obtain ⟨at', rfl⟩ := Int.eq_ofNat_of_zero_le hx0.1
    obtain ⟨g, w4, r4, k4⟩ := k2.mk0n (kl := .i64) (kc := .i64) (c := n) bT (by omega) (by omega)
    obtain ⟨va, vc, w5, r5, k5, hin, _⟩ := k4.append (i := 2) (ty := 33) bT rfl (k4.rd1 hr) (bv_one l) (by omega) (by simp only [maxLen]; omega)
    have hv := hin (by omega)
    rw [Nat.zero_add, hv.1, hv.2] at r5 k5
    refine ⟨_, _, _, _, r4, _, _, _, _, r5, _, k5.ldA (i := 0) rfl (e32 _) (s32 _) (by simp [hk]), _, k5.ldA (i := 1) rfl (e12 _) (s12 _) (by simp [hn]), _, seat_build key nonce hk hn _, ?_⟩
    obtain ⟨g6, w6, r6, k6⟩ := k5.boxA (P := Tryz.prog) 230 (bv key ++ bv nonce)
    refine ⟨_, _, r6, ?_⟩
    have rng := k6.cellsA (i := 3) rfl
    have hne : g6 ≠ g := fun e => k6.apart 3 2 _ _ (by decide) rfl rfl g6 (by simp [Res.fp]) (by simp [Res.fp, Value.ownBlock, e])
    have rk : w6.rangeAt g6 0 (bv key) := fun j v hj => rng j v (by rw [List.getElem?_append_left (List.getElem?_eq_some_iff.1 hj).1]; exact hj)
    have rn : w6.rangeAt g6 (0 + 32) (bv nonce) := fun j v hj => by
      have := rng (32 + j) v (by rw [List.getElem?_append_right (by simp [hk]), bv_length, hk, Nat.add_sub_cancel_left]; exact hj)
      rw [show 0 + 32 + j = 0 + (32 + j) by omega]; exact this
    refine (seatOver_spec g6 0 g n n at' key nonce l w6 hk hn rk rn hne (k6.holds 2 _ rfl) (by omega)).mono ?_
    rintro e w7 ⟨rfl, hc7, hrow⟩
    have he : errV (xorE (at' : Int) n) = .nilIface := by simp [xorE, hf, errV]
    rw [he]
    refine ⟨rfl, _, _, _, rfl, ?_⟩
    rw [xorR, hl, hf, if_pos rfl, Int.toNat_natCast]
    have := k6.upd (i := 2) (r' := .row 5 1 (.slice (some ⟨g, 0, none⟩) n n) n (bv (xorL key nonce at' l))) rfl (by simpa [Res.fp, Value.ownBlock] using hc7) hrow (by simp [Res.fp, Value.ownBlock])
    exact this.freshB (i := 2) rfl

end Go.Proofs.YtmdandkoajocpaaGreatDoor
end

section
namespace Go.Proofs.YtmdandkoajocpaaGreatDoor
open Go Sx
set_option maxRecDepth 8000

def der32 (salt secret info : List UInt8) : List UInt8 := deriveF salt secret info 32
@[simp] theorem der32_len (salt secret info : List UInt8) : (der32 salt secret info).length = 32 := deriveF_len _ _ _ _
def amphL : List UInt8 := [97, 109, 112, 104, 111, 114, 97]
def masterF (m : List UInt8) : List UInt8 := der32 amphL m [99, 105, 112, 104, 101, 114] ++ der32 amphL m [109, 97, 99] ++ der32 amphL m [110, 97, 109, 101]
@[simp] theorem masterF_len (m : List UInt8) : (masterF m).length = 96 := by simp [masterF]

def ciphK (K : List UInt8) : List UInt8 := K.take 32
def macKy (K : List UInt8) : List UInt8 := (K.drop 32).take 32
def nameK (K : List UInt8) : List UInt8 := (K.drop 64).take 32

def tagF (K : List UInt8) (kind : UInt8) (ctx nonce body : List UInt8) : List UInt8 := macF (macKy K) (packL [[kind], ctx, nonce, body])
@[simp] theorem tagF_len (K : List UInt8) (kind : UInt8) (ctx nonce body : List UInt8) : (tagF K kind ctx nonce body).length = 32 := macF_len _ _
def nonceF (K : List UInt8) (kind : UInt8) (ctx plain : List UInt8) : List UInt8 := (macF (nameK K) (packL [[kind], ctx, plain])).take 12
@[simp] theorem nonceF_len (K : List UInt8) (kind : UInt8) (ctx plain : List UInt8) : (nonceF K kind ctx plain).length = 12 := by rw [nonceF, List.length_take, macF_len]; rfl
def overF (K nonce b : List UInt8) : List UInt8 := xorR (ciphK K) nonce 0 b
def sealF (K : List UInt8) (kind : UInt8) (ctx plain : List UInt8) : List UInt8 :=
  [kind] ++ nonceF K kind ctx plain ++ overF K (nonceF K kind ctx plain) plain ++ tagF K kind ctx (nonceF K kind ctx plain) (overF K (nonceF K kind ctx plain) plain)
def bNonce (b : List UInt8) : List UInt8 := (b.drop 1).take 12
def bBody (b : List UInt8) : List UInt8 := (b.drop 13).take (b.length - 45)
def bTag (b : List UInt8) : List UInt8 := b.drop (b.length - 32)
def openF (K : List UInt8) (kind : UInt8) (ctx b : List UInt8) : Option (List UInt8) :=
  if b.length < 45 ∨ b.getD 0 0 ≠ kind then none else if tagF K kind ctx (bNonce b) (bBody b) = bTag b then some (overF K (bNonce b) (bBody b)) else none
/-- A string's bytes, as a slice. -/
theorem toBytes (s : ByteArray) (l : List UInt8) (hs : s = ⟨l.toArray⟩) (w : World) : ∃ g c w', (convert 9 33 (.string s)).run Tryz.prog w = .ok (.slice (some ⟨g, 0, none⟩) l.length c) w' ∧ Chg [] w w' ∧ RdB w' (some ⟨g, 0, none⟩) l.length c l ∧ w.heap.size ≤ g := by
  subst hs
  have hsz : (ByteArray.mk l.toArray).size = l.length := by simp [ByteArray.size]
  have hr := Lib.run_convert_string_bytes (P := Tryz.prog) w 9 33 5 ⟨l.toArray⟩ sS bS bE
  rw [hsz] at hr
  refine ⟨_, _, _, hr, ⟨?_, ?_, ?_, by rw [Lib.bytesWorld_size]; omega, fun k hk _ => Lib.bytesWorld_at_old w _ _ k hk⟩, ⟨.inr ⟨_, 0, rfl, fun j v hj => ?_⟩, by simp, grownCap_ge _ _ _ _, by simp⟩, Nat.le_refl _⟩
  · (simp only [Lib.bytesWorld, World.freeze]; split <;> rfl)
  · (simp only [Lib.bytesWorld, World.freeze]; split <;> rfl)
  · (simp only [Lib.bytesWorld, World.freeze]; split <;> rfl)
  · have hjl : j < l.length := by have := (List.getElem?_eq_some_iff.1 hj).1; simpa using this
    rw [Nat.zero_add, Lib.bytesWorld_cell w _ _ j (by rw [hsz]; exact hjl)]
    rw [bv_getD hjl] at hj
    simpa using hj

/-- A slice that is marked as a string's stays what it is. -/
theorem sameSlice (g n c : Nat) (l : List UInt8) (w : World) (hr : RdB w (some ⟨g, 0, none⟩) n c l) (hg : g < w.heap.size) : ∃ w', (convert 33 33 (.slice (some ⟨g, 0, none⟩) n c)).run Tryz.prog w = .ok (.slice (some ⟨g, 0, none⟩) n c) w' ∧ Chg [g] w w' ∧ RdB w' (some ⟨g, 0, none⟩) n c l := by
  have hfz : ∀ (o m : Nat), Chg [g] w (w.freeze ⟨g, o, none⟩ m) ∧ ∀ j, (w.freeze ⟨g, o, none⟩ m).cell? ⟨g, j, none⟩ = w.cell? ⟨g, j, none⟩ := by
    intro o m
    unfold World.freeze
    split
    · exact ⟨Chg.refl _ _, fun _ => rfl⟩
    · refine ⟨⟨rfl, rfl, rfl, by simp, fun k hk hx => ?_⟩, fun j => ?_⟩
      · have : g ≠ k := fun e => hx (by simp [e])
        simp [Array.getElem?_modify, this]
      · simp only [World.cell?, Array.getElem?_modify, if_true]
        cases hc : w.heap[g]? with
        | none => rfl
        | some o => cases o <;> rfl
  have hrd : ∀ w', (∀ j, w'.cell? ⟨g, j, none⟩ = w.cell? ⟨g, j, none⟩) → RdB w' (some ⟨g, 0, none⟩) n c l := fun w' h => by
    refine ⟨?_, hr.len, hr.le, hr.nil⟩
    rcases hr.cells with h0 | ⟨b, o, e, h1⟩
    · exact .inl h0
    · simp only [Option.some.injEq, Addr.mk.injEq, and_true] at e
      obtain ⟨rfl, rfl⟩ := e
      exact .inr ⟨_, _, rfl, fun j v hj => by rw [h]; exact h1 j v hj⟩
  cases hsh : w.shape? g with
  | none => exact ⟨w, by simp [convert, run_underlying bS, run_underlying bE, markStringish, hsh], Chg.refl _ _, hr⟩
  | some p => exact ⟨w.freeze ⟨g, p.2, none⟩ 1, by simp [convert, run_underlying bS, run_underlying bE, markStringish, hsh], (hfz _ _).1, hrd _ (hfz _ _).2⟩

/-- A part of an array of bytes. -/
theorem Sx.St.rdPart {w0 w : World} {X : List Nat} {M : List Res} (h : St w0 X w M) {i g T o n : Nat} {l : List UInt8} (hi : M[i]? = some (.arr g T (bv l))) (ho : o + n ≤ l.length) : RdB w (some ⟨g, o, none⟩) n n ((l.drop o).take n) := by
  refine ⟨.inr ⟨g, o, rfl, fun j u hj => ?_⟩, by simp; omega, Nat.le_refl _, by simp⟩
  have hjn : j < n := by have := (List.getElem?_eq_some_iff.1 hj).1; simp at this; omega
  have h1 : (bv l)[o + j]? = some u := by
    rw [← hj, bv_take, bv_drop, List.getElem?_take, if_pos hjn, List.getElem?_drop]
  have := h.cellsA hi (o + j) u h1
  rwa [Nat.zero_add] at this

end Go.Proofs.YtmdandkoajocpaaGreatDoor
end

section
namespace Go.Proofs.YtmdandkoajocpaaGreatDoor
open Go Go.Proofs.YtmdandkoajocpaaGreatDoor.Sx

set_option maxRecDepth 100000 in
theorem amphoraref13_Good_vc (a0 : Int) (w : World) (R : Ending → World → Prop) (h :
  R (.returned (.bool ((decide (a0 ≥ (0 : Int))) && (decide (a0 ≤ (1099511627776 : Int)))))) w) : Calls Tryz.prog 18 #[(.int .i64 a0)] w R :=
  calls_of_ev (args := [(.int .i64 a0)])
    (tc := .seq (.reg (.op .p (.nil))) (.seq (.reg (.op .p (.op .p (.op .p (.ap 2 (.op .p (.nil))))))) (.leaf)))
    (by kernel_rfl) Tryz.func18 (by kernel_rfl) (by kernel_rfl) (by kernel_rfl) (by kernel_rfl) h

set_option maxRecDepth 100000 in
theorem amphoraref13_Name_vc (a0 : Int) (w : World) (R : Ending → World → Prop) (h :
  Calls Tryz.prog 45 #[(.int .i64 a0)] w fun (e4 : Ending) (w1 : World) => ∃ (t4 : ByteArray), e4 = .returned (.string t4) ∧
  (∃ (t5 : ByteArray), (eqlS .add 9 (.const (.string (ByteArray.mk #[112]))) (.tmp 4) (.string (ByteArray.mk #[112])) (.string t4)).run Tryz.prog w1 = .ok (.string t5) w1 ∧
    (R (.returned (.string t5)) w1))) : Calls Tryz.prog 20 #[(.int .i64 a0)] w R :=
  calls_of_ev (args := [(.int .i64 a0)])
    (tc := .seq (.reg (.op .p (.nil))) (.seq (.reg (.op .p (.op (.cl [.str]) (.op (.ld (.str)) (.op .p (.nil)))))) (.leaf)))
    (by kernel_rfl) Tryz.func20 (by kernel_rfl) (by kernel_rfl) (by kernel_rfl) (by kernel_rfl) h

set_option maxRecDepth 100000 in
theorem amphoraref13_Number_vc (a0 : ByteArray) (w : World) (R : Ending → World → Prop) (h :
  ∃ J : Bool → World → Prop, ((((decide ((a0.size : Int) < (2 : Int))) || (decide ((a0.size : Int) > (15 : Int)))) = true →
      (J true w)) ∧
    (((decide ((a0.size : Int) < (2 : Int))) || (decide ((a0.size : Int) > (15 : Int)))) = false →
      (∃ (t16 : Int), (Instr.index 9 (.string a0) (.int .i64 0)).run Tryz.prog w = .ok (.int .u8 t16) w ∧
        (J (t16 != (112 : Int)) w)))) ∧
  (∀ (x18 : Bool), ∀ w1 : World, J x18 w1 →
    ((x18 = true →
        (R (.returned (.tuple #[(.int .i64 0), (.bool false)])) w1)) ∧
      (x18 = false →
        (∃ (I : Int → Int → World → Prop) (μ : Int → Int → World → Nat), I 0 1 w1 ∧
          (∀ (x4 : Int) (x5 : Int), ∀ w2 : World, I x4 x5 w2 →
            (((decide (x5 < (a0.size : Int))) = true →
                (∃ J_1 : Bool → World → Prop, (∃ (t27 : Int), (Instr.index 9 (.string a0) (.int .i64 x5)).run Tryz.prog w2 = .ok (.int .u8 t27) w2 ∧
                    (((decide (t27 < (48 : Int))) = true →
                        (J_1 true w2)) ∧
                      ((decide (t27 < (48 : Int))) = false →
                        (∃ (t32 : Int), (Instr.index 9 (.string a0) (.int .i64 x5)).run Tryz.prog w2 = .ok (.int .u8 t32) w2 ∧
                          (J_1 (decide (t32 > (57 : Int))) w2))))) ∧
                  (∀ (x34 : Bool), ∀ w3 : World, J_1 x34 w3 →
                    ((x34 = true →
                        (R (.returned (.tuple #[(.int .i64 0), (.bool false)])) w3)) ∧
                      (x34 = false →
                        (∃ (t39 : Int), (Instr.index 9 (.string a0) (.int .i64 x5)).run Tryz.prog w3 = .ok (.int .u8 t39) w3 ∧
                          (I (IntKind.wrap .i64 ((IntKind.wrap .i64 ((10 : Int) * x4)) + (IntKind.wrap .i64 (IntKind.wrap .u8 (t39 - (48 : Int)))))) (IntKind.wrap .i64 (x5 + (1 : Int))) w3 ∧ μ (IntKind.wrap .i64 ((IntKind.wrap .i64 ((10 : Int) * x4)) + (IntKind.wrap .i64 (IntKind.wrap .u8 (t39 - (48 : Int)))))) (IntKind.wrap .i64 (x5 + (1 : Int))) w3 < μ x4 x5 w2))))))) ∧
              ((decide (x5 < (a0.size : Int))) = false →
                (∃ J_1 : Bool → World → Prop, (Calls Tryz.prog 18 #[(.int .i64 x4)] w2 fun (e44 : Ending) (w4 : World) => ∃ (t44 : Bool), e44 = .returned (.bool t44) ∧
                    (((!t44) = true →
                        (J_1 true w4)) ∧
                      ((!t44) = false →
                        (Calls Tryz.prog 20 #[(.int .i64 x4)] w4 fun (e48 : Ending) (w5 : World) => ∃ (t48 : ByteArray), e48 = .returned (.string t48) ∧
                          (J_1 (!(t48.toList == a0.toList)) w5))))) ∧
                  (∀ (x51 : Bool), ∀ w6 : World, J_1 x51 w6 →
                    ((x51 = true →
                        (R (.returned (.tuple #[(.int .i64 0), (.bool false)])) w6)) ∧
                      (x51 = false →
                        (R (.returned (.tuple #[(.int .i64 x4), (.bool true)])) w6))))))))))))) : Calls Tryz.prog 17 #[(.string a0)] w R :=
  calls_of_ev (args := [(.string a0)])
    (tc := .seq (.reg (.op .p (.op .p (.nil)))) (.seq (.reg (.op .p (.nil))) (.seq (.seq (.join [6, 7, 8, 9, 10, 11, 12, 13, 14, 15, 16, 17, 18] [18] [.bool] (.reg (.op .p (.op .p (.op .p (.op .p (.ap 3 (.op .p (.sp 14 (.op .p (.op .p (.op .p (.op .p (.nil))))) (.op .p (.op (.ld (.int .u8)) (.op .p (.op .p (.nil)))))))))))))) (.cond (.seq (.reg (.op .p (.op .p (.nil)))) (.leaf)) (.leaf))) (.seq (.seq (.reg (.op .p (.nil))) (.blk (.loop [2, 3, 4, 5, 19, 20, 21, 22, 23, 24, 25, 26, 27, 28, 29, 30, 31, 32, 33, 34, 35, 36, 37, 38, 39, 40, 41, 42] [4, 5] [.int .i64, .int .i64] (.seq (.seq (.reg (.op .p (.op .p (.op .p (.op .p (.nil)))))) (.cond (.leaf) (.leaf))) (.seq (.blk (.seq (.seq (.join [25, 26, 27, 28, 29, 30, 31, 32, 33, 34] [34] [.bool] (.reg (.op .p (.op .p (.op (.ld (.int .u8)) (.op .p (.op .p (.sp 29 (.op .p (.op .p (.op .p (.op .p (.op .p (.nil)))))) (.op .p (.op .p (.op (.ld (.int .u8)) (.op .p (.op .p (.nil)))))))))))))) (.cond (.seq (.reg (.op .p (.op .p (.nil)))) (.leaf)) (.leaf))) (.reg (.op .p (.op .p (.op .p (.op .p (.op (.ld (.int .u8)) (.op .p (.op .p (.op .p (.op .p (.nil))))))))))))) (.reg (.op .p (.op .p (.op .p (.nil)))))))))) (.seq (.seq (.join [43, 44, 45, 46, 47, 48, 49, 50, 51] [51] [.bool] (.reg (.op .p (.op (.cl [.bool]) (.op .p (.op .p (.sp 46 (.op .p (.op .p (.op .p (.op .p (.op .p (.nil)))))) (.op .p (.op (.cl [.str]) (.op .p (.op .p (.op .p (.nil))))))))))))) (.cond (.seq (.reg (.op .p (.op .p (.nil)))) (.leaf)) (.leaf))) (.seq (.reg (.op .p (.op .p (.op .p (.nil))))) (.leaf)))))))
    (by kernel_rfl) Tryz.func17 (by kernel_rfl) (by kernel_rfl) (by kernel_rfl) (by kernel_rfl) h

set_option maxRecDepth 100000 in
theorem amphoranum_Decimal_vc (a0 : Int) (w : World) (R : Ending → World → Prop) (h :
  ((a0 == ((-9223372036854775808) : Int)) = true →
    (R (.returned (.string (ByteArray.mk #[45, 57, 50, 50, 51, 51, 55, 50, 48, 51, 54, 56, 53, 52, 55, 55, 53, 56, 48, 56]))) w)) ∧
  ((a0 == ((-9223372036854775808) : Int)) = false →
    (∃ J : Int → World → Prop, (((decide (a0 < (0 : Int))) = true →
          (J (IntKind.wrap .i64 (0 - a0)) w)) ∧
        ((decide (a0 < (0 : Int))) = false →
          (J a0 w))) ∧
      (∀ (x0 : Int), ∀ w1 : World, J x0 w1 →
        (∃ (I : Int → ByteArray → World → Prop) (μ : Int → ByteArray → World → Nat), I x0 (ByteArray.mk #[]) w1 ∧
          (∀ (x0_1 : Int) (x3 : ByteArray), ∀ w2 : World, I x0_1 x3 w2 →
            ((((x3.toList == (ByteArray.mk #[]).toList) || (decide (x0_1 > (0 : Int)))) = true →
                (∃ (t22a : Option Addr) (t22n : Nat) (t22c : Nat) (w3 : World), (Instr.buildSlice 33 1 #[(0, (.int .u8 (IntKind.wrap .u8 (IntKind.wrap .i64 ((48 : Int) + (Int.tmod x0_1 (10 : Int)))))))]).run Tryz.prog w2 = .ok (.slice t22a t22n t22c) w3 ∧
                  (∃ (t23 : ByteArray), (convert 33 9 (.slice t22a t22n t22c)).run Tryz.prog w3 = .ok (.string t23) w3 ∧
                    (∃ (t25 : ByteArray), (eqlS .add 9 (.tmp 23) (.tmp 24) (.string t23) (.string x3)).run Tryz.prog w3 = .ok (.string t25) w3 ∧
                      (I (IntKind.wrap .i64 (Int.tdiv x0_1 (10 : Int))) t25 w3 ∧ μ (IntKind.wrap .i64 (Int.tdiv x0_1 (10 : Int))) t25 w3 < μ x0_1 x3 w2))))) ∧
              (((x3.toList == (ByteArray.mk #[]).toList) || (decide (x0_1 > (0 : Int)))) = false →
                (((decide (a0 < (0 : Int))) = true →
                    (∃ (t30 : ByteArray), (eqlS .add 9 (.const (.string (ByteArray.mk #[45]))) (.tmp 29) (.string (ByteArray.mk #[45])) (.string x3)).run Tryz.prog w2 = .ok (.string t30) w2 ∧
                      (R (.returned (.string t30)) w2))) ∧
                  ((decide (a0 < (0 : Int))) = false →
                    (R (.returned (.string x3)) w2))))))))))) : Calls Tryz.prog 45 #[(.int .i64 a0)] w R :=
  calls_of_ev (args := [(.int .i64 a0)])
    (tc := .seq (.reg (.op .p (.nil))) (.seq (.seq (.reg (.op .p (.op .p (.nil)))) (.cond (.seq (.reg (.op .p (.nil))) (.leaf)) (.leaf))) (.seq (.reg (.op .p (.nil))) (.seq (.reg (.op .p (.op .p (.op .p (.nil))))) (.seq (.seq (.reg (.op .p (.nil))) (.join [0, 10, 11] [0] [.int .i64] (.cond (.reg (.op .p (.op .p (.op .p (.nil))))) (.leaf)))) (.seq (.blk (.loop [0, 3, 12, 13, 14, 15, 16, 17, 18, 19, 20, 21, 22, 23, 24, 25, 26, 27] [0, 3] [.int .i64, .str] (.seq (.seq (.reg (.op .p (.op .p (.op .p (.ap 2 (.nil)))))) (.cond (.leaf) (.leaf))) (.blk (.seq (.reg (.op .p (.op .p (.op .p (.op .p (.op (.r (.slice)) (.op (.ld (.str)) (.op .p (.op (.ld (.str)) (.op .p (.nil))))))))))) (.reg (.op .p (.op .p (.op .p (.nil)))))))))) (.seq (.seq (.reg (.op .p (.nil))) (.cond (.seq (.reg (.op .p (.op (.ld (.str)) (.op .p (.nil))))) (.leaf)) (.leaf))) (.seq (.reg (.op .p (.op .p (.nil)))) (.leaf)))))))))
    (by kernel_rfl) Tryz.func45 (by kernel_rfl) (by kernel_rfl) (by kernel_rfl) (by kernel_rfl) h

end Go.Proofs.YtmdandkoajocpaaGreatDoor
end

section
namespace Go.Proofs.YtmdandkoajocpaaGreatDoor
open Go Sx
set_option maxRecDepth 8000

/-- A ref. -/
structure RefD where
  id : List UInt8
  pack : Int
  at_ : Int
  len : Int
  idl : id.length = 32
  pk : -9223372036854775808 ≤ pack ∧ pack ≤ 9223372036854775807
  ak : -9223372036854775808 ≤ at_ ∧ at_ ≤ 9223372036854775807
  lk : -9223372036854775808 ≤ len ∧ len ≤ 9223372036854775807
def ref0 : RefD := ⟨List.replicate 32 0, 0, 0, 0, by simp, by omega, by omega, by omega⟩
instance : Inhabited RefD := ⟨ref0⟩
def refC (r : RefD) : List Value := bv r.id ++ [.int .i64 r.pack, .int .i64 r.at_, .int .i64 r.len]
@[simp] theorem refC_len (r : RefD) : (refC r).length = 35 := by simp [refC, r.idl]
theorem refC_one (r : RefD) : ∀ v ∈ refC r, v.oneCell' = true := fun v hv => by
  simp only [refC, List.mem_append, List.mem_cons, List.not_mem_nil, or_false] at hv
  rcases hv with hv | rfl | rfl | rfl
  · exact bv_one _ v hv
  · rfl
  · rfl
  · rfl
theorem RefD.ext {r s : RefD} (h1 : r.id = s.id) (h2 : r.pack = s.pack) (h3 : r.at_ = s.at_) (h4 : r.len = s.len) : r = s := by
  cases r; cases s; simp_all

theorem idA' (w : World) : (isAgg 44).run Tryz.prog w = .ok true w := Tryz.isAgg44 w

theorem idS' (w : World) : (sizeOf 44).run Tryz.prog w = .ok 32 w := Tryz.sizeOf44 w

abbrev Refs := List RefD

theorem rfA (w : World) : (isAgg 75).run Tryz.prog w = .ok true w := Tryz.isAgg75 w

theorem rfS (w : World) : (sizeOf 75).run Tryz.prog w = .ok 35 w := Tryz.sizeOf75 w

theorem inA (w : World) : (isAgg 3).run Tryz.prog w = .ok false w := Tryz.isAgg3 w

section
variable {w0 w w' : World} {X : List Nat}
theorem refFld {M : List Res} {i g : Nat} {T : TypeId} {r : RefD} (h : St w0 X w M) (hi : M[i]? = some (.arr g T (refC r))) :
    (Instr.loadAt 3 (.pointer (some ⟨g, 32, none⟩))).run Tryz.prog w = .ok (.int .i64 r.pack) w ∧ (Instr.loadAt 3 (.pointer (some ⟨g, 33, none⟩))).run Tryz.prog w = .ok (.int .i64 r.at_) w ∧ (Instr.loadAt 3 (.pointer (some ⟨g, 34, none⟩))).run Tryz.prog w = .ok (.int .i64 r.len) w := by
  refine ⟨h.ldL hi (inA _) rfl ?_, h.ldL hi (inA _) rfl ?_, h.ldL hi (inA _) rfl ?_⟩ <;> rw [refC, List.getElem?_append_right (by simp [r.idl])] <;> simp [r.idl]
end

abbrev RdR (w : World) (a : Option Addr) (n c : Nat) (l : Refs) : Prop := RdE refC 35 w a n c l

theorem rfT : ElemT Tryz.prog 34 75 35 56 (.agg (refC ref0).toArray) := ⟨by kernel_rfl, ⟨Tryz.t75, by kernel_rfl, by kernel_rfl, by kernel_rfl, by kernel_rfl⟩, rfl, by decide⟩

theorem rfZ (w : World) : (zeroValue 75).run Tryz.prog w = .ok (.agg (refC ref0).toArray) w := Tryz.zeroValue75 w

theorem built_ref : Tryz.prog.built 75 = fun parts => Instr.fill (fun i => (#[(0, 32), (32, 1), (33, 1), (34, 1)] : Array (Nat × Nat))[i]?) (refC ref0).toArray parts := by kernel_rfl

theorem Sx.St.idRow {w0 w : World} {X : List Nat} {M : List Res} (h : St w0 X w M) {i g : Nat} {T : TypeId} {r : RefD} (hi : M[i]? = some (.arr g T (refC r))) : RdB w (some ⟨g, 0, none⟩) 32 32 r.id := by
  have rng := h.cellsA hi
  refine ⟨.inr ⟨g, 0, rfl, fun j v hj => rng j v ?_⟩, by simp [r.idl], Nat.le_refl _, by simp⟩
  rw [refC, List.getElem?_append_left (List.getElem?_eq_some_iff.1 hj).1]; exact hj

end Go.Proofs.YtmdandkoajocpaaGreatDoor
end

section
namespace Go.Proofs.YtmdandkoajocpaaGreatDoor
open Go Sx
set_option maxRecDepth 8000

def OkI (x : Int) : Prop := -9223372036854775808 ≤ x ∧ x ≤ 9223372036854775807
instance (x : Int) : Decidable (OkI x) := by unfold OkI; infer_instance
def mkRef (id : List UInt8) (p q n : Int) : RefD := if h : id.length = 32 ∧ OkI p ∧ OkI q ∧ OkI n then ⟨id, p, q, n, h.1, h.2.1, h.2.2.1, h.2.2.2⟩ else ref0
theorem refC_mk {id : List UInt8} {p q n : Int} (h : id.length = 32) (hp : OkI p) (hq : OkI q) (hn : OkI n) : refC (mkRef id p q n) = bv id ++ [.int .i64 p, .int .i64 q, .int .i64 n] := by
  rw [mkRef, dif_pos ⟨h, hp, hq, hn⟩]; rfl
/-- An item: its identifier, its blob. -/
abbrev Itm := List UInt8 × List UInt8
def magicL : List UInt8 := [97, 109, 112, 104, 112, 97, 99, 107]
def n64 (x : Int) : Nat := (x % 18446744073709551616).toNat
def headP (num : Int) : List UInt8 := magicL ++ numL (n64 num)
@[simp] theorem headP_len (num : Int) : (headP num).length = 16 := by simp [headP, magicL, numL_len]
def frmT (x : Itm) : List UInt8 := frameL 2 (x.1 ++ x.2)
def refsP (num : Int) : Nat → List Itm → List RefD
  | _, [] => []
  | s, x :: r => mkRef x.1 num (((s + (frmT x).length : Nat) : Int) - ((x.2.length : Nat) : Int)) ((x.2.length : Nat) : Int) :: refsP num (s + (frmT x).length) r
def refBy (r : RefD) : List UInt8 := r.id ++ numL (n64 r.at_) ++ numL (n64 r.len)
@[simp] theorem refBy_len (r : RefD) : (refBy r).length = 48 := by simp [refBy, numL_len, r.idl]
def footL (rs : List RefD) : List UInt8 := rs.flatMap refBy
theorem footL_len : ∀ rs : List RefD, (footL rs).length = 48 * rs.length
  | [] => rfl
  | r :: rs => by
    have := footL_len rs
    rw [footL, List.flatMap_cons, List.length_append, refBy_len, List.length_cons]
    rw [footL] at this
    rw [this]; omega
def footP (K : List UInt8) (num : Int) (rs : List RefD) : List UInt8 := frameL 3 (sealF K 3 (numL (n64 num)) (footL rs))
def piecesP (K : List UInt8) (num : Int) (xs : List Itm) : List (List UInt8) := headP num :: xs.map frmT ++ [footP K num (refsP num 16 xs)]
def buildP (K : List UInt8) (num : Int) (xs : List Itm) : List UInt8 := (piecesP K num xs).flatten
def goodP (num : Int) : Bool := decide (0 ≤ num) && decide (num ≤ 1099511627776)
theorem goodP_iff {num : Int} : goodP num = true ↔ 0 ≤ num ∧ num ≤ 1099511627776 := by simp [goodP]
def sizeP : Nat → List Itm → Nat
  | s, [] => s
  | s, x :: r => sizeP (s + (frmT x).length) r
theorem refsP_len (num : Int) : ∀ (xs : List Itm) (s : Nat), (refsP num s xs).length = xs.length
  | [], _ => rfl
  | x :: r, s => by simp [refsP, refsP_len num r]
theorem sizeP_eq : ∀ (xs : List Itm) (s : Nat), sizeP s xs = s + (xs.map frmT).flatten.length
  | [], s => by simp [sizeP]
  | x :: r, s => by rw [sizeP, sizeP_eq r]; simp; omega
theorem refsP_snoc (num : Int) : ∀ (xs : List Itm) (s : Nat) (x : Itm), refsP num s (xs ++ [x]) = refsP num s xs ++ [mkRef x.1 num (((sizeP s xs + (frmT x).length : Nat) : Int) - ((x.2.length : Nat) : Int)) ((x.2.length : Nat) : Int)]
  | [], s, x => rfl
  | y :: r, s, x => by
    show _ :: refsP num _ (r ++ [x]) = _
    rw [refsP_snoc num r]; rfl
/-- An item in memory. -/
structure ItD where
  id : List UInt8
  a : Option Addr
  n : Nat
  c : Nat
  blob : List UInt8
  idl : id.length = 32
def ItD.t (x : ItD) : Itm := (x.id, x.blob)
def itC (x : ItD) : List Value := bv x.id ++ [.slice x.a x.n x.c]
@[simp] theorem itC_len (x : ItD) : (itC x).length = 33 := by simp [itC, x.idl]
theorem itC_one (x : ItD) : ∀ v ∈ itC x, v.oneCell' = true := fun v hv => by
  simp only [itC, List.mem_append, List.mem_singleton] at hv
  rcases hv with hv | rfl
  · exact bv_one _ v hv
  · rfl
/-- A row of items that may be read. -/
structure ItR (w : World) (a : Option Addr) (n c : Nat) (l : List ItD) : Prop where
  rd : RdE itC 33 w a n c l
  blobs : ∀ x ∈ l, RdB w x.a x.n x.c x.blob
theorem ItR.keep0 {w w' : World} {a : Option Addr} {n c : Nat} {l : List ItD} (h : ItR w a n c l) (hc : Chg [] w w') : ItR w' a n c l := ⟨h.rd.keep0 hc, fun x hx => (h.blobs x hx).keep0 hc⟩

/-- Items that are small together. -/
structure SmallI (xs : List Itm) : Prop where
  num : xs.length ≤ 4096
  idl : ∀ x ∈ xs, x.1.length = 32
  sum : (xs.map fun x => x.2.length).sum ≤ 16777216
theorem sum_mem : ∀ {l : List Nat} {x : Nat}, x ∈ l → x ≤ l.sum
  | y :: l, x, h => by
    rw [List.sum_cons]
    rcases List.mem_cons.1 h with rfl | h
    · omega
    · have := sum_mem h; omega
theorem SmallI.blob {xs : List Itm} (h : SmallI xs) {x : Itm} (hx : x ∈ xs) : x.2.length ≤ 16777216 :=
  Nat.le_trans (sum_mem (List.mem_map_of_mem (f := fun x : Itm => x.2.length) hx)) h.sum

end Go.Proofs.YtmdandkoajocpaaGreatDoor
end

section
namespace Go.Proofs.YtmdandkoajocpaaGreatDoor
open Go Go.Proofs.YtmdandkoajocpaaGreatDoor.Sx

set_option maxRecDepth 100000 in
theorem seal_tag_vc (a0 : Array Value) (a1 : Int) (a2a : Option Addr) (a2n : Nat) (a2c : Nat) (a3a : Option Addr) (a3n : Nat) (a3c : Nat) (a4a : Option Addr) (a4n : Nat) (a4c : Nat) (w : World) (R : Ending → World → Prop) (h :
  ∃ (g5 : Nat) (w1 : World), (Instr.box 28 (.agg a0)).run Tryz.prog w = .ok (.pointer (some ⟨g5, 0, none⟩)) w1 ∧
  (∃ (g10 : Nat) (w2 : World), (Instr.alloc 22 true (.tuple #[])).run Tryz.prog w1 = .ok (.pointer (some ⟨g10, 0, none⟩)) w2 ∧
    (0 ≤ ((32 : Nat) : Int) ∧ ((32 : Nat) : Int) ≤ ((32 : Nat) : Int) ∧
      (∃ (t14a : Option Addr) (t14n : Nat) (t14c : Nat) (w3 : World), (Instr.buildSlice 33 1 #[(0, (.int .u8 a1))]).run Tryz.prog w2.drew = .ok (.slice t14a t14n t14c) w3 ∧
        (∃ (t18a : Option Addr) (t18n : Nat) (t18c : Nat) (w4 : World), (Instr.buildSlice 23 4 #[(0, (.slice t14a t14n t14c)), (1, (.slice a2a a2n a2c)), (2, (.slice a3a a3n a3c)), (3, (.slice a4a a4n a4c))]).run Tryz.prog w3 = .ok (.slice t18a t18n t18c) w4 ∧
          (Calls Tryz.prog 121 #[(.slice t18a t18n t18c)] w4 fun (e19 : Ending) (w5 : World) => ∃ (t19a : Option Addr) (t19n : Nat) (t19c : Nat), e19 = .returned (.slice t19a t19n t19c) ∧
            (∃ (t20a : Option Addr) (t20n : Nat) (t20c : Nat) (w6 : World), (Instr.buildSlice 23 1 #[(0, (.slice t19a t19n t19c))]).run Tryz.prog w5 = .ok (.slice t20a t20n t20c) w6 ∧
              (Calls Tryz.prog 120 #[(.slice (some ⟨g5, 32, none⟩) (32) 32), (.slice t20a t20n t20c)] w6 fun (e21 : Ending) (w7 : World) => ∃ (t21 : Array Value), e21 = .returned (.agg t21) ∧
                (∃ w8 : World, (Instr.storeAt 22 (.pointer (some ⟨g10, 0, none⟩)) (.agg t21)).run Tryz.prog w7 = .ok () w8 ∧
                  (∃ r10 : Value, (loadVar 22 ⟨g10, 0, none⟩).run Tryz.prog w8 = .ok r10 w8 ∧
                    (R (.returned r10) w8))))))))))) : Calls Tryz.prog 91 #[(.agg a0), (.int .u8 a1), (.slice a2a a2n a2c), (.slice a3a a3n a3c), (.slice a4a a4n a4c)] w R :=
  calls_of_ev (args := [(.agg a0), (.int .u8 a1), (.slice a2a a2n a2c), (.slice a3a a3n a3c), (.slice a4a a4n a4c)])
    (tc := .seq (.reg (.op .bx (.op .bx (.nil)))) (.seq (.draw (.tk 0 .p (.tk 1 .sl (.tk 2 .p (.tk 4 .p (.tk 5 .p (.tk 6 .p (.go 3 (.r (.slice)) (.go 7 (.r (.slice)) (.go 8 (.cl [.slice]) (.go 9 (.r (.slice)) (.go 10 (.cl [.agg]) (.go 11 .u (.nil))))))))))))) [0, 1, 2, 3, 4, 5, 6, 7, 8, 9, 10, 11]) (.leaf)))
    (by kernel_rfl) Tryz.func91 (by kernel_rfl) (by kernel_rfl) (by kernel_rfl) (by kernel_rfl) h

set_option maxRecDepth 100000 in
theorem seal_over_vc (a0 : Array Value) (a1a : Option Addr) (a1n : Nat) (a1c : Nat) (a2a : Option Addr) (a2n : Nat) (a2c : Nat) (w : World) (R : Ending → World → Prop) (h :
  ∃ (g3 : Nat) (w1 : World), (Instr.box 28 (.agg a0)).run Tryz.prog w = .ok (.pointer (some ⟨g3, 0, none⟩)) w1 ∧
  (∃ (g7 : Nat) (w2 : World), (Instr.alloc 187 true (.tuple #[])).run Tryz.prog w1 = .ok (.pointer (some ⟨g7, 0, none⟩)) w2 ∧
    (0 ≤ ((12 : Nat) : Int) ∧ ((12 : Nat) : Int) ≤ ((12 : Nat) : Int) ∧
      (∃ (t12 : Int) (w3 : World), (Builtin.copy_ #[33, 33] 3 #[(.slice (some ⟨g7, 0, none⟩) (12) 12), (.slice a1a a1n a1c)]).run Tryz.prog w2 = .ok (.int .i64 t12) w3 ∧
        (∃ (t15 : Array Value), (Instr.loadAt 22 (.pointer (some ⟨g3, 0, none⟩))).run Tryz.prog w3 = .ok (.agg t15) w3 ∧
          (∃ (t16 : Array Value), (Instr.loadAt 187 (.pointer (some ⟨g7, 0, none⟩))).run Tryz.prog w3 = .ok (.agg t16) w3 ∧
            (Calls Tryz.prog 122 #[(.agg t15), (.agg t16), (.int .i64 0), (.slice a2a a2n a2c)] w3 fun (e18 : Ending) (w4 : World) => ∃ (t18_0a : Option Addr) (t18_0n : Nat) (t18_0c : Nat) (t18_1 : Value), e18 = .returned (.tuple #[(.slice t18_0a t18_0n t18_0c), t18_1]) ∧
              (R (.returned (.slice t18_0a t18_0n t18_0c)) w4)))))))) : Calls Tryz.prog 93 #[(.agg a0), (.slice a1a a1n a1c), (.slice a2a a2n a2c)] w R :=
  calls_of_ev (args := [(.agg a0), (.slice a1a a1n a1c), (.slice a2a a2n a2c)])
    (tc := .seq (.reg (.op .bx (.op .p (.nil)))) (.seq (.reg (.op .bx (.nil))) (.seq (.reg (.op .sl (.op .p (.op (.r (.int .i64)) (.nil))))) (.seq (.reg (.op .p (.op (.ld (.agg)) (.op (.ld (.agg)) (.op .p (.op (.cl [.slice, .val]) (.op .p (.op .p (.op .p (.op .p (.op .p (.nil)))))))))))) (.seq (.reg (.op .p (.op .p (.nil)))) (.leaf))))))
    (by kernel_rfl) Tryz.func93 (by kernel_rfl) (by kernel_rfl) (by kernel_rfl) (by kernel_rfl) h

set_option maxRecDepth 100000 in
theorem seal_Seal_vc (a0 : Array Value) (a1 : Int) (a2a : Option Addr) (a2n : Nat) (a2c : Nat) (a3a : Option Addr) (a3n : Nat) (a3c : Nat) (w : World) (R : Ending → World → Prop) (h :
  ∃ (g4 : Nat) (w1 : World), (Instr.box 28 (.agg a0)).run Tryz.prog w = .ok (.pointer (some ⟨g4, 0, none⟩)) w1 ∧
  (0 ≤ ((32 : Nat) : Int) ∧ ((32 : Nat) : Int) ≤ ((32 : Nat) : Int) ∧
    ((∃ (t17a : Option Addr) (t17n : Nat) (t17c : Nat) (w2 : World), (Instr.buildSlice 33 1 #[(0, (.int .u8 a1))]).run Tryz.prog w1.drew = .ok (.slice t17a t17n t17c) w2 ∧
        ((∃ (t20a : Option Addr) (t20n : Nat) (t20c : Nat) (w3 : World), (Instr.buildSlice 23 3 #[(0, (.slice t17a t17n t17c)), (1, (.slice a2a a2n a2c)), (2, (.slice a3a a3n a3c))]).run Tryz.prog w2 = .ok (.slice t20a t20n t20c) w3 ∧
            ((Calls Tryz.prog 121 #[(.slice t20a t20n t20c)] w3 fun (e21 : Ending) (w4 : World) => ∃ (t21a : Option Addr) (t21n : Nat) (t21c : Nat), e21 = .returned (.slice t21a t21n t21c) ∧
                ((∃ (t22a : Option Addr) (t22n : Nat) (t22c : Nat) (w5 : World), (Instr.buildSlice 23 1 #[(0, (.slice t21a t21n t21c))]).run Tryz.prog w4 = .ok (.slice t22a t22n t22c) w5 ∧
                    ((Calls Tryz.prog 120 #[(.slice (some ⟨g4, 64, none⟩) (32) 32), (.slice t22a t22n t22c)] w5 fun (e23 : Ending) (w6 : World) => ∃ (t23 : Array Value), e23 = .returned (.agg t23) ∧
                        (∃ (g9 : Nat) (w7 : World), (Instr.alloc 22 true (.tuple #[])).run Tryz.prog w6 = .ok (.pointer (some ⟨g9, 0, none⟩)) w7 ∧
                          (∃ w8 : World, (Instr.storeAt 22 (.pointer (some ⟨g9, 0, none⟩)) (.agg t23)).run Tryz.prog w7 = .ok () w8 ∧
                            (0 ≤ (12 : Int) ∧ (12 : Int) ≤ ((32 : Nat) : Int) ∧
                              (∃ (t25 : Array Value), (Instr.loadAt 28 (.pointer (some ⟨g4, 0, none⟩))).run Tryz.prog w8 = .ok (.agg t25) w8 ∧
                                (Calls Tryz.prog 93 #[(.agg t25), (.slice (some ⟨g9, 0, none⟩) 12 32), (.slice a3a a3n a3c)] w8 fun (e28 : Ending) (w9 : World) => ∃ (t28a : Option Addr) (t28n : Nat) (t28c : Nat), e28 = .returned (.slice t28a t28n t28c) ∧
                                  (∃ (t29 : Array Value), (Instr.loadAt 28 (.pointer (some ⟨g4, 0, none⟩))).run Tryz.prog w9 = .ok (.agg t29) w9 ∧
                                    (Calls Tryz.prog 91 #[(.agg t29), (.int .u8 a1), (.slice a2a a2n a2c), (.slice (some ⟨g9, 0, none⟩) 12 32), (.slice t28a t28n t28c)] w9 fun (e34 : Ending) (w10 : World) => ∃ (t34 : Array Value), e34 = .returned (.agg t34) ∧
                                      (∃ (g12 : Nat) (w11 : World), (Instr.alloc 22 true (.tuple #[])).run Tryz.prog w10 = .ok (.pointer (some ⟨g12, 0, none⟩)) w11 ∧
                                        (∃ w12 : World, (Instr.storeAt 22 (.pointer (some ⟨g12, 0, none⟩)) (.agg t34)).run Tryz.prog w11 = .ok () w12 ∧
                                          (∃ (t38a : Option Addr) (t38n : Nat) (t38c : Nat) (w13 : World), (Instr.makeSlice 33 (.int .i64 0) (.int .i64 (IntKind.wrap .i64 ((45 : Int) + ((a3n : Nat) : Int))))).run Tryz.prog w12 = .ok (.slice t38a t38n t38c) w13 ∧
                                            (∃ (t40a : Option Addr) (t40n : Nat) (t40c : Nat) (w14 : World), (Instr.buildSlice 33 1 #[(0, (.int .u8 a1))]).run Tryz.prog w13 = .ok (.slice t40a t40n t40c) w14 ∧
                                              (∃ (t41a : Option Addr) (t41n : Nat) (t41c : Nat) (w15 : World), (Builtin.append_ #[33, 33] 33 #[(.slice t38a t38n t38c), (.slice t40a t40n t40c)]).run Tryz.prog w14 = .ok (.slice t41a t41n t41c) w15 ∧
                                                (∃ (t44a : Option Addr) (t44n : Nat) (t44c : Nat) (w16 : World), (Builtin.append_ #[33, 33] 33 #[(.slice t41a t41n t41c), (.slice (some ⟨g9, 0, none⟩) 12 32)]).run Tryz.prog w15 = .ok (.slice t44a t44n t44c) w16 ∧
                                                  (∃ (t47a : Option Addr) (t47n : Nat) (t47c : Nat) (w17 : World), (Builtin.append_ #[33, 33] 33 #[(.slice t44a t44n t44c), (.slice t28a t28n t28c)]).run Tryz.prog w16 = .ok (.slice t47a t47n t47c) w17 ∧
                                                    (0 ≤ ((32 : Nat) : Int) ∧ ((32 : Nat) : Int) ≤ ((32 : Nat) : Int) ∧
                                                      (∃ (t50a : Option Addr) (t50n : Nat) (t50c : Nat) (w18 : World), (Builtin.append_ #[33, 33] 33 #[(.slice t47a t47n t47c), (.slice (some ⟨g12, 0, none⟩) (32) 32)]).run Tryz.prog w17 = .ok (.slice t50a t50n t50c) w18 ∧
                                                        (R (.returned (.slice t50a t50n t50c)) w18)))))))))))))))))) ∧
                      (∃ (g9 : Nat) (w19 : World), (Instr.alloc 22 true (.tuple #[])).run Tryz.prog w5 = .ok (.pointer (some ⟨g9, 0, none⟩)) w19 ∧
                        (Calls Tryz.prog 120 #[(.slice (some ⟨g4, 64, none⟩) (32) 32), (.slice t22a t22n t22c)] w19 fun (e23 : Ending) (w20 : World) => ∃ (t23 : Array Value), e23 = .returned (.agg t23) ∧
                          (∃ w21 : World, (Instr.storeAt 22 (.pointer (some ⟨g9, 0, none⟩)) (.agg t23)).run Tryz.prog w20 = .ok () w21 ∧
                            (0 ≤ (12 : Int) ∧ (12 : Int) ≤ ((32 : Nat) : Int) ∧
                              (∃ (t25 : Array Value), (Instr.loadAt 28 (.pointer (some ⟨g4, 0, none⟩))).run Tryz.prog w21 = .ok (.agg t25) w21 ∧
                                (Calls Tryz.prog 93 #[(.agg t25), (.slice (some ⟨g9, 0, none⟩) 12 32), (.slice a3a a3n a3c)] w21 fun (e28 : Ending) (w22 : World) => ∃ (t28a : Option Addr) (t28n : Nat) (t28c : Nat), e28 = .returned (.slice t28a t28n t28c) ∧
                                  (∃ (t29 : Array Value), (Instr.loadAt 28 (.pointer (some ⟨g4, 0, none⟩))).run Tryz.prog w22 = .ok (.agg t29) w22 ∧
                                    (Calls Tryz.prog 91 #[(.agg t29), (.int .u8 a1), (.slice a2a a2n a2c), (.slice (some ⟨g9, 0, none⟩) 12 32), (.slice t28a t28n t28c)] w22 fun (e34 : Ending) (w23 : World) => ∃ (t34 : Array Value), e34 = .returned (.agg t34) ∧
                                      (∃ (g12 : Nat) (w24 : World), (Instr.alloc 22 true (.tuple #[])).run Tryz.prog w23 = .ok (.pointer (some ⟨g12, 0, none⟩)) w24 ∧
                                        (∃ w25 : World, (Instr.storeAt 22 (.pointer (some ⟨g12, 0, none⟩)) (.agg t34)).run Tryz.prog w24 = .ok () w25 ∧
                                          (∃ (t38a : Option Addr) (t38n : Nat) (t38c : Nat) (w26 : World), (Instr.makeSlice 33 (.int .i64 0) (.int .i64 (IntKind.wrap .i64 ((45 : Int) + ((a3n : Nat) : Int))))).run Tryz.prog w25 = .ok (.slice t38a t38n t38c) w26 ∧
                                            (∃ (t40a : Option Addr) (t40n : Nat) (t40c : Nat) (w27 : World), (Instr.buildSlice 33 1 #[(0, (.int .u8 a1))]).run Tryz.prog w26 = .ok (.slice t40a t40n t40c) w27 ∧
                                              (∃ (t41a : Option Addr) (t41n : Nat) (t41c : Nat) (w28 : World), (Builtin.append_ #[33, 33] 33 #[(.slice t38a t38n t38c), (.slice t40a t40n t40c)]).run Tryz.prog w27 = .ok (.slice t41a t41n t41c) w28 ∧
                                                (∃ (t44a : Option Addr) (t44n : Nat) (t44c : Nat) (w29 : World), (Builtin.append_ #[33, 33] 33 #[(.slice t41a t41n t41c), (.slice (some ⟨g9, 0, none⟩) 12 32)]).run Tryz.prog w28 = .ok (.slice t44a t44n t44c) w29 ∧
                                                  (∃ (t47a : Option Addr) (t47n : Nat) (t47c : Nat) (w30 : World), (Builtin.append_ #[33, 33] 33 #[(.slice t44a t44n t44c), (.slice t28a t28n t28c)]).run Tryz.prog w29 = .ok (.slice t47a t47n t47c) w30 ∧
                                                    (0 ≤ ((32 : Nat) : Int) ∧ ((32 : Nat) : Int) ≤ ((32 : Nat) : Int) ∧
                                                      (∃ (t50a : Option Addr) (t50n : Nat) (t50c : Nat) (w31 : World), (Builtin.append_ #[33, 33] 33 #[(.slice t47a t47n t47c), (.slice (some ⟨g12, 0, none⟩) (32) 32)]).run Tryz.prog w30 = .ok (.slice t50a t50n t50c) w31 ∧
                                                        (R (.returned (.slice t50a t50n t50c)) w31)))))))))))))))))))) ∧
                  (∃ (g9 : Nat) (w32 : World), (Instr.alloc 22 true (.tuple #[])).run Tryz.prog w4 = .ok (.pointer (some ⟨g9, 0, none⟩)) w32 ∧
                    (∃ (t22a : Option Addr) (t22n : Nat) (t22c : Nat) (w33 : World), (Instr.buildSlice 23 1 #[(0, (.slice t21a t21n t21c))]).run Tryz.prog w32 = .ok (.slice t22a t22n t22c) w33 ∧
                      (Calls Tryz.prog 120 #[(.slice (some ⟨g4, 64, none⟩) (32) 32), (.slice t22a t22n t22c)] w33 fun (e23 : Ending) (w34 : World) => ∃ (t23 : Array Value), e23 = .returned (.agg t23) ∧
                        (∃ w35 : World, (Instr.storeAt 22 (.pointer (some ⟨g9, 0, none⟩)) (.agg t23)).run Tryz.prog w34 = .ok () w35 ∧
                          (0 ≤ (12 : Int) ∧ (12 : Int) ≤ ((32 : Nat) : Int) ∧
                            (∃ (t25 : Array Value), (Instr.loadAt 28 (.pointer (some ⟨g4, 0, none⟩))).run Tryz.prog w35 = .ok (.agg t25) w35 ∧
                              (Calls Tryz.prog 93 #[(.agg t25), (.slice (some ⟨g9, 0, none⟩) 12 32), (.slice a3a a3n a3c)] w35 fun (e28 : Ending) (w36 : World) => ∃ (t28a : Option Addr) (t28n : Nat) (t28c : Nat), e28 = .returned (.slice t28a t28n t28c) ∧
                                (∃ (t29 : Array Value), (Instr.loadAt 28 (.pointer (some ⟨g4, 0, none⟩))).run Tryz.prog w36 = .ok (.agg t29) w36 ∧
                                  (Calls Tryz.prog 91 #[(.agg t29), (.int .u8 a1), (.slice a2a a2n a2c), (.slice (some ⟨g9, 0, none⟩) 12 32), (.slice t28a t28n t28c)] w36 fun (e34 : Ending) (w37 : World) => ∃ (t34 : Array Value), e34 = .returned (.agg t34) ∧
                                    (∃ (g12 : Nat) (w38 : World), (Instr.alloc 22 true (.tuple #[])).run Tryz.prog w37 = .ok (.pointer (some ⟨g12, 0, none⟩)) w38 ∧
                                      (∃ w39 : World, (Instr.storeAt 22 (.pointer (some ⟨g12, 0, none⟩)) (.agg t34)).run Tryz.prog w38 = .ok () w39 ∧
                                        (∃ (t38a : Option Addr) (t38n : Nat) (t38c : Nat) (w40 : World), (Instr.makeSlice 33 (.int .i64 0) (.int .i64 (IntKind.wrap .i64 ((45 : Int) + ((a3n : Nat) : Int))))).run Tryz.prog w39 = .ok (.slice t38a t38n t38c) w40 ∧
                                          (∃ (t40a : Option Addr) (t40n : Nat) (t40c : Nat) (w41 : World), (Instr.buildSlice 33 1 #[(0, (.int .u8 a1))]).run Tryz.prog w40 = .ok (.slice t40a t40n t40c) w41 ∧
                                            (∃ (t41a : Option Addr) (t41n : Nat) (t41c : Nat) (w42 : World), (Builtin.append_ #[33, 33] 33 #[(.slice t38a t38n t38c), (.slice t40a t40n t40c)]).run Tryz.prog w41 = .ok (.slice t41a t41n t41c) w42 ∧
                                              (∃ (t44a : Option Addr) (t44n : Nat) (t44c : Nat) (w43 : World), (Builtin.append_ #[33, 33] 33 #[(.slice t41a t41n t41c), (.slice (some ⟨g9, 0, none⟩) 12 32)]).run Tryz.prog w42 = .ok (.slice t44a t44n t44c) w43 ∧
                                                (∃ (t47a : Option Addr) (t47n : Nat) (t47c : Nat) (w44 : World), (Builtin.append_ #[33, 33] 33 #[(.slice t44a t44n t44c), (.slice t28a t28n t28c)]).run Tryz.prog w43 = .ok (.slice t47a t47n t47c) w44 ∧
                                                  (0 ≤ ((32 : Nat) : Int) ∧ ((32 : Nat) : Int) ≤ ((32 : Nat) : Int) ∧
                                                    (∃ (t50a : Option Addr) (t50n : Nat) (t50c : Nat) (w45 : World), (Builtin.append_ #[33, 33] 33 #[(.slice t47a t47n t47c), (.slice (some ⟨g12, 0, none⟩) (32) 32)]).run Tryz.prog w44 = .ok (.slice t50a t50n t50c) w45 ∧
                                                      (R (.returned (.slice t50a t50n t50c)) w45))))))))))))))))))))) ∧
              (∃ (g9 : Nat) (w46 : World), (Instr.alloc 22 true (.tuple #[])).run Tryz.prog w3 = .ok (.pointer (some ⟨g9, 0, none⟩)) w46 ∧
                (Calls Tryz.prog 121 #[(.slice t20a t20n t20c)] w46 fun (e21 : Ending) (w47 : World) => ∃ (t21a : Option Addr) (t21n : Nat) (t21c : Nat), e21 = .returned (.slice t21a t21n t21c) ∧
                  (∃ (t22a : Option Addr) (t22n : Nat) (t22c : Nat) (w48 : World), (Instr.buildSlice 23 1 #[(0, (.slice t21a t21n t21c))]).run Tryz.prog w47 = .ok (.slice t22a t22n t22c) w48 ∧
                    (Calls Tryz.prog 120 #[(.slice (some ⟨g4, 64, none⟩) (32) 32), (.slice t22a t22n t22c)] w48 fun (e23 : Ending) (w49 : World) => ∃ (t23 : Array Value), e23 = .returned (.agg t23) ∧
                      (∃ w50 : World, (Instr.storeAt 22 (.pointer (some ⟨g9, 0, none⟩)) (.agg t23)).run Tryz.prog w49 = .ok () w50 ∧
                        (0 ≤ (12 : Int) ∧ (12 : Int) ≤ ((32 : Nat) : Int) ∧
                          (∃ (t25 : Array Value), (Instr.loadAt 28 (.pointer (some ⟨g4, 0, none⟩))).run Tryz.prog w50 = .ok (.agg t25) w50 ∧
                            (Calls Tryz.prog 93 #[(.agg t25), (.slice (some ⟨g9, 0, none⟩) 12 32), (.slice a3a a3n a3c)] w50 fun (e28 : Ending) (w51 : World) => ∃ (t28a : Option Addr) (t28n : Nat) (t28c : Nat), e28 = .returned (.slice t28a t28n t28c) ∧
                              (∃ (t29 : Array Value), (Instr.loadAt 28 (.pointer (some ⟨g4, 0, none⟩))).run Tryz.prog w51 = .ok (.agg t29) w51 ∧
                                (Calls Tryz.prog 91 #[(.agg t29), (.int .u8 a1), (.slice a2a a2n a2c), (.slice (some ⟨g9, 0, none⟩) 12 32), (.slice t28a t28n t28c)] w51 fun (e34 : Ending) (w52 : World) => ∃ (t34 : Array Value), e34 = .returned (.agg t34) ∧
                                  (∃ (g12 : Nat) (w53 : World), (Instr.alloc 22 true (.tuple #[])).run Tryz.prog w52 = .ok (.pointer (some ⟨g12, 0, none⟩)) w53 ∧
                                    (∃ w54 : World, (Instr.storeAt 22 (.pointer (some ⟨g12, 0, none⟩)) (.agg t34)).run Tryz.prog w53 = .ok () w54 ∧
                                      (∃ (t38a : Option Addr) (t38n : Nat) (t38c : Nat) (w55 : World), (Instr.makeSlice 33 (.int .i64 0) (.int .i64 (IntKind.wrap .i64 ((45 : Int) + ((a3n : Nat) : Int))))).run Tryz.prog w54 = .ok (.slice t38a t38n t38c) w55 ∧
                                        (∃ (t40a : Option Addr) (t40n : Nat) (t40c : Nat) (w56 : World), (Instr.buildSlice 33 1 #[(0, (.int .u8 a1))]).run Tryz.prog w55 = .ok (.slice t40a t40n t40c) w56 ∧
                                          (∃ (t41a : Option Addr) (t41n : Nat) (t41c : Nat) (w57 : World), (Builtin.append_ #[33, 33] 33 #[(.slice t38a t38n t38c), (.slice t40a t40n t40c)]).run Tryz.prog w56 = .ok (.slice t41a t41n t41c) w57 ∧
                                            (∃ (t44a : Option Addr) (t44n : Nat) (t44c : Nat) (w58 : World), (Builtin.append_ #[33, 33] 33 #[(.slice t41a t41n t41c), (.slice (some ⟨g9, 0, none⟩) 12 32)]).run Tryz.prog w57 = .ok (.slice t44a t44n t44c) w58 ∧
                                              (∃ (t47a : Option Addr) (t47n : Nat) (t47c : Nat) (w59 : World), (Builtin.append_ #[33, 33] 33 #[(.slice t44a t44n t44c), (.slice t28a t28n t28c)]).run Tryz.prog w58 = .ok (.slice t47a t47n t47c) w59 ∧
                                                (0 ≤ ((32 : Nat) : Int) ∧ ((32 : Nat) : Int) ≤ ((32 : Nat) : Int) ∧
                                                  (∃ (t50a : Option Addr) (t50n : Nat) (t50c : Nat) (w60 : World), (Builtin.append_ #[33, 33] 33 #[(.slice t47a t47n t47c), (.slice (some ⟨g12, 0, none⟩) (32) 32)]).run Tryz.prog w59 = .ok (.slice t50a t50n t50c) w60 ∧
                                                    (R (.returned (.slice t50a t50n t50c)) w60)))))))))))))))))))))) ∧
          (∃ (g9 : Nat) (w61 : World), (Instr.alloc 22 true (.tuple #[])).run Tryz.prog w2 = .ok (.pointer (some ⟨g9, 0, none⟩)) w61 ∧
            (∃ (t20a : Option Addr) (t20n : Nat) (t20c : Nat) (w62 : World), (Instr.buildSlice 23 3 #[(0, (.slice t17a t17n t17c)), (1, (.slice a2a a2n a2c)), (2, (.slice a3a a3n a3c))]).run Tryz.prog w61 = .ok (.slice t20a t20n t20c) w62 ∧
              (Calls Tryz.prog 121 #[(.slice t20a t20n t20c)] w62 fun (e21 : Ending) (w63 : World) => ∃ (t21a : Option Addr) (t21n : Nat) (t21c : Nat), e21 = .returned (.slice t21a t21n t21c) ∧
                (∃ (t22a : Option Addr) (t22n : Nat) (t22c : Nat) (w64 : World), (Instr.buildSlice 23 1 #[(0, (.slice t21a t21n t21c))]).run Tryz.prog w63 = .ok (.slice t22a t22n t22c) w64 ∧
                  (Calls Tryz.prog 120 #[(.slice (some ⟨g4, 64, none⟩) (32) 32), (.slice t22a t22n t22c)] w64 fun (e23 : Ending) (w65 : World) => ∃ (t23 : Array Value), e23 = .returned (.agg t23) ∧
                    (∃ w66 : World, (Instr.storeAt 22 (.pointer (some ⟨g9, 0, none⟩)) (.agg t23)).run Tryz.prog w65 = .ok () w66 ∧
                      (0 ≤ (12 : Int) ∧ (12 : Int) ≤ ((32 : Nat) : Int) ∧
                        (∃ (t25 : Array Value), (Instr.loadAt 28 (.pointer (some ⟨g4, 0, none⟩))).run Tryz.prog w66 = .ok (.agg t25) w66 ∧
                          (Calls Tryz.prog 93 #[(.agg t25), (.slice (some ⟨g9, 0, none⟩) 12 32), (.slice a3a a3n a3c)] w66 fun (e28 : Ending) (w67 : World) => ∃ (t28a : Option Addr) (t28n : Nat) (t28c : Nat), e28 = .returned (.slice t28a t28n t28c) ∧
                            (∃ (t29 : Array Value), (Instr.loadAt 28 (.pointer (some ⟨g4, 0, none⟩))).run Tryz.prog w67 = .ok (.agg t29) w67 ∧
                              (Calls Tryz.prog 91 #[(.agg t29), (.int .u8 a1), (.slice a2a a2n a2c), (.slice (some ⟨g9, 0, none⟩) 12 32), (.slice t28a t28n t28c)] w67 fun (e34 : Ending) (w68 : World) => ∃ (t34 : Array Value), e34 = .returned (.agg t34) ∧
                                (∃ (g12 : Nat) (w69 : World), (Instr.alloc 22 true (.tuple #[])).run Tryz.prog w68 = .ok (.pointer (some ⟨g12, 0, none⟩)) w69 ∧
                                  (∃ w70 : World, (Instr.storeAt 22 (.pointer (some ⟨g12, 0, none⟩)) (.agg t34)).run Tryz.prog w69 = .ok () w70 ∧
                                    (∃ (t38a : Option Addr) (t38n : Nat) (t38c : Nat) (w71 : World), (Instr.makeSlice 33 (.int .i64 0) (.int .i64 (IntKind.wrap .i64 ((45 : Int) + ((a3n : Nat) : Int))))).run Tryz.prog w70 = .ok (.slice t38a t38n t38c) w71 ∧
                                      (∃ (t40a : Option Addr) (t40n : Nat) (t40c : Nat) (w72 : World), (Instr.buildSlice 33 1 #[(0, (.int .u8 a1))]).run Tryz.prog w71 = .ok (.slice t40a t40n t40c) w72 ∧
                                        (∃ (t41a : Option Addr) (t41n : Nat) (t41c : Nat) (w73 : World), (Builtin.append_ #[33, 33] 33 #[(.slice t38a t38n t38c), (.slice t40a t40n t40c)]).run Tryz.prog w72 = .ok (.slice t41a t41n t41c) w73 ∧
                                          (∃ (t44a : Option Addr) (t44n : Nat) (t44c : Nat) (w74 : World), (Builtin.append_ #[33, 33] 33 #[(.slice t41a t41n t41c), (.slice (some ⟨g9, 0, none⟩) 12 32)]).run Tryz.prog w73 = .ok (.slice t44a t44n t44c) w74 ∧
                                            (∃ (t47a : Option Addr) (t47n : Nat) (t47c : Nat) (w75 : World), (Builtin.append_ #[33, 33] 33 #[(.slice t44a t44n t44c), (.slice t28a t28n t28c)]).run Tryz.prog w74 = .ok (.slice t47a t47n t47c) w75 ∧
                                              (0 ≤ ((32 : Nat) : Int) ∧ ((32 : Nat) : Int) ≤ ((32 : Nat) : Int) ∧
                                                (∃ (t50a : Option Addr) (t50n : Nat) (t50c : Nat) (w76 : World), (Builtin.append_ #[33, 33] 33 #[(.slice t47a t47n t47c), (.slice (some ⟨g12, 0, none⟩) (32) 32)]).run Tryz.prog w75 = .ok (.slice t50a t50n t50c) w76 ∧
                                                  (R (.returned (.slice t50a t50n t50c)) w76))))))))))))))))))))))) ∧
      (∃ (g9 : Nat) (w77 : World), (Instr.alloc 22 true (.tuple #[])).run Tryz.prog w1.drew = .ok (.pointer (some ⟨g9, 0, none⟩)) w77 ∧
        (∃ (t17a : Option Addr) (t17n : Nat) (t17c : Nat) (w78 : World), (Instr.buildSlice 33 1 #[(0, (.int .u8 a1))]).run Tryz.prog w77 = .ok (.slice t17a t17n t17c) w78 ∧
          (∃ (t20a : Option Addr) (t20n : Nat) (t20c : Nat) (w79 : World), (Instr.buildSlice 23 3 #[(0, (.slice t17a t17n t17c)), (1, (.slice a2a a2n a2c)), (2, (.slice a3a a3n a3c))]).run Tryz.prog w78 = .ok (.slice t20a t20n t20c) w79 ∧
            (Calls Tryz.prog 121 #[(.slice t20a t20n t20c)] w79 fun (e21 : Ending) (w80 : World) => ∃ (t21a : Option Addr) (t21n : Nat) (t21c : Nat), e21 = .returned (.slice t21a t21n t21c) ∧
              (∃ (t22a : Option Addr) (t22n : Nat) (t22c : Nat) (w81 : World), (Instr.buildSlice 23 1 #[(0, (.slice t21a t21n t21c))]).run Tryz.prog w80 = .ok (.slice t22a t22n t22c) w81 ∧
                (Calls Tryz.prog 120 #[(.slice (some ⟨g4, 64, none⟩) (32) 32), (.slice t22a t22n t22c)] w81 fun (e23 : Ending) (w82 : World) => ∃ (t23 : Array Value), e23 = .returned (.agg t23) ∧
                  (∃ w83 : World, (Instr.storeAt 22 (.pointer (some ⟨g9, 0, none⟩)) (.agg t23)).run Tryz.prog w82 = .ok () w83 ∧
                    (0 ≤ (12 : Int) ∧ (12 : Int) ≤ ((32 : Nat) : Int) ∧
                      (∃ (t25 : Array Value), (Instr.loadAt 28 (.pointer (some ⟨g4, 0, none⟩))).run Tryz.prog w83 = .ok (.agg t25) w83 ∧
                        (Calls Tryz.prog 93 #[(.agg t25), (.slice (some ⟨g9, 0, none⟩) 12 32), (.slice a3a a3n a3c)] w83 fun (e28 : Ending) (w84 : World) => ∃ (t28a : Option Addr) (t28n : Nat) (t28c : Nat), e28 = .returned (.slice t28a t28n t28c) ∧
                          (∃ (t29 : Array Value), (Instr.loadAt 28 (.pointer (some ⟨g4, 0, none⟩))).run Tryz.prog w84 = .ok (.agg t29) w84 ∧
                            (Calls Tryz.prog 91 #[(.agg t29), (.int .u8 a1), (.slice a2a a2n a2c), (.slice (some ⟨g9, 0, none⟩) 12 32), (.slice t28a t28n t28c)] w84 fun (e34 : Ending) (w85 : World) => ∃ (t34 : Array Value), e34 = .returned (.agg t34) ∧
                              (∃ (g12 : Nat) (w86 : World), (Instr.alloc 22 true (.tuple #[])).run Tryz.prog w85 = .ok (.pointer (some ⟨g12, 0, none⟩)) w86 ∧
                                (∃ w87 : World, (Instr.storeAt 22 (.pointer (some ⟨g12, 0, none⟩)) (.agg t34)).run Tryz.prog w86 = .ok () w87 ∧
                                  (∃ (t38a : Option Addr) (t38n : Nat) (t38c : Nat) (w88 : World), (Instr.makeSlice 33 (.int .i64 0) (.int .i64 (IntKind.wrap .i64 ((45 : Int) + ((a3n : Nat) : Int))))).run Tryz.prog w87 = .ok (.slice t38a t38n t38c) w88 ∧
                                    (∃ (t40a : Option Addr) (t40n : Nat) (t40c : Nat) (w89 : World), (Instr.buildSlice 33 1 #[(0, (.int .u8 a1))]).run Tryz.prog w88 = .ok (.slice t40a t40n t40c) w89 ∧
                                      (∃ (t41a : Option Addr) (t41n : Nat) (t41c : Nat) (w90 : World), (Builtin.append_ #[33, 33] 33 #[(.slice t38a t38n t38c), (.slice t40a t40n t40c)]).run Tryz.prog w89 = .ok (.slice t41a t41n t41c) w90 ∧
                                        (∃ (t44a : Option Addr) (t44n : Nat) (t44c : Nat) (w91 : World), (Builtin.append_ #[33, 33] 33 #[(.slice t41a t41n t41c), (.slice (some ⟨g9, 0, none⟩) 12 32)]).run Tryz.prog w90 = .ok (.slice t44a t44n t44c) w91 ∧
                                          (∃ (t47a : Option Addr) (t47n : Nat) (t47c : Nat) (w92 : World), (Builtin.append_ #[33, 33] 33 #[(.slice t44a t44n t44c), (.slice t28a t28n t28c)]).run Tryz.prog w91 = .ok (.slice t47a t47n t47c) w92 ∧
                                            (0 ≤ ((32 : Nat) : Int) ∧ ((32 : Nat) : Int) ≤ ((32 : Nat) : Int) ∧
                                              (∃ (t50a : Option Addr) (t50n : Nat) (t50c : Nat) (w93 : World), (Builtin.append_ #[33, 33] 33 #[(.slice t47a t47n t47c), (.slice (some ⟨g12, 0, none⟩) (32) 32)]).run Tryz.prog w92 = .ok (.slice t50a t50n t50c) w93 ∧
                                                (R (.returned (.slice t50a t50n t50c)) w93))))))))))))))))))))))))) : Calls Tryz.prog 104 #[(.agg a0), (.int .u8 a1), (.slice a2a a2n a2c), (.slice a3a a3n a3c)] w R :=
  calls_of_ev (args := [(.agg a0), (.int .u8 a1), (.slice a2a a2n a2c), (.slice a3a a3n a3c)])
    (tc := .seq (.reg (.op .bx (.op .p (.nil)))) (.seq (.draw (.tk 0 .p (.tk 1 .sl (.tk 2 .p (.tk 4 .p (.tk 5 .p (.two 3 (.r (.slice)) (.two 6 (.r (.slice)) (.two 7 (.cl [.slice]) (.two 8 (.r (.slice)) (.two 9 (.cl [.agg]) (.go 10 .bx (.go 11 .u (.nil))) 10 .bx (.go 9 (.cl [.agg]) (.go 11 .u (.nil)))) 10 .bx (.go 8 (.r (.slice)) (.go 9 (.cl [.agg]) (.go 11 .u (.nil))))) 10 .bx (.go 7 (.cl [.slice]) (.go 8 (.r (.slice)) (.go 9 (.cl [.agg]) (.go 11 .u (.nil)))))) 10 .bx (.go 6 (.r (.slice)) (.go 7 (.cl [.slice]) (.go 8 (.r (.slice)) (.go 9 (.cl [.agg]) (.go 11 .u (.nil))))))) 10 .bx (.go 3 (.r (.slice)) (.go 6 (.r (.slice)) (.go 7 (.cl [.slice]) (.go 8 (.r (.slice)) (.go 9 (.cl [.agg]) (.go 11 .u (.nil))))))))))))) [0, 1, 2, 3, 4, 5, 6, 7, 8, 9, 10, 11]) (.seq (.reg (.op .sl (.op .p (.nil)))) (.seq (.reg (.op (.ld (.agg)) (.op .p (.op .p (.op (.cl [.slice]) (.op .p (.nil))))))) (.seq (.reg (.op (.ld (.agg)) (.op .p (.op .p (.op .p (.op .p (.op (.cl [.agg]) (.op .bx (.op .u (.nil)))))))))) (.seq (.reg (.op .p (.op .p (.op .p (.op (.r (.slice)) (.op .p (.op (.r (.slice)) (.op (.r (.slice)) (.op .p (.nil)))))))))) (.seq (.reg (.op .p (.op .p (.op (.r (.slice)) (.op .p (.nil)))))) (.seq (.reg (.op .p (.op .p (.op (.r (.slice)) (.op .p (.nil)))))) (.seq (.reg (.op .p (.op .sl (.op (.r (.slice)) (.op .p (.nil)))))) (.leaf))))))))))
    (by kernel_rfl) Tryz.func104 (by kernel_rfl) (by kernel_rfl) (by kernel_rfl) (by kernel_rfl) h

set_option maxRecDepth 100000 in
theorem seal_Open_vc (a0 : Array Value) (a1 : Int) (a2a : Option Addr) (a2n : Nat) (a2c : Nat) (a3a : Option Addr) (a3n : Nat) (a3c : Nat) (w : World) (R : Ending → World → Prop) (h :
  ∃ (g4 : Nat) (w1 : World), (Instr.box 28 (.agg a0)).run Tryz.prog w = .ok (.pointer (some ⟨g4, 0, none⟩)) w1 ∧
  (∃ J : Bool → World → Prop, (((decide (((a3n : Nat) : Int) < (45 : Int))) = true →
        (J true w1)) ∧
      ((decide (((a3n : Nat) : Int) < (45 : Int))) = false →
        (∃ (t19b t19o : Nat), a3a = some ⟨t19b, t19o, none⟩ ∧ 0 ≤ (0 : Int) ∧ (0 : Int) < ((a3n : Nat) : Int) ∧
          (∃ (t20 : Int), (Instr.loadAt 5 (.pointer (some ⟨t19b, t19o + Int.toNat (0 : Int) * 1, none⟩))).run Tryz.prog w1 = .ok (.int .u8 t20) w1 ∧
            (J (t20 != a1) w1))))) ∧
    (∀ (x23 : Bool), ∀ w2 : World, J x23 w2 →
      ((x23 = true →
          (R (.returned (.tuple #[(.slice none 0 0), (.iface 69 (.int .i64 10))])) w2)) ∧
        (x23 = false →
          (0 ≤ (1 : Int) ∧ (1 : Int) ≤ (13 : Int) ∧ (13 : Int) ≤ ((a3c : Nat) : Int) ∧ ∀ t29a : Option Addr, SubA 1 a3a 1 a3c t29a →
            (0 ≤ (13 : Int) ∧ (13 : Int) ≤ (IntKind.wrap .i64 (((a3n : Nat) : Int) - (32 : Int))) ∧ (IntKind.wrap .i64 (((a3n : Nat) : Int) - (32 : Int))) ≤ ((a3c : Nat) : Int) ∧ ∀ t32a : Option Addr, SubA 1 a3a 13 a3c t32a →
              (∃ (t33 : Array Value), (Instr.loadAt 28 (.pointer (some ⟨g4, 0, none⟩))).run Tryz.prog w2.drew = .ok (.agg t33) w2.drew ∧
                (Calls Tryz.prog 91 #[(.agg t33), (.int .u8 a1), (.slice a2a a2n a2c), (.slice t29a 12 (a3c - 1)), (.slice t32a ((Int.toNat (IntKind.wrap .i64 (((a3n : Nat) : Int) - (32 : Int)))) - 13) (a3c - 13))] w2.drew fun (e38 : Ending) (w3 : World) => ∃ (t38 : Array Value), e38 = .returned (.agg t38) ∧
                  (∃ (g13 : Nat) (w4 : World), (Instr.alloc 22 true (.tuple #[])).run Tryz.prog w3 = .ok (.pointer (some ⟨g13, 0, none⟩)) w4 ∧
                    (∃ w5 : World, (Instr.storeAt 22 (.pointer (some ⟨g13, 0, none⟩)) (.agg t38)).run Tryz.prog w4 = .ok () w5 ∧
                      (0 ≤ ((32 : Nat) : Int) ∧ ((32 : Nat) : Int) ≤ ((32 : Nat) : Int) ∧
                        (0 ≤ (IntKind.wrap .i64 (((a3n : Nat) : Int) - (32 : Int))) ∧ (IntKind.wrap .i64 (((a3n : Nat) : Int) - (32 : Int))) ≤ ((a3n : Nat) : Int) ∧ ((a3n : Nat) : Int) ≤ ((a3c : Nat) : Int) ∧ ∀ t42a : Option Addr, SubA 1 a3a (Int.toNat (IntKind.wrap .i64 (((a3n : Nat) : Int) - (32 : Int)))) a3c t42a →
                          (Calls Tryz.prog 92 #[(.slice (some ⟨g13, 0, none⟩) (32) 32), (.slice t42a ((a3n) - (Int.toNat (IntKind.wrap .i64 (((a3n : Nat) : Int) - (32 : Int))))) (a3c - (Int.toNat (IntKind.wrap .i64 (((a3n : Nat) : Int) - (32 : Int))))))] w5.drew fun (e43 : Ending) (w6 : World) => ∃ (t43 : Bool), e43 = .returned (.bool t43) ∧
                            (((!t43) = true →
                                (R (.returned (.tuple #[(.slice none 0 0), (.iface 69 (.int .i64 10))])) w6)) ∧
                              ((!t43) = false →
                                (∃ (t46 : Array Value), (Instr.loadAt 28 (.pointer (some ⟨g4, 0, none⟩))).run Tryz.prog w6 = .ok (.agg t46) w6 ∧
                                  (Calls Tryz.prog 93 #[(.agg t46), (.slice t29a 12 (a3c - 1)), (.slice t32a ((Int.toNat (IntKind.wrap .i64 (((a3n : Nat) : Int) - (32 : Int)))) - 13) (a3c - 13))] w6 fun (e49 : Ending) (w7 : World) => ∃ (t49a : Option Addr) (t49n : Nat) (t49c : Nat), e49 = .returned (.slice t49a t49n t49c) ∧
                                    (R (.returned (.tuple #[(.slice t49a t49n t49c), .nilIface])) w7))))))))))))))))))) : Calls Tryz.prog 57 #[(.agg a0), (.int .u8 a1), (.slice a2a a2n a2c), (.slice a3a a3n a3c)] w R :=
  calls_of_ev (args := [(.agg a0), (.int .u8 a1), (.slice a2a a2n a2c), (.slice a3a a3n a3c)])
    (tc := .seq (.reg (.op .bx (.op .p (.op .p (.nil))))) (.seq (.seq (.join [14, 15, 16, 17, 18, 19, 20, 21, 22, 23] [23] [.bool] (.reg (.op .p (.op .p (.op .p (.op .p (.sp 17 (.op .p (.op .p (.op .p (.op .p (.op .p (.op .p (.nil))))))) (.op .p (.op .ix (.op (.ld (.int .u8)) (.op .p (.op .p (.op .p (.nil)))))))))))))) (.cond (.seq (.reg (.op .p (.op .p (.op .p (.nil))))) (.leaf)) (.leaf))) (.seq (.reg (.op .p (.op .p (.op .p (.op .p (.nil)))))) (.seq (.draw (.tk 0 .p (.tk 1 .sl (.tk 2 .p (.tk 3 .p (.tk 4 .sl (.tk 5 .p (.tk 6 .p (.nil)))))))) [0, 1, 2, 3, 4, 5, 6]) (.seq (.reg (.op (.ld (.agg)) (.op .p (.op .p (.op .p (.op .p (.op (.cl [.agg]) (.op .bx (.op .u (.nil)))))))))) (.seq (.seq (.draw (.tk 0 .sl (.tk 1 .p (.tk 2 .p (.tk 3 .sl (.go 4 (.cl [.bool]) (.tk 5 .p (.nil))))))) [0, 1, 2, 3, 4, 5]) (.cond (.seq (.reg (.op .p (.op .p (.op .p (.nil))))) (.leaf)) (.leaf))) (.seq (.reg (.op (.ld (.agg)) (.op .p (.op .p (.op (.cl [.slice]) (.op .p (.op .p (.nil)))))))) (.leaf))))))))
    (by kernel_rfl) Tryz.func57 (by kernel_rfl) (by kernel_rfl) (by kernel_rfl) (by kernel_rfl) h

set_option maxRecDepth 100000 in
theorem amphoraref05_derived_vc (a0a : Option Addr) (a0n : Nat) (a0c : Nat) (a1a : Option Addr) (a1n : Nat) (a1c : Nat) (a2 : ByteArray) (w : World) (R : Ending → World → Prop) (h :
  ∃ (g6 : Nat) (w1 : World), (Instr.alloc 22 true (.tuple #[])).run Tryz.prog w = .ok (.pointer (some ⟨g6, 0, none⟩)) w1 ∧
  (∃ (t11 : Array Value), (Instr.build 22 #[]).run Tryz.prog w1 = .ok (.agg t11) w1 ∧
    (∃ (g7 : Nat) (w2 : World), (Instr.alloc 22 true (.tuple #[])).run Tryz.prog w1 = .ok (.pointer (some ⟨g7, 0, none⟩)) w2 ∧
      (∃ w3 : World, (Instr.storeAt 22 (.pointer (some ⟨g7, 0, none⟩)) (.agg t11)).run Tryz.prog w2 = .ok () w3 ∧
        (∃ (t16a : Option Addr) (t16n : Nat) (t16c : Nat) (w4 : World), (convert 9 33 (.string a2)).run Tryz.prog w3 = .ok (.slice t16a t16n t16c) w4 ∧
          (Calls Tryz.prog 69 #[(.slice a0a a0n a0c), (.slice a1a a1n a1c), (.slice t16a t16n t16c), (.int .i64 32)] w4 fun (e17 : Ending) (w5 : World) => ∃ (t17_0a : Option Addr) (t17_0n : Nat) (t17_0c : Nat) (t17_1 : Int), e17 = .returned (.tuple #[(.slice t17_0a t17_0n t17_0c), (.int .i64 t17_1)]) ∧
            (∃ (I : Int → World → Prop) (μ : Int → World → Nat), I 0 w5 ∧
              (∀ (x10 : Int), ∀ w6 : World, I x10 w6 →
                (((decide (x10 < (32 : Int))) = true →
                    (∃ (t27b t27o : Nat), t17_0a = some ⟨t27b, t27o, none⟩ ∧ 0 ≤ x10 ∧ x10 < ((t17_0n : Nat) : Int) ∧
                      (∃ (t28 : Int), (Instr.loadAt 5 (.pointer (some ⟨t27b, t27o + Int.toNat x10 * 1, none⟩))).run Tryz.prog w6 = .ok (.int .u8 t28) w6 ∧
                        (0 ≤ x10 ∧ x10 < (32 : Int) ∧
                          (∃ w7 : World, (Instr.storeAt 5 (.pointer (some ⟨g7, 0 + Int.toNat x10 * 1, none⟩)) (.int .u8 t28)).run Tryz.prog w6 = .ok () w7 ∧
                            (I (IntKind.wrap .i64 (x10 + (1 : Int))) w7 ∧ μ (IntKind.wrap .i64 (x10 + (1 : Int))) w7 < μ x10 w6)))))) ∧
                  ((decide (x10 < (32 : Int))) = false →
                    (∃ (t30 : Array Value), (Instr.loadAt 22 (.pointer (some ⟨g7, 0, none⟩))).run Tryz.prog w6 = .ok (.agg t30) w6 ∧
                      (∃ w8 : World, (Instr.storeAt 22 (.pointer (some ⟨g6, 0, none⟩)) (.agg t30)).run Tryz.prog w6 = .ok () w8 ∧
                        (∃ r6 : Value, (loadVar 22 ⟨g6, 0, none⟩).run Tryz.prog w8 = .ok r6 w8 ∧
                          (R (.returned r6) w8)))))))))))))) : Calls Tryz.prog 37 #[(.slice a0a a0n a0c), (.slice a1a a1n a1c), (.string a2)] w R :=
  calls_of_ev (args := [(.slice a0a a0n a0c), (.slice a1a a1n a1c), (.string a2)])
    (tc := .seq (.reg (.op .bx (.nil))) (.seq (.reg (.op (.ld (.agg)) (.op .bx (.op .u (.nil))))) (.seq (.reg (.op .p (.op .p (.op .p (.op (.r (.slice)) (.op (.cl [.slice, .int .i64]) (.op .p (.op .p (.op .p (.op .p (.op .p (.nil)))))))))))) (.seq (.seq (.reg (.op .p (.nil))) (.blk (.loop [10, 20, 21, 22, 23, 24, 25, 26, 27, 28, 29] [10] [.int .i64] (.seq (.seq (.reg (.op .p (.op .p (.nil)))) (.cond (.leaf) (.leaf))) (.seq (.blk (.reg (.op .p (.op .p (.op .p (.op .ix (.op (.ld (.int .u8)) (.op .ix (.op .u (.nil)))))))))) (.reg (.op .p (.op .p (.op .p (.nil)))))))))) (.seq (.reg (.op (.ld (.agg)) (.op .u (.nil)))) (.leaf))))))
    (by kernel_rfl) Tryz.func37 (by kernel_rfl) (by kernel_rfl) (by kernel_rfl) (by kernel_rfl) h

set_option maxRecDepth 100000 in
theorem amphoraref05_FromMaster_vc (a0 : Array Value) (w : World) (R : Ending → World → Prop) (h :
  ∃ (g1 : Nat) (w1 : World), (Instr.box 22 (.agg a0)).run Tryz.prog w = .ok (.pointer (some ⟨g1, 0, none⟩)) w1 ∧
  (∃ (g2 : Nat) (w2 : World), (Instr.alloc 28 true (.tuple #[])).run Tryz.prog w1 = .ok (.pointer (some ⟨g2, 0, none⟩)) w2 ∧
    (∃ (t4a : Option Addr) (t4n : Nat) (t4c : Nat) (w3 : World), (Instr.buildSlice 33 7 #[(0, (.int .u8 97)), (1, (.int .u8 109)), (2, (.int .u8 112)), (3, (.int .u8 104)), (4, (.int .u8 111)), (5, (.int .u8 114)), (6, (.int .u8 97))]).run Tryz.prog w2 = .ok (.slice t4a t4n t4c) w3 ∧
      (∃ (t5a : Option Addr) (t5n : Nat) (t5c : Nat) (w4 : World), (convert 33 33 (.slice t4a t4n t4c)).run Tryz.prog w3 = .ok (.slice t5a t5n t5c) w4 ∧
        (∃ S : World → Prop, S w4.drew ∧
          (0 ≤ ((32 : Nat) : Int) ∧ ((32 : Nat) : Int) ≤ ((32 : Nat) : Int) ∧
            (0 ≤ ((32 : Nat) : Int) ∧ ((32 : Nat) : Int) ≤ ((32 : Nat) : Int) ∧
              (0 ≤ ((32 : Nat) : Int) ∧ ((32 : Nat) : Int) ≤ ((32 : Nat) : Int) ∧
                (Calls Tryz.prog 37 #[(.slice t5a t5n t5c), (.slice (some ⟨g1, 0, none⟩) (32) 32), (.string (ByteArray.mk #[99, 105, 112, 104, 101, 114]))] w4.drew fun (e8 : Ending) (w5 : World) => ∃ (t8 : Array Value), e8 = .returned (.agg t8) ∧
                  (∃ S_1 : World → Prop, (∀ w' : World, S_1 w' → S w') ∧ S_1 w5 ∧
                    (Calls Tryz.prog 37 #[(.slice t5a t5n t5c), (.slice (some ⟨g1, 0, none⟩) (32) 32), (.string (ByteArray.mk #[109, 97, 99]))] w5 fun (e11 : Ending) (w6 : World) => ∃ (t11 : Array Value), e11 = .returned (.agg t11) ∧
                      (∃ S_2 : World → Prop, (∀ w' : World, S_2 w' → S_1 w') ∧ S_2 w6 ∧
                        (Calls Tryz.prog 37 #[(.slice t5a t5n t5c), (.slice (some ⟨g1, 0, none⟩) (32) 32), (.string (ByteArray.mk #[110, 97, 109, 101]))] w6 fun (e14 : Ending) (w7 : World) => ∃ (t14 : Array Value), e14 = .returned (.agg t14) ∧
                          (∃ S_3 : World → Prop, (∀ w' : World, S_3 w' → S_2 w') ∧ S_3 w7 ∧
                            (∃ (t15 : Array Value), (∀ w' : World, S_3 w' → (Instr.build 28 #[(0, (.agg t8)), (1, (.agg t11)), (2, (.agg t14))]).run Tryz.prog w' = .ok (.agg t15) w') ∧
                              (∃ w8 : World, (Instr.storeAt 28 (.pointer (some ⟨g2, 0, none⟩)) (.agg t15)).run Tryz.prog w7 = .ok () w8 ∧
                                (∃ r2 : Value, (loadVar 28 ⟨g2, 0, none⟩).run Tryz.prog w8 = .ok r2 w8 ∧
                                  (R (.returned r2) w8)))))))))))))))))) : Calls Tryz.prog 9 #[(.agg a0)] w R :=
  calls_of_ev (args := [(.agg a0)])
    (tc := .seq (.reg (.op .bx (.op .bx (.nil)))) (.seq (.reg (.op (.r (.slice)) (.op (.r (.slice)) (.op .p (.nil))))) (.seq (.drawS (.tk 0 .p (.tk 1 .sl (.tk 3 .p (.tk 4 .sl (.tk 6 .p (.tk 7 .sl (.go 2 (.cl [.agg]) (.go 5 (.cl [.agg]) (.go 8 (.cl [.agg]) (.ts 9 (.agg) (.go 10 .u (.nil)))))))))))) [10]) (.leaf))))
    (by kernel_rfl) Tryz.func9 (by kernel_rfl) (by kernel_rfl) (by kernel_rfl) (by kernel_rfl) h

end Go.Proofs.YtmdandkoajocpaaGreatDoor
end

section
namespace Go.Proofs.YtmdandkoajocpaaGreatDoor
open Go Sx
set_option maxRecDepth 8000

theorem Sx.St.zeroAC {w0 w : World} {X : List Nat} {M : List Res} (h : St w0 X w M) {T : TypeId} {z : List Value} (hz : ∀ w, (zeroValue T).run Tryz.prog w = .ok (.agg z.toArray) w) :
    ∃ g w', (Instr.alloc T true (.tuple #[])).run Tryz.prog w = .ok (.pointer (some ⟨g, 0, none⟩)) w' ∧ St w0 X w' (M ++ [.arr g T z]) ∧ Chg [] w w' := by
  obtain ⟨g, w1, r, h1⟩ := h.zeroA hz
  obtain ⟨g', w1', r', h1'⟩ := (St.start w).zeroA hz
  have e := r.symm.trans r'
  simp only [Result.ok.injEq] at e
  obtain ⟨_, rfl⟩ := e
  exact ⟨g, w1, r, h1, h1'.chg⟩

theorem litC {t e by_ : Nat} {z : Value} (E : ElemT Tryz.prog t e 1 by_ z) (vs : List Value) (h1 : ∀ v ∈ vs, v.oneCell' = true) (hb : vs.length ≤ 16777216) (w : World) :
    ∃ g w', (Instr.buildSlice t vs.length ((vs.zipIdx 0).map fun p => (p.2, p.1)).toArray).run Tryz.prog w = .ok (.slice (some ⟨g, 0, none⟩) vs.length vs.length) w' ∧ Chg [] w w' ∧ Rd w' (some ⟨g, 0, none⟩) vs.length vs.length 1 vs ∧ w.heap.size ≤ g ∧ g < w'.heap.size := by
  obtain ⟨g, w', r, h⟩ := (St.start w).lit E vs h1 hb
  refine ⟨g, w', r, h.chg, h.rd (i := 0) rfl, ?_, Res.lt (h.holds 0 _ rfl) g (by simp [Res.fp, Value.ownBlock])⟩
  have h2 := h.own 0 _ rfl g (by simp [Res.fp, Value.ownBlock])
  simpa using h2

theorem litK (k : UInt8) (w : World) : ∃ g w', (Instr.buildSlice 33 1 #[(0, .int .u8 (k.toNat : Int))]).run Tryz.prog w = .ok (.slice (some ⟨g, 0, none⟩) 1 1) w' ∧ Chg [] w w' ∧ RdB w' (some ⟨g, 0, none⟩) 1 1 [k] := by
  obtain ⟨g, w', r, c, h, _⟩ := litC bT [.int .u8 (k.toNat : Int)] (by simp [Value.oneCell']) (by simp) w
  exact ⟨g, w', r, c, h⟩

theorem kyA (w : World) : (isAgg 28).run Tryz.prog w = .ok true w := Tryz.isAgg28 w
theorem kyS (w : World) : (sizeOf 28).run Tryz.prog w = .ok 96 w := Tryz.sizeOf28 w
theorem kyZ (w : World) : (zeroValue 28).run Tryz.prog w = .ok (.agg (bv (List.replicate 96 0)).toArray) w := Tryz.zeroValue28 w
theorem d12A (w : World) : (isAgg 187).run Tryz.prog w = .ok true w := Tryz.isAgg187 w
theorem d12S (w : World) : (sizeOf 187).run Tryz.prog w = .ok 12 w := Tryz.sizeOf187 w
theorem d12Z (w : World) : (zeroValue 187).run Tryz.prog w = .ok (.agg (bv (List.replicate 12 0)).toArray) w := Tryz.zeroValue187 w

theorem built_keys : Tryz.prog.built 28 = fun parts => Instr.fill (fun i => (#[(0, 32), (32, 32), (64, 32)] : Array (Nat × Nat))[i]?) (bv (List.replicate 96 0)).toArray parts := by kernel_rfl

theorem keys_build {a b c : List UInt8} (ha : a.length = 32) (hb : b.length = 32) (hc : c.length = 32) (w : World) : (Instr.build 28 #[(0, .agg (bv a).toArray), (1, .agg (bv b).toArray), (2, .agg (bv c).toArray)]).run Tryz.prog w = .ok (.agg (bv (a ++ b ++ c)).toArray) w := by
  apply run_build
  rw [built_keys]
  show Instr.fill _ _ [(0, .agg (bv a).toArray), (1, .agg (bv b).toArray), (2, .agg (bv c).toArray)] = _
  have z : ∀ n, (bv (List.replicate 96 0)).drop n = bv (List.replicate (96 - n) 0) := fun n => by rw [← bv_drop, List.drop_replicate]
  rw [fill_step (off := 0) (sz := 32) rfl (by simp [Value.cells, ha]) (by simp)]
  simp only [Value.cells, List.take_zero, List.nil_append, Nat.zero_add, z]
  rw [fill_step (off := 32) (sz := 32) rfl (by simp [Value.cells, hb]) (by simp [ha])]
  simp only [Value.cells]
  rw [List.take_left' (by simp [ha]), show 32 + 32 = (bv a).length + 32 by simp [ha], List.drop_append, List.drop_of_length_le (by omega), show (bv a).length + 32 - (bv a).length = 32 by omega, ← bv_drop, List.drop_replicate]
  rw [fill_step (off := 64) (sz := 32) rfl (by simp [Value.cells, hc]) (by simp [ha, hb])]
  simp only [Value.cells, List.nil_append]
  rw [List.take_left' (by simp [ha, hb]), List.drop_of_length_le (by simp [ha, hb])]
  simp [Instr.fill]

/-- A literal's row that is marked as a string's. -/
theorem litMark (l : List UInt8) (hb : l.length ≤ 16777216) (w : World) : ∃ g w1 w2, (Instr.buildSlice 33 l.length (((bv l).zipIdx 0).map fun p => (p.2, p.1)).toArray).run Tryz.prog w = .ok (.slice (some ⟨g, 0, none⟩) l.length l.length) w1 ∧
    (convert 33 33 (.slice (some ⟨g, 0, none⟩) l.length l.length)).run Tryz.prog w1 = .ok (.slice (some ⟨g, 0, none⟩) l.length l.length) w2 ∧ Chg [] w w2 ∧ RdB w2 (some ⟨g, 0, none⟩) l.length l.length l := by
  obtain ⟨g, w1, r1, c1, h1, hg, hg1⟩ := litC bT (bv l) (bv_one l) (by simpa using hb) w
  rw [bv_length] at r1 h1
  obtain ⟨w2, r2, c2, h2⟩ := sameSlice g _ _ l w1 h1 hg1
  exact ⟨g, w1, w2, r1, r2, c1.trans' c2 (fun i hi => .inl (by simp at hi; omega)), h2⟩

theorem over_spec' (K : List UInt8) (a1 : Option Addr) (c1 : Nat) (nonce : List UInt8) (a2 : Option Addr) (n2 c2 : Nat) (b : List UInt8) (w : World) (hk : K.length = 96) (hr1 : RdB w a1 12 c1 nonce) (hr2 : RdB w a2 n2 c2 b) (hb : n2 ≤ 1099511627776) :
    Calls Tryz.prog 93 #[.agg (bv K).toArray, .slice a1 12 c1, .slice a2 n2 c2] w fun e w' => ∃ a n c, e = .returned (.slice a n c) ∧ FreshB w w' a n c (overF K nonce b) := by
  have hl := hr1.lenB
  apply seal_over_vc
  obtain ⟨g1, w1, r1, h1⟩ := (St.start w).boxA 28 (bv K)
  obtain ⟨g2, w2, r2, h2⟩ := h1.zeroA d12Z
  obtain ⟨w3, r3, h3⟩ := h2.copyB (i := 1) (d := 12) rfl (by simp) (h2.rd1 hr1) (by omega)
  rw [List.drop_of_length_le (by simp), List.append_nil] at h3
  have hld := h3.ldPre (i := 0) (l := bv K) rfl (d32A _) (d32S _) (by simp [hk])
  rw [← bv_take] at hld
  refine ⟨g1, w1, r1, g2, w2, r2, by omega, by omega, _, w3, r3, _, hld, _, h3.ldA (i := 1) (l := bv nonce) rfl (d12A _) (d12S _) (by simp [hl]), (xor_spec (K.take 32) nonce 0 a2 n2 c2 b w3 (by simp [hk]) hl (by omega) (by omega) (h3.rd1 hr2) (by omega)).mono ?_⟩
  rintro e w4 ⟨a, n, c, rfl, hf⟩
  exact ⟨_, _, _, _, rfl, _, _, _, rfl, FreshB.after hf h3.chg⟩

theorem macK_rd {w0 w : World} {M : List Res} (h : St w0 [] w M) {i g T : Nat} {K : List UInt8} (hi : M[i]? = some (.arr g T (bv K))) (hk : K.length = 96) : RdB w (some ⟨g, 32, none⟩) 32 32 (macKy K) ∧ RdB w (some ⟨g, 64, none⟩) 32 32 (nameK K) :=
  ⟨h.rdPart hi (by omega), h.rdPart hi (by omega)⟩

theorem tag_spec (K : List UInt8) (k : UInt8) (a2 : Option Addr) (n2 c2 : Nat) (ctx : List UInt8) (a3 : Option Addr) (n3 c3 : Nat) (nonce : List UInt8) (a4 : Option Addr) (n4 c4 : Nat) (body : List UInt8) (w : World) (hk : K.length = 96) (hK : KTab w) (hr2 : RdB w a2 n2 c2 ctx) (hr3 : RdB w a3 n3 c3 nonce) (hr4 : RdB w a4 n4 c4 body) (hb : n2 + n3 + n4 ≤ 67108000) :
    Calls Tryz.prog 91 #[.agg (bv K).toArray, .int .u8 (k.toNat : Int), .slice a2 n2 c2, .slice a3 n3 c3, .slice a4 n4 c4] w fun e w' => e = .returned (.agg (bv (tagF K k ctx nonce body)).toArray) ∧ Chg [] w w' := by
  have e2 := hr2.lenB
  have e3 := hr3.lenB
  have e4 := hr4.lenB
  apply seal_tag_vc
  obtain ⟨g1, w1, r1, h1⟩ := (St.start w).boxA 28 (bv K)
  obtain ⟨g2, w2, r2, h2⟩ := h1.zeroA d32Z
  have h2d := h2.drew
  obtain ⟨g3, w3, r3, c3', q3⟩ := litK k w2.drew
  have h3 := h2d.same c3'
  obtain ⟨g4, w4, r4, c4', q4, _⟩ := litC bbT [.slice (some ⟨g3, 0, none⟩) 1 1, .slice a2 n2 c2, .slice a3 n3 c3, .slice a4 n4 c4] (by simp [Value.oneCell']) (by simp) w3
  have h4 := h3.same c4'
  have hrow : Row2 w4 [.slice (some ⟨g3, 0, none⟩) 1 1, .slice a2 n2 c2, .slice a3 n3 c3, .slice a4 n4 c4] [[k], ctx, nonce, body] :=
    (row2_three (h4.rd1 hr2) (h4.rd1 hr3) (h4.rd1 hr4)).cons (q3.keep0 c4')
  refine ⟨g1, w1, r1, g2, w2, r2, by omega, by omega, _, _, _, _, r3, _, _, _, _, r4, (pack_spec _ 4 4 _ [[k], ctx, nonce, body] w4 q4 hrow (by simp; omega) (by simp)).mono ?_⟩
  rintro e w5 ⟨a5, n5, c5, rfl, hf5⟩
  have h5 := h4.same hf5.1
  obtain ⟨g6, w6, r6, c6', q6, _⟩ := litC bbT [.slice a5 n5 c5] (by simp [Value.oneCell']) (by simp) w5
  have h6 := h5.same c6'
  have hpl : (packL [[k], ctx, nonce, body]).length ≤ 67109864 := by
    have := packL_len [[k], ctx, nonce, body] (by simp; omega)
    simp at this ⊢
    omega
  refine ⟨_, _, _, rfl, _, _, _, _, r6, (mac_spec _ 32 32 (macKy K) _ 1 1 _ [packL [[k], ctx, nonce, body]] w6 (hK.keep0 h6.chg) (macK_rd h6 (i := 0) rfl hk).1 (by omega) q6 (row2_one (hf5.rdB.keep0 c6')) (by rw [List.flatten_cons, List.flatten_nil, List.append_nil]; omega) (by decide)).mono ?_⟩
  rintro e w7 ⟨rfl, c7⟩
  have e1 : [packL [[k], ctx, nonce, body]].flatten = packL [[k], ctx, nonce, body] := by rw [List.flatten_cons, List.flatten_nil, List.append_nil]
  rw [e1]
  obtain ⟨w8, r8, h8⟩ := (h6.same c7).stA (i := 1) (v := bv (tagF K k ctx nonce body)) rfl (d32S _) (by simp) (by simp) (bv_one _)
  exact ⟨_, rfl, w8, r8, _, h8.ldVarA (i := 1) (l := bv (tagF K k ctx nonce body)) rfl (d32A _) (d32S _) (by simp), rfl, h8.chg⟩

end Go.Proofs.YtmdandkoajocpaaGreatDoor
end

section
namespace Go.Proofs.YtmdandkoajocpaaGreatDoor
open Go Sx
set_option maxRecDepth 8000

/-- What Seal does behind its first digest. -/
def sealTail (a1 : Int) (a2a : Option Addr) (a2n a2c : Nat) (a3a : Option Addr) (a3n a3c : Nat) (g4 g9 : Nat) (t23 : Array Value) (R : Ending → World → Prop) (w7 : World) : Prop :=
  (∃ w8 : World, (Instr.storeAt 22 (.pointer (some ⟨g9, 0, none⟩)) (.agg t23)).run Tryz.prog w7 = .ok () w8 ∧
    (0 ≤ (12 : Int) ∧ (12 : Int) ≤ ((32 : Nat) : Int) ∧
    (∃ (t25 : Array Value), (Instr.loadAt 28 (.pointer (some ⟨g4, 0, none⟩))).run Tryz.prog w8 = .ok (.agg t25) w8 ∧
    (Calls Tryz.prog 93 #[(.agg t25), (.slice (some ⟨g9, 0, none⟩) 12 32), (.slice a3a a3n a3c)] w8 fun (e28 : Ending) (w9 : World) => ∃ (t28a : Option Addr) (t28n : Nat) (t28c : Nat), e28 = .returned (.slice t28a t28n t28c) ∧
    (∃ (t29 : Array Value), (Instr.loadAt 28 (.pointer (some ⟨g4, 0, none⟩))).run Tryz.prog w9 = .ok (.agg t29) w9 ∧
    (Calls Tryz.prog 91 #[(.agg t29), (.int .u8 a1), (.slice a2a a2n a2c), (.slice (some ⟨g9, 0, none⟩) 12 32), (.slice t28a t28n t28c)] w9 fun (e34 : Ending) (w10 : World) => ∃ (t34 : Array Value), e34 = .returned (.agg t34) ∧
    (∃ (g12 : Nat) (w11 : World), (Instr.alloc 22 true (.tuple #[])).run Tryz.prog w10 = .ok (.pointer (some ⟨g12, 0, none⟩)) w11 ∧
    (∃ w12 : World, (Instr.storeAt 22 (.pointer (some ⟨g12, 0, none⟩)) (.agg t34)).run Tryz.prog w11 = .ok () w12 ∧
    (∃ (t38a : Option Addr) (t38n : Nat) (t38c : Nat) (w13 : World), (Instr.makeSlice 33 (.int .i64 0) (.int .i64 (IntKind.wrap .i64 ((45 : Int) + ((a3n : Nat) : Int))))).run Tryz.prog w12 = .ok (.slice t38a t38n t38c) w13 ∧
    (∃ (t40a : Option Addr) (t40n : Nat) (t40c : Nat) (w14 : World), (Instr.buildSlice 33 1 #[(0, (.int .u8 a1))]).run Tryz.prog w13 = .ok (.slice t40a t40n t40c) w14 ∧
    (∃ (t41a : Option Addr) (t41n : Nat) (t41c : Nat) (w15 : World), (Builtin.append_ #[33, 33] 33 #[(.slice t38a t38n t38c), (.slice t40a t40n t40c)]).run Tryz.prog w14 = .ok (.slice t41a t41n t41c) w15 ∧
    (∃ (t44a : Option Addr) (t44n : Nat) (t44c : Nat) (w16 : World), (Builtin.append_ #[33, 33] 33 #[(.slice t41a t41n t41c), (.slice (some ⟨g9, 0, none⟩) 12 32)]).run Tryz.prog w15 = .ok (.slice t44a t44n t44c) w16 ∧
    (∃ (t47a : Option Addr) (t47n : Nat) (t47c : Nat) (w17 : World), (Builtin.append_ #[33, 33] 33 #[(.slice t44a t44n t44c), (.slice t28a t28n t28c)]).run Tryz.prog w16 = .ok (.slice t47a t47n t47c) w17 ∧
    (0 ≤ ((32 : Nat) : Int) ∧ ((32 : Nat) : Int) ≤ ((32 : Nat) : Int) ∧
    (∃ (t50a : Option Addr) (t50n : Nat) (t50c : Nat) (w18 : World), (Builtin.append_ #[33, 33] 33 #[(.slice t47a t47n t47c), (.slice (some ⟨g12, 0, none⟩) (32) 32)]).run Tryz.prog w17 = .ok (.slice t50a t50n t50c) w18 ∧
    (R (.returned (.slice t50a t50n t50c)) w18))))))))))))))))

theorem overF_len (K nonce b : List UInt8) : (overF K nonce b).length ≤ b.length := by
  rw [overF, xorR]; split <;> simp

theorem sealTail_of (K : List UInt8) (k : UInt8) (a2 : Option Addr) (n2 c2 : Nat) (ctx : List UInt8) (a3 : Option Addr) (n3 c3 : Nat) (plain d : List UInt8) (g4 g9 : Nat) (w w7 : World) (z : List UInt8) (R : Ending → World → Prop)
    (hk : K.length = 96) (hK : KTab w) (hr2 : RdB w a2 n2 c2 ctx) (hr3 : RdB w a3 n3 c3 plain) (hb : n2 + n3 ≤ 67100000) (hd : d.length = 32) (hz : z.length = 32) (h7 : St w [] w7 [.arr g4 28 (bv K), .arr g9 22 (bv z)])
    (hR : ∀ a n c w', FreshB w w' a n c ([k] ++ d.take 12 ++ overF K (d.take 12) plain ++ tagF K k ctx (d.take 12) (overF K (d.take 12) plain)) → R (.returned (.slice a n c)) w') :
    sealTail (k.toNat : Int) a2 n2 c2 a3 n3 c3 g4 g9 (bv d).toArray R w7 := by
  have e2 := hr2.lenB
  have e3 := hr3.lenB
  have hv := overF_len K (d.take 12) plain
  obtain ⟨body, hbody⟩ : ∃ b, overF K (d.take 12) plain = b := ⟨_, rfl⟩
  rw [hbody] at hR hv
  obtain ⟨w8, r8, h8⟩ := h7.stA (i := 1) (v := bv d) rfl (d32S _) (by simp [hz]) (by simp [hd]) (bv_one _)
  have hn : ∀ w', Chg [] w8 w' → RdB w' (some ⟨g9, 0, none⟩) 12 32 (d.take 12) := fun w' hc => rdB_upto (l := d) ((h8.same hc).rdA (i := 1) rfl (by simp [hd])) (by omega)
  have hl4 : ∀ w', Chg [] w8 w' → (Instr.loadAt 28 (.pointer (some ⟨g4, 0, none⟩))).run Tryz.prog w' = .ok (.agg (bv K).toArray) w' := fun w' hc => (h8.same hc).ldA (i := 0) (l := bv K) rfl (kyA _) (kyS _) (by simp [hk])
  have hzr := Chg.refl [] w8
  refine ⟨w8, r8, by omega, by omega, _, hl4 _ hzr, (over_spec' K _ 32 (d.take 12) a3 n3 c3 plain w8 hk (hn _ hzr) (h8.rd1 hr3) (by omega)).mono ?_⟩
  rintro e w9 ⟨a9, n9, c9, rfl, hf9⟩
  rw [hbody] at hf9
  have e9 := hf9.2.1
  refine ⟨_, _, _, rfl, _, hl4 _ hf9.1, (tag_spec K k a2 n2 c2 ctx _ 12 32 (d.take 12) a9 n9 c9 body w9 hk (hK.keep0 (h8.chg.trans hf9.1)) ((h8.same hf9.1).rd1 hr2) (hn _ hf9.1) hf9.rdB (by omega)).mono ?_⟩
  rintro e w10 ⟨rfl, hc10⟩
  obtain ⟨tg, htg⟩ : ∃ t, tagF K k ctx (d.take 12) body = t := ⟨_, rfl⟩
  have htl : tg.length = 32 := by rw [← htg]; simp
  rw [htg] at hR ⊢
  have h10 : St w [] w10 [.arr g4 28 (bv K), .arr g9 22 (bv d), .row 5 1 (.slice a9 n9 c9) n9 (bv body)] := (hf9.add h8).same hc10
  obtain ⟨g11, w11, r11, h11⟩ := h10.zeroA d32Z
  obtain ⟨w12, r12, h12⟩ := h11.stA (i := 3) (v := bv tg) rfl (d32S _) (by simp) (by simp [htl]) (bv_one _)
  have hw : IntKind.wrap .i64 ((45 : Int) + (n3 : Int)) = ((45 + n3 : Nat) : Int) := by rw [wrap_i64 (by omega) (by omega)]; omega
  obtain ⟨g13, w13, r13, h13⟩ := h12.mk0n (kl := .i64) (kc := .i64) (c := 45 + n3) bT (by omega) (by omega)
  obtain ⟨g14, w14, r14, c14, q14⟩ := litK k w13
  have h14 : St w [] w14 [.arr g4 28 (bv K), .arr g9 22 (bv d), .row 5 1 (.slice a9 n9 c9) n9 (bv body), .arr g11 22 (bv tg), .row 5 1 (.slice (some ⟨g13, 0, none⟩) 0 (45 + n3)) 0 (bv [])] := h13.same c14
  obtain ⟨va, vc, w15, r15, h15⟩ := h14.appendB (i := 4) (xs := []) rfl q14 (by omega)
  have h15' : St w [] w15 [.arr g4 28 (bv K), .arr g9 22 (bv d), .row 5 1 (.slice a9 n9 c9) n9 (bv body), .arr g11 22 (bv tg), .row 5 1 (.slice va 1 vc) 1 (bv [k])] := h15
  obtain ⟨vb, vd, w16, r16, h16⟩ := h15'.appendB (i := 4) rfl (rdB_upto (l := d) (n := 32) (c := 32) (k := 12) (h15'.rdA (i := 1) (n := 32) rfl (by simp [hd])) (by omega)) (by omega)
  have h16' : St w [] w16 [.arr g4 28 (bv K), .arr g9 22 (bv d), .row 5 1 (.slice a9 n9 c9) n9 (bv body), .arr g11 22 (bv tg), .row 5 1 (.slice vb (1 + 12) vd) (1 + 12) (bv ([k] ++ d.take 12))] := h16
  obtain ⟨ve, vf, w17, r17, h17⟩ := h16'.appendB (i := 4) rfl (h16'.rd (i := 2) (xs := bv body) rfl) (by omega)
  have h17' : St w [] w17 [.arr g4 28 (bv K), .arr g9 22 (bv d), .row 5 1 (.slice a9 n9 c9) n9 (bv body), .arr g11 22 (bv tg), .row 5 1 (.slice ve (1 + 12 + n9) vf) (1 + 12 + n9) (bv ([k] ++ d.take 12 ++ body))] := h17
  obtain ⟨vg, vh, w18, r18, h18⟩ := h17'.appendB (i := 4) (m := 32) (l := tg) rfl (h17'.rdA (i := 3) rfl (by simp [htl])) (by omega)
  rw [hw]
  exact ⟨_, rfl, g11, w11, r11, w12, r12, _, _, _, w13, r13, _, _, _, w14, r14, _, _, _, w15, r15, _, _, _, w16, r16, _, _, _, w17, r17, by omega, by omega, _, _, _, w18, r18, hR _ _ _ _ (h18.freshB (i := 4) rfl)⟩

theorem seal_spec (K : List UInt8) (k : UInt8) (a2 : Option Addr) (n2 c2 : Nat) (ctx : List UInt8) (a3 : Option Addr) (n3 c3 : Nat) (plain : List UInt8) (w : World)
    (hk : K.length = 96) (hK : KTab w) (hr2 : RdB w a2 n2 c2 ctx) (hr3 : RdB w a3 n3 c3 plain) (hb : n2 + n3 ≤ 67100000) :
    Calls Tryz.prog 104 #[.agg (bv K).toArray, .int .u8 (k.toNat : Int), .slice a2 n2 c2, .slice a3 n3 c3] w fun e w' => ∃ a n c, e = .returned (.slice a n c) ∧ FreshB w w' a n c (sealF K k ctx plain) := by
  have e2 := hr2.lenB
  have e3 := hr3.lenB
  apply seal_Seal_vc
  obtain ⟨g1, w1, r1, h1⟩ := (St.start w).boxA 28 (bv K)
  have hd := Chg.drew [] w1
  have P20 : ∀ w' g, Chg [] w1 w' → RdB w' (some ⟨g, 0, none⟩) 1 1 [k] → ∃ g2 w'', (Instr.buildSlice 23 3 #[(0, .slice (some ⟨g, 0, none⟩) 1 1), (1, .slice a2 n2 c2), (2, .slice a3 n3 c3)]).run Tryz.prog w' = .ok (.slice (some ⟨g2, 0, none⟩) 3 3) w'' ∧ Chg [] w' w'' ∧
      Rd w'' (some ⟨g2, 0, none⟩) 3 3 1 [.slice (some ⟨g, 0, none⟩) 1 1, .slice a2 n2 c2, .slice a3 n3 c3] ∧ Row2 w'' [.slice (some ⟨g, 0, none⟩) 1 1, .slice a2 n2 c2, .slice a3 n3 c3] [[k], ctx, plain] := fun w' g hc hr => by
    obtain ⟨g2, w2, r2, c2', q2, _⟩ := litC bbT [.slice (some ⟨g, 0, none⟩) 1 1, .slice a2 n2 c2, .slice a3 n3 c3] (by simp [Value.oneCell']) (by simp) w'
    have hcc := h1.chg.trans (hc.trans c2')
    exact ⟨g2, w2, r2, c2', q2, row2_three (hr.keep0 c2') (hr2.keep0 hcc) (hr3.keep0 hcc)⟩
  obtain ⟨P, hP⟩ : ∃ P, packL [[k], ctx, plain] = P := ⟨_, rfl⟩
  have hpl : P.length ≤ 67109864 := by
    have := packL_len [[k], ctx, plain] (by simp; omega)
    rw [hP] at this
    simp at this
    omega
  have Ppk : ∀ w' g2 vs, Rd w' (some ⟨g2, 0, none⟩) 3 3 1 vs → Row2 w' vs [[k], ctx, plain] → Calls Tryz.prog 121 #[.slice (some ⟨g2, 0, none⟩) 3 3] w' fun e w'' => ∃ a n c, e = .returned (.slice a n c) ∧ FreshB w' w'' a n c P := fun w' g2 vs q qr => by
    have := pack_spec _ 3 3 vs [[k], ctx, plain] w' q qr (by simp; omega) (by simp)
    rw [hP] at this; exact this
  have P22 : ∀ w' a n c, RdB w' a n c P → ∃ g2 w'', (Instr.buildSlice 23 1 #[(0, .slice a n c)]).run Tryz.prog w' = .ok (.slice (some ⟨g2, 0, none⟩) 1 1) w'' ∧ Chg [] w' w'' ∧ Rd w'' (some ⟨g2, 0, none⟩) 1 1 1 [.slice a n c] ∧ Row2 w'' [.slice a n c] [P] := fun w' a n c hr => by
    obtain ⟨g2, w2, r2, c2', q2, _⟩ := litC bbT [.slice a n c] (by simp [Value.oneCell']) (by simp) w'
    exact ⟨g2, w2, r2, c2', q2, row2_one (hr.keep0 c2')⟩
  have Pm : ∀ w' g2 vs, Chg [] w1 w' → Rd w' (some ⟨g2, 0, none⟩) 1 1 1 vs → Row2 w' vs [P] → Calls Tryz.prog 120 #[.slice (some ⟨g1, 64, none⟩) 32 32, .slice (some ⟨g2, 0, none⟩) 1 1] w' fun e w'' => e = .returned (.agg (bv (macF (nameK K) P)).toArray) ∧ Chg [] w' w'' := fun w' g2 vs hc q qr => by
    have e1 : [P].flatten = P := by rw [List.flatten_cons, List.flatten_nil, List.append_nil]
    have := mac_spec _ 32 32 (nameK K) _ 1 1 vs [P] w' (hK.keep0 (h1.chg.trans hc)) (macK_rd (h1.same hc) (i := 0) rfl hk).2 (by omega) q qr (by rw [e1]; omega) (by decide)
    rw [e1] at this; exact this
  have hR : ∀ a n c w', FreshB w w' a n c ([k] ++ (macF (nameK K) P).take 12 ++ overF K ((macF (nameK K) P).take 12) plain ++ tagF K k ctx ((macF (nameK K) P).take 12) (overF K ((macF (nameK K) P).take 12) plain)) → ∃ a' n' c', Ending.returned (.slice a n c) = .returned (.slice a' n' c') ∧ FreshB w w' a' n' c' (sealF K k ctx plain) := fun a n c w' hf => ⟨a, n, c, rfl, by rw [sealF, nonceF, hP]; exact hf⟩
  have tail : ∀ g9 w7, St w [] w7 [.arr g1 28 (bv K), .arr g9 22 (bv (List.replicate 32 0))] → sealTail (k.toNat : Int) a2 n2 c2 a3 n3 c3 g1 g9 (bv (macF (nameK K) P)).toArray (fun e w' => ∃ a n c, e = .returned (.slice a n c) ∧ FreshB w w' a n c (sealF K k ctx plain)) w7 := fun g9 w7 h7 =>
    sealTail_of K k a2 n2 c2 ctx a3 n3 c3 plain _ g1 g9 w w7 _ _ hk hK hr2 hr3 hb (macF_len _ _) (by simp) h7 hR
  obtain ⟨g3, w3, r3, c3', q3⟩ := litK k w1.drew
  have d3 := hd.trans c3'
  obtain ⟨g4, w4, r4, c4', q4, qr4⟩ := P20 w3 g3 d3 q3
  have d4 := d3.trans c4'
  refine ⟨g1, w1, r1, by omega, by omega, ⟨_, _, _, _, r3, ⟨_, _, _, _, r4, (Ppk w4 g4 _ q4 qr4).mono ?_, ?_⟩, ?_⟩, ?_⟩
  · rintro e w5 ⟨a5, n5, c5, rfl, hf5⟩
    have d5 := d4.trans hf5.1
    refine ⟨_, _, _, rfl, ?_, ?_⟩
    · obtain ⟨g6, w6, r6, c6', q6, qr6⟩ := P22 w5 _ _ _ hf5.rdB
      have d6 := d5.trans c6'
      refine ⟨_, _, _, _, r6, (Pm w6 g6 _ d6 q6 qr6).mono ?_, ?_⟩
      · rintro e w7 ⟨rfl, c7⟩
        obtain ⟨g9, w9, r9, h9⟩ := (h1.same (d6.trans c7)).zeroA d32Z
        exact ⟨_, rfl, g9, w9, r9, tail g9 w9 h9⟩
      · obtain ⟨g9, w9, r9, h9, c9⟩ := (h1.same d6).zeroAC d32Z
        refine ⟨g9, w9, r9, (Pm w9 g6 _ (d6.trans c9) (q6.keep0 c9) (qr6.keep0 c9)).mono ?_⟩
        rintro e w10 ⟨rfl, c10⟩
        exact ⟨_, rfl, tail g9 w10 (h9.same c10)⟩
    · obtain ⟨g9, w9, r9, h9, c9⟩ := (h1.same d5).zeroAC d32Z
      obtain ⟨g6, w6, r6, c6', q6, qr6⟩ := P22 w9 _ _ _ (hf5.rdB.keep0 c9)
      refine ⟨g9, w9, r9, _, _, _, _, r6, (Pm w6 g6 _ ((d5.trans c9).trans c6') q6 qr6).mono ?_⟩
      rintro e w10 ⟨rfl, c10⟩
      exact ⟨_, rfl, tail g9 w10 (h9.same (c6'.trans c10))⟩
  · obtain ⟨g9, w9, r9, h9, c9⟩ := (h1.same d4).zeroAC d32Z
    refine ⟨g9, w9, r9, (Ppk w9 g4 _ (q4.keep0 c9) (qr4.keep0 c9)).mono ?_⟩
    rintro e w5 ⟨a5, n5, c5, rfl, hf5⟩
    have d5 := (d4.trans c9).trans hf5.1
    obtain ⟨g6, w6, r6, c6', q6, qr6⟩ := P22 w5 _ _ _ hf5.rdB
    refine ⟨_, _, _, rfl, _, _, _, _, r6, (Pm w6 g6 _ (d5.trans c6') q6 qr6).mono ?_⟩
    rintro e w10 ⟨rfl, c10⟩
    exact ⟨_, rfl, tail g9 w10 (h9.same (hf5.1.trans (c6'.trans c10)))⟩
  · obtain ⟨g9, w9, r9, h9, c9⟩ := (h1.same d3).zeroAC d32Z
    obtain ⟨g4, w4, r4, c4', q4, qr4⟩ := P20 w9 g3 (d3.trans c9) (q3.keep0 c9)
    refine ⟨g9, w9, r9, _, _, _, _, r4, (Ppk w4 g4 _ q4 qr4).mono ?_⟩
    rintro e w5 ⟨a5, n5, c5, rfl, hf5⟩
    have d5 := ((d3.trans c9).trans c4').trans hf5.1
    obtain ⟨g6, w6, r6, c6', q6, qr6⟩ := P22 w5 _ _ _ hf5.rdB
    refine ⟨_, _, _, rfl, _, _, _, _, r6, (Pm w6 g6 _ (d5.trans c6') q6 qr6).mono ?_⟩
    rintro e w10 ⟨rfl, c10⟩
    exact ⟨_, rfl, tail g9 w10 (h9.same ((c4'.trans hf5.1).trans (c6'.trans c10)))⟩
  · obtain ⟨g9, w9, r9, h9, c9⟩ := (h1.same hd).zeroAC d32Z
    obtain ⟨g3, w3, r3, c3', q3⟩ := litK k w9
    have d3 := (hd.trans c9).trans c3'
    obtain ⟨g4, w4, r4, c4', q4, qr4⟩ := P20 w3 g3 d3 q3
    refine ⟨g9, w9, r9, _, _, _, _, r3, _, _, _, _, r4, (Ppk w4 g4 _ q4 qr4).mono ?_⟩
    rintro e w5 ⟨a5, n5, c5, rfl, hf5⟩
    have d5 := (d3.trans c4').trans hf5.1
    obtain ⟨g6, w6, r6, c6', q6, qr6⟩ := P22 w5 _ _ _ hf5.rdB
    refine ⟨_, _, _, rfl, _, _, _, _, r6, (Pm w6 g6 _ (d5.trans c6') q6 qr6).mono ?_⟩
    rintro e w10 ⟨rfl, c10⟩
    exact ⟨_, rfl, tail g9 w10 (h9.same ((c3'.trans (c4'.trans hf5.1)).trans (c6'.trans c10)))⟩

def openE (K : List UInt8) (kind : UInt8) (ctx b : List UInt8) : Option Int := if (openF K kind ctx b).isSome then none else some 10

theorem open_spec (K : List UInt8) (k : UInt8) (a2 : Option Addr) (n2 c2 : Nat) (ctx : List UInt8) (a3 : Option Addr) (n3 c3 : Nat) (b : List UInt8) (w : World)
    (hk : K.length = 96) (hK : KTab w) (hr2 : RdB w a2 n2 c2 ctx) (hr3 : RdB w a3 n3 c3 b) (hb : n2 + n3 ≤ 67100000) :
    Calls Tryz.prog 57 #[.agg (bv K).toArray, .int .u8 (k.toNat : Int), .slice a2 n2 c2, .slice a3 n3 c3] w fun e w' => ∃ a n c, e = .returned (.tuple #[.slice a n c, errV (openE K k ctx b)]) ∧ FreshB w w' a n c ((openF K k ctx b).getD []) := by
  have e2 := hr2.lenB
  have e3 := hr3.lenB
  have hle := hr3.le
  apply seal_Open_vc
  obtain ⟨g1, w1, r1, h1⟩ := (St.start w).boxA 28 (bv K)
  have bad : ∀ w', Chg [] w w' → openF K k ctx b = none → ∃ a n c, Ending.returned (.tuple #[.slice none 0 0, .iface 69 (.int .i64 10)]) = .returned (.tuple #[.slice a n c, errV (openE K k ctx b)]) ∧ FreshB w w' a n c ((openF K k ctx b).getD []) := fun w' hc hn => by
    refine ⟨none, 0, 0, ?_, ?_⟩
    · rw [openE, hn]; rfl
    · rw [hn]; exact ⟨hc, rfl, World.ownsRow_nil _ _ _ _⟩
  refine ⟨g1, w1, r1, fun x w' => x = decide (b.length < 45 ∨ b.getD 0 0 ≠ k) ∧ w' = w1, ⟨fun h => ?_, fun h => ?_⟩, ?_⟩
  · have : b.length < 45 := by simp at h; omega
    exact ⟨by simp [this], rfl⟩
  · have h45 : ¬ b.length < 45 := by simp at h; omega
    refine ixB (bA _) (h1.rd1 hr3).cells e3 (by omega) (by omega) fun bl o hbo => ⟨?_, rfl⟩
    have : (0 : Int).toNat = 0 := rfl
    rw [this]
    by_cases hx : b.getD 0 0 = k
    · rw [hx]; simp [h45]
    · have hx2 : ((b.getD 0 0).toNat : Int) ≠ (k.toNat : Int) := fun e => hx (by apply UInt8.toNat_inj.1; omega)
      rw [bne_iff_ne.2 hx2]
      exact (decide_eq_true (.inr hx)).symm
  rintro x w2 ⟨rfl, rfl⟩
  refine ⟨fun h => bad _ h1.chg ?_, fun h => ?_⟩
  · have h' : b.length < 45 ∨ b.getD 0 0 ≠ k := by simpa using h
    rw [openF, if_pos h']
  have h' : ¬ (b.length < 45 ∨ b.getD 0 0 ≠ k) := by simpa using h
  have hof : openF K k ctx b = if tagF K k ctx (bNonce b) (bBody b) = bTag b then some (overF K (bNonce b) (bBody b)) else none := by rw [openF, if_neg h']
  have h45 : 45 ≤ b.length := by
    rcases Nat.lt_or_ge b.length 45 with h | h
    · exact absurd (.inl h) h'
    · exact h
  clear h h'
  have hw : IntKind.wrap .i64 ((n3 : Int) - 32) = ((n3 - 32 : Nat) : Int) := by rw [wrap_i64 (by omega) (by omega)]; omega
  rw [hw]
  have hdw := Chg.drew [] w2
  have h1d := h1.same hdw
  refine ⟨by omega, by omega, by omega, fun t29 hs29 => ⟨by omega, by omega, by omega, fun t32 hs32 => ?_⟩⟩
  have q3 := h1d.rd1 hr3
  have qn : RdB w2.drew t29 12 (c3 - 1) (bNonce b) := by
    have := q3.sub hs29 (hh := 13) (by omega) (by omega) (by omega) (Nat.le_refl _)
    have e1 : ((bv b).drop (1 * 1)).take ((13 - 1) * 1) = bv (bNonce b) := by rw [bNonce, bv_take, bv_drop]
    rw [e1] at this
    exact this
  have qb : RdB w2.drew t32 (n3 - 32 - 13) (c3 - 13) (bBody b) := by
    have := q3.sub hs32 (hh := n3 - 32) (by omega) (by omega) (by omega) (Nat.le_refl _)
    have e1 : ((bv b).drop (13 * 1)).take ((n3 - 32 - 13) * 1) = bv (bBody b) := by rw [bBody, bv_take, bv_drop, e3]; congr 1; omega
    rw [e1] at this
    exact this
  have hl4 : ∀ w', Chg [] w2.drew w' → (Instr.loadAt 28 (.pointer (some ⟨g1, 0, none⟩))).run Tryz.prog w' = .ok (.agg (bv K).toArray) w' := fun w' hc => (h1d.same hc).ldA (i := 0) (l := bv K) rfl (kyA _) (kyS _) (by simp [hk])
  rw [Int.toNat_natCast]
  refine ⟨_, hl4 _ (Chg.refl _ _), (tag_spec K k a2 n2 c2 ctx t29 12 (c3 - 1) (bNonce b) t32 (n3 - 32 - 13) (c3 - 13) (bBody b) _ hk (hK.keep0 h1d.chg) (h1d.rd1 hr2) qn qb (by omega)).mono ?_⟩
  rintro e w3 ⟨rfl, c3'⟩
  obtain ⟨tg, htg⟩ : ∃ t, tagF K k ctx (bNonce b) (bBody b) = t := ⟨_, rfl⟩
  have htl : tg.length = 32 := by rw [← htg]; simp
  rw [htg] at hof ⊢
  obtain ⟨g4, w4, r4, h4⟩ := (St.start w2.drew |>.same c3').zeroA d32Z
  obtain ⟨w5, r5, h5⟩ := h4.stA (i := 0) (v := bv tg) rfl (d32S _) (by simp) (by simp [htl]) (bv_one _)
  have h5d := h5.drew
  refine ⟨_, rfl, g4, w4, r4, w5, r5, by omega, by omega, by omega, by omega, by omega, fun t42 hs42 => ?_⟩
  have qt : RdB w5.drew t42 (n3 - (n3 - 32)) (c3 - (n3 - 32)) (bTag b) := by
    have := (q3.keep0 h5d.chg).sub hs42 (hh := n3) (by omega) (Nat.le_refl _) (by omega) (Nat.le_refl _)
    have e1 : ((bv b).drop ((n3 - 32) * 1)).take ((n3 - (n3 - 32)) * 1) = bv (bTag b) := by
      rw [bTag, bv_drop, e3, List.take_of_length_le (by simp; omega)]; congr 1; omega
    rw [e1] at this
    exact this
  refine (equal_spec _ 32 32 tg t42 _ _ (bTag b) _ (h5d.rdA (i := 0) rfl (by simp [htl])) qt (by omega)).mono ?_
  rintro e w6 ⟨rfl, c6⟩
  have d6 := h5d.chg.trans c6
  refine ⟨_, rfl, fun h => bad _ (h1d.chg.trans d6) ?_, fun h => ?_⟩
  · have : ¬ tg = bTag b := by simpa using h
    rw [hof, if_neg this]
  · have ht : tg = bTag b := by simpa using h
    rw [if_pos ht] at hof
    refine ⟨_, hl4 _ d6, (over_spec' K t29 (c3 - 1) (bNonce b) t32 (n3 - 32 - 13) (c3 - 13) (bBody b) w6 hk (qn.keep0 d6) (qb.keep0 d6) (by omega)).mono ?_⟩
    rintro e w7 ⟨a7, n7, c7, rfl, hf7⟩
    refine ⟨_, _, _, rfl, a7, n7, c7, ?_, ?_⟩
    · rw [openE, hof]; rfl
    · rw [hof]
      exact FreshB.after hf7 (h1d.chg.trans d6)

end Go.Proofs.YtmdandkoajocpaaGreatDoor
end

section
namespace Go.Proofs.YtmdandkoajocpaaGreatDoor
open Go Sx
set_option maxRecDepth 8000
set_option maxRecDepth 100000

theorem xorL_two (key nonce : List UInt8) (p : Nat) (l : List UInt8) : xorL key nonce p (xorL key nonce p l) = l := by
  apply List.ext_getElem?
  intro i
  simp only [xorL, List.getElem?_mapIdx]
  cases l[i]? with
  | none => rfl
  | some b => simp [UInt8.xor_assoc]

theorem overF_two (K nonce plain : List UInt8) (h : plain.length ≤ 274877906944) : overF K nonce (overF K nonce plain) = plain ∧ (overF K nonce plain).length = plain.length := by
  have h1 : ∀ l : List UInt8, l.length ≤ 274877906944 → overF K nonce l = xorL (ciphK K) nonce 0 l := fun l hl => by
    have : roomF 0 l.length = true := by simp [roomF]; omega
    rw [overF, xorR, if_pos this]; rfl
  rw [h1 plain h, h1 _ (by rw [xorL_len]; exact h), xorL_two, xorL_len]
  exact ⟨rfl, rfl⟩

theorem sealF_len (K : List UInt8) (k : UInt8) (ctx plain : List UInt8) (h : plain.length ≤ 274877906944) : (sealF K k ctx plain).length = plain.length + 45 := by
  simp [sealF, (overF_two K (nonceF K k ctx plain) plain h).2]; omega

theorem sealF_parts (K : List UInt8) (k : UInt8) (ctx plain : List UInt8) (h : plain.length ≤ 274877906944) : (sealF K k ctx plain).getD 0 0 = k ∧ bNonce (sealF K k ctx plain) = nonceF K k ctx plain ∧ bBody (sealF K k ctx plain) = overF K (nonceF K k ctx plain) plain ∧
    bTag (sealF K k ctx plain) = tagF K k ctx (nonceF K k ctx plain) (overF K (nonceF K k ctx plain) plain) := by
  have hl := sealF_len K k ctx plain h
  have h2 := (overF_two K (nonceF K k ctx plain) plain h).2
  have hn := nonceF_len K k ctx plain
  obtain ⟨nn, hnn⟩ : ∃ n, nonceF K k ctx plain = n := ⟨_, rfl⟩
  obtain ⟨bd, hbd⟩ : ∃ n, overF K nn plain = n := ⟨_, rfl⟩
  rw [hnn] at h2 hn ⊢
  rw [hbd] at h2 ⊢
  obtain ⟨tg, htg⟩ : ∃ n, tagF K k ctx nn bd = n := ⟨_, rfl⟩
  have ht : tg.length = 32 := by rw [← htg]; simp
  have hs : sealF K k ctx plain = [k] ++ nn ++ bd ++ tg := by rw [sealF, hnn, hbd, htg]
  rw [htg]
  rw [bBody, bTag, hl, hs, bNonce]
  have d1 : ([k] ++ nn ++ bd ++ tg).drop 1 = nn ++ (bd ++ tg) := by simp
  have d13 : ([k] ++ nn ++ bd ++ tg).drop 13 = bd ++ tg := by
    rw [List.append_assoc]; exact List.drop_left' (by simp [hn])
  refine ⟨by simp, ?_, ?_, ?_⟩
  · rw [d1]; exact List.take_left' hn
  · rw [d13]; exact List.take_left' (by omega)
  · exact List.drop_left' (by simp [hn, h2]; omega)

theorem open_sealF (K : List UInt8) (k : UInt8) (ctx plain : List UInt8) (h : plain.length ≤ 274877906944) : openF K k ctx (sealF K k ctx plain) = some plain := by
  obtain ⟨p1, p2, p3, p4⟩ := sealF_parts K k ctx plain h
  have hl := sealF_len K k ctx plain h
  rw [openF, if_neg (by rw [p1, hl]; simp), p2, p3, p4, if_pos rfl, (overF_two K _ plain h).1]

end Go.Proofs.YtmdandkoajocpaaGreatDoor
end

section
namespace Go.Proofs.YtmdandkoajocpaaGreatDoor
open Go Sx
set_option maxRecDepth 8000

/-- Appending to bytes that may be read and have no room: a new row. -/
theorem Sx.St.appendRdB {w0 w : World} {X : List Nat} {M : List Res} (h : St w0 X w M) {b a : Option Addr} {n vc m c : Nat} {xs l : List UInt8} (hv : RdB w b n vc xs) (hb0 : b ≠ none) (hr : RdB w a m c l) (hroom : vc < n + m) (hb : n + m ≤ 140737488355000) :
    ∃ va' vc' w', (Builtin.append_ #[33, 33] 33 #[.slice b n vc, .slice a m c]).run Tryz.prog w = .ok (.slice va' (n + m) vc') w' ∧ St w0 X w' (M ++ [.row 5 1 (.slice va' (n + m) vc') (n + m) (bv (xs ++ l))]) := by
  obtain ⟨inf, hinf, hz, hsz, hby⟩ := (bT).inf
  have hle := hv.le
  have hle2 := hr.le
  have lv := hv.lenB
  have lr := hr.lenB
  cases b with
  | none => exact absurd rfl hb0
  | some bd =>
    cases a with
    | none => have := hr.nil rfl; omega
    | some ad =>
      have holds : ∀ j u, (bv xs)[j]? = some u → w.cell? (bd.add j) = some u := by
        intro j u hu
        obtain ⟨b, o, he, hc⟩ := hv.cells.at_ hu
        simp only [Option.some.injEq] at he
        subst he
        rw [Addr.add_mid]
        exact hc
      have hnews : ∀ j u, (bv l)[j]? = some u → w.cell? (ad.add j) = some u := by
        intro j u hu
        obtain ⟨b, o, he, hc⟩ := hr.cells.at_ hu
        simp only [Option.some.injEq] at he
        subst he
        rw [Addr.add_mid]
        exact hc
      have hr2 := run_append_grow (P := Tryz.prog) w 33 33 5 inf (.int .u8 0) (bT).ht hinf hz bd n vc (bv xs) (by rw [hsz, bv_length]; omega) holds ad m c (bv l) (by rw [hsz, bv_length]; omega) hnews hroom (by omega) (growslice_fits (by omega) (by rw [hby]; omega))
      have hge := grownCap_ge w (n + m) vc 5
      have hm : n + m ≤ maxLen := by simp only [maxLen]; omega
      have hcm := grownCap_le_maxLen w (n + m) vc 5 hm
      have hlen : (bv xs ++ bv l).length = (n + m) * 1 := by simp; omega
      refine ⟨_, _, _, hr2, h.add ((Chg.drew [] w).trans (Chg.alloc _ _)) ⟨by simpa using hlen, .inr ⟨w.heap.size, _, _, rfl, Nat.zero_le _, heap_alloc_new w.drew _, hge, hcm, ?_, ?_⟩⟩ (by simp [Res.fp, Value.ownBlock])⟩
      · simp only [Array.size_append, List.size_toArray, size_zeroCells, bv_length, (bT).zs]
        omega
      · simp only [Array.toList_append, bv_append]
        exact List.take_left' hlen

end Go.Proofs.YtmdandkoajocpaaGreatDoor
end

section
namespace Go.Proofs.YtmdandkoajocpaaGreatDoor
open Go Go.Proofs.YtmdandkoajocpaaGreatDoor.Sx

set_option maxRecDepth 100000 in
theorem pack_Build_vc (a0 : Array Value) (a1 : Int) (a2a : Option Addr) (a2n : Nat) (a2c : Nat) (w : World) (R : Ending → World → Prop) (h :
  ∃ (g3 : Nat) (w1 : World), (Instr.box 28 (.agg a0)).run Tryz.prog w = .ok (.pointer (some ⟨g3, 0, none⟩)) w1 ∧
  (∃ (t12 : Array Value), (Instr.loadAt 28 (.pointer (some ⟨g3, 0, none⟩))).run Tryz.prog w1 = .ok (.agg t12) w1 ∧
    (Calls Tryz.prog 39 #[(.agg t12), (.int .i64 a1), (.slice a2a a2n a2c)] w1 fun (e15 : Ending) (w2 : World) => ∃ (t15_0 : Value) (t15_1 : Value), e15 = .returned (.tuple #[t15_0, t15_1]) ∧
      (∃ (t19 : Bool), (eqlS .neq 36 (.tmp 18) (.const .nilIface) t15_1 .nilIface).run Tryz.prog w2 = .ok (.bool t19) w2 ∧
        ((t19 = true →
            (R (.returned (.tuple #[(.slice none 0 0), (.slice none 0 0), t15_1])) w2)) ∧
          (t19 = false →
            (∃ S : World → Prop, S w2.drew ∧
              (∃ (t22b t22o : Nat), t15_0 = .pointer (some ⟨t22b, t22o, none⟩) ∧
                (∃ (t28b t28o : Nat), t15_0 = .pointer (some ⟨t28b, t28o, none⟩) ∧
                  (∃ (t25a : Option Addr) (t25n : Nat) (t25c : Nat), (∀ w' : World, S w' → (Instr.loadAt 23 (.pointer (some ⟨t22b, t22o, none⟩))).run Tryz.prog w' = .ok (.slice t25a t25n t25c) w') ∧
                    (∃ (t30a : Option Addr) (t30n : Nat) (t30c : Nat), (∀ w' : World, S w' → (Instr.loadAt 34 (.pointer (some ⟨t28b, t28o + 3, none⟩))).run Tryz.prog w' = .ok (.slice t30a t30n t30c) w') ∧
                      (Calls Tryz.prog 40 #[(.slice t25a t25n t25c)] w2.drew fun (e26 : Ending) (w3 : World) => ∃ (t26a : Option Addr) (t26n : Nat) (t26c : Nat), e26 = .returned (.slice t26a t26n t26c) ∧
                        (∃ S_1 : World → Prop, (∀ w' : World, S_1 w' → S w') ∧ S_1 w3 ∧
                          (R (.returned (.tuple #[(.slice t26a t26n t26c), (.slice t30a t30n t30c), .nilIface])) w3)))))))))))))) : Calls Tryz.prog 11 #[(.agg a0), (.int .i64 a1), (.slice a2a a2n a2c)] w R :=
  calls_of_ev (args := [(.agg a0), (.int .i64 a1), (.slice a2a a2n a2c)])
    (tc := .seq (.reg (.op .bx (.op .p (.op .p (.op .p (.nil)))))) (.seq (.reg (.op (.ld (.agg)) (.op .p (.op .p (.op (.cl [.val, .val]) (.op .p (.op .p (.op .p (.op .p (.op .p (.nil))))))))))) (.seq (.seq (.reg (.op .p (.op (.ld (.bool)) (.nil)))) (.cond (.seq (.reg (.op .p (.op .p (.op .p (.op .p (.nil)))))) (.leaf)) (.leaf))) (.seq (.drawS (.tk 0 .p (.tk 1 .nc (.tk 2 .p (.tk 3 .p (.tk 6 .p (.tk 7 .nc (.tk 8 .p (.ts 4 (.slice) (.ts 9 (.slice) (.go 5 (.cl [.slice]) (.tk 10 .p (.tk 11 .p (.tk 12 .p (.nil)))))))))))))) []) (.leaf)))))
    (by kernel_rfl) Tryz.func11 (by kernel_rfl) (by kernel_rfl) (by kernel_rfl) (by kernel_rfl) h

set_option maxRecDepth 100000 in
theorem pack_made_vc (a0 : Array Value) (a1 : Int) (a2a : Option Addr) (a2n : Nat) (a2c : Nat) (w : World) (R : Ending → World → Prop) (h :
  ∃ (g3 : Nat) (w1 : World), (Instr.box 28 (.agg a0)).run Tryz.prog w = .ok (.pointer (some ⟨g3, 0, none⟩)) w1 ∧
  (Calls Tryz.prog 43 #[(.int .i64 a1)] w1 fun (e14 : Ending) (w2 : World) => ∃ (t14 : Bool), e14 = .returned (.bool t14) ∧
    (((!t14) = true →
        (R (.returned (.tuple #[(.pointer none), (.iface 69 (.int .i64 28))])) w2)) ∧
      ((!t14) = false →
        (∃ (I : Int → World → Prop) (μ : Int → World → Nat), I 0 w2 ∧
          (∀ (x19 : Int), ∀ w3 : World, I x19 w3 →
            (((decide (x19 < ((a2n : Nat) : Int))) = true →
                (∃ (t21b t21o : Nat), a2a = some ⟨t21b, t21o, none⟩ ∧ 0 ≤ x19 ∧ x19 < ((a2n : Nat) : Int) ∧
                  (∃ (t22 : Array Value), (Instr.loadAt 46 (.pointer (some ⟨t21b, t21o + Int.toNat x19 * 33, none⟩))).run Tryz.prog w3 = .ok (.agg t22) w3 ∧
                    (∃ (g9 : Nat) (w4 : World), (Instr.alloc 46 true (.tuple #[])).run Tryz.prog w3 = .ok (.pointer (some ⟨g9, 0, none⟩)) w4 ∧
                      (∃ w5 : World, (Instr.storeAt 46 (.pointer (some ⟨g9, 0, none⟩)) (.agg t22)).run Tryz.prog w4 = .ok () w5 ∧
                        (∃ (t24a : Option Addr) (t24n : Nat) (t24c : Nat), (Instr.loadAt 33 (.pointer (some ⟨g9, 32, none⟩))).run Tryz.prog w5 = .ok (.slice t24a t24n t24c) w5 ∧
                          (((decide (((t24n : Nat) : Int) > (67108832 : Int))) = true →
                              (R (.returned (.tuple #[(.pointer none), (.iface 69 (.int .i64 7))])) w5)) ∧
                            ((decide (((t24n : Nat) : Int) > (67108832 : Int))) = false →
                              (I (IntKind.wrap .i64 (x19 + (1 : Int))) w5 ∧ μ (IntKind.wrap .i64 (x19 + (1 : Int))) w5 < μ x19 w3))))))))) ∧
              ((decide (x19 < ((a2n : Nat) : Int))) = false →
                (Calls Tryz.prog 70 #[(.int .i64 a1)] w3 fun (e30 : Ending) (w6 : World) => ∃ (t30b : Nat) (t30o : Nat), e30 = .returned (.pointer (some ⟨t30b, t30o, none⟩)) ∧
                  (∃ (I_1 : Int → World → Prop) (μ_1 : Int → World → Nat), I_1 0 w6 ∧
                    (∀ (x33 : Int), ∀ w7 : World, I_1 x33 w7 →
                      (((decide (x33 < ((a2n : Nat) : Int))) = true →
                          (∃ (t35b t35o : Nat), a2a = some ⟨t35b, t35o, none⟩ ∧ 0 ≤ x33 ∧ x33 < ((a2n : Nat) : Int) ∧
                            (∃ (t36 : Array Value), (Instr.loadAt 46 (.pointer (some ⟨t35b, t35o + Int.toNat x33 * 33, none⟩))).run Tryz.prog w7 = .ok (.agg t36) w7 ∧
                              (∃ (g12 : Nat) (w8 : World), (Instr.alloc 46 true (.tuple #[])).run Tryz.prog w7 = .ok (.pointer (some ⟨g12, 0, none⟩)) w8 ∧
                                (∃ w9 : World, (Instr.storeAt 46 (.pointer (some ⟨g12, 0, none⟩)) (.agg t36)).run Tryz.prog w8 = .ok () w9 ∧
                                  (∃ (t38 : Array Value), (Instr.loadAt 46 (.pointer (some ⟨g12, 0, none⟩))).run Tryz.prog w9 = .ok (.agg t38) w9 ∧
                                    (Calls Tryz.prog 71 #[(.pointer (some ⟨t30b, t30o, none⟩)), (.agg t38)] w9 fun (e39 : Ending) (w10 : World) => e39 = .returned (.tuple #[]) ∧
                                      (I_1 (IntKind.wrap .i64 (x33 + (1 : Int))) w10 ∧ μ_1 (IntKind.wrap .i64 (x33 + (1 : Int))) w10 < μ_1 x33 w7)))))))) ∧
                        ((decide (x33 < ((a2n : Nat) : Int))) = false →
                          (∃ (t42 : Array Value), (Instr.loadAt 28 (.pointer (some ⟨g3, 0, none⟩))).run Tryz.prog w7 = .ok (.agg t42) w7 ∧
                            (Calls Tryz.prog 72 #[(.pointer (some ⟨t30b, t30o, none⟩)), (.agg t42)] w7 fun (e43 : Ending) (w11 : World) => e43 = .returned (.tuple #[]) ∧
                              (R (.returned (.tuple #[(.pointer (some ⟨t30b, t30o, none⟩)), .nilIface])) w11)))))))))))))))) : Calls Tryz.prog 39 #[(.agg a0), (.int .i64 a1), (.slice a2a a2n a2c)] w R :=
  calls_of_ev (args := [(.agg a0), (.int .i64 a1), (.slice a2a a2n a2c)])
    (tc := .seq (.reg (.op .bx (.op .p (.op .p (.nil))))) (.seq (.seq (.reg (.op .p (.op (.cl [.bool]) (.op .p (.nil))))) (.cond (.seq (.reg (.op .p (.op .p (.op .p (.nil))))) (.leaf)) (.leaf))) (.seq (.seq (.reg (.op .p (.op .p (.op .p (.nil))))) (.blk (.loop [6, 7, 9, 19, 20, 21, 22, 23, 24, 25, 26, 27, 28] [19] [.int .i64] (.seq (.reg (.op .p (.nil))) (.seq (.cond (.leaf) (.leaf)) (.seq (.blk (.seq (.reg (.op .ix (.op (.ld (.agg)) (.op .bx (.op .u (.nil)))))) (.seq (.reg (.op .p (.op (.ld (.slice)) (.op .p (.op .p (.nil)))))) (.cond (.seq (.reg (.op .p (.op .p (.op .p (.nil))))) (.leaf)) (.leaf))))) (.reg (.op .p (.op .p (.nil)))))))))) (.seq (.reg (.op .p (.op (.cl [.ptr]) (.op .p (.nil))))) (.seq (.seq (.reg (.op .p (.op .p (.op .p (.nil))))) (.blk (.loop [12, 33, 34, 35, 36, 37, 38, 39, 40] [33] [.int .i64] (.seq (.reg (.op .p (.nil))) (.seq (.cond (.leaf) (.leaf)) (.seq (.blk (.seq (.reg (.op .ix (.op (.ld (.agg)) (.op .bx (.op .u (.nil)))))) (.reg (.op .p (.op (.ld (.agg)) (.op (.cl []) (.nil))))))) (.reg (.op .p (.op .p (.nil)))))))))) (.seq (.reg (.op .p (.op (.ld (.agg)) (.op (.cl []) (.nil))))) (.seq (.reg (.op .p (.op .p (.op .p (.nil))))) (.leaf))))))))
    (by kernel_rfl) Tryz.func39 (by kernel_rfl) (by kernel_rfl) (by kernel_rfl) (by kernel_rfl) h

set_option maxRecDepth 100000 in
theorem pack_begin_vc (a0 : Int) (w : World) (R : Ending → World → Prop) (h :
  ∃ (t5 : Array Value), (Instr.build 105 #[(1, (.int .i64 a0))]).run Tryz.prog w = .ok (.agg t5) w ∧
  (∃ (g6 : Nat) (w1 : World), (Instr.box 105 (.agg t5)).run Tryz.prog w = .ok (.pointer (some ⟨g6, 0, none⟩)) w1 ∧
    (∃ J : World → Prop, ((∃ (t10a : Option Addr) (t10n : Nat) (t10c : Nat) (w2 : World), (Instr.buildSlice 33 8 #[(0, (.int .u8 97)), (1, (.int .u8 109)), (2, (.int .u8 112)), (3, (.int .u8 104)), (4, (.int .u8 112)), (5, (.int .u8 97)), (6, (.int .u8 99)), (7, (.int .u8 107))]).run Tryz.prog w1.drew = .ok (.slice t10a t10n t10c) w2 ∧
          ((∃ (t11a : Option Addr) (t11n : Nat) (t11c : Nat) (w3 : World), (convert 33 33 (.slice t10a t10n t10c)).run Tryz.prog w2 = .ok (.slice t11a t11n t11c) w3 ∧
              (Calls Tryz.prog 58 #[(.int .i64 a0)] w3 fun (e13 : Ending) (w4 : World) => ∃ (t13a : Option Addr) (t13n : Nat) (t13c : Nat), e13 = .returned (.slice t13a t13n t13c) ∧
                (∃ (t14a : Option Addr) (t14n : Nat) (t14c : Nat) (w5 : World), (Builtin.append_ #[33, 33] 33 #[(.slice t11a t11n t11c), (.slice t13a t13n t13c)]).run Tryz.prog w4 = .ok (.slice t14a t14n t14c) w5 ∧
                  (Calls Tryz.prog 102 #[(.pointer (some ⟨g6, 0, none⟩)), (.slice t14a t14n t14c)] w5 fun (e15 : Ending) (w6 : World) => e15 = .returned (.tuple #[]) ∧
                    (J  w6))))) ∧
            (Calls Tryz.prog 58 #[(.int .i64 a0)] w2 fun (e13 : Ending) (w7 : World) => ∃ (t13a : Option Addr) (t13n : Nat) (t13c : Nat), e13 = .returned (.slice t13a t13n t13c) ∧
              (∃ (t11a : Option Addr) (t11n : Nat) (t11c : Nat) (w8 : World), (convert 33 33 (.slice t10a t10n t10c)).run Tryz.prog w7 = .ok (.slice t11a t11n t11c) w8 ∧
                (∃ (t14a : Option Addr) (t14n : Nat) (t14c : Nat) (w9 : World), (Builtin.append_ #[33, 33] 33 #[(.slice t11a t11n t11c), (.slice t13a t13n t13c)]).run Tryz.prog w8 = .ok (.slice t14a t14n t14c) w9 ∧
                  (Calls Tryz.prog 102 #[(.pointer (some ⟨g6, 0, none⟩)), (.slice t14a t14n t14c)] w9 fun (e15 : Ending) (w10 : World) => e15 = .returned (.tuple #[]) ∧
                    (J  w10))))))) ∧
        (Calls Tryz.prog 58 #[(.int .i64 a0)] w1.drew fun (e13 : Ending) (w11 : World) => ∃ (t13a : Option Addr) (t13n : Nat) (t13c : Nat), e13 = .returned (.slice t13a t13n t13c) ∧
          (∃ (t10a : Option Addr) (t10n : Nat) (t10c : Nat) (w12 : World), (Instr.buildSlice 33 8 #[(0, (.int .u8 97)), (1, (.int .u8 109)), (2, (.int .u8 112)), (3, (.int .u8 104)), (4, (.int .u8 112)), (5, (.int .u8 97)), (6, (.int .u8 99)), (7, (.int .u8 107))]).run Tryz.prog w11 = .ok (.slice t10a t10n t10c) w12 ∧
            (∃ (t11a : Option Addr) (t11n : Nat) (t11c : Nat) (w13 : World), (convert 33 33 (.slice t10a t10n t10c)).run Tryz.prog w12 = .ok (.slice t11a t11n t11c) w13 ∧
              (∃ (t14a : Option Addr) (t14n : Nat) (t14c : Nat) (w14 : World), (Builtin.append_ #[33, 33] 33 #[(.slice t11a t11n t11c), (.slice t13a t13n t13c)]).run Tryz.prog w13 = .ok (.slice t14a t14n t14c) w14 ∧
                (Calls Tryz.prog 102 #[(.pointer (some ⟨g6, 0, none⟩)), (.slice t14a t14n t14c)] w14 fun (e15 : Ending) (w15 : World) => e15 = .returned (.tuple #[]) ∧
                  (J  w15))))))) ∧
      (∀ w16 : World, J  w16 →
        (R (.returned (.pointer (some ⟨g6, 0, none⟩))) w16))))) : Calls Tryz.prog 70 #[(.int .i64 a0)] w R :=
  calls_of_ev (args := [(.int .i64 a0)])
    (tc := .seq (.reg (.op .p (.nil))) (.seq (.reg (.op .p (.op (.ld (.agg)) (.op .bx (.op .p (.nil)))))) (.seq (.join [7, 8, 9, 10, 11, 12, 13, 14, 15] [] [] (.draw (.tk 0 .p (.tk 1 .p (.tk 2 .p (.tk 5 .p (.two 3 (.r (.slice)) (.two 4 (.r (.slice)) (.go 6 (.cl [.slice]) (.go 7 (.r (.slice)) (.go 8 (.cl []) (.nil)))) 6 (.cl [.slice]) (.go 4 (.r (.slice)) (.go 7 (.r (.slice)) (.go 8 (.cl []) (.nil))))) 6 (.cl [.slice]) (.go 3 (.r (.slice)) (.go 4 (.r (.slice)) (.go 7 (.r (.slice)) (.go 8 (.cl []) (.nil)))))))))) [0, 1, 2, 3, 4, 5, 6, 7, 8])) (.seq (.reg (.op .p (.op .p (.nil)))) (.leaf)))))
    (by kernel_rfl) Tryz.func70 (by kernel_rfl) (by kernel_rfl) (by kernel_rfl) (by kernel_rfl) h

set_option maxRecDepth 100000 in
theorem pack_pieces_put_vc (a0b : Nat) (a0o : Nat) (a1a : Option Addr) (a1n : Nat) (a1c : Nat) (w : World) (R : Ending → World → Prop) (h :
  ∃ (t8a : Option Addr) (t8n : Nat) (t8c : Nat), (Instr.loadAt 23 (.pointer (some ⟨a0b, a0o, none⟩))).run Tryz.prog w = .ok (.slice t8a t8n t8c) w ∧
  (∃ (t10a : Option Addr) (t10n : Nat) (t10c : Nat) (w1 : World), (Instr.buildSlice 23 1 #[(0, (.slice a1a a1n a1c))]).run Tryz.prog w = .ok (.slice t10a t10n t10c) w1 ∧
    (∃ (t11a : Option Addr) (t11n : Nat) (t11c : Nat) (w2 : World), (Builtin.append_ #[23, 23] 23 #[(.slice t8a t8n t8c), (.slice t10a t10n t10c)]).run Tryz.prog w1 = .ok (.slice t11a t11n t11c) w2 ∧
      (∃ w3 : World, (Instr.storeAt 23 (.pointer (some ⟨a0b, a0o, none⟩)) (.slice t11a t11n t11c)).run Tryz.prog w2 = .ok () w3 ∧
        (∃ (t17 : Int), (Instr.loadAt 3 (.pointer (some ⟨a0b, a0o + 1, none⟩))).run Tryz.prog w3 = .ok (.int .i64 t17) w3 ∧
          (∃ w4 : World, (Instr.storeAt 3 (.pointer (some ⟨a0b, a0o + 1, none⟩)) (.int .i64 (IntKind.wrap .i64 (t17 + ((a1n : Nat) : Int))))).run Tryz.prog w3 = .ok () w4 ∧
            (R (.returned (.tuple #[])) w4))))))) : Calls Tryz.prog 102 #[(.pointer (some ⟨a0b, a0o, none⟩)), (.slice a1a a1n a1c)] w R :=
  calls_of_ev (args := [(.pointer (some ⟨a0b, a0o, none⟩)), (.slice a1a a1n a1c)])
    (tc := .seq (.reg (.op .p (.op .p (.op .p (.op .p (.op (.ld (.slice)) (.op .p (.op (.r (.slice)) (.op (.r (.slice)) (.op .p (.op .p (.op .u (.nil))))))))))))) (.reg (.op .p (.op .p (.op .p (.op (.ld (.int .i64)) (.op .p (.op .p (.op .p (.op .p (.op .p (.op .u (.nil)))))))))))))
    (by kernel_rfl) Tryz.func102 (by kernel_rfl) (by kernel_rfl) (by kernel_rfl) (by kernel_rfl) h

set_option maxRecDepth 100000 in
theorem pack_file_item_vc (a0b : Nat) (a0o : Nat) (a1 : Array Value) (w : World) (R : Ending → World → Prop) (h :
  ∃ (g3 : Nat) (w1 : World), (Instr.box 46 (.agg a1)).run Tryz.prog w = .ok (.pointer (some ⟨g3, 0, none⟩)) w1 ∧
  (∃ S : World → Prop, S w1.drew ∧
    (0 ≤ ((32 : Nat) : Int) ∧ ((32 : Nat) : Int) ≤ ((32 : Nat) : Int) ∧
      (∃ (t9a : Option Addr) (t9n : Nat) (t9c : Nat), (∀ w' : World, S w' → (Instr.loadAt 33 (.pointer (some ⟨g3, 32, none⟩))).run Tryz.prog w' = .ok (.slice t9a t9n t9c) w') ∧
        (∃ (t10a : Option Addr) (t10n : Nat) (t10c : Nat) (w2 : World), (Instr.buildSlice 23 2 #[(0, (.slice (some ⟨g3, 0, none⟩) (32) 32)), (1, (.slice t9a t9n t9c))]).run Tryz.prog w1.drew = .ok (.slice t10a t10n t10c) w2 ∧
          (∃ S_1 : World → Prop, (∀ w' : World, S_1 w' → S w') ∧ S_1 w2 ∧
            (Calls Tryz.prog 103 #[(.int .u8 2), (.slice t10a t10n t10c)] w2 fun (e11 : Ending) (w3 : World) => ∃ (t11a : Option Addr) (t11n : Nat) (t11c : Nat), e11 = .returned (.slice t11a t11n t11c) ∧
              (∃ S_2 : World → Prop, (∀ w' : World, S_2 w' → S_1 w') ∧ S_2 w3 ∧
                (∃ S_3 : World → Prop, S_3 w3.drew ∧
                  (∃ (t16 : Int), (∀ w' : World, S_3 w' → (Instr.loadAt 3 (.pointer (some ⟨a0b, a0o + 1, none⟩))).run Tryz.prog w' = .ok (.int .i64 t16) w') ∧
                    (∃ (t21a : Option Addr) (t21n : Nat) (t21c : Nat), (∀ w' : World, S_3 w' → (Instr.loadAt 33 (.pointer (some ⟨g3, 32, none⟩))).run Tryz.prog w' = .ok (.slice t21a t21n t21c) w') ∧
                      (Calls Tryz.prog 102 #[(.pointer (some ⟨a0b, a0o, none⟩)), (.slice t11a t11n t11c)] w3.drew fun (e28 : Ending) (w4 : World) => e28 = .returned (.tuple #[]) ∧
                        (∃ S_4 : World → Prop, S_4 w4.drew ∧
                          (∃ (t33a : Option Addr) (t33n : Nat) (t33c : Nat), (∀ w' : World, S_4 w' → (Instr.loadAt 34 (.pointer (some ⟨a0b, a0o + 3, none⟩))).run Tryz.prog w' = .ok (.slice t33a t33n t33c) w') ∧
                            (∃ (t35 : Array Value), (∀ w' : World, S_4 w' → (Instr.loadAt 44 (.pointer (some ⟨g3, 0, none⟩))).run Tryz.prog w' = .ok (.agg t35) w') ∧
                              (∃ (t39 : Int), (∀ w' : World, S_4 w' → (Instr.loadAt 3 (.pointer (some ⟨a0b, a0o + 2, none⟩))).run Tryz.prog w' = .ok (.int .i64 t39) w') ∧
                                (∃ (t42a : Option Addr) (t42n : Nat) (t42c : Nat), (∀ w' : World, S_4 w' → (Instr.loadAt 33 (.pointer (some ⟨g3, 32, none⟩))).run Tryz.prog w' = .ok (.slice t42a t42n t42c) w') ∧
                                  (∃ (t44 : Array Value), (∀ w' : World, S_4 w' → (Instr.build 75 #[(0, (.agg t35)), (1, (.int .i64 t39)), (2, (.int .i64 (IntKind.wrap .i64 ((IntKind.wrap .i64 (t16 + ((t11n : Nat) : Int))) - ((t21n : Nat) : Int))))), (3, (.int .i64 ((t42n : Nat) : Int)))]).run Tryz.prog w' = .ok (.agg t44) w') ∧
                                    (∃ (t45a : Option Addr) (t45n : Nat) (t45c : Nat) (w5 : World), (Instr.buildSlice 34 1 #[(0, (.agg t44))]).run Tryz.prog w4.drew = .ok (.slice t45a t45n t45c) w5 ∧
                                      (∃ S_5 : World → Prop, (∀ w' : World, S_5 w' → S_4 w') ∧ S_5 w5 ∧
                                        (∃ (t46a : Option Addr) (t46n : Nat) (t46c : Nat) (w6 : World), (Builtin.append_ #[34, 34] 34 #[(.slice t33a t33n t33c), (.slice t45a t45n t45c)]).run Tryz.prog w5 = .ok (.slice t46a t46n t46c) w6 ∧
                                          (∃ S_6 : World → Prop, (∀ w' : World, S_6 w' → S_5 w') ∧ S_6 w6 ∧
                                            (∃ w7 : World, (Instr.storeAt 34 (.pointer (some ⟨a0b, a0o + 3, none⟩)) (.slice t46a t46n t46c)).run Tryz.prog w6 = .ok () w7 ∧
                                              (R (.returned (.tuple #[])) w7)))))))))))))))))))))))) : Calls Tryz.prog 71 #[(.pointer (some ⟨a0b, a0o, none⟩)), (.agg a1)] w R :=
  calls_of_ev (args := [(.pointer (some ⟨a0b, a0o, none⟩)), (.agg a1)])
    (tc := .seq (.reg (.op .bx (.nil))) (.seq (.drawS (.tk 0 .p (.tk 1 .sl (.tk 2 .p (.ts 3 (.slice) (.go 4 (.r (.slice)) (.go 5 (.cl [.slice]) (.tk 6 .p (.nil)))))))) []) (.seq (.drawS (.tk 0 .p (.tk 1 .p (.tk 2 .p (.tk 3 .p (.tk 5 .p (.tk 6 .p (.tk 8 .p (.ts 4 (.int .i64) (.tk 7 .p (.ts 9 (.slice) (.tk 10 .p (.tk 11 .p (.tk 12 .p (.nil)))))))))))))) []) (.seq (.reg (.op .p (.op .p (.op .p (.op .p (.op (.cl []) (.nil))))))) (.drawS (.tk 0 .p (.tk 1 .p (.tk 2 .p (.tk 3 .p (.tk 5 .p (.tk 7 .p (.tk 8 .p (.tk 9 .p (.tk 11 .p (.tk 12 .p (.ts 4 (.slice) (.ts 6 (.agg) (.ts 10 (.int .i64) (.ts 13 (.slice) (.tk 14 .p (.ts 15 (.agg) (.go 16 (.r (.slice)) (.go 17 (.r (.slice)) (.tk 18 .p (.tk 19 .p (.go 20 .u (.nil)))))))))))))))))))))) [20])))))
    (by kernel_rfl) Tryz.func71 (by kernel_rfl) (by kernel_rfl) (by kernel_rfl) (by kernel_rfl) h

set_option maxRecDepth 100000 in
theorem pack_file_foot_vc (a0b : Nat) (a0o : Nat) (a1 : Array Value) (w : World) (R : Ending → World → Prop) (h :
  ∃ (g3 : Nat) (w1 : World), (Instr.box 28 (.agg a1)).run Tryz.prog w = .ok (.pointer (some ⟨g3, 0, none⟩)) w1 ∧
  (∃ S : World → Prop, S w1.drew ∧
    (∃ (t7 : Array Value), (∀ w' : World, S w' → (Instr.loadAt 28 (.pointer (some ⟨g3, 0, none⟩))).run Tryz.prog w' = .ok (.agg t7) w') ∧
      (∃ (t11 : Int), (∀ w' : World, S w' → (Instr.loadAt 3 (.pointer (some ⟨a0b, a0o + 2, none⟩))).run Tryz.prog w' = .ok (.int .i64 t11) w') ∧
        (∃ (t16a : Option Addr) (t16n : Nat) (t16c : Nat), (∀ w' : World, S w' → (Instr.loadAt 34 (.pointer (some ⟨a0b, a0o + 3, none⟩))).run Tryz.prog w' = .ok (.slice t16a t16n t16c) w') ∧
          (Calls Tryz.prog 58 #[(.int .i64 t11)] w1.drew fun (e12 : Ending) (w2 : World) => ∃ (t12a : Option Addr) (t12n : Nat) (t12c : Nat), e12 = .returned (.slice t12a t12n t12c) ∧
            (∃ S_1 : World → Prop, (∀ w' : World, S_1 w' → S w') ∧ S_1 w2 ∧
              (Calls Tryz.prog 60 #[(.slice t16a t16n t16c)] w2 fun (e17 : Ending) (w3 : World) => ∃ (t17a : Option Addr) (t17n : Nat) (t17c : Nat), e17 = .returned (.slice t17a t17n t17c) ∧
                (∃ S_2 : World → Prop, (∀ w' : World, S_2 w' → S_1 w') ∧ S_2 w3 ∧
                  (Calls Tryz.prog 104 #[(.agg t7), (.int .u8 3), (.slice t12a t12n t12c), (.slice t17a t17n t17c)] w3 fun (e18 : Ending) (w4 : World) => ∃ (t18a : Option Addr) (t18n : Nat) (t18c : Nat), e18 = .returned (.slice t18a t18n t18c) ∧
                    (∃ S_3 : World → Prop, (∀ w' : World, S_3 w' → S_2 w') ∧ S_3 w4 ∧
                      (∃ (t19a : Option Addr) (t19n : Nat) (t19c : Nat) (w5 : World), (Instr.buildSlice 23 1 #[(0, (.slice t18a t18n t18c))]).run Tryz.prog w4 = .ok (.slice t19a t19n t19c) w5 ∧
                        (∃ S_4 : World → Prop, (∀ w' : World, S_4 w' → S_3 w') ∧ S_4 w5 ∧
                          (Calls Tryz.prog 103 #[(.int .u8 3), (.slice t19a t19n t19c)] w5 fun (e20 : Ending) (w6 : World) => ∃ (t20a : Option Addr) (t20n : Nat) (t20c : Nat), e20 = .returned (.slice t20a t20n t20c) ∧
                            (∃ S_5 : World → Prop, (∀ w' : World, S_5 w' → S_4 w') ∧ S_5 w6 ∧
                              (Calls Tryz.prog 102 #[(.pointer (some ⟨a0b, a0o, none⟩)), (.slice t20a t20n t20c)] w6 fun (e21 : Ending) (w7 : World) => e21 = .returned (.tuple #[]) ∧
                                (∃ S_6 : World → Prop, (∀ w' : World, S_6 w' → S_5 w') ∧ S_6 w7 ∧
                                  (R (.returned (.tuple #[])) w7)))))))))))))))))) : Calls Tryz.prog 72 #[(.pointer (some ⟨a0b, a0o, none⟩)), (.agg a1)] w R :=
  calls_of_ev (args := [(.pointer (some ⟨a0b, a0o, none⟩)), (.agg a1)])
    (tc := .seq (.reg (.op .bx (.nil))) (.drawS (.tk 0 .p (.tk 1 .p (.tk 2 .p (.tk 4 .p (.tk 5 .p (.tk 6 .p (.tk 9 .p (.tk 10 .p (.tk 11 .p (.ts 3 (.agg) (.ts 7 (.int .i64) (.ts 12 (.slice) (.go 8 (.cl [.slice]) (.go 13 (.cl [.slice]) (.go 14 (.cl [.slice]) (.go 15 (.r (.slice)) (.go 16 (.cl [.slice]) (.go 17 (.cl []) (.nil))))))))))))))))))) []))
    (by kernel_rfl) Tryz.func72 (by kernel_rfl) (by kernel_rfl) (by kernel_rfl) (by kernel_rfl) h

set_option maxRecDepth 100000 in
theorem pack_footPlain_vc (a0a : Option Addr) (a0n : Nat) (a0c : Nat) (w : World) (R : Ending → World → Prop) (h :
  ∃ (I : Option Addr → Nat → Nat → Int → World → Prop) (μ : Option Addr → Nat → Nat → Int → World → Nat), I none 0 0 0 w ∧
  (∀ (x3a : Option Addr) (x3n : Nat) (x3c : Nat) (x8 : Int), ∀ w1 : World, I x3a x3n x3c x8 w1 →
    (((decide (x8 < ((a0n : Nat) : Int))) = true →
        (∃ (t10b t10o : Nat), a0a = some ⟨t10b, t10o, none⟩ ∧ 0 ≤ x8 ∧ x8 < ((a0n : Nat) : Int) ∧
          (∃ (t11 : Array Value), (Instr.loadAt 75 (.pointer (some ⟨t10b, t10o + Int.toNat x8 * 35, none⟩))).run Tryz.prog w1 = .ok (.agg t11) w1 ∧
            (∃ (g5 : Nat) (w2 : World), (Instr.alloc 75 true (.tuple #[])).run Tryz.prog w1 = .ok (.pointer (some ⟨g5, 0, none⟩)) w2 ∧
              (∃ w3 : World, (Instr.storeAt 75 (.pointer (some ⟨g5, 0, none⟩)) (.agg t11)).run Tryz.prog w2 = .ok () w3 ∧
                (0 ≤ ((32 : Nat) : Int) ∧ ((32 : Nat) : Int) ≤ ((32 : Nat) : Int) ∧
                  (∃ (t15a : Option Addr) (t15n : Nat) (t15c : Nat) (w4 : World), (Builtin.append_ #[33, 33] 33 #[(.slice x3a x3n x3c), (.slice (some ⟨g5, 0, none⟩) (32) 32)]).run Tryz.prog w3 = .ok (.slice t15a t15n t15c) w4 ∧
                    (∃ (t18 : Int), (Instr.loadAt 3 (.pointer (some ⟨g5, 33, none⟩))).run Tryz.prog w4 = .ok (.int .i64 t18) w4 ∧
                      (Calls Tryz.prog 58 #[(.int .i64 t18)] w4 fun (e19 : Ending) (w5 : World) => ∃ (t19a : Option Addr) (t19n : Nat) (t19c : Nat), e19 = .returned (.slice t19a t19n t19c) ∧
                        (∃ (t20a : Option Addr) (t20n : Nat) (t20c : Nat) (w6 : World), (Builtin.append_ #[33, 33] 33 #[(.slice t15a t15n t15c), (.slice t19a t19n t19c)]).run Tryz.prog w5 = .ok (.slice t20a t20n t20c) w6 ∧
                          (∃ (t23 : Int), (Instr.loadAt 3 (.pointer (some ⟨g5, 34, none⟩))).run Tryz.prog w6 = .ok (.int .i64 t23) w6 ∧
                            (Calls Tryz.prog 58 #[(.int .i64 t23)] w6 fun (e24 : Ending) (w7 : World) => ∃ (t24a : Option Addr) (t24n : Nat) (t24c : Nat), e24 = .returned (.slice t24a t24n t24c) ∧
                              (∃ (t25a : Option Addr) (t25n : Nat) (t25c : Nat) (w8 : World), (Builtin.append_ #[33, 33] 33 #[(.slice t20a t20n t20c), (.slice t24a t24n t24c)]).run Tryz.prog w7 = .ok (.slice t25a t25n t25c) w8 ∧
                                (I t25a t25n t25c (IntKind.wrap .i64 (x8 + (1 : Int))) w8 ∧ μ t25a t25n t25c (IntKind.wrap .i64 (x8 + (1 : Int))) w8 < μ x3a x3n x3c x8 w1)))))))))))))) ∧
      ((decide (x8 < ((a0n : Nat) : Int))) = false →
        (R (.returned (.slice x3a x3n x3c)) w1))))) : Calls Tryz.prog 60 #[(.slice a0a a0n a0c)] w R :=
  calls_of_ev (args := [(.slice a0a a0n a0c)])
    (tc := .seq (.reg (.op .p (.nil))) (.seq (.reg (.op .p (.nil))) (.seq (.seq (.reg (.op .p (.op .p (.op .p (.nil))))) (.blk (.loop [3, 5, 8, 9, 10, 11, 12, 13, 14, 15, 16, 17, 18, 19, 20, 21, 22, 23, 24, 25, 26] [3, 8] [.slice, .int .i64] (.seq (.reg (.op .p (.nil))) (.seq (.cond (.leaf) (.leaf)) (.seq (.blk (.seq (.reg (.op .ix (.op (.ld (.agg)) (.op .bx (.op .u (.nil)))))) (.seq (.reg (.op .p (.op .p (.op .sl (.op (.r (.slice)) (.op .p (.nil))))))) (.seq (.reg (.op .p (.op .p (.op (.ld (.int .i64)) (.op (.cl [.slice]) (.op (.r (.slice)) (.op .p (.nil)))))))) (.reg (.op .p (.op .p (.op (.ld (.int .i64)) (.op (.cl [.slice]) (.op (.r (.slice)) (.op .p (.nil)))))))))))) (.reg (.op .p (.op .p (.nil)))))))))) (.seq (.reg (.op .p (.op .p (.nil)))) (.leaf)))))
    (by kernel_rfl) Tryz.func60 (by kernel_rfl) (by kernel_rfl) (by kernel_rfl) (by kernel_rfl) h

set_option maxRecDepth 100000 in
theorem pack_good_vc (a0 : Int) (w : World) (R : Ending → World → Prop) (h :
  R (.returned (.bool ((decide (a0 ≥ (0 : Int))) && (decide (a0 ≤ (1099511627776 : Int)))))) w) : Calls Tryz.prog 43 #[(.int .i64 a0)] w R :=
  calls_of_ev (args := [(.int .i64 a0)])
    (tc := .seq (.reg (.op .p (.nil))) (.seq (.reg (.op .p (.op .p (.op .p (.ap 2 (.op .p (.nil))))))) (.leaf)))
    (by kernel_rfl) Tryz.func43 (by kernel_rfl) (by kernel_rfl) (by kernel_rfl) (by kernel_rfl) h

set_option maxRecDepth 100000 in
theorem pack_head_vc (a0a : Option Addr) (a0n : Nat) (a0c : Nat) (w : World) (R : Ending → World → Prop) (h :
  ∃ J : Bool → World → Prop, (((decide (((a0n : Nat) : Int) < (16 : Int))) = true →
      (J true w)) ∧
    ((decide (((a0n : Nat) : Int) < (16 : Int))) = false →
      (0 ≤ (8 : Int) ∧ (8 : Int) ≤ ((a0c : Nat) : Int) ∧
        (∃ (t12 : ByteArray), (convert 33 9 (.slice a0a 8 a0c)).run Tryz.prog w = .ok (.string t12) w ∧
          (J (!(t12.toList == (ByteArray.mk #[97, 109, 112, 104, 112, 97, 99, 107]).toList)) w))))) ∧
  (∀ (x14 : Bool), ∀ w1 : World, J x14 w1 →
    ((x14 = true →
        (R (.returned (.tuple #[(.int .i64 0), (.bool false)])) w1)) ∧
      (x14 = false →
        (0 ≤ (8 : Int) ∧ (8 : Int) ≤ (16 : Int) ∧ (16 : Int) ≤ ((a0c : Nat) : Int) ∧ ∀ t17a : Option Addr, SubA 1 a0a 8 a0c t17a →
          (Calls Tryz.prog 87 #[(.slice t17a 8 (a0c - 8))] w1 fun (e18 : Ending) (w2 : World) => ∃ (t18_0 : Int) (t18_1 : Value), e18 = .returned (.tuple #[(.int .i64 t18_0), t18_1]) ∧
            (∃ (t23 : Bool), (eqlS .eql 36 (.tmp 22) (.const .nilIface) t18_1 .nilIface).run Tryz.prog w2 = .ok (.bool t23) w2 ∧
              ((t23 = true →
                  (Calls Tryz.prog 43 #[(.int .i64 t18_0)] w2 fun (e26 : Ending) (w3 : World) => ∃ (t26 : Bool), e26 = .returned (.bool t26) ∧
                    (R (.returned (.tuple #[(.int .i64 t18_0), (.bool t26)])) w3))) ∧
                (t23 = false →
                  (R (.returned (.tuple #[(.int .i64 t18_0), (.bool false)])) w2)))))))))) : Calls Tryz.prog 55 #[(.slice a0a a0n a0c)] w R :=
  calls_of_ev (args := [(.slice a0a a0n a0c)])
    (tc := .seq (.reg (.op .p (.op .p (.nil)))) (.seq (.seq (.join [6, 7, 8, 9, 10, 11, 12, 13, 14] [14] [.bool] (.reg (.op .p (.op .p (.op .p (.op .p (.sp 9 (.op .p (.op .p (.op .p (.op .p (.op .p (.nil)))))) (.op .p (.op .sl (.op (.ld (.str)) (.op .p (.op .p (.nil))))))))))))) (.cond (.seq (.reg (.op .p (.op .p (.nil)))) (.leaf)) (.leaf))) (.seq (.reg (.op .p (.op .sl (.op (.cl [.int .i64, .val]) (.op .p (.op .p (.op .p (.op .p (.op .p (.nil)))))))))) (.seq (.reg (.op .p (.op .p (.op (.ld (.bool)) (.op .p (.sp 24 (.op .p (.op (.cl [.bool]) (.op .p (.op .p (.op .p (.nil)))))) (.op .p (.op .p (.op .p (.op .p (.op .p (.nil)))))))))))) (.leaf)))))
    (by kernel_rfl) Tryz.func55 (by kernel_rfl) (by kernel_rfl) (by kernel_rfl) (by kernel_rfl) h

set_option maxRecDepth 100000 in
theorem pack_scanned_vc (a0 : Int) (a1a : Option Addr) (a1n : Nat) (a1c : Nat) (w : World) (R : Ending → World → Prop) (h :
  0 ≤ (16 : Int) ∧ (16 : Int) ≤ ((a1n : Nat) : Int) ∧ ((a1n : Nat) : Int) ≤ ((a1c : Nat) : Int) ∧ ∀ t13a : Option Addr, SubA 1 a1a 16 a1c t13a →
  (Calls Tryz.prog 88 #[(.slice t13a ((a1n) - 16) (a1c - 16))] w fun (e14 : Ending) (w1 : World) => ∃ (t14_0a : Option Addr) (t14_0n : Nat) (t14_0c : Nat) (t14_1 : Int), e14 = .returned (.tuple #[(.slice t14_0a t14_0n t14_0c), (.int .i64 t14_1)]) ∧
    (∃ (g8 : Nat) (w2 : World), (Instr.alloc 132 true (.tuple #[])).run Tryz.prog w1 = .ok (.pointer (some ⟨g8, 0, none⟩)) w2 ∧
      (∃ (g9 : Nat) (w3 : World), (Instr.alloc 3 true (.tuple #[])).run Tryz.prog w2 = .ok (.pointer (some ⟨g9, 0, none⟩)) w3 ∧
        (∃ w4 : World, (Instr.storeAt 132 (.pointer (some ⟨g8, 0, none⟩)) (.slice t14_0a t14_0n t14_0c)).run Tryz.prog w3 = .ok () w4 ∧
          (∃ w5 : World, (Instr.storeAt 3 (.pointer (some ⟨g9, 0, none⟩)) (.int .i64 t14_1)).run Tryz.prog w4 = .ok () w5 ∧
            (∃ (t17 : Value) (w6 : World), (Instr.makeFunc (.func 89) #[] #[(.pointer (some ⟨g8, 0, none⟩)), (.pointer (some ⟨g9, 0, none⟩))]).run Tryz.prog w5 = .ok t17 w6 ∧
              (∃ S : World → Prop, S w6.drew ∧
                (∃ (t18a : Option Addr) (t18n : Nat) (t18c : Nat), (∀ w' : World, S w' → (Instr.loadAt 132 (.pointer (some ⟨g8, 0, none⟩))).run Tryz.prog w' = .ok (.slice t18a t18n t18c) w') ∧
                  (∃ (t20a : Option Addr) (t20n : Nat) (t20c : Nat), (∀ w' : World, S w' → (Instr.loadAt 132 (.pointer (some ⟨g8, 0, none⟩))).run Tryz.prog w' = .ok (.slice t20a t20n t20c) w') ∧
                    (∃ (t24 : Int), (∀ w' : World, S w' → (Instr.loadAt 3 (.pointer (some ⟨g9, 0, none⟩))).run Tryz.prog w' = .ok (.int .i64 t24) w') ∧
                      (Calls Tryz.prog 90 #[(.int .i64 a0), (.slice t20a t20n t20c), t17] w6.drew fun (e22 : Ending) (w7 : World) => ∃ (t22a : Option Addr) (t22n : Nat) (t22c : Nat), e22 = .returned (.slice t22a t22n t22c) ∧
                        (∃ S_1 : World → Prop, (∀ w' : World, S_1 w' → S w') ∧ S_1 w7 ∧
                          (R (.returned (.tuple #[(.slice t18a t18n t18c), (.slice t22a t22n t22c), t17, (.int .i64 (IntKind.wrap .i64 ((16 : Int) + t24)))])) w7)))))))))))))) : Calls Tryz.prog 56 #[(.int .i64 a0), (.slice a1a a1n a1c)] w R :=
  calls_of_ev (args := [(.int .i64 a0), (.slice a1a a1n a1c)])
    (tc := .seq (.reg (.op .p (.op .p (.op .p (.op .p (.nil)))))) (.seq (.reg (.op .p (.op .sl (.op (.cl [.slice, .int .i64]) (.op .p (.op .p (.op .p (.op .bx (.op .bx (.op .u (.op .u (.nil)))))))))))) (.seq (.reg (.op (.r (.val)) (.op .p (.nil)))) (.seq (.drawS (.tk 1 .p (.tk 3 .p (.tk 5 .p (.ts 0 (.slice) (.ts 2 (.slice) (.ts 6 (.int .i64) (.tk 7 .p (.go 4 (.cl [.slice]) (.tk 8 .p (.tk 9 .p (.tk 10 .p (.tk 11 .p (.nil))))))))))))) []) (.leaf)))))
    (by kernel_rfl) Tryz.func56 (by kernel_rfl) (by kernel_rfl) (by kernel_rfl) (by kernel_rfl) h

set_option maxRecDepth 100000 in
theorem pack_scanned_1_vc (a0 : Int) (a1b : Nat) (a1o : Nat) (a2b : Nat) (a2o : Nat) (w : World) (R : Ending → World → Prop) (h :
  ∃ (t7a : Option Addr) (t7n : Nat) (t7c : Nat), (Instr.loadAt 132 (.pointer (some ⟨a1b, a1o, none⟩))).run Tryz.prog w = .ok (.slice t7a t7n t7c) w ∧
  (((decide ((IntKind.wrap .i64 (a0 + (1 : Int))) < ((t7n : Nat) : Int))) = true →
      (∃ (t10a : Option Addr) (t10n : Nat) (t10c : Nat), (Instr.loadAt 132 (.pointer (some ⟨a1b, a1o, none⟩))).run Tryz.prog w = .ok (.slice t10a t10n t10c) w ∧
        (∃ (t13b t13o : Nat), t10a = some ⟨t13b, t13o, none⟩ ∧ 0 ≤ (IntKind.wrap .i64 (a0 + (1 : Int))) ∧ (IntKind.wrap .i64 (a0 + (1 : Int))) < ((t10n : Nat) : Int) ∧
          (∃ (t15 : Int), (Instr.loadAt 3 (.pointer (some ⟨t13b, t13o + Int.toNat (IntKind.wrap .i64 (a0 + (1 : Int))) * 3 + 2, none⟩))).run Tryz.prog w = .ok (.int .i64 t15) w ∧
            (R (.returned (.int .i64 (IntKind.wrap .i64 ((16 : Int) + t15)))) w))))) ∧
    ((decide ((IntKind.wrap .i64 (a0 + (1 : Int))) < ((t7n : Nat) : Int))) = false →
      (∃ (t17 : Int), (Instr.loadAt 3 (.pointer (some ⟨a2b, a2o, none⟩))).run Tryz.prog w = .ok (.int .i64 t17) w ∧
        (R (.returned (.int .i64 (IntKind.wrap .i64 ((16 : Int) + t17)))) w))))) : Calls Tryz.prog 89 #[(.int .i64 a0), (.pointer (some ⟨a1b, a1o, none⟩)), (.pointer (some ⟨a2b, a2o, none⟩))] w R :=
  calls_of_ev (args := [(.int .i64 a0), (.pointer (some ⟨a1b, a1o, none⟩)), (.pointer (some ⟨a2b, a2o, none⟩))])
    (tc := .seq (.reg (.op .p (.nil))) (.seq (.seq (.reg (.op .p (.op .p (.op (.ld (.slice)) (.op .p (.op .p (.nil))))))) (.cond (.seq (.reg (.op (.ld (.slice)) (.op .p (.op .p (.op .ix (.op .p (.op (.ld (.int .i64)) (.op .p (.op .p (.nil)))))))))) (.leaf)) (.leaf))) (.seq (.reg (.op (.ld (.int .i64)) (.op .p (.op .p (.nil))))) (.leaf))))
    (by kernel_rfl) Tryz.func89 (by kernel_rfl) (by kernel_rfl) (by kernel_rfl) (by kernel_rfl) h

set_option maxRecDepth 100000 in
theorem pack_refs_vc (a0 : Int) (a1a : Option Addr) (a1n : Nat) (a1c : Nat) (a2 : Value) (w : World) (R : Ending → World → Prop) (h :
  ∃ (I : Option Addr → Nat → Nat → Int → World → Prop) (μ : Option Addr → Nat → Nat → Int → World → Nat), I none 0 0 0 w ∧
  (∀ (x7a : Option Addr) (x7n : Nat) (x7c : Nat) (x13 : Int), ∀ w1 : World, I x7a x7n x7c x13 w1 →
    (((decide (x13 < ((a1n : Nat) : Int))) = true →
        (∃ (t16b t16o : Nat), a1a = some ⟨t16b, t16o, none⟩ ∧ 0 ≤ x13 ∧ x13 < ((a1n : Nat) : Int) ∧
          (∃ (t17 : Array Value), (Instr.loadAt 137 (.pointer (some ⟨t16b, t16o + Int.toNat x13 * 3, none⟩))).run Tryz.prog w1 = .ok (.agg t17) w1 ∧
            (∃ (g9 : Nat) (w2 : World), (Instr.alloc 137 true (.tuple #[])).run Tryz.prog w1 = .ok (.pointer (some ⟨g9, 0, none⟩)) w2 ∧
              (∃ w3 : World, (Instr.storeAt 137 (.pointer (some ⟨g9, 0, none⟩)) (.agg t17)).run Tryz.prog w2 = .ok () w3 ∧
                (∃ J : Bool → World → Prop, (∃ (t19 : Int), (Instr.loadAt 3 (.pointer (some ⟨g9, 0, none⟩))).run Tryz.prog w3 = .ok (.int .i64 t19) w3 ∧
                    (((t19 != (2 : Int)) = true →
                        (J true w3)) ∧
                      ((t19 != (2 : Int)) = false →
                        (∃ (t23a : Option Addr) (t23n : Nat) (t23c : Nat), (Instr.loadAt 33 (.pointer (some ⟨g9, 1, none⟩))).run Tryz.prog w3 = .ok (.slice t23a t23n t23c) w3 ∧
                          (J (decide (((t23n : Nat) : Int) < (32 : Int))) w3))))) ∧
                  (∀ (x26 : Bool), ∀ w4 : World, J x26 w4 →
                    ((x26 = true →
                        (R (.returned (.slice x7a x7n x7c)) w4)) ∧
                      (x26 = false →
                        (∃ (t28a : Option Addr) (t28n : Nat) (t28c : Nat), (Instr.loadAt 33 (.pointer (some ⟨g9, 1, none⟩))).run Tryz.prog w4 = .ok (.slice t28a t28n t28c) w4 ∧
                          (∃ S : World → Prop, S w4.drew ∧
                            (∃ (t33a : Option Addr) (t33n : Nat) (t33c : Nat), (∀ w' : World, S w' → (Instr.loadAt 33 (.pointer (some ⟨g9, 1, none⟩))).run Tryz.prog w' = .ok (.slice t33a t33n t33c) w') ∧
                              (0 ≤ (32 : Int) ∧ (32 : Int) ≤ ((t33c : Nat) : Int) ∧
                                (∃ (t35 : Value), (∀ w' : World, S w' → (Instr.arrayAt 44 (.slice t33a 32 t33c)).run Tryz.prog w' = .ok t35 w') ∧
                                  (∃ (t36 : Array Value), (∀ w' : World, S w' → (Instr.loadAt 44 t35).run Tryz.prog w' = .ok (.agg t36) w') ∧
                                    (∃ (f40 : Nat) (cb40 : List Value), a2 = .func (.func f40) #[] ⟨cb40⟩ ∧ goesIn Tryz.prog f40 = true ∧
                                      Calls Tryz.prog f40 (([(.int .i64 x13)] : List Value) ++ cb40).toArray w4.drew fun (e40 : Ending) (w5 : World) => ∃ (t40 : Int), e40 = .returned (.int .i64 t40) ∧
                                      (∃ S_1 : World → Prop, (∀ w' : World, S_1 w' → S w') ∧ S_1 w5 ∧
                                        (∃ (t44 : Array Value), (∀ w' : World, S_1 w' → (Instr.build 75 #[(0, (.agg t36)), (1, (.int .i64 a0)), (2, (.int .i64 (IntKind.wrap .i64 (t40 - (IntKind.wrap .i64 (((t28n : Nat) : Int) - (32 : Int))))))), (3, (.int .i64 (IntKind.wrap .i64 (((t28n : Nat) : Int) - (32 : Int)))))]).run Tryz.prog w' = .ok (.agg t44) w') ∧
                                          (∃ (t45a : Option Addr) (t45n : Nat) (t45c : Nat) (w6 : World), (Instr.buildSlice 34 1 #[(0, (.agg t44))]).run Tryz.prog w5 = .ok (.slice t45a t45n t45c) w6 ∧
                                            (∃ S_2 : World → Prop, (∀ w' : World, S_2 w' → S_1 w') ∧ S_2 w6 ∧
                                              (∃ (t46a : Option Addr) (t46n : Nat) (t46c : Nat) (w7 : World), (Builtin.append_ #[34, 34] 34 #[(.slice x7a x7n x7c), (.slice t45a t45n t45c)]).run Tryz.prog w6 = .ok (.slice t46a t46n t46c) w7 ∧
                                                (∃ S_3 : World → Prop, (∀ w' : World, S_3 w' → S_2 w') ∧ S_3 w7 ∧
                                                  (I t46a t46n t46c (IntKind.wrap .i64 (x13 + (1 : Int))) w7 ∧ μ t46a t46n t46c (IntKind.wrap .i64 (x13 + (1 : Int))) w7 < μ x7a x7n x7c x13 w1))))))))))))))))))))))) ∧
      ((decide (x13 < ((a1n : Nat) : Int))) = false →
        (R (.returned (.slice x7a x7n x7c)) w1))))) : Calls Tryz.prog 90 #[(.int .i64 a0), (.slice a1a a1n a1c), a2] w R :=
  calls_of_ev (args := [(.int .i64 a0), (.slice a1a a1n a1c), a2])
    (tc := .seq (.reg (.op .p (.nil))) (.seq (.reg (.op .p (.nil))) (.seq (.seq (.reg (.op .p (.op .p (.op .p (.nil))))) (.blk (.loop [7, 8, 9, 10, 13, 14, 15, 16, 17, 18, 19, 20, 21, 22, 23, 24, 25, 26, 27, 28, 29, 30, 31, 32, 33, 34, 35, 36, 37, 38, 39, 40, 41, 42, 43, 44, 45, 46, 47] [7, 13] [.slice, .int .i64] (.seq (.reg (.op .p (.nil))) (.seq (.cond (.leaf) (.leaf)) (.seq (.blk (.seq (.reg (.op .p (.op .ix (.op (.ld (.agg)) (.op .bx (.op .p (.op .u (.nil)))))))) (.seq (.seq (.join [18, 19, 20, 21, 22, 23, 24, 25, 26] [26] [.bool] (.reg (.op .p (.op (.ld (.int .i64)) (.op .p (.op .p (.sp 21 (.op .p (.op .p (.op .p (.op .p (.op .p (.nil)))))) (.op .p (.op (.ld (.slice)) (.op .p (.op .p (.op .p (.nil))))))))))))) (.cond (.leaf) (.leaf))) (.seq (.reg (.op .p (.op (.ld (.slice)) (.op .p (.op .p (.op .p (.nil))))))) (.drawS (.tk 0 .p (.tk 1 .p (.tk 6 .p (.tk 7 .p (.tk 8 .p (.tk 10 .p (.tk 12 .p (.ts 2 (.slice) (.tk 3 .sl (.ts 4 (.val) (.ts 5 (.agg) (.go 9 (.cv [.int .i64]) (.tk 11 .p (.ts 13 (.agg) (.go 14 (.r (.slice)) (.go 15 (.r (.slice)) (.tk 16 .p (.nil)))))))))))))))))) []))))) (.reg (.op .p (.op .p (.nil)))))))))) (.seq (.reg (.op .p (.op .p (.nil)))) (.leaf)))))
    (by kernel_rfl) Tryz.func90 (by kernel_rfl) (by kernel_rfl) (by kernel_rfl) (by kernel_rfl) h

set_option maxRecDepth 100000 in
theorem pack_Open_vc (a0 : Array Value) (a1 : Int) (a2a : Option Addr) (a2n : Nat) (a2c : Nat) (w : World) (R : Ending → World → Prop) (h :
  ∃ (g3 : Nat) (w1 : World), (Instr.box 28 (.agg a0)).run Tryz.prog w = .ok (.pointer (some ⟨g3, 0, none⟩)) w1 ∧
  (Calls Tryz.prog 43 #[(.int .i64 a1)] w1 fun (e17 : Ending) (w2 : World) => ∃ (t17 : Bool), e17 = .returned (.bool t17) ∧
    (((!t17) = true →
        (R (.returned (.tuple #[(.slice none 0 0), (.iface 69 (.int .i64 28))])) w2)) ∧
      ((!t17) = false →
        (Calls Tryz.prog 55 #[(.slice a2a a2n a2c)] w2 fun (e22 : Ending) (w3 : World) => ∃ (t22_0 : Int) (t22_1 : Bool), e22 = .returned (.tuple #[(.int .i64 t22_0), (.bool t22_1)]) ∧
          ((((!t22_1) || (t22_0 != a1)) = true →
              (R (.returned (.tuple #[(.slice none 0 0), (.iface 69 (.int .i64 17))])) w3)) ∧
            (((!t22_1) || (t22_0 != a1)) = false →
              (Calls Tryz.prog 56 #[(.int .i64 a1), (.slice a2a a2n a2c)] w3 fun (e36 : Ending) (w4 : World) => ∃ (t36_0a : Option Addr) (t36_0n : Nat) (t36_0c : Nat) (t36_1a : Option Addr) (t36_1n : Nat) (t36_1c : Nat) (t36_2 : Value) (t36_3 : Int), e36 = .returned (.tuple #[(.slice t36_0a t36_0n t36_0c), (.slice t36_1a t36_1n t36_1c), t36_2, (.int .i64 t36_3)]) ∧
                (∃ J : Bool → World → Prop, ((((t36_3 != ((a2n : Nat) : Int)) || (((t36_0n : Nat) : Int) != (IntKind.wrap .i64 (((t36_1n : Nat) : Int) + (1 : Int))))) = true →
                      (J true w4)) ∧
                    (((t36_3 != ((a2n : Nat) : Int)) || (((t36_0n : Nat) : Int) != (IntKind.wrap .i64 (((t36_1n : Nat) : Int) + (1 : Int))))) = false →
                      (∃ (t57b t57o : Nat), t36_0a = some ⟨t57b, t57o, none⟩ ∧ 0 ≤ ((t36_1n : Nat) : Int) ∧ ((t36_1n : Nat) : Int) < ((t36_0n : Nat) : Int) ∧
                        (∃ (t59 : Int), (Instr.loadAt 3 (.pointer (some ⟨t57b, t57o + Int.toNat ((t36_1n : Nat) : Int) * 3, none⟩))).run Tryz.prog w4 = .ok (.int .i64 t59) w4 ∧
                          (J (t59 != (3 : Int)) w4))))) ∧
                  (∀ (x61 : Bool), ∀ w5 : World, J x61 w5 →
                    ((x61 = true →
                        (R (.returned (.tuple #[(.slice none 0 0), (.iface 69 (.int .i64 17))])) w5)) ∧
                      (x61 = false →
                        (∃ S : World → Prop, S w5.drew ∧
                          (∃ (t70b t70o : Nat), t36_0a = some ⟨t70b, t70o, none⟩ ∧ 0 ≤ ((t36_1n : Nat) : Int) ∧ ((t36_1n : Nat) : Int) < ((t36_0n : Nat) : Int) ∧
                            (∃ (t64 : Array Value), (∀ w' : World, S w' → (Instr.loadAt 28 (.pointer (some ⟨g3, 0, none⟩))).run Tryz.prog w' = .ok (.agg t64) w') ∧
                              (∃ (t72a : Option Addr) (t72n : Nat) (t72c : Nat), (∀ w' : World, S w' → (Instr.loadAt 33 (.pointer (some ⟨t70b, t70o + Int.toNat ((t36_1n : Nat) : Int) * 3 + 1, none⟩))).run Tryz.prog w' = .ok (.slice t72a t72n t72c) w') ∧
                                (Calls Tryz.prog 58 #[(.int .i64 a1)] w5.drew fun (e66 : Ending) (w6 : World) => ∃ (t66a : Option Addr) (t66n : Nat) (t66c : Nat), e66 = .returned (.slice t66a t66n t66c) ∧
                                  (∃ S_1 : World → Prop, (∀ w' : World, S_1 w' → S w') ∧ S_1 w6 ∧
                                    (Calls Tryz.prog 57 #[(.agg t64), (.int .u8 3), (.slice t66a t66n t66c), (.slice t72a t72n t72c)] w6 fun (e73 : Ending) (w7 : World) => ∃ (t73_0a : Option Addr) (t73_0n : Nat) (t73_0c : Nat) (t73_1 : Value), e73 = .returned (.tuple #[(.slice t73_0a t73_0n t73_0c), t73_1]) ∧
                                      (∃ S_2 : World → Prop, (∀ w' : World, S_2 w' → S_1 w') ∧ S_2 w7 ∧
                                        (∃ (t77 : Bool), (eqlS .neq 36 (.tmp 76) (.const .nilIface) t73_1 .nilIface).run Tryz.prog w7 = .ok (.bool t77) w7 ∧
                                          ((t77 = true →
                                              (R (.returned (.tuple #[(.slice none 0 0), t73_1])) w7)) ∧
                                            (t77 = false →
                                              (Calls Tryz.prog 60 #[(.slice t36_1a t36_1n t36_1c)] w7 fun (e81 : Ending) (w8 : World) => ∃ (t81a : Option Addr) (t81n : Nat) (t81c : Nat), e81 = .returned (.slice t81a t81n t81c) ∧
                                                (Calls Tryz.prog 59 #[(.slice t73_0a t73_0n t73_0c), (.slice t81a t81n t81c)] w8 fun (e82 : Ending) (w9 : World) => ∃ (t82 : Bool), e82 = .returned (.bool t82) ∧
                                                  (((!t82) = true →
                                                      (R (.returned (.tuple #[(.slice none 0 0), (.iface 69 (.int .i64 10))])) w9)) ∧
                                                    ((!t82) = false →
                                                      (R (.returned (.tuple #[(.slice t36_1a t36_1n t36_1c), .nilIface])) w9)))))))))))))))))))))))))))) : Calls Tryz.prog 26 #[(.agg a0), (.int .i64 a1), (.slice a2a a2n a2c)] w R :=
  calls_of_ev (args := [(.agg a0), (.int .i64 a1), (.slice a2a a2n a2c)])
    (tc := .seq (.reg (.op .bx (.op .p (.op .p (.nil))))) (.seq (.seq (.reg (.op .p (.op (.cl [.bool]) (.op .p (.nil))))) (.cond (.seq (.reg (.op .p (.op .p (.op .p (.nil))))) (.leaf)) (.leaf))) (.seq (.reg (.op .p (.op (.cl [.int .i64, .bool]) (.op .p (.op .p (.op .p (.op .p (.op .p (.nil))))))))) (.seq (.seq (.reg (.op .p (.op .p (.op .p (.ap 3 (.nil)))))) (.cond (.seq (.reg (.op .p (.op .p (.op .p (.nil))))) (.leaf)) (.leaf))) (.seq (.reg (.op .p (.op .p (.op (.cl [.slice, .slice, .val, .int .i64]) (.op .p (.op .p (.op .p (.op .p (.op .p (.op .p (.op .p (.op .p (.op .p (.nil)))))))))))))) (.seq (.seq (.join [41, 42, 43, 44, 45, 46, 47, 48, 49, 50, 51, 52, 53, 54, 55, 56, 57, 58, 59, 60, 61] [61] [.bool] (.reg (.op .p (.op .p (.op .p (.op .p (.op .p (.ap 6 (.op .p (.sp 53 (.op .p (.op .p (.op .p (.op .p (.op .p (.op .p (.op .p (.op .p (.nil))))))))) (.op .p (.op .p (.op .p (.op .ix (.op .p (.op (.ld (.int .i64)) (.op .p (.op .p (.nil))))))))))))))))))) (.cond (.seq (.reg (.op .p (.op .p (.op .p (.nil))))) (.leaf)) (.leaf))) (.seq (.drawS (.tk 1 .p (.tk 3 .p (.tk 4 .p (.tk 5 .p (.tk 6 .ix (.tk 7 .p (.ts 0 (.agg) (.ts 8 (.slice) (.go 2 (.cl [.slice]) (.go 9 (.cl [.slice, .val]) (.tk 10 .p (.tk 11 .p (.tk 12 .p (.tk 13 .p (.tk 14 .p (.nil)))))))))))))))) []) (.seq (.seq (.reg (.op .p (.op (.ld (.bool)) (.nil)))) (.cond (.seq (.reg (.op .p (.op .p (.op .p (.nil))))) (.leaf)) (.leaf))) (.seq (.seq (.reg (.op .p (.op .p (.op (.cl [.slice]) (.op (.cl [.bool]) (.op .p (.nil))))))) (.cond (.seq (.reg (.op .p (.op .p (.op .p (.nil))))) (.leaf)) (.leaf))) (.seq (.reg (.op .p (.op .p (.op .p (.nil))))) (.leaf)))))))))))
    (by kernel_rfl) Tryz.func26 (by kernel_rfl) (by kernel_rfl) (by kernel_rfl) (by kernel_rfl) h

set_option maxRecDepth 100000 in
theorem pack_Name_vc (a0 : Int) (w : World) (R : Ending → World → Prop) (h :
  Calls Tryz.prog 43 #[(.int .i64 a0)] w fun (e4 : Ending) (w1 : World) => ∃ (t4 : Bool), e4 = .returned (.bool t4) ∧
  (((!t4) = true →
      (R (.returned (.string (ByteArray.mk #[]))) w1)) ∧
    ((!t4) = false →
      (Calls Tryz.prog 44 #[(.int .i64 a0)] w1 fun (e7 : Ending) (w2 : World) => ∃ (t7 : ByteArray), e7 = .returned (.string t7) ∧
        (∃ (t8 : ByteArray), (eqlS .add 9 (.const (.string (ByteArray.mk #[112]))) (.tmp 7) (.string (ByteArray.mk #[112])) (.string t7)).run Tryz.prog w2 = .ok (.string t8) w2 ∧
          (R (.returned (.string t8)) w2)))))) : Calls Tryz.prog 19 #[(.int .i64 a0)] w R :=
  calls_of_ev (args := [(.int .i64 a0)])
    (tc := .seq (.reg (.op .p (.nil))) (.seq (.seq (.reg (.op .p (.op (.cl [.bool]) (.op .p (.nil))))) (.cond (.seq (.reg (.op .p (.nil))) (.leaf)) (.leaf))) (.seq (.reg (.op .p (.op (.cl [.str]) (.op (.ld (.str)) (.op .p (.nil)))))) (.leaf))))
    (by kernel_rfl) Tryz.func19 (by kernel_rfl) (by kernel_rfl) (by kernel_rfl) (by kernel_rfl) h

set_option maxRecDepth 100000 in
theorem pack_Number_vc (a0 : ByteArray) (w : World) (R : Ending → World → Prop) (h :
  ((a0.toList == (ByteArray.mk #[]).toList) = true →
    (R (.returned (.tuple #[(.int .i64 0), (.bool false)])) w)) ∧
  ((a0.toList == (ByteArray.mk #[]).toList) = false →
    (0 ≤ (1 : Int) ∧ (1 : Int) ≤ (a0.size : Int) ∧
      (Calls Tryz.prog 42 #[(.string (a0.extract (Int.toNat (1 : Int)) a0.size))] w fun (e11 : Ending) (w1 : World) => ∃ (t11_0 : Int) (t11_1 : Value), e11 = .returned (.tuple #[(.int .i64 t11_0), t11_1]) ∧
        (∃ J : Bool → World → Prop, (∃ (t15 : Bool), (eqlS .neq 36 (.tmp 14) (.const .nilIface) t11_1 .nilIface).run Tryz.prog w1 = .ok (.bool t15) w1 ∧
            ((t15 = true →
                (J true w1)) ∧
              (t15 = false →
                (Calls Tryz.prog 19 #[(.int .i64 t11_0)] w1 fun (e18 : Ending) (w2 : World) => ∃ (t18 : ByteArray), e18 = .returned (.string t18) ∧
                  (J (!(t18.toList == a0.toList)) w2))))) ∧
          (∀ (x21 : Bool), ∀ w3 : World, J x21 w3 →
            ((x21 = true →
                (R (.returned (.tuple #[(.int .i64 0), (.bool false)])) w3)) ∧
              (x21 = false →
                (R (.returned (.tuple #[(.int .i64 t11_0), (.bool true)])) w3))))))))) : Calls Tryz.prog 16 #[(.string a0)] w R :=
  calls_of_ev (args := [(.string a0)])
    (tc := .seq (.reg (.op .p (.op .p (.nil)))) (.seq (.seq (.reg (.op .p (.op .p (.nil)))) (.cond (.seq (.reg (.op .p (.op .p (.nil)))) (.leaf)) (.leaf))) (.seq (.reg (.op .p (.op .sl (.op (.cl [.int .i64, .val]) (.op .p (.op .p (.op .p (.op .p (.op .p (.nil)))))))))) (.seq (.seq (.join [14, 15, 16, 17, 18, 19, 20, 21] [21] [.bool] (.reg (.op .p (.op (.ld (.bool)) (.op .p (.sp 16 (.op .p (.op .p (.op .p (.op .p (.op .p (.nil)))))) (.op .p (.op (.cl [.str]) (.op .p (.op .p (.op .p (.nil)))))))))))) (.cond (.seq (.reg (.op .p (.op .p (.nil)))) (.leaf)) (.leaf))) (.seq (.reg (.op .p (.op .p (.op .p (.nil))))) (.leaf))))))
    (by kernel_rfl) Tryz.func16 (by kernel_rfl) (by kernel_rfl) (by kernel_rfl) (by kernel_rfl) h

set_option maxRecDepth 100000 in
theorem slices_Concat_byte_byte_vc (a0a : Option Addr) (a0n : Nat) (a0c : Nat) (w : World) (R : Ending → World → Prop) (h :
  ∃ (I : Int → Int → World → Prop) (μ : Int → Int → World → Nat), I 0 0 w ∧
  (∀ (x3 : Int) (x11 : Int), ∀ w1 : World, I x3 x11 w1 →
    (((decide (x11 < ((a0n : Nat) : Int))) = true →
        (∃ (t13b t13o : Nat), a0a = some ⟨t13b, t13o, none⟩ ∧ 0 ≤ x11 ∧ x11 < ((a0n : Nat) : Int) ∧
          (∃ (t14a : Option Addr) (t14n : Nat) (t14c : Nat), (Instr.loadAt 33 (.pointer (some ⟨t13b, t13o + Int.toNat x11 * 1, none⟩))).run Tryz.prog w1 = .ok (.slice t14a t14n t14c) w1 ∧
            (∃ J : World → Prop, (((decide ((IntKind.wrap .i64 (x3 + ((t14n : Nat) : Int))) < (0 : Int))) = true →
                  (False)) ∧
                ((decide ((IntKind.wrap .i64 (x3 + ((t14n : Nat) : Int))) < (0 : Int))) = false →
                  (J  w1))) ∧
              (∀ w2 : World, J  w2 →
                (I (IntKind.wrap .i64 (x3 + ((t14n : Nat) : Int))) (IntKind.wrap .i64 (x11 + (1 : Int))) w2 ∧ μ (IntKind.wrap .i64 (x3 + ((t14n : Nat) : Int))) (IntKind.wrap .i64 (x11 + (1 : Int))) w2 < μ x3 x11 w1)))))) ∧
      ((decide (x11 < ((a0n : Nat) : Int))) = false →
        (Calls Tryz.prog 73 #[(.slice none 0 0), (.int .i64 x3)] w1 fun (e24 : Ending) (w3 : World) => ∃ (t24a : Option Addr) (t24n : Nat) (t24c : Nat), e24 = .returned (.slice t24a t24n t24c) ∧
          (∃ (I_1 : Option Addr → Nat → Nat → Int → World → Prop) (μ_1 : Option Addr → Nat → Nat → Int → World → Nat), I_1 t24a t24n t24c 0 w3 ∧
            (∀ (x6a : Option Addr) (x6n : Nat) (x6c : Nat) (x27 : Int), ∀ w4 : World, I_1 x6a x6n x6c x27 w4 →
              (((decide (x27 < ((a0n : Nat) : Int))) = true →
                  (∃ (t29b t29o : Nat), a0a = some ⟨t29b, t29o, none⟩ ∧ 0 ≤ x27 ∧ x27 < ((a0n : Nat) : Int) ∧
                    (∃ (t30a : Option Addr) (t30n : Nat) (t30c : Nat), (Instr.loadAt 33 (.pointer (some ⟨t29b, t29o + Int.toNat x27 * 1, none⟩))).run Tryz.prog w4 = .ok (.slice t30a t30n t30c) w4 ∧
                      (∃ (t33a : Option Addr) (t33n : Nat) (t33c : Nat) (w5 : World), (Builtin.append_ #[33, 33] 33 #[(.slice x6a x6n x6c), (.slice t30a t30n t30c)]).run Tryz.prog w4 = .ok (.slice t33a t33n t33c) w5 ∧
                        (I_1 t33a t33n t33c (IntKind.wrap .i64 (x27 + (1 : Int))) w5 ∧ μ_1 t33a t33n t33c (IntKind.wrap .i64 (x27 + (1 : Int))) w5 < μ_1 x6a x6n x6c x27 w4))))) ∧
                ((decide (x27 < ((a0n : Nat) : Int))) = false →
                  (R (.returned (.slice x6a x6n x6c)) w4)))))))))) : Calls Tryz.prog 40 #[(.slice a0a a0n a0c)] w R :=
  calls_of_ev (args := [(.slice a0a a0n a0c)])
    (tc := .seq (.reg (.op .p (.nil))) (.seq (.reg (.op .p (.nil))) (.seq (.seq (.reg (.op .p (.op .p (.op .p (.nil))))) (.blk (.loop [3, 5, 11, 12, 13, 14, 15, 16, 17, 18, 19, 20, 21, 22] [3, 11] [.int .i64, .int .i64] (.seq (.reg (.op .p (.nil))) (.seq (.cond (.leaf) (.leaf)) (.seq (.blk (.seq (.reg (.op .ix (.op (.ld (.slice)) (.op .p (.nil))))) (.seq (.reg (.op .p (.op .p (.op .p (.op .p (.op .p (.nil))))))) (.seq (.reg (.op .p (.op .p (.nil)))) (.join [21] [] [] (.cond (.reg (.op .p (.op .bx (.nil)))) (.leaf))))))) (.reg (.op .p (.op .p (.nil)))))))))) (.seq (.reg (.op .p (.op (.cl [.slice]) (.op .p (.nil))))) (.seq (.seq (.reg (.op .p (.op .p (.op .p (.nil))))) (.blk (.loop [6, 8, 27, 28, 29, 30, 31, 32, 33, 34] [6, 27] [.slice, .int .i64] (.seq (.reg (.op .p (.nil))) (.seq (.cond (.leaf) (.leaf)) (.seq (.blk (.seq (.reg (.op .ix (.op (.ld (.slice)) (.op .p (.nil))))) (.reg (.op .p (.op .p (.op (.r (.slice)) (.op .p (.nil)))))))) (.reg (.op .p (.op .p (.nil)))))))))) (.seq (.reg (.op .p (.op .p (.nil)))) (.leaf)))))))
    (by kernel_rfl) Tryz.func40 (by kernel_rfl) (by kernel_rfl) (by kernel_rfl) (by kernel_rfl) h

set_option maxRecDepth 100000 in
theorem slices_Grow_byte_byte_vc (a0a : Option Addr) (a0n : Nat) (a0c : Nat) (a1 : Int) (w : World) (R : Ending → World → Prop) (h :
  ∃ J : World → Prop, (((decide (a1 < (0 : Int))) = true →
      (False)) ∧
    ((decide (a1 < (0 : Int))) = false →
      (J  w))) ∧
  (∀ w1 : World, J  w1 →
    (∃ J_1 : Option Addr → Nat → Nat → World → Prop, (((decide ((IntKind.wrap .i64 (a1 - (IntKind.wrap .i64 (((a0c : Nat) : Int) - ((a0n : Nat) : Int))))) > (0 : Int))) = true →
          (0 ≤ ((a0c : Nat) : Int) ∧ ((a0c : Nat) : Int) ≤ ((a0c : Nat) : Int) ∧
            (∃ (t22a : Option Addr) (t22n : Nat) (t22c : Nat) (w2 : World), (Builtin.append_ #[33, 3] 33 #[(.slice a0a (a0c) a0c), (.int .i64 (IntKind.wrap .i64 (a1 - (IntKind.wrap .i64 (((a0c : Nat) : Int) - ((a0n : Nat) : Int))))))]).run Tryz.prog w1 = .ok (.slice t22a t22n t22c) w2 ∧
              (0 ≤ ((a0n : Nat) : Int) ∧ ((a0n : Nat) : Int) ≤ ((t22c : Nat) : Int) ∧
                (J_1 t22a (a0n) t22c w2))))) ∧
        ((decide ((IntKind.wrap .i64 (a1 - (IntKind.wrap .i64 (((a0c : Nat) : Int) - ((a0n : Nat) : Int))))) > (0 : Int))) = false →
          (J_1 a0a a0n a0c w1))) ∧
      (∀ (x0a : Option Addr) (x0n : Nat) (x0c : Nat), ∀ w3 : World, J_1 x0a x0n x0c w3 →
        (R (.returned (.slice x0a x0n x0c)) w3))))) : Calls Tryz.prog 73 #[(.slice a0a a0n a0c), (.int .i64 a1)] w R :=
  calls_of_ev (args := [(.slice a0a a0n a0c), (.int .i64 a1)])
    (tc := .seq (.reg (.op .p (.nil))) (.seq (.seq (.reg (.op .p (.op .p (.nil)))) (.join [7] [] [] (.cond (.reg (.op .p (.op .bx (.nil)))) (.leaf)))) (.seq (.seq (.reg (.op .p (.op .p (.op .p (.op .p (.op .p (.op .p (.op .p (.op .p (.nil)))))))))) (.seq (.reg (.op .p (.op .p (.nil)))) (.join [0, 17, 18, 19, 20, 21, 22, 23, 24, 25] [0] [.slice] (.cond (.reg (.op .p (.op .p (.op .p (.op .sl (.op .p (.op (.r (.slice)) (.op .p (.op .p (.op .sl (.op .p (.nil)))))))))))) (.leaf))))) (.seq (.reg (.op .p (.op .p (.nil)))) (.leaf)))))
    (by kernel_rfl) Tryz.func73 (by kernel_rfl) (by kernel_rfl) (by kernel_rfl) (by kernel_rfl) h

set_option maxRecDepth 100000 in
theorem bytes_Equal_vc (a0a : Option Addr) (a0n : Nat) (a0c : Nat) (a1a : Option Addr) (a1n : Nat) (a1c : Nat) (w : World) (R : Ending → World → Prop) (h :
  ∃ (t6 : ByteArray), (convert 33 9 (.slice a0a a0n a0c)).run Tryz.prog w = .ok (.string t6) w ∧
  (∃ (t8 : ByteArray), (convert 33 9 (.slice a1a a1n a1c)).run Tryz.prog w = .ok (.string t8) w ∧
    (R (.returned (.bool (t6.toList == t8.toList))) w))) : Calls Tryz.prog 59 #[(.slice a0a a0n a0c), (.slice a1a a1n a1c)] w R :=
  calls_of_ev (args := [(.slice a0a a0n a0c), (.slice a1a a1n a1c)])
    (tc := .seq (.reg (.op .p (.nil))) (.seq (.reg (.op .p (.op (.ld (.str)) (.op .p (.op (.ld (.str)) (.op .p (.op .p (.nil)))))))) (.leaf)))
    (by kernel_rfl) Tryz.func59 (by kernel_rfl) (by kernel_rfl) (by kernel_rfl) (by kernel_rfl) h

set_option maxRecDepth 100000 in
theorem strconv_Itoa_vc (a0 : Int) (w : World) (R : Ending → World → Prop) (h :
  Calls Tryz.prog 80 #[(.int .i64 a0)] w fun (e4 : Ending) (w1 : World) => ∃ (t4 : ByteArray), e4 = .returned (.string t4) ∧
  (R (.returned (.string t4)) w1)) : Calls Tryz.prog 44 #[(.int .i64 a0)] w R :=
  calls_of_ev (args := [(.int .i64 a0)])
    (tc := .seq (.reg (.op .p (.nil))) (.seq (.reg (.op .p (.op (.cl [.str]) (.op .p (.nil))))) (.leaf)))
    (by kernel_rfl) Tryz.func44 (by kernel_rfl) (by kernel_rfl) (by kernel_rfl) (by kernel_rfl) h

set_option maxRecDepth 100000 in
theorem internal_strconv_Itoa_vc (a0 : Int) (w : World) (R : Ending → World → Prop) (h :
  Calls Tryz.prog 113 #[(.int .i64 a0), (.int .i64 10)] w fun (e4 : Ending) (w1 : World) => ∃ (t4 : ByteArray), e4 = .returned (.string t4) ∧
  (R (.returned (.string t4)) w1)) : Calls Tryz.prog 80 #[(.int .i64 a0)] w R :=
  calls_of_ev (args := [(.int .i64 a0)])
    (tc := .seq (.reg (.op .p (.nil))) (.seq (.reg (.op .p (.op (.cl [.str]) (.op .p (.nil))))) (.leaf)))
    (by kernel_rfl) Tryz.func80 (by kernel_rfl) (by kernel_rfl) (by kernel_rfl) (by kernel_rfl) h

set_option maxRecDepth 100000 in
theorem internal_strconv_FormatInt_vc (a0 : Int) (a1 : Int) (w : World) (R : Ending → World → Prop) (h :
  ((a1 == (10 : Int)) = true →
    ((((decide ((0 : Int) ≤ a0)) && (decide (a0 < (100 : Int)))) = true →
        (Calls Tryz.prog 131 #[(.int .i64 a0)] w fun (e19 : Ending) (w1 : World) => ∃ (t19 : ByteArray), e19 = .returned (.string t19) ∧
          (R (.returned (.string t19)) w1))) ∧
      (((decide ((0 : Int) ≤ a0)) && (decide (a0 < (100 : Int)))) = false →
        (∃ (g5 : Nat) (w2 : World), (Instr.alloc 215 true (.tuple #[])).run Tryz.prog w = .ok (.pointer (some ⟨g5, 0, none⟩)) w2 ∧
          (∃ J : Int → World → Prop, (((decide (a0 < (0 : Int))) = true →
                (J (IntKind.wrap .u64 (0 - (IntKind.wrap .u64 a0))) w2)) ∧
              ((decide (a0 < (0 : Int))) = false →
                (J (IntKind.wrap .u64 a0) w2))) ∧
            (∀ (x6 : Int), ∀ w3 : World, J x6 w3 →
              (Calls Tryz.prog 132 #[(.int .u64 x6)] w3 fun (e27 : Ending) (w4 : World) => ∃ (t27 : Int), e27 = .returned (.int .i64 t27) ∧
                (0 ≤ (1 : Int) ∧ (1 : Int) ≤ (IntKind.wrap .i64 ((1 : Int) + t27)) ∧ (IntKind.wrap .i64 ((1 : Int) + t27)) ≤ ((24 : Nat) : Int) ∧ ∀ t30a : Option Addr, SubA 1 (some ⟨g5, 0, none⟩) 1 24 t30a →
                  (Calls Tryz.prog 133 #[(.slice t30a ((Int.toNat (IntKind.wrap .i64 ((1 : Int) + t27))) - 1) 23), (.int .u64 x6)] w4 fun (e32 : Ending) (w5 : World) => e32 = .returned (.tuple #[]) ∧
                    (((decide (a0 < (0 : Int))) = true →
                        (∃ w6 : World, (Instr.storeAt 5 (.pointer (some ⟨g5, 0, none⟩)) (.int .u8 45)).run Tryz.prog w5 = .ok () w6 ∧
                          (0 ≤ (IntKind.wrap .i64 ((1 : Int) + t27)) ∧ (IntKind.wrap .i64 ((1 : Int) + t27)) ≤ ((24 : Nat) : Int) ∧
                            (∃ (t39 : ByteArray), (convert 33 9 (.slice (some ⟨g5, 0, none⟩) (Int.toNat (IntKind.wrap .i64 ((1 : Int) + t27))) 24)).run Tryz.prog w6 = .ok (.string t39) w6 ∧
                              (R (.returned (.string t39)) w6))))) ∧
                      ((decide (a0 < (0 : Int))) = false →
                        (0 ≤ (1 : Int) ∧ (1 : Int) ≤ (IntKind.wrap .i64 ((1 : Int) + t27)) ∧ (IntKind.wrap .i64 ((1 : Int) + t27)) ≤ ((24 : Nat) : Int) ∧ ∀ t42a : Option Addr, SubA 1 (some ⟨g5, 0, none⟩) 1 24 t42a →
                          (∃ (t43 : ByteArray), (convert 33 9 (.slice t42a ((Int.toNat (IntKind.wrap .i64 ((1 : Int) + t27))) - 1) 23)).run Tryz.prog w5 = .ok (.string t43) w5 ∧
                            (R (.returned (.string t43)) w5)))))))))))))) ∧
  ((a1 == (10 : Int)) = false →
    (Calls Tryz.prog 134 #[(.slice none 0 0), (.int .u64 (IntKind.wrap .u64 a0)), (.int .i64 a1), (.bool (decide (a0 < (0 : Int)))), (.bool false)] w fun (e50 : Ending) (w7 : World) => ∃ (t50_0a : Option Addr) (t50_0n : Nat) (t50_0c : Nat) (t50_1 : ByteArray), e50 = .returned (.tuple #[(.slice t50_0a t50_0n t50_0c), (.string t50_1)]) ∧
      (R (.returned (.string t50_1)) w7)))) : Calls Tryz.prog 113 #[(.int .i64 a0), (.int .i64 a1)] w R :=
  calls_of_ev (args := [(.int .i64 a0), (.int .i64 a1)])
    (tc := .seq (.reg (.op .p (.nil))) (.seq (.seq (.reg (.op .p (.op .p (.nil)))) (.cond (.seq (.seq (.reg (.op .p (.op .p (.op .p (.ap 2 (.nil)))))) (.cond (.seq (.reg (.op .p (.op (.cl [.str]) (.op .p (.nil))))) (.leaf)) (.leaf))) (.seq (.reg (.op .bx (.nil))) (.seq (.reg (.op .p (.op .p (.op .p (.nil))))) (.seq (.seq (.reg (.op .p (.op .p (.nil)))) (.join [6, 24, 25] [6] [.int .u64] (.cond (.reg (.op .p (.op .p (.op .p (.nil))))) (.leaf)))) (.seq (.reg (.op .p (.op (.cl [.int .i64]) (.op .p (.nil))))) (.seq (.reg (.op .p (.op .p (.op .sl (.op .p (.op (.cl []) (.nil))))))) (.seq (.seq (.reg (.op .p (.op .p (.nil)))) (.cond (.seq (.reg (.op .p (.op .u (.nil)))) (.seq (.reg (.op .p (.op .p (.op .sl (.op (.ld (.str)) (.op .p (.nil))))))) (.leaf))) (.leaf))) (.seq (.reg (.op .p (.op .p (.op .sl (.op (.ld (.str)) (.op .p (.nil))))))) (.leaf))))))))) (.leaf))) (.seq (.reg (.op .p (.op .p (.op .p (.op .p (.op .p (.op (.cl [.slice, .str]) (.op .p (.op .p (.op .p (.op .p (.op .p (.nil))))))))))))) (.seq (.reg (.op .p (.op .p (.nil)))) (.leaf)))))
    (by kernel_rfl) Tryz.func113 (by kernel_rfl) (by kernel_rfl) (by kernel_rfl) (by kernel_rfl) h

set_option maxRecDepth 100000 in
theorem internal_strconv_small_vc (a0 : Int) (w : World) (R : Ending → World → Prop) (h :
  ((decide (a0 < (10 : Int))) = true →
    (0 ≤ a0 ∧ a0 ≤ (IntKind.wrap .i64 (a0 + (1 : Int))) ∧ (IntKind.wrap .i64 (a0 + (1 : Int))) ≤ ((ByteArray.mk #[48, 49, 50, 51, 52, 53, 54, 55, 56, 57, 97, 98, 99, 100, 101, 102, 103, 104, 105, 106, 107, 108, 109, 110, 111, 112, 113, 114, 115, 116, 117, 118, 119, 120, 121, 122]).size : Int) ∧
      (R (.returned (.string ((ByteArray.mk #[48, 49, 50, 51, 52, 53, 54, 55, 56, 57, 97, 98, 99, 100, 101, 102, 103, 104, 105, 106, 107, 108, 109, 110, 111, 112, 113, 114, 115, 116, 117, 118, 119, 120, 121, 122]).extract (Int.toNat a0) (Int.toNat (IntKind.wrap .i64 (a0 + (1 : Int))))))) w))) ∧
  ((decide (a0 < (10 : Int))) = false →
    (0 ≤ (IntKind.wrap .i64 (a0 * (2 : Int))) ∧ (IntKind.wrap .i64 (a0 * (2 : Int))) ≤ (IntKind.wrap .i64 ((IntKind.wrap .i64 (a0 * (2 : Int))) + (2 : Int))) ∧ (IntKind.wrap .i64 ((IntKind.wrap .i64 (a0 * (2 : Int))) + (2 : Int))) ≤ ((ByteArray.mk #[48, 48, 48, 49, 48, 50, 48, 51, 48, 52, 48, 53, 48, 54, 48, 55, 48, 56, 48, 57, 49, 48, 49, 49, 49, 50, 49, 51, 49, 52, 49, 53, 49, 54, 49, 55, 49, 56, 49, 57, 50, 48, 50, 49, 50, 50, 50, 51, 50, 52, 50, 53, 50, 54, 50, 55, 50, 56, 50, 57, 51, 48, 51, 49, 51, 50, 51, 51, 51, 52, 51, 53, 51, 54, 51, 55, 51, 56, 51, 57, 52, 48, 52, 49, 52, 50, 52, 51, 52, 52, 52, 53, 52, 54, 52, 55, 52, 56, 52, 57, 53, 48, 53, 49, 53, 50, 53, 51, 53, 52, 53, 53, 53, 54, 53, 55, 53, 56, 53, 57, 54, 48, 54, 49, 54, 50, 54, 51, 54, 52, 54, 53, 54, 54, 54, 55, 54, 56, 54, 57, 55, 48, 55, 49, 55, 50, 55, 51, 55, 52, 55, 53, 55, 54, 55, 55, 55, 56, 55, 57, 56, 48, 56, 49, 56, 50, 56, 51, 56, 52, 56, 53, 56, 54, 56, 55, 56, 56, 56, 57, 57, 48, 57, 49, 57, 50, 57, 51, 57, 52, 57, 53, 57, 54, 57, 55, 57, 56, 57, 57]).size : Int) ∧
      (R (.returned (.string ((ByteArray.mk #[48, 48, 48, 49, 48, 50, 48, 51, 48, 52, 48, 53, 48, 54, 48, 55, 48, 56, 48, 57, 49, 48, 49, 49, 49, 50, 49, 51, 49, 52, 49, 53, 49, 54, 49, 55, 49, 56, 49, 57, 50, 48, 50, 49, 50, 50, 50, 51, 50, 52, 50, 53, 50, 54, 50, 55, 50, 56, 50, 57, 51, 48, 51, 49, 51, 50, 51, 51, 51, 52, 51, 53, 51, 54, 51, 55, 51, 56, 51, 57, 52, 48, 52, 49, 52, 50, 52, 51, 52, 52, 52, 53, 52, 54, 52, 55, 52, 56, 52, 57, 53, 48, 53, 49, 53, 50, 53, 51, 53, 52, 53, 53, 53, 54, 53, 55, 53, 56, 53, 57, 54, 48, 54, 49, 54, 50, 54, 51, 54, 52, 54, 53, 54, 54, 54, 55, 54, 56, 54, 57, 55, 48, 55, 49, 55, 50, 55, 51, 55, 52, 55, 53, 55, 54, 55, 55, 55, 56, 55, 57, 56, 48, 56, 49, 56, 50, 56, 51, 56, 52, 56, 53, 56, 54, 56, 55, 56, 56, 56, 57, 57, 48, 57, 49, 57, 50, 57, 51, 57, 52, 57, 53, 57, 54, 57, 55, 57, 56, 57, 57]).extract (Int.toNat (IntKind.wrap .i64 (a0 * (2 : Int)))) (Int.toNat (IntKind.wrap .i64 ((IntKind.wrap .i64 (a0 * (2 : Int))) + (2 : Int))))))) w)))) : Calls Tryz.prog 131 #[(.int .i64 a0)] w R :=
  calls_of_ev (args := [(.int .i64 a0)])
    (tc := .seq (.reg (.op .p (.nil))) (.seq (.seq (.reg (.op .p (.op .p (.nil)))) (.cond (.seq (.reg (.op .p (.op .p (.op .p (.op .sl (.op .p (.nil))))))) (.leaf)) (.leaf))) (.seq (.reg (.op .p (.op .p (.op .p (.op .p (.op .p (.op .sl (.op .p (.nil))))))))) (.leaf))))
    (by kernel_rfl) Tryz.func131 (by kernel_rfl) (by kernel_rfl) (by kernel_rfl) (by kernel_rfl) h

end Go.Proofs.YtmdandkoajocpaaGreatDoor
end

section
namespace Go.Proofs.YtmdandkoajocpaaGreatDoor
open Go Sx
set_option maxRecDepth 8000

/-- A piece of a file. -/
structure PcD where
  a : Option Addr
  c : Nat
  l : List UInt8
def PcD.v (p : PcD) : Value := .slice p.a p.l.length p.c
def PcD.row (p : PcD) : Res := .row 5 1 (.slice p.a p.l.length p.c) p.l.length (bv p.l)
structure FP where
  la : Option Addr
  lc : Nat
  ps : List PcD
  ra : Option Addr
  rc : Nat
  rs : List RefD
def fileL (num : Int) (f : FP) : List Value := [.slice f.la f.ps.length f.lc, .int .i64 (((f.ps.map PcD.l).flatten.length : Nat) : Int), .int .i64 num, .slice f.ra f.rs.length f.rc]
def fileR (g : Nat) (num : Int) (f : FP) : List Res := [.arr g 105 (fileL num f), .row 33 1 (.slice f.la f.ps.length f.lc) f.ps.length (f.ps.map PcD.v), .row 75 35 (.slice f.ra f.rs.length f.rc) f.rs.length (f.rs.flatMap refC)]
/-- A packfile in the making that is held. -/
def FileIn (w0 : World) (X : List Nat) (w : World) (g : Nat) (num : Int) (ps : List (List UInt8)) (rs : List RefD) (N : List Res) : Prop := ∃ f : FP, f.ps.map PcD.l = ps ∧ f.rs = rs ∧ St w0 X w (fileR g num f ++ (f.ps.map PcD.row ++ N))

theorem bbA' (w : World) : (isAgg 23).run Tryz.prog w = .ok false w := Tryz.isAgg23 w
theorem bbS' (w : World) : (sizeOf 23).run Tryz.prog w = .ok 1 w := Tryz.sizeOf23 w
theorem inS' (w : World) : (sizeOf 3).run Tryz.prog w = .ok 1 w := Tryz.sizeOf3 w
theorem rsA' (w : World) : (isAgg 34).run Tryz.prog w = .ok false w := Tryz.isAgg34 w
theorem rsS' (w : World) : (sizeOf 34).run Tryz.prog w = .ok 1 w := Tryz.sizeOf34 w
theorem bsA' (w : World) : (isAgg 33).run Tryz.prog w = .ok false w := Tryz.isAgg33 w

section
variable {w0 w w' : World} {X : List Nat} {N N' T : List Res} {g : Nat} {num : Int} {ps : List (List UInt8)} {rs : List RefD}

theorem FileIn.same (h : FileIn w0 X w g num ps rs N) (hc : Chg [] w w') : FileIn w0 X w' g num ps rs N := by obtain ⟨f, h1, h2, hS⟩ := h; exact ⟨f, h1, h2, hS.same hc⟩
theorem FileIn.chg (h : FileIn w0 X w g num ps rs N) : Chg X w0 w := by obtain ⟨f, h1, h2, hS⟩ := h; exact hS.chg
theorem FileIn.rest (h : FileIn w0 X w g num ps rs N) : St w0 X w N := by
  obtain ⟨f, h1, h2, hS⟩ := h
  exact hS.sub ((List.sublist_append_right _ _).trans (List.sublist_append_right _ _))
theorem FileIn.addSt (h : FileIn w0 X w g num ps rs N) (h' : St w [] w' T) : FileIn w0 X w' g num ps rs (N ++ T) := by
  obtain ⟨f, h1, h2, hS⟩ := h
  refine ⟨f, h1, h2, ?_⟩
  have := Sx.St.callPart (N := []) (by rw [List.append_nil]; exact hS) h'
  rw [List.append_assoc, List.append_assoc] at this
  exact this
theorem FileIn.dropN (h : FileIn w0 X w g num ps rs N) (hn : N'.Sublist N) : FileIn w0 X w g num ps rs N' := by
  obtain ⟨f, h1, h2, hS⟩ := h
  exact ⟨f, h1, h2, hS.sub (List.Sublist.append_left (List.Sublist.append_left hn _) _)⟩

theorem pkput_spec' {f : FP} {a : Option Addr} {c : Nat} {l : List UInt8} (hS : St w0 X w (fileR g num f ++ (f.ps.map PcD.row ++ (N ++ [.row 5 1 (.slice a l.length c) l.length (bv l)])))) (hp : f.ps.length < 1000000) (hb : (f.ps.map PcD.l).flatten.length + l.length ≤ 4611686018427387904) :
    Calls Tryz.prog 102 #[.pointer (some ⟨g, 0, none⟩), .slice a l.length c] w fun e w' => e = .returned (.tuple #[]) ∧ ∃ la lc, St w0 X w' (fileR g num { f with la := la, lc := lc, ps := f.ps ++ [⟨a, c, l⟩] } ++ ((f.ps ++ [(⟨a, c, l⟩ : PcD)]).map PcD.row ++ N)) := by
  apply pack_pieces_put_vc
  obtain ⟨g2, w2, va, vc, w3, r2, r3, h3, h2, c2⟩ := hS.pushV (i := 1) (ty := 23) bbT rfl (.slice a l.length c) rfl (by omega) (by simp only [maxLen]; omega)
  obtain ⟨w4, r4, h4⟩ := h3.stL (i := 0) (o := 0) (off := 0) (T := 23) (v := .slice va (f.ps.length + 1) vc) rfl (bbS' _) rfl (by simp [fileL]) rfl
  have e1 : IntKind.wrap .i64 ((((f.ps.map PcD.l).flatten.length : Nat) : Int) + ((l.length : Nat) : Int)) = ((((f.ps ++ [(⟨a, c, l⟩ : PcD)]).map PcD.l).flatten.length : Nat) : Int) := by
    rw [wrap_i64 (by omega) (by omega)]; simp
  obtain ⟨w5, r5, h5⟩ := h4.stL (i := 0) (o := 1) (off := 1) (T := 3) (v := .int .i64 ((((f.ps ++ [(⟨a, c, l⟩ : PcD)]).map PcD.l).flatten.length : Nat) : Int)) rfl (inS' _) rfl (by simp [fileL]) rfl
  refine ⟨_, _, _, hS.ldL (i := 0) (o := 0) rfl (bbA' _) rfl rfl, _, _, _, w2, r2, _, _, _, w3, r3, w4, r4, _, h4.ldL (i := 0) (o := 1) rfl (inA _) rfl rfl, w5, by rw [e1]; exact r5, rfl, va, vc, ?_⟩
  have h6 : St w0 X w5 ([.arr g 105 [.slice va (f.ps.length + 1) vc, .int .i64 ((((f.ps ++ [(⟨a, c, l⟩ : PcD)]).map PcD.l).flatten.length : Nat) : Int), .int .i64 num, .slice f.ra f.rs.length f.rc], .row 33 1 (.slice va (f.ps.length + 1) vc) (f.ps.length + 1) (f.ps.map PcD.v ++ [.slice a l.length c]), .row 75 35 (.slice f.ra f.rs.length f.rc) f.rs.length (f.rs.flatMap refC)] ++ (f.ps.map PcD.row ++ (N ++ [.row 5 1 (.slice a l.length c) l.length (bv l)]))) := h5
  have e2 : fileR g num { f with la := va, lc := vc, ps := f.ps ++ [⟨a, c, l⟩] } = [.arr g 105 [.slice va (f.ps.length + 1) vc, .int .i64 ((((f.ps ++ [(⟨a, c, l⟩ : PcD)]).map PcD.l).flatten.length : Nat) : Int), .int .i64 num, .slice f.ra f.rs.length f.rc], .row 33 1 (.slice va (f.ps.length + 1) vc) (f.ps.length + 1) (f.ps.map PcD.v ++ [.slice a l.length c]), .row 75 35 (.slice f.ra f.rs.length f.rc) f.rs.length (f.rs.flatMap refC)] := by
    simp [fileR, fileL, PcD.v]
  rw [e2]
  refine h6.perm (List.Perm.append_left _ ?_)
  show (f.ps.map PcD.row ++ (N ++ [PcD.row ⟨a, c, l⟩])).Perm ((f.ps ++ [(⟨a, c, l⟩ : PcD)]).map PcD.row ++ N)
  rw [List.map_append, List.append_assoc]
  exact List.Perm.append_left _ List.perm_append_comm

theorem pkput_spec {a : Option Addr} {c : Nat} {l : List UInt8} (h : FileIn w0 X w g num ps rs (N ++ [.row 5 1 (.slice a l.length c) l.length (bv l)])) (hp : ps.length < 1000000) (hb : ps.flatten.length + l.length ≤ 4611686018427387904) :
    Calls Tryz.prog 102 #[.pointer (some ⟨g, 0, none⟩), .slice a l.length c] w fun e w' => e = .returned (.tuple #[]) ∧ FileIn w0 X w' g num (ps ++ [l]) rs N := by
  obtain ⟨f, rfl, rfl, hS⟩ := h
  refine (pkput_spec' hS (by simpa using hp) hb).mono ?_
  rintro e w' ⟨rfl, la, lc, h'⟩
  exact ⟨rfl, { f with la := la, lc := lc, ps := f.ps ++ [⟨a, c, l⟩] }, by simp, rfl, h'⟩

theorem built_pkf : Tryz.prog.built 105 = fun parts => Instr.fill (fun i => (#[(0, 2), (2, 1), (3, 1)] : Array (Nat × Nat))[i]?) #[.slice none 0 0, .int .i64 0, .int .i64 0, .slice none 0 0] parts := by kernel_rfl
theorem pkf_build (num : Int) (w : World) : (Instr.build 105 #[(1, .int .i64 num)]).run Tryz.prog w = .ok (.agg #[.slice none 0 0, .int .i64 0, .int .i64 num, .slice none 0 0]) w := by
  apply run_build
  rw [built_pkf]
  show Instr.fill _ _ [(1, _)] = _
  rw [fill_step (off := 2) (sz := 1) rfl rfl (by simp)]
  rfl

theorem num_bytes' (x : Int) (w : World) : Calls Tryz.prog 58 #[.int .i64 x] w fun e w' => ∃ a c, e = .returned (.slice a 8 c) ∧ FreshB w w' a 8 c (numL (n64 x)) := by
  refine (num_bytes x w).mono ?_
  rintro e w' ⟨a, n, c, rfl, hf⟩
  have hn : n = 8 := by rw [← hf.2.1]; exact numL_len _
  subst hn
  exact ⟨a, c, rfl, hf⟩

theorem pkbegin_spec (num : Int) (w : World) : Calls Tryz.prog 70 #[.int .i64 num] w fun e w' => ∃ g, e = .returned (.pointer (some ⟨g, 0, none⟩)) ∧ FileIn w [] w' g num [headP num] [] [] := by
  apply pack_begin_vc
  obtain ⟨g, w1, r1, h1⟩ := (St.start w).boxA (P := Tryz.prog) 105 [.slice none 0 0, .int .i64 0, .int .i64 num, .slice none 0 0]
  have h1f : FileIn w [] w1 g num [] [] [] := ⟨⟨none, 0, [], none, 0, []⟩, rfl, rfl, (h1.addNil 33 1).addNil 75 35⟩
  refine ⟨_, pkf_build num w, g, w1, r1, fun w' => FileIn w [] w' g num [headP num] [] [], ?_, fun w' hw => ⟨g, rfl, hw⟩⟩
  have fin : ∀ {w' : World} {M : List Res} {g2 : Nat} {a : Option Addr} {c : Nat}, FileIn w [] w' g num [] [] M → RdB w' (some ⟨g2, 0, none⟩) 8 8 magicL → RdB w' a 8 c (numL (n64 num)) → ∃ va vc w'', (Builtin.append_ #[33, 33] 33 #[.slice (some ⟨g2, 0, none⟩) 8 8, .slice a 8 c]).run Tryz.prog w' = .ok (.slice va 16 vc) w'' ∧
      Calls Tryz.prog 102 #[.pointer (some ⟨g, 0, none⟩), .slice va 16 vc] w'' fun e w3 => e = .returned (.tuple #[]) ∧ FileIn w [] w3 g num [headP num] [] [] := by
    intro w' M g2 a c hF hm hn
    obtain ⟨va, vc, w2, r2, k2⟩ := (St.start w').appendRdB hm (by simp) hn (by decide) (by decide)
    refine ⟨va, vc, w2, r2, ?_⟩
    have hF2 := hF.addSt k2
    have e16 : (headP num).length = 16 := headP_len num
    have hF3 : FileIn w [] w2 g num [] [] (M ++ [.row 5 1 (.slice va (headP num).length vc) (headP num).length (bv (headP num))]) := by rw [e16]; exact hF2
    have := pkput_spec hF3 (by simp) (by simp)
    rw [e16] at this
    refine this.mono ?_
    rintro e w3 ⟨rfl, h3⟩
    exact ⟨rfl, h3.dropN (List.nil_sublist _)⟩
  have lit : ∀ w', ∃ g2 w'', (Instr.buildSlice 33 8 #[(0, .int .u8 97), (1, .int .u8 109), (2, .int .u8 112), (3, .int .u8 104), (4, .int .u8 112), (5, .int .u8 97), (6, .int .u8 99), (7, .int .u8 107)]).run Tryz.prog w' = .ok (.slice (some ⟨g2, 0, none⟩) 8 8) w'' ∧ St w' [] w'' [.row 5 1 (.slice (some ⟨g2, 0, none⟩) 8 8) 8 (bv magicL)] := fun w' => (St.start w').lit bT (bv magicL) (bv_one _) (by decide)
  refine ⟨?_, ?_⟩
  · obtain ⟨g2, w2, r2, k2⟩ := lit w1.drew
    refine ⟨_, _, _, w2, r2, ?_, ?_⟩
    · obtain ⟨w3, o, r3, k3, ho⟩ := convHold k2 (i := 0) rfl
      have k3 : St w1.drew [] w3 [.blk g2 o] := k3
      refine ⟨_, _, _, w3, r3, (num_bytes' num w3).mono ?_⟩
      rintro e w4 ⟨a, c, rfl, hf⟩
      have k4 : St w1.drew [] w4 [.blk g2 o, .row 5 1 (.slice a 8 c) 8 (bv (numL (n64 num)))] := hf.add k3
      obtain ⟨va, vc, w5, r5, hC⟩ := fin ((h1f.same (Chg.drew [] w1)).addSt k4) (ho _ (k4.holds 0 _ rfl)) (k4.rd (i := 1) rfl)
      exact ⟨_, _, _, rfl, _, _, _, w5, r5, hC⟩
    · refine (num_bytes' num w2).mono ?_
      rintro e w3 ⟨a, c, rfl, hf⟩
      have k3 : St w1.drew [] w3 [.row 5 1 (.slice (some ⟨g2, 0, none⟩) 8 8) 8 (bv magicL), .row 5 1 (.slice a 8 c) 8 (bv (numL (n64 num)))] := hf.add k2
      obtain ⟨w4, o, r4, k4, ho⟩ := convHold k3 (i := 0) rfl
      have k4 : St w1.drew [] w4 [.blk g2 o, .row 5 1 (.slice a 8 c) 8 (bv (numL (n64 num)))] := k4
      obtain ⟨va, vc, w5, r5, hC⟩ := fin ((h1f.same (Chg.drew [] w1)).addSt k4) (ho _ (k4.holds 0 _ rfl)) (k4.rd (i := 1) rfl)
      exact ⟨_, _, _, rfl, _, _, _, w4, r4, _, _, _, w5, r5, hC⟩
  · refine (num_bytes' num w1.drew).mono ?_
    rintro e w2 ⟨a, c, rfl, hf⟩
    have k2 : St w1.drew [] w2 [.row 5 1 (.slice a 8 c) 8 (bv (numL (n64 num)))] := hf.add (St.start w1.drew)
    obtain ⟨g2, w3, r3, k3⟩ := k2.lit bT (bv magicL) (bv_one _) (by decide)
    have k3 : St w1.drew [] w3 [.row 5 1 (.slice a 8 c) 8 (bv (numL (n64 num))), .row 5 1 (.slice (some ⟨g2, 0, none⟩) 8 8) 8 (bv magicL)] := k3
    obtain ⟨w4, o, r4, k4, ho⟩ := convHold k3 (i := 1) rfl
    have k4 : St w1.drew [] w4 [.row 5 1 (.slice a 8 c) 8 (bv (numL (n64 num))), .blk g2 o] := k4
    obtain ⟨va, vc, w5, r5, hC⟩ := fin ((h1f.same (Chg.drew [] w1)).addSt k4) (ho _ (k4.holds 1 _ rfl)) (k4.rd (i := 0) rfl)
    exact ⟨_, _, _, rfl, _, _, _, w3, r3, _, _, _, w4, r4, _, _, _, w5, r5, hC⟩

end

end Go.Proofs.YtmdandkoajocpaaGreatDoor
end
