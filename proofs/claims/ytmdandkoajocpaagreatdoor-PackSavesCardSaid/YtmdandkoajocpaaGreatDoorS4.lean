/- The proof of PackSavesCardSaid, part 4: what it rests on (conditions: those that each theorem names). -/
import Derived.Test.YtmdandkoajocpaaGreatDoorS3
import Derived.Lib.ConvBytes
import Derived.Test.YtmdandkoajocpaaGreatDoorRows
import Derived.Laws.Cover3
section
namespace Go.Proofs.YtmdandkoajocpaaGreatDoor
open Go Sx
set_option maxRecDepth 8000

def aStep (l : List Nat) (i j : Nat) : List Nat := l.set i (add32 (l.getD i 0) (l.getD j 0))
def xStep (l : List Nat) (i j n : Nat) : List Nat := l.set i (rotl (l.getD i 0 ^^^ l.getD j 0) n)
@[simp] theorem aStep_len (l : List Nat) (i j : Nat) : (aStep l i j).length = l.length := by simp [aStep]
@[simp] theorem xStep_len (l : List Nat) (i j n : Nat) : (xStep l i j n).length = l.length := by simp [xStep]
theorem Lt32.aStep {l : List Nat} (h : Lt32 l) (i j : Nat) : Lt32 (aStep l i j) := h.set i (add32_lt _ _)
theorem Lt32.xStep {l : List Nat} (h : Lt32 l) (i j n : Nat) : Lt32 (xStep l i j n) := h.set i (rotl_lt n (xor_lt (h i) (h j)))

def rnd (l : List Nat) (a b c d : Nat) : List Nat := xStep (aStep (xStep (aStep (xStep (aStep (xStep (aStep l a b) d a 16) c d) b c 12) a b) d a 8) c d) b c 7
@[simp] theorem rnd_len (l : List Nat) (a b c d : Nat) : (rnd l a b c d).length = l.length := by simp [rnd]
theorem Lt32.rnd {l : List Nat} (h : Lt32 l) (a b c d : Nat) : Lt32 (rnd l a b c d) := (((((((h.aStep a b).xStep d a 16).aStep c d).xStep b c 12).aStep a b).xStep d a 8).aStep c d).xStep b c 7

def hA (a b : Nat) : Nat := add32 a b
def hD (a b d m : Nat) : Nat := rotl (d ^^^ add32 a b) m
def hC (a b c d m : Nat) : Nat := add32 c (hD a b d m)
def hB (a b c d m n : Nat) : Nat := rotl (b ^^^ hC a b c d m) n

def qA (a b c d : Nat) : Nat := hA (hA a b) (hB a b c d 16 12)
def qD (a b c d : Nat) : Nat := hD (hA a b) (hB a b c d 16 12) (hD a b d 16) 8
def qC (a b c d : Nat) : Nat := hC (hA a b) (hB a b c d 16 12) (hC a b c d 16) (hD a b d 16) 8
def qB (a b c d : Nat) : Nat := hB (hA a b) (hB a b c d 16 12) (hC a b c d 16) (hD a b d 16) 8 7

theorem rnd_eq {l : List Nat} {a b c d : Nat} (ha : a < l.length) (hb : b < l.length) (hc : c < l.length) (hd : d < l.length) (ab : a ≠ b) (ac : a ≠ c) (ad : a ≠ d) (bc : b ≠ c) (bd : b ≠ d) (cd : c ≠ d) :
   rnd l a b c d = (((l.set a (qA (l.getD a 0) (l.getD b 0) (l.getD c 0) (l.getD d 0))).set b (qB (l.getD a 0) (l.getD b 0) (l.getD c 0) (l.getD d 0))).set c (qC (l.getD a 0) (l.getD b 0) (l.getD c 0) (l.getD d 0))).set d (qD (l.getD a 0) (l.getD b 0) (l.getD c 0) (l.getD d 0)) := by
 have h1 : ∀ (k : List Nat) (i v : Nat), i < l.length → k.length = l.length → (k.set i v).getD i 0 = v := fun k i v hi hk => getD_set_self (by omega)
 unfold rnd
 simp only [aStep, xStep]
 simp only [h1, getD_set_ne ab, getD_set_ne ac, getD_set_ne ad, getD_set_ne bc, getD_set_ne bd, getD_set_ne cd, getD_set_ne ab.symm, getD_set_ne ac.symm, getD_set_ne ad.symm, getD_set_ne bc.symm, getD_set_ne bd.symm, getD_set_ne cd.symm, ha, hb, hc, hd, List.length_set]
 simp only [qA, qB, qC, qD, hA, hB, hC, hD]
 apply List.ext_getElem?
 intro i
 simp only [List.getElem?_set, List.length_set]
 by_cases e1 : b = i
 · subst e1; simp [hb, bc.symm, bd.symm, ab, cd]
 · by_cases e2 : c = i
   · subst e2; simp [hc, e1, cd.symm]
   · by_cases e3 : d = i
     · subst e3; simp [hd, e1, e2]
     · by_cases e4 : a = i
       · subst e4; simp [ha, e1, e2, e3]
       · simp [e1, e2, e3, e4]

def colR : Nat → List Nat → List Nat
 | 0, l => l
 | k + 1, l => rnd (colR k l) k (4 + k) (8 + k) (12 + k)
def diaR : Nat → List Nat → List Nat
 | 0, l => l
 | k + 1, l => rnd (diaR k l) k (4 + (k + 1) % 4) (8 + (k + 2) % 4) (12 + (k + 3) % 4)
def dblR : Nat → List Nat → List Nat
 | 0, l => l
 | k + 1, l => diaR 4 (colR 4 (dblR k l))

@[simp] theorem colR_len : ∀ (k : Nat) (l : List Nat), (colR k l).length = l.length
 | 0, _ => rfl
 | k + 1, l => by simp [colR, colR_len k l]
@[simp] theorem diaR_len : ∀ (k : Nat) (l : List Nat), (diaR k l).length = l.length
 | 0, _ => rfl
 | k + 1, l => by simp [diaR, diaR_len k l]
@[simp] theorem dblR_len : ∀ (k : Nat) (l : List Nat), (dblR k l).length = l.length
 | 0, _ => rfl
 | k + 1, l => by simp [dblR, dblR_len k l]
theorem Lt32.colR {l : List Nat} (h : Lt32 l) : ∀ k, Lt32 (colR k l)
 | 0 => h
 | k + 1 => (Lt32.colR h k).rnd _ _ _ _
theorem Lt32.diaR {l : List Nat} (h : Lt32 l) : ∀ k, Lt32 (diaR k l)
 | 0 => h
 | k + 1 => (Lt32.diaR h k).rnd _ _ _ _
theorem Lt32.dblR {l : List Nat} (h : Lt32 l) : ∀ k, Lt32 (dblR k l)
 | 0 => h
 | k + 1 => ((Lt32.dblR h k).colR 4).diaR 4

def le4 (l : List UInt8) (o : Nat) : Nat :=
 (((l.getD o 0).toNat ||| (l.getD (o + 1) 0).toNat * 2 ^ 8 % 4294967296) ||| (l.getD (o + 2) 0).toNat * 2 ^ 16 % 4294967296) ||| (l.getD (o + 3) 0).toNat * 2 ^ 24 % 4294967296

theorem le4_lt (l : List UInt8) (o : Nat) : le4 l o < 4294967296 := by
 have h0 := (l.getD o 0).toNat_lt
 exact Nat.or_lt_two_pow (n := 32) (Nat.or_lt_two_pow (n := 32) (Nat.or_lt_two_pow (n := 32) (by omega) (Nat.mod_lt _ (by decide))) (Nat.mod_lt _ (by decide))) (Nat.mod_lt _ (by decide))

def setW (base : Nat) (key : List UInt8) : Nat → List Nat → List Nat
 | 0, l => l
 | k + 1, l => (setW base key k l).set (base + k) (le4 key (4 * k))
@[simp] theorem setW_len (base : Nat) (key : List UInt8) : ∀ (k : Nat) (l : List Nat), (setW base key k l).length = l.length
 | 0, _ => rfl
 | k + 1, l => by simp [setW, setW_len base key k l]
theorem Lt32.setW {l : List Nat} (h : Lt32 l) (base : Nat) (key : List UInt8) : ∀ k, Lt32 (setW base key k l)
 | 0 => h
 | k + 1 => (Lt32.setW h base key k).set _ (le4_lt _ _)
theorem setW_far (base : Nat) (key : List UInt8) : ∀ (k : Nat) (l : List Nat) (j : Nat), base + k ≤ j → (setW base key k l).getD j 0 = l.getD j 0
 | 0, _, _, _ => rfl
 | k + 1, l, j, h => by rw [setW, getD_set_ne (by omega), setW_far base key k l j (by omega)]

def orW (base : Nat) (key : List UInt8) : Nat → List Nat → List Nat
 | 0, l => l
 | i + 1, l => (orW base key i l).set (base + i / 4) ((orW base key i l).getD (base + i / 4) 0 ||| (key.getD i 0).toNat * 2 ^ (8 * (i % 4)) % 4294967296)
@[simp] theorem orW_len (base : Nat) (key : List UInt8) : ∀ (k : Nat) (l : List Nat), (orW base key k l).length = l.length
 | 0, _ => rfl
 | k + 1, l => by simp [orW, orW_len base key k l]
theorem Lt32.orW {l : List Nat} (h : Lt32 l) (base : Nat) (key : List UInt8) : ∀ k, Lt32 (orW base key k l)
 | 0 => h
 | k + 1 => (Lt32.orW h base key k).set _ (Nat.or_lt_two_pow (n := 32) (Lt32.orW h base key k _) (Nat.mod_lt _ (by decide)))

theorem orW_setW (base : Nat) (key : List UInt8) (l : List Nat) : ∀ k, base + k ≤ l.length → (∀ j, base ≤ j → j < base + k → l.getD j 0 = 0) → orW base key (4 * k) l = setW base key k l
 | 0, _, _ => rfl
 | k + 1, hk, h0 => by
   have ih := orW_setW base key l k (by omega) (fun j h1 h2 => h0 j h1 (by omega))
   have hz : (setW base key k l).getD (base + k) 0 = 0 := by rw [setW_far _ _ _ _ _ (Nat.le_refl _)]; exact h0 _ (by omega) (by omega)
   have e : 4 * (k + 1) = 4 * k + 3 + 1 := by omega
   have hb := (key.getD (4 * k) 0).toNat_lt
   rw [e]
   simp only [orW, ih, show (4 * k + 3) / 4 = k by omega, show (4 * k + 2) / 4 = k by omega, show (4 * k + 1) / 4 = k by omega, show 4 * k / 4 = k by omega,
     show (4 * k + 3) % 4 = 3 by omega, show (4 * k + 2) % 4 = 2 by omega, show (4 * k + 1) % 4 = 1 by omega, show 4 * k % 4 = 0 by omega, List.set_set]
   have hl : base + k < (setW base key k l).length := by rw [setW_len]; omega
   have g : ∀ v, ((setW base key k l).set (base + k) v).getD (base + k) 0 = v := fun v => getD_set_self hl
   simp only [g, hz, setW, le4, Nat.zero_or, Nat.mul_zero, Nat.pow_zero, Nat.mul_one]
   rw [Nat.mod_eq_of_lt (show (key.getD (4 * k) 0).toNat < 4294967296 by omega)]

def firstL (key : List UInt8) (ctr : Nat) (nonce : List UInt8) : List Nat :=
 setW 13 nonce 3 ((setW 4 key 8 ([1634760805, 857760878, 2036477234, 1797285236] ++ List.replicate 12 0)).set 12 ctr)
theorem firstL_len (key : List UInt8) (ctr : Nat) (nonce : List UInt8) : (firstL key ctr nonce).length = 16 := by simp [firstL]

theorem lt32_const : Lt32 ([1634760805, 857760878, 2036477234, 1797285236] ++ List.replicate 12 0) := by
 intro i
 by_cases h : i < 16
 · have : ∀ i < 16, ([1634760805, 857760878, 2036477234, 1797285236] ++ List.replicate 12 0 : List Nat).getD i 0 < 4294967296 := by decide
   exact this i h
 · rw [List.getD, List.getElem?_eq_none (by simp; omega)]; decide
theorem lt32_first (key : List UInt8) {ctr : Nat} (nonce : List UInt8) (h : ctr < 4294967296) : Lt32 (firstL key ctr nonce) := ((lt32_const.setW 4 key 8).set 12 h).setW 13 nonce 3

def outB (x y : List Nat) (i : Nat) : UInt8 := UInt8.ofNat (add32 (x.getD (i / 4) 0) (y.getD (i / 4) 0) / 2 ^ (8 * (i % 4)) % 256)
def outL (x y : List Nat) : List UInt8 := (List.range 64).map (outB x y)
@[simp] theorem outL_len (x y : List Nat) : (outL x y).length = 64 := by simp [outL]
theorem outL_comm (x y : List Nat) : outL x y = outL y x := by
 have : outB x y = outB y x := by
   funext i
   simp only [outB, add32]
   rw [Nat.add_comm]
 rw [outL, outL, this]

def blockF (key : List UInt8) (ctr : Nat) (nonce : List UInt8) : List UInt8 := outL (dblR 10 (firstL key ctr nonce)) (firstL key ctr nonce)
@[simp] theorem blockF_len (key : List UInt8) (ctr : Nat) (nonce : List UInt8) : (blockF key ctr nonce).length = 64 := by simp [blockF]

open Go Sx
set_option maxRecDepth 8000

theorem rot_spec (x n : Nat) (w : World) (hx : x < 4294967296) (hn : n < 32) (h0 : 0 < n) : Calls Tryz.prog 189 #[.int .u32 (x : Int), .int .i64 (n : Int)] w fun e w' => e = .returned (.int .u32 ((rotl x n : Nat) : Int)) ∧ w' = w := by
 apply bits_RotateLeft32_vc
 have h1 : band .u64 (IntKind.wrap .u64 (n : Int)) 31 = (n : Int) := by
   rw [wrap_uns rfl (by simp [kmod, IntKind.bits]; omega), show (31 : Int) = ((31 : Nat) : Int) from rfl, band_nat rfl (by simp [kmod, IntKind.bits]; omega) (by simp [kmod, IntKind.bits]), show n &&& 31 = n % 32 from Nat.and_two_pow_sub_one_eq_mod n 5, Nat.mod_eq_of_lt hn]
 have h2 : IntKind.wrap .u64 ((32 : Int) - (n : Int)) = ((32 - n : Nat) : Int) := by rw [wrap_u64]; omega
 rw [h1, h2]
 refine ⟨by omega, by omega, ?_, rfl⟩
 rw [rotl_val x n hx hn h0]

theorem left_spec (x n : Nat) (w : World) (hx : x < 4294967296) (hn : n < 32) (h0 : 0 < n) : Calls Tryz.prog 172 #[.int .u32 (x : Int), .int .u64 (n : Int)] w fun e w' => e = .returned (.int .u32 ((rotl x n : Nat) : Int)) ∧ w' = w := by
 apply amphoraref03_left_vc
 have h2 : IntKind.wrap .u64 ((32 : Int) - (n : Int)) = ((32 - n : Nat) : Int) := by rw [wrap_u64]; omega
 rw [h2]
 refine ⟨by omega, by omega, ?_, rfl⟩
 rw [rotl_val x n hx hn h0]

theorem quarter_spec (a b c d : Nat) (w : World) (hb : b < 4294967296) (hd : d < 4294967296) :
   Calls Tryz.prog 185 #[.int .u32 (a : Int), .int .u32 (b : Int), .int .u32 (c : Int), .int .u32 (d : Int)] w fun e w' => e = .returned (.tuple #[.int .u32 ((qA a b c d : Nat) : Int), .int .u32 ((qB a b c d : Nat) : Int), .int .u32 ((qC a b c d : Nat) : Int), .int .u32 ((qD a b c d : Nat) : Int)]) ∧ w' = w := by
 have l1 : hD a b d 16 < 4294967296 := rotl_lt _ (xor_lt hd (add32_lt _ _))
 have l2 : hB a b c d 16 12 < 4294967296 := rotl_lt _ (xor_lt hb (add32_lt _ _))
 apply chacha_quarter_vc
 simp only [add_val]
 rw [xor_val hd (add32_lt _ _)]
 refine (rot_spec _ 16 w (xor_lt hd (add32_lt _ _)) (by decide) (by decide)).mono ?_
 rintro e w1 ⟨rfl, rfl⟩
 refine ⟨_, rfl, ?_⟩
 simp only [add_val]
 rw [show rotl (d ^^^ add32 a b) 16 = hD a b d 16 from rfl, xor_val hb (add32_lt _ _)]
 refine (rot_spec _ 12 _ (xor_lt hb (add32_lt _ _)) (by decide) (by decide)).mono ?_
 rintro e w2 ⟨rfl, rfl⟩
 refine ⟨_, rfl, ?_⟩
 simp only [add_val]
 rw [show rotl (b ^^^ add32 c (hD a b d 16)) 12 = hB a b c d 16 12 from rfl, xor_val l1 (add32_lt _ _)]
 refine (rot_spec _ 8 _ (xor_lt l1 (add32_lt _ _)) (by decide) (by decide)).mono ?_
 rintro e w3 ⟨rfl, rfl⟩
 refine ⟨_, rfl, ?_⟩
 simp only [add_val]
 rw [xor_val l2 (add32_lt _ _)]
 refine (rot_spec _ 7 _ (xor_lt l2 (add32_lt _ _)) (by decide) (by decide)).mono ?_
 rintro e w4 ⟨rfl, rfl⟩
 exact ⟨_, rfl, rfl, rfl⟩

section
variable {w0 w : World} {X : List Nat} {M : List Res}

theorem aStep_vc (h : St w0 X w M) {m g : Nat} {T : TypeId} {l : List Nat} (hi : M[m]? = some (.arr g T (kv .u32 l))) (hl : l.length = 16) {i j : Nat} (ha : i < 16) (hb : j < 16) {K : World → Prop}
   (hK : ∀ w', St w0 X w' (M.set m (.arr g T (kv .u32 (aStep l i j)))) → K w') :
   ∃ S : World → Prop, S w.drew ∧ (0 ≤ (i : Int) ∧ (i : Int) < 16 ∧ (0 ≤ (j : Int) ∧ (j : Int) < 16 ∧
     (∃ t : Int, (∀ w', S w' → (Instr.loadAt 209 (.pointer (some ⟨g, 0 + Int.toNat (i : Int) * 1, none⟩))).run Tryz.prog w' = .ok (.int .u32 t) w') ∧
     (∃ t' : Int, (∀ w', S w' → (Instr.loadAt 209 (.pointer (some ⟨g, 0 + Int.toNat (j : Int) * 1, none⟩))).run Tryz.prog w' = .ok (.int .u32 t') w') ∧
       (0 ≤ (i : Int) ∧ (i : Int) < 16 ∧ (∃ w1, (Instr.storeAt 209 (.pointer (some ⟨g, 0 + Int.toNat (i : Int) * 1, none⟩)) (.int .u32 (IntKind.wrap .u32 (t + t')))).run Tryz.prog w.drew = .ok () w1 ∧ K w1)))))) := by
 have e : ∀ k : Nat, 0 + Int.toNat (k : Int) * 1 = k := fun k => by omega
 have hT : ∀ w, (isAgg 209).run Tryz.prog w = .ok false w := fun w => Tryz.isAgg209 w
 refine ⟨fun w' => St w0 X w' M, h.drew, by omega, by omega, by omega, by omega, _, fun w' h' => h'.ldK hi (hT _) (e i) (by omega), _, fun w' h' => h'.ldK hi (hT _) (e j) (by omega), by omega, by omega, ?_⟩
 rw [add_val]
 obtain ⟨w1, hr, h1⟩ := h.drew.stK (n := add32 (l.getD i 0) (l.getD j 0)) hi (Tryz.sizeOf209 _) (e i) (by omega)
 exact ⟨w1, hr, hK _ h1⟩

theorem xStep_vc (h : St w0 X w M) {m g : Nat} {T : TypeId} {l : List Nat} (hi : M[m]? = some (.arr g T (kv .u32 l))) (hl : l.length = 16) (hlt : Lt32 l) {i j n : Nat} (ha : i < 16) (hb : j < 16) (hn : n < 32) (h0 : 0 < n) {K : World → Prop}
   (hK : ∀ w', St w0 X w' (M.set m (.arr g T (kv .u32 (xStep l i j n)))) → K w') :
   ∃ S : World → Prop, S w.drew ∧ (0 ≤ (i : Int) ∧ (i : Int) < 16 ∧ (0 ≤ (j : Int) ∧ (j : Int) < 16 ∧
     (∃ t : Int, (∀ w', S w' → (Instr.loadAt 209 (.pointer (some ⟨g, 0 + Int.toNat (i : Int) * 1, none⟩))).run Tryz.prog w' = .ok (.int .u32 t) w') ∧
     (∃ t' : Int, (∀ w', S w' → (Instr.loadAt 209 (.pointer (some ⟨g, 0 + Int.toNat (j : Int) * 1, none⟩))).run Tryz.prog w' = .ok (.int .u32 t') w') ∧
     (Calls Tryz.prog 172 #[.int .u32 (bxor .u32 t t'), .int .u64 ((n : Nat) : Int)] w.drew fun e w2 => ∃ t2 : Int, e = .returned (.int .u32 t2) ∧
       (∃ S_2 : World → Prop, (∀ w', S_2 w' → S w') ∧ S_2 w2 ∧
       (0 ≤ (i : Int) ∧ (i : Int) < 16 ∧ (∃ w1, (Instr.storeAt 209 (.pointer (some ⟨g, 0 + Int.toNat (i : Int) * 1, none⟩)) (.int .u32 t2)).run Tryz.prog w2 = .ok () w1 ∧ K w1)))))))) := by
 have e : ∀ k : Nat, 0 + Int.toNat (k : Int) * 1 = k := fun k => by omega
 have hT : ∀ w, (isAgg 209).run Tryz.prog w = .ok false w := fun w => Tryz.isAgg209 w
 refine ⟨fun w' => St w0 X w' M, h.drew, by omega, by omega, by omega, by omega, _, fun w' h' => h'.ldK hi (hT _) (e i) (by omega), _, fun w' h' => h'.ldK hi (hT _) (e j) (by omega), ?_⟩
 rw [xor_val (hlt i) (hlt j)]
 refine (left_spec _ n _ (xor_lt (hlt i) (hlt j)) hn h0).mono ?_
 rintro e1 w2 ⟨rfl, rfl⟩
 refine ⟨_, rfl, fun w' => St w0 X w' M, fun _ h => h, h.drew, by omega, by omega, ?_⟩
 obtain ⟨w1, hr, h1⟩ := h.drew.stK (n := rotl (l.getD i 0 ^^^ l.getD j 0) n) hi (Tryz.sizeOf209 _) (e i) (by omega)
 exact ⟨w1, hr, hK _ h1⟩

end

theorem round_spec (g : Nat) (T : TypeId) (l : List Nat) (a b c d : Nat) (w : World) (hg : w.heap[g]? = some (.cells (kv .u32 l).toArray T)) (hl : l.length = 16) (hlt : Lt32 l) (ha : a < 16) (hb : b < 16) (hc : c < 16) (hd : d < 16) :
   Calls Tryz.prog 148 #[.pointer (some ⟨g, 0, none⟩), .int .i64 (a : Int), .int .i64 (b : Int), .int .i64 (c : Int), .int .i64 (d : Int)] w fun e w' => e = .returned (.tuple #[]) ∧ Chg [g] w w' ∧ w'.heap[g]? = some (.cells (kv .u32 (rnd l a b c d)).toArray T) := by
 apply amphoraref03_round_vc
 refine aStep_vc (St.ofBlk hg) (m := 0) rfl hl ha hb fun w1 h1 => ?_
 refine xStep_vc h1 (m := 0) rfl (by simp [hl]) (hlt.aStep _ _) hd ha (by decide) (by decide) fun w2 h2 => ?_
 refine aStep_vc h2 (m := 0) rfl (by simp [hl]) hc hd fun w3 h3 => ?_
 refine xStep_vc h3 (m := 0) rfl (by simp [hl]) (((hlt.aStep _ _).xStep _ _ _).aStep _ _) hb hc (by decide) (by decide) fun w4 h4 => ?_
 refine aStep_vc h4 (m := 0) rfl (by simp [hl]) ha hb fun w5 h5 => ?_
 refine xStep_vc h5 (m := 0) rfl (by simp [hl]) (((((hlt.aStep _ _).xStep _ _ _).aStep _ _).xStep _ _ _).aStep _ _) hd ha (by decide) (by decide) fun w6 h6 => ?_
 refine aStep_vc h6 (m := 0) rfl (by simp [hl]) hc hd fun w7 h7 => ?_
 refine xStep_vc h7 (m := 0) rfl (by simp [hl]) (((((((hlt.aStep _ _).xStep _ _ _).aStep _ _).xStep _ _ _).aStep _ _).xStep _ _ _).aStep _ _) hb hc (by decide) (by decide) fun w8 h8 => ?_
 exact ⟨rfl, h8.chg, h8.holds 0 _ rfl⟩

open Go Sx
set_option maxRecDepth 8000

theorem word_spec (a : Option Addr) (n c : Nat) (l : List UInt8) (w : World) (hr : RdB w a n c l) (hn : 4 ≤ n) : Calls Tryz.prog 188 #[.slice a n c] w fun e w' => e = .returned (.int .u32 ((le4 l 0 : Nat) : Int)) ∧ Chg [] w w' := by
 have hl := hr.lenB
 apply chacha_word_vc
 have b0 := (l.getD 0 0).toNat_lt
 have b1 := (l.getD 1 0).toNat_lt
 have b2 := (l.getD 2 0).toNat_lt
 have b3 := (l.getD 3 0).toNat_lt
 have hc : Cells w.drew a (bv l) := hr.cells.keep0 (Chg.drew _ _)
 refine ⟨fun w' => Chg [] w w', Chg.drew _ _, ?_⟩
 refine ix0 hr.cells hl 0 (by omega) fun g0 o0 e0 h0 => ix0 hr.cells hl 1 (by omega) fun g1 o1 e1 h1 => ix0 hr.cells hl 2 (by omega) fun g2 o2 e2 h2 => ix0 hr.cells hl 3 (by omega) fun g3 o3 e3 h3 => ?_
 refine ⟨g0, o0, e0, by omega, by omega, g1, o1, e1, by omega, by omega, g2, o2, e2, by omega, by omega, g3, o3, e3, by omega, by omega,
   _, fun w' h => h0 w' (hr.cells.keep0 h), _, fun w' h => h1 w' (hr.cells.keep0 h), _, fun w' h => h2 w' (hr.cells.keep0 h), _, fun w' h => h3 w' (hr.cells.keep0 h), ?_, Chg.drew _ _⟩
 rw [wrap_u32_nat (show (l.getD 0 0).toNat < 4294967296 by omega), wrap_u32_nat (show (l.getD 1 0).toNat < 4294967296 by omega), wrap_u32_nat (show (l.getD 2 0).toNat < 4294967296 by omega), wrap_u32_nat (show (l.getD 3 0).toNat < 4294967296 by omega),
   show (8 : Int) = ((8 : Nat) : Int) from rfl, show (16 : Int) = ((16 : Nat) : Int) from rfl, show (24 : Int) = ((24 : Nat) : Int) from rfl, shl_val (by decide), shl_val (by decide), shl_val (by decide)]
 have m : ∀ x : Nat, x % 4294967296 < 4294967296 := fun x => Nat.mod_lt _ (by decide)
 rw [or_val (by omega) (m _), or_val (Nat.or_lt_two_pow (n := 32) (by omega) (m _)) (m _), or_val (Nat.or_lt_two_pow (n := 32) (Nat.or_lt_two_pow (n := 32) (by omega) (m _)) (m _)) (m _)]
 rfl

theorem le4_sub (l : List UInt8) (o n : Nat) (h : 4 ≤ n) : le4 ((l.drop o).take n) 0 = le4 l o := by
 have : ∀ j, j < 4 → ((l.drop o).take n).getD (0 + j) 0 = l.getD (o + j) 0 := fun j hj => by
   simp only [List.getD, List.getElem?_take, List.getElem?_drop, Nat.zero_add]
   rw [if_pos (by omega)]
 have h0 := this 0 (by omega)
 rw [Nat.add_zero, Nat.add_zero] at h0
 simp only [le4, h0, this 1 (by omega), this 2 (by omega), this 3 (by omega)]

theorem zero16 (w : World) : (zeroValue 235).run Tryz.prog w = .ok (.agg (kv .u32 (List.replicate 16 0)).toArray) w := Tryz.zeroValue235 w
theorem zero64 (w : World) : (zeroValue 207).run Tryz.prog w = .ok (.agg (bv (List.replicate 64 0)).toArray) w := Tryz.zeroValue207 w

theorem begin_spec (key nonce : List UInt8) (ctr : Nat) (w : World) (hk : key.length = 32) (hn : nonce.length = 12) (hc : ctr < 4294967296) :
   Calls Tryz.prog 184 #[.agg (bv key).toArray, .int .u32 (ctr : Int), .agg (bv nonce).toArray] w fun e w' => e = .returned (.agg (kv .u32 (firstL key ctr nonce)).toArray) ∧ Chg [] w w' := by
 apply chacha_begin_vc
 obtain ⟨g1, w1, r1, h1⟩ := (St.start w).boxA (P := Tryz.prog) 22 (bv key)
 obtain ⟨g2, w2, r2, h2⟩ := h1.boxA (P := Tryz.prog) 187 (bv nonce)
 obtain ⟨g3, w3, r3, h3⟩ := h2.zeroA zero16
 have hb := build_arr (P := Tryz.prog) (w := w3) (zero16 w3) Tryz.underlying235 (Tryz.sizeOf209 _) (kv .u32 [1634760805, 857760878, 2036477234, 1797285236]) (kv_one _ _) (by simp)
 obtain ⟨g4, w4, r4, h4⟩ := h3.zeroA zero16
 obtain ⟨w5, r5, h5⟩ := h4.stA (i := 3) (v := kv .u32 ([1634760805, 857760878, 2036477234, 1797285236] ++ List.replicate 12 0)) rfl (Tryz.sizeOf235 _) (by simp) (by simp) (kv_one _ _)
 refine ⟨_, _, r1, _, _, r2, _, _, r3, _, hb, _, _, r4, _, r5, ?_⟩
 refine ⟨fun i w' => ∃ k : Nat, i = (k : Int) ∧ k ≤ 8 ∧ St w [] w' [.arr g1 22 (bv key), .arr g2 187 (bv nonce), .arr g3 235 (kv .u32 (List.replicate 16 0)), .arr g4 235 (kv .u32 (setW 4 key k ([1634760805, 857760878, 2036477234, 1797285236] ++ List.replicate 12 0)))], fun i _ => 8 - i.toNat,
   ⟨0, rfl, by omega, h5⟩, ?_⟩
 rintro i w6 ⟨k, rfl, hk8, hS⟩
 refine ⟨fun h => ?_, fun h => ?_⟩
 · have hk' : k < 8 := by simp at h; omega
   have e1 : IntKind.wrap .i64 ((4 : Int) * (k : Int)) = ((4 * k : Nat) : Int) := by rw [wrap_i64 (by omega) (by omega)]; omega
   have e2 : IntKind.wrap .i64 ((4 : Int) + (k : Int)) = ((4 + k : Nat) : Int) := by rw [wrap_i64 (by omega) (by omega)]; omega
   have e3 : IntKind.wrap .i64 ((k : Int) + 1) = ((k + 1 : Nat) : Int) := by rw [wrap_i64 (by omega) (by omega)]; rfl
   rw [e1, e2, e3]
   refine ⟨by omega, by omega, by omega, fun a' hs => ?_⟩
   have hrd := (hS.rdA (i := 0) (n := 32) rfl (by simp [hk])).sub (l := 4 * k) (hh := 32) (m := 32) hs (by omega) (by omega) (by omega) (by omega)
   rw [Nat.mul_one, Nat.mul_one, ← bv_drop, ← bv_take] at hrd
   refine (word_spec _ _ _ _ _ hrd (by omega)).mono ?_
   rintro e w7 ⟨rfl, hc7⟩
   rw [le4_sub _ _ _ (by omega)]
   refine ⟨_, rfl, by omega, by omega, ?_⟩
   obtain ⟨w8, r8, h8⟩ := (hS.same hc7).stK (i := 3) (off := 0 + Int.toNat ((4 + k : Nat) : Int) * 1) (o := 4 + k) (n := le4 key (4 * k)) rfl (Tryz.sizeOf209 _) (by omega) (by simp; omega)
   exact ⟨w8, r8, ⟨k + 1, rfl, by omega, h8⟩, by simp; omega⟩
 · have hk' : k = 8 := by simp at h; omega
   subst hk'
   obtain ⟨w7, r7, h7⟩ := hS.stK (i := 3) (off := 12) (o := 12) (n := ctr) rfl (Tryz.sizeOf209 _) rfl (by simp)
   refine ⟨w7, r7, ?_⟩
   refine ⟨fun i w' => ∃ k : Nat, i = (k : Int) ∧ k ≤ 3 ∧ St w [] w' [.arr g1 22 (bv key), .arr g2 187 (bv nonce), .arr g3 235 (kv .u32 (List.replicate 16 0)), .arr g4 235 (kv .u32 (setW 13 nonce k ((setW 4 key 8 ([1634760805, 857760878, 2036477234, 1797285236] ++ List.replicate 12 0)).set 12 ctr)))], fun i _ => 3 - i.toNat,
     ⟨0, rfl, by omega, h7⟩, ?_⟩
   rintro i w8 ⟨k, rfl, hk8, hS⟩
   refine ⟨fun h => ?_, fun h => ?_⟩
   · have hk' : k < 3 := by simp at h; omega
     have e1 : IntKind.wrap .i64 ((4 : Int) * (k : Int)) = ((4 * k : Nat) : Int) := by rw [wrap_i64 (by omega) (by omega)]; omega
     have e2 : IntKind.wrap .i64 ((13 : Int) + (k : Int)) = ((13 + k : Nat) : Int) := by rw [wrap_i64 (by omega) (by omega)]; omega
     have e3 : IntKind.wrap .i64 ((k : Int) + 1) = ((k + 1 : Nat) : Int) := by rw [wrap_i64 (by omega) (by omega)]; rfl
     rw [e1, e2, e3]
     refine ⟨by omega, by omega, by omega, fun a' hs => ?_⟩
     have hrd := (hS.rdA (i := 1) (n := 12) rfl (by simp [hn])).sub (l := 4 * k) (hh := 12) (m := 12) hs (by omega) (by omega) (by omega) (by omega)
     rw [Nat.mul_one, Nat.mul_one, ← bv_drop, ← bv_take] at hrd
     refine (word_spec _ _ _ _ _ hrd (by omega)).mono ?_
     rintro e w9 ⟨rfl, hc9⟩
     rw [le4_sub _ _ _ (by omega)]
     refine ⟨_, rfl, by omega, by omega, ?_⟩
     obtain ⟨w10, r10, h10⟩ := (hS.same hc9).stK (i := 3) (off := 0 + Int.toNat ((13 + k : Nat) : Int) * 1) (o := 13 + k) (n := le4 nonce (4 * k)) rfl (Tryz.sizeOf209 _) (by omega) (by simp; omega)
     exact ⟨w10, r10, ⟨k + 1, rfl, by omega, h10⟩, by simp; omega⟩
   · have hk' : k = 3 := by simp at h; omega
     subst hk'
     have hA : ∀ w, (isAgg 235).run Tryz.prog w = .ok true w := fun w => Tryz.isAgg235 w
     refine ⟨_, hS.ldA (i := 3) rfl (hA _) (Tryz.sizeOf235 _) (by simp), ?_⟩
     obtain ⟨w9, r9, h9⟩ := hS.stA (i := 2) (v := kv .u32 (firstL key ctr nonce)) rfl (Tryz.sizeOf235 _) (by simp) (by simp [firstL]) (kv_one _ _)
     exact ⟨w9, r9, _, h9.ldVarA (i := 2) rfl (hA _) (Tryz.sizeOf235 _) (by simp [firstL]), rfl, h9.chg⟩

open Go Sx
set_option maxRecDepth 8000

theorem e16 : ∀ w, (isAgg 235).run Tryz.prog w = .ok true w := fun w => Tryz.isAgg235 w
theorem e64 : ∀ w, (isAgg 207).run Tryz.prog w = .ok true w := fun w => Tryz.isAgg207 w
theorem e32 : ∀ w, (isAgg 22).run Tryz.prog w = .ok true w := fun w => Tryz.isAgg22 w
theorem e12 : ∀ w, (isAgg 187).run Tryz.prog w = .ok true w := fun w => Tryz.isAgg187 w
theorem eU : ∀ w, (isAgg 209).run Tryz.prog w = .ok false w := fun w => Tryz.isAgg209 w

theorem outB_val (x y : List Nat) (i j : Nat) (hj : j < 4) : IntKind.wrap .u8 ((add32 (x.getD i 0) (y.getD i 0) / 2 ^ (8 * j) : Nat) : Int) = ((outB x y (4 * i + j)).toNat : Int) := by
 rw [wrap_u8, outB, show (4 * i + j) / 4 = i by omega, show (4 * i + j) % 4 = j by omega]
 simp
theorem outL_get (x y : List Nat) (i : Nat) (h : i < 64) : (outL x y)[i]? = some (outB x y i) := by simp [outL, h]

theorem block_spec (key nonce : List UInt8) (ctr : Nat) (w : World) (hk : key.length = 32) (hn : nonce.length = 12) (hc : ctr < 4294967296) :
   Calls Tryz.prog 171 #[.agg (bv key).toArray, .int .u32 (ctr : Int), .agg (bv nonce).toArray] w fun e w' => e = .returned (.agg (bv (blockF key ctr nonce)).toArray) ∧ Chg [] w w' := by
 apply chacha_Block_vc
 obtain ⟨g1, w1, r1, h1⟩ := (St.start w).boxA (P := Tryz.prog) 22 (bv key)
 obtain ⟨g2, w2, r2, h2⟩ := h1.boxA (P := Tryz.prog) 187 (bv nonce)
 obtain ⟨g3, w3, r3, h3⟩ := h2.zeroA zero64
 refine ⟨_, _, r1, _, _, r2, _, _, r3, _, h3.ldA (i := 0) rfl (e32 _) (Tryz.sizeOf22 _) (by simp [hk]), _, h3.ldA (i := 1) rfl (e12 _) (Tryz.sizeOf187 _) (by simp [hn]), (begin_spec key nonce ctr w3 hk hn hc).mono ?_⟩
 rintro e w4 ⟨rfl, hc4⟩
 have h4 := h3.same hc4
 have hF := firstL_len key ctr nonce
 have hlF := lt32_first key nonce hc
 obtain ⟨F, hFd⟩ : ∃ F, firstL key ctr nonce = F := ⟨_, rfl⟩
 have hB : blockF key ctr nonce = outL (dblR 10 F) F := by rw [blockF, hFd]
 rw [hB]
 rw [hFd] at hF hlF ⊢
 obtain ⟨g5, w5, r5, h5⟩ := h4.zeroA zero16
 obtain ⟨w6, r6, h6⟩ := h5.stA (i := 3) (v := kv .u32 F) rfl (Tryz.sizeOf235 _) (by simp) (by simp [hF]) (kv_one _ _)
 obtain ⟨g7, w7, r7, h7⟩ := h6.zeroA zero16
 obtain ⟨w8, r8, h8⟩ := h7.stA (i := 4) (v := kv .u32 F) rfl (Tryz.sizeOf235 _) (by simp) (by simp [hF]) (kv_one _ _)
 refine ⟨_, rfl, _, _, r5, _, r6, _, h6.ldA (i := 3) rfl (e16 _) (Tryz.sizeOf235 _) (by simp [hF]), _, _, r7, _, r8, ?_⟩
 obtain ⟨Mx, hMx⟩ : ∃ Mx : List Nat → List Res, Mx = fun x => [.arr g1 22 (bv key), .arr g2 187 (bv nonce), .arr g3 207 (bv (List.replicate 64 0)), .arr g5 235 (kv .u32 F), .arr g7 235 (kv .u32 x)] := ⟨_, rfl⟩
 have hi4 : ∀ x, (Mx x)[4]? = some (.arr g7 235 (kv .u32 x)) := fun x => by rw [hMx]; rfl
 have hi3 : ∀ x, (Mx x)[3]? = some (.arr g5 235 (kv .u32 F)) := fun x => by rw [hMx]; rfl
 have hi2 : ∀ x, (Mx x)[2]? = some (.arr g3 207 (bv (List.replicate 64 0))) := fun x => by rw [hMx]; rfl
 have hset : ∀ x y, (Mx x).set 4 (.arr g7 235 (kv .u32 y)) = Mx y := fun x y => by rw [hMx]; rfl
 have h8' : St w [] w8 (Mx F) := by rw [hMx]; exact h8
 have hw : ∀ i : Nat, i < 100 → IntKind.wrap .i64 ((i : Int) + 1) = ((i + 1 : Nat) : Int) := fun i h => by rw [wrap_i64 (by omega) (by omega)]; rfl
 have ze : ∀ k : Nat, 0 + Int.toNat (k : Int) * 1 = k := fun k => by omega
 have sU : ∀ w, (sizeOf 209).run Tryz.prog w = .ok 1 w := fun w => Tryz.sizeOf209 w
 have sB : ∀ w, (sizeOf 5).run Tryz.prog w = .ok 1 w := fun w => Tryz.sizeOf5 w
 -- a quarter round in place
 have step : ∀ (x : List Nat) (a b c d : Nat) (wa : World) (K : World → Prop), St w [] wa (Mx x) → x.length = 16 → Lt32 x → a < 16 → b < 16 → c < 16 → d < 16 → a ≠ b → a ≠ c → a ≠ d → b ≠ c → b ≠ d → c ≠ d → (∀ wb, St w [] wb (Mx (rnd x a b c d)) → K wb) →
     (∃ S : World → Prop, S wa.drew ∧ (0 ≤ (a : Int) ∧ (a : Int) < 16 ∧ (0 ≤ (b : Int) ∧ (b : Int) < 16 ∧ (0 ≤ (c : Int) ∧ (c : Int) < 16 ∧ (0 ≤ (d : Int) ∧ (d : Int) < 16 ∧
       (∃ ta : Int, (∀ w', S w' → (Instr.loadAt 209 (.pointer (some ⟨g7, 0 + Int.toNat (a : Int) * 1, none⟩))).run Tryz.prog w' = .ok (.int .u32 ta) w') ∧
       (∃ tb : Int, (∀ w', S w' → (Instr.loadAt 209 (.pointer (some ⟨g7, 0 + Int.toNat (b : Int) * 1, none⟩))).run Tryz.prog w' = .ok (.int .u32 tb) w') ∧
       (∃ tc : Int, (∀ w', S w' → (Instr.loadAt 209 (.pointer (some ⟨g7, 0 + Int.toNat (c : Int) * 1, none⟩))).run Tryz.prog w' = .ok (.int .u32 tc) w') ∧
       (∃ td : Int, (∀ w', S w' → (Instr.loadAt 209 (.pointer (some ⟨g7, 0 + Int.toNat (d : Int) * 1, none⟩))).run Tryz.prog w' = .ok (.int .u32 td) w') ∧
         (Calls Tryz.prog 185 #[.int .u32 ta, .int .u32 tb, .int .u32 tc, .int .u32 td] wa.drew fun e w11 => ∃ t0 t1 t2 t3 : Int, e = .returned (.tuple #[.int .u32 t0, .int .u32 t1, .int .u32 t2, .int .u32 t3]) ∧
           (∃ S_1 : World → Prop, (∀ w', S_1 w' → S w') ∧ S_1 w11 ∧
             (0 ≤ (a : Int) ∧ (a : Int) < 16 ∧ (∃ w12, (Instr.storeAt 209 (.pointer (some ⟨g7, 0 + Int.toNat (a : Int) * 1, none⟩)) (.int .u32 t0)).run Tryz.prog w11 = .ok () w12 ∧
             (0 ≤ (b : Int) ∧ (b : Int) < 16 ∧ (∃ w13, (Instr.storeAt 209 (.pointer (some ⟨g7, 0 + Int.toNat (b : Int) * 1, none⟩)) (.int .u32 t1)).run Tryz.prog w12 = .ok () w13 ∧
             (0 ≤ (c : Int) ∧ (c : Int) < 16 ∧ (∃ w14, (Instr.storeAt 209 (.pointer (some ⟨g7, 0 + Int.toNat (c : Int) * 1, none⟩)) (.int .u32 t2)).run Tryz.prog w13 = .ok () w14 ∧
             (0 ≤ (d : Int) ∧ (d : Int) < 16 ∧ (∃ w15, (Instr.storeAt 209 (.pointer (some ⟨g7, 0 + Int.toNat (d : Int) * 1, none⟩)) (.int .u32 t3)).run Tryz.prog w14 = .ok () w15 ∧ K w15))))))))))))))))))) := by
   intro x a b c d wa K hS hx hlx ha hb hcc hd ab ac ad bc bd cd hK
   refine ⟨fun w' => St w [] w' (Mx x), hS.drew, by omega, by omega, by omega, by omega, by omega, by omega, by omega, by omega, _, fun w' h => h.ldK (hi4 x) (eU _) (ze a) (by omega), _, fun w' h => h.ldK (hi4 x) (eU _) (ze b) (by omega), _, fun w' h => h.ldK (hi4 x) (eU _) (ze c) (by omega), _, fun w' h => h.ldK (hi4 x) (eU _) (ze d) (by omega), ?_⟩
   refine (quarter_spec _ _ _ _ _ (hlx b) (hlx d)).mono ?_
   rintro e w11 ⟨rfl, rfl⟩
   obtain ⟨w12, q1, s1⟩ := hS.drew.stK (n := qA (x.getD a 0) (x.getD b 0) (x.getD c 0) (x.getD d 0)) (hi4 x) (sU _) (ze a) (by omega)
   rw [hset] at s1
   obtain ⟨w13, q2, s2⟩ := s1.stK (n := qB (x.getD a 0) (x.getD b 0) (x.getD c 0) (x.getD d 0)) (hi4 _) (sU _) (ze b) (by simp; omega)
   rw [hset] at s2
   obtain ⟨w14, q3, s3⟩ := s2.stK (n := qC (x.getD a 0) (x.getD b 0) (x.getD c 0) (x.getD d 0)) (hi4 _) (sU _) (ze c) (by simp; omega)
   rw [hset] at s3
   obtain ⟨w15, q4, s4⟩ := s3.stK (n := qD (x.getD a 0) (x.getD b 0) (x.getD c 0) (x.getD d 0)) (hi4 _) (sU _) (ze d) (by simp; omega)
   rw [hset] at s4
   refine ⟨_, _, _, _, rfl, fun w' => St w [] w' (Mx x), fun _ h => h, hS.drew, by omega, by omega, w12, q1, by omega, by omega, w13, q2, by omega, by omega, w14, q3, by omega, by omega, w15, q4, hK _ ?_⟩
   rw [rnd_eq (by omega) (by omega) (by omega) (by omega) ab ac ad bc bd cd]
   exact s4
 refine ⟨fun i w' => ∃ k : Nat, i = (k : Int) ∧ k ≤ 10 ∧ St w [] w' (Mx (dblR k F)), fun i _ => 10 - i.toNat, ⟨0, rfl, by omega, h8'⟩, ?_⟩
 rintro i w9 ⟨k, rfl, hk10, hS⟩
 refine ⟨fun h => ?_, fun h => ?_⟩
 · have hk' : k < 10 := by simp at h; omega
   refine ⟨fun i w' => ∃ j : Nat, i = (j : Int) ∧ j ≤ 4 ∧ St w [] w' (Mx (colR j (dblR k F))), fun i _ => 4 - i.toNat, ⟨0, rfl, by omega, hS⟩, ?_⟩
   rintro i w10 ⟨j, rfl, hj4, hS⟩
   refine ⟨fun h => ?_, fun h => ?_⟩
   · have hj' : j < 4 := by simp at h; omega
     have e1 : IntKind.wrap .i64 ((4 : Int) + (j : Int)) = ((4 + j : Nat) : Int) := by rw [wrap_i64 (by omega) (by omega)]; omega
     have e2 : IntKind.wrap .i64 ((8 : Int) + (j : Int)) = ((8 + j : Nat) : Int) := by rw [wrap_i64 (by omega) (by omega)]; omega
     have e3 : IntKind.wrap .i64 ((12 : Int) + (j : Int)) = ((12 + j : Nat) : Int) := by rw [wrap_i64 (by omega) (by omega)]; omega
     rw [e1, e2, e3, hw j (by omega)]
     refine step _ j (4 + j) (8 + j) (12 + j) _ _ hS (by simp [hF]) ((hlF.dblR k).colR j) (by omega) (by omega) (by omega) (by omega) (by omega) (by omega) (by omega) (by omega) (by omega) (by omega) fun wb hb => ?_
     exact ⟨⟨j + 1, rfl, by omega, hb⟩, by simp; omega⟩
   · have hj' : j = 4 := by simp at h; omega
     subst hj'
     refine ⟨fun i w' => ∃ j : Nat, i = (j : Int) ∧ j ≤ 4 ∧ St w [] w' (Mx (diaR j (colR 4 (dblR k F)))), fun i _ => 4 - i.toNat, ⟨0, rfl, by omega, hS⟩, ?_⟩
     rintro i w11 ⟨j, rfl, hj4, hS⟩
     refine ⟨fun h => ?_, fun h => ?_⟩
     · have hj' : j < 4 := by simp at h; omega
       have e0 : ∀ (u v : Nat), u < 100 → v < 100 → IntKind.wrap .i64 ((u : Int) + Int.tmod (IntKind.wrap .i64 ((j : Int) + (v : Int))) 4) = ((u + (j + v) % 4 : Nat) : Int) := fun u v hu hv => by
         rw [show IntKind.wrap .i64 ((j : Int) + (v : Int)) = ((j + v : Nat) : Int) by rw [wrap_i64 (by omega) (by omega)]; omega, Int.tmod_eq_emod_of_nonneg (by omega), wrap_i64 (by omega) (by omega)]; omega
       have e1 : IntKind.wrap .i64 ((4 : Int) + Int.tmod (IntKind.wrap .i64 ((j : Int) + 1)) 4) = _ := e0 4 1 (by omega) (by omega)
       have e2 : IntKind.wrap .i64 ((8 : Int) + Int.tmod (IntKind.wrap .i64 ((j : Int) + 2)) 4) = _ := e0 8 2 (by omega) (by omega)
       have e3 : IntKind.wrap .i64 ((12 : Int) + Int.tmod (IntKind.wrap .i64 ((j : Int) + 3)) 4) = _ := e0 12 3 (by omega) (by omega)
       rw [e1, e2, e3, hw j (by omega)]
       refine step _ j (4 + (j + 1) % 4) (8 + (j + 2) % 4) (12 + (j + 3) % 4) _ _ hS (by simp [hF]) (((hlF.dblR k).colR 4).diaR j) (by omega) (by omega) (by omega) (by omega) (by omega) (by omega) (by omega) (by omega) (by omega) (by omega) fun wb hb => ?_
       exact ⟨⟨j + 1, rfl, by omega, hb⟩, by simp; omega⟩
     · have hj' : j = 4 := by simp at h; omega
       subst hj'
       rw [hw k (by omega)]
       exact ⟨⟨k + 1, rfl, by omega, hS⟩, by simp; omega⟩
 · have hk' : k = 10 := by simp at h; omega
   subst hk'
   obtain ⟨g10, w10, r10, h10⟩ := hS.zeroA zero64
   obtain ⟨O, hO⟩ : ∃ O, outL (dblR 10 F) F = O := ⟨_, rfl⟩
   have hOl : O.length = 64 := by rw [← hO]; simp
   rw [hO]
   have hm5 : ∀ y, (Mx (dblR 10 F) ++ [Res.arr g10 207 (bv y)])[5]? = some (.arr g10 207 (bv y)) := fun y => by rw [hMx]; rfl
   have hm4 : ∀ y, (Mx (dblR 10 F) ++ [Res.arr g10 207 (bv y)])[4]? = some (.arr g7 235 (kv .u32 (dblR 10 F))) := fun y => by rw [hMx]; rfl
   have hm3 : ∀ y, (Mx (dblR 10 F) ++ [Res.arr g10 207 (bv y)])[3]? = some (.arr g5 235 (kv .u32 F)) := fun y => by rw [hMx]; rfl
   have hm2 : ∀ y, (Mx (dblR 10 F) ++ [Res.arr g10 207 (bv y)])[2]? = some (.arr g3 207 (bv (List.replicate 64 0))) := fun y => by rw [hMx]; rfl
   have hms : ∀ x y, (Mx (dblR 10 F) ++ [Res.arr g10 207 (bv x)]).set 5 (.arr g10 207 (bv y)) = Mx (dblR 10 F) ++ [Res.arr g10 207 (bv y)] := fun x y => by rw [hMx]; rfl
   refine ⟨_, _, r10, fun i w' => ∃ k : Nat, i = (k : Int) ∧ k ≤ 16 ∧ St w [] w' (Mx (dblR 10 F) ++ [.arr g10 207 (bv (upTo O (4 * k)))]), fun i _ => 16 - i.toNat, ⟨0, rfl, by omega, by rw [Nat.mul_zero, upTo_zero, hOl]; exact h10⟩, ?_⟩
   rintro i w11 ⟨k, rfl, hk16, hT⟩
   refine ⟨fun h => ?_, fun h => ?_⟩
   · have hk' : k < 16 := by simp at h; omega
     have e1 : IntKind.wrap .i64 ((4 : Int) * (k : Int)) = ((4 * k : Nat) : Int) := by rw [wrap_i64 (by omega) (by omega)]; omega
     have e2 : ∀ j : Nat, j < 4 → IntKind.wrap .i64 (((4 * k : Nat) : Int) + (j : Int)) = ((4 * k + j : Nat) : Int) := fun j hj => by rw [wrap_i64 (by omega) (by omega)]; omega
     have e21 := e2 1 (by omega)
     have e22 := e2 2 (by omega)
     have e23 := e2 3 (by omega)
     rw [show ((1 : Nat) : Int) = 1 from rfl] at e21
     rw [show ((2 : Nat) : Int) = 2 from rfl] at e22
     rw [show ((3 : Nat) : Int) = 3 from rfl] at e23
     rw [e1, e21, e22, e23, hw k (by omega)]
     have ot : ∀ j, j < 4 → O[4 * k + j]? = some (outB (dblR 10 F) F (4 * k + j)) := fun j hj => by rw [← hO]; exact outL_get _ _ _ (by omega)
     have v0 : IntKind.wrap .u8 (IntKind.wrap .u32 (((dblR 10 F).getD k 0 : Nat) + (F.getD k 0 : Nat) : Int)) = ((outB (dblR 10 F) F (4 * k)).toNat : Int) := by
       rw [add_val]; have := outB_val (dblR 10 F) F k 0 (by omega); simpa using this
     have vj : ∀ (j : Nat), j < 4 → IntKind.wrap .u8 (shrI .u32 (IntKind.wrap .u32 (((dblR 10 F).getD k 0 : Nat) + (F.getD k 0 : Nat) : Int)) ((8 * j : Nat) : Int)) = ((outB (dblR 10 F) F (4 * k + j)).toNat : Int) := fun j hj => by
       rw [add_val, shr_nat _ _ _ (show 8 * j ≤ 32 by omega)]; exact outB_val (dblR 10 F) F k j hj
     have v1 : IntKind.wrap .u8 (shrI .u32 (IntKind.wrap .u32 (((dblR 10 F).getD k 0 : Nat) + (F.getD k 0 : Nat) : Int)) 8) = _ := vj 1 (by omega)
     have v2 : IntKind.wrap .u8 (shrI .u32 (IntKind.wrap .u32 (((dblR 10 F).getD k 0 : Nat) + (F.getD k 0 : Nat) : Int)) 16) = _ := vj 2 (by omega)
     have v3 : IntKind.wrap .u8 (shrI .u32 (IntKind.wrap .u32 (((dblR 10 F).getD k 0 : Nat) + (F.getD k 0 : Nat) : Int)) 24) = _ := vj 3 (by omega)
     refine ⟨fun w' => St w [] w' (Mx (dblR 10 F) ++ [.arr g10 207 (bv (upTo O (4 * k)))]), hT.drew, by omega, by omega, by omega, by omega, _, fun w' h => h.ldK (hm4 _) (eU _) (ze k) (by simp [hF]; omega), _, fun w' h => h.ldK (hm3 _) (eU _) (ze k) (by omega), by omega, by omega, ?_⟩
     rw [v0, v1, v2, v3]
     obtain ⟨w12, q1, s1⟩ := hT.drew.stB (b := outB (dblR 10 F) F (4 * k)) (hm5 _) (sB _) (ze (4 * k)) (by rw [upTo_len (by omega)]; omega)
     rw [hms, upTo_set (show O[4 * k]? = some (outB (dblR 10 F) F (4 * k)) from ot 0 (by omega))] at s1
     obtain ⟨w13, q2, s2⟩ := s1.stB (b := outB (dblR 10 F) F (4 * k + 1)) (hm5 _) (sB _) (ze (4 * k + 1)) (by rw [upTo_len (by omega)]; omega)
     rw [hms, upTo_set (ot 1 (by omega))] at s2
     obtain ⟨w14, q3, s3⟩ := s2.stB (b := outB (dblR 10 F) F (4 * k + 2)) (hm5 _) (sB _) (ze (4 * k + 2)) (by rw [upTo_len (by omega)]; omega)
     rw [hms, upTo_set (ot 2 (by omega))] at s3
     obtain ⟨w15, q4, s4⟩ := s3.stB (b := outB (dblR 10 F) F (4 * k + 3)) (hm5 _) (sB _) (ze (4 * k + 3)) (by rw [upTo_len (by omega)]; omega)
     rw [hms, upTo_set (ot 3 (by omega))] at s4
     exact ⟨w12, q1, by omega, by omega, w13, q2, by omega, by omega, w14, q3, by omega, by omega, w15, q4, ⟨k + 1, rfl, by omega, s4⟩, by simp; omega⟩
   · have hk' : k = 16 := by simp at h; omega
     subst hk'
     rw [show 4 * 16 = O.length by omega, upTo_all] at hT
     refine ⟨_, hT.ldA (hm5 _) (e64 _) (Tryz.sizeOf207 _) (by simp [hOl]), ?_⟩
     obtain ⟨w12, q1, s1⟩ := hT.stA (v := bv O) (hm2 _) (Tryz.sizeOf207 _) (by simp) (by simp [hOl]) (bv_one _)
     refine ⟨w12, q1, _, s1.ldVarA (i := 2) (l := bv O) (by rw [hMx]; rfl) (e64 _) (Tryz.sizeOf207 _) (by simp [hOl]), rfl, s1.chg⟩

open Go Sx
set_option maxRecDepth 8000

theorem const16 : (((((List.replicate 16 0).set 0 1634760805).set 1 857760878).set 2 2036477234).set 3 1797285236 : List Nat) = [1634760805, 857760878, 2036477234, 1797285236] ++ List.replicate 12 0 := by decide

theorem first_alt (key nonce : List UInt8) (ctr : Nat) :
   orW 13 nonce 12 (orW 4 key 32 (([1634760805, 857760878, 2036477234, 1797285236] ++ List.replicate 12 0).set 12 ctr)) = firstL key ctr nonce := by
 have z : ∀ j, 4 ≤ j → j < 16 → j ≠ 12 → (([1634760805, 857760878, 2036477234, 1797285236] ++ List.replicate 12 0 : List Nat).set 12 ctr).getD j 0 = 0 := by
   intro j h1 h2 h3
   rw [getD_set_ne (fun e => h3 e.symm)]
   have : ∀ j < 16, 4 ≤ j → ([1634760805, 857760878, 2036477234, 1797285236] ++ List.replicate 12 0 : List Nat).getD j 0 = 0 := by decide
   exact this j h2 h1
 have h1 := orW_setW 4 key (([1634760805, 857760878, 2036477234, 1797285236] ++ List.replicate 12 0 : List Nat).set 12 ctr) 8 (by simp) (fun j h1 h2 => z j h1 (by omega) (by omega))
 rw [show 4 * 8 = 32 from rfl] at h1
 rw [h1]
 have h2 := orW_setW 13 nonce (setW 4 key 8 (([1634760805, 857760878, 2036477234, 1797285236] ++ List.replicate 12 0 : List Nat).set 12 ctr)) 3 (by simp) (fun j h1 h2 => by
   rw [setW_far _ _ _ _ _ (by omega)]; exact z j (by omega) (by omega) (by omega))
 rw [show 4 * 3 = 12 from rfl] at h2
 have sw : ∀ (k : Nat) (l : List Nat), 4 + k ≤ 12 → setW 4 key k (l.set 12 ctr) = (setW 4 key k l).set 12 ctr := by
   intro k
   induction k with
   | zero => intro l _; rfl
   | succ k ih =>
     intro l hk
     rw [setW, setW, ih l (by omega), List.set_comm _ _ (by omega)]
 rw [h2, sw 8 _ (by omega), firstL]

theorem rblock_spec (key nonce : List UInt8) (ctr : Nat) (w : World) (hk : key.length = 32) (hn : nonce.length = 12) (hc : ctr < 4294967296) :
   Calls Tryz.prog 127 #[.agg (bv key).toArray, .int .u32 (ctr : Int), .agg (bv nonce).toArray] w fun e w' => e = .returned (.agg (bv (blockF key ctr nonce)).toArray) ∧ Chg [] w w' := by
 apply amphoraref03_Block_vc
 have hw : ∀ i : Nat, i < 100 → IntKind.wrap .i64 ((i : Int) + 1) = ((i + 1 : Nat) : Int) := fun i h => by rw [wrap_i64 (by omega) (by omega)]; rfl
 have ze : ∀ k : Nat, 0 + Int.toNat (k : Int) * 1 = k := fun k => by omega
 have sU : ∀ w, (sizeOf 209).run Tryz.prog w = .ok 1 w := fun w => Tryz.sizeOf209 w
 have sB : ∀ w, (sizeOf 5).run Tryz.prog w = .ok 1 w := fun w => Tryz.sizeOf5 w
 have s16 : ∀ w, (sizeOf 235).run Tryz.prog w = .ok 16 w := fun w => Tryz.sizeOf235 w
 have s64 : ∀ w, (sizeOf 207).run Tryz.prog w = .ok 64 w := fun w => Tryz.sizeOf207 w
 obtain ⟨g1, w1, r1, h1⟩ := (St.start w).boxA (P := Tryz.prog) 22 (bv key)
 obtain ⟨g2, w2, r2, h2⟩ := h1.boxA (P := Tryz.prog) 187 (bv nonce)
 obtain ⟨g3, w3, r3, h3⟩ := h2.zeroA zero64
 have hb := build_arr (P := Tryz.prog) (w := w3) (zero16 w3) Tryz.underlying235 (sU _) [] (by simp) (by simp)
 obtain ⟨g4, w4, r4, h4⟩ := h3.zeroA zero16
 obtain ⟨w5, r5, h5⟩ := h4.stA (i := 3) (v := kv .u32 (List.replicate 16 0)) rfl (s16 _) (by simp) (by simp) (kv_one _ _)
 obtain ⟨w6, r6, h6⟩ := h5.stK (i := 3) (off := 0) (o := 0) (n := 1634760805) rfl (sU _) rfl (by simp)
 obtain ⟨w7, r7, h7⟩ := h6.stK (i := 3) (off := 1) (o := 1) (n := 857760878) rfl (sU _) rfl (by simp)
 obtain ⟨w8, r8, h8⟩ := h7.stK (i := 3) (off := 2) (o := 2) (n := 2036477234) rfl (sU _) rfl (by simp)
 obtain ⟨w9, r9, h9⟩ := h8.stK (i := 3) (off := 3) (o := 3) (n := 1797285236) rfl (sU _) rfl (by simp)
 obtain ⟨w10, r10, h10⟩ := h9.stK (i := 3) (off := 12) (o := 12) (n := ctr) rfl (sU _) rfl (by simp)
 rw [const16] at h10
 refine ⟨_, _, r1, _, _, r2, _, _, r3, _, hb, _, _, r4, _, r5, _, r6, _, r7, _, r8, _, r9, _, r10, ?_⟩
 obtain ⟨C0, hC0⟩ : ∃ C0, ([1634760805, 857760878, 2036477234, 1797285236] ++ List.replicate 12 0 : List Nat).set 12 ctr = C0 := ⟨_, rfl⟩
 have hC0l : C0.length = 16 := by rw [← hC0]; simp
 have hC0t : Lt32 C0 := by rw [← hC0]; exact lt32_const.set 12 hc
 obtain ⟨Mx, hMx⟩ : ∃ Mx : List Nat → List Res, Mx = fun x => [.arr g1 22 (bv key), .arr g2 187 (bv nonce), .arr g3 207 (bv (List.replicate 64 0)), .arr g4 235 (kv .u32 x)] := ⟨_, rfl⟩
 have hi0 : ∀ x, (Mx x)[0]? = some (.arr g1 22 (bv key)) := fun x => by rw [hMx]; rfl
 have hi1 : ∀ x, (Mx x)[1]? = some (.arr g2 187 (bv nonce)) := fun x => by rw [hMx]; rfl
 have hi3 : ∀ x, (Mx x)[3]? = some (.arr g4 235 (kv .u32 x)) := fun x => by rw [hMx]; rfl
 have hset : ∀ x y, (Mx x).set 3 (.arr g4 235 (kv .u32 y)) = Mx y := fun x y => by rw [hMx]; rfl
 have h10' : St w [] w10 (Mx C0) := by rw [hMx, ← hC0]; exact h10
 have ed : ∀ i : Nat, i < 100 → IntKind.wrap .i64 (Int.tdiv (i : Int) 4) = ((i / 4 : Nat) : Int) := fun i hi => by rw [Int.tdiv_eq_ediv_of_nonneg (by omega), wrap_i64 (by omega) (by omega)]; omega
 have em : ∀ i : Nat, IntKind.wrap .u64 (Int.tmod (i : Int) 4) = ((i % 4 : Nat) : Int) := fun i => by rw [Int.tmod_eq_emod_of_nonneg (by omega), wrap_u64]; omega
 have e8 : ∀ j : Nat, j < 4 → IntKind.wrap .u64 ((8 : Int) * (j : Int)) = ((8 * j : Nat) : Int) := fun j hj => by rw [wrap_u64]; omega
 have ea : ∀ b j : Nat, b < 100 → j < 100 → IntKind.wrap .i64 ((b : Int) + (j : Int)) = ((b + j : Nat) : Int) := fun b j hb hj => by rw [wrap_i64 (by omega) (by omega)]; omega
 have vor : ∀ (x : Nat) (b : UInt8) (j : Nat), x < 4294967296 → j < 4 → bor .u32 (x : Int) (shlI .u32 (IntKind.wrap .u32 (b.toNat : Int)) ((8 * j : Nat) : Int)) = ((x ||| b.toNat * 2 ^ (8 * j) % 4294967296 : Nat) : Int) := fun x b j hx hj => by
   have := b.toNat_lt
   rw [wrap_u32_nat (by omega), shl_val (by omega), or_val hx (Nat.mod_lt _ (by decide))]
 refine ⟨fun i w' => ∃ k : Nat, i = (k : Int) ∧ k ≤ 32 ∧ St w [] w' (Mx (orW 4 key k C0)), fun i _ => 32 - i.toNat, ⟨0, rfl, by omega, h10'⟩, ?_⟩
 rintro i w11 ⟨k, rfl, hk32, hS⟩
 refine ⟨fun h => ?_, fun h => ?_⟩
 · have hk' : k < 32 := by simp at h; omega
   have e4 : IntKind.wrap .i64 ((4 : Int) + ((k / 4 : Nat) : Int)) = _ := ea 4 (k / 4) (by omega) (by omega)
   rw [ed k (by omega), e4, em, e8 _ (by omega), hw k (by omega)]
   have ht := hC0t.orW 4 key k
   refine ⟨fun w' => St w [] w' (Mx (orW 4 key k C0)), hS.drew, by omega, by omega, by omega, by omega, _, fun w' h => h.ldK (hi3 _) (eU _) (ze (4 + k / 4)) (by rw [orW_len]; omega), _, fun w' h => h.ldB (hi0 _) (bA _) (ze k) (by omega), by omega, by omega, by omega, ?_⟩
   rw [vor _ _ _ (ht _) (by omega)]
   obtain ⟨w12, q, s⟩ := hS.drew.stK (n := (orW 4 key k C0).getD (4 + k / 4) 0 ||| (key.getD k 0).toNat * 2 ^ (8 * (k % 4)) % 4294967296) (hi3 _) (sU _) (ze (4 + k / 4)) (by rw [orW_len]; omega)
   rw [hset] at s
   exact ⟨w12, q, ⟨k + 1, rfl, by omega, s⟩, by simp; omega⟩
 · have hk' : k = 32 := by simp at h; omega
   subst hk'
   refine ⟨fun i w' => ∃ k : Nat, i = (k : Int) ∧ k ≤ 12 ∧ St w [] w' (Mx (orW 13 nonce k (orW 4 key 32 C0))), fun i _ => 12 - i.toNat, ⟨0, rfl, by omega, hS⟩, ?_⟩
   rintro i w13 ⟨k, rfl, hk12, hS⟩
   refine ⟨fun h => ?_, fun h => ?_⟩
   · have hk' : k < 12 := by simp at h; omega
     have e4 : IntKind.wrap .i64 ((13 : Int) + ((k / 4 : Nat) : Int)) = _ := ea 13 (k / 4) (by omega) (by omega)
     rw [ed k (by omega), e4, em, e8 _ (by omega), hw k (by omega)]
     have ht := (hC0t.orW 4 key 32).orW 13 nonce k
     refine ⟨fun w' => St w [] w' (Mx (orW 13 nonce k (orW 4 key 32 C0))), hS.drew, by omega, by omega, by omega, by omega, _, fun w' h => h.ldK (hi3 _) (eU _) (ze (13 + k / 4)) (by rw [orW_len, orW_len]; omega), _, fun w' h => h.ldB (hi1 _) (bA _) (ze k) (by omega), by omega, by omega, by omega, ?_⟩
     rw [vor _ _ _ (ht _) (by omega)]
     obtain ⟨w14, q, s⟩ := hS.drew.stK (n := (orW 13 nonce k (orW 4 key 32 C0)).getD (13 + k / 4) 0 ||| (nonce.getD k 0).toNat * 2 ^ (8 * (k % 4)) % 4294967296) (hi3 _) (sU _) (ze (13 + k / 4)) (by rw [orW_len, orW_len]; omega)
     rw [hset] at s
     exact ⟨w14, q, ⟨k + 1, rfl, by omega, s⟩, by simp; omega⟩
   · have hk' : k = 12 := by simp at h; omega
     subst hk'
     have hfa := first_alt key nonce ctr
     rw [hC0] at hfa
     have hF := firstL_len key ctr nonce
     have hlF := lt32_first key nonce hc
     obtain ⟨F, hFd⟩ : ∃ F, firstL key ctr nonce = F := ⟨_, rfl⟩
     have hB : blockF key ctr nonce = outL F (dblR 10 F) := by rw [blockF, hFd, outL_comm]
     rw [hB]
     rw [hfa] at hS
     rw [hFd] at hF hlF hS
     obtain ⟨g5, w15, r15, h15⟩ := hS.zeroA zero16
     have m4 : ∀ x y, (Mx x ++ [Res.arr g5 235 (kv .u32 y)])[4]? = some (.arr g5 235 (kv .u32 y)) := fun x y => by rw [hMx]; rfl
     have m3 : ∀ x y, (Mx x ++ [Res.arr g5 235 (kv .u32 y)])[3]? = some (.arr g4 235 (kv .u32 x)) := fun x y => by rw [hMx]; rfl
     have ms : ∀ x y z, (Mx x ++ [Res.arr g5 235 (kv .u32 y)]).set 4 (.arr g5 235 (kv .u32 z)) = Mx x ++ [Res.arr g5 235 (kv .u32 z)] := fun x y z => by rw [hMx]; rfl
     obtain ⟨w16, r16, h16⟩ := h15.stA (v := kv .u32 F) (m4 _ _) (s16 _) (by simp) (by simp [hF]) (kv_one _ _)
     rw [ms] at h16
     refine ⟨_, hS.ldA (hi3 _) (e16 _) (s16 _) (by simp [hF]), _, _, r15, _, r16, ?_⟩
     have rs : ∀ (x : List Nat) (a b c d : Nat) (wa : World) (K : Ending → World → Prop), St w [] wa (Mx F ++ [Res.arr g5 235 (kv .u32 x)]) → x.length = 16 → Lt32 x → a < 16 → b < 16 → c < 16 → d < 16 →
         (∀ wb, St w [] wb (Mx F ++ [Res.arr g5 235 (kv .u32 (rnd x a b c d))]) → K (.returned (.tuple #[])) wb) →
         Calls Tryz.prog 148 #[.pointer (some ⟨g5, 0, none⟩), .int .i64 (a : Int), .int .i64 (b : Int), .int .i64 (c : Int), .int .i64 (d : Int)] wa K := by
       intro x a b c d wa K hS hx hlx ha hb hc hd hK
       refine (round_spec g5 _ x a b c d wa (hS.holds 4 _ (m4 _ _)) hx hlx ha hb hc hd).mono ?_
       rintro e wb ⟨rfl, hcb, hgb⟩
       refine hK wb ?_
       have := hS.upd (m4 _ _) (w' := wb) (r' := .arr g5 235 (kv .u32 (rnd x a b c d))) hcb hgb (by simp [Res.fp])
       rw [ms] at this
       exact this
     refine ⟨fun i w' => ∃ k : Nat, i = (k : Int) ∧ k ≤ 10 ∧ St w [] w' (Mx F ++ [Res.arr g5 235 (kv .u32 (dblR k F))]), fun i _ => 10 - i.toNat, ⟨0, rfl, by omega, h16⟩, ?_⟩
     rintro i w17 ⟨k, rfl, hk10, hS⟩
     refine ⟨fun h => ?_, fun h => ?_⟩
     · have hk' : k < 10 := by simp at h; omega
       have ht := hlF.dblR k
       have hl0 : (dblR k F).length = 16 := by simp [hF]
       refine rs (dblR k F) 0 4 8 12 _ _ hS hl0 ht (by decide) (by decide) (by decide) (by decide) fun w18 h18 => ⟨rfl, ?_⟩
       have t1 := ht.rnd 0 4 8 12
       refine rs _ 1 5 9 13 _ _ h18 (by simp [hF]) t1 (by decide) (by decide) (by decide) (by decide) fun w19 h19 => ⟨rfl, ?_⟩
       have t2 := t1.rnd 1 5 9 13
       refine rs _ 2 6 10 14 _ _ h19 (by simp [hF]) t2 (by decide) (by decide) (by decide) (by decide) fun w20 h20 => ⟨rfl, ?_⟩
       have t3 := t2.rnd 2 6 10 14
       refine rs _ 3 7 11 15 _ _ h20 (by simp [hF]) t3 (by decide) (by decide) (by decide) (by decide) fun w21 h21 => ⟨rfl, ?_⟩
       have t4 := t3.rnd 3 7 11 15
       refine rs _ 0 5 10 15 _ _ h21 (by simp [hF]) t4 (by decide) (by decide) (by decide) (by decide) fun w22 h22 => ⟨rfl, ?_⟩
       have t5 := t4.rnd 0 5 10 15
       refine rs _ 1 6 11 12 _ _ h22 (by simp [hF]) t5 (by decide) (by decide) (by decide) (by decide) fun w23 h23 => ⟨rfl, ?_⟩
       have t6 := t5.rnd 1 6 11 12
       refine rs _ 2 7 8 13 _ _ h23 (by simp [hF]) t6 (by decide) (by decide) (by decide) (by decide) fun w24 h24 => ⟨rfl, ?_⟩
       have t7 := t6.rnd 2 7 8 13
       refine rs _ 3 4 9 14 _ _ h24 (by simp [hF]) t7 (by decide) (by decide) (by decide) (by decide) fun w25 h25 => ⟨rfl, ?_⟩
       rw [hw k (by omega)]
       exact ⟨⟨k + 1, rfl, by omega, h25⟩, by simp; omega⟩
     · have hk' : k = 10 := by simp at h; omega
       subst hk'
       have hb64 := build_arr (P := Tryz.prog) (w := w17) (zero64 w17) Tryz.underlying207 (sB _) [] (by simp) (by simp)
       obtain ⟨g6, w18, r18, h18⟩ := hS.zeroA zero64
       obtain ⟨O, hO⟩ : ∃ O, outL F (dblR 10 F) = O := ⟨_, rfl⟩
       have hOl : O.length = 64 := by rw [← hO]; simp
       rw [hO]
       obtain ⟨Nx, hNx⟩ : ∃ Nx : List UInt8 → List Res, Nx = fun y => Mx F ++ [Res.arr g5 235 (kv .u32 (dblR 10 F))] ++ [Res.arr g6 207 (bv y)] := ⟨_, rfl⟩
       have n5 : ∀ y, (Nx y)[5]? = some (.arr g6 207 (bv y)) := fun y => by rw [hNx, hMx]; rfl
       have n4 : ∀ y, (Nx y)[4]? = some (.arr g5 235 (kv .u32 (dblR 10 F))) := fun y => by rw [hNx, hMx]; rfl
       have n3 : ∀ y, (Nx y)[3]? = some (.arr g4 235 (kv .u32 F)) := fun y => by rw [hNx, hMx]; rfl
       have n2 : ∀ y, (Nx y)[2]? = some (.arr g3 207 (bv (List.replicate 64 0))) := fun y => by rw [hNx, hMx]; rfl
       have ns : ∀ x y, (Nx x).set 5 (.arr g6 207 (bv y)) = Nx y := fun x y => by rw [hNx, hMx]; rfl
       have h18' : St w [] w18 (Nx (List.replicate 64 0)) := by rw [hNx]; exact h18
       obtain ⟨w19, r19, h19⟩ := h18'.stA (v := bv (List.replicate 64 0)) (n5 _) (s64 _) (by simp) (by simp) (bv_one _)
       rw [ns] at h19
       refine ⟨_, hb64, _, _, r18, _, r19, fun i w' => ∃ k : Nat, i = (k : Int) ∧ k ≤ 64 ∧ St w [] w' (Nx (upTo O k)), fun i _ => 64 - i.toNat, ⟨0, rfl, by omega, by rw [upTo_zero, hOl]; exact h19⟩, ?_⟩
       rintro i w20 ⟨k, rfl, hk64, hT⟩
       refine ⟨fun h => ?_, fun h => ?_⟩
       · have hk' : k < 64 := by simp at h; omega
         rw [ed k (by omega), em, e8 _ (by omega), hw k (by omega)]
         have ov : IntKind.wrap .u8 (shrI .u32 (IntKind.wrap .u32 ((F.getD (k / 4) 0 : Nat) + ((dblR 10 F).getD (k / 4) 0 : Nat) : Int)) ((8 * (k % 4) : Nat) : Int)) = ((outB F (dblR 10 F) k).toNat : Int) := by
           rw [add_val, shr_nat _ _ _ (show 8 * (k % 4) ≤ 32 by omega), outB_val F (dblR 10 F) (k / 4) (k % 4) (by omega), show 4 * (k / 4) + k % 4 = k by omega]
         refine ⟨fun w' => St w [] w' (Nx (upTo O k)), hT.drew, by omega, by omega, by omega, by omega, _, fun w' h => h.ldK (n3 _) (eU _) (ze (k / 4)) (by omega), _, fun w' h => h.ldK (n4 _) (eU _) (ze (k / 4)) (by simp [hF]; omega), by omega, by omega, by omega, ?_⟩
         rw [ov]
         obtain ⟨w21, q, s⟩ := hT.drew.stB (b := outB F (dblR 10 F) k) (n5 _) (sB _) (ze k) (by rw [upTo_len (by omega)]; omega)
         rw [ns, upTo_set (by rw [← hO]; exact outL_get _ _ _ hk')] at s
         exact ⟨w21, q, ⟨k + 1, rfl, by omega, s⟩, by simp; omega⟩
       · have hk' : k = 64 := by simp at h; omega
         subst hk'
         rw [show 64 = O.length by omega, upTo_all] at hT
         refine ⟨_, hT.ldA (n5 _) (e64 _) (s64 _) (by simp [hOl]), ?_⟩
         obtain ⟨w22, q, s⟩ := hT.stA (v := bv O) (n2 _) (s64 _) (by simp) (by simp [hOl]) (bv_one _)
         refine ⟨w22, q, _, s.ldVarA (i := 2) (l := bv O) (by rw [hNx, hMx]; rfl) (e64 _) (s64 _) (by simp [hOl]), rfl, s.chg⟩

open Go Sx
set_option maxRecDepth 8000

def strB (key nonce : List UInt8) (p : Nat) : UInt8 := (blockF key (p / 64) nonce).getD (p % 64) 0
def xorL (key nonce : List UInt8) (at' : Nat) (l : List UInt8) : List UInt8 := l.mapIdx fun i b => b ^^^ strB key nonce (at' + i)
@[simp] theorem xorL_len (key nonce : List UInt8) (at' : Nat) (l : List UInt8) : (xorL key nonce at' l).length = l.length := by simp [xorL]
theorem xorL_get {key nonce : List UInt8} {at' : Nat} {l : List UInt8} {i : Nat} (h : i < l.length) : (xorL key nonce at' l)[i]? = some (l.getD i 0 ^^^ strB key nonce (at' + i)) := by simp [xorL, List.getD, h]

def mix (x l : List UInt8) (i : Nat) : List UInt8 := x.take i ++ l.drop i
theorem mix_zero (x l : List UInt8) : mix x l 0 = l := by simp [mix]
theorem mix_all {x l : List UInt8} {n : Nat} (h : x.length = n) (h' : l.length = n) : mix x l n = x := by simp [mix, ← h, show l.length = x.length by omega]
theorem mix_len {x l : List UInt8} {i : Nat} (h : x.length = l.length) (hi : i ≤ l.length) : (mix x l i).length = l.length := by simp [mix]; omega
theorem mix_get {x l : List UInt8} {i : Nat} (h : x.length = l.length) (hi : i < l.length) : (mix x l i).getD i 0 = l.getD i 0 := by
 have hl : (x.take i).length = i := by rw [List.length_take]; omega
 simp [mix, List.getD, List.getElem?_append_right, hl]
theorem mix_set {x l : List UInt8} {i : Nat} {b : UInt8} (h : x.length = l.length) (hb : x[i]? = some b) : (mix x l i).set i b = mix x l (i + 1) := by
 have hi : i < x.length := (List.getElem?_eq_some_iff.1 hb).1
 have hl : (x.take i).length = i := by rw [List.length_take]; omega
 rw [mix, mix, List.set_append_right _ _ (by omega), hl, Nat.sub_self, List.drop_eq_getElem_cons (by omega : i < l.length), List.set_cons_zero, List.take_add_one, hb]
 simp

theorem xor_u8 (a b : UInt8) : bxor .u8 (a.toNat : Int) (b.toNat : Int) = ((a ^^^ b).toNat : Int) := by
 rw [bxor_nat rfl (by simpa [kmod, IntKind.bits] using a.toNat_lt) (by simpa [kmod, IntKind.bits] using b.toNat_lt), UInt8.toNat_xor]

theorem Sx.Chg.range {w w' : World} {X : List Nat} {b o : Nat} {cs : List Value} (hc : Chg X w w') (h : w.rangeAt b o cs) (hb : b ∉ X) : w'.rangeAt b o cs := by
 have hk : Cells w (some ⟨b, o, none⟩) cs := .inr ⟨b, o, rfl, h⟩
 rcases hk.keep hc (by rintro ad ⟨⟩; exact hb) with h0 | ⟨b', o', he, hr⟩
 · subst h0; intro j v hj; simp at hj
 · simp only [Option.some.injEq, Addr.mk.injEq, and_true] at he
   obtain ⟨rfl, rfl⟩ := he
   exact hr

theorem Sx.St.ofRowC {w : World} {e : TypeId} {sz : Nat} {g n m c : Nat} {xs : List Value} (h : w.ownsRow 0 e sz (.slice (some ⟨g, 0, none⟩) n c) m xs) : St w [g] w [.row e sz (.slice (some ⟨g, 0, none⟩) n c) m xs] := by
 have one : ∀ (i : Nat) (r : Res), [Res.row e sz (.slice (some ⟨g, 0, none⟩) n c) m xs][i]? = some r → i = 0 ∧ r = .row e sz (.slice (some ⟨g, 0, none⟩) n c) m xs := by
   intro i r hr
   cases i with
   | zero => exact ⟨rfl, (Option.some.inj hr).symm⟩
   | succ i => simp at hr
 refine ⟨Chg.refl _ _, ?_, ?_, ?_⟩
 · intro i r hr; obtain ⟨_, rfl⟩ := one i r hr; exact h
 · intro i r hr k hk; obtain ⟨_, rfl⟩ := one i r hr; right; simpa [Res.fp, Value.ownBlock] using hk
 · intro i j r s hij hi hj; have := (one i r hi).1; have := (one j s hj).1; omega

theorem seatOver_spec (gs o g n c at' : Nat) (key nonce l : List UInt8) (w : World) (hk : key.length = 32) (hn : nonce.length = 12) (rk : w.rangeAt gs o (bv key)) (rn : w.rangeAt gs (o + 32) (bv nonce)) (hne : gs ≠ g)
   (hrow : w.ownsRow 0 5 1 (.slice (some ⟨g, 0, none⟩) n c) n (bv l)) (hat : at' + n ≤ 274877906944) :
   Calls Tryz.prog 145 #[.pointer (some ⟨gs, o, none⟩), .int .i64 (at' : Int), .slice (some ⟨g, 0, none⟩) n c] w fun e w' => e = .returned (.tuple #[]) ∧ Chg [g] w w' ∧ w'.ownsRow 0 5 1 (.slice (some ⟨g, 0, none⟩) n c) n (bv (xorL key nonce at' l)) := by
 apply chacha_seat_over_vc
 have hl : l.length = n := by have := hrow.1; simpa using this
 have ze : ∀ k : Nat, 0 + Int.toNat (k : Int) * 1 = k := fun k => by omega
 have sB : ∀ w, (sizeOf 5).run Tryz.prog w = .ok 1 w := fun w => Tryz.sizeOf5 w
 have s64 : ∀ w, (sizeOf 207).run Tryz.prog w = .ok 64 w := fun w => Tryz.sizeOf207 w
 have s32 : ∀ w, (sizeOf 22).run Tryz.prog w = .ok 32 w := fun w => Tryz.sizeOf22 w
 have s12 : ∀ w, (sizeOf 187).run Tryz.prog w = .ok 12 w := fun w => Tryz.sizeOf187 w
 obtain ⟨X, hX⟩ : ∃ X, xorL key nonce at' l = X := ⟨_, rfl⟩
 have hXl : X.length = l.length := by rw [← hX]; simp
 rw [hX]
 obtain ⟨g6, w1, r1, h1⟩ := (St.ofRowC hrow).zeroA zero64
 obtain ⟨M, hM⟩ : ∃ M : List UInt8 → List UInt8 → List Res, M = fun x B => [.row 5 1 (.slice (some ⟨g, 0, none⟩) n c) n (bv x), .arr g6 207 (bv B)] := ⟨_, rfl⟩
 have i0 : ∀ x B, (M x B)[0]? = some (.row 5 1 (.slice (some ⟨g, 0, none⟩) n c) n (bv x)) := fun x B => by rw [hM]; rfl
 have i1 : ∀ x B, (M x B)[1]? = some (.arr g6 207 (bv B)) := fun x B => by rw [hM]; rfl
 have q0 : ∀ x B y, (M x B).set 0 (.row 5 1 (.slice (some ⟨g, 0, none⟩) n c) n (bv y)) = M y B := fun x B y => by rw [hM]; rfl
 have q1 : ∀ x B y, (M x B).set 1 (.arr g6 207 (bv y)) = M x y := fun x B y => by rw [hM]; rfl
 have h1' : St w [g] w1 (M (mix X l 0) (List.replicate 64 0)) := by rw [hM, mix_zero]; exact h1
 refine ⟨_, _, r1, fun x y w' => ∃ (i : Nat) (B : List UInt8), y = (i : Int) ∧ i ≤ n ∧ B.length = 64 ∧ (x = -1 ∨ ∃ h : Nat, x = (h : Int) ∧ B = blockF key h nonce) ∧ St w [g] w' (M (mix X l i) B), fun _ y _ => n - y.toNat,
   ⟨0, _, rfl, by omega, by simp, .inl rfl, h1'⟩, ?_⟩
 rintro x y w2 ⟨i, B, rfl, hi, hBl, hB, hS⟩
 refine ⟨fun h => ?_, fun h => ?_⟩
 · have hi' : i < n := by simp at h; omega
   have ea : IntKind.wrap .i64 ((at' : Int) + (i : Int)) = ((at' + i : Nat) : Int) := by rw [wrap_i64 (by omega) (by omega)]; omega
   have ed : IntKind.wrap .i64 (Int.tdiv ((at' + i : Nat) : Int) 64) = (((at' + i) / 64 : Nat) : Int) := by rw [Int.tdiv_eq_ediv_of_nonneg (by omega), wrap_i64 (by omega) (by omega)]; omega
   have em : Int.tmod ((at' + i : Nat) : Int) 64 = (((at' + i) % 64 : Nat) : Int) := by rw [Int.tmod_eq_emod_of_nonneg (by omega)]; omega
   have ew : IntKind.wrap .u32 (((at' + i) / 64 : Nat) : Int) = (((at' + i) / 64 : Nat) : Int) := wrap_u32_nat (by omega)
   have e1 : IntKind.wrap .i64 ((i : Int) + 1) = ((i + 1 : Nat) : Int) := by rw [wrap_i64 (by omega) (by omega)]; rfl
   rw [ea, ed, em, ew, e1]
   refine ⟨fun x' w' => x' = (((at' + i) / 64 : Nat) : Int) ∧ St w [g] w' (M (mix X l i) (blockF key ((at' + i) / 64) nonce)), ⟨fun hd => ?_, fun hd => ?_⟩, ?_⟩
   · have kd := fun (w' : World) (h : St w [g] w' (M (mix X l i) B)) => h.chg.range rk (by simp [hne])
     have nd := fun (w' : World) (h : St w [g] w' (M (mix X l i) B)) => h.chg.range rn (by simp [hne])
     refine ⟨fun w' => St w [g] w' (M (mix X l i) B), hS.drew, _, fun w' h => ldRange (kd w' h) (e32 _) (s32 _) (by simp [hk]), _, fun w' h => ldRange (nd w' h) (e12 _) (s12 _) (by simp [hn]), (block_spec key nonce ((at' + i) / 64) _ hk hn (by omega)).mono ?_⟩
     rintro e w3 ⟨rfl, hc3⟩
     obtain ⟨w4, r4, h4⟩ := (hS.drew.same hc3).stA (v := bv (blockF key ((at' + i) / 64) nonce)) (i1 _ _) (s64 _) (by simp [hBl]) (by simp) (bv_one _)
     rw [q1] at h4
     exact ⟨_, rfl, fun w' => St w [g] w' (M (mix X l i) B), fun _ h => h, hS.drew.same hc3, w4, r4, rfl, h4⟩
   · have hx : x = (((at' + i) / 64 : Nat) : Int) := by simp at hd; exact hd.symm
     rcases hB with h0 | ⟨h', h0, hBh⟩
     · omega
     · have : h' = (at' + i) / 64 := by omega
       rw [this] at hBh
       exact ⟨hx, by rw [← hBh]; exact hS⟩
   · rintro x' w5 ⟨rfl, h5⟩
     have hlt : (at' + i) % 64 < 64 := Nat.mod_lt _ (by decide)
     have hml := mix_len hXl (show i ≤ l.length by omega)
     have ldm : ∀ w', St w [g] w' (M (mix X l i) (blockF key ((at' + i) / 64) nonce)) → (Instr.loadAt 5 (.pointer (some ⟨g, 0 + Int.toNat (i : Int) * 1, none⟩))).run Tryz.prog w' = .ok (.int .u8 ((l.getD i 0).toNat : Int)) w' := fun w' h => by
       have hc := h.cells (i0 _ _)
       have hv : (bv (mix X l i))[i]? = some (.int .u8 ((l.getD i 0).toNat : Int)) := by rw [bv_getD (by omega), mix_get hXl (by omega)]
       obtain ⟨b, o', he, hcell⟩ := hc.at_ hv
       simp only [Option.some.injEq, Addr.mk.injEq, and_true] at he
       obtain ⟨rfl, rfl⟩ := he
       rw [show 0 + Int.toNat (i : Int) * 1 = 0 + i by omega]
       exact ld1 (bA _) hcell
     refine ⟨fun w' => St w [g] w' (M (mix X l i) (blockF key ((at' + i) / 64) nonce)), h5.drew, g, 0, rfl, by omega, by omega, by omega, by omega, _, ldm, _, fun w' h => h.ldB (i1 _ _) (bA _) (ze ((at' + i) % 64)) (by simpa using hlt), g, 0, rfl, by omega, by omega, ?_⟩
     rw [xor_u8, show 0 + Int.toNat (i : Int) * 1 = i by omega]
     obtain ⟨w6, r6, h6⟩ := h5.drew.stRow (v := .int .u8 ((l.getD i 0 ^^^ (blockF key ((at' + i) / 64) nonce).getD ((at' + i) % 64) 0).toNat : Int)) (i0 _ _) (sB _) hi' rfl
     rw [bv_set, q0, mix_set hXl (by rw [← hX]; exact xorL_get (by omega))] at h6
     exact ⟨w6, r6, ⟨i + 1, _, rfl, by omega, by simp, .inr ⟨_, rfl, rfl⟩, h6⟩, by simp; omega⟩
 · have hi' : i = n := by simp at h; omega
   subst hi'
   rw [mix_all (by omega) (by omega)] at hS
   exact ⟨rfl, hS.chg, hS.holds 0 _ (i0 _ _)⟩

def roomF (x : Int) (n : Nat) : Bool := decide (0 ≤ x) && decide (x + n ≤ 274877906944)
def xorE (x : Int) (n : Nat) : Option Int := if roomF x n then none else some 8
def xorR (key nonce : List UInt8) (x : Int) (l : List UInt8) : List UInt8 := if roomF x l.length then xorL key nonce x.toNat l else []

theorem room_spec (x : Int) (n : Nat) (w : World) (h1 : -9223372036854775808 ≤ x) (h2 : x ≤ 9223372036854775807) (hn : n ≤ 9223372036854775807) : Calls Tryz.prog 144 #[.int .i64 x, .int .i64 (n : Int)] w fun e w' => e = .returned (.bool (roomF x n)) ∧ w' = w := by
 apply chacha_room_vc
 refine ⟨?_, rfl⟩
 have : (((decide (x ≥ (0 : Int))) && (decide (x ≤ (274877906944 : Int)))) && (decide ((n : Int) ≤ (IntKind.wrap .i64 ((274877906944 : Int) - x))))) = roomF x n := by
   by_cases h0 : 0 ≤ x
   · rw [wrap_i64 (by omega) (by omega)]
     simp only [roomF]
     rw [Bool.eq_iff_iff]
     simp only [Bool.and_eq_true, decide_eq_true_eq]
     omega
   · simp [roomF, h0]
 rw [this]

theorem built_seat : Tryz.prog.built 230 = fun parts => Instr.fill (fun i => (#[(0, 32), (32, 12)] : Array (Nat × Nat))[i]?) (bv (List.replicate 44 0)).toArray parts := by kernel_rfl

theorem seat_build (key nonce : List UInt8) (hk : key.length = 32) (hn : nonce.length = 12) (w : World) : (Instr.build 230 #[(0, .agg (bv key).toArray), (1, .agg (bv nonce).toArray)]).run Tryz.prog w = .ok (.agg (bv key ++ bv nonce).toArray) w := by
 apply run_build
 rw [built_seat]
 show Instr.fill _ _ [(0, .agg (bv key).toArray), (1, .agg (bv nonce).toArray)] = _
 rw [fill_step (off := 0) (sz := 32) rfl (by simp [Value.cells, hk]) (by simp), fill_step (off := 32) (sz := 12) rfl (by simp [Value.cells, hn]) (by simp [Value.cells, hk])]
 simp [Instr.fill, Value.cells, hk, hn]

theorem xor_spec (key nonce : List UInt8) (x : Int) (a : Option Addr) (n c : Nat) (l : List UInt8) (w : World) (hk : key.length = 32) (hn : nonce.length = 12) (h1 : -9223372036854775808 ≤ x) (h2 : x ≤ 9223372036854775807) (hr : RdB w a n c l) (hb : n ≤ 9223372036854775807) :
   Calls Tryz.prog 122 #[.agg (bv key).toArray, .agg (bv nonce).toArray, .int .i64 x, .slice a n c] w fun e w' => ∃ a' n' c', e = .returned (.tuple #[.slice a' n' c', errV (xorE x n)]) ∧ FreshB w w' a' n' c' (xorR key nonce x l) := by
 have hl := hr.lenB
 apply chacha_XOR_vc
 have s32 : ∀ w, (sizeOf 22).run Tryz.prog w = .ok 32 w := fun w => Tryz.sizeOf22 w
 have s12 : ∀ w, (sizeOf 187).run Tryz.prog w = .ok 12 w := fun w => Tryz.sizeOf187 w
 obtain ⟨g1, w1, r1, k1⟩ := (St.start w).boxA (P := Tryz.prog) 22 (bv key)
 obtain ⟨g2, w2, r2, k2⟩ := k1.boxA (P := Tryz.prog) 187 (bv nonce)
 refine ⟨_, _, r1, _, _, r2, (room_spec x n w2 h1 h2 hb).mono ?_⟩
 rintro e w3 ⟨rfl, rfl⟩
 refine ⟨_, rfl, fun h => ?_, fun h => ?_⟩
 · have hf : roomF x n = false := by simpa using h
   refine ⟨none, 0, 0, by simp [xorE, hf, errV], ?_⟩
   rw [xorR, hl, hf]
   exact ⟨k2.chg, rfl, World.ownsRow_nil _ _ _ _⟩
 · have hf : roomF x n = true := by simpa using h
   have hx0 : 0 ≤ x ∧ x + n ≤ 274877906944 := by simpa [roomF] using hf
   obtain ⟨at', rfl⟩ := Int.eq_ofNat_of_zero_le hx0.1
   obtain ⟨g, w4, r4, k4⟩ := k2.mk0n (kl := .i64) (kc := .i64) (c := n) bT (by omega) (by omega)
   obtain ⟨va, vc, w5, r5, k5, hin, _⟩ := k4.append (i := 2) (ty := 33) bT rfl (k4.rd1 hr) (bv_one l) (by omega) (by simp only [maxLen]; omega)
   have hv := hin (by omega)
   rw [Nat.zero_add, hv.1, hv.2] at r5 k5
   refine ⟨_, _, _, _, r4, _, _, _, _, r5, _, k5.ldA (i := 0) rfl (e32 _) (s32 _) (by simp [hk]), _, k5.ldA (i := 1) rfl (e12 _) (s12 _) (by simp [hn]), _, seat_build key nonce hk hn _, ?_⟩
   obtain ⟨g6, w6, r6, k6⟩ := k5.boxA (P := Tryz.prog) 230 (bv key ++ bv nonce)
   refine ⟨_, _, r6, ?_⟩
   have rng := k6.cellsA (i := 3) rfl
   have hne : g6 ≠ g := fun e => k6.apart 3 2 _ _ (by decide) rfl rfl g6 (by simp [Res.fp]) (by simp [Res.fp, Value.ownBlock, e])
   have rk : w6.rangeAt g6 0 (bv key) := fun j v hj => rng j v (by rw [List.getElem?_append_left (List.getElem?_eq_some_iff.1 hj).1]; exact hj)
   have rn : w6.rangeAt g6 (0 + 32) (bv nonce) := fun j v hj => by
     have := rng (32 + j) v (by rw [List.getElem?_append_right (by simp [hk]), bv_length, hk, Nat.add_sub_cancel_left]; exact hj)
     rw [show 0 + 32 + j = 0 + (32 + j) by omega]; exact this
   refine (seatOver_spec g6 0 g n n at' key nonce l w6 hk hn rk rn hne (k6.holds 2 _ rfl) (by omega)).mono ?_
   rintro e w7 ⟨rfl, hc7, hrow⟩
   have he : errV (xorE (at' : Int) n) = .nilIface := by simp [xorE, hf, errV]
   rw [he]
   refine ⟨rfl, _, _, _, rfl, ?_⟩
   rw [xorR, hl, hf, if_pos rfl, Int.toNat_natCast]
   have := k6.upd (i := 2) (r' := .row 5 1 (.slice (some ⟨g, 0, none⟩) n n) n (bv (xorL key nonce at' l))) rfl (by simpa [Res.fp, Value.ownBlock] using hc7) hrow (by simp [Res.fp, Value.ownBlock])
   exact this.freshB (i := 2) rfl

theorem rxor_spec (key nonce : List UInt8) (x : Int) (a : Option Addr) (n c : Nat) (l : List UInt8) (w : World) (hk : key.length = 32) (hn : nonce.length = 12) (h1 : -9223372036854775808 ≤ x) (h2 : x ≤ 9223372036854775807) (hr : RdB w a n c l) (hb : n ≤ 9223372036854775807) :
   Calls Tryz.prog 106 #[.agg (bv key).toArray, .agg (bv nonce).toArray, .int .i64 x, .slice a n c] w fun e w' => ∃ a' n' c', e = .returned (.tuple #[.slice a' n' c', .int .i64 ((xorE x n).getD 0)]) ∧ FreshB w w' a' n' c' (xorR key nonce x l) := by
 have hl := hr.lenB
 apply amphoraref03_XOR_vc
 have ze : ∀ k : Nat, 0 + Int.toNat (k : Int) * 1 = k := fun k => by omega
 have sB : ∀ w, (sizeOf 5).run Tryz.prog w = .ok 1 w := fun w => Tryz.sizeOf5 w
 have s64 : ∀ w, (sizeOf 207).run Tryz.prog w = .ok 64 w := fun w => Tryz.sizeOf207 w
 have s32 : ∀ w, (sizeOf 22).run Tryz.prog w = .ok 32 w := fun w => Tryz.sizeOf22 w
 have s12 : ∀ w, (sizeOf 187).run Tryz.prog w = .ok 12 w := fun w => Tryz.sizeOf187 w
 obtain ⟨g1, w1, r1, k1⟩ := (St.start w).boxA (P := Tryz.prog) 22 (bv key)
 obtain ⟨g2, w2, r2, k2⟩ := k1.boxA (P := Tryz.prog) 187 (bv nonce)
 have hbool : (((decide (x < (0 : Int))) || (decide (x > (274877906944 : Int)))) || (decide (((n : Nat) : Int) > (IntKind.wrap .i64 ((274877906944 : Int) - x))))) = !(roomF x n) := by
   by_cases h0 : 0 ≤ x
   · rw [wrap_i64 (by omega) (by omega)]
     simp only [roomF]
     rw [Bool.eq_iff_iff]
     simp only [Bool.and_eq_true, Bool.or_eq_true, Bool.not_eq_true', Bool.and_eq_false_iff, decide_eq_true_eq, decide_eq_false_iff_not]
     omega
   · have : x < 0 := by omega
     simp [roomF, h0, this]
 rw [hbool]
 refine ⟨_, _, r1, _, _, r2, fun h => ?_, fun h => ?_⟩
 · have hf : roomF x n = false := by simpa using h
   refine ⟨none, 0, 0, by simp [xorE, hf], ?_⟩
   rw [xorR, hl, hf]
   exact ⟨k2.chg, rfl, World.ownsRow_nil _ _ _ _⟩
 · have hf : roomF x n = true := by simpa using h
   have hx0 : 0 ≤ x ∧ x + n ≤ 274877906944 := by simpa [roomF] using hf
   obtain ⟨at', rfl⟩ := Int.eq_ofNat_of_zero_le hx0.1
   obtain ⟨g3, w3, r3, k3⟩ := k2.lit bT [] (by simp) (by simp)
   have hb := build_arr (P := Tryz.prog) (w := w3) (zero64 w3) Tryz.underlying207 (sB _) [] (by simp) (by simp)
   obtain ⟨g4, w4, r4, k4⟩ := k3.zeroA zero64
   obtain ⟨w5, r5, k5⟩ := k4.stA (i := 3) (v := bv (List.replicate 64 0)) rfl (s64 _) (by simp) (by simp) (bv_one _)
   have he : (xorE (at' : Int) n).getD 0 = 0 := by simp [xorE, hf]
   have hR : xorR key nonce (at' : Int) l = xorL key nonce at' l := by rw [xorR, hl, hf, if_pos rfl, Int.toNat_natCast]
   rw [he, hR]
   obtain ⟨X, hX⟩ : ∃ X, xorL key nonce at' l = X := ⟨_, rfl⟩
   have hXl : X.length = l.length := by rw [← hX]; simp
   rw [hX]
   obtain ⟨M, hM⟩ : ∃ M : Option Addr → Nat → Nat → List UInt8 → List UInt8 → List Res, M = fun va vn vc y B => [.arr g1 22 (bv key), .arr g2 187 (bv nonce), .row 5 1 (.slice va vn vc) vn (bv y), .arr g4 207 (bv B)] := ⟨_, rfl⟩
   have i0 : ∀ va vn vc y B, (M va vn vc y B)[0]? = some (.arr g1 22 (bv key)) := fun va vn vc y B => by rw [hM]; rfl
   have i1 : ∀ va vn vc y B, (M va vn vc y B)[1]? = some (.arr g2 187 (bv nonce)) := fun va vn vc y B => by rw [hM]; rfl
   have i2 : ∀ va vn vc y B, (M va vn vc y B)[2]? = some (.row 5 1 (.slice va vn vc) vn (bv y)) := fun va vn vc y B => by rw [hM]; rfl
   have i3 : ∀ va vn vc y B, (M va vn vc y B)[3]? = some (.arr g4 207 (bv B)) := fun va vn vc y B => by rw [hM]; rfl
   have q2 : ∀ va vn vc y B va' vn' vc' y', (M va vn vc y B).set 2 (.row 5 1 (.slice va' vn' vc') vn' (bv y')) = M va' vn' vc' y' B := fun va vn vc y B va' vn' vc' y' => by rw [hM]; rfl
   have q3 : ∀ va vn vc y B B', (M va vn vc y B).set 3 (.arr g4 207 (bv B')) = M va vn vc y B' := fun va vn vc y B B' => by rw [hM]; rfl
   refine ⟨_, _, _, _, r3, _, hb, _, _, r4, _, r5, fun va vn vc y w' => ∃ (i : Nat) (B : List UInt8), y = (i : Int) ∧ vn = i ∧ i ≤ n ∧ B.length = 64 ∧ (i = 0 ∨ B = blockF key ((at' + i - 1) / 64) nonce) ∧ St w [] w' (M va vn vc (X.take i) B), fun _ _ _ y _ => n - y.toNat,
     ⟨0, List.replicate 64 0, rfl, rfl, by omega, by simp, .inl rfl, by rw [hM]; exact k5⟩, ?_⟩
   rintro va vn vc y w6 ⟨i, B, rfl, rfl, hi, hBl, hB, hS⟩
   refine ⟨fun h => ?_, fun h => ?_⟩
   · have hi' : vn < n := by simp at h; omega
     have ea : IntKind.wrap .i64 ((at' : Int) + (vn : Int)) = ((at' + vn : Nat) : Int) := by rw [wrap_i64 (by omega) (by omega)]; omega
     have ed : IntKind.wrap .i64 (Int.tdiv ((at' + vn : Nat) : Int) 64) = (((at' + vn) / 64 : Nat) : Int) := by rw [Int.tdiv_eq_ediv_of_nonneg (by omega), wrap_i64 (by omega) (by omega)]; omega
     have em : Int.tmod ((at' + vn : Nat) : Int) 64 = (((at' + vn) % 64 : Nat) : Int) := by rw [Int.tmod_eq_emod_of_nonneg (by omega)]; omega
     have ew : IntKind.wrap .u32 (((at' + vn) / 64 : Nat) : Int) = (((at' + vn) / 64 : Nat) : Int) := wrap_u32_nat (by omega)
     have e1 : IntKind.wrap .i64 ((vn : Int) + 1) = ((vn + 1 : Nat) : Int) := by rw [wrap_i64 (by omega) (by omega)]; rfl
     rw [ea, ed, em, ew, e1]
     refine ⟨fun w' => St w [] w' (M va vn vc (X.take vn) (blockF key ((at' + vn) / 64) nonce)), ⟨fun hd => ?_, fun hd => ?_⟩, ?_⟩
     · refine ⟨_, hS.ldA (i0 _ _ _ _ _) (e32 _) (s32 _) (by simp [hk]), _, hS.ldA (i1 _ _ _ _ _) (e12 _) (s12 _) (by simp [hn]), (rblock_spec key nonce ((at' + vn) / 64) _ hk hn (by omega)).mono ?_⟩
       rintro e w7 ⟨rfl, hc7⟩
       obtain ⟨w8, r8, h8⟩ := (hS.same hc7).stA (v := bv (blockF key ((at' + vn) / 64) nonce)) (i3 _ _ _ _ _) (s64 _) (by simp [hBl]) (by simp) (bv_one _)
       rw [q3] at h8
       exact ⟨_, rfl, w8, r8, h8⟩
     · simp only [Bool.or_eq_false_iff, beq_eq_false_iff_ne] at hd
       rcases hB with h0 | h0
       · omega
       · rw [show (at' + vn) / 64 = (at' + vn - 1) / 64 by omega, ← h0]; exact hS
     · intro w7 h7
       have hlt : (at' + vn) % 64 < 64 := Nat.mod_lt _ (by decide)
       have hxg : X[vn]? = some (l.getD vn 0 ^^^ strB key nonce (at' + vn)) := by rw [← hX]; exact xorL_get (by omega)
       refine ix0 hr.cells hl vn hi' fun b o ha hld => ?_
       obtain ⟨g8, w8, va', vc', w9, r8, r9, h9, h8⟩ := h7.drew.push1 (i2 _ _ _ _ _) (by omega) (l.getD vn 0 ^^^ (blockF key ((at' + vn) / 64) nonce).getD ((at' + vn) % 64) 0).toNat (UInt8.toNat_lt _)
       rw [q2, UInt8.ofNat_toNat, show X.take vn ++ [l.getD vn 0 ^^^ (blockF key ((at' + vn) / 64) nonce).getD ((at' + vn) % 64) 0] = X.take (vn + 1) by rw [List.take_add_one, hxg]; rfl] at h9
       have toS : ∀ w' va vm vc y, St w [] w' (M va vm vc y (blockF key ((at' + vn) / 64) nonce)) → ∃ va vm vc y, St w [] w' (M va vm vc y (blockF key ((at' + vn) / 64) nonce)) := fun w' va vm vc y h => ⟨_, _, _, _, h⟩
       refine ⟨fun w' => ∃ va vm vc y, St w [] w' (M va vm vc y (blockF key ((at' + vn) / 64) nonce)), toS _ _ _ _ _ h7.drew, b, o, ha, by omega, by omega, by omega, by omega, _, fun w' ⟨_, _, _, _, h⟩ => hld w' (h.rd1 hr).cells, _, fun w' ⟨_, _, _, _, h⟩ => h.ldB (i3 _ _ _ _ _) (bA _) (ze ((at' + vn) % 64)) (by simpa using hlt), ?_⟩
       rw [xor_u8]
       exact ⟨_, _, _, _, r8, _, fun _ h => h, toS _ _ _ _ _ h8, _, _, _, _, r9, _, fun _ h => h, toS _ _ _ _ _ h9, ⟨vn + 1, _, rfl, rfl, by omega, by simp, .inr (by rw [show at' + (vn + 1) - 1 = at' + vn by omega]), h9⟩, by simp; omega⟩
   · have hi' : vn = n := by simp at h; omega
     subst hi'
     rw [List.take_of_length_le (by omega)] at hS
     exact ⟨_, _, _, rfl, hS.freshB (i2 _ _ _ _ _)⟩

end Go.Proofs.YtmdandkoajocpaaGreatDoor
end

section
namespace Go.Proofs.YtmdandkoajocpaaGreatDoor
open Go Sx
set_option maxRecDepth 8000

def der32 (salt secret info : List UInt8) : List UInt8 := deriveF salt secret info 32
@[simp] theorem der32_len (salt secret info : List UInt8) : (der32 salt secret info).length = 32 := deriveF_len _ _ _ _
def amphL : List UInt8 := [97, 109, 112, 104, 111, 114, 97]
def masterF (m : List UInt8) : List UInt8 := der32 amphL m [99, 105, 112, 104, 101, 114] ++ der32 amphL m [109, 97, 99] ++ der32 amphL m [110, 97, 109, 101]
@[simp] theorem masterF_len (m : List UInt8) : (masterF m).length = 96 := by simp [masterF]

def ciphK (K : List UInt8) : List UInt8 := K.take 32
def macKy (K : List UInt8) : List UInt8 := (K.drop 32).take 32
def nameK (K : List UInt8) : List UInt8 := (K.drop 64).take 32

def tagF (K : List UInt8) (kind : UInt8) (ctx nonce body : List UInt8) : List UInt8 := macF (macKy K) (packL [[kind], ctx, nonce, body])
@[simp] theorem tagF_len (K : List UInt8) (kind : UInt8) (ctx nonce body : List UInt8) : (tagF K kind ctx nonce body).length = 32 := macF_len _ _
def nonceF (K : List UInt8) (kind : UInt8) (ctx plain : List UInt8) : List UInt8 := (macF (nameK K) (packL [[kind], ctx, plain])).take 12
@[simp] theorem nonceF_len (K : List UInt8) (kind : UInt8) (ctx plain : List UInt8) : (nonceF K kind ctx plain).length = 12 := by rw [nonceF, List.length_take, macF_len]; rfl
def overF (K nonce b : List UInt8) : List UInt8 := xorR (ciphK K) nonce 0 b
def sealF (K : List UInt8) (kind : UInt8) (ctx plain : List UInt8) : List UInt8 :=
 [kind] ++ nonceF K kind ctx plain ++ overF K (nonceF K kind ctx plain) plain ++ tagF K kind ctx (nonceF K kind ctx plain) (overF K (nonceF K kind ctx plain) plain)
def bNonce (b : List UInt8) : List UInt8 := (b.drop 1).take 12
def bBody (b : List UInt8) : List UInt8 := (b.drop 13).take (b.length - 45)
def bTag (b : List UInt8) : List UInt8 := b.drop (b.length - 32)
def openF (K : List UInt8) (kind : UInt8) (ctx b : List UInt8) : Option (List UInt8) :=
 if b.length < 45 ∨ b.getD 0 0 ≠ kind then none else if tagF K kind ctx (bNonce b) (bBody b) = bTag b then some (overF K (bNonce b) (bBody b)) else none
theorem toBytes (s : ByteArray) (l : List UInt8) (hs : s = ⟨l.toArray⟩) (w : World) : ∃ g c w', (convert 9 33 (.string s)).run Tryz.prog w = .ok (.slice (some ⟨g, 0, none⟩) l.length c) w' ∧ Chg [] w w' ∧ RdB w' (some ⟨g, 0, none⟩) l.length c l ∧ w.heap.size ≤ g := by
 subst hs
 have hsz : (ByteArray.mk l.toArray).size = l.length := by simp [ByteArray.size]
 have hr := Lib.run_convert_string_bytes (P := Tryz.prog) w 9 33 5 ⟨l.toArray⟩ sS bS bE
 rw [hsz] at hr
 refine ⟨_, _, _, hr, ⟨?_, ?_, ?_, by rw [Lib.bytesWorld_size]; omega, fun k hk _ => Lib.bytesWorld_at_old w _ _ k hk⟩, ⟨.inr ⟨_, 0, rfl, fun j v hj => ?_⟩, by simp, grownCap_ge _ _ _ _, by simp⟩, Nat.le_refl _⟩
 · (simp only [Lib.bytesWorld, World.freeze]; split <;> rfl)
 · (simp only [Lib.bytesWorld, World.freeze]; split <;> rfl)
 · (simp only [Lib.bytesWorld, World.freeze]; split <;> rfl)
 · have hjl : j < l.length := by have := (List.getElem?_eq_some_iff.1 hj).1; simpa using this
   rw [Nat.zero_add, Lib.bytesWorld_cell w _ _ j (by rw [hsz]; exact hjl)]
   rw [bv_getD hjl] at hj
   simpa using hj

theorem sameSlice (g n c : Nat) (l : List UInt8) (w : World) (hr : RdB w (some ⟨g, 0, none⟩) n c l) (hg : g < w.heap.size) : ∃ w', (convert 33 33 (.slice (some ⟨g, 0, none⟩) n c)).run Tryz.prog w = .ok (.slice (some ⟨g, 0, none⟩) n c) w' ∧ Chg [g] w w' ∧ RdB w' (some ⟨g, 0, none⟩) n c l := by
 have hfz : ∀ (o m : Nat), Chg [g] w (w.freeze ⟨g, o, none⟩ m) ∧ ∀ j, (w.freeze ⟨g, o, none⟩ m).cell? ⟨g, j, none⟩ = w.cell? ⟨g, j, none⟩ := by
   intro o m
   unfold World.freeze
   split
   · exact ⟨Chg.refl _ _, fun _ => rfl⟩
   · refine ⟨⟨rfl, rfl, rfl, by simp, fun k hk hx => ?_⟩, fun j => ?_⟩
     · have : g ≠ k := fun e => hx (by simp [e])
       simp [Array.getElem?_modify, this]
     · simp only [World.cell?, Array.getElem?_modify, if_true]
       cases hc : w.heap[g]? with
       | none => rfl
       | some o => cases o <;> rfl
 have hrd : ∀ w', (∀ j, w'.cell? ⟨g, j, none⟩ = w.cell? ⟨g, j, none⟩) → RdB w' (some ⟨g, 0, none⟩) n c l := fun w' h => by
   refine ⟨?_, hr.len, hr.le, hr.nil⟩
   rcases hr.cells with h0 | ⟨b, o, e, h1⟩
   · exact .inl h0
   · simp only [Option.some.injEq, Addr.mk.injEq, and_true] at e
     obtain ⟨rfl, rfl⟩ := e
     exact .inr ⟨_, _, rfl, fun j v hj => by rw [h]; exact h1 j v hj⟩
 cases hsh : w.shape? g with
 | none => exact ⟨w, by simp [convert, run_underlying bS, run_underlying bE, markStringish, hsh], Chg.refl _ _, hr⟩
 | some p => exact ⟨w.freeze ⟨g, p.2, none⟩ 1, by simp [convert, run_underlying bS, run_underlying bE, markStringish, hsh], (hfz _ _).1, hrd _ (hfz _ _).2⟩

theorem Sx.St.rdPart {w0 w : World} {X : List Nat} {M : List Res} (h : St w0 X w M) {i g T o n : Nat} {l : List UInt8} (hi : M[i]? = some (.arr g T (bv l))) (ho : o + n ≤ l.length) : RdB w (some ⟨g, o, none⟩) n n ((l.drop o).take n) := by
 refine ⟨.inr ⟨g, o, rfl, fun j u hj => ?_⟩, by simp; omega, Nat.le_refl _, by simp⟩
 have hjn : j < n := by have := (List.getElem?_eq_some_iff.1 hj).1; simp at this; omega
 have h1 : (bv l)[o + j]? = some u := by
   rw [← hj, bv_take, bv_drop, List.getElem?_take, if_pos hjn, List.getElem?_drop]
 have := h.cellsA hi (o + j) u h1
 rwa [Nat.zero_add] at this

end Go.Proofs.YtmdandkoajocpaaGreatDoor
end

section
namespace Go.Proofs.YtmdandkoajocpaaGreatDoor
open Go Go.Proofs.YtmdandkoajocpaaGreatDoor.Sx

set_option maxRecDepth 100000
theorem amphoraref13_Good_vc (a0 : Int) (w : World) (R : Ending → World → Prop) (h : R (.returned (.bool ((decide (a0 ≥ (0 : Int))) && (decide (a0 ≤ (1099511627776 : Int)))))) w) : Calls Tryz.prog 18 #[(.int .i64 a0)] w R := calls_of_ev2 (tc := .sq [.rg 1, .reg (.pp 3 (.ap 2 (.op .p .nil)))] .leaf) Tryz.func18 (by kernel_rfl) (by kernel_rfl) h

theorem amphoraref13_Name_vc (a0 : Int) (w : World) (R : Ending → World → Prop) (h : Calls Tryz.prog 45 #[(.int .i64 a0)] w fun e4 w1 => ∃ t4, e4 = .returned (.string t4) ∧ (∃ t5, (eqlS .add 9 (.const (.string (ByteArray.mk #[112]))) (.tmp 4) (.string (ByteArray.mk #[112])) (.string t4)).run Tryz.prog w1 = .ok (.string t5) w1 ∧ (R (.returned (.string t5)) w1))) : Calls Tryz.prog 20 #[(.int .i64 a0)] w R := calls_of_ev2 (tc := .sq [.rg 1, .reg (.op .p (.op (.cl [.str]) (.op (.ld .str) (.op .p .nil))))] .leaf) Tryz.func20 (by kernel_rfl) (by kernel_rfl) h

theorem amphoraref13_foot_vc (a0a : Option Addr) (a0n : Nat) (a0c : Nat) (w : World) (R : Ending → World → Prop) (h : ∃ (I : Option Addr → Nat → Nat → Int → World → Prop) (μ : Option Addr → Nat → Nat → Int → World → Nat), I none 0 0 0 w ∧ (∀ x3a x3n x3c x4, ∀ w1, I x3a x3n x3c x4 w1 → ((decide (x4 < (a0n : Int)) = true → (∃ t14b t14o, a0a = some ⟨t14b, t14o, none⟩ ∧ 0 ≤ x4 ∧ x4 < (a0n : Int) ∧ (0 ≤ (32 : Int) ∧ (32 : Int) ≤ (32 : Int) ∧ (∃ t17a t17n t17c w2, (Builtin.append_ #[33, 33] 33 #[(.slice x3a x3n x3c), (.slice (some ⟨t14b, t14o + Int.toNat x4 * 35, none⟩) (32) 32)]).run Tryz.prog w1 = .ok (.slice t17a t17n t17c) w2 ∧ (∃ t21b t21o, a0a = some ⟨t21b, t21o, none⟩ ∧ 0 ≤ x4 ∧ x4 < (a0n : Int) ∧ (∃ t23, LdQ 3 t21b (t21o + Int.toNat x4 * 35 + 33) (.int .i64 t23) w2 ∧ (Calls Tryz.prog 74 #[(.int .i64 t23)] w2 fun e24 w3 => ∃ t24a t24n t24c, e24 = .returned (.slice t24a t24n t24c) ∧ (∃ t25a t25n t25c w4, (Builtin.append_ #[33, 33] 33 #[(.slice t17a t17n t17c), (.slice t24a t24n t24c)]).run Tryz.prog w3 = .ok (.slice t25a t25n t25c) w4 ∧ (∃ t29b t29o, a0a = some ⟨t29b, t29o, none⟩ ∧ 0 ≤ x4 ∧ x4 < (a0n : Int) ∧ (∃ t31, LdQ 3 t29b (t29o + Int.toNat x4 * 35 + 34) (.int .i64 t31) w4 ∧ (Calls Tryz.prog 74 #[(.int .i64 t31)] w4 fun e32 w5 => ∃ t32a t32n t32c, e32 = .returned (.slice t32a t32n t32c) ∧ (∃ t33a t33n t33c w6, (Builtin.append_ #[33, 33] 33 #[(.slice t25a t25n t25c), (.slice t32a t32n t32c)]).run Tryz.prog w5 = .ok (.slice t33a t33n t33c) w6 ∧ (I t33a t33n t33c (IntKind.wrap .i64 (x4 + 1)) w6 ∧ μ t33a t33n t33c (IntKind.wrap .i64 (x4 + 1)) w6 < μ x3a x3n x3c x4 w1))))))))))))) ∧ (decide (x4 < (a0n : Int)) = false → (R (.returned (.slice x3a x3n x3c)) w1))))) : Calls Tryz.prog 77 #[(.slice a0a a0n a0c)] w R := calls_of_ev2 (tc := .sq [.rg 1, .rg 1, .seq (.rg 1) (.blk (.loop (lr [(3, 31)]) [3, 4] [.slice, .int .i64] (.sq [.seq (.rg 4) (.cond .leaf .leaf), .blk (.sq [.reg (.pp 3 (.op .ix (.op .p (.op .sl (.op (.r .slice) (.op .p .nil)))))), .reg (.pp 3 (.op .ix (.op .p (.op (.ld (.int .i64)) (.op (.cl [.slice]) (.op (.r .slice) (.op .p .nil)))))))] (.reg (.pp 3 (.op .ix (.op .p (.op (.ld (.int .i64)) (.op (.cl [.slice]) (.op (.r .slice) (.op .p .nil)))))))))] (.rg 3)))), .rg 2] .leaf) Tryz.func77 (by kernel_rfl) (by kernel_rfl) h

theorem amphoraref13_Pieces_vc (a0 : Array Value) (a1 : Int) (a2a : Option Addr) (a2n : Nat) (a2c : Nat) (w : World) (R : Ending → World → Prop) (h : ∃ g3 w1, (Instr.box 28 (.agg a0)).run Tryz.prog w = .ok (.pointer (some ⟨g3, 0, none⟩)) w1 ∧ (∃ t15a t15n t15c w2, (Instr.buildSlice 33 8 #[(0, (.int .u8 97)), (1, (.int .u8 109)), (2, (.int .u8 112)), (3, (.int .u8 104)), (4, (.int .u8 112)), (5, (.int .u8 97)), (6, (.int .u8 99)), (7, (.int .u8 107))]).run Tryz.prog w1 = .ok (.slice t15a t15n t15c) w2 ∧ (∃ t16a t16n t16c w3, (convert 33 33 (.slice t15a t15n t15c)).run Tryz.prog w2 = .ok (.slice t16a t16n t16c) w3 ∧ (Calls Tryz.prog 74 #[(.int .i64 a1)] w3 fun e18 w4 => ∃ t18a t18n t18c, e18 = .returned (.slice t18a t18n t18c) ∧ (∃ t19a t19n t19c w5, (Builtin.append_ #[33, 33] 33 #[(.slice t16a t16n t16c), (.slice t18a t18n t18c)]).run Tryz.prog w4 = .ok (.slice t19a t19n t19c) w5 ∧ (∃ t20a t20n t20c w6, (Instr.buildSlice 23 1 #[(0, (.slice t19a t19n t19c))]).run Tryz.prog w5 = .ok (.slice t20a t20n t20c) w6 ∧ (∃ t21a t21n t21c w7, (Builtin.append_ #[23, 23] 23 #[(.slice none 0 0), (.slice t20a t20n t20c)]).run Tryz.prog w6 = .ok (.slice t21a t21n t21c) w7 ∧ (∃ (I : Option Addr → Nat → Nat → Option Addr → Nat → Nat → Int → Int → World → Prop) (μ : Option Addr → Nat → Nat → Option Addr → Nat → Nat → Int → Int → World → Nat), I t21a t21n t21c none 0 0 16 0 w7 ∧ (∀ x8a x8n x8c x9a x9n x9c x10 x11, ∀ w8, I x8a x8n x8c x9a x9n x9c x10 x11 w8 → ((decide (x11 < (a2n : Int)) = true → (∃ t28a t28n t28c w9, (Instr.buildSlice 33 0 #[]).run Tryz.prog w8 = .ok (.slice t28a t28n t28c) w9 ∧ (∃ t31b t31o, a2a = some ⟨t31b, t31o, none⟩ ∧ 0 ≤ x11 ∧ x11 < (a2n : Int) ∧ (0 ≤ (32 : Int) ∧ (32 : Int) ≤ (32 : Int) ∧ (∃ t34a t34n t34c w10, (Builtin.append_ #[33, 33] 33 #[(.slice t28a t28n t28c), (.slice (some ⟨t31b, t31o + Int.toNat x11 * 33, none⟩) (32) 32)]).run Tryz.prog w9 = .ok (.slice t34a t34n t34c) w10 ∧ (∃ t38b t38o, a2a = some ⟨t38b, t38o, none⟩ ∧ 0 ≤ x11 ∧ x11 < (a2n : Int) ∧ (∃ t40a t40n t40c, LdQ 33 t38b (t38o + Int.toNat x11 * 33 + 32) (.slice t40a t40n t40c) w10 ∧ (∃ t41a t41n t41c w11, (Builtin.append_ #[33, 33] 33 #[(.slice t34a t34n t34c), (.slice t40a t40n t40c)]).run Tryz.prog w10 = .ok (.slice t41a t41n t41c) w11 ∧ (Calls Tryz.prog 75 #[(.int .u8 2), (.slice t41a t41n t41c)] w11 fun e43 w12 => ∃ t43a t43n t43c, e43 = .returned (.slice t43a t43n t43c) ∧ (∃ t50a t50n t50c w13, (Instr.buildSlice 23 1 #[(0, (.slice t43a t43n t43c))]).run Tryz.prog w12 = .ok (.slice t50a t50n t50c) w13 ∧ (∃ t51a t51n t51c w14, (Builtin.append_ #[23, 23] 23 #[(.slice x8a x8n x8c), (.slice t50a t50n t50c)]).run Tryz.prog w13 = .ok (.slice t51a t51n t51c) w14 ∧ (∃ S : World → Prop, S w14.drew ∧ (∃ t55b t55o, a2a = some ⟨t55b, t55o, none⟩ ∧ 0 ≤ x11 ∧ x11 < (a2n : Int) ∧ (∃ t62b t62o, a2a = some ⟨t62b, t62o, none⟩ ∧ 0 ≤ x11 ∧ x11 < (a2n : Int) ∧ (∃ t69b t69o, a2a = some ⟨t69b, t69o, none⟩ ∧ 0 ≤ x11 ∧ x11 < (a2n : Int) ∧ (∃ t57, (∀ w', S w' → LdQ 44 t55b (t55o + Int.toNat x11 * 33) (.agg t57) w') ∧ (∃ t64a t64n t64c, (∀ w', S w' → LdQ 33 t62b (t62o + Int.toNat x11 * 33 + 32) (.slice t64a t64n t64c) w') ∧ (∃ t71a t71n t71c, (∀ w', S w' → LdQ 33 t69b (t69o + Int.toNat x11 * 33 + 32) (.slice t71a t71n t71c) w') ∧ (∃ t73, (∀ w', S w' → (Instr.build 75 #[(0, (.agg t57)), (1, (.int .i64 a1)), (2, (.int .i64 (IntKind.wrap .i64 ((IntKind.wrap .i64 (x10 + (t43n : Int))) - (t64n : Int))))), (3, (.int .i64 (t71n : Int)))]).run Tryz.prog w' = .ok (.agg t73) w') ∧ (∃ t74a t74n t74c w15, (Instr.buildSlice 34 1 #[(0, (.agg t73))]).run Tryz.prog w14.drew = .ok (.slice t74a t74n t74c) w15 ∧ (∃ S_1 : World → Prop, (∀ w', S_1 w' → S w') ∧ S_1 w15 ∧ (∃ t75a t75n t75c w16, (Builtin.append_ #[34, 34] 34 #[(.slice x9a x9n x9c), (.slice t74a t74n t74c)]).run Tryz.prog w15 = .ok (.slice t75a t75n t75c) w16 ∧ (∃ S_2 : World → Prop, (∀ w', S_2 w' → S_1 w') ∧ S_2 w16 ∧ (I t51a t51n t51c t75a t75n t75c (IntKind.wrap .i64 (x10 + (t43n : Int))) (IntKind.wrap .i64 (x11 + 1)) w16 ∧ μ t51a t51n t51c t75a t75n t75c (IntKind.wrap .i64 (x10 + (t43n : Int))) (IntKind.wrap .i64 (x11 + 1)) w16 < μ x8a x8n x8c x9a x9n x9c x10 x11 w8)))))))))))))))))))))))) ∧ (decide (x11 < (a2n : Int)) = false → (∃ S : World → Prop, S w8.drew ∧ (∃ t77, (∀ w', S w' → LdQ 28 g3 0 (.agg t77) w') ∧ (Calls Tryz.prog 74 #[(.int .i64 a1)] w8.drew fun e79 w17 => ∃ t79a t79n t79c, e79 = .returned (.slice t79a t79n t79c) ∧ (∃ S_1 : World → Prop, (∀ w', S_1 w' → S w') ∧ S_1 w17 ∧ (Calls Tryz.prog 77 #[(.slice x9a x9n x9c)] w17 fun e81 w18 => ∃ t81a t81n t81c, e81 = .returned (.slice t81a t81n t81c) ∧ (∃ S_2 : World → Prop, (∀ w', S_2 w' → S_1 w') ∧ S_2 w18 ∧ (Calls Tryz.prog 76 #[(.agg t77), (.int .u8 3), (.slice t79a t79n t79c), (.slice t81a t81n t81c)] w18 fun e82 w19 => ∃ t82a t82n t82c, e82 = .returned (.slice t82a t82n t82c) ∧ (∃ S_3 : World → Prop, (∀ w', S_3 w' → S_2 w') ∧ S_3 w19 ∧ (Calls Tryz.prog 75 #[(.int .u8 3), (.slice t82a t82n t82c)] w19 fun e83 w20 => ∃ t83a t83n t83c, e83 = .returned (.slice t83a t83n t83c) ∧ (∃ S_4 : World → Prop, (∀ w', S_4 w' → S_3 w') ∧ S_4 w20 ∧ (∃ t84a t84n t84c w21, (Instr.buildSlice 23 1 #[(0, (.slice t83a t83n t83c))]).run Tryz.prog w20 = .ok (.slice t84a t84n t84c) w21 ∧ (∃ S_5 : World → Prop, (∀ w', S_5 w' → S_4 w') ∧ S_5 w21 ∧ (∃ t85a t85n t85c w22, (Builtin.append_ #[23, 23] 23 #[(.slice x8a x8n x8c), (.slice t84a t84n t84c)]).run Tryz.prog w21 = .ok (.slice t85a t85n t85c) w22 ∧ (∃ S_6 : World → Prop, (∀ w', S_6 w' → S_5 w') ∧ S_6 w22 ∧ (R (.returned (.tuple #[(.slice t85a t85n t85c), (.slice x9a x9n x9c)])) w22)))))))))))))))))))))))))) : Calls Tryz.prog 41 #[(.agg a0), (.int .i64 a1), (.slice a2a a2n a2c)] w R := calls_of_ev2 (tc := .sq [.reg (.op .bx (.pp 2 .nil)), .rg 1, .rg 1, .rg 1, .reg (.op .p (.op (.r .slice) (.op (.r .slice) (.op .p (.op (.cl [.slice]) (.op (.r .slice) (.op (.r .slice) (.op (.r .slice) (.op .p .nil))))))))), .seq (.rg 1) (.blk (.loop (lr [(8, 6), (22, 54)]) (lr [(8, 4)]) [.slice, .slice, .int .i64, .int .i64] (.sq [.seq (.rg 4) (.cond .leaf .leaf), .blk (.sq [.reg (.op (.r .slice) (.pp 2 (.op .ix (.op .p (.op .sl (.op (.r .slice) (.op .p .nil))))))), .reg (.pp 3 (.op .ix (.op .p (.op (.ld .slice) (.op (.r .slice) (.op .p .nil)))))), .reg (.op .p (.op (.cl [.slice]) (.op .p .nil))), .rg 5, .reg (.pp 2 (.op (.r .slice) (.op (.r .slice) (.op .p .nil))))] (.drawS (.tks [0, 1, 2] (.tk 3 .ix (.tks [4, 6, 7, 8, 9] (.tk 10 .ix (.tks [11, 15, 16] (.tk 17 .ix (.tk 18 .p (.ts 5 .agg (.ts 12 .slice (.tks [13, 14] (.ts 19 .slice (.tk 20 .p (.ts 21 .agg (.go 22 (.r .slice) (.go 23 (.r .slice) (.tk 24 .p .nil)))))))))))))))) []))] (.rg 3)))), .drawS (.tks [0, 2, 4, 10] (.ts 1 .agg (.go 3 (.cl [.slice]) (.go 5 (.cl [.slice]) (.go 6 (.cl [.slice]) (.go 7 (.cl [.slice]) (.go 8 (.r .slice) (.go 9 (.r .slice) (.tks [11, 12] .nil))))))))) []] .leaf) Tryz.func41 (by kernel_rfl) (by kernel_rfl) h

theorem amphoraref13_Build_vc (a0 : Array Value) (a1 : Int) (a2a : Option Addr) (a2n : Nat) (a2c : Nat) (w : World) (R : Ending → World → Prop) (h : ∃ g3 w1, (Instr.box 28 (.agg a0)).run Tryz.prog w = .ok (.pointer (some ⟨g3, 0, none⟩)) w1 ∧ (Calls Tryz.prog 18 #[(.int .i64 a1)] w1 fun e15 w2 => ∃ t15, e15 = .returned (.bool t15) ∧ (((!t15) = true → (R (.returned (.tuple #[(.slice none 0 0), (.slice none 0 0), (.int .i64 28)])) w2)) ∧ ((!t15) = false → (∃ (I : Int → World → Prop) (μ : Int → World → Nat), I 0 w2 ∧ (∀ x9, ∀ w3, I x9 w3 → ((decide (x9 < (a2n : Int)) = true → (∃ t25b t25o, a2a = some ⟨t25b, t25o, none⟩ ∧ 0 ≤ x9 ∧ x9 < (a2n : Int) ∧ (∃ t27a t27n t27c, LdQ 33 t25b (t25o + Int.toNat x9 * 33 + 32) (.slice t27a t27n t27c) w3 ∧ ((decide ((t27n : Int) > (67108832 : Int)) = true → (R (.returned (.tuple #[(.slice none 0 0), (.slice none 0 0), (.int .i64 7)])) w3)) ∧ (decide ((t27n : Int) > (67108832 : Int)) = false → (I (IntKind.wrap .i64 (x9 + 1)) w3 ∧ μ (IntKind.wrap .i64 (x9 + 1)) w3 < μ x9 w3)))))) ∧ (decide (x9 < (a2n : Int)) = false → (∃ t31, LdQ 28 g3 0 (.agg t31) w3 ∧ (Calls Tryz.prog 41 #[(.agg t31), (.int .i64 a1), (.slice a2a a2n a2c)] w3 fun e34 w4 => ∃ t34_0a t34_0n t34_0c t34_1a t34_1n t34_1c, e34 = .returned (.tuple #[(.slice t34_0a t34_0n t34_0c), (.slice t34_1a t34_1n t34_1c)]) ∧ (∃ t37a t37n t37c w5, (Instr.buildSlice 33 0 #[]).run Tryz.prog w4 = .ok (.slice t37a t37n t37c) w5 ∧ (∃ (I_1 : Option Addr → Nat → Nat → Int → World → Prop) (μ_1 : Option Addr → Nat → Nat → Int → World → Nat), I_1 t37a t37n t37c 0 w5 ∧ (∀ x12a x12n x12c x13, ∀ w6, I_1 x12a x12n x12c x13 w6 → ((decide (x13 < (t34_0n : Int)) = true → (∃ t47b t47o, t34_0a = some ⟨t47b, t47o, none⟩ ∧ 0 ≤ x13 ∧ x13 < (t34_0n : Int) ∧ (∃ t48a t48n t48c, LdQ 33 t47b (t47o + Int.toNat x13 * 1) (.slice t48a t48n t48c) w6 ∧ (∃ t49a t49n t49c w7, (Builtin.append_ #[33, 33] 33 #[(.slice x12a x12n x12c), (.slice t48a t48n t48c)]).run Tryz.prog w6 = .ok (.slice t49a t49n t49c) w7 ∧ (I_1 t49a t49n t49c (IntKind.wrap .i64 (x13 + 1)) w7 ∧ μ_1 t49a t49n t49c (IntKind.wrap .i64 (x13 + 1)) w7 < μ_1 x12a x12n x12c x13 w6))))) ∧ (decide (x13 < (t34_0n : Int)) = false → (R (.returned (.tuple #[(.slice x12a x12n x12c), (.slice t34_1a t34_1n t34_1c), (.int .i64 0)])) w6)))))))))))))))) : Calls Tryz.prog 12 #[(.agg a0), (.int .i64 a1), (.slice a2a a2n a2c)] w R := calls_of_ev2 (tc := .sq [.reg (.op .bx (.pp 3 .nil)), .seq (.reg (.op .p (.op (.cl [.bool]) (.op .p .nil)))) (.cond (.seq (.rg 3) .leaf) .leaf), .seq (.rg 1) (.blk (.loop (lr [(6, 4), (17, 13)]) [9] [.int .i64] (.sq [.seq (.rg 4) (.cond .leaf .leaf), .blk (.seq (.reg (.pp 2 (.op .ix (.op .p (.op (.ld .slice) (.pp 2 .nil)))))) (.cond (.seq (.rg 3) .leaf) .leaf))] (.rg 3)))), .reg (.op (.ld .agg) (.pp 2 (.op (.cl [.slice, .slice]) (.pp 5 .nil)))), .reg (.op (.r .slice) (.op .p .nil)), .seq (.rg 1) (.blk (.loop (lr [(12, 2), (38, 12)]) [12, 13] [.slice, .int .i64] (.sq [.seq (.rg 4) (.cond .leaf .leaf), .blk (.reg (.pp 3 (.op .ix (.op (.ld .slice) (.op (.r .slice) (.op .p .nil))))))] (.rg 3)))), .rg 5] .leaf) Tryz.func12 (by kernel_rfl) (by kernel_rfl) h

theorem amphoraref13_Save_vc (a0b : Nat) (a0o : Nat) (a1 : Array Value) (a2 : Int) (a3a : Option Addr) (a3n : Nat) (a3c : Nat) (w : World) (R : Ending → World → Prop) (h : ∃ g5 w1, (Instr.box 28 (.agg a1)).run Tryz.prog w = .ok (.pointer (some ⟨g5, 0, none⟩)) w1 ∧ (∃ g9 w2, AlQ 63 g9 w1 w2 ∧ (∃ t18, LdQ 28 g5 0 (.agg t18) w2 ∧ (Calls Tryz.prog 12 #[(.agg t18), (.int .i64 a2), (.slice a3a a3n a3c)] w2 fun e21 w3 => ∃ t21_0a t21_0n t21_0c t21_1a t21_1n t21_1c t21_2, e21 = .returned (.tuple #[(.slice t21_0a t21_0n t21_0c), (.slice t21_1a t21_1n t21_1c), (.int .i64 t21_2)]) ∧ (((t21_2 != (0 : Int)) = true → (∃ t27, (Instr.build 63 #[]).run Tryz.prog w3 = .ok (.agg t27) w3 ∧ (∃ w4, StQ 63 g9 0 (.agg t27) w3 w4 ∧ (∃ r9, (loadVar 63 ⟨g9, 0, none⟩).run Tryz.prog w4 = .ok r9 w4 ∧ (R (.returned (.tuple #[(.slice none 0 0), r9, (.int .i64 t21_2)])) w4))))) ∧ ((t21_2 != (0 : Int)) = false → (∃ t30, LdQ 28 g5 0 (.agg t30) w3 ∧ (Calls Tryz.prog 41 #[(.agg t30), (.int .i64 a2), (.slice a3a a3n a3c)] w3 fun e33 w5 => ∃ t33_0a t33_0n t33_0c t33_1a t33_1n t33_1c, e33 = .returned (.tuple #[(.slice t33_0a t33_0n t33_0c), (.slice t33_1a t33_1n t33_1c)]) ∧ (Calls Tryz.prog 20 #[(.int .i64 a2)] w5 fun e38 w6 => ∃ t38, e38 = .returned (.string t38) ∧ (Calls Tryz.prog 64 #[(.pointer (some ⟨a0b, a0o, none⟩)), (.string t38)] w6 fun e39 w7 => ∃ t39, e39 = .returned (.int .i64 t39) ∧ (∃ (I : Int → Int → World → Prop) (μ : Int → Int → World → Nat), I t39 0 w7 ∧ (∀ x13 x16, ∀ w8, I x13 x16 w8 → ((((decide (x16 < (t33_0n : Int))) && (x13 == (0 : Int))) = true → (∃ J : Int → World → Prop, (∃ S : World → Prop, S w8.drew ∧ (∃ t55b t55o, t33_0a = some ⟨t55b, t55o, none⟩ ∧ 0 ≤ x16 ∧ x16 < (t33_0n : Int) ∧ (∃ t56a t56n t56c, (∀ w', S w' → LdQ 33 t55b (t55o + Int.toNat x16 * 1) (.slice t56a t56n t56c) w') ∧ ((Calls Tryz.prog 20 #[(.int .i64 a2)] w8.drew fun e52 w9 => ∃ t52, e52 = .returned (.string t52) ∧ (∃ S_1 : World → Prop, (∀ w', S_1 w' → S w') ∧ S_1 w9 ∧ (∃ t57a t57n t57c w10, (Instr.buildSlice 23 1 #[(0, (.slice t56a t56n t56c))]).run Tryz.prog w9 = .ok (.slice t57a t57n t57c) w10 ∧ (∃ S_2 : World → Prop, (∀ w', S_2 w' → S_1 w') ∧ S_2 w10 ∧ (Calls Tryz.prog 65 #[(.pointer (some ⟨a0b, a0o, none⟩)), (.string t52), (.slice t57a t57n t57c)] w10 fun e58 w11 => ∃ t58, e58 = .returned (.int .i64 t58) ∧ (∃ S_3 : World → Prop, (∀ w', S_3 w' → S_2 w') ∧ S_3 w11 ∧ (J t58 w11))))))) ∧ (∃ t57a t57n t57c w12, (Instr.buildSlice 23 1 #[(0, (.slice t56a t56n t56c))]).run Tryz.prog w8.drew = .ok (.slice t57a t57n t57c) w12 ∧ (∃ S_1 : World → Prop, (∀ w', S_1 w' → S w') ∧ S_1 w12 ∧ (Calls Tryz.prog 20 #[(.int .i64 a2)] w12 fun e52 w13 => ∃ t52, e52 = .returned (.string t52) ∧ (∃ S_2 : World → Prop, (∀ w', S_2 w' → S_1 w') ∧ S_2 w13 ∧ (Calls Tryz.prog 65 #[(.pointer (some ⟨a0b, a0o, none⟩)), (.string t52), (.slice t57a t57n t57c)] w13 fun e58 w14 => ∃ t58, e58 = .returned (.int .i64 t58) ∧ (∃ S_3 : World → Prop, (∀ w', S_3 w' → S_2 w') ∧ S_3 w14 ∧ (J t58 w14))))))))))) ∧ (∀ x13_1, ∀ w15, J x13_1 w15 → (I x13_1 (IntKind.wrap .i64 (x16 + 1)) w15 ∧ μ x13_1 (IntKind.wrap .i64 (x16 + 1)) w15 < μ x13 x16 w8)))) ∧ (((decide (x16 < (t33_0n : Int))) && (x13 == (0 : Int))) = false → (∃ J : Int → World → Prop, (((x13 == (0 : Int)) = true → (Calls Tryz.prog 20 #[(.int .i64 a2)] w8 fun e63 w16 => ∃ t63, e63 = .returned (.string t63) ∧ (Calls Tryz.prog 66 #[(.pointer (some ⟨a0b, a0o, none⟩)), (.string t63)] w16 fun e64 w17 => ∃ t64, e64 = .returned (.int .i64 t64) ∧ (J t64 w17)))) ∧ ((x13 == (0 : Int)) = false → (J x13 w8))) ∧ (∀ x13_1, ∀ w18, J x13_1 w18 → (((x13_1 != (0 : Int)) = true → (∃ t67, (Instr.build 63 #[]).run Tryz.prog w18 = .ok (.agg t67) w18 ∧ (∃ w19, StQ 63 g9 0 (.agg t67) w18 w19 ∧ (∃ r9, (loadVar 63 ⟨g9, 0, none⟩).run Tryz.prog w19 = .ok r9 w19 ∧ (R (.returned (.tuple #[(.slice none 0 0), r9, (.int .i64 x13_1)])) w19))))) ∧ ((x13_1 != (0 : Int)) = false → (∃ t75, (Instr.build 63 #[(0, (.int .i64 a2)), (1, (.int .i64 (t21_0n : Int))), (2, (.int .i64 (a3n : Int)))]).run Tryz.prog w18 = .ok (.agg t75) w18 ∧ (∃ w20, StQ 63 g9 0 (.agg t75) w18 w20 ∧ (∃ r9, (loadVar 63 ⟨g9, 0, none⟩).run Tryz.prog w20 = .ok r9 w20 ∧ (R (.returned (.tuple #[(.slice t21_1a t21_1n t21_1c), r9, (.int .i64 0)])) w20)))))))))))))))))))))) : Calls Tryz.prog 30 #[(.pointer (some ⟨a0b, a0o, none⟩)), (.agg a1), (.int .i64 a2), (.slice a3a a3n a3c)] w R := calls_of_ev2 (tc := .sq [.reg (.op .bx (.op .p (.op .bx (.op .p .nil)))), .reg (.op (.ld .agg) (.pp 2 (.op (.cl [.slice, .slice, .int .i64]) (.pp 7 .nil)))), .seq (.rg 2) (.cond (.seq (.reg (.op (.ld .agg) (.pp 2 (.op .u (.op .p .nil))))) .leaf) .leaf), .reg (.op (.ld .agg) (.pp 2 (.op (.cl [.slice, .slice]) (.pp 5 .nil)))), .reg (.pp 2 (.op (.cl [.str]) (.op (.cl [.int .i64]) (.op .p .nil)))), .seq (.rg 1) (.blk (.loop (lr [(13, 1), (16, 1), (40, 19)]) [13, 16] [.int .i64, .int .i64] (.sq [.seq (.reg (.pp 5 (.ap 2 .nil))) (.cond .leaf .leaf), .blk (.join (lr [(13, 1), (50, 9)]) [13] [.int .i64] (.drawS (.tks [0, 1, 3, 4] (.tk 5 .ix (.ts 6 .slice (.two 2 (.cl [.str]) (.go 7 (.r .slice) (.go 8 (.cl [.int .i64]) (.tk 9 .p .nil))) 7 (.r .slice) (.go 2 (.cl [.str]) (.go 8 (.cl [.int .i64]) (.tk 9 .p .nil))))))) []))] (.rg 3)))), .seq (.rg 2) (.join [13, 61, 62, 63, 64] [13] [.int .i64] (.cond (.reg (.pp 2 (.op (.cl [.str]) (.op (.cl [.int .i64]) (.op .p .nil))))) .leaf)), .seq (.rg 2) (.cond (.seq (.reg (.op (.ld .agg) (.pp 2 (.op .u (.op .p .nil))))) .leaf) .leaf), .reg (.pp 6 (.op (.ld .agg) (.op .p (.op .u (.op .p .nil)))))] .leaf) Tryz.func30 (by kernel_rfl) (by kernel_rfl) h

theorem amphoraref13_Same_vc (a0a : Option Addr) (a0n : Nat) (a0c : Nat) (a1a : Option Addr) (a1n : Nat) (a1c : Nat) (w : World) (R : Ending → World → Prop) (h : (((a0n : Int) != (a1n : Int)) = true → (R (.returned (.bool false)) w)) ∧ (((a0n : Int) != (a1n : Int)) = false → (∃ (I : Int → World → Prop) (μ : Int → World → Nat), I 0 w ∧ (∀ x5, ∀ w1, I x5 w1 → ((decide (x5 < (a0n : Int)) = true → (∃ S : World → Prop, S w1.drew ∧ (∃ t19b t19o, a0a = some ⟨t19b, t19o, none⟩ ∧ 0 ≤ x5 ∧ x5 < (a0n : Int) ∧ (∃ t23b t23o, a1a = some ⟨t23b, t23o, none⟩ ∧ 0 ≤ x5 ∧ x5 < (a1n : Int) ∧ (∃ t20, (∀ w', S w' → LdQ 75 t19b (t19o + Int.toNat x5 * 35) (.agg t20) w') ∧ (∃ t24, (∀ w', S w' → LdQ 75 t23b (t23o + Int.toNat x5 * 35) (.agg t24) w') ∧ (∃ t25, (∀ w', S w' → (eqlS .neq 75 (.tmp 20) (.tmp 24) (.agg t20) (.agg t24)).run Tryz.prog w' = .ok (.bool t25) w') ∧ ((t25 = true → (R (.returned (.bool false)) w1.drew)) ∧ (t25 = false → (I (IntKind.wrap .i64 (x5 + 1)) w1.drew ∧ μ (IntKind.wrap .i64 (x5 + 1)) w1.drew < μ x5 w1)))))))))) ∧ (decide (x5 < (a0n : Int)) = false → (R (.returned (.bool true)) w1))))))) : Calls Tryz.prog 13 #[(.slice a0a a0n a0c), (.slice a1a a1n a1c)] w R := calls_of_ev2 (tc := .sq [.rg 1, .seq (.rg 5) (.cond (.seq (.rg 1) .leaf) .leaf), .seq (.rg 1) (.blk (.loop (lr [(4, 2), (11, 15)]) [5] [.int .i64] (.sq [.seq (.rg 4) (.cond .leaf .leaf), .blk (.seq (.drawS (.tks [0, 1] (.tk 2 .ix (.tks [4, 5] (.tk 6 .ix (.ts 3 .agg (.ts 7 .agg (.ts 8 .bool .nil))))))) []) (.cond (.seq (.rg 1) .leaf) .leaf))] (.rg 3)))), .rg 1] .leaf) Tryz.func13 (by kernel_rfl) (by kernel_rfl) h

theorem amphoranum_Decimal_vc (a0 : Int) (w : World) (R : Ending → World → Prop) (h : ((a0 == ((-9223372036854775808) : Int)) = true → (R (.returned (.string (ByteArray.mk #[45, 57, 50, 50, 51, 51, 55, 50, 48, 51, 54, 56, 53, 52, 55, 55, 53, 56, 48, 56]))) w)) ∧ ((a0 == ((-9223372036854775808) : Int)) = false → (∃ J : Int → World → Prop, ((decide (a0 < (0 : Int)) = true → (J (IntKind.wrap .i64 (0 - a0)) w)) ∧ (decide (a0 < (0 : Int)) = false → (J a0 w))) ∧ (∀ x0, ∀ w1, J x0 w1 → (∃ (I : Int → ByteArray → World → Prop) (μ : Int → ByteArray → World → Nat), I x0 (ByteArray.mk #[]) w1 ∧ (∀ x0_1 x3, ∀ w2, I x0_1 x3 w2 → ((((x3.toList == (ByteArray.mk #[]).toList) || (decide (x0_1 > (0 : Int)))) = true → (∃ t22a t22n t22c w3, (Instr.buildSlice 33 1 #[(0, (.int .u8 (IntKind.wrap .u8 (IntKind.wrap .i64 ((48 : Int) + (Int.tmod x0_1 (10 : Int)))))))]).run Tryz.prog w2 = .ok (.slice t22a t22n t22c) w3 ∧ (∃ t23, (convert 33 9 (.slice t22a t22n t22c)).run Tryz.prog w3 = .ok (.string t23) w3 ∧ (∃ t25, (eqlS .add 9 (.tmp 23) (.tmp 24) (.string t23) (.string x3)).run Tryz.prog w3 = .ok (.string t25) w3 ∧ (I (IntKind.wrap .i64 (Int.tdiv x0_1 (10 : Int))) t25 w3 ∧ μ (IntKind.wrap .i64 (Int.tdiv x0_1 (10 : Int))) t25 w3 < μ x0_1 x3 w2))))) ∧ (((x3.toList == (ByteArray.mk #[]).toList) || (decide (x0_1 > (0 : Int)))) = false → ((decide (a0 < (0 : Int)) = true → (∃ t30, (eqlS .add 9 (.const (.string (ByteArray.mk #[45]))) (.tmp 29) (.string (ByteArray.mk #[45])) (.string x3)).run Tryz.prog w2 = .ok (.string t30) w2 ∧ (R (.returned (.string t30)) w2))) ∧ (decide (a0 < (0 : Int)) = false → (R (.returned (.string x3)) w2))))))))))) : Calls Tryz.prog 45 #[(.int .i64 a0)] w R := calls_of_ev2 (tc := .sq [.rg 1, .seq (.rg 2) (.cond (.seq (.rg 1) .leaf) .leaf), .rg 1, .rg 3, .seq (.rg 1) (.join [0, 10, 11] [0] [.int .i64] (.cond (.rg 3) .leaf)), .blk (.loop (lr [(0, 1), (3, 1), (12, 16)]) [0, 3] [.int .i64, .str] (.seq (.seq (.reg (.pp 3 (.ap 2 .nil))) (.cond .leaf .leaf)) (.blk (.seq (.reg (.pp 4 (.op (.r .slice) (.op (.ld .str) (.op .p (.op (.ld .str) (.op .p .nil))))))) (.rg 3))))), .seq (.rg 1) (.cond (.seq (.reg (.op .p (.op (.ld .str) (.op .p .nil)))) .leaf) .leaf), .rg 2] .leaf) Tryz.func45 (by kernel_rfl) (by kernel_rfl) h

end Go.Proofs.YtmdandkoajocpaaGreatDoor
end

section
namespace Go.Proofs.YtmdandkoajocpaaGreatDoor
open Go Sx
set_option maxRecDepth 8000

structure RefD where
 id : List UInt8
 pack : Int
 at_ : Int
 len : Int
 idl : id.length = 32
 pk : -9223372036854775808 ≤ pack ∧ pack ≤ 9223372036854775807
 ak : -9223372036854775808 ≤ at_ ∧ at_ ≤ 9223372036854775807
 lk : -9223372036854775808 ≤ len ∧ len ≤ 9223372036854775807
def ref0 : RefD := ⟨List.replicate 32 0, 0, 0, 0, by simp, by omega, by omega, by omega⟩
instance : Inhabited RefD := ⟨ref0⟩
def refC (r : RefD) : List Value := bv r.id ++ [.int .i64 r.pack, .int .i64 r.at_, .int .i64 r.len]
@[simp] theorem refC_len (r : RefD) : (refC r).length = 35 := by simp [refC, r.idl]
theorem refC_one (r : RefD) : ∀ v ∈ refC r, v.oneCell' = true := fun v hv => by
 simp only [refC, List.mem_append, List.mem_cons, List.not_mem_nil, or_false] at hv
 rcases hv with hv | rfl | rfl | rfl
 · exact bv_one _ v hv
 · rfl
 · rfl
 · rfl
theorem RefD.ext {r s : RefD} (h1 : r.id = s.id) (h2 : r.pack = s.pack) (h3 : r.at_ = s.at_) (h4 : r.len = s.len) : r = s := by
 cases r; cases s; simp_all

theorem idA' (w : World) : (isAgg 44).run Tryz.prog w = .ok true w := Tryz.isAgg44 w

theorem idS' (w : World) : (sizeOf 44).run Tryz.prog w = .ok 32 w := Tryz.sizeOf44 w

abbrev Refs := List RefD

theorem rfA (w : World) : (isAgg 75).run Tryz.prog w = .ok true w := Tryz.isAgg75 w

theorem rfS (w : World) : (sizeOf 75).run Tryz.prog w = .ok 35 w := Tryz.sizeOf75 w

theorem inA (w : World) : (isAgg 3).run Tryz.prog w = .ok false w := Tryz.isAgg3 w

section
variable {w0 w w' : World} {X : List Nat}
theorem refFld {M : List Res} {i g : Nat} {T : TypeId} {r : RefD} (h : St w0 X w M) (hi : M[i]? = some (.arr g T (refC r))) :
   (Instr.loadAt 3 (.pointer (some ⟨g, 32, none⟩))).run Tryz.prog w = .ok (.int .i64 r.pack) w ∧ (Instr.loadAt 3 (.pointer (some ⟨g, 33, none⟩))).run Tryz.prog w = .ok (.int .i64 r.at_) w ∧ (Instr.loadAt 3 (.pointer (some ⟨g, 34, none⟩))).run Tryz.prog w = .ok (.int .i64 r.len) w := by
 refine ⟨h.ldL hi (inA _) rfl ?_, h.ldL hi (inA _) rfl ?_, h.ldL hi (inA _) rfl ?_⟩ <;> rw [refC, List.getElem?_append_right (by simp [r.idl])] <;> simp [r.idl]
end

abbrev RdR (w : World) (a : Option Addr) (n c : Nat) (l : Refs) : Prop := RdE refC 35 w a n c l

theorem rfT : ElemT Tryz.prog 34 75 35 56 (.agg (refC ref0).toArray) := ⟨by kernel_rfl, ⟨Tryz.t75, by kernel_rfl, by kernel_rfl, by kernel_rfl, by kernel_rfl⟩, rfl, by decide⟩

theorem sB1' (w : World) : (sizeOf 5).run Tryz.prog w = .ok 1 w := Tryz.sizeOf5 w
theorem ref_fields : ((Tryz.prog.fieldsOf 75).toList.map fun f => (f.type, f.offset)) = [(44, 0), (3, 32), (3, 33), (3, 34)] := by kernel_rfl
theorem ref_names : ((Tryz.prog.fieldsOf 75).toList.all fun f => f.name != "_") = true := by kernel_rfl

def refEqB (r s : RefD) : Bool := decide (r.id = s.id) && ((r.pack == s.pack) && ((r.at_ == s.at_) && ((r.len == s.len) && true)))
theorem refEqB_iff (r s : RefD) : refEqB r s = true ↔ r = s := by
 unfold refEqB
 simp only [Bool.and_true, Bool.and_eq_true, decide_eq_true_eq, beq_iff_eq]
 constructor
 · rintro ⟨h1, h2, h3, h4⟩; exact RefD.ext h1 h2 h3 h4
 · rintro rfl; exact ⟨rfl, rfl, rfl, rfl⟩

theorem eqRefs (x y : Operand) (r s : RefD) (w : World) : (eqlS .eql 75 x y (.agg (refC r).toArray) (.agg (refC s).toArray)).run Tryz.prog w = .ok (.bool (refEqB r s)) w ∧ (eqlS .neq 75 x y (.agg (refC r).toArray) (.agg (refC s).toArray)).run Tryz.prog w = .ok (.bool (!refEqB r s)) w := by
 have hpi : ∀ q : RefD, (part 44 (refC q).toArray 0).run Tryz.prog w = .ok (.agg (bv q.id).toArray) w := fun q => by
   have : (refC q).toArray.extract 0 (0 + 32) = (bv q.id).toArray := by
     apply Array.ext'
     simp only [List.extract_toArray, List.extract_eq_take_drop, List.drop_zero, refC]
     rw [List.take_left']
     simp [q.idl]
   simp only [part, Sem.run_bind, idA', Result.andThen_ok, if_true, idS', Sem.run_pure, this]
 have hpn : ∀ (q : RefD) (o : Nat) (v : Value), (refC q)[o]? = some v → (part 3 (refC q).toArray o).run Tryz.prog w = .ok v w := fun q o v h => by
   simp [part, inA, h]
 have i1 : ∀ q : RefD, (refC q)[32]? = some (.int .i64 q.pack) ∧ (refC q)[33]? = some (.int .i64 q.at_) ∧ (refC q)[34]? = some (.int .i64 q.len) := fun q => by
   refine ⟨?_, ?_, ?_⟩ <;> rw [refC, List.getElem?_append_right (by simp [q.idl])] <;> simp [q.idl]
 have hid : (Op.equalIn 9999 44 (.agg (bv r.id).toArray) (.agg (bv s.id).toArray)).run Tryz.prog w = .ok (decide (r.id = s.id)) w := by
   rw [bv_ints, bv_ints]
   have := eq_arrG (P := Tryz.prog) (d := 9998) (T := 44) Tryz.underlying44 sB1' (fun w => Tryz.isAgg5 w) (fun a b w => by rw [run_equalIn_int w 9997 _ .u8 .u8 a b bE]) (r.id.map fun b => (b.toNat : Int)) (s.id.map fun b => (b.toNat : Int)) (by simp [r.idl]) (by simp [s.idl]) w
   simpa only [bvI_inj] using this
 have hint : ∀ a b : Int, (Op.equalIn 9999 3 (.int .i64 a) (.int .i64 b)).run Tryz.prog w = .ok (a == b) w := fun a b => by rw [run_equalIn_int w 9998 _ .i64 .i64 a b Tryz.underlying3]
 have key : ∀ fs : List Field, (fs.map fun f => (f.type, f.offset)) = [(44, 0), (3, 32), (3, 33), (3, 34)] → (fs.all fun f => f.name != "_") = true → (Op.eqFields 9999 (refC r).toArray (refC s).toArray fs).run Tryz.prog w = .ok (refEqB r s) w := by
   intro fs h1 h2
   rcases fs with _ | ⟨f0, _ | ⟨f1, _ | ⟨f2, _ | ⟨f3, _ | ⟨f4, fs⟩⟩⟩⟩⟩
   case cons.cons.cons.cons.nil =>
     simp only [List.map_cons, List.map_nil, List.cons.injEq, Prod.mk.injEq, and_true] at h1
     simp only [List.all_cons, List.all_nil, Bool.and_true, Bool.and_eq_true, bne_iff_ne] at h2
     obtain ⟨⟨a0, b0⟩, ⟨a1, b1⟩, ⟨a2, b2⟩, a3, b3⟩ := h1
     obtain ⟨n0, n1, n2, n3⟩ := h2
     exact eqFields_step n0 (by rw [a0, b0]; exact hpi r) (by rw [a0, b0]; exact hpi s) (by rw [a0]; exact hid)
       (eqFields_step n1 (by rw [a1, b1]; exact hpn r 32 _ (i1 r).1) (by rw [a1, b1]; exact hpn s 32 _ (i1 s).1) (by rw [a1]; exact hint _ _)
       (eqFields_step n2 (by rw [a2, b2]; exact hpn r 33 _ (i1 r).2.1) (by rw [a2, b2]; exact hpn s 33 _ (i1 s).2.1) (by rw [a2]; exact hint _ _)
       (eqFields_step n3 (by rw [a3, b3]; exact hpn r 34 _ (i1 r).2.2) (by rw [a3, b3]; exact hpn s 34 _ (i1 s).2.2) (by rw [a3]; exact hint _ _) (by simp [Op.eqFields]))))
   all_goals simp at h1
 exact eqS_struct (by kernel_rfl) (by kernel_rfl) (by kernel_rfl) x y (key _ ref_fields ref_names)

theorem rsame13_spec (a : Option Addr) (n c : Nat) (l : Refs) (a2 : Option Addr) (n2 c2 : Nat) (m : Refs) (w : World) (hr : RdR w a n c l) (hr2 : RdR w a2 n2 c2 m) (hb : n ≤ 4611686018427387904) :
   Calls Tryz.prog 13 #[.slice a n c, .slice a2 n2 c2] w fun e w' => (e = .returned (.bool true) ∧ l = m ∨ e = .returned (.bool false) ∧ l ≠ m) ∧ Chg [] w w' := by
 have e1 := hr.num (by decide)
 have e2 := hr2.num (by decide)
 apply amphoraref13_Same_vc
 refine ⟨fun h => ?_, fun h => ?_⟩
 · have hne : l ≠ m := fun e => by subst e; simp at h; omega
   exact ⟨.inr ⟨rfl, hne⟩, Chg.refl _ _⟩
 have hnn : n = n2 := by simp at h; omega
 refine ⟨fun x w' => ∃ i : Nat, x = (i : Int) ∧ i ≤ n ∧ Chg [] w w' ∧ l.take i = m.take i, fun x _ => n - x.toNat, ⟨0, rfl, by omega, Chg.refl _ _, rfl⟩, ?_⟩
 rintro x w1 ⟨i, rfl, hi, hc, ht⟩
 refine ⟨fun h => ?_, fun h => ?_⟩
 · have hi' : i < n := by simp at h; omega
   have hd := hc.trans (Chg.drew [] w1)
   have ha : l[i]? = some l[i] := List.getElem?_eq_getElem (by omega)
   have hb2 : m[i]? = some m[i] := List.getElem?_eq_getElem (by omega)
   obtain ⟨b, o, hab, q⟩ := hr.ld (P := Tryz.prog) (by decide) rfA rfS ha
   obtain ⟨b2, o2, hab2, q2⟩ := hr2.ld (P := Tryz.prog) (by decide) rfA rfS hb2
   refine ⟨fun w' => Chg [] w w', hd, b, o, hab, by omega, by omega, b2, o2, hab2, by omega, by omega, _, fun w' h => q w' (hr.keep0 h), _, fun w' h => q2 w' (hr2.keep0 h), _, fun w' _ => (eqRefs _ _ l[i] m[i] w').2, fun h => ?_, fun h => ?_⟩
   · have hne : l ≠ m := fun e => by
       subst e
       rw [(refEqB_iff _ _).2 rfl] at h
       cases h
     exact ⟨.inr ⟨rfl, hne⟩, hd⟩
   · have he : l[i] = m[i] := (refEqB_iff _ _).1 (by simpa using h)
     refine ⟨⟨i + 1, wrap_succ hi' hb, by omega, hd, ?_⟩, mu_succ hi' hb⟩
     rw [List.take_add_one, List.take_add_one, ht, ha, hb2, he]
 · have hi' : i = n := by simp at h; omega
   rw [hi', List.take_of_length_le (by omega), List.take_of_length_le (by omega)] at ht
   exact ⟨.inl ⟨rfl, ht⟩, hc⟩

theorem rfZ (w : World) : (zeroValue 75).run Tryz.prog w = .ok (.agg (refC ref0).toArray) w := Tryz.zeroValue75 w

theorem built_ref : Tryz.prog.built 75 = fun parts => Instr.fill (fun i => (#[(0, 32), (32, 1), (33, 1), (34, 1)] : Array (Nat × Nat))[i]?) (refC ref0).toArray parts := by kernel_rfl

theorem Sx.St.idRow {w0 w : World} {X : List Nat} {M : List Res} (h : St w0 X w M) {i g : Nat} {T : TypeId} {r : RefD} (hi : M[i]? = some (.arr g T (refC r))) : RdB w (some ⟨g, 0, none⟩) 32 32 r.id := by
 have rng := h.cellsA hi
 refine ⟨.inr ⟨g, 0, rfl, fun j v hj => rng j v ?_⟩, by simp [r.idl], Nat.le_refl _, by simp⟩
 rw [refC, List.getElem?_append_left (List.getElem?_eq_some_iff.1 hj).1]; exact hj

end Go.Proofs.YtmdandkoajocpaaGreatDoor
end

section
namespace Go.Proofs.YtmdandkoajocpaaGreatDoor
open Go Sx
set_option maxRecDepth 8000

def OkI (x : Int) : Prop := -9223372036854775808 ≤ x ∧ x ≤ 9223372036854775807
instance (x : Int) : Decidable (OkI x) := by unfold OkI; infer_instance
def mkRef (id : List UInt8) (p q n : Int) : RefD := if h : id.length = 32 ∧ OkI p ∧ OkI q ∧ OkI n then ⟨id, p, q, n, h.1, h.2.1, h.2.2.1, h.2.2.2⟩ else ref0
theorem refC_mk {id : List UInt8} {p q n : Int} (h : id.length = 32) (hp : OkI p) (hq : OkI q) (hn : OkI n) : refC (mkRef id p q n) = bv id ++ [.int .i64 p, .int .i64 q, .int .i64 n] := by
 rw [mkRef, dif_pos ⟨h, hp, hq, hn⟩]; rfl
abbrev Itm := List UInt8 × List UInt8
def magicL : List UInt8 := [97, 109, 112, 104, 112, 97, 99, 107]
def n64 (x : Int) : Nat := (x % 18446744073709551616).toNat
def headP (num : Int) : List UInt8 := magicL ++ numL (n64 num)
@[simp] theorem headP_len (num : Int) : (headP num).length = 16 := by simp [headP, magicL, numL_len]
def frmT (x : Itm) : List UInt8 := frameL 2 (x.1 ++ x.2)
def refsP (num : Int) : Nat → List Itm → List RefD
 | _, [] => []
 | s, x :: r => mkRef x.1 num (((s + (frmT x).length : Nat) : Int) - ((x.2.length : Nat) : Int)) ((x.2.length : Nat) : Int) :: refsP num (s + (frmT x).length) r
def refBy (r : RefD) : List UInt8 := r.id ++ numL (n64 r.at_) ++ numL (n64 r.len)
@[simp] theorem refBy_len (r : RefD) : (refBy r).length = 48 := by simp [refBy, numL_len, r.idl]
def footL (rs : List RefD) : List UInt8 := rs.flatMap refBy
theorem footL_len : ∀ rs : List RefD, (footL rs).length = 48 * rs.length
 | [] => rfl
 | r :: rs => by
   have := footL_len rs
   rw [footL, List.flatMap_cons, List.length_append, refBy_len, List.length_cons]
   rw [footL] at this
   rw [this]; omega
def footP (K : List UInt8) (num : Int) (rs : List RefD) : List UInt8 := frameL 3 (sealF K 3 (numL (n64 num)) (footL rs))
def piecesP (K : List UInt8) (num : Int) (xs : List Itm) : List (List UInt8) := headP num :: xs.map frmT ++ [footP K num (refsP num 16 xs)]
def buildP (K : List UInt8) (num : Int) (xs : List Itm) : List UInt8 := (piecesP K num xs).flatten
def goodP (num : Int) : Bool := decide (0 ≤ num) && decide (num ≤ 1099511627776)
theorem goodP_iff {num : Int} : goodP num = true ↔ 0 ≤ num ∧ num ≤ 1099511627776 := by simp [goodP]
def sizeP : Nat → List Itm → Nat
 | s, [] => s
 | s, x :: r => sizeP (s + (frmT x).length) r
theorem refsP_len (num : Int) : ∀ (xs : List Itm) (s : Nat), (refsP num s xs).length = xs.length
 | [], _ => rfl
 | x :: r, s => by simp [refsP, refsP_len num r]
theorem sizeP_eq : ∀ (xs : List Itm) (s : Nat), sizeP s xs = s + (xs.map frmT).flatten.length
 | [], s => by simp [sizeP]
 | x :: r, s => by rw [sizeP, sizeP_eq r]; simp; omega
theorem refsP_snoc (num : Int) : ∀ (xs : List Itm) (s : Nat) (x : Itm), refsP num s (xs ++ [x]) = refsP num s xs ++ [mkRef x.1 num (((sizeP s xs + (frmT x).length : Nat) : Int) - ((x.2.length : Nat) : Int)) ((x.2.length : Nat) : Int)]
 | [], s, x => rfl
 | y :: r, s, x => by
   show _ :: refsP num _ (r ++ [x]) = _
   rw [refsP_snoc num r]; rfl
theorem sizeP_snoc : ∀ (xs : List Itm) (s : Nat) (x : Itm), sizeP s (xs ++ [x]) = sizeP s xs + (frmT x).length
 | [], s, x => rfl
 | y :: r, s, x => by
   show sizeP _ (r ++ [x]) = _
   rw [sizeP_snoc r]; rfl

structure ItD where
 id : List UInt8
 a : Option Addr
 n : Nat
 c : Nat
 blob : List UInt8
 idl : id.length = 32
def ItD.t (x : ItD) : Itm := (x.id, x.blob)
def itC (x : ItD) : List Value := bv x.id ++ [.slice x.a x.n x.c]
@[simp] theorem itC_len (x : ItD) : (itC x).length = 33 := by simp [itC, x.idl]
theorem itC_one (x : ItD) : ∀ v ∈ itC x, v.oneCell' = true := fun v hv => by
 simp only [itC, List.mem_append, List.mem_singleton] at hv
 rcases hv with hv | rfl
 · exact bv_one _ v hv
 · rfl
structure ItR (w : World) (a : Option Addr) (n c : Nat) (l : List ItD) : Prop where
 rd : RdE itC 33 w a n c l
 blobs : ∀ x ∈ l, RdB w x.a x.n x.c x.blob
theorem ItR.keep0 {w w' : World} {a : Option Addr} {n c : Nat} {l : List ItD} (h : ItR w a n c l) (hc : Chg [] w w') : ItR w' a n c l := ⟨h.rd.keep0 hc, fun x hx => (h.blobs x hx).keep0 hc⟩

structure SmallI (xs : List Itm) : Prop where
 num : xs.length ≤ 4096
 idl : ∀ x ∈ xs, x.1.length = 32
 sum : (xs.map fun x => x.2.length).sum ≤ 16777216
theorem sum_mem : ∀ {l : List Nat} {x : Nat}, x ∈ l → x ≤ l.sum
 | y :: l, x, h => by
   rw [List.sum_cons]
   rcases List.mem_cons.1 h with rfl | h
   · omega
   · have := sum_mem h; omega
theorem SmallI.blob {xs : List Itm} (h : SmallI xs) {x : Itm} (hx : x ∈ xs) : x.2.length ≤ 16777216 :=
 Nat.le_trans (sum_mem (List.mem_map_of_mem (f := fun x : Itm => x.2.length) hx)) h.sum

end Go.Proofs.YtmdandkoajocpaaGreatDoor
end

section
namespace Go.Proofs.YtmdandkoajocpaaGreatDoor
open Go Go.Proofs.YtmdandkoajocpaaGreatDoor.Sx

set_option maxRecDepth 100000
theorem seal_tag_vc (a0 : Array Value) (a1 : Int) (a2a : Option Addr) (a2n : Nat) (a2c : Nat) (a3a : Option Addr) (a3n : Nat) (a3c : Nat) (a4a : Option Addr) (a4n : Nat) (a4c : Nat) (w : World) (R : Ending → World → Prop) (h : ∃ g5 w1, (Instr.box 28 (.agg a0)).run Tryz.prog w = .ok (.pointer (some ⟨g5, 0, none⟩)) w1 ∧ (∃ g10 w2, AlQ 22 g10 w1 w2 ∧ (0 ≤ (32 : Int) ∧ (32 : Int) ≤ (32 : Int) ∧ (∃ t14a t14n t14c w3, (Instr.buildSlice 33 1 #[(0, (.int .u8 a1))]).run Tryz.prog w2.drew = .ok (.slice t14a t14n t14c) w3 ∧ (∃ t18a t18n t18c w4, (Instr.buildSlice 23 4 #[(0, (.slice t14a t14n t14c)), (1, (.slice a2a a2n a2c)), (2, (.slice a3a a3n a3c)), (3, (.slice a4a a4n a4c))]).run Tryz.prog w3 = .ok (.slice t18a t18n t18c) w4 ∧ (Calls Tryz.prog 121 #[(.slice t18a t18n t18c)] w4 fun e19 w5 => ∃ t19a t19n t19c, e19 = .returned (.slice t19a t19n t19c) ∧ (∃ t20a t20n t20c w6, (Instr.buildSlice 23 1 #[(0, (.slice t19a t19n t19c))]).run Tryz.prog w5 = .ok (.slice t20a t20n t20c) w6 ∧ (Calls Tryz.prog 120 #[(.slice (some ⟨g5, 32, none⟩) (32) 32), (.slice t20a t20n t20c)] w6 fun e21 w7 => ∃ t21, e21 = .returned (.agg t21) ∧ (∃ w8, StQ 22 g10 0 (.agg t21) w7 w8 ∧ (∃ r10, (loadVar 22 ⟨g10, 0, none⟩).run Tryz.prog w8 = .ok r10 w8 ∧ (R (.returned r10) w8))))))))))) : Calls Tryz.prog 91 #[(.agg a0), (.int .u8 a1), (.slice a2a a2n a2c), (.slice a3a a3n a3c), (.slice a4a a4n a4c)] w R := calls_of_ev2 (tc := .sq [.reg (.op .bx (.op .bx .nil)), .draw (.tk 0 .p (.tk 1 .sl (.tks [2, 4, 5, 6] (.go 3 (.r .slice) (.go 7 (.r .slice) (.go 8 (.cl [.slice]) (.go 9 (.r .slice) (.go 10 (.cl [.agg]) (.go 11 .u .nil))))))))) (lr [(0, 12)])] .leaf) Tryz.func91 (by kernel_rfl) (by kernel_rfl) h

theorem seal_over_vc (a0 : Array Value) (a1a : Option Addr) (a1n : Nat) (a1c : Nat) (a2a : Option Addr) (a2n : Nat) (a2c : Nat) (w : World) (R : Ending → World → Prop) (h : ∃ g3 w1, (Instr.box 28 (.agg a0)).run Tryz.prog w = .ok (.pointer (some ⟨g3, 0, none⟩)) w1 ∧ (∃ g7 w2, AlQ 187 g7 w1 w2 ∧ (0 ≤ (12 : Int) ∧ (12 : Int) ≤ (12 : Int) ∧ (∃ t12 w3, (Builtin.copy_ #[33, 33] 3 #[(.slice (some ⟨g7, 0, none⟩) (12) 12), (.slice a1a a1n a1c)]).run Tryz.prog w2 = .ok (.int .i64 t12) w3 ∧ (∃ t15, LdQ 22 g3 0 (.agg t15) w3 ∧ (∃ t16, LdQ 187 g7 0 (.agg t16) w3 ∧ (Calls Tryz.prog 122 #[(.agg t15), (.agg t16), (.int .i64 0), (.slice a2a a2n a2c)] w3 fun e18 w4 => ∃ t18_0a t18_0n t18_0c t18_1, e18 = .returned (.tuple #[(.slice t18_0a t18_0n t18_0c), t18_1]) ∧ (R (.returned (.slice t18_0a t18_0n t18_0c)) w4)))))))) : Calls Tryz.prog 93 #[(.agg a0), (.slice a1a a1n a1c), (.slice a2a a2n a2c)] w R := calls_of_ev2 (tc := .sq [.reg (.op .bx (.op .p .nil)), .reg (.op .bx .nil), .reg (.op .sl (.op .p (.op (.r (.int .i64)) .nil))), .reg (.op .p (.op (.ld .agg) (.op (.ld .agg) (.op .p (.op (.cl [.slice, .val]) (.pp 5 .nil)))))), .rg 2] .leaf) Tryz.func93 (by kernel_rfl) (by kernel_rfl) h

theorem seal_Seal_vc (a0 : Array Value) (a1 : Int) (a2a : Option Addr) (a2n : Nat) (a2c : Nat) (a3a : Option Addr) (a3n : Nat) (a3c : Nat) (w : World) (R : Ending → World → Prop) (h : ∃ g4 w1, (Instr.box 28 (.agg a0)).run Tryz.prog w = .ok (.pointer (some ⟨g4, 0, none⟩)) w1 ∧ (0 ≤ (32 : Int) ∧ (32 : Int) ≤ (32 : Int) ∧ ((∃ t17a t17n t17c w2, (Instr.buildSlice 33 1 #[(0, (.int .u8 a1))]).run Tryz.prog w1.drew = .ok (.slice t17a t17n t17c) w2 ∧ ((∃ t20a t20n t20c w3, (Instr.buildSlice 23 3 #[(0, (.slice t17a t17n t17c)), (1, (.slice a2a a2n a2c)), (2, (.slice a3a a3n a3c))]).run Tryz.prog w2 = .ok (.slice t20a t20n t20c) w3 ∧ ((Calls Tryz.prog 121 #[(.slice t20a t20n t20c)] w3 fun e21 w4 => ∃ t21a t21n t21c, e21 = .returned (.slice t21a t21n t21c) ∧ ((∃ t22a t22n t22c w5, (Instr.buildSlice 23 1 #[(0, (.slice t21a t21n t21c))]).run Tryz.prog w4 = .ok (.slice t22a t22n t22c) w5 ∧ ((Calls Tryz.prog 120 #[(.slice (some ⟨g4, 64, none⟩) (32) 32), (.slice t22a t22n t22c)] w5 fun e23 w6 => ∃ t23, e23 = .returned (.agg t23) ∧ (∃ g9 w7, AlQ 22 g9 w6 w7 ∧ (∃ w8, StQ 22 g9 0 (.agg t23) w7 w8 ∧ (0 ≤ (12 : Int) ∧ (12 : Int) ≤ (32 : Int) ∧ (∃ t25, LdQ 28 g4 0 (.agg t25) w8 ∧ (Calls Tryz.prog 93 #[(.agg t25), (.slice (some ⟨g9, 0, none⟩) 12 32), (.slice a3a a3n a3c)] w8 fun e28 w9 => ∃ t28a t28n t28c, e28 = .returned (.slice t28a t28n t28c) ∧ (∃ t29, LdQ 28 g4 0 (.agg t29) w9 ∧ (Calls Tryz.prog 91 #[(.agg t29), (.int .u8 a1), (.slice a2a a2n a2c), (.slice (some ⟨g9, 0, none⟩) 12 32), (.slice t28a t28n t28c)] w9 fun e34 w10 => ∃ t34, e34 = .returned (.agg t34) ∧ (∃ g12 w11, AlQ 22 g12 w10 w11 ∧ (∃ w12, StQ 22 g12 0 (.agg t34) w11 w12 ∧ (∃ t38a t38n t38c w13, (Instr.makeSlice 33 (.int .i64 0) (.int .i64 (IntKind.wrap .i64 ((45 : Int) + (a3n : Int))))).run Tryz.prog w12 = .ok (.slice t38a t38n t38c) w13 ∧ (∃ t40a t40n t40c w14, (Instr.buildSlice 33 1 #[(0, (.int .u8 a1))]).run Tryz.prog w13 = .ok (.slice t40a t40n t40c) w14 ∧ (∃ t41a t41n t41c w15, (Builtin.append_ #[33, 33] 33 #[(.slice t38a t38n t38c), (.slice t40a t40n t40c)]).run Tryz.prog w14 = .ok (.slice t41a t41n t41c) w15 ∧ (∃ t44a t44n t44c w16, (Builtin.append_ #[33, 33] 33 #[(.slice t41a t41n t41c), (.slice (some ⟨g9, 0, none⟩) 12 32)]).run Tryz.prog w15 = .ok (.slice t44a t44n t44c) w16 ∧ (∃ t47a t47n t47c w17, (Builtin.append_ #[33, 33] 33 #[(.slice t44a t44n t44c), (.slice t28a t28n t28c)]).run Tryz.prog w16 = .ok (.slice t47a t47n t47c) w17 ∧ (0 ≤ (32 : Int) ∧ (32 : Int) ≤ (32 : Int) ∧ (∃ t50a t50n t50c w18, (Builtin.append_ #[33, 33] 33 #[(.slice t47a t47n t47c), (.slice (some ⟨g12, 0, none⟩) (32) 32)]).run Tryz.prog w17 = .ok (.slice t50a t50n t50c) w18 ∧ (R (.returned (.slice t50a t50n t50c)) w18)))))))))))))))))) ∧ (∃ g9 w19, AlQ 22 g9 w5 w19 ∧ (Calls Tryz.prog 120 #[(.slice (some ⟨g4, 64, none⟩) (32) 32), (.slice t22a t22n t22c)] w19 fun e23 w20 => ∃ t23, e23 = .returned (.agg t23) ∧ (∃ w21, StQ 22 g9 0 (.agg t23) w20 w21 ∧ (0 ≤ (12 : Int) ∧ (12 : Int) ≤ (32 : Int) ∧ (∃ t25, LdQ 28 g4 0 (.agg t25) w21 ∧ (Calls Tryz.prog 93 #[(.agg t25), (.slice (some ⟨g9, 0, none⟩) 12 32), (.slice a3a a3n a3c)] w21 fun e28 w22 => ∃ t28a t28n t28c, e28 = .returned (.slice t28a t28n t28c) ∧ (∃ t29, LdQ 28 g4 0 (.agg t29) w22 ∧ (Calls Tryz.prog 91 #[(.agg t29), (.int .u8 a1), (.slice a2a a2n a2c), (.slice (some ⟨g9, 0, none⟩) 12 32), (.slice t28a t28n t28c)] w22 fun e34 w23 => ∃ t34, e34 = .returned (.agg t34) ∧ (∃ g12 w24, AlQ 22 g12 w23 w24 ∧ (∃ w25, StQ 22 g12 0 (.agg t34) w24 w25 ∧ (∃ t38a t38n t38c w26, (Instr.makeSlice 33 (.int .i64 0) (.int .i64 (IntKind.wrap .i64 ((45 : Int) + (a3n : Int))))).run Tryz.prog w25 = .ok (.slice t38a t38n t38c) w26 ∧ (∃ t40a t40n t40c w27, (Instr.buildSlice 33 1 #[(0, (.int .u8 a1))]).run Tryz.prog w26 = .ok (.slice t40a t40n t40c) w27 ∧ (∃ t41a t41n t41c w28, (Builtin.append_ #[33, 33] 33 #[(.slice t38a t38n t38c), (.slice t40a t40n t40c)]).run Tryz.prog w27 = .ok (.slice t41a t41n t41c) w28 ∧ (∃ t44a t44n t44c w29, (Builtin.append_ #[33, 33] 33 #[(.slice t41a t41n t41c), (.slice (some ⟨g9, 0, none⟩) 12 32)]).run Tryz.prog w28 = .ok (.slice t44a t44n t44c) w29 ∧ (∃ t47a t47n t47c w30, (Builtin.append_ #[33, 33] 33 #[(.slice t44a t44n t44c), (.slice t28a t28n t28c)]).run Tryz.prog w29 = .ok (.slice t47a t47n t47c) w30 ∧ (0 ≤ (32 : Int) ∧ (32 : Int) ≤ (32 : Int) ∧ (∃ t50a t50n t50c w31, (Builtin.append_ #[33, 33] 33 #[(.slice t47a t47n t47c), (.slice (some ⟨g12, 0, none⟩) (32) 32)]).run Tryz.prog w30 = .ok (.slice t50a t50n t50c) w31 ∧ (R (.returned (.slice t50a t50n t50c)) w31)))))))))))))))))))) ∧ (∃ g9 w32, AlQ 22 g9 w4 w32 ∧ (∃ t22a t22n t22c w33, (Instr.buildSlice 23 1 #[(0, (.slice t21a t21n t21c))]).run Tryz.prog w32 = .ok (.slice t22a t22n t22c) w33 ∧ (Calls Tryz.prog 120 #[(.slice (some ⟨g4, 64, none⟩) (32) 32), (.slice t22a t22n t22c)] w33 fun e23 w34 => ∃ t23, e23 = .returned (.agg t23) ∧ (∃ w35, StQ 22 g9 0 (.agg t23) w34 w35 ∧ (0 ≤ (12 : Int) ∧ (12 : Int) ≤ (32 : Int) ∧ (∃ t25, LdQ 28 g4 0 (.agg t25) w35 ∧ (Calls Tryz.prog 93 #[(.agg t25), (.slice (some ⟨g9, 0, none⟩) 12 32), (.slice a3a a3n a3c)] w35 fun e28 w36 => ∃ t28a t28n t28c, e28 = .returned (.slice t28a t28n t28c) ∧ (∃ t29, LdQ 28 g4 0 (.agg t29) w36 ∧ (Calls Tryz.prog 91 #[(.agg t29), (.int .u8 a1), (.slice a2a a2n a2c), (.slice (some ⟨g9, 0, none⟩) 12 32), (.slice t28a t28n t28c)] w36 fun e34 w37 => ∃ t34, e34 = .returned (.agg t34) ∧ (∃ g12 w38, AlQ 22 g12 w37 w38 ∧ (∃ w39, StQ 22 g12 0 (.agg t34) w38 w39 ∧ (∃ t38a t38n t38c w40, (Instr.makeSlice 33 (.int .i64 0) (.int .i64 (IntKind.wrap .i64 ((45 : Int) + (a3n : Int))))).run Tryz.prog w39 = .ok (.slice t38a t38n t38c) w40 ∧ (∃ t40a t40n t40c w41, (Instr.buildSlice 33 1 #[(0, (.int .u8 a1))]).run Tryz.prog w40 = .ok (.slice t40a t40n t40c) w41 ∧ (∃ t41a t41n t41c w42, (Builtin.append_ #[33, 33] 33 #[(.slice t38a t38n t38c), (.slice t40a t40n t40c)]).run Tryz.prog w41 = .ok (.slice t41a t41n t41c) w42 ∧ (∃ t44a t44n t44c w43, (Builtin.append_ #[33, 33] 33 #[(.slice t41a t41n t41c), (.slice (some ⟨g9, 0, none⟩) 12 32)]).run Tryz.prog w42 = .ok (.slice t44a t44n t44c) w43 ∧ (∃ t47a t47n t47c w44, (Builtin.append_ #[33, 33] 33 #[(.slice t44a t44n t44c), (.slice t28a t28n t28c)]).run Tryz.prog w43 = .ok (.slice t47a t47n t47c) w44 ∧ (0 ≤ (32 : Int) ∧ (32 : Int) ≤ (32 : Int) ∧ (∃ t50a t50n t50c w45, (Builtin.append_ #[33, 33] 33 #[(.slice t47a t47n t47c), (.slice (some ⟨g12, 0, none⟩) (32) 32)]).run Tryz.prog w44 = .ok (.slice t50a t50n t50c) w45 ∧ (R (.returned (.slice t50a t50n t50c)) w45))))))))))))))))))))) ∧ (∃ g9 w46, AlQ 22 g9 w3 w46 ∧ (Calls Tryz.prog 121 #[(.slice t20a t20n t20c)] w46 fun e21 w47 => ∃ t21a t21n t21c, e21 = .returned (.slice t21a t21n t21c) ∧ (∃ t22a t22n t22c w48, (Instr.buildSlice 23 1 #[(0, (.slice t21a t21n t21c))]).run Tryz.prog w47 = .ok (.slice t22a t22n t22c) w48 ∧ (Calls Tryz.prog 120 #[(.slice (some ⟨g4, 64, none⟩) (32) 32), (.slice t22a t22n t22c)] w48 fun e23 w49 => ∃ t23, e23 = .returned (.agg t23) ∧ (∃ w50, StQ 22 g9 0 (.agg t23) w49 w50 ∧ (0 ≤ (12 : Int) ∧ (12 : Int) ≤ (32 : Int) ∧ (∃ t25, LdQ 28 g4 0 (.agg t25) w50 ∧ (Calls Tryz.prog 93 #[(.agg t25), (.slice (some ⟨g9, 0, none⟩) 12 32), (.slice a3a a3n a3c)] w50 fun e28 w51 => ∃ t28a t28n t28c, e28 = .returned (.slice t28a t28n t28c) ∧ (∃ t29, LdQ 28 g4 0 (.agg t29) w51 ∧ (Calls Tryz.prog 91 #[(.agg t29), (.int .u8 a1), (.slice a2a a2n a2c), (.slice (some ⟨g9, 0, none⟩) 12 32), (.slice t28a t28n t28c)] w51 fun e34 w52 => ∃ t34, e34 = .returned (.agg t34) ∧ (∃ g12 w53, AlQ 22 g12 w52 w53 ∧ (∃ w54, StQ 22 g12 0 (.agg t34) w53 w54 ∧ (∃ t38a t38n t38c w55, (Instr.makeSlice 33 (.int .i64 0) (.int .i64 (IntKind.wrap .i64 ((45 : Int) + (a3n : Int))))).run Tryz.prog w54 = .ok (.slice t38a t38n t38c) w55 ∧ (∃ t40a t40n t40c w56, (Instr.buildSlice 33 1 #[(0, (.int .u8 a1))]).run Tryz.prog w55 = .ok (.slice t40a t40n t40c) w56 ∧ (∃ t41a t41n t41c w57, (Builtin.append_ #[33, 33] 33 #[(.slice t38a t38n t38c), (.slice t40a t40n t40c)]).run Tryz.prog w56 = .ok (.slice t41a t41n t41c) w57 ∧ (∃ t44a t44n t44c w58, (Builtin.append_ #[33, 33] 33 #[(.slice t41a t41n t41c), (.slice (some ⟨g9, 0, none⟩) 12 32)]).run Tryz.prog w57 = .ok (.slice t44a t44n t44c) w58 ∧ (∃ t47a t47n t47c w59, (Builtin.append_ #[33, 33] 33 #[(.slice t44a t44n t44c), (.slice t28a t28n t28c)]).run Tryz.prog w58 = .ok (.slice t47a t47n t47c) w59 ∧ (0 ≤ (32 : Int) ∧ (32 : Int) ≤ (32 : Int) ∧ (∃ t50a t50n t50c w60, (Builtin.append_ #[33, 33] 33 #[(.slice t47a t47n t47c), (.slice (some ⟨g12, 0, none⟩) (32) 32)]).run Tryz.prog w59 = .ok (.slice t50a t50n t50c) w60 ∧ (R (.returned (.slice t50a t50n t50c)) w60)))))))))))))))))))))) ∧ (∃ g9 w61, AlQ 22 g9 w2 w61 ∧ (∃ t20a t20n t20c w62, (Instr.buildSlice 23 3 #[(0, (.slice t17a t17n t17c)), (1, (.slice a2a a2n a2c)), (2, (.slice a3a a3n a3c))]).run Tryz.prog w61 = .ok (.slice t20a t20n t20c) w62 ∧ (Calls Tryz.prog 121 #[(.slice t20a t20n t20c)] w62 fun e21 w63 => ∃ t21a t21n t21c, e21 = .returned (.slice t21a t21n t21c) ∧ (∃ t22a t22n t22c w64, (Instr.buildSlice 23 1 #[(0, (.slice t21a t21n t21c))]).run Tryz.prog w63 = .ok (.slice t22a t22n t22c) w64 ∧ (Calls Tryz.prog 120 #[(.slice (some ⟨g4, 64, none⟩) (32) 32), (.slice t22a t22n t22c)] w64 fun e23 w65 => ∃ t23, e23 = .returned (.agg t23) ∧ (∃ w66, StQ 22 g9 0 (.agg t23) w65 w66 ∧ (0 ≤ (12 : Int) ∧ (12 : Int) ≤ (32 : Int) ∧ (∃ t25, LdQ 28 g4 0 (.agg t25) w66 ∧ (Calls Tryz.prog 93 #[(.agg t25), (.slice (some ⟨g9, 0, none⟩) 12 32), (.slice a3a a3n a3c)] w66 fun e28 w67 => ∃ t28a t28n t28c, e28 = .returned (.slice t28a t28n t28c) ∧ (∃ t29, LdQ 28 g4 0 (.agg t29) w67 ∧ (Calls Tryz.prog 91 #[(.agg t29), (.int .u8 a1), (.slice a2a a2n a2c), (.slice (some ⟨g9, 0, none⟩) 12 32), (.slice t28a t28n t28c)] w67 fun e34 w68 => ∃ t34, e34 = .returned (.agg t34) ∧ (∃ g12 w69, AlQ 22 g12 w68 w69 ∧ (∃ w70, StQ 22 g12 0 (.agg t34) w69 w70 ∧ (∃ t38a t38n t38c w71, (Instr.makeSlice 33 (.int .i64 0) (.int .i64 (IntKind.wrap .i64 ((45 : Int) + (a3n : Int))))).run Tryz.prog w70 = .ok (.slice t38a t38n t38c) w71 ∧ (∃ t40a t40n t40c w72, (Instr.buildSlice 33 1 #[(0, (.int .u8 a1))]).run Tryz.prog w71 = .ok (.slice t40a t40n t40c) w72 ∧ (∃ t41a t41n t41c w73, (Builtin.append_ #[33, 33] 33 #[(.slice t38a t38n t38c), (.slice t40a t40n t40c)]).run Tryz.prog w72 = .ok (.slice t41a t41n t41c) w73 ∧ (∃ t44a t44n t44c w74, (Builtin.append_ #[33, 33] 33 #[(.slice t41a t41n t41c), (.slice (some ⟨g9, 0, none⟩) 12 32)]).run Tryz.prog w73 = .ok (.slice t44a t44n t44c) w74 ∧ (∃ t47a t47n t47c w75, (Builtin.append_ #[33, 33] 33 #[(.slice t44a t44n t44c), (.slice t28a t28n t28c)]).run Tryz.prog w74 = .ok (.slice t47a t47n t47c) w75 ∧ (0 ≤ (32 : Int) ∧ (32 : Int) ≤ (32 : Int) ∧ (∃ t50a t50n t50c w76, (Builtin.append_ #[33, 33] 33 #[(.slice t47a t47n t47c), (.slice (some ⟨g12, 0, none⟩) (32) 32)]).run Tryz.prog w75 = .ok (.slice t50a t50n t50c) w76 ∧ (R (.returned (.slice t50a t50n t50c)) w76))))))))))))))))))))))) ∧ (∃ g9 w77, AlQ 22 g9 w1.drew w77 ∧ (∃ t17a t17n t17c w78, (Instr.buildSlice 33 1 #[(0, (.int .u8 a1))]).run Tryz.prog w77 = .ok (.slice t17a t17n t17c) w78 ∧ (∃ t20a t20n t20c w79, (Instr.buildSlice 23 3 #[(0, (.slice t17a t17n t17c)), (1, (.slice a2a a2n a2c)), (2, (.slice a3a a3n a3c))]).run Tryz.prog w78 = .ok (.slice t20a t20n t20c) w79 ∧ (Calls Tryz.prog 121 #[(.slice t20a t20n t20c)] w79 fun e21 w80 => ∃ t21a t21n t21c, e21 = .returned (.slice t21a t21n t21c) ∧ (∃ t22a t22n t22c w81, (Instr.buildSlice 23 1 #[(0, (.slice t21a t21n t21c))]).run Tryz.prog w80 = .ok (.slice t22a t22n t22c) w81 ∧ (Calls Tryz.prog 120 #[(.slice (some ⟨g4, 64, none⟩) (32) 32), (.slice t22a t22n t22c)] w81 fun e23 w82 => ∃ t23, e23 = .returned (.agg t23) ∧ (∃ w83, StQ 22 g9 0 (.agg t23) w82 w83 ∧ (0 ≤ (12 : Int) ∧ (12 : Int) ≤ (32 : Int) ∧ (∃ t25, LdQ 28 g4 0 (.agg t25) w83 ∧ (Calls Tryz.prog 93 #[(.agg t25), (.slice (some ⟨g9, 0, none⟩) 12 32), (.slice a3a a3n a3c)] w83 fun e28 w84 => ∃ t28a t28n t28c, e28 = .returned (.slice t28a t28n t28c) ∧ (∃ t29, LdQ 28 g4 0 (.agg t29) w84 ∧ (Calls Tryz.prog 91 #[(.agg t29), (.int .u8 a1), (.slice a2a a2n a2c), (.slice (some ⟨g9, 0, none⟩) 12 32), (.slice t28a t28n t28c)] w84 fun e34 w85 => ∃ t34, e34 = .returned (.agg t34) ∧ (∃ g12 w86, AlQ 22 g12 w85 w86 ∧ (∃ w87, StQ 22 g12 0 (.agg t34) w86 w87 ∧ (∃ t38a t38n t38c w88, (Instr.makeSlice 33 (.int .i64 0) (.int .i64 (IntKind.wrap .i64 ((45 : Int) + (a3n : Int))))).run Tryz.prog w87 = .ok (.slice t38a t38n t38c) w88 ∧ (∃ t40a t40n t40c w89, (Instr.buildSlice 33 1 #[(0, (.int .u8 a1))]).run Tryz.prog w88 = .ok (.slice t40a t40n t40c) w89 ∧ (∃ t41a t41n t41c w90, (Builtin.append_ #[33, 33] 33 #[(.slice t38a t38n t38c), (.slice t40a t40n t40c)]).run Tryz.prog w89 = .ok (.slice t41a t41n t41c) w90 ∧ (∃ t44a t44n t44c w91, (Builtin.append_ #[33, 33] 33 #[(.slice t41a t41n t41c), (.slice (some ⟨g9, 0, none⟩) 12 32)]).run Tryz.prog w90 = .ok (.slice t44a t44n t44c) w91 ∧ (∃ t47a t47n t47c w92, (Builtin.append_ #[33, 33] 33 #[(.slice t44a t44n t44c), (.slice t28a t28n t28c)]).run Tryz.prog w91 = .ok (.slice t47a t47n t47c) w92 ∧ (0 ≤ (32 : Int) ∧ (32 : Int) ≤ (32 : Int) ∧ (∃ t50a t50n t50c w93, (Builtin.append_ #[33, 33] 33 #[(.slice t47a t47n t47c), (.slice (some ⟨g12, 0, none⟩) (32) 32)]).run Tryz.prog w92 = .ok (.slice t50a t50n t50c) w93 ∧ (R (.returned (.slice t50a t50n t50c)) w93))))))))))))))))))))))))) : Calls Tryz.prog 104 #[(.agg a0), (.int .u8 a1), (.slice a2a a2n a2c), (.slice a3a a3n a3c)] w R := calls_of_ev2 (tc := .sq [.reg (.op .bx (.op .p .nil)), .draw (.tk 0 .p (.tk 1 .sl (.tks [2, 4, 5] (.two 3 (.r .slice) (.two 6 (.r .slice) (.two 7 (.cl [.slice]) (.two 8 (.r .slice) (.two 9 (.cl [.agg]) (.go 10 .bx (.go 11 .u .nil)) 10 .bx (.go 9 (.cl [.agg]) (.go 11 .u .nil))) 10 .bx (.go 8 (.r .slice) (.go 9 (.cl [.agg]) (.go 11 .u .nil)))) 10 .bx (.go 7 (.cl [.slice]) (.go 8 (.r .slice) (.go 9 (.cl [.agg]) (.go 11 .u .nil))))) 10 .bx (.go 6 (.r .slice) (.go 7 (.cl [.slice]) (.go 8 (.r .slice) (.go 9 (.cl [.agg]) (.go 11 .u .nil)))))) 10 .bx (.go 3 (.r .slice) (.go 6 (.r .slice) (.go 7 (.cl [.slice]) (.go 8 (.r .slice) (.go 9 (.cl [.agg]) (.go 11 .u .nil)))))))))) (lr [(0, 12)]), .reg (.op .sl (.op .p .nil)), .reg (.op (.ld .agg) (.pp 2 (.op (.cl [.slice]) (.op .p .nil)))), .reg (.op (.ld .agg) (.pp 4 (.op (.cl [.agg]) (.op .bx (.op .u .nil))))), .reg (.pp 3 (.op (.r .slice) (.op .p (.op (.r .slice) (.op (.r .slice) (.op .p .nil)))))), .reg (.pp 2 (.op (.r .slice) (.op .p .nil))), .reg (.pp 2 (.op (.r .slice) (.op .p .nil))), .reg (.op .p (.op .sl (.op (.r .slice) (.op .p .nil))))] .leaf) Tryz.func104 (by kernel_rfl) (by kernel_rfl) h

theorem seal_Open_vc (a0 : Array Value) (a1 : Int) (a2a : Option Addr) (a2n : Nat) (a2c : Nat) (a3a : Option Addr) (a3n : Nat) (a3c : Nat) (w : World) (R : Ending → World → Prop) (h : ∃ g4 w1, (Instr.box 28 (.agg a0)).run Tryz.prog w = .ok (.pointer (some ⟨g4, 0, none⟩)) w1 ∧ (∃ J : Bool → World → Prop, ((decide ((a3n : Int) < (45 : Int)) = true → (J true w1)) ∧ (decide ((a3n : Int) < (45 : Int)) = false → (∃ t19b t19o, a3a = some ⟨t19b, t19o, none⟩ ∧ 0 ≤ (0 : Int) ∧ (0 : Int) < (a3n : Int) ∧ (∃ t20, LdQ 5 t19b (t19o + Int.toNat (0 : Int) * 1) (.int .u8 t20) w1 ∧ (J (t20 != a1) w1))))) ∧ (∀ x23, ∀ w2, J x23 w2 → ((x23 = true → (R (.returned (.tuple #[(.slice none 0 0), (.iface 69 (.int .i64 10))])) w2)) ∧ (x23 = false → (0 ≤ (1 : Int) ∧ (1 : Int) ≤ (13 : Int) ∧ (13 : Int) ≤ (a3c : Int) ∧ ∀ t29a, SubA 1 a3a 1 a3c t29a → (0 ≤ (13 : Int) ∧ (13 : Int) ≤ (IntKind.wrap .i64 ((a3n : Int) - (32 : Int))) ∧ (IntKind.wrap .i64 ((a3n : Int) - (32 : Int))) ≤ (a3c : Int) ∧ ∀ t32a, SubA 1 a3a 13 a3c t32a → (∃ t33, LdQ 28 g4 0 (.agg t33) w2.drew ∧ (Calls Tryz.prog 91 #[(.agg t33), (.int .u8 a1), (.slice a2a a2n a2c), (.slice t29a 12 (a3c - 1)), (.slice t32a ((Int.toNat (IntKind.wrap .i64 ((a3n : Int) - (32 : Int)))) - 13) (a3c - 13))] w2.drew fun e38 w3 => ∃ t38, e38 = .returned (.agg t38) ∧ (∃ g13 w4, AlQ 22 g13 w3 w4 ∧ (∃ w5, StQ 22 g13 0 (.agg t38) w4 w5 ∧ (0 ≤ (32 : Int) ∧ (32 : Int) ≤ (32 : Int) ∧ (0 ≤ (IntKind.wrap .i64 ((a3n : Int) - (32 : Int))) ∧ (IntKind.wrap .i64 ((a3n : Int) - (32 : Int))) ≤ (a3n : Int) ∧ (a3n : Int) ≤ (a3c : Int) ∧ ∀ t42a, SubA 1 a3a (Int.toNat (IntKind.wrap .i64 ((a3n : Int) - (32 : Int)))) a3c t42a → (Calls Tryz.prog 92 #[(.slice (some ⟨g13, 0, none⟩) (32) 32), (.slice t42a ((a3n) - (Int.toNat (IntKind.wrap .i64 ((a3n : Int) - (32 : Int))))) (a3c - (Int.toNat (IntKind.wrap .i64 ((a3n : Int) - (32 : Int))))))] w5.drew fun e43 w6 => ∃ t43, e43 = .returned (.bool t43) ∧ (((!t43) = true → (R (.returned (.tuple #[(.slice none 0 0), (.iface 69 (.int .i64 10))])) w6)) ∧ ((!t43) = false → (∃ t46, LdQ 28 g4 0 (.agg t46) w6 ∧ (Calls Tryz.prog 93 #[(.agg t46), (.slice t29a 12 (a3c - 1)), (.slice t32a ((Int.toNat (IntKind.wrap .i64 ((a3n : Int) - (32 : Int)))) - 13) (a3c - 13))] w6 fun e49 w7 => ∃ t49a t49n t49c, e49 = .returned (.slice t49a t49n t49c) ∧ (R (.returned (.tuple #[(.slice t49a t49n t49c), .nilIface])) w7))))))))))))))))))) : Calls Tryz.prog 57 #[(.agg a0), (.int .u8 a1), (.slice a2a a2n a2c), (.slice a3a a3n a3c)] w R := calls_of_ev2 (tc := .sq [.reg (.op .bx (.pp 2 .nil)), .seq (.join (lr [(14, 10)]) [23] [.bool] (.reg (.pp 4 (.sp 17 (.pp 6 .nil) (.op .p (.op .ix (.op (.ld (.int .u8)) (.pp 3 .nil)))))))) (.cond (.seq (.rg 3) .leaf) .leaf), .rg 4, .draw (.tk 0 .p (.tk 1 .sl (.tks [2, 3] (.tk 4 .sl (.tks [5, 6] .nil))))) (lr [(0, 7)]), .reg (.op (.ld .agg) (.pp 4 (.op (.cl [.agg]) (.op .bx (.op .u .nil))))), .seq (.draw (.tk 0 .sl (.tks [1, 2] (.tk 3 .sl (.go 4 (.cl [.bool]) (.tk 5 .p .nil))))) (lr [(0, 6)])) (.cond (.seq (.rg 3) .leaf) .leaf), .reg (.op (.ld .agg) (.pp 2 (.op (.cl [.slice]) (.pp 2 .nil))))] .leaf) Tryz.func57 (by kernel_rfl) (by kernel_rfl) h

theorem amphoraref05_derived_vc (a0a : Option Addr) (a0n : Nat) (a0c : Nat) (a1a : Option Addr) (a1n : Nat) (a1c : Nat) (a2 : ByteArray) (w : World) (R : Ending → World → Prop) (h : ∃ g6 w1, AlQ 22 g6 w w1 ∧ (∃ t11, (Instr.build 22 #[]).run Tryz.prog w1 = .ok (.agg t11) w1 ∧ (∃ g7 w2, AlQ 22 g7 w1 w2 ∧ (∃ w3, StQ 22 g7 0 (.agg t11) w2 w3 ∧ (∃ t16a t16n t16c w4, (convert 9 33 (.string a2)).run Tryz.prog w3 = .ok (.slice t16a t16n t16c) w4 ∧ (Calls Tryz.prog 69 #[(.slice a0a a0n a0c), (.slice a1a a1n a1c), (.slice t16a t16n t16c), (.int .i64 32)] w4 fun e17 w5 => ∃ t17_0a t17_0n t17_0c t17_1, e17 = .returned (.tuple #[(.slice t17_0a t17_0n t17_0c), (.int .i64 t17_1)]) ∧ (∃ (I : Int → World → Prop) (μ : Int → World → Nat), I 0 w5 ∧ (∀ x10, ∀ w6, I x10 w6 → ((decide (x10 < (32 : Int)) = true → (∃ t27b t27o, t17_0a = some ⟨t27b, t27o, none⟩ ∧ 0 ≤ x10 ∧ x10 < (t17_0n : Int) ∧ (∃ t28, LdQ 5 t27b (t27o + Int.toNat x10 * 1) (.int .u8 t28) w6 ∧ (0 ≤ x10 ∧ x10 < (32 : Int) ∧ (∃ w7, StQ 5 g7 (0 + Int.toNat x10 * 1) (.int .u8 t28) w6 w7 ∧ (I (IntKind.wrap .i64 (x10 + 1)) w7 ∧ μ (IntKind.wrap .i64 (x10 + 1)) w7 < μ x10 w6)))))) ∧ (decide (x10 < (32 : Int)) = false → (∃ t30, LdQ 22 g7 0 (.agg t30) w6 ∧ (∃ w8, StQ 22 g6 0 (.agg t30) w6 w8 ∧ (∃ r6, (loadVar 22 ⟨g6, 0, none⟩).run Tryz.prog w8 = .ok r6 w8 ∧ (R (.returned r6) w8)))))))))))))) : Calls Tryz.prog 37 #[(.slice a0a a0n a0c), (.slice a1a a1n a1c), (.string a2)] w R := calls_of_ev2 (tc := .sq [.reg (.op .bx .nil), .reg (.op (.ld .agg) (.op .bx (.op .u .nil))), .reg (.pp 3 (.op (.r .slice) (.op (.cl [.slice, .int .i64]) (.pp 5 .nil)))), .seq (.rg 1) (.blk (.loop (lr [(10, 1), (20, 10)]) [10] [.int .i64] (.sq [.seq (.rg 2) (.cond .leaf .leaf), .blk (.reg (.pp 3 (.op .ix (.op (.ld (.int .u8)) (.op .ix (.op .u .nil))))))] (.rg 3)))), .reg (.op (.ld .agg) (.op .u .nil))] .leaf) Tryz.func37 (by kernel_rfl) (by kernel_rfl) h

theorem amphoraref05_FromMaster_vc (a0 : Array Value) (w : World) (R : Ending → World → Prop) (h : ∃ g1 w1, (Instr.box 22 (.agg a0)).run Tryz.prog w = .ok (.pointer (some ⟨g1, 0, none⟩)) w1 ∧ (∃ g2 w2, AlQ 28 g2 w1 w2 ∧ (∃ t4a t4n t4c w3, (Instr.buildSlice 33 7 #[(0, (.int .u8 97)), (1, (.int .u8 109)), (2, (.int .u8 112)), (3, (.int .u8 104)), (4, (.int .u8 111)), (5, (.int .u8 114)), (6, (.int .u8 97))]).run Tryz.prog w2 = .ok (.slice t4a t4n t4c) w3 ∧ (∃ t5a t5n t5c w4, (convert 33 33 (.slice t4a t4n t4c)).run Tryz.prog w3 = .ok (.slice t5a t5n t5c) w4 ∧ (∃ S : World → Prop, S w4.drew ∧ (0 ≤ (32 : Int) ∧ (32 : Int) ≤ (32 : Int) ∧ (0 ≤ (32 : Int) ∧ (32 : Int) ≤ (32 : Int) ∧ (0 ≤ (32 : Int) ∧ (32 : Int) ≤ (32 : Int) ∧ (Calls Tryz.prog 37 #[(.slice t5a t5n t5c), (.slice (some ⟨g1, 0, none⟩) (32) 32), (.string (ByteArray.mk #[99, 105, 112, 104, 101, 114]))] w4.drew fun e8 w5 => ∃ t8, e8 = .returned (.agg t8) ∧ (∃ S_1 : World → Prop, (∀ w', S_1 w' → S w') ∧ S_1 w5 ∧ (Calls Tryz.prog 37 #[(.slice t5a t5n t5c), (.slice (some ⟨g1, 0, none⟩) (32) 32), (.string (ByteArray.mk #[109, 97, 99]))] w5 fun e11 w6 => ∃ t11, e11 = .returned (.agg t11) ∧ (∃ S_2 : World → Prop, (∀ w', S_2 w' → S_1 w') ∧ S_2 w6 ∧ (Calls Tryz.prog 37 #[(.slice t5a t5n t5c), (.slice (some ⟨g1, 0, none⟩) (32) 32), (.string (ByteArray.mk #[110, 97, 109, 101]))] w6 fun e14 w7 => ∃ t14, e14 = .returned (.agg t14) ∧ (∃ S_3 : World → Prop, (∀ w', S_3 w' → S_2 w') ∧ S_3 w7 ∧ (∃ t15, (∀ w', S_3 w' → (Instr.build 28 #[(0, (.agg t8)), (1, (.agg t11)), (2, (.agg t14))]).run Tryz.prog w' = .ok (.agg t15) w') ∧ (∃ w8, StQ 28 g2 0 (.agg t15) w7 w8 ∧ (∃ r2, (loadVar 28 ⟨g2, 0, none⟩).run Tryz.prog w8 = .ok r2 w8 ∧ (R (.returned r2) w8)))))))))))))))))) : Calls Tryz.prog 9 #[(.agg a0)] w R := calls_of_ev2 (tc := .sq [.reg (.op .bx (.op .bx .nil)), .reg (.op (.r .slice) (.op (.r .slice) (.op .p .nil))), .drawS (.tk 0 .p (.tk 1 .sl (.tk 3 .p (.tk 4 .sl (.tk 6 .p (.tk 7 .sl (.go 2 (.cl [.agg]) (.go 5 (.cl [.agg]) (.go 8 (.cl [.agg]) (.ts 9 .agg (.go 10 .u .nil))))))))))) [10]] .leaf) Tryz.func9 (by kernel_rfl) (by kernel_rfl) h

theorem amphoraref05_Tag_vc (a0 : Array Value) (a1 : Int) (a2a : Option Addr) (a2n : Nat) (a2c : Nat) (a3a : Option Addr) (a3n : Nat) (a3c : Nat) (a4a : Option Addr) (a4n : Nat) (a4c : Nat) (w : World) (R : Ending → World → Prop) (h : ∃ g5 w1, (Instr.box 28 (.agg a0)).run Tryz.prog w = .ok (.pointer (some ⟨g5, 0, none⟩)) w1 ∧ (∃ g10 w2, AlQ 22 g10 w1 w2 ∧ (0 ≤ (32 : Int) ∧ (32 : Int) ≤ (32 : Int) ∧ (∃ t14a t14n t14c w3, (Instr.buildSlice 33 1 #[(0, (.int .u8 a1))]).run Tryz.prog w2.drew = .ok (.slice t14a t14n t14c) w3 ∧ (∃ t18a t18n t18c w4, (Instr.buildSlice 23 4 #[(0, (.slice t14a t14n t14c)), (1, (.slice a2a a2n a2c)), (2, (.slice a3a a3n a3c)), (3, (.slice a4a a4n a4c))]).run Tryz.prog w3 = .ok (.slice t18a t18n t18c) w4 ∧ (Calls Tryz.prog 105 #[(.slice t18a t18n t18c)] w4 fun e19 w5 => ∃ t19a t19n t19c, e19 = .returned (.slice t19a t19n t19c) ∧ (∃ t20a t20n t20c w6, (Instr.buildSlice 23 1 #[(0, (.slice t19a t19n t19c))]).run Tryz.prog w5 = .ok (.slice t20a t20n t20c) w6 ∧ (Calls Tryz.prog 101 #[(.slice (some ⟨g5, 32, none⟩) (32) 32), (.slice t20a t20n t20c)] w6 fun e21 w7 => ∃ t21, e21 = .returned (.agg t21) ∧ (∃ w8, StQ 22 g10 0 (.agg t21) w7 w8 ∧ (∃ r10, (loadVar 22 ⟨g10, 0, none⟩).run Tryz.prog w8 = .ok r10 w8 ∧ (R (.returned r10) w8))))))))))) : Calls Tryz.prog 107 #[(.agg a0), (.int .u8 a1), (.slice a2a a2n a2c), (.slice a3a a3n a3c), (.slice a4a a4n a4c)] w R := calls_of_ev2 (tc := .sq [.reg (.op .bx (.op .bx .nil)), .draw (.tk 0 .p (.tk 1 .sl (.tks [2, 4, 5, 6] (.go 3 (.r .slice) (.go 7 (.r .slice) (.go 8 (.cl [.slice]) (.go 9 (.r .slice) (.go 10 (.cl [.agg]) (.go 11 .u .nil))))))))) (lr [(0, 12)])] .leaf) Tryz.func107 (by kernel_rfl) (by kernel_rfl) h

theorem amphoraref05_Seal_vc (a0 : Array Value) (a1 : Int) (a2a : Option Addr) (a2n : Nat) (a2c : Nat) (a3a : Option Addr) (a3n : Nat) (a3c : Nat) (w : World) (R : Ending → World → Prop) (h : ∃ g4 w1, (Instr.box 28 (.agg a0)).run Tryz.prog w = .ok (.pointer (some ⟨g4, 0, none⟩)) w1 ∧ (∃ J : Nat → Nat → World → Prop, (0 ≤ (32 : Int) ∧ (32 : Int) ≤ (32 : Int) ∧ ((∃ t19a t19n t19c w2, (Instr.buildSlice 33 1 #[(0, (.int .u8 a1))]).run Tryz.prog w1.drew = .ok (.slice t19a t19n t19c) w2 ∧ ((∃ t22a t22n t22c w3, (Instr.buildSlice 23 3 #[(0, (.slice t19a t19n t19c)), (1, (.slice a2a a2n a2c)), (2, (.slice a3a a3n a3c))]).run Tryz.prog w2 = .ok (.slice t22a t22n t22c) w3 ∧ ((Calls Tryz.prog 105 #[(.slice t22a t22n t22c)] w3 fun e23 w4 => ∃ t23a t23n t23c, e23 = .returned (.slice t23a t23n t23c) ∧ ((∃ t24a t24n t24c w5, (Instr.buildSlice 23 1 #[(0, (.slice t23a t23n t23c))]).run Tryz.prog w4 = .ok (.slice t24a t24n t24c) w5 ∧ ((Calls Tryz.prog 101 #[(.slice (some ⟨g4, 64, none⟩) (32) 32), (.slice t24a t24n t24c)] w5 fun e25 w6 => ∃ t25, e25 = .returned (.agg t25) ∧ (∃ g9 w7, AlQ 22 g9 w6 w7 ∧ (∃ w8, StQ 22 g9 0 (.agg t25) w7 w8 ∧ (J g9 0 w8)))) ∧ (∃ g9 w9, AlQ 22 g9 w5 w9 ∧ (Calls Tryz.prog 101 #[(.slice (some ⟨g4, 64, none⟩) (32) 32), (.slice t24a t24n t24c)] w9 fun e25 w10 => ∃ t25, e25 = .returned (.agg t25) ∧ (∃ w11, StQ 22 g9 0 (.agg t25) w10 w11 ∧ (J g9 0 w11)))))) ∧ (∃ g9 w12, AlQ 22 g9 w4 w12 ∧ (∃ t24a t24n t24c w13, (Instr.buildSlice 23 1 #[(0, (.slice t23a t23n t23c))]).run Tryz.prog w12 = .ok (.slice t24a t24n t24c) w13 ∧ (Calls Tryz.prog 101 #[(.slice (some ⟨g4, 64, none⟩) (32) 32), (.slice t24a t24n t24c)] w13 fun e25 w14 => ∃ t25, e25 = .returned (.agg t25) ∧ (∃ w15, StQ 22 g9 0 (.agg t25) w14 w15 ∧ (J g9 0 w15))))))) ∧ (∃ g9 w16, AlQ 22 g9 w3 w16 ∧ (Calls Tryz.prog 105 #[(.slice t22a t22n t22c)] w16 fun e23 w17 => ∃ t23a t23n t23c, e23 = .returned (.slice t23a t23n t23c) ∧ (∃ t24a t24n t24c w18, (Instr.buildSlice 23 1 #[(0, (.slice t23a t23n t23c))]).run Tryz.prog w17 = .ok (.slice t24a t24n t24c) w18 ∧ (Calls Tryz.prog 101 #[(.slice (some ⟨g4, 64, none⟩) (32) 32), (.slice t24a t24n t24c)] w18 fun e25 w19 => ∃ t25, e25 = .returned (.agg t25) ∧ (∃ w20, StQ 22 g9 0 (.agg t25) w19 w20 ∧ (J g9 0 w20)))))))) ∧ (∃ g9 w21, AlQ 22 g9 w2 w21 ∧ (∃ t22a t22n t22c w22, (Instr.buildSlice 23 3 #[(0, (.slice t19a t19n t19c)), (1, (.slice a2a a2n a2c)), (2, (.slice a3a a3n a3c))]).run Tryz.prog w21 = .ok (.slice t22a t22n t22c) w22 ∧ (Calls Tryz.prog 105 #[(.slice t22a t22n t22c)] w22 fun e23 w23 => ∃ t23a t23n t23c, e23 = .returned (.slice t23a t23n t23c) ∧ (∃ t24a t24n t24c w24, (Instr.buildSlice 23 1 #[(0, (.slice t23a t23n t23c))]).run Tryz.prog w23 = .ok (.slice t24a t24n t24c) w24 ∧ (Calls Tryz.prog 101 #[(.slice (some ⟨g4, 64, none⟩) (32) 32), (.slice t24a t24n t24c)] w24 fun e25 w25 => ∃ t25, e25 = .returned (.agg t25) ∧ (∃ w26, StQ 22 g9 0 (.agg t25) w25 w26 ∧ (J g9 0 w26))))))))) ∧ (∃ g9 w27, AlQ 22 g9 w1.drew w27 ∧ (∃ t19a t19n t19c w28, (Instr.buildSlice 33 1 #[(0, (.int .u8 a1))]).run Tryz.prog w27 = .ok (.slice t19a t19n t19c) w28 ∧ (∃ t22a t22n t22c w29, (Instr.buildSlice 23 3 #[(0, (.slice t19a t19n t19c)), (1, (.slice a2a a2n a2c)), (2, (.slice a3a a3n a3c))]).run Tryz.prog w28 = .ok (.slice t22a t22n t22c) w29 ∧ (Calls Tryz.prog 105 #[(.slice t22a t22n t22c)] w29 fun e23 w30 => ∃ t23a t23n t23c, e23 = .returned (.slice t23a t23n t23c) ∧ (∃ t24a t24n t24c w31, (Instr.buildSlice 23 1 #[(0, (.slice t23a t23n t23c))]).run Tryz.prog w30 = .ok (.slice t24a t24n t24c) w31 ∧ (Calls Tryz.prog 101 #[(.slice (some ⟨g4, 64, none⟩) (32) 32), (.slice t24a t24n t24c)] w31 fun e25 w32 => ∃ t25, e25 = .returned (.agg t25) ∧ (∃ w33, StQ 22 g9 0 (.agg t25) w32 w33 ∧ (J g9 0 w33)))))))))) ∧ (∀ x9b x9o, ∀ w34, J x9b x9o w34 → (∃ t26, (Instr.build 187 #[]).run Tryz.prog w34 = .ok (.agg t26) w34 ∧ (∃ g10 w35, AlQ 187 g10 w34 w35 ∧ (∃ w36, StQ 187 g10 0 (.agg t26) w35 w36 ∧ (∃ (I : Int → World → Prop) (μ : Int → World → Nat), I 0 w36 ∧ (∀ x11, ∀ w37, I x11 w37 → ((decide (x11 < (12 : Int)) = true → (0 ≤ x11 ∧ x11 < (32 : Int) ∧ (∃ t34, LdQ 5 x9b (x9o + Int.toNat x11 * 1) (.int .u8 t34) w37 ∧ (0 ≤ x11 ∧ x11 < (12 : Int) ∧ (∃ w38, StQ 5 g10 (0 + Int.toNat x11 * 1) (.int .u8 t34) w37 w38 ∧ (I (IntKind.wrap .i64 (x11 + 1)) w38 ∧ μ (IntKind.wrap .i64 (x11 + 1)) w38 < μ x11 w37)))))) ∧ (decide (x11 < (12 : Int)) = false → (∃ t38, LdQ 22 g4 0 (.agg t38) w37 ∧ (∃ t39, LdQ 187 g10 0 (.agg t39) w37 ∧ (Calls Tryz.prog 106 #[(.agg t38), (.agg t39), (.int .i64 0), (.slice a3a a3n a3c)] w37 fun e41 w39 => ∃ t41_0a t41_0n t41_0c t41_1, e41 = .returned (.tuple #[(.slice t41_0a t41_0n t41_0c), (.int .i64 t41_1)]) ∧ (∃ J_1 : Nat → Nat → World → Prop, (∃ S : World → Prop, S w39.drew ∧ (0 ≤ (12 : Int) ∧ (12 : Int) ≤ (12 : Int) ∧ (∃ t44, (∀ w', S w' → LdQ 28 g4 0 (.agg t44) w') ∧ ((Calls Tryz.prog 107 #[(.agg t44), (.int .u8 a1), (.slice a2a a2n a2c), (.slice (some ⟨g10, 0, none⟩) (12) 12), (.slice t41_0a t41_0n t41_0c)] w39.drew fun e49 w40 => ∃ t49, e49 = .returned (.agg t49) ∧ (∃ S_1 : World → Prop, (∀ w', S_1 w' → S w') ∧ S_1 w40 ∧ (∃ g14 w41, AlQ 22 g14 w40 w41 ∧ (∃ S_2 : World → Prop, (∀ w', S_2 w' → S_1 w') ∧ S_2 w41 ∧ (∃ w42, StQ 22 g14 0 (.agg t49) w41 w42 ∧ (J_1 g14 0 w42)))))) ∧ (∃ g14 w43, AlQ 22 g14 w39.drew w43 ∧ (∃ S_1 : World → Prop, (∀ w', S_1 w' → S w') ∧ S_1 w43 ∧ (Calls Tryz.prog 107 #[(.agg t44), (.int .u8 a1), (.slice a2a a2n a2c), (.slice (some ⟨g10, 0, none⟩) (12) 12), (.slice t41_0a t41_0n t41_0c)] w43 fun e49 w44 => ∃ t49, e49 = .returned (.agg t49) ∧ (∃ S_2 : World → Prop, (∀ w', S_2 w' → S_1 w') ∧ S_2 w44 ∧ (∃ w45, StQ 22 g14 0 (.agg t49) w44 w45 ∧ (J_1 g14 0 w45)))))))))) ∧ (∀ x14b x14o, ∀ w46, J_1 x14b x14o w46 → (∃ t51a t51n t51c w47, (Instr.buildSlice 33 1 #[(0, (.int .u8 a1))]).run Tryz.prog w46 = .ok (.slice t51a t51n t51c) w47 ∧ (0 ≤ (12 : Int) ∧ (12 : Int) ≤ (12 : Int) ∧ (∃ t53a t53n t53c w48, (Builtin.append_ #[33, 33] 33 #[(.slice t51a t51n t51c), (.slice (some ⟨g10, 0, none⟩) (12) 12)]).run Tryz.prog w47 = .ok (.slice t53a t53n t53c) w48 ∧ (∃ t56a t56n t56c w49, (Builtin.append_ #[33, 33] 33 #[(.slice t53a t53n t53c), (.slice t41_0a t41_0n t41_0c)]).run Tryz.prog w48 = .ok (.slice t56a t56n t56c) w49 ∧ (0 ≤ (32 : Int) ∧ (32 : Int) ≤ (32 : Int) ∧ (∃ t59a t59n t59c w50, (Builtin.append_ #[33, 33] 33 #[(.slice t56a t56n t56c), (.slice (some ⟨x14b, x14o, none⟩) (32) 32)]).run Tryz.prog w49 = .ok (.slice t59a t59n t59c) w50 ∧ (R (.returned (.slice t59a t59n t59c)) w50)))))))))))))))))))))) : Calls Tryz.prog 76 #[(.agg a0), (.int .u8 a1), (.slice a2a a2n a2c), (.slice a3a a3n a3c)] w R := calls_of_ev2 (tc := .sq [.reg (.op .bx (.op .p .nil)), .join (lr [(9, 1), (16, 10)]) [9] [.ptr] (.draw (.tk 0 .p (.tk 1 .sl (.tks [2, 4, 5] (.two 3 (.r .slice) (.two 6 (.r .slice) (.two 7 (.cl [.slice]) (.two 8 (.r .slice) (.two 9 (.cl [.agg]) (.go 10 .bx (.go 11 .u .nil)) 10 .bx (.go 9 (.cl [.agg]) (.go 11 .u .nil))) 10 .bx (.go 8 (.r .slice) (.go 9 (.cl [.agg]) (.go 11 .u .nil)))) 10 .bx (.go 7 (.cl [.slice]) (.go 8 (.r .slice) (.go 9 (.cl [.agg]) (.go 11 .u .nil))))) 10 .bx (.go 6 (.r .slice) (.go 7 (.cl [.slice]) (.go 8 (.r .slice) (.go 9 (.cl [.agg]) (.go 11 .u .nil)))))) 10 .bx (.go 3 (.r .slice) (.go 6 (.r .slice) (.go 7 (.cl [.slice]) (.go 8 (.r .slice) (.go 9 (.cl [.agg]) (.go 11 .u .nil)))))))))) (lr [(0, 12)])), .reg (.op (.ld .agg) (.op .bx (.op .u .nil))), .seq (.rg 1) (.blk (.loop (lr [(11, 1), (27, 9)]) [11] [.int .i64] (.sq [.seq (.rg 2) (.cond .leaf .leaf), .blk (.reg (.pp 2 (.op .ix (.op (.ld (.int .u8)) (.op .ix (.op .u .nil))))))] (.rg 3)))), .reg (.op .p (.op (.ld .agg) (.op (.ld .agg) (.op .p (.op (.cl [.slice, .int .i64]) (.pp 5 .nil)))))), .join (lr [(14, 1), (44, 6)]) [14] [.ptr] (.drawS (.tks [1, 2] (.tk 3 .sl (.tk 4 .p (.ts 0 .agg (.two 5 (.cl [.agg]) (.go 6 .bx (.go 7 .u .nil)) 6 .bx (.go 5 (.cl [.agg]) (.go 7 .u .nil))))))) [7]), .reg (.op .p (.op (.r .slice) (.op .sl (.op (.r .slice) (.op .p .nil))))), .reg (.pp 2 (.op (.r .slice) (.op .p .nil))), .reg (.op .p (.op .sl (.op (.r .slice) (.op .p .nil))))] .leaf) Tryz.func76 (by kernel_rfl) (by kernel_rfl) h

end Go.Proofs.YtmdandkoajocpaaGreatDoor
end

section
namespace Go.Proofs.YtmdandkoajocpaaGreatDoor
open Go Sx
set_option maxRecDepth 8000

theorem Sx.St.zeroAC {w0 w : World} {X : List Nat} {M : List Res} (h : St w0 X w M) {T : TypeId} {z : List Value} (hz : ∀ w, (zeroValue T).run Tryz.prog w = .ok (.agg z.toArray) w) :
   ∃ g w', (Instr.alloc T true (.tuple #[])).run Tryz.prog w = .ok (.pointer (some ⟨g, 0, none⟩)) w' ∧ St w0 X w' (M ++ [.arr g T z]) ∧ Chg [] w w' := by
 obtain ⟨g, w1, r, h1⟩ := h.zeroA hz
 obtain ⟨g', w1', r', h1'⟩ := (St.start w).zeroA hz
 have e := r.symm.trans r'
 simp only [Result.ok.injEq] at e
 obtain ⟨_, rfl⟩ := e
 exact ⟨g, w1, r, h1, h1'.chg⟩

theorem litC {t e by_ : Nat} {z : Value} (E : ElemT Tryz.prog t e 1 by_ z) (vs : List Value) (h1 : ∀ v ∈ vs, v.oneCell' = true) (hb : vs.length ≤ 16777216) (w : World) :
   ∃ g w', (Instr.buildSlice t vs.length ((vs.zipIdx 0).map fun p => (p.2, p.1)).toArray).run Tryz.prog w = .ok (.slice (some ⟨g, 0, none⟩) vs.length vs.length) w' ∧ Chg [] w w' ∧ Rd w' (some ⟨g, 0, none⟩) vs.length vs.length 1 vs ∧ w.heap.size ≤ g ∧ g < w'.heap.size := by
 obtain ⟨g, w', r, h⟩ := (St.start w).lit E vs h1 hb
 refine ⟨g, w', r, h.chg, h.rd (i := 0) rfl, ?_, Res.lt (h.holds 0 _ rfl) g (by simp [Res.fp, Value.ownBlock])⟩
 have h2 := h.own 0 _ rfl g (by simp [Res.fp, Value.ownBlock])
 simpa using h2

theorem litK (k : UInt8) (w : World) : ∃ g w', (Instr.buildSlice 33 1 #[(0, .int .u8 (k.toNat : Int))]).run Tryz.prog w = .ok (.slice (some ⟨g, 0, none⟩) 1 1) w' ∧ Chg [] w w' ∧ RdB w' (some ⟨g, 0, none⟩) 1 1 [k] := by
 obtain ⟨g, w', r, c, h, _⟩ := litC bT [.int .u8 (k.toNat : Int)] (by simp [Value.oneCell']) (by simp) w
 exact ⟨g, w', r, c, h⟩

theorem kyA (w : World) : (isAgg 28).run Tryz.prog w = .ok true w := Tryz.isAgg28 w
theorem kyS (w : World) : (sizeOf 28).run Tryz.prog w = .ok 96 w := Tryz.sizeOf28 w
theorem kyZ (w : World) : (zeroValue 28).run Tryz.prog w = .ok (.agg (bv (List.replicate 96 0)).toArray) w := Tryz.zeroValue28 w
theorem idZ (w : World) : (zeroValue 44).run Tryz.prog w = .ok (.agg (bv (List.replicate 32 0)).toArray) w := Tryz.zeroValue44 w
theorem d12A (w : World) : (isAgg 187).run Tryz.prog w = .ok true w := Tryz.isAgg187 w
theorem d12S (w : World) : (sizeOf 187).run Tryz.prog w = .ok 12 w := Tryz.sizeOf187 w
theorem d12Z (w : World) : (zeroValue 187).run Tryz.prog w = .ok (.agg (bv (List.replicate 12 0)).toArray) w := Tryz.zeroValue187 w

theorem built_keys : Tryz.prog.built 28 = fun parts => Instr.fill (fun i => (#[(0, 32), (32, 32), (64, 32)] : Array (Nat × Nat))[i]?) (bv (List.replicate 96 0)).toArray parts := by kernel_rfl

theorem keys_build {a b c : List UInt8} (ha : a.length = 32) (hb : b.length = 32) (hc : c.length = 32) (w : World) : (Instr.build 28 #[(0, .agg (bv a).toArray), (1, .agg (bv b).toArray), (2, .agg (bv c).toArray)]).run Tryz.prog w = .ok (.agg (bv (a ++ b ++ c)).toArray) w := by
 apply run_build
 rw [built_keys]
 show Instr.fill _ _ [(0, .agg (bv a).toArray), (1, .agg (bv b).toArray), (2, .agg (bv c).toArray)] = _
 have z : ∀ n, (bv (List.replicate 96 0)).drop n = bv (List.replicate (96 - n) 0) := fun n => by rw [← bv_drop, List.drop_replicate]
 rw [fill_step (off := 0) (sz := 32) rfl (by simp [Value.cells, ha]) (by simp)]
 simp only [Value.cells, List.take_zero, List.nil_append, Nat.zero_add, z]
 rw [fill_step (off := 32) (sz := 32) rfl (by simp [Value.cells, hb]) (by simp [ha])]
 simp only [Value.cells]
 rw [List.take_left' (by simp [ha]), show 32 + 32 = (bv a).length + 32 by simp [ha], List.drop_append, List.drop_of_length_le (by omega), show (bv a).length + 32 - (bv a).length = 32 by omega, ← bv_drop, List.drop_replicate]
 rw [fill_step (off := 64) (sz := 32) rfl (by simp [Value.cells, hc]) (by simp [ha, hb])]
 simp only [Value.cells, List.nil_append]
 rw [List.take_left' (by simp [ha, hb]), List.drop_of_length_le (by simp [ha, hb])]
 simp [Instr.fill]

theorem litMark (l : List UInt8) (hb : l.length ≤ 16777216) (w : World) : ∃ g w1 w2, (Instr.buildSlice 33 l.length (((bv l).zipIdx 0).map fun p => (p.2, p.1)).toArray).run Tryz.prog w = .ok (.slice (some ⟨g, 0, none⟩) l.length l.length) w1 ∧
   (convert 33 33 (.slice (some ⟨g, 0, none⟩) l.length l.length)).run Tryz.prog w1 = .ok (.slice (some ⟨g, 0, none⟩) l.length l.length) w2 ∧ Chg [] w w2 ∧ RdB w2 (some ⟨g, 0, none⟩) l.length l.length l := by
 obtain ⟨g, w1, r1, c1, h1, hg, hg1⟩ := litC bT (bv l) (bv_one l) (by simpa using hb) w
 rw [bv_length] at r1 h1
 obtain ⟨w2, r2, c2, h2⟩ := sameSlice g _ _ l w1 h1 hg1
 exact ⟨g, w1, w2, r1, r2, c1.trans' c2 (fun i hi => .inl (by simp at hi; omega)), h2⟩

theorem over_spec' (K : List UInt8) (a1 : Option Addr) (c1 : Nat) (nonce : List UInt8) (a2 : Option Addr) (n2 c2 : Nat) (b : List UInt8) (w : World) (hk : K.length = 96) (hr1 : RdB w a1 12 c1 nonce) (hr2 : RdB w a2 n2 c2 b) (hb : n2 ≤ 1099511627776) :
   Calls Tryz.prog 93 #[.agg (bv K).toArray, .slice a1 12 c1, .slice a2 n2 c2] w fun e w' => ∃ a n c, e = .returned (.slice a n c) ∧ FreshB w w' a n c (overF K nonce b) := by
 have hl := hr1.lenB
 apply seal_over_vc
 obtain ⟨g1, w1, r1, h1⟩ := (St.start w).boxA 28 (bv K)
 obtain ⟨g2, w2, r2, h2⟩ := h1.zeroA d12Z
 obtain ⟨w3, r3, h3⟩ := h2.copyB (i := 1) (d := 12) rfl (by simp) (h2.rd1 hr1) (by omega)
 rw [List.drop_of_length_le (by simp), List.append_nil] at h3
 have hld := h3.ldPre (i := 0) (l := bv K) rfl (d32A _) (d32S _) (by simp [hk])
 rw [← bv_take] at hld
 refine ⟨g1, w1, r1, g2, w2, r2, by omega, by omega, _, w3, r3, _, hld, _, h3.ldA (i := 1) (l := bv nonce) rfl (d12A _) (d12S _) (by simp [hl]), (xor_spec (K.take 32) nonce 0 a2 n2 c2 b w3 (by simp [hk]) hl (by omega) (by omega) (h3.rd1 hr2) (by omega)).mono ?_⟩
 rintro e w4 ⟨a, n, c, rfl, hf⟩
 exact ⟨_, _, _, _, rfl, _, _, _, rfl, FreshB.after hf h3.chg⟩

theorem macK_rd {w0 w : World} {M : List Res} (h : St w0 [] w M) {i g T : Nat} {K : List UInt8} (hi : M[i]? = some (.arr g T (bv K))) (hk : K.length = 96) : RdB w (some ⟨g, 32, none⟩) 32 32 (macKy K) ∧ RdB w (some ⟨g, 64, none⟩) 32 32 (nameK K) :=
 ⟨h.rdPart hi (by omega), h.rdPart hi (by omega)⟩

theorem tag_spec (K : List UInt8) (k : UInt8) (a2 : Option Addr) (n2 c2 : Nat) (ctx : List UInt8) (a3 : Option Addr) (n3 c3 : Nat) (nonce : List UInt8) (a4 : Option Addr) (n4 c4 : Nat) (body : List UInt8) (w : World) (hk : K.length = 96) (hK : KTab w) (hr2 : RdB w a2 n2 c2 ctx) (hr3 : RdB w a3 n3 c3 nonce) (hr4 : RdB w a4 n4 c4 body) (hb : n2 + n3 + n4 ≤ 67108000) :
   Calls Tryz.prog 91 #[.agg (bv K).toArray, .int .u8 (k.toNat : Int), .slice a2 n2 c2, .slice a3 n3 c3, .slice a4 n4 c4] w fun e w' => e = .returned (.agg (bv (tagF K k ctx nonce body)).toArray) ∧ Chg [] w w' := by
 have e2 := hr2.lenB
 have e3 := hr3.lenB
 have e4 := hr4.lenB
 apply seal_tag_vc
 obtain ⟨g1, w1, r1, h1⟩ := (St.start w).boxA 28 (bv K)
 obtain ⟨g2, w2, r2, h2⟩ := h1.zeroA d32Z
 have h2d := h2.drew
 obtain ⟨g3, w3, r3, c3', q3⟩ := litK k w2.drew
 have h3 := h2d.same c3'
 obtain ⟨g4, w4, r4, c4', q4, _⟩ := litC bbT [.slice (some ⟨g3, 0, none⟩) 1 1, .slice a2 n2 c2, .slice a3 n3 c3, .slice a4 n4 c4] (by simp [Value.oneCell']) (by simp) w3
 have h4 := h3.same c4'
 have hrow : Row2 w4 [.slice (some ⟨g3, 0, none⟩) 1 1, .slice a2 n2 c2, .slice a3 n3 c3, .slice a4 n4 c4] [[k], ctx, nonce, body] :=
   (row2_three (h4.rd1 hr2) (h4.rd1 hr3) (h4.rd1 hr4)).cons (q3.keep0 c4')
 refine ⟨g1, w1, r1, g2, w2, r2, by omega, by omega, _, _, _, _, r3, _, _, _, _, r4, (pack_spec _ 4 4 _ [[k], ctx, nonce, body] w4 q4 hrow (by simp; omega) (by simp)).mono ?_⟩
 rintro e w5 ⟨a5, n5, c5, rfl, hf5⟩
 have h5 := h4.same hf5.1
 obtain ⟨g6, w6, r6, c6', q6, _⟩ := litC bbT [.slice a5 n5 c5] (by simp [Value.oneCell']) (by simp) w5
 have h6 := h5.same c6'
 have hpl : (packL [[k], ctx, nonce, body]).length ≤ 67109864 := by
   have := packL_len [[k], ctx, nonce, body] (by simp; omega)
   simp at this ⊢
   omega
 refine ⟨_, _, _, rfl, _, _, _, _, r6, (mac_spec _ 32 32 (macKy K) _ 1 1 _ [packL [[k], ctx, nonce, body]] w6 (hK.keep0 h6.chg) (macK_rd h6 (i := 0) rfl hk).1 (by omega) q6 (row2_one (hf5.rdB.keep0 c6')) (by rw [List.flatten_cons, List.flatten_nil, List.append_nil]; omega) (by decide)).mono ?_⟩
 rintro e w7 ⟨rfl, c7⟩
 have e1 : [packL [[k], ctx, nonce, body]].flatten = packL [[k], ctx, nonce, body] := by rw [List.flatten_cons, List.flatten_nil, List.append_nil]
 rw [e1]
 obtain ⟨w8, r8, h8⟩ := (h6.same c7).stA (i := 1) (v := bv (tagF K k ctx nonce body)) rfl (d32S _) (by simp) (by simp) (bv_one _)
 exact ⟨_, rfl, w8, r8, _, h8.ldVarA (i := 1) (l := bv (tagF K k ctx nonce body)) rfl (d32A _) (d32S _) (by simp), rfl, h8.chg⟩

end Go.Proofs.YtmdandkoajocpaaGreatDoor
end

section
namespace Go.Proofs.YtmdandkoajocpaaGreatDoor
open Go Sx
set_option maxRecDepth 8000

def sealTail (a1 : Int) (a2a : Option Addr) (a2n a2c : Nat) (a3a : Option Addr) (a3n a3c : Nat) (g4 g9 : Nat) (t23 : Array Value) (R : Ending → World → Prop) (w7 : World) : Prop :=
 (∃ w8 : World, (Instr.storeAt 22 (.pointer (some ⟨g9, 0, none⟩)) (.agg t23)).run Tryz.prog w7 = .ok () w8 ∧
   (0 ≤ (12 : Int) ∧ (12 : Int) ≤ ((32 : Nat) : Int) ∧
   (∃ (t25 : Array Value), (Instr.loadAt 28 (.pointer (some ⟨g4, 0, none⟩))).run Tryz.prog w8 = .ok (.agg t25) w8 ∧
   (Calls Tryz.prog 93 #[(.agg t25), (.slice (some ⟨g9, 0, none⟩) 12 32), (.slice a3a a3n a3c)] w8 fun (e28 : Ending) (w9 : World) => ∃ (t28a : Option Addr) (t28n : Nat) (t28c : Nat), e28 = .returned (.slice t28a t28n t28c) ∧
   (∃ (t29 : Array Value), (Instr.loadAt 28 (.pointer (some ⟨g4, 0, none⟩))).run Tryz.prog w9 = .ok (.agg t29) w9 ∧
   (Calls Tryz.prog 91 #[(.agg t29), (.int .u8 a1), (.slice a2a a2n a2c), (.slice (some ⟨g9, 0, none⟩) 12 32), (.slice t28a t28n t28c)] w9 fun (e34 : Ending) (w10 : World) => ∃ (t34 : Array Value), e34 = .returned (.agg t34) ∧
   (∃ (g12 : Nat) (w11 : World), (Instr.alloc 22 true (.tuple #[])).run Tryz.prog w10 = .ok (.pointer (some ⟨g12, 0, none⟩)) w11 ∧
   (∃ w12 : World, (Instr.storeAt 22 (.pointer (some ⟨g12, 0, none⟩)) (.agg t34)).run Tryz.prog w11 = .ok () w12 ∧
   (∃ (t38a : Option Addr) (t38n : Nat) (t38c : Nat) (w13 : World), (Instr.makeSlice 33 (.int .i64 0) (.int .i64 (IntKind.wrap .i64 ((45 : Int) + ((a3n : Nat) : Int))))).run Tryz.prog w12 = .ok (.slice t38a t38n t38c) w13 ∧
   (∃ (t40a : Option Addr) (t40n : Nat) (t40c : Nat) (w14 : World), (Instr.buildSlice 33 1 #[(0, (.int .u8 a1))]).run Tryz.prog w13 = .ok (.slice t40a t40n t40c) w14 ∧
   (∃ (t41a : Option Addr) (t41n : Nat) (t41c : Nat) (w15 : World), (Builtin.append_ #[33, 33] 33 #[(.slice t38a t38n t38c), (.slice t40a t40n t40c)]).run Tryz.prog w14 = .ok (.slice t41a t41n t41c) w15 ∧
   (∃ (t44a : Option Addr) (t44n : Nat) (t44c : Nat) (w16 : World), (Builtin.append_ #[33, 33] 33 #[(.slice t41a t41n t41c), (.slice (some ⟨g9, 0, none⟩) 12 32)]).run Tryz.prog w15 = .ok (.slice t44a t44n t44c) w16 ∧
   (∃ (t47a : Option Addr) (t47n : Nat) (t47c : Nat) (w17 : World), (Builtin.append_ #[33, 33] 33 #[(.slice t44a t44n t44c), (.slice t28a t28n t28c)]).run Tryz.prog w16 = .ok (.slice t47a t47n t47c) w17 ∧
   (0 ≤ ((32 : Nat) : Int) ∧ ((32 : Nat) : Int) ≤ ((32 : Nat) : Int) ∧
   (∃ (t50a : Option Addr) (t50n : Nat) (t50c : Nat) (w18 : World), (Builtin.append_ #[33, 33] 33 #[(.slice t47a t47n t47c), (.slice (some ⟨g12, 0, none⟩) (32) 32)]).run Tryz.prog w17 = .ok (.slice t50a t50n t50c) w18 ∧
   (R (.returned (.slice t50a t50n t50c)) w18))))))))))))))))

theorem overF_len (K nonce b : List UInt8) : (overF K nonce b).length ≤ b.length := by
 rw [overF, xorR]; split <;> simp

theorem sealTail_of (K : List UInt8) (k : UInt8) (a2 : Option Addr) (n2 c2 : Nat) (ctx : List UInt8) (a3 : Option Addr) (n3 c3 : Nat) (plain d : List UInt8) (g4 g9 : Nat) (w w7 : World) (z : List UInt8) (R : Ending → World → Prop)
   (hk : K.length = 96) (hK : KTab w) (hr2 : RdB w a2 n2 c2 ctx) (hr3 : RdB w a3 n3 c3 plain) (hb : n2 + n3 ≤ 67100000) (hd : d.length = 32) (hz : z.length = 32) (h7 : St w [] w7 [.arr g4 28 (bv K), .arr g9 22 (bv z)])
   (hR : ∀ a n c w', FreshB w w' a n c ([k] ++ d.take 12 ++ overF K (d.take 12) plain ++ tagF K k ctx (d.take 12) (overF K (d.take 12) plain)) → R (.returned (.slice a n c)) w') :
   sealTail (k.toNat : Int) a2 n2 c2 a3 n3 c3 g4 g9 (bv d).toArray R w7 := by
 have e2 := hr2.lenB
 have e3 := hr3.lenB
 have hv := overF_len K (d.take 12) plain
 obtain ⟨body, hbody⟩ : ∃ b, overF K (d.take 12) plain = b := ⟨_, rfl⟩
 rw [hbody] at hR hv
 obtain ⟨w8, r8, h8⟩ := h7.stA (i := 1) (v := bv d) rfl (d32S _) (by simp [hz]) (by simp [hd]) (bv_one _)
 have hn : ∀ w', Chg [] w8 w' → RdB w' (some ⟨g9, 0, none⟩) 12 32 (d.take 12) := fun w' hc => rdB_upto (l := d) ((h8.same hc).rdA (i := 1) rfl (by simp [hd])) (by omega)
 have hl4 : ∀ w', Chg [] w8 w' → (Instr.loadAt 28 (.pointer (some ⟨g4, 0, none⟩))).run Tryz.prog w' = .ok (.agg (bv K).toArray) w' := fun w' hc => (h8.same hc).ldA (i := 0) (l := bv K) rfl (kyA _) (kyS _) (by simp [hk])
 have hzr := Chg.refl [] w8
 refine ⟨w8, r8, by omega, by omega, _, hl4 _ hzr, (over_spec' K _ 32 (d.take 12) a3 n3 c3 plain w8 hk (hn _ hzr) (h8.rd1 hr3) (by omega)).mono ?_⟩
 rintro e w9 ⟨a9, n9, c9, rfl, hf9⟩
 rw [hbody] at hf9
 have e9 := hf9.2.1
 refine ⟨_, _, _, rfl, _, hl4 _ hf9.1, (tag_spec K k a2 n2 c2 ctx _ 12 32 (d.take 12) a9 n9 c9 body w9 hk (hK.keep0 (h8.chg.trans hf9.1)) ((h8.same hf9.1).rd1 hr2) (hn _ hf9.1) hf9.rdB (by omega)).mono ?_⟩
 rintro e w10 ⟨rfl, hc10⟩
 obtain ⟨tg, htg⟩ : ∃ t, tagF K k ctx (d.take 12) body = t := ⟨_, rfl⟩
 have htl : tg.length = 32 := by rw [← htg]; simp
 rw [htg] at hR ⊢
 have h10 : St w [] w10 [.arr g4 28 (bv K), .arr g9 22 (bv d), .row 5 1 (.slice a9 n9 c9) n9 (bv body)] := (hf9.add h8).same hc10
 obtain ⟨g11, w11, r11, h11⟩ := h10.zeroA d32Z
 obtain ⟨w12, r12, h12⟩ := h11.stA (i := 3) (v := bv tg) rfl (d32S _) (by simp) (by simp [htl]) (bv_one _)
 have hw : IntKind.wrap .i64 ((45 : Int) + (n3 : Int)) = ((45 + n3 : Nat) : Int) := by rw [wrap_i64 (by omega) (by omega)]; omega
 obtain ⟨g13, w13, r13, h13⟩ := h12.mk0n (kl := .i64) (kc := .i64) (c := 45 + n3) bT (by omega) (by omega)
 obtain ⟨g14, w14, r14, c14, q14⟩ := litK k w13
 have h14 : St w [] w14 [.arr g4 28 (bv K), .arr g9 22 (bv d), .row 5 1 (.slice a9 n9 c9) n9 (bv body), .arr g11 22 (bv tg), .row 5 1 (.slice (some ⟨g13, 0, none⟩) 0 (45 + n3)) 0 (bv [])] := h13.same c14
 obtain ⟨va, vc, w15, r15, h15⟩ := h14.appendB (i := 4) (xs := []) rfl q14 (by omega)
 have h15' : St w [] w15 [.arr g4 28 (bv K), .arr g9 22 (bv d), .row 5 1 (.slice a9 n9 c9) n9 (bv body), .arr g11 22 (bv tg), .row 5 1 (.slice va 1 vc) 1 (bv [k])] := h15
 obtain ⟨vb, vd, w16, r16, h16⟩ := h15'.appendB (i := 4) rfl (rdB_upto (l := d) (n := 32) (c := 32) (k := 12) (h15'.rdA (i := 1) (n := 32) rfl (by simp [hd])) (by omega)) (by omega)
 have h16' : St w [] w16 [.arr g4 28 (bv K), .arr g9 22 (bv d), .row 5 1 (.slice a9 n9 c9) n9 (bv body), .arr g11 22 (bv tg), .row 5 1 (.slice vb (1 + 12) vd) (1 + 12) (bv ([k] ++ d.take 12))] := h16
 obtain ⟨ve, vf, w17, r17, h17⟩ := h16'.appendB (i := 4) rfl (h16'.rd (i := 2) (xs := bv body) rfl) (by omega)
 have h17' : St w [] w17 [.arr g4 28 (bv K), .arr g9 22 (bv d), .row 5 1 (.slice a9 n9 c9) n9 (bv body), .arr g11 22 (bv tg), .row 5 1 (.slice ve (1 + 12 + n9) vf) (1 + 12 + n9) (bv ([k] ++ d.take 12 ++ body))] := h17
 obtain ⟨vg, vh, w18, r18, h18⟩ := h17'.appendB (i := 4) (m := 32) (l := tg) rfl (h17'.rdA (i := 3) rfl (by simp [htl])) (by omega)
 rw [hw]
 exact ⟨_, rfl, g11, w11, r11, w12, r12, _, _, _, w13, r13, _, _, _, w14, r14, _, _, _, w15, r15, _, _, _, w16, r16, _, _, _, w17, r17, by omega, by omega, _, _, _, w18, r18, hR _ _ _ _ (h18.freshB (i := 4) rfl)⟩

theorem seal_spec (K : List UInt8) (k : UInt8) (a2 : Option Addr) (n2 c2 : Nat) (ctx : List UInt8) (a3 : Option Addr) (n3 c3 : Nat) (plain : List UInt8) (w : World)
   (hk : K.length = 96) (hK : KTab w) (hr2 : RdB w a2 n2 c2 ctx) (hr3 : RdB w a3 n3 c3 plain) (hb : n2 + n3 ≤ 67100000) :
   Calls Tryz.prog 104 #[.agg (bv K).toArray, .int .u8 (k.toNat : Int), .slice a2 n2 c2, .slice a3 n3 c3] w fun e w' => ∃ a n c, e = .returned (.slice a n c) ∧ FreshB w w' a n c (sealF K k ctx plain) := by
 have e2 := hr2.lenB
 have e3 := hr3.lenB
 apply seal_Seal_vc
 obtain ⟨g1, w1, r1, h1⟩ := (St.start w).boxA 28 (bv K)
 have hd := Chg.drew [] w1
 have P20 : ∀ w' g, Chg [] w1 w' → RdB w' (some ⟨g, 0, none⟩) 1 1 [k] → ∃ g2 w'', (Instr.buildSlice 23 3 #[(0, .slice (some ⟨g, 0, none⟩) 1 1), (1, .slice a2 n2 c2), (2, .slice a3 n3 c3)]).run Tryz.prog w' = .ok (.slice (some ⟨g2, 0, none⟩) 3 3) w'' ∧ Chg [] w' w'' ∧
     Rd w'' (some ⟨g2, 0, none⟩) 3 3 1 [.slice (some ⟨g, 0, none⟩) 1 1, .slice a2 n2 c2, .slice a3 n3 c3] ∧ Row2 w'' [.slice (some ⟨g, 0, none⟩) 1 1, .slice a2 n2 c2, .slice a3 n3 c3] [[k], ctx, plain] := fun w' g hc hr => by
   obtain ⟨g2, w2, r2, c2', q2, _⟩ := litC bbT [.slice (some ⟨g, 0, none⟩) 1 1, .slice a2 n2 c2, .slice a3 n3 c3] (by simp [Value.oneCell']) (by simp) w'
   have hcc := h1.chg.trans (hc.trans c2')
   exact ⟨g2, w2, r2, c2', q2, row2_three (hr.keep0 c2') (hr2.keep0 hcc) (hr3.keep0 hcc)⟩
 obtain ⟨P, hP⟩ : ∃ P, packL [[k], ctx, plain] = P := ⟨_, rfl⟩
 have hpl : P.length ≤ 67109864 := by
   have := packL_len [[k], ctx, plain] (by simp; omega)
   rw [hP] at this
   simp at this
   omega
 have Ppk : ∀ w' g2 vs, Rd w' (some ⟨g2, 0, none⟩) 3 3 1 vs → Row2 w' vs [[k], ctx, plain] → Calls Tryz.prog 121 #[.slice (some ⟨g2, 0, none⟩) 3 3] w' fun e w'' => ∃ a n c, e = .returned (.slice a n c) ∧ FreshB w' w'' a n c P := fun w' g2 vs q qr => by
   have := pack_spec _ 3 3 vs [[k], ctx, plain] w' q qr (by simp; omega) (by simp)
   rw [hP] at this; exact this
 have P22 : ∀ w' a n c, RdB w' a n c P → ∃ g2 w'', (Instr.buildSlice 23 1 #[(0, .slice a n c)]).run Tryz.prog w' = .ok (.slice (some ⟨g2, 0, none⟩) 1 1) w'' ∧ Chg [] w' w'' ∧ Rd w'' (some ⟨g2, 0, none⟩) 1 1 1 [.slice a n c] ∧ Row2 w'' [.slice a n c] [P] := fun w' a n c hr => by
   obtain ⟨g2, w2, r2, c2', q2, _⟩ := litC bbT [.slice a n c] (by simp [Value.oneCell']) (by simp) w'
   exact ⟨g2, w2, r2, c2', q2, row2_one (hr.keep0 c2')⟩
 have Pm : ∀ w' g2 vs, Chg [] w1 w' → Rd w' (some ⟨g2, 0, none⟩) 1 1 1 vs → Row2 w' vs [P] → Calls Tryz.prog 120 #[.slice (some ⟨g1, 64, none⟩) 32 32, .slice (some ⟨g2, 0, none⟩) 1 1] w' fun e w'' => e = .returned (.agg (bv (macF (nameK K) P)).toArray) ∧ Chg [] w' w'' := fun w' g2 vs hc q qr => by
   have e1 : [P].flatten = P := by rw [List.flatten_cons, List.flatten_nil, List.append_nil]
   have := mac_spec _ 32 32 (nameK K) _ 1 1 vs [P] w' (hK.keep0 (h1.chg.trans hc)) (macK_rd (h1.same hc) (i := 0) rfl hk).2 (by omega) q qr (by rw [e1]; omega) (by decide)
   rw [e1] at this; exact this
 have hR : ∀ a n c w', FreshB w w' a n c ([k] ++ (macF (nameK K) P).take 12 ++ overF K ((macF (nameK K) P).take 12) plain ++ tagF K k ctx ((macF (nameK K) P).take 12) (overF K ((macF (nameK K) P).take 12) plain)) → ∃ a' n' c', Ending.returned (.slice a n c) = .returned (.slice a' n' c') ∧ FreshB w w' a' n' c' (sealF K k ctx plain) := fun a n c w' hf => ⟨a, n, c, rfl, by rw [sealF, nonceF, hP]; exact hf⟩
 have tail : ∀ g9 w7, St w [] w7 [.arr g1 28 (bv K), .arr g9 22 (bv (List.replicate 32 0))] → sealTail (k.toNat : Int) a2 n2 c2 a3 n3 c3 g1 g9 (bv (macF (nameK K) P)).toArray (fun e w' => ∃ a n c, e = .returned (.slice a n c) ∧ FreshB w w' a n c (sealF K k ctx plain)) w7 := fun g9 w7 h7 =>
   sealTail_of K k a2 n2 c2 ctx a3 n3 c3 plain _ g1 g9 w w7 _ _ hk hK hr2 hr3 hb (macF_len _ _) (by simp) h7 hR
 obtain ⟨g3, w3, r3, c3', q3⟩ := litK k w1.drew
 have d3 := hd.trans c3'
 obtain ⟨g4, w4, r4, c4', q4, qr4⟩ := P20 w3 g3 d3 q3
 have d4 := d3.trans c4'
 refine ⟨g1, w1, r1, by omega, by omega, ⟨_, _, _, _, r3, ⟨_, _, _, _, r4, (Ppk w4 g4 _ q4 qr4).mono ?_, ?_⟩, ?_⟩, ?_⟩
 · rintro e w5 ⟨a5, n5, c5, rfl, hf5⟩
   have d5 := d4.trans hf5.1
   refine ⟨_, _, _, rfl, ?_, ?_⟩
   · obtain ⟨g6, w6, r6, c6', q6, qr6⟩ := P22 w5 _ _ _ hf5.rdB
     have d6 := d5.trans c6'
     refine ⟨_, _, _, _, r6, (Pm w6 g6 _ d6 q6 qr6).mono ?_, ?_⟩
     · rintro e w7 ⟨rfl, c7⟩
       obtain ⟨g9, w9, r9, h9⟩ := (h1.same (d6.trans c7)).zeroA d32Z
       exact ⟨_, rfl, g9, w9, r9, tail g9 w9 h9⟩
     · obtain ⟨g9, w9, r9, h9, c9⟩ := (h1.same d6).zeroAC d32Z
       refine ⟨g9, w9, r9, (Pm w9 g6 _ (d6.trans c9) (q6.keep0 c9) (qr6.keep0 c9)).mono ?_⟩
       rintro e w10 ⟨rfl, c10⟩
       exact ⟨_, rfl, tail g9 w10 (h9.same c10)⟩
   · obtain ⟨g9, w9, r9, h9, c9⟩ := (h1.same d5).zeroAC d32Z
     obtain ⟨g6, w6, r6, c6', q6, qr6⟩ := P22 w9 _ _ _ (hf5.rdB.keep0 c9)
     refine ⟨g9, w9, r9, _, _, _, _, r6, (Pm w6 g6 _ ((d5.trans c9).trans c6') q6 qr6).mono ?_⟩
     rintro e w10 ⟨rfl, c10⟩
     exact ⟨_, rfl, tail g9 w10 (h9.same (c6'.trans c10))⟩
 · obtain ⟨g9, w9, r9, h9, c9⟩ := (h1.same d4).zeroAC d32Z
   refine ⟨g9, w9, r9, (Ppk w9 g4 _ (q4.keep0 c9) (qr4.keep0 c9)).mono ?_⟩
   rintro e w5 ⟨a5, n5, c5, rfl, hf5⟩
   have d5 := (d4.trans c9).trans hf5.1
   obtain ⟨g6, w6, r6, c6', q6, qr6⟩ := P22 w5 _ _ _ hf5.rdB
   refine ⟨_, _, _, rfl, _, _, _, _, r6, (Pm w6 g6 _ (d5.trans c6') q6 qr6).mono ?_⟩
   rintro e w10 ⟨rfl, c10⟩
   exact ⟨_, rfl, tail g9 w10 (h9.same (hf5.1.trans (c6'.trans c10)))⟩
 · obtain ⟨g9, w9, r9, h9, c9⟩ := (h1.same d3).zeroAC d32Z
   obtain ⟨g4, w4, r4, c4', q4, qr4⟩ := P20 w9 g3 (d3.trans c9) (q3.keep0 c9)
   refine ⟨g9, w9, r9, _, _, _, _, r4, (Ppk w4 g4 _ q4 qr4).mono ?_⟩
   rintro e w5 ⟨a5, n5, c5, rfl, hf5⟩
   have d5 := ((d3.trans c9).trans c4').trans hf5.1
   obtain ⟨g6, w6, r6, c6', q6, qr6⟩ := P22 w5 _ _ _ hf5.rdB
   refine ⟨_, _, _, rfl, _, _, _, _, r6, (Pm w6 g6 _ (d5.trans c6') q6 qr6).mono ?_⟩
   rintro e w10 ⟨rfl, c10⟩
   exact ⟨_, rfl, tail g9 w10 (h9.same ((c4'.trans hf5.1).trans (c6'.trans c10)))⟩
 · obtain ⟨g9, w9, r9, h9, c9⟩ := (h1.same hd).zeroAC d32Z
   obtain ⟨g3, w3, r3, c3', q3⟩ := litK k w9
   have d3 := (hd.trans c9).trans c3'
   obtain ⟨g4, w4, r4, c4', q4, qr4⟩ := P20 w3 g3 d3 q3
   refine ⟨g9, w9, r9, _, _, _, _, r3, _, _, _, _, r4, (Ppk w4 g4 _ q4 qr4).mono ?_⟩
   rintro e w5 ⟨a5, n5, c5, rfl, hf5⟩
   have d5 := (d3.trans c4').trans hf5.1
   obtain ⟨g6, w6, r6, c6', q6, qr6⟩ := P22 w5 _ _ _ hf5.rdB
   refine ⟨_, _, _, rfl, _, _, _, _, r6, (Pm w6 g6 _ (d5.trans c6') q6 qr6).mono ?_⟩
   rintro e w10 ⟨rfl, c10⟩
   exact ⟨_, rfl, tail g9 w10 (h9.same ((c3'.trans (c4'.trans hf5.1)).trans (c6'.trans c10)))⟩

def openE (K : List UInt8) (kind : UInt8) (ctx b : List UInt8) : Option Int := if (openF K kind ctx b).isSome then none else some 10

theorem open_spec (K : List UInt8) (k : UInt8) (a2 : Option Addr) (n2 c2 : Nat) (ctx : List UInt8) (a3 : Option Addr) (n3 c3 : Nat) (b : List UInt8) (w : World)
   (hk : K.length = 96) (hK : KTab w) (hr2 : RdB w a2 n2 c2 ctx) (hr3 : RdB w a3 n3 c3 b) (hb : n2 + n3 ≤ 67100000) :
   Calls Tryz.prog 57 #[.agg (bv K).toArray, .int .u8 (k.toNat : Int), .slice a2 n2 c2, .slice a3 n3 c3] w fun e w' => ∃ a n c, e = .returned (.tuple #[.slice a n c, errV (openE K k ctx b)]) ∧ FreshB w w' a n c ((openF K k ctx b).getD []) := by
 have e2 := hr2.lenB
 have e3 := hr3.lenB
 have hle := hr3.le
 apply seal_Open_vc
 obtain ⟨g1, w1, r1, h1⟩ := (St.start w).boxA 28 (bv K)
 have bad : ∀ w', Chg [] w w' → openF K k ctx b = none → ∃ a n c, Ending.returned (.tuple #[.slice none 0 0, .iface 69 (.int .i64 10)]) = .returned (.tuple #[.slice a n c, errV (openE K k ctx b)]) ∧ FreshB w w' a n c ((openF K k ctx b).getD []) := fun w' hc hn => by
   refine ⟨none, 0, 0, ?_, ?_⟩
   · rw [openE, hn]; rfl
   · rw [hn]; exact ⟨hc, rfl, World.ownsRow_nil _ _ _ _⟩
 refine ⟨g1, w1, r1, fun x w' => x = decide (b.length < 45 ∨ b.getD 0 0 ≠ k) ∧ w' = w1, ⟨fun h => ?_, fun h => ?_⟩, ?_⟩
 · have : b.length < 45 := by simp at h; omega
   exact ⟨by simp [this], rfl⟩
 · have h45 : ¬ b.length < 45 := by simp at h; omega
   refine ixB (bA _) (h1.rd1 hr3).cells e3 (by omega) (by omega) fun bl o hbo => ⟨?_, rfl⟩
   have : (0 : Int).toNat = 0 := rfl
   rw [this]
   by_cases hx : b.getD 0 0 = k
   · rw [hx]; simp [h45]
   · have hx2 : ((b.getD 0 0).toNat : Int) ≠ (k.toNat : Int) := fun e => hx (by apply UInt8.toNat_inj.1; omega)
     rw [bne_iff_ne.2 hx2]
     exact (decide_eq_true (.inr hx)).symm
 rintro x w2 ⟨rfl, rfl⟩
 refine ⟨fun h => bad _ h1.chg ?_, fun h => ?_⟩
 · have h' : b.length < 45 ∨ b.getD 0 0 ≠ k := by simpa using h
   rw [openF, if_pos h']
 have h' : ¬ (b.length < 45 ∨ b.getD 0 0 ≠ k) := by simpa using h
 have hof : openF K k ctx b = if tagF K k ctx (bNonce b) (bBody b) = bTag b then some (overF K (bNonce b) (bBody b)) else none := by rw [openF, if_neg h']
 have h45 : 45 ≤ b.length := by
   rcases Nat.lt_or_ge b.length 45 with h | h
   · exact absurd (.inl h) h'
   · exact h
 clear h h'
 have hw : IntKind.wrap .i64 ((n3 : Int) - 32) = ((n3 - 32 : Nat) : Int) := by rw [wrap_i64 (by omega) (by omega)]; omega
 rw [hw]
 have hdw := Chg.drew [] w2
 have h1d := h1.same hdw
 refine ⟨by omega, by omega, by omega, fun t29 hs29 => ⟨by omega, by omega, by omega, fun t32 hs32 => ?_⟩⟩
 have q3 := h1d.rd1 hr3
 have qn : RdB w2.drew t29 12 (c3 - 1) (bNonce b) := by
   have := q3.sub hs29 (hh := 13) (by omega) (by omega) (by omega) (Nat.le_refl _)
   have e1 : ((bv b).drop (1 * 1)).take ((13 - 1) * 1) = bv (bNonce b) := by rw [bNonce, bv_take, bv_drop]
   rw [e1] at this
   exact this
 have qb : RdB w2.drew t32 (n3 - 32 - 13) (c3 - 13) (bBody b) := by
   have := q3.sub hs32 (hh := n3 - 32) (by omega) (by omega) (by omega) (Nat.le_refl _)
   have e1 : ((bv b).drop (13 * 1)).take ((n3 - 32 - 13) * 1) = bv (bBody b) := by rw [bBody, bv_take, bv_drop, e3]; congr 1; omega
   rw [e1] at this
   exact this
 have hl4 : ∀ w', Chg [] w2.drew w' → (Instr.loadAt 28 (.pointer (some ⟨g1, 0, none⟩))).run Tryz.prog w' = .ok (.agg (bv K).toArray) w' := fun w' hc => (h1d.same hc).ldA (i := 0) (l := bv K) rfl (kyA _) (kyS _) (by simp [hk])
 rw [Int.toNat_natCast]
 refine ⟨_, hl4 _ (Chg.refl _ _), (tag_spec K k a2 n2 c2 ctx t29 12 (c3 - 1) (bNonce b) t32 (n3 - 32 - 13) (c3 - 13) (bBody b) _ hk (hK.keep0 h1d.chg) (h1d.rd1 hr2) qn qb (by omega)).mono ?_⟩
 rintro e w3 ⟨rfl, c3'⟩
 obtain ⟨tg, htg⟩ : ∃ t, tagF K k ctx (bNonce b) (bBody b) = t := ⟨_, rfl⟩
 have htl : tg.length = 32 := by rw [← htg]; simp
 rw [htg] at hof ⊢
 obtain ⟨g4, w4, r4, h4⟩ := (St.start w2.drew |>.same c3').zeroA d32Z
 obtain ⟨w5, r5, h5⟩ := h4.stA (i := 0) (v := bv tg) rfl (d32S _) (by simp) (by simp [htl]) (bv_one _)
 have h5d := h5.drew
 refine ⟨_, rfl, g4, w4, r4, w5, r5, by omega, by omega, by omega, by omega, by omega, fun t42 hs42 => ?_⟩
 have qt : RdB w5.drew t42 (n3 - (n3 - 32)) (c3 - (n3 - 32)) (bTag b) := by
   have := (q3.keep0 h5d.chg).sub hs42 (hh := n3) (by omega) (Nat.le_refl _) (by omega) (Nat.le_refl _)
   have e1 : ((bv b).drop ((n3 - 32) * 1)).take ((n3 - (n3 - 32)) * 1) = bv (bTag b) := by
     rw [bTag, bv_drop, e3, List.take_of_length_le (by simp; omega)]; congr 1; omega
   rw [e1] at this
   exact this
 refine (equal_spec _ 32 32 tg t42 _ _ (bTag b) _ (h5d.rdA (i := 0) rfl (by simp [htl])) qt (by omega)).mono ?_
 rintro e w6 ⟨rfl, c6⟩
 have d6 := h5d.chg.trans c6
 refine ⟨_, rfl, fun h => bad _ (h1d.chg.trans d6) ?_, fun h => ?_⟩
 · have : ¬ tg = bTag b := by simpa using h
   rw [hof, if_neg this]
 · have ht : tg = bTag b := by simpa using h
   rw [if_pos ht] at hof
   refine ⟨_, hl4 _ d6, (over_spec' K t29 (c3 - 1) (bNonce b) t32 (n3 - 32 - 13) (c3 - 13) (bBody b) w6 hk (qn.keep0 d6) (qb.keep0 d6) (by omega)).mono ?_⟩
   rintro e w7 ⟨a7, n7, c7, rfl, hf7⟩
   refine ⟨_, _, _, rfl, a7, n7, c7, ?_, ?_⟩
   · rw [openE, hof]; rfl
   · rw [hof]
     exact FreshB.after hf7 (h1d.chg.trans d6)

end Go.Proofs.YtmdandkoajocpaaGreatDoor
end

section
namespace Go.Proofs.YtmdandkoajocpaaGreatDoor
open Go Sx
set_option maxRecDepth 8000
set_option maxRecDepth 100000

theorem xorL_two (key nonce : List UInt8) (p : Nat) (l : List UInt8) : xorL key nonce p (xorL key nonce p l) = l := by
 apply List.ext_getElem?
 intro i
 simp only [xorL, List.getElem?_mapIdx]
 cases l[i]? with
 | none => rfl
 | some b => simp [UInt8.xor_assoc]

theorem overF_two (K nonce plain : List UInt8) (h : plain.length ≤ 274877906944) : overF K nonce (overF K nonce plain) = plain ∧ (overF K nonce plain).length = plain.length := by
 have h1 : ∀ l : List UInt8, l.length ≤ 274877906944 → overF K nonce l = xorL (ciphK K) nonce 0 l := fun l hl => by
   have : roomF 0 l.length = true := by simp [roomF]; omega
   rw [overF, xorR, if_pos this]; rfl
 rw [h1 plain h, h1 _ (by rw [xorL_len]; exact h), xorL_two, xorL_len]
 exact ⟨rfl, rfl⟩

theorem sealF_len (K : List UInt8) (k : UInt8) (ctx plain : List UInt8) (h : plain.length ≤ 274877906944) : (sealF K k ctx plain).length = plain.length + 45 := by
 simp [sealF, (overF_two K (nonceF K k ctx plain) plain h).2]; omega

theorem sealF_parts (K : List UInt8) (k : UInt8) (ctx plain : List UInt8) (h : plain.length ≤ 274877906944) : (sealF K k ctx plain).getD 0 0 = k ∧ bNonce (sealF K k ctx plain) = nonceF K k ctx plain ∧ bBody (sealF K k ctx plain) = overF K (nonceF K k ctx plain) plain ∧
   bTag (sealF K k ctx plain) = tagF K k ctx (nonceF K k ctx plain) (overF K (nonceF K k ctx plain) plain) := by
 have hl := sealF_len K k ctx plain h
 have h2 := (overF_two K (nonceF K k ctx plain) plain h).2
 have hn := nonceF_len K k ctx plain
 obtain ⟨nn, hnn⟩ : ∃ n, nonceF K k ctx plain = n := ⟨_, rfl⟩
 obtain ⟨bd, hbd⟩ : ∃ n, overF K nn plain = n := ⟨_, rfl⟩
 rw [hnn] at h2 hn ⊢
 rw [hbd] at h2 ⊢
 obtain ⟨tg, htg⟩ : ∃ n, tagF K k ctx nn bd = n := ⟨_, rfl⟩
 have ht : tg.length = 32 := by rw [← htg]; simp
 have hs : sealF K k ctx plain = [k] ++ nn ++ bd ++ tg := by rw [sealF, hnn, hbd, htg]
 rw [htg]
 rw [bBody, bTag, hl, hs, bNonce]
 have d1 : ([k] ++ nn ++ bd ++ tg).drop 1 = nn ++ (bd ++ tg) := by simp
 have d13 : ([k] ++ nn ++ bd ++ tg).drop 13 = bd ++ tg := by
   rw [List.append_assoc]; exact List.drop_left' (by simp [hn])
 refine ⟨by simp, ?_, ?_, ?_⟩
 · rw [d1]; exact List.take_left' hn
 · rw [d13]; exact List.take_left' (by omega)
 · exact List.drop_left' (by simp [hn, h2]; omega)

theorem open_sealF (K : List UInt8) (k : UInt8) (ctx plain : List UInt8) (h : plain.length ≤ 274877906944) : openF K k ctx (sealF K k ctx plain) = some plain := by
 obtain ⟨p1, p2, p3, p4⟩ := sealF_parts K k ctx plain h
 have hl := sealF_len K k ctx plain h
 rw [openF, if_neg (by rw [p1, hl]; simp), p2, p3, p4, if_pos rfl, (overF_two K _ plain h).1]

end Go.Proofs.YtmdandkoajocpaaGreatDoor
end

section
namespace Go.Proofs.YtmdandkoajocpaaGreatDoor
open Go Sx
set_option maxRecDepth 8000

theorem Sx.St.appendRdB {w0 w : World} {X : List Nat} {M : List Res} (h : St w0 X w M) {b a : Option Addr} {n vc m c : Nat} {xs l : List UInt8} (hv : RdB w b n vc xs) (hb0 : b ≠ none) (hr : RdB w a m c l) (hroom : vc < n + m) (hb : n + m ≤ 140737488355000) :
   ∃ va' vc' w', (Builtin.append_ #[33, 33] 33 #[.slice b n vc, .slice a m c]).run Tryz.prog w = .ok (.slice va' (n + m) vc') w' ∧ St w0 X w' (M ++ [.row 5 1 (.slice va' (n + m) vc') (n + m) (bv (xs ++ l))]) := by
 obtain ⟨inf, hinf, hz, hsz, hby⟩ := (bT).inf
 have hle := hv.le
 have hle2 := hr.le
 have lv := hv.lenB
 have lr := hr.lenB
 cases b with
 | none => exact absurd rfl hb0
 | some bd =>
   cases a with
   | none => have := hr.nil rfl; omega
   | some ad =>
     have holds : ∀ j u, (bv xs)[j]? = some u → w.cell? (bd.add j) = some u := by
       intro j u hu
       obtain ⟨b, o, he, hc⟩ := hv.cells.at_ hu
       simp only [Option.some.injEq] at he
       subst he
       rw [Addr.add_mid]
       exact hc
     have hnews : ∀ j u, (bv l)[j]? = some u → w.cell? (ad.add j) = some u := by
       intro j u hu
       obtain ⟨b, o, he, hc⟩ := hr.cells.at_ hu
       simp only [Option.some.injEq] at he
       subst he
       rw [Addr.add_mid]
       exact hc
     have hr2 := run_append_grow (P := Tryz.prog) w 33 33 5 inf (.int .u8 0) (bT).ht hinf hz bd n vc (bv xs) (by rw [hsz, bv_length]; omega) holds ad m c (bv l) (by rw [hsz, bv_length]; omega) hnews hroom (by omega) (growslice_fits (by omega) (by rw [hby]; omega))
     have hge := grownCap_ge w (n + m) vc 5
     have hm : n + m ≤ maxLen := by simp only [maxLen]; omega
     have hcm := grownCap_le_maxLen w (n + m) vc 5 hm
     have hlen : (bv xs ++ bv l).length = (n + m) * 1 := by simp; omega
     refine ⟨_, _, _, hr2, h.add ((Chg.drew [] w).trans (Chg.alloc _ _)) ⟨by simpa using hlen, .inr ⟨w.heap.size, _, _, rfl, Nat.zero_le _, heap_alloc_new w.drew _, hge, hcm, ?_, ?_⟩⟩ (by simp [Res.fp, Value.ownBlock])⟩
     · simp only [Array.size_append, List.size_toArray, size_zeroCells, bv_length, (bT).zs]
       omega
     · simp only [Array.toList_append, bv_append]
       exact List.take_left' hlen

end Go.Proofs.YtmdandkoajocpaaGreatDoor
end
