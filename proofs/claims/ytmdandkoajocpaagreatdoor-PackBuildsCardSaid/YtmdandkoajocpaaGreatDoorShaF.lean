/- SHA-256, HMAC and HKDF in plain numbers (conditions: none). -/
import Derived.Test.YtmdandkoajocpaaGreatDoorWords
namespace Go.Proofs.YtmdandkoajocpaaGreatDoor
open Go Sx
set_option maxRecDepth 8000

def rotr (x n : Nat) : Nat := (x * 2 ^ (32 - n) % 4294967296) ||| (x / 2 ^ n)
theorem rotr_lt {x : Nat} (n : Nat) (h : x < 4294967296) : rotr x n < 4294967296 := Nat.or_lt_two_pow (n := 32) (Nat.mod_lt _ (by decide)) (Nat.lt_of_le_of_lt (Nat.div_le_self _ _) h)
theorem shr_lt {x : Nat} (n : Nat) (h : x < 4294967296) : x / 2 ^ n < 4294967296 := Nat.lt_of_le_of_lt (Nat.div_le_self _ _) h
theorem and_lt {a : Nat} (b : Nat) (h : a < 4294967296) : a &&& b < 4294967296 := Nat.lt_of_le_of_lt Nat.and_le_left h

def sg0 (x : Nat) : Nat := rotr x 7 ^^^ rotr x 18 ^^^ (x / 2 ^ 3)
def sg1 (x : Nat) : Nat := rotr x 17 ^^^ rotr x 19 ^^^ (x / 2 ^ 10)
def bg0 (x : Nat) : Nat := rotr x 2 ^^^ rotr x 13 ^^^ rotr x 22
def bg1 (x : Nat) : Nat := rotr x 6 ^^^ rotr x 11 ^^^ rotr x 25
def chF (e f g : Nat) : Nat := (e &&& f) ^^^ ((4294967295 ^^^ e) &&& g)
def majF (a b c : Nat) : Nat := ((a &&& b) ^^^ (a &&& c)) ^^^ (b &&& c)

/-- Four bytes as a word, the greatest first. -/
def be4 (l : List UInt8) (o : Nat) : Nat := (((l.getD o 0).toNat * 256 + (l.getD (o + 1) 0).toNat) * 256 + (l.getD (o + 2) 0).toNat) * 256 + (l.getD (o + 3) 0).toNat
theorem be4_lt (l : List UInt8) (o : Nat) : be4 l o < 4294967296 := by
  have h0 := (l.getD o 0).toNat_lt
  have h1 := (l.getD (o + 1) 0).toNat_lt
  have h2 := (l.getD (o + 2) 0).toNat_lt
  have h3 := (l.getD (o + 3) 0).toNat_lt
  unfold be4; omega

theorem or_sum (a b n : Nat) (h : b < 2 ^ n) : a * 2 ^ n ||| b = a * 2 ^ n + b := by
  have := Nat.shiftLeft_add_eq_or_of_lt h a
  rw [Nat.shiftLeft_eq] at this
  exact this.symm

def kTab : List Nat := [1116352408, 1899447441, 3049323471, 3921009573, 961987163, 1508970993, 2453635748, 2870763221, 3624381080, 310598401, 607225278, 1426881987, 1925078388, 2162078206, 2614888103, 3248222580, 3835390401, 4022224774, 264347078, 604807628, 770255983, 1249150122, 1555081692, 1996064986, 2554220882, 2821834349, 2952996808, 3210313671, 3336571891, 3584528711, 113926993, 338241895, 666307205, 773529912, 1294757372, 1396182291, 1695183700, 1986661051, 2177026350, 2456956037, 2730485921, 2820302411, 3259730800, 3345764771, 3516065817, 3600352804, 4094571909, 275423344, 430227734, 506948616, 659060556, 883997877, 958139571, 1322822218, 1537002063, 1747873779, 1955562222, 2024104815, 2227730452, 2361852424, 2428436474, 2756734187, 3204031479, 3329325298]
theorem kTab_len : kTab.length = 64 := rfl
theorem lt32_of_all {l : List Nat} (h : l.all (· < 4294967296) = true) : Lt32 l := by
  intro i
  by_cases hi : i < l.length
  · have := List.all_eq_true.1 h l[i] (List.getElem_mem hi)
    simp only [List.getD, List.getElem?_eq_getElem hi, Option.getD_some]
    simpa using this
  · rw [List.getD, List.getElem?_eq_none (by omega)]; decide
theorem kTab_lt : Lt32 kTab := lt32_of_all (by decide)
def h0L : List Nat := [1779033703, 3144134277, 1013904242, 2773480762, 1359893119, 2600822924, 528734635, 1541459225]
theorem h0L_lt : Lt32 h0L := lt32_of_all (by decide)

/-- The schedule, filled up to k. -/
def nextW (w : List Nat) (t : Nat) : Nat := add32 (add32 (add32 (sg1 (w.getD (t - 2) 0)) (w.getD (t - 7) 0)) (sg0 (w.getD (t - 15) 0))) (w.getD (t - 16) 0)
def schedK (b : List UInt8) : Nat → List Nat
  | 0 => List.replicate 64 0
  | k + 1 => (schedK b k).set k (if k < 16 then be4 b (4 * k) else nextW (schedK b k) k)
@[simp] theorem schedK_len (b : List UInt8) : ∀ k, (schedK b k).length = 64
  | 0 => by simp [schedK]
  | k + 1 => by simp [schedK, schedK_len b k]
theorem lt32_zero (n : Nat) : Lt32 (List.replicate n 0) := by
  intro i
  by_cases h : i < n
  · simp [List.getD, h]
  · rw [List.getD, List.getElem?_eq_none (by simpa using h)]; decide
theorem schedK_lt (b : List UInt8) : ∀ k, Lt32 (schedK b k)
  | 0 => lt32_zero 64
  | k + 1 => by
    refine (schedK_lt b k).set k ?_
    split
    · exact be4_lt _ _
    · exact add32_lt _ _

/-- A round. -/
def rT1 (kt wt : Nat) (v : List Nat) : Nat := add32 (add32 (add32 (add32 (v.getD 7 0) (bg1 (v.getD 4 0))) (chF (v.getD 4 0) (v.getD 5 0) (v.getD 6 0))) kt) wt
def rT2 (v : List Nat) : Nat := add32 (bg0 (v.getD 0 0)) (majF (v.getD 0 0) (v.getD 1 0) (v.getD 2 0))
def roundL (kt wt : Nat) (v : List Nat) : List Nat := [add32 (rT1 kt wt v) (rT2 v), v.getD 0 0, v.getD 1 0, v.getD 2 0, add32 (v.getD 3 0) (rT1 kt wt v), v.getD 4 0, v.getD 5 0, v.getD 6 0]
theorem roundL_g0 (kt wt : Nat) (v : List Nat) : (roundL kt wt v).getD 0 0 = add32 (add32 (add32 (add32 (add32 (v.getD 7 0) (bg1 (v.getD 4 0))) (chF (v.getD 4 0) (v.getD 5 0) (v.getD 6 0))) kt) wt) (add32 (bg0 (v.getD 0 0)) (majF (v.getD 0 0) (v.getD 1 0) (v.getD 2 0))) := by
  simp only [roundL, rT1, rT2, List.getD_cons_zero]
theorem roundL_g4 (kt wt : Nat) (v : List Nat) : (roundL kt wt v).getD 4 0 = add32 (v.getD 3 0) (add32 (add32 (add32 (add32 (v.getD 7 0) (bg1 (v.getD 4 0))) (chF (v.getD 4 0) (v.getD 5 0) (v.getD 6 0))) kt) wt) := by
  simp only [roundL, rT1, List.getD_cons_zero, List.getD_cons_succ]
theorem roundL_gs (kt wt : Nat) (v : List Nat) : (roundL kt wt v).getD 1 0 = v.getD 0 0 ∧ (roundL kt wt v).getD 2 0 = v.getD 1 0 ∧ (roundL kt wt v).getD 3 0 = v.getD 2 0 ∧ (roundL kt wt v).getD 5 0 = v.getD 4 0 ∧ (roundL kt wt v).getD 6 0 = v.getD 5 0 ∧ (roundL kt wt v).getD 7 0 = v.getD 6 0 := by
  simp only [roundL, List.getD_cons_zero, List.getD_cons_succ, and_self]
def rounds (w v : List Nat) : Nat → List Nat
  | 0 => v
  | t + 1 => roundL (kTab.getD t 0) (w.getD t 0) (rounds w v t)
theorem rounds_len (w : List Nat) {v : List Nat} (h : v.length = 8) : ∀ t, (rounds w v t).length = 8
  | 0 => h
  | t + 1 => by simp [rounds, roundL]
theorem lt32_of_mem {l : List Nat} (h : ∀ x ∈ l, x < 4294967296) : Lt32 l := by
  intro i
  by_cases hi : i < l.length
  · have := h l[i] (List.getElem_mem hi)
    simp only [List.getD, List.getElem?_eq_getElem hi, Option.getD_some]
    exact this
  · rw [List.getD, List.getElem?_eq_none (by omega)]; decide
theorem roundL_lt (kt wt : Nat) {v : List Nat} (h : Lt32 v) : Lt32 (roundL kt wt v) := by
  apply lt32_of_mem
  intro x hx
  simp only [roundL, List.mem_cons, List.not_mem_nil, or_false] at hx
  rcases hx with rfl | rfl | rfl | rfl | rfl | rfl | rfl | rfl
  · exact add32_lt _ _
  · exact h 0
  · exact h 1
  · exact h 2
  · exact add32_lt _ _
  · exact h 4
  · exact h 5
  · exact h 6
theorem rounds_lt (w : List Nat) {v : List Nat} (h : Lt32 v) : ∀ t, Lt32 (rounds w v t)
  | 0 => h
  | t + 1 => roundL_lt _ _ (rounds_lt w h t)

theorem zip_len {x y : List Nat} (hx : x.length = 8) (hy : y.length = 8) : (List.zipWith add32 x y).length = 8 := by simp [hx, hy]
theorem zip_get {x y : List Nat} (hx : x.length = 8) (hy : y.length = 8) {i : Nat} (hi : i < 8) : (List.zipWith add32 x y)[i]? = some (add32 (x.getD i 0) (y.getD i 0)) := by
  simp [List.getElem?_zipWith, List.getD, show i < x.length by omega, show i < y.length by omega]

/-- A block is taken. -/
def compress (h : List Nat) (b : List UInt8) : List Nat := List.zipWith add32 h (rounds (schedK b 64) h 64)
theorem compress_len {h : List Nat} (hl : h.length = 8) (b : List UInt8) : (compress h b).length = 8 := zip_len hl (rounds_len (schedK b 64) hl 64)
theorem compress_get {h : List Nat} (hl : h.length = 8) (b : List UInt8) {i : Nat} (hi : i < 8) : (compress h b)[i]? = some (add32 (h.getD i 0) ((rounds (schedK b 64) h 64).getD i 0)) := zip_get hl (rounds_len (schedK b 64) hl 64) hi
theorem compress_lt {h : List Nat} (hl : h.length = 8) (b : List UInt8) : Lt32 (compress h b) := by
  intro i
  by_cases hi : i < 8
  · rw [List.getD, compress_get hl b hi]; exact add32_lt _ _
  · rw [List.getD, List.getElem?_eq_none (by rw [compress_len hl]; omega)]; decide

/-- k blocks are taken. -/
def blocksF : Nat → List Nat → List UInt8 → List Nat
  | 0, h, _ => h
  | k + 1, h, l => blocksF k (compress h (l.take 64)) (l.drop 64)
theorem blocksF_len : ∀ (k : Nat) {h : List Nat} (l : List UInt8), h.length = 8 → (blocksF k h l).length = 8
  | 0, _, _, h => h
  | k + 1, _, l, h => blocksF_len k _ (compress_len h _)
theorem blocksF_lt : ∀ (k : Nat) {h : List Nat} (l : List UInt8), h.length = 8 → Lt32 h → Lt32 (blocksF k h l)
  | 0, _, _, _, h => h
  | k + 1, _, l, hl, h => blocksF_lt k _ (compress_len hl _) (compress_lt hl _)
theorem blocksF_snoc : ∀ (k : Nat) (h : List Nat) (l : List UInt8), blocksF (k + 1) h l = compress (blocksF k h l) ((l.drop (64 * k)).take 64)
  | 0, h, l => by simp [blocksF]
  | k + 1, h, l => by
    rw [blocksF, blocksF_snoc k, List.drop_drop, blocksF, show 64 + 64 * k = 64 * (k + 1) by omega]
theorem blocksF_app : ∀ (k : Nat) (h : List Nat) (l m : List UInt8), 64 * k ≤ l.length → blocksF k h (l ++ m) = blocksF k h l
  | 0, _, _, _, _ => rfl
  | k + 1, h, l, m, hk => by
    rw [blocksF, blocksF, List.take_append_of_le_length (by omega), List.drop_append_of_le_length (by omega), blocksF_app k _ _ _ (by simp; omega)]

/-- The state behind a message: the words, and the bytes that wait. -/
def hOf (m : List UInt8) : List Nat := blocksF (m.length / 64) h0L m
def rOf (m : List UInt8) : List UInt8 := m.drop (64 * (m.length / 64))
theorem hOf_len (m : List UInt8) : (hOf m).length = 8 := blocksF_len _ _ rfl
theorem hOf_lt (m : List UInt8) : Lt32 (hOf m) := blocksF_lt _ _ rfl h0L_lt
theorem rOf_len (m : List UInt8) : (rOf m).length = m.length % 64 := by simp [rOf]; omega
theorem rOf_nil : rOf [] = [] := rfl
theorem hOf_nil : hOf [] = h0L := rfl

/-- Too few bytes for a block. -/
theorem hOf_few {m b : List UInt8} (h : m.length % 64 + b.length < 64) : hOf (m ++ b) = hOf m ∧ rOf (m ++ b) = rOf m ++ b := by
  have e : (m ++ b).length / 64 = m.length / 64 := by rw [List.length_append]; omega
  refine ⟨?_, ?_⟩
  · rw [hOf, e, blocksF_app _ _ _ _ (by omega)]; rfl
  · rw [rOf, e, List.drop_append_of_le_length (by omega)]; rfl

/-- Bytes that fill a block. -/
theorem hOf_fill {m b : List UInt8} (h : m.length % 64 + b.length = 64) : hOf (m ++ b) = compress (hOf m) (rOf m ++ b) ∧ rOf (m ++ b) = [] := by
  have e : (m ++ b).length / 64 = m.length / 64 + 1 := by rw [List.length_append]; omega
  have hr := rOf_len m
  refine ⟨?_, ?_⟩
  · rw [hOf, e, blocksF_snoc, blocksF_app _ _ _ _ (by omega), List.drop_append_of_le_length (by omega)]
    show compress _ ((rOf m ++ b).take 64) = _
    rw [List.take_of_length_le (by rw [List.length_append]; omega)]
    rfl
  · rw [rOf, e, List.drop_of_length_le (by rw [List.length_append]; omega)]

/-- The digest's bytes. -/
def digB (h : List Nat) (i : Nat) : UInt8 := UInt8.ofNat (h.getD (i / 4) 0 / 2 ^ (24 - 8 * (i % 4)) % 256)
def digL (h : List Nat) : List UInt8 := (List.range 32).map (digB h)
@[simp] theorem digL_len (h : List Nat) : (digL h).length = 32 := by simp [digL]
theorem digL_get (h : List Nat) {i : Nat} (hi : i < 32) : (digL h)[i]? = some (digB h i) := by simp [digL, hi]

/-- What stands behind a message of n bytes. -/
def lenB (n i : Nat) : UInt8 := UInt8.ofNat (n * 8 % 18446744073709551616 / 2 ^ (56 - 8 * i) % 256)
def zerosN (n : Nat) : Nat := (119 - n % 64) % 64
def padL (n : Nat) : List UInt8 := 0x80 :: (List.replicate (zerosN n) 0 ++ (List.range 8).map (lenB n))
theorem padL_len (n : Nat) : (padL n).length = 9 + zerosN n := by simp [padL]; omega
theorem zerosN_lt (n : Nat) : zerosN n < 64 := Nat.mod_lt _ (by decide)
theorem padL_mod (n : Nat) : (n + (padL n).length) % 64 = 0 := by rw [padL_len, zerosN]; omega

/-- SHA-256. -/
def shaF (m : List UInt8) : List UInt8 := digL (hOf (m ++ padL m.length))
@[simp] theorem shaF_len (m : List UInt8) : (shaF m).length = 32 := by simp [shaF]

/-- HMAC. -/
def macK (key : List UInt8) : List UInt8 := let k := if 64 < key.length then shaF key else key; k ++ List.replicate (64 - k.length) 0
theorem macK_len (key : List UInt8) : (macK key).length = 64 := by
  simp only [macK]
  split <;> simp <;> omega
def macF (key m : List UInt8) : List UInt8 := shaF ((macK key).map (· ^^^ 0x5c) ++ shaF ((macK key).map (· ^^^ 0x36) ++ m))
@[simp] theorem macF_len (key m : List UInt8) : (macF key m).length = 32 := by simp [macF]

/-- HKDF. -/
def tF (prk info : List UInt8) : Nat → List UInt8
  | 0 => []
  | i + 1 => macF prk (tF prk info i ++ info ++ [UInt8.ofNat (i + 1)])
def outF (prk info : List UInt8) : Nat → List UInt8
  | 0 => []
  | i + 1 => outF prk info i ++ tF prk info (i + 1)
@[simp] theorem outF_len (prk info : List UInt8) : ∀ i, (outF prk info i).length = 32 * i
  | 0 => rfl
  | i + 1 => by simp [outF, tF, outF_len prk info i]; omega
def deriveF (salt secret info : List UInt8) (n : Nat) : List UInt8 := (outF (macF salt secret) info ((n + 31) / 32)).take n
theorem deriveF_len (salt secret info : List UInt8) (n : Nat) : (deriveF salt secret info n).length = n := by simp [deriveF]; omega

end Go.Proofs.YtmdandkoajocpaaGreatDoor
