/- Contracts, several texts in one (conditions: those that each theorem names). -/
import Derived.Test.YtmdandkoajocpaaGreatDoorSxMem
import Derived.Test.YtmdandkoajocpaaGreatDoorSxSeat
import Derived.Test.YtmdandkoajocpaaGreatDoorNum
import Derived.Test.YtmdandkoajocpaaGreatDoorVwire
import Derived.Test.YtmdandkoajocpaaGreatDoorClone
import Derived.Test.YtmdandkoajocpaaGreatDoorApart
namespace Go.Proofs.YtmdandkoajocpaaGreatDoor
open Go Sx
set_option maxRecDepth 8000

/-- A short number's bytes. -/
def varL (n : Nat) : List UInt8 := if h : n < 128 then [UInt8.ofNat n] else UInt8.ofNat (n % 128 + 128) :: varL (n / 128)
termination_by n
decreasing_by omega

theorem varL_small {n : Nat} (h : n < 128) : varL n = [UInt8.ofNat n] := by rw [varL]; simp [h]
theorem varL_big {n : Nat} (h : ¬ n < 128) : varL n = UInt8.ofNat (n % 128 + 128) :: varL (n / 128) := by rw [varL]; simp [h]
theorem varL_pos (n : Nat) : 0 < (varL n).length := by rw [varL]; split <;> simp

theorem varL_len : ∀ (k n : Nat), n < 128 ^ k → 0 < k → (varL n).length ≤ k
  | 0, _, _, h => by omega
  | k + 1, n, hn, _ => by
    by_cases h : n < 128
    · rw [varL_small h]; simp
    · rw [varL_big h]
      have hk : 0 < k := by
        rcases Nat.eq_zero_or_pos k with rfl | h'
        · simp at hn; omega
        · exact h'
      have := varL_len k (n / 128) (by rw [Nat.pow_succ] at hn; exact Nat.div_lt_of_lt_mul (by rw [Nat.mul_comm]; exact hn)) hk
      simp only [List.length_cons]
      omega

/-- What a short number's bytes say: the number and how many bytes; none: they say nothing. Read from byte i on, n gathered. -/
def rdVar : Nat → List UInt8 → Nat → Nat → Option (Nat × Nat)
  | 0, _, _, _ => none
  | f + 1, l, i, n => match l with
    | [] => none
    | b :: r => if b.toNat < 128 then (if b.toNat = 0 ∧ 0 < i then none else some (n + b.toNat * 128 ^ i, i + 1)) else rdVar f r (i + 1) (n + (b.toNat - 128) * 128 ^ i)

def readVarF (l : List UInt8) : Option (Nat × Nat) := rdVar 9 l 0 0

/-- A long number's bytes. -/
def numL (u : Nat) : List UInt8 := (List.range 8).map fun k => UInt8.ofNat (u / 256 ^ (7 - k) % 256)
theorem numL_len (u : Nat) : (numL u).length = 8 := by simp [numL]
theorem numL_get (u k : Nat) (hk : k < 8) : (numL u)[k]? = some (UInt8.ofNat (u / 256 ^ (7 - k) % 256)) := by simp [numL, hk]

def beNat (l : List UInt8) : Nat := l.foldl (fun a b => a * 256 + b.toNat) 0

theorem beNat_lt (l : List UInt8) : beNat l < 256 ^ l.length := by
  have key : ∀ (l : List UInt8) (a k : Nat), a < 256 ^ k → l.foldl (fun a b => a * 256 + b.toNat) a < 256 ^ (k + l.length) := by
    intro l
    induction l with
    | nil => intro a k h; simpa using h
    | cons b l ih =>
      intro a k h
      have hb := b.toNat_lt
      have := ih (a * 256 + b.toNat) (k + 1) (by rw [Nat.pow_succ]; omega)
      simp only [List.foldl_cons, List.length_cons]
      rw [show k + (l.length + 1) = k + 1 + l.length by omega]
      exact this
  have := key l 0 0 (by decide)
  simpa [beNat] using this

theorem beNat_snoc (l : List UInt8) (b : UInt8) : beNat (l ++ [b]) = beNat l * 256 + b.toNat := by simp [beNat]

/-- What eight bytes say. -/
def readNumF (l : List UInt8) : Option Int := if l.length = 8 then some (IntKind.wrap .i64 (beNat l : Int)) else none

open Go Sx
set_option maxRecDepth 8000

theorem or128 (r : Nat) : (r % 256) ||| 128 = r % 128 + 128 := by
  have h : ∀ x < 256, x ||| 128 = x % 128 + 128 := by decide +kernel
  rw [h _ (Nat.mod_lt _ (by decide))]
  omega

theorem var_neg (x : Int) (w : World) (h : x < 0) : Calls Tryz.prog 125 #[.int .i64 x] w fun e w' => e = .returned (.slice none 0 0) ∧ w' = w := by
  apply wire_Var_vc
  exact ⟨fun _ => ⟨rfl, rfl⟩, fun h' => by simp at h'; omega⟩

theorem var_spec (m : Nat) (w : World) (hm : m < 9223372036854775808) : Calls Tryz.prog 125 #[.int .i64 (m : Int)] w fun e w' => ∃ a n c, e = .returned (.slice a n c) ∧ FreshB w w' a n c (varL m) := by
  have hlen := varL_len 9 m (by simpa using hm) (by decide)
  apply wire_Var_vc
  refine ⟨fun h => by simp at h; omega, fun _ => ?_⟩
  refine ⟨fun x a n c w' => ∃ (k : Nat) (pre : List UInt8), x = (k : Int) ∧ varL m = pre ++ varL k ∧ pre.length = n ∧ St w [] w' [.row 5 1 (.slice a n c) n (bv pre)], fun x _ _ _ _ => x.toNat,
    ⟨m, [], rfl, rfl, rfl, (St.start w).addNil _ _⟩, ?_⟩
  rintro x a n c w1 ⟨k, pre, rfl, he, hl, hS⟩
  have hn : n + (varL k).length ≤ 9 := by have := congrArg List.length he; simp at this; omega
  have hk1 := varL_pos k
  have key : ∀ b : Nat, b < 256 → ∃ g w2 va vc w3, (Instr.buildSlice 33 1 #[(0, .int .u8 (b : Int))]).run Tryz.prog w1 = .ok (.slice (some ⟨g, 0, none⟩) 1 1) w2 ∧
      (Builtin.append_ #[33, 33] 33 #[.slice a n c, .slice (some ⟨g, 0, none⟩) 1 1]).run Tryz.prog w2 = .ok (.slice va (n + 1) vc) w3 ∧ St w [] w3 [.row 5 1 (.slice va (n + 1) vc) (n + 1) (bv (pre ++ [UInt8.ofNat b]))] := by
    intro b hb
    obtain ⟨g, w2, hr2, h2⟩ := hS.lit bT [.int .u8 (b : Int)] (by simp [Value.oneCell']) (by simp)
    obtain ⟨va, vc, w3, hr3, h3, _, _⟩ := h2.append (i := 0) (ty := 33) bT rfl (h2.rd (i := 1) rfl) (by simp [Value.oneCell']) (by simp; omega) (by simp only [maxLen, List.length_cons, List.length_nil]; omega)
    refine ⟨g, w2, va, vc, w3, hr2, hr3, ?_⟩
    have h4 := St.pop (M := [_]) h3
    have : bv (pre ++ [UInt8.ofNat b]) = bv pre ++ [.int .u8 (b : Int)] := by
      rw [bv_append]; congr 1; simp [bv, Nat.mod_eq_of_lt hb]
    rw [this]
    exact h4
  refine ⟨fun h => ?_, fun h => ?_⟩
  · have hk : ¬ k < 128 := by simp at h; omega
    have hv : bor .u8 (IntKind.wrap .u8 (k : Int)) 128 = ((k % 128 + 128 : Nat) : Int) := by
      rw [wrap_u8, show ((k : Int) % 256) = ((k % 256 : Nat) : Int) by omega, show (128 : Int) = ((128 : Nat) : Int) from rfl, bor_nat rfl (by simp [kmod, IntKind.bits]; omega) (by simp [kmod, IntKind.bits]), or128]
    have hs : shrI .i64 (k : Int) 7 = ((k / 128 : Nat) : Int) := by rw [show (7 : Int) = ((7 : Nat) : Int) from rfl, shr_nat _ _ _ (by decide)]
    rw [hv, hs]
    obtain ⟨g, w2, va, vc, w3, hr2, hr3, h3⟩ := key (k % 128 + 128) (by omega)
    refine ⟨_, _, _, _, hr2, _, _, _, _, hr3, ⟨k / 128, pre ++ [UInt8.ofNat (k % 128 + 128)], rfl, ?_, by simp [hl], h3⟩, ?_⟩
    · rw [he, varL_big hk]; simp
    · simp; omega
  · have hk : k < 128 := by simp at h; omega
    have hv : IntKind.wrap .u8 (k : Int) = (k : Int) := by rw [wrap_u8]; omega
    rw [hv]
    obtain ⟨g, w2, va, vc, w3, hr2, hr3, h3⟩ := key k (by omega)
    refine ⟨_, _, _, _, hr2, _, _, _, _, hr3, _, _, _, rfl, ?_⟩
    rw [he, varL_small hk]
    exact h3.freshB (i := 0) rfl

/-- The three results of ReadVar. -/
def rvOut : Option (Nat × Nat) → Value
  | some (n, s) => .tuple #[.int .i64 (n : Int), .int .i64 (s : Int), errV none]
  | none => .tuple #[.int .i64 0, .int .i64 0, errV (some 9)]

theorem or_add (n b i : Nat) (hn : n < 128 ^ i) : n ||| (b * 128 ^ i) = n + b * 128 ^ i := by
  have e : 128 ^ i = 2 ^ (7 * i) := by rw [Nat.pow_mul]
  rw [e] at hn ⊢
  have := Nat.shiftLeft_add_eq_or_of_lt hn b
  rw [Nat.shiftLeft_eq] at this
  rw [Nat.or_comm, ← this, Nat.add_comm]

theorem pow128_le {i : Nat} (hi : i < 9) : 128 ^ (i + 1) ≤ 9223372036854775808 := by
  have : 128 ^ (i + 1) ≤ 128 ^ 9 := Nat.pow_le_pow_right (by decide) (by omega)
  simpa using this

theorem readVar_spec (a : Option Addr) (n c : Nat) (l : List UInt8) (w : World) (hr : RdB w a n c l) :
    Calls Tryz.prog 166 #[.slice a n c] w fun e w' => e = .returned (rvOut (readVarF l)) ∧ w' = w := by
  have hl := hr.lenB
  apply wire_ReadVar_vc
  refine ⟨fun x y w' => w' = w ∧ ∃ (m i : Nat), x = (m : Int) ∧ y = (i : Int) ∧ i ≤ 9 ∧ i ≤ n ∧ m < 128 ^ i ∧ rdVar (9 - i) (l.drop i) i m = readVarF l, fun _ y _ => 9 - y.toNat,
    ⟨rfl, 0, 0, rfl, rfl, by omega, by omega, by decide, rfl⟩, ?_⟩
  rintro x y w1 ⟨rfl, m, i, rfl, rfl, hi9, hin, hm, hv⟩
  refine ⟨fun h => ?_, fun h => ?_⟩
  · simp only [Bool.and_eq_true, decide_eq_true_eq] at h
    have hi : i < 9 := by omega
    have hil : i < l.length := by omega
    obtain ⟨b, hb⟩ : ∃ b, l.getD i 0 = b := ⟨_, rfl⟩
    have hdrop : l.drop i = b :: l.drop (i + 1) := by
      rw [List.drop_eq_getElem_cons hil, ← hb]; simp [List.getD, hil]
    have hf : 9 - i = (9 - (i + 1)) + 1 := by omega
    have hbl := b.toNat_lt
    rw [hdrop, hf, rdVar] at hv
    have h7 : IntKind.wrap .i64 (7 * (i : Int)) = ((7 * i : Nat) : Int) := by rw [wrap_i64 (by omega) (by omega)]; omega
    have hi1 : IntKind.wrap .i64 ((i : Int) + 1) = ((i + 1 : Nat) : Int) := by rw [wrap_i64 (by omega) (by omega)]; rfl
    rw [h7, hi1]
    have hand : IntKind.wrap .u64 (band .u8 (b.toNat : Int) 127) = ((b.toNat % 128 : Nat) : Int) := by
      rw [show (127 : Int) = ((127 : Nat) : Int) from rfl, band_nat rfl (by simp [kmod, IntKind.bits]; omega) (by simp [kmod, IntKind.bits]),
        show b.toNat &&& 127 = b.toNat % 128 from Nat.and_two_pow_sub_one_eq_mod _ 7, wrap_u64]
      omega
    have hp := pow128_le hi
    have hpow : 128 ^ i * 128 = 128 ^ (i + 1) := (Nat.pow_succ ..).symm
    have hlt : b.toNat % 128 * 128 ^ i < 9223372036854775808 := by
      have h1 : b.toNat % 128 < 128 := Nat.mod_lt _ (by decide)
      have h2 : b.toNat % 128 * 128 ^ i ≤ 127 * 128 ^ i := Nat.mul_le_mul_right _ (by omega)
      have h3 : 0 < 128 ^ i := Nat.pow_pos (by decide)
      omega
    have hshl : shlI .u64 ((b.toNat % 128 : Nat) : Int) ((7 * i : Nat) : Int) = ((b.toNat % 128 * 128 ^ i : Nat) : Int) := by
      rw [shl_nat rfl _ _ (by simp [IntKind.bits]; omega), show 2 ^ (7 * i) = 128 ^ i by rw [Nat.pow_mul], Nat.mod_eq_of_lt (by simp [kmod, IntKind.bits]; omega)]
    have hsum : m + b.toNat % 128 * 128 ^ i < 128 ^ (i + 1) := by
      have h1 : b.toNat % 128 < 128 := Nat.mod_lt _ (by decide)
      have h2 : b.toNat % 128 * 128 ^ i ≤ 127 * 128 ^ i := Nat.mul_le_mul_right _ (by omega)
      omega
    have hor : bor .u64 (m : Int) ((b.toNat % 128 * 128 ^ i : Nat) : Int) = ((m + b.toNat % 128 * 128 ^ i : Nat) : Int) := by
      rw [bor_nat rfl (by simp [kmod, IntKind.bits]; omega) (by simp [kmod, IntKind.bits]; omega), or_add _ _ _ hm]
    have hw : IntKind.wrap .i64 ((m + b.toNat % 128 * 128 ^ i : Nat) : Int) = ((m + b.toNat % 128 * 128 ^ i : Nat) : Int) := wrap_i64_nat _ (by omega)
    refine ixB (bA _) hr.cells hl (by omega) (by omega) fun _ _ _ => ?_
    simp only [Int.toNat_natCast, hb, hand, hshl, hor, hw]
    refine ⟨by omega, ixB (bA _) hr.cells hl (by omega) (by omega) fun _ _ _ => ?_⟩
    simp only [Int.toNat_natCast, hb]
    refine ⟨fun h1 => ixB (bA _) hr.cells hl (by omega) (by omega) fun _ _ _ => ?_, fun h1 => ?_⟩
    · simp only [decide_eq_true_eq] at h1
      rw [if_pos (by omega)] at hv
      simp only [Int.toNat_natCast, hb]
      refine ⟨fun h2 => ?_, fun h2 => ?_⟩
      · simp only [Bool.and_eq_true, beq_iff_eq, decide_eq_true_eq] at h2
        rw [if_pos (by omega)] at hv
        rw [← hv]
        exact ⟨rfl, trivial⟩
      · rw [if_neg (by intro h3; simp at h2; omega)] at hv
        rw [← hv, Nat.mod_eq_of_lt (by omega)]
        exact ⟨rfl, trivial⟩
    · simp only [decide_eq_false_iff_not] at h1
      rw [if_neg (by omega)] at hv
      refine ⟨⟨trivial, m + b.toNat % 128 * 128 ^ i, i + 1, rfl, rfl, by omega, by omega, hsum, ?_⟩, by omega⟩
      rw [← hv, show b.toNat % 128 = b.toNat - 128 by omega]
  · have : 9 - i = 0 ∨ l.drop i = [] := by
      simp at h
      rcases Nat.lt_or_ge i 9 with h1 | h1
      · right; exact List.drop_eq_nil_of_le (by omega)
      · left; omega
    have h0 : readVarF l = none := by
      rw [← hv]
      rcases this with h1 | h1
      · rw [h1]; rfl
      · rw [h1]; cases 9 - i <;> rfl
    rw [h0]
    exact ⟨rfl, rfl⟩

theorem take_succ_get {l : List UInt8} {j : Nat} {b : UInt8} (h : l[j]? = some b) : l.take (j + 1) = l.take j ++ [b] := by
  rw [List.take_add_one, h]; rfl

theorem num_bytes (x : Int) (w : World) : Calls Tryz.prog 58 #[.int .i64 x] w fun e w' => ∃ a n c, e = .returned (.slice a n c) ∧ FreshB w w' a n c (numL (x % 18446744073709551616).toNat) := by
  obtain ⟨u, hu⟩ : ∃ u : Nat, (x % 18446744073709551616).toNat = u := ⟨_, rfl⟩
  have hux : x % 18446744073709551616 = (u : Int) := by omega
  have hult : u < 18446744073709551616 := by omega
  rw [hu]
  apply wire_Num_vc
  obtain ⟨g, w1, hr1, h1⟩ := (St.start w).mk0n (kl := .i64) (kc := .i64) (c := 8) bT (by omega) (by omega)
  refine ⟨_, _, _, _, hr1, fun a n c i w' => ∃ j : Nat, j ≤ 8 ∧ n = j ∧ i = 56 - 8 * (j : Int) ∧ St w [] w' [.row 5 1 (.slice a n c) n (bv ((numL u).take j))], fun _ n _ _ _ => 8 - n, ⟨0, by omega, rfl, rfl, h1⟩, ?_⟩
  rintro a n c i w2 ⟨j, hj, rfl, rfl, hS⟩
  refine ⟨fun h => ?_, fun h => ?_⟩
  · have hj8 : n < 8 := by simp at h; omega
    refine ⟨by omega, ?_⟩
    have hv : IntKind.wrap .u8 (shrI .u64 (IntKind.wrap .u64 x) (56 - 8 * (n : Int))) = ((UInt8.ofNat (u / 256 ^ (7 - n) % 256)).toNat : Int) := by
      rw [wrap_u64, hux, show (56 - 8 * (n : Int)) = ((8 * (7 - n) : Nat) : Int) by omega, shr_nat _ _ _ (by simp [IntKind.bits]; omega), show 2 ^ (8 * (7 - n)) = 256 ^ (7 - n) by rw [Nat.pow_mul], wrap_u8]
      simp
    rw [hv]
    obtain ⟨b, hb⟩ : ∃ b, UInt8.ofNat (u / 256 ^ (7 - n) % 256) = b := ⟨_, rfl⟩
    rw [hb]
    obtain ⟨g, w3, hr3, h3⟩ := hS.lit bT [.int .u8 (b.toNat : Int)] (by simp [Value.oneCell']) (by simp)
    obtain ⟨va, vc, w4, hr4, h4, _, _⟩ := h3.append (i := 0) (ty := 33) bT rfl (h3.rd (i := 1) rfl) (by simp [Value.oneCell']) (by simp; omega) (by simp only [maxLen, List.length_cons, List.length_nil]; omega)
    refine ⟨_, _, _, _, hr3, _, _, _, _, hr4, ⟨n + 1, by omega, rfl, ?_, ?_⟩, ?_⟩
    · rw [wrap_i64 (by omega) (by omega)]; omega
    · rw [take_succ_get (by rw [numL_get _ _ hj8, hb]), bv_append]
      exact St.pop (M := [_]) h4
    · simp; omega
  · have hj8 : n = 8 := by simp at h; omega
    subst hj8
    rw [List.take_of_length_le (by rw [numL_len]; exact Nat.le_refl _)] at hS
    exact ⟨_, _, _, rfl, hS.freshB (i := 0) rfl⟩

theorem be_step (m b : Nat) (hb : b < 256) (hm : m < 72057594037927936) : bor .u64 (shlI .u64 (m : Int) (8 : Int)) (IntKind.wrap .u64 (b : Int)) = ((m * 256 + b : Nat) : Int) := by
  rw [show (8 : Int) = ((8 : Nat) : Int) from rfl, shl_nat rfl _ _ (by decide), Nat.mod_eq_of_lt (by simp [kmod, IntKind.bits]; omega), wrap_u64, show ((b : Int) % 18446744073709551616) = (b : Int) by omega,
    bor_nat rfl (by simp [kmod, IntKind.bits]; omega) (by simp [kmod, IntKind.bits]; omega)]
  have := Nat.shiftLeft_add_eq_or_of_lt (show b < 2 ^ 8 by omega) m
  rw [Nat.shiftLeft_eq] at this
  rw [← this]

/-- The two results of ReadNum. -/
def rnOut : Option Int → Value
  | some x => .tuple #[.int .i64 x, errV none]
  | none => .tuple #[.int .i64 0, errV (some 9)]

theorem pow256_le {i : Nat} (hi : i < 8) : 256 ^ i ≤ 72057594037927936 := by
  have : 256 ^ i ≤ 256 ^ 7 := Nat.pow_le_pow_right (by decide) (by omega)
  simpa using this

theorem readNum_spec (a : Option Addr) (n c : Nat) (l : List UInt8) (w : World) (hr : RdB w a n c l) :
    Calls Tryz.prog 87 #[.slice a n c] w fun e w' => e = .returned (rnOut (readNumF l)) ∧ w' = w := by
  have hl := hr.lenB
  apply wire_ReadNum_vc
  refine ⟨fun h => ?_, fun h => ?_⟩
  · have : l.length ≠ 8 := by simp at h; omega
    simp only [readNumF, if_neg this]
    exact ⟨rfl, trivial⟩
  · have h8 : l.length = 8 := by simp at h; omega
    refine ⟨fun x y w' => w' = w ∧ ∃ i : Nat, y = (i : Int) ∧ i ≤ 8 ∧ x = (beNat (l.take i) : Int), fun _ y _ => 8 - y.toNat, ⟨rfl, 0, rfl, by omega, rfl⟩, ?_⟩
    rintro x y w1 ⟨rfl, i, rfl, hi, rfl⟩
    refine ⟨fun h => ?_, fun h => ?_⟩
    · have hi8 : i < 8 := by simp at h; omega
      have hil : i < l.length := by omega
      obtain ⟨b, hb⟩ : ∃ b, l.getD i 0 = b := ⟨_, rfl⟩
      have hget : l[i]? = some b := by rw [← hb]; simp [List.getD, hil]
      have hm := beNat_lt (l.take i)
      rw [List.length_take, Nat.min_eq_left (by omega)] at hm
      have hp := pow256_le hi8
      refine ixB (bA _) hr.cells hl (by omega) (by omega) fun _ _ _ => ?_
      simp only [Int.toNat_natCast, hb]
      rw [be_step _ _ b.toNat_lt (by omega), wrap_i64 (by omega) (by omega)]
      exact ⟨⟨trivial, i + 1, rfl, by omega, by rw [take_succ_get hget, beNat_snoc]⟩, by omega⟩
    · have hi8 : i = 8 := by simp at h; omega
      subst hi8
      rw [List.take_of_length_le (by omega)]
      simp only [readNumF, if_pos h8]
      exact ⟨rfl, trivial⟩

open Go Sx
set_option maxRecDepth 8000

/-- Fields, one behind the other. -/
def packL (ls : List (List UInt8)) : List UInt8 := (ls.map fun l => varL l.length ++ l).flatten

theorem packL_take {ls : List (List UInt8)} {i : Nat} (h : i < ls.length) : packL (ls.take (i + 1)) = packL (ls.take i) ++ varL (ls.getD i []).length ++ ls.getD i [] := by
  rw [List.take_add_one, List.getElem?_eq_getElem h, packL, packL, List.map_append, List.flatten_append, List.append_assoc]
  congr 1
  simp [List.getD, h]

theorem packL_len : ∀ ls : List (List UInt8), (∀ l ∈ ls, l.length < 9223372036854775808) → (packL ls).length ≤ ls.flatten.length + 9 * ls.length
  | [], _ => by simp [packL]
  | l :: ls, h => by
    have ih := packL_len ls fun x hx => h x (by simp [hx])
    have h9 := varL_len 9 l.length (by have := h l (by simp); simpa using this) (by decide)
    have e : packL (l :: ls) = varL l.length ++ l ++ packL ls := by simp [packL]
    rw [e]
    simp only [List.length_append, List.flatten_cons, List.length_cons]
    omega

theorem mem_le_flat {ls : List (List UInt8)} {l : List UInt8} (h : l ∈ ls) : l.length ≤ ls.flatten.length := by
  obtain ⟨i, hi, rfl⟩ := List.getElem_of_mem h
  have := getD_le_flat hi
  simpa [List.getD, hi] using this

theorem packL_bound {ls : List (List UInt8)} (h : ls.flatten.length ≤ 67108864) (i : Nat) : (packL (ls.take i)).length ≤ 67108864 + 9 * ls.length := by
  have h1 := packL_len (ls.take i) fun l hl => by have := mem_le_flat (List.mem_of_mem_take hl); omega
  have h2 := flat_take_le ls i
  have h3 : (ls.take i).length ≤ ls.length := by rw [List.length_take]; omega
  omega

theorem pack_spec (a : Option Addr) (n c : Nat) (vs : List Value) (ls : List (List UInt8)) (w : World) (hr : Rd w a n c 1 vs) (h2 : Row2 w vs ls) (hb : ls.flatten.length ≤ 67108864) (hn : ls.length ≤ 1048576) :
    Calls Tryz.prog 121 #[.slice a n c] w fun e w' => ∃ a' n' c', e = .returned (.slice a' n' c') ∧ FreshB w w' a' n' c' (packL ls) := by
  have hln : ls.length = n := by have := hr.len; have := h2.len; omega
  apply wire_Pack_vc
  refine ⟨fun xa xn xc x w' => ∃ i : Nat, x = (i : Int) ∧ i ≤ n ∧ xn = (packL (ls.take i)).length ∧ St w [] w' [.row 5 1 (.slice xa xn xc) xn (bv (packL (ls.take i)))], fun _ _ _ x _ => n - x.toNat,
    ⟨0, rfl, by omega, by simp [packL], (St.start w).addNil _ _⟩, ?_⟩
  rintro xa xn xc x w1 ⟨i, rfl, hi, hxn, hS⟩
  have hpb := packL_bound hb i
  refine ⟨fun h => ?_, fun h => ?_⟩
  · have hi' : i < n := by simp at h; omega
    obtain ⟨b, o, a', n', c', ha, hv, hrd, hld⟩ := ixS hr.cells h2 (i := i) (by omega)
    have hl' := hrd.lenB
    have hle := getD_le_flat (ls := ls) (i := i) (by omega)
    refine ⟨b, o, ha, by omega, by omega, _, _, _, hld w1 (hr.cells.keep0 hS.chg), fun h => ?_, fun _ => ?_⟩
    · simp at h; omega
    · have h9 := varL_len 9 n' (by simp; omega) (by decide)
      refine (var_spec n' w1 (by omega)).mono ?_
      rintro e w2 ⟨a2, n2, c2, rfl, hf2⟩
      have hS2 := hf2.add hS
      have hn2 := hf2.2.1
      obtain ⟨va, vc, w3, hr3, hS3⟩ := hS2.appendB (i := 0) rfl (hS2.rd (i := 1) rfl) (by omega)
      obtain ⟨vb, vd, w4, hr4, hS4⟩ := hS3.appendB (i := 0) rfl (hS3.rd1 hrd) (by omega)
      have hpt := packL_take (ls := ls) (i := i) (by omega)
      rw [hl'] at hpt
      refine ⟨_, _, _, rfl, _, _, _, _, hr3, _, _, _, _, hr4, ⟨i + 1, ?_, by omega, ?_, ?_⟩, ?_⟩
      · rw [wrap_i64 (by omega) (by omega)]; rfl
      · rw [hpt]; simp only [List.length_append]; omega
      · rw [hpt]; exact St.pop (M := [_]) hS4
      · show n - (IntKind.wrap .i64 ((i : Int) + 1)).toNat < n - ((i : Int)).toNat
        rw [wrap_i64 (by omega) (by omega)]; omega
  · have hi' : i = n := by simp at h; omega
    rw [hi', ← hln, List.take_length] at hS
    exact ⟨_, _, _, rfl, hS.freshB (i := 0) rfl⟩

/-- A slice that may be read wherever another may. -/
def SubB (a : Option Addr) (n c : Nat) (l : List UInt8) (a' : Option Addr) (n' c' : Nat) (l' : List UInt8) : Prop := ∀ v : World, RdB v a n c l → RdB v a' n' c' l'

/-- A Reader in memory, and what it has not read yet; none: it is broken. -/
def RdrA (g T : Nat) (a : Option Addr) (n c : Nat) (st : Option (List UInt8)) (w : World) : Prop := w.heap[g]? = some (.cells #[.slice a n c, .bool st.isNone] T)

/-- Behind a call of a Reader. -/
def RdrP (g T : Nat) (a : Option Addr) (n c : Nat) (st st' : Option (List UInt8)) (w' : World) : Prop := ∃ a' n' c', RdrA g T a' n' c' st' w' ∧ SubB a n c (st.getD []) a' n' c' (st'.getD [])

theorem rdr_ne (a : Option Addr) (n c : Nat) (t : Bool) (l : List UInt8) : ∀ v ∈ bv l, v ∉ (#[Value.slice a n c, .bool t] : Array Value).toList := by
  intro v hv
  simp only [bv, List.mem_map] at hv
  obtain ⟨b, _, rfl⟩ := hv
  simp

theorem fail_spec (g T : Nat) (a : Option Addr) (n c : Nat) (t : Bool) (w : World) (hg : w.heap[g]? = some (.cells #[.slice a n c, .bool t] T)) :
    Calls Tryz.prog 138 #[.pointer (some ⟨g, 0, none⟩)] w fun e w' => e = .returned (.tuple #[]) ∧ Chg [g] w w' ∧ w'.heap[g]? = some (.cells #[.slice none 0 0, .bool true] T) := by
  apply wire_Reader_fail_vc
  have s1 : ∀ w, (sizeOf 4).run Tryz.prog w = .ok 1 w := fun w => Tryz.sizeOf4 w
  have s2 : ∀ w, (sizeOf 33).run Tryz.prog w = .ok 1 w := fun w => Tryz.sizeOf33 w
  obtain ⟨w1, r1, h1⟩ := (St.ofBlk hg).st (i := 0) (o := 1) (v := .bool true) rfl (s1 _) (by simp) rfl
  obtain ⟨w2, r2, h2⟩ := h1.st (i := 0) (o := 0) (v := .slice none 0 0) rfl (s2 _) (by simp) rfl
  exact ⟨w1, r1, w2, r2, rfl, h2.chg, h2.holds 0 _ rfl⟩

/-- What raw does. -/
def rawF (st : Option (List UInt8)) (x : Int) : Option (List UInt8 × List UInt8) := st.bind fun l => if 0 ≤ x ∧ x ≤ (l.length : Int) then some (l.take x.toNat, l.drop x.toNat) else none

theorem raw_spec (g T : Nat) (st : Option (List UInt8)) (x : Int) (a : Option Addr) (n c : Nat) (w : World) (hg : RdrA g T a n c st w) (hr : RdB w a n c (st.getD [])) :
    Calls Tryz.prog 118 #[.pointer (some ⟨g, 0, none⟩), .int .i64 x] w fun e w' => ∃ a' n' c', e = .returned (.slice a' n' c') ∧ Chg [g] w w' ∧ RdrP g T a n c st ((rawF st x).map (·.2)) w' ∧ RdB w' a' n' c' (((rawF st x).map (·.1)).getD []) := by
  unfold RdrA at hg
  have iB : ∀ w, (isAgg 4).run Tryz.prog w = .ok false w := fun w => Tryz.isAgg4 w
  have s2 : ∀ w, (sizeOf 33).run Tryz.prog w = .ok 1 w := fun w => Tryz.sizeOf33 w
  have hl := hr.lenB
  have hle := hr.le
  have hS := St.ofBlk hg
  have ld0 := hS.ld (i := 0) (o := 0) (P := Tryz.prog) (v := .slice a n c) rfl (bsA _) rfl
  have ld1' := hS.ld (i := 0) (o := 1) (P := Tryz.prog) (v := .bool st.isNone) rfl (iB _) rfl
  apply wire_Reader_raw_vc
  refine ⟨fun b w' => b = decide (x < 0 ∨ (n : Int) < x) ∧ w' = w, ⟨fun h => ?_, fun h => ⟨a, n, c, ld0, ?_, rfl⟩⟩, ?_⟩
  · simp at h; exact ⟨by simp [h], rfl⟩
  · simp at h; simp [show ¬ x < 0 by omega]
  rintro b w1 ⟨rfl, rfl⟩
  refine ⟨fun w' => (¬ (x < 0 ∨ (n : Int) < x) ∧ w' = w1) ∨ ((x < 0 ∨ (n : Int) < x) ∧ Chg [g] w1 w' ∧ w'.heap[g]? = some (.cells #[.slice none 0 0, .bool true] T)), ⟨fun h => ?_, fun h => ?_⟩, ?_⟩
  · refine (fail_spec g T a n c _ w1 hg).mono ?_
    rintro e w2 ⟨rfl, hc2, hg2⟩
    exact ⟨rfl, .inr ⟨by simpa using h, hc2, hg2⟩⟩
  · exact .inl ⟨by simpa using h, rfl⟩
  rintro w2 (⟨hx, rfl⟩ | ⟨hx, hc2, hg2⟩)
  · refine ⟨_, ld1', fun h => ?_, fun h => ?_⟩
    · cases st with
      | some l => simp at h
      | none =>
        refine ⟨_, _, _, rfl, Chg.refl _ _, ?_, ?_⟩
        · exact ⟨a, n, c, hg, fun v hv => by simpa [rawF] using hv⟩
        · simpa [rawF] using rdNil _
    · cases st with
      | none => simp at h
      | some l =>
        simp only [Option.getD_some] at hr hl
        have hxn : 0 ≤ x ∧ x ≤ (n : Int) := by omega
        obtain ⟨m, rfl⟩ := Int.eq_ofNat_of_zero_le hxn.1
        refine ⟨_, _, _, ld0, by omega, by omega, by omega, _, _, _, ld0, by omega, by omega, by omega, fun a2 hs2 => ?_⟩
        simp only [Int.toNat_natCast] at hs2 ⊢
        obtain ⟨w3, r3, h3⟩ := hS.st (i := 0) (o := 0) (P := Tryz.prog) (v := .slice a2 (n - m) (c - m)) rfl (s2 _) (by simp) rfl
        have hc3 := h3.chg
        have hrf : rawF (some l) (m : Int) = some (l.take m, l.drop m) := by simp [rawF]; omega
        rw [hrf]
        have e1 : ((bv l).drop (m * 1)).take ((n - m) * 1) = bv (l.drop m) := by
          rw [Nat.mul_one, Nat.mul_one, List.take_of_length_le (by simp; omega), bv_drop]
        refine ⟨w3, r3, _, _, _, rfl, hc3, ⟨a2, n - m, c - m, h3.holds 0 _ rfl, fun v hv => ?_⟩, ?_⟩
        · have hsub := (show RdB v a n c l from hv).sub hs2 (hh := n) (by omega) (Nat.le_refl _) hle (Nat.le_refl _)
          rw [e1] at hsub
          exact hsub
        · have h0 : SubA 1 a 0 c a := ⟨fun _ => rfl, fun _ => by cases a <;> simp [Addr.add]⟩
          have := hr.sub h0 (hh := m) (by omega) (by omega) (by omega) (Nat.le_refl _)
          have e2 : ((bv l).drop (0 * 1)).take ((m - 0) * 1) = bv (l.take m) := by simp [bv_take]
          rw [e2] at this
          have h4 := this.keepG hg (rdr_ne _ _ _ _ _) hc3
          exact ⟨h4.cells, by simpa using h4.len, Nat.le_refl _, fun ha => by have := hr.nil ha; omega⟩
  · have hS2 := St.ofBlk hg2
    refine ⟨true, hS2.ld (i := 0) (o := 1) (P := Tryz.prog) (v := .bool true) rfl (iB _) rfl, fun _ => ?_, fun h => by cases h⟩
    have hrf : rawF st x = none := by
      cases st with
      | none => rfl
      | some l =>
        simp only [Option.getD_some] at hl
        simp [rawF]; omega
    rw [hrf]
    exact ⟨_, _, _, rfl, hc2, ⟨none, 0, 0, hg2, fun v _ => rdNil v⟩, rdNil _⟩

theorem rRaw_spec (g T : Nat) (st : Option (List UInt8)) (x : Int) (a : Option Addr) (n c : Nat) (w : World) (hg : RdrA g T a n c st w) (hr : RdB w a n c (st.getD [])) (hb : (st.getD []).length ≤ 140737488355000) :
    Calls Tryz.prog 140 #[.pointer (some ⟨g, 0, none⟩), .int .i64 x] w fun e w' => ∃ a' n' c', e = .returned (.slice a' n' c') ∧ FreshX [g] w w' a' n' c' (((rawF st x).map (·.1)).getD []) ∧ RdrP g T a n c st ((rawF st x).map (·.2)) w' := by
  apply wire_Reader_Raw_vc
  refine (raw_spec g T st x a n c w hg hr).mono ?_
  rintro e w1 ⟨a1, n1, c1, rfl, hc1, hv1, hr1⟩
  have hl := hr1.lenB
  have hn : n1 ≤ 140737488355000 := by
    rw [← hl]
    cases st with
    | none => simp [rawF]
    | some l =>
      simp only [Option.getD_some] at hb
      simp only [rawF, Option.bind_some]
      split
      · simp; omega
      · simp
  refine ⟨_, _, _, rfl, (clone_spec a1 n1 c1 _ w1 hr1 hn).mono ?_⟩
  rintro e w2 ⟨a2, c2, rfl, hf⟩
  obtain ⟨a3, n3, c3, hg3, hr3⟩ := hv1
  unfold RdrA at hg3
  refine ⟨_, _, _, rfl, _, _, _, rfl, hf.after hc1, a3, n3, c3, ?_, hr3⟩
  unfold RdrA
  rw [hf.1.block g (Array.getElem?_eq_some_iff.1 hg3).1 (by simp)]
  exact hg3

theorem rdVar_some : ∀ (f : Nat) (l : List UInt8) (i n m s : Nat), rdVar f l i n = some (m, s) → n < 128 ^ i → i < s ∧ s ≤ i + l.length ∧ s ≤ i + f ∧ m < 128 ^ s
  | 0, _, _, _, _, _, h, _ => by simp [rdVar] at h
  | f + 1, [], i, n, m, s, h, _ => by simp [rdVar] at h
  | f + 1, b :: r, i, n, m, s, h, hn => by
    have hp : 128 ^ (i + 1) = 128 ^ i * 128 := Nat.pow_succ ..
    have hpos : 0 < 128 ^ i := Nat.pow_pos (by decide)
    have hbl := b.toNat_lt
    simp only [rdVar] at h
    split at h
    · rename_i hb
      split at h
      · cases h
      · simp only [Option.some.injEq, Prod.mk.injEq] at h
        obtain ⟨rfl, rfl⟩ := h
        have : b.toNat * 128 ^ i ≤ 127 * 128 ^ i := Nat.mul_le_mul_right _ (by omega)
        refine ⟨by omega, by simp only [List.length_cons]; omega, by omega, by omega⟩
    · rename_i hb
      have : (b.toNat - 128) * 128 ^ i ≤ 127 * 128 ^ i := Nat.mul_le_mul_right _ (by omega)
      obtain ⟨h1, h2, h3, h4⟩ := rdVar_some f r (i + 1) _ m s h (by omega)
      refine ⟨by omega, by simp only [List.length_cons]; omega, by omega, h4⟩

theorem readVarF_some {l : List UInt8} {n s : Nat} (h : readVarF l = some (n, s)) : 1 ≤ s ∧ s ≤ l.length ∧ s ≤ 9 ∧ n < 9223372036854775808 := by
  obtain ⟨h1, h2, h3, h4⟩ := rdVar_some 9 l 0 0 n s h (by decide)
  have : 128 ^ s ≤ 128 ^ 9 := Nat.pow_le_pow_right (by decide) (by omega)
  refine ⟨by omega, by omega, by omega, by omega⟩

/-- What Var does. -/
def varF (st : Option (List UInt8)) : Option (Nat × List UInt8) := st.bind fun l => (readVarF l).map fun p => (p.1, l.drop p.2)

theorem rVar_spec (g T : Nat) (st : Option (List UInt8)) (a : Option Addr) (n c : Nat) (w : World) (hg : RdrA g T a n c st w) (hr : RdB w a n c (st.getD [])) :
    Calls Tryz.prog 139 #[.pointer (some ⟨g, 0, none⟩)] w fun e w' => e = .returned (.int .i64 ((((varF st).map (·.1)).getD 0 : Nat) : Int)) ∧ Chg [g] w w' ∧ RdrP g T a n c st ((varF st).map (·.2)) w' := by
  unfold RdrA at hg
  have iB : ∀ w, (isAgg 4).run Tryz.prog w = .ok false w := fun w => Tryz.isAgg4 w
  have s2 : ∀ w, (sizeOf 33).run Tryz.prog w = .ok 1 w := fun w => Tryz.sizeOf33 w
  have hl := hr.lenB
  have hle := hr.le
  have hS := St.ofBlk hg
  have ld0 := hS.ld (i := 0) (o := 0) (P := Tryz.prog) (v := .slice a n c) rfl (bsA _) rfl
  have ld1' := hS.ld (i := 0) (o := 1) (P := Tryz.prog) (v := .bool st.isNone) rfl (iB _) rfl
  obtain ⟨m, hI⟩ := eI
  apply wire_Reader_Var_vc
  refine ⟨_, ld1', fun h => ?_, fun h => ?_⟩
  · cases st with
    | some l => simp at h
    | none => exact ⟨rfl, Chg.refl _ _, a, n, c, hg, fun v hv => by simpa [varF] using hv⟩
  cases st with
  | none => simp at h
  | some l =>
  simp only [Option.getD_some] at hr hl
  refine ⟨_, _, _, ld0, (readVar_spec a n c l w hr).mono ?_⟩
  rintro e w1 ⟨rfl, rfl⟩
  have hvf : varF (some l) = (readVarF l).map fun p => (p.1, l.drop p.2) := rfl
  rw [hvf]
  cases hrv : readVarF l with
  | none =>
    refine ⟨_, _, _, rfl, _, neqS_nil hI (some 9) _ _, fun _ => (fail_spec g T a n c _ w1 hg).mono ?_, fun h => by simp at h⟩
    rintro e w2 ⟨rfl, hc2, hg2⟩
    exact ⟨rfl, rfl, hc2, none, 0, 0, hg2, fun v _ => rdNil v⟩
  | some p =>
    obtain ⟨k, s⟩ := p
    obtain ⟨h1, h2, _, h4⟩ := readVarF_some hrv
    refine ⟨_, _, _, rfl, _, neqS_nil hI none _ _, fun h => by simp at h, fun _ => ⟨_, _, _, ld0, by omega, by omega, by omega, fun a2 hs2 => ?_⟩⟩
    simp only [Int.toNat_natCast] at hs2 ⊢
    obtain ⟨w3, r3, h3⟩ := hS.st (i := 0) (o := 0) (P := Tryz.prog) (v := .slice a2 (n - s) (c - s)) rfl (s2 _) (by simp) rfl
    have e1 : ((bv l).drop (s * 1)).take ((n - s) * 1) = bv (l.drop s) := by
      rw [Nat.mul_one, Nat.mul_one, List.take_of_length_le (by simp; omega), bv_drop]
    refine ⟨w3, r3, rfl, h3.chg, a2, n - s, c - s, h3.holds 0 _ rfl, fun v hv => ?_⟩
    have hsub := (show RdB v a n c l from hv).sub hs2 (hh := n) (by omega) (Nat.le_refl _) hle (Nat.le_refl _)
    rw [e1] at hsub
    exact hsub

/-- The field with which bytes begin, and the rest. -/
def fieldF (l : List UInt8) : Option (List UInt8 × List UInt8) := (readVarF l).bind fun p => if p.1 ≤ 67108864 ∧ p.1 + p.2 ≤ l.length then some ((l.drop p.2).take p.1, l.drop (p.2 + p.1)) else none

theorem fieldF_some {l f r : List UInt8} (h : fieldF l = some (f, r)) : ∃ s, readVarF l = some (f.length, s) ∧ f = (l.drop s).take f.length ∧ r = l.drop (s + f.length) ∧ 1 ≤ s ∧ s + f.length + r.length = l.length ∧ f.length ≤ 67108864 := by
  unfold fieldF at h
  cases hv : readVarF l with
  | none => rw [hv] at h; cases h
  | some p =>
    obtain ⟨n, s⟩ := p
    rw [hv] at h
    simp only [Option.bind_some] at h
    split at h
    · rename_i hc
      simp only [Option.some.injEq, Prod.mk.injEq] at h
      obtain ⟨rfl, rfl⟩ := h
      have hlen : ((l.drop s).take n).length = n := by simp; omega
      obtain ⟨h1, h2, _, _⟩ := readVarF_some hv
      refine ⟨s, by rw [hlen], by rw [hlen], by rw [hlen], h1, ?_, by omega⟩
      rw [hlen]; simp; omega
    · cases h

theorem rField_spec (g T : Nat) (st : Option (List UInt8)) (a : Option Addr) (n c : Nat) (w : World) (hg : RdrA g T a n c st w) (hr : RdB w a n c (st.getD [])) (hb : (st.getD []).length ≤ 140737488355000) :
    Calls Tryz.prog 119 #[.pointer (some ⟨g, 0, none⟩)] w fun e w' => ∃ a' n' c', e = .returned (.slice a' n' c') ∧ FreshX [g] w w' a' n' c' (((st.bind fieldF).map (·.1)).getD []) ∧ RdrP g T a n c st ((st.bind fieldF).map (·.2)) w' := by
  have iB : ∀ w, (isAgg 4).run Tryz.prog w = .ok false w := fun w => Tryz.isAgg4 w
  apply wire_Reader_Field_vc
  refine (rVar_spec g T st a n c w hg hr).mono ?_
  rintro e w1 ⟨rfl, hc1, a1, n1, c1, hg1, hs1⟩
  have hr1 := (hs1 w hr).keepG hg (rdr_ne _ _ _ _ _) hc1
  have hS := St.ofBlk hg1
  refine ⟨_, rfl, _, hS.ld (i := 0) (o := 1) (P := Tryz.prog) (v := .bool ((varF st).map (·.2)).isNone) rfl (iB _) rfl, fun h => ?_, fun h => ?_⟩
  · have hvn : varF st = none := by cases hv : varF st with
      | none => rfl
      | some p => rw [hv] at h; simp at h
    have hfn : st.bind fieldF = none := by
      cases st with
      | none => rfl
      | some l =>
        simp only [varF, Option.bind_some, Option.map_eq_none_iff] at hvn
        simp [fieldF, hvn]
    rw [hvn] at hg1 hs1
    rw [hfn]
    exact ⟨_, _, _, rfl, ⟨hc1, rfl, World.ownsRow_nil _ _ _ _⟩, a1, n1, c1, hg1, hs1⟩
  · cases st with
    | none => simp [varF] at h
    | some l =>
    cases hv : readVarF l with
    | none => simp [varF, hv] at h
    | some p =>
    obtain ⟨k, s⟩ := p
    obtain ⟨h1, h2, _, h4⟩ := readVarF_some hv
    have hvf : varF (some l) = some (k, l.drop s) := by simp [varF, hv]
    simp only [Option.getD_some] at hb
    rw [hvf] at hs1 hg1 hr1 ⊢
    simp only [Option.map_some, Option.getD_some, Option.bind_some] at hs1 hg1 hr1 ⊢
    refine ⟨fun hk => ?_, fun hk => ?_⟩
    · have hk' : 67108864 < k := by simp at hk; omega
      have hfn : fieldF l = none := by simp [fieldF, hv]; omega
      refine (fail_spec g T a1 n1 c1 _ w1 hg1).mono ?_
      rintro e w2 ⟨rfl, hc2, hg2⟩
      rw [hfn]
      exact ⟨rfl, _, _, _, rfl, ⟨hc1.trans hc2, rfl, World.ownsRow_nil _ _ _ _⟩, none, 0, 0, hg2, fun v _ => rdNil v⟩
    · have hk' : k ≤ 67108864 := by simp at hk; omega
      have hfr : fieldF l = rawF (some (l.drop s)) (k : Int) := by
        simp only [fieldF, hv, Option.bind_some, rawF, List.length_drop, List.drop_drop]
        by_cases hks : k + s ≤ l.length
        · rw [if_pos ⟨hk', hks⟩, if_pos (by omega), Int.toNat_natCast]
        · rw [if_neg (by omega), if_neg (by omega)]
      rw [hfr]
      refine (rRaw_spec g T (some (l.drop s)) k a1 n1 c1 w1 hg1 hr1 (by simp; omega)).mono ?_
      rintro e w2 ⟨a2, n2, c2, rfl, hf2, a3, n3, c3, hg3, hs3⟩
      exact ⟨_, _, _, rfl, _, _, _, rfl, ⟨hc1.trans hf2.1, hf2.2.1, ownsRow_base hf2.2.2 hc1.size⟩, a3, n3, c3, hg3, fun v hv => hs3 v (hs1 v hv)⟩

open Go Sx
set_option maxRecDepth 8000

/-- What n fields are. -/
def unpackF : Nat → List UInt8 → Option (List (List UInt8))
  | 0, l => if l = [] then some [] else none
  | k + 1, l => (fieldF l).bind fun p => (unpackF k p.2).map (p.1 :: ·)

def unpackZ (x : Int) (l : List UInt8) : Option (List (List UInt8)) := if x < 0 then none else unpackF x.toNat l

/-- Lists in rows of their own, in a row of its own. -/
structure OwnL (w w' : World) (a : Option Addr) (n c : Nat) (vs : List Value) (ls : List (List UInt8)) : Prop where
  st : St w [] w' (.row 33 1 (.slice a n c) n vs :: rowsL vs ls) 
  len : vs.length = ls.length
  hd : ∀ i, i < ls.length → ∃ a c, vs[i]? = some (.slice a (ls.getD i []).length c)

theorem rowsL_snoc {vs : List Value} {ls : List (List UInt8)} (h : vs.length = ls.length) (v : Value) (l : List UInt8) : rowsL (vs ++ [v]) (ls ++ [l]) = rowsL vs ls ++ [.row 5 1 v l.length (bv l)] := by
  rw [rowsL, List.zipWith_append h]; rfl

theorem hd_snoc {vs : List Value} {ls : List (List UInt8)} (h : vs.length = ls.length) (hd : ∀ i, i < ls.length → ∃ a c, vs[i]? = some (.slice a (ls.getD i []).length c)) (a : Option Addr) (c : Nat) (l : List UInt8) :
    ∀ i, i < (ls ++ [l]).length → ∃ a' c', (vs ++ [Value.slice a l.length c])[i]? = some (.slice a' ((ls ++ [l]).getD i []).length c') := by
  intro i hi
  by_cases hlt : i < ls.length
  · obtain ⟨a', c', h1⟩ := hd i hlt
    refine ⟨a', c', ?_⟩
    rw [List.getElem?_append_left (by omega), h1]
    simp [List.getD, List.getElem?_append_left hlt]
  · have : i = ls.length := by simp at hi; omega
    subst this
    refine ⟨a, c, ?_⟩
    rw [List.getElem?_append_right (by omega), h, Nat.sub_self]
    simp [List.getD]

theorem OwnL.row2 {w w' : World} {a : Option Addr} {n c : Nat} {vs : List Value} {ls : List (List UInt8)} (h : OwnL w w' a n c vs ls) : Row2 w' vs ls := by
  refine ⟨h.len, fun i hi => ?_⟩
  obtain ⟨a', c', h1⟩ := h.hd i hi
  refine ⟨a', _, c', h1, h.st.rd (i := i + 1) (e := 5) ?_⟩
  rw [List.getElem?_cons_succ, rowsL_get h.len hi]
  simp [List.getD, h1]

theorem OwnL.rd {w w' : World} {a : Option Addr} {n c : Nat} {vs : List Value} {ls : List (List UInt8)} (h : OwnL w w' a n c vs ls) : Rd w' a n c 1 vs := h.st.rd (i := 0) rfl
theorem OwnL.num {w w' : World} {a : Option Addr} {n c : Nat} {vs : List Value} {ls : List (List UInt8)} (h : OwnL w w' a n c vs ls) : ls.length = n := by have := h.rd.len; have := h.len; omega

theorem OwnL.push {w0 w w' : World} {a : Option Addr} {n c : Nat} {vs : List Value} {ls : List (List UInt8)} {a3 : Option Addr} {n3 c3 : Nat} {f : List UInt8} (h : OwnL w0 w a n c vs ls) (hf : FreshB w w' a3 n3 c3 f) (hb : n + 1 ≤ 1000000000) :
    ∃ g w2 va vc w3, (Instr.buildSlice 23 1 #[(0, .slice a3 n3 c3)]).run Tryz.prog w' = .ok (.slice (some ⟨g, 0, none⟩) 1 1) w2 ∧
      (Builtin.append_ #[23, 23] 23 #[.slice a n c, .slice (some ⟨g, 0, none⟩) 1 1]).run Tryz.prog w2 = .ok (.slice va (n + 1) vc) w3 ∧ OwnL w0 w3 va (n + 1) vc (vs ++ [Value.slice a3 n3 c3]) (ls ++ [f]) := by
  have h4 := hf.add h.st
  have hfl := hf.2.1
  subst hfl
  have h5 : St w0 [] w' (.row 33 1 (.slice a n c) n vs :: rowsL (vs ++ [Value.slice a3 f.length c3]) (ls ++ [f])) := by
    rw [rowsL_snoc h.len]; exact h4
  obtain ⟨g6, w6, va, vc, w7, r6, r7, h7, h6, hc6⟩ := h5.pushV (i := 0) (ty := 23) bbT rfl (.slice a3 f.length c3) rfl (by omega) (by simp only [maxLen]; omega)
  exact ⟨g6, w6, va, vc, w7, r6, r7, h7, by simp [h.len], hd_snoc h.len h.hd _ _ _⟩

theorem OwnL.same {w0 w w' : World} {a : Option Addr} {n c : Nat} {vs : List Value} {ls : List (List UInt8)} (h : OwnL w0 w a n c vs ls) (hc : Chg [] w w') : OwnL w0 w' a n c vs ls := ⟨h.st.same hc, h.len, h.hd⟩

theorem OwnL.nil (w : World) : OwnL w w none 0 0 [] [] := ⟨(St.start w).addNil _ _, rfl, by simp⟩

theorem unpackF_len : ∀ (k : Nat) (l : List UInt8) (fs : List (List UInt8)), unpackF k l = some fs → fs.length = k ∧ fs.length + fs.flatten.length ≤ l.length
  | 0, l, fs, h => by
    simp only [unpackF] at h
    split at h
    · simp only [Option.some.injEq] at h; subst h; simp
    · cases h
  | k + 1, l, fs, h => by
    simp only [unpackF, Option.bind_eq_some_iff, Option.map_eq_some_iff] at h
    obtain ⟨⟨f, r⟩, h1, gs, h2, rfl⟩ := h
    obtain ⟨s, _, _, _, h3, h4, _⟩ := fieldF_some h1
    obtain ⟨h5, h6⟩ := unpackF_len k r gs h2
    simp only [List.length_cons, List.flatten_cons, List.length_append]
    omega

theorem built_reader : Tryz.prog.built 202 = fun parts => Instr.fill (fun i => (#[(0, 1), (1, 1)] : Array (Nat × Nat))[i]?) #[.slice none 0 0, .bool false] parts := by kernel_rfl

theorem reader_build (a : Option Addr) (n c : Nat) (w : World) : (Instr.build 202 #[(0, .slice a n c)]).run Tryz.prog w = .ok (.agg #[.slice a n c, .bool false]) w := by
  apply run_build
  rw [built_reader]
  show Instr.fill _ _ [(0, .slice a n c)] = _
  rw [fill_step (off := 0) (sz := 1) rfl (by simp [Value.cells]) (by simp)]
  simp [Instr.fill, Value.cells]

open Go Sx
set_option maxRecDepth 8000

theorem rvar_neg (x : Int) (w : World) (h : x < 0) : Calls Tryz.prog 126 #[.int .i64 x] w fun e w' => e = .returned (.slice none 0 0) ∧ w' = w := by
  apply amphoraref04_Var_vc
  refine ⟨fun x' _ _ _ w' => x' < 0 ∧ w' = w, fun _ _ _ _ _ => 0, ⟨h, rfl⟩, ?_⟩
  rintro x' a n c w1 ⟨hx, rfl⟩
  exact ⟨fun h' => by simp at h'; omega, fun _ => ⟨rfl, rfl⟩⟩

theorem rvar_spec (m : Nat) (w : World) (hm : m < 9223372036854775808) : Calls Tryz.prog 126 #[.int .i64 (m : Int)] w fun e w' => ∃ a n c, e = .returned (.slice a n c) ∧ FreshB w w' a n c (varL m) := by
  have hlen := varL_len 9 m (by simpa using hm) (by decide)
  apply amphoraref04_Var_vc
  refine ⟨fun x a n c w' => ∃ (k : Nat) (pre : List UInt8), x = (k : Int) ∧ k < 9223372036854775808 ∧ varL m = pre ++ varL k ∧ pre.length = n ∧ St w [] w' [.row 5 1 (.slice a n c) n (bv pre)], fun x _ _ _ _ => x.toNat,
    ⟨m, [], rfl, hm, rfl, rfl, (St.start w).addNil _ _⟩, ?_⟩
  rintro x a n c w1 ⟨k, pre, rfl, hk, he, hl, hS⟩
  have hn : n + (varL k).length ≤ 9 := by have := congrArg List.length he; simp at this; omega
  have hk1 := varL_pos k
  have hd : IntKind.wrap .i64 (Int.tdiv (k : Int) 128) = ((k / 128 : Nat) : Int) := by rw [show Int.tdiv (k : Int) 128 = ((k / 128 : Nat) : Int) by rw [Int.tdiv_eq_ediv_of_nonneg (by omega)]; omega]; exact wrap_i64_nat _ (by omega)
  have hmo : Int.tmod (k : Int) 128 = ((k % 128 : Nat) : Int) := by rw [Int.tmod_eq_emod_of_nonneg (by omega)]; omega
  refine ⟨fun _ => ?_, fun h => by simp at h⟩
  rw [hd, hmo]
  refine ⟨fun h => ?_, fun h => ?_⟩
  · have hk0 : k < 128 := by simp at h; omega
    have hv : IntKind.wrap .u8 ((k % 128 : Nat) : Int) = (k : Int) := by rw [wrap_u8]; omega
    rw [hv]
    obtain ⟨g, w2, va, vc, w3, hr2, hr3, h3, _⟩ := hS.push1 (i := 0) rfl (by omega) k (by omega)
    refine ⟨_, _, _, _, hr2, _, _, _, _, hr3, _, _, _, rfl, ?_⟩
    rw [he, varL_small hk0]
    exact h3.freshB (i := 0) rfl
  · have hk0 : ¬ k < 128 := by simp at h; omega
    have hv : IntKind.wrap .u8 (IntKind.wrap .i64 (((k % 128 : Nat) : Int) + 128)) = ((k % 128 + 128 : Nat) : Int) := by
      rw [wrap_i64 (by omega) (by omega), wrap_u8]; omega
    rw [hv]
    obtain ⟨g, w2, va, vc, w3, hr2, hr3, h3, _⟩ := hS.push1 (i := 0) rfl (by omega) (k % 128 + 128) (by omega)
    refine ⟨_, _, _, _, hr2, _, _, _, _, hr3, ⟨k / 128, pre ++ [UInt8.ofNat (k % 128 + 128)], rfl, by omega, ?_, by simp [hl], h3⟩, ?_⟩
    · rw [he, varL_big hk0]; simp
    · simp; omega

/-- What the bytes of a number say that has not ended, and one more. -/
def valL : List UInt8 → Nat → Nat
  | [], b => b
  | p :: ps, b => (p.toNat - 128) + 128 * valL ps b

theorem valL_snoc (ps : List UInt8) (p : UInt8) (b : Nat) : valL (ps ++ [p]) b = valL ps ((p.toNat - 128) + 128 * b) := by
  induction ps with
  | nil => rfl
  | cons q ps ih => simp [valL, ih]

theorem valL_pos : ∀ (ps : List UInt8) (b : Nat), 0 < b → 0 < valL ps b
  | [], _, h => h
  | p :: ps, b, h => by have := valL_pos ps b h; simp only [valL]; omega

theorem ofNat_toNat8 (p : UInt8) : UInt8.ofNat p.toNat = p := by simp

theorem varL_valL : ∀ (ps : List UInt8) (b : UInt8), (∀ p ∈ ps, 128 ≤ p.toNat) → b.toNat < 128 → (b.toNat ≠ 0 ∨ ps = []) → varL (valL ps b.toNat) = ps ++ [b]
  | [], b, _, hb, _ => by simp [valL, varL_small hb]
  | p :: ps, b, hp, hb, h => by
    have hb0 : b.toNat ≠ 0 := h.resolve_right (by simp)
    have hpos := valL_pos ps b.toNat (by omega)
    have h1 := hp p (by simp)
    have h2 := p.toNat_lt
    have ih := varL_valL ps b (fun q hq => hp q (by simp [hq])) hb (.inl hb0)
    rw [valL, varL_big (by omega), show (p.toNat - 128 + 128 * valL ps b.toNat) / 128 = valL ps b.toNat by omega, ih, show (p.toNat - 128 + 128 * valL ps b.toNat) % 128 + 128 = p.toNat by omega, ofNat_toNat8]
    rfl

theorem varL_valL_ne : ∀ (ps : List UInt8), ps ≠ [] → (∀ p ∈ ps, 128 ≤ p.toNat) → varL (valL ps 0) ≠ ps ++ [0]
  | [], h, _ => absurd rfl h
  | p :: ps, _, hp => by
    have h1 := hp p (by simp)
    have h2 := p.toNat_lt
    intro he
    rw [valL] at he
    by_cases h0 : valL ps 0 = 0
    · rw [h0, varL_small (by omega)] at he
      have := congrArg List.length he
      simp at this
    · rw [varL_big (by omega), show (p.toNat - 128 + 128 * valL ps 0) / 128 = valL ps 0 by omega] at he
      have hps : ps ≠ [] := by rintro rfl; exact h0 rfl
      simp only [List.cons_append, List.cons.injEq] at he
      exact varL_valL_ne ps hps (fun q hq => hp q (by simp [hq])) he.2

/-- The three results of the reference's ReadVar. -/
def rvOutR : Option (Nat × Nat) → Value
  | some (n, s) => .tuple #[.int .i64 (n : Int), .int .i64 (s : Int), .int .i64 0]
  | none => .tuple #[.int .i64 0, .int .i64 0, .int .i64 9]

theorem rnum_bytes (x : Int) (w : World) : Calls Tryz.prog 74 #[.int .i64 x] w fun e w' => ∃ a n c, e = .returned (.slice a n c) ∧ FreshB w w' a n c (numL (x % 18446744073709551616).toNat) := by
  obtain ⟨u, hu⟩ : ∃ u : Nat, (x % 18446744073709551616).toNat = u := ⟨_, rfl⟩
  have hux : x % 18446744073709551616 = (u : Int) := by omega
  have hult : u < 18446744073709551616 := by omega
  rw [hu]
  apply amphoraref04_Num_vc
  obtain ⟨g, w1, hr1, h1⟩ := (St.start w).mkN (kl := .i64) (kc := .i64) (c := 8) bT rfl (by omega) (by omega) (by omega)
  refine ⟨_, _, _, _, hr1, fun v i w' => ∃ j : Nat, j ≤ 8 ∧ i = 7 - (j : Int) ∧ v = ((u / 256 ^ j : Nat) : Int) ∧ ∃ xs, St w [] w' [.row 5 1 (.slice (some ⟨g, 0, none⟩) 8 8) 8 xs] ∧ xs.length = 8 ∧ xs.drop (8 - j) = bv ((numL u).drop (8 - j)), fun _ i _ => (i + 1).toNat,
    ⟨0, by omega, by omega, ?_, _, h1, by simp, ?_⟩, ?_⟩
  · rw [wrap_u64, hux]; simp
  · rw [Nat.sub_zero, List.drop_of_length_le (by simp), List.drop_of_length_le (by rw [numL_len]; exact Nat.le_refl _)]; rfl
  rintro v i w2 ⟨j, hj, rfl, rfl, xs, hS, hxs, hdr⟩
  refine ⟨fun h => ?_, fun h => ?_⟩
  · have hj8 : j < 8 := by simp at h; omega
    refine ⟨g, 0, rfl, by omega, by simp; omega, ?_⟩
    have hv : IntKind.wrap .u8 (Int.tmod ((u / 256 ^ j : Nat) : Int) 256) = ((UInt8.ofNat (u / 256 ^ j % 256)).toNat : Int) := by
      rw [Int.tmod_eq_emod_of_nonneg (Int.natCast_nonneg _), wrap_u8]; simp
    rw [hv]
    obtain ⟨b, hb⟩ : ∃ b, UInt8.ofNat (u / 256 ^ j % 256) = b := ⟨_, rfl⟩
    rw [hb]
    obtain ⟨w3, hr3, h3⟩ := hS.stRow (i := 0) (j := 7 - j) (T := 5) (v := .int .u8 (b.toNat : Int)) rfl (by exact Tryz.sizeOf5 _) (by omega) (by simp [Value.oneCell'])
    rw [show (0 + Int.toNat (7 - (j : Int)) * 1) = 7 - j by omega]
    refine ⟨w3, hr3, ⟨j + 1, by omega, ?_, ?_, _, h3, by simp [hxs], ?_⟩, ?_⟩
    · rw [wrap_i64 (by omega) (by omega)]; omega
    · have hdd : u / 256 ^ j / 256 = u / 256 ^ (j + 1) := by rw [Nat.div_div_eq_div_mul, Nat.pow_succ]
      have : u / 256 ^ (j + 1) ≤ u := Nat.div_le_self _ _
      rw [Int.tdiv_eq_ediv_of_nonneg (Int.natCast_nonneg _), show ((u / 256 ^ j : Nat) : Int) / 256 = ((u / 256 ^ (j + 1) : Nat) : Int) by rw [← hdd]; exact (Int.natCast_ediv _ 256).symm, wrap_u64]
      generalize u / 256 ^ (j + 1) = q at this ⊢
      omega
    · have hlt : 7 - j < (numL u).length := by rw [numL_len]; omega
      have hget : (numL u)[7 - j]? = some b := by rw [numL_get _ _ (by omega), ← hb, show 7 - (7 - j) = j by omega]
      rw [show 8 - (j + 1) = 7 - j by omega, List.drop_set, if_neg (by omega), Nat.sub_self, List.drop_eq_getElem_cons (by omega), List.set_cons_zero, show 7 - j + 1 = 8 - j by omega, hdr, List.drop_eq_getElem_cons hlt,
        show 7 - j + 1 = 8 - j by omega]
      rw [List.getElem?_eq_getElem hlt, Option.some.injEq] at hget
      rw [hget]
      rfl
    · show (IntKind.wrap .i64 (7 - (j : Int) - 1) + 1).toNat < (7 - (j : Int) + 1).toNat
      rw [wrap_i64 (by omega) (by omega)]; omega
  · have hj8 : j = 8 := by simp at h; omega
    subst hj8
    simp only [Nat.sub_self, List.drop_zero] at hdr
    subst hdr
    exact ⟨_, _, _, rfl, hS.freshB (i := 0) rfl⟩

/-- The two results of the reference's ReadNum. -/
def rnOutR : Option Int → Value
  | some x => .tuple #[.int .i64 x, .int .i64 0]
  | none => .tuple #[.int .i64 0, .int .i64 9]

open Go Sx
set_option maxRecDepth 8000

theorem rpack_spec (a : Option Addr) (n c : Nat) (vs : List Value) (ls : List (List UInt8)) (w : World) (hr : Rd w a n c 1 vs) (h2 : Row2 w vs ls) (hb : ls.flatten.length ≤ 67108864) (hn : ls.length ≤ 1048576) :
    Calls Tryz.prog 105 #[.slice a n c] w fun e w' => ∃ a' n' c', e = .returned (.slice a' n' c') ∧ FreshB w w' a' n' c' (packL ls) := by
  have hln : ls.length = n := by have := hr.len; have := h2.len; omega
  apply amphoraref04_Pack_vc
  refine ⟨fun xa xn xc x w' => ∃ i : Nat, x = (i : Int) ∧ i ≤ n ∧ xn = (packL (ls.take i)).length ∧ St w [] w' [.row 5 1 (.slice xa xn xc) xn (bv (packL (ls.take i)))], fun _ _ _ x _ => n - x.toNat,
    ⟨0, rfl, by omega, by simp [packL], (St.start w).addNil _ _⟩, ?_⟩
  rintro xa xn xc x w1 ⟨i, rfl, hi, hxn, hS⟩
  have hpb := packL_bound hb i
  refine ⟨fun h => ?_, fun h => ?_⟩
  · have hi' : i < n := by simp at h; omega
    obtain ⟨b, o, a', n', c', ha, hv, hrd, hld⟩ := ixS hr.cells h2 (i := i) (by omega)
    have hl' := hrd.lenB
    have hle := getD_le_flat (ls := ls) (i := i) (by omega)
    refine ⟨b, o, ha, by omega, by omega, _, _, _, hld w1 (hr.cells.keep0 hS.chg), fun h => ?_, fun _ => ?_⟩
    · simp at h; omega
    · have h9 := varL_len 9 n' (by simp; omega) (by decide)
      have hSd := hS.drew
      refine ⟨fun w' => Chg [] w w', hSd.chg, b, o, ha, by omega, by omega, b, o, ha, by omega, by omega, a', n', c', fun w' h => hld w' (hr.cells.keep0 h), a', n', c', fun w' h => hld w' (hr.cells.keep0 h), thenC (rvar_spec n' w1.drew (by omega)) ?_⟩
      rintro e w2 ⟨a2, n2, c2, rfl, hf2⟩
      have hS2 := hf2.add hSd
      have hn2 := hf2.2.1
      obtain ⟨va, vc, w3, hr3, hS3⟩ := hS2.appendB (i := 0) rfl (hS2.rd (i := 1) rfl) (by omega)
      obtain ⟨vb, vd, w4, hr4, hS4⟩ := hS3.appendB (i := 0) rfl (hS3.rd1 hrd) (by omega)
      have hpt := packL_take (ls := ls) (i := i) (by omega)
      rw [hl'] at hpt
      refine ⟨_, _, _, rfl, fun w' => Chg [] w w', fun _ h => h, hS2.chg, _, _, _, _, hr3, fun w' => Chg [] w w', fun _ h => h, hS3.chg, _, _, _, _, hr4, fun w' => Chg [] w w', fun _ h => h, hS4.chg, ⟨i + 1, ?_, by omega, ?_, ?_⟩, ?_⟩
      · rw [wrap_i64 (by omega) (by omega)]; rfl
      · rw [hpt]; simp only [List.length_append]; omega
      · rw [hpt]; exact St.pop (M := [_]) hS4
      · show n - (IntKind.wrap .i64 ((i : Int) + 1)).toNat < n - ((i : Int)).toNat
        rw [wrap_i64 (by omega) (by omega)]; omega
  · have hi' : i = n := by simp at h; omega
    rw [hi', ← hln, List.take_length] at hS
    exact ⟨_, _, _, rfl, hS.freshB (i := 0) rfl⟩

open Go Sx
set_option maxRecDepth 8000

/-- A frame's bytes. -/
def frameL (k : UInt8) (b : List UInt8) : List UInt8 := k :: (varL b.length ++ b)

theorem frame_spec (k : UInt8) (a : Option Addr) (n c : Nat) (vs : List Value) (ls : List (List UInt8)) (w : World) (hr : Rd w a n c 1 vs) (h2 : Row2 w vs ls) (hb : ls.flatten.length ≤ 67108864) (hn : ls.length ≤ 1048576) :
    Calls Tryz.prog 103 #[.int .u8 (k.toNat : Int), .slice a n c] w fun e w' => ∃ a' n' c', e = .returned (.slice a' n' c') ∧ FreshB w w' a' n' c' (frameL k ls.flatten) := by
  have hln : ls.length = n := by have := hr.len; have := h2.len; omega
  apply wire_Frame_vc
  refine ⟨fun x y w' => ∃ i : Nat, y = (i : Int) ∧ i ≤ n ∧ x = (((ls.take i).flatten.length : Nat) : Int) ∧ w' = w, fun _ y _ => n - y.toNat, ⟨0, rfl, by omega, by simp, rfl⟩, ?_⟩
  rintro x y w1 ⟨i, rfl, hi, rfl, rfl⟩
  have hft := flat_take_le ls i
  refine ⟨fun h => ?_, fun h => ?_⟩
  · have hi' : i < n := by simp at h; omega
    obtain ⟨b, o, a', n', c', ha, hv, hrd, hld⟩ := ixS hr.cells h2 (i := i) (by omega)
    have hl' := hrd.lenB
    have hf1 := flat_take (ls := ls) (i := i) (by omega)
    have hf2 := flat_take_le ls (i + 1)
    rw [hf1, List.length_append, hl'] at hf2
    refine ⟨b, o, ha, by omega, by omega, _, _, _, hld w1 hr.cells, fun h => ?_, fun _ => ⟨⟨i + 1, wrap_succ hi' (by omega), by omega, ?_, rfl⟩, mu_succ hi' (by omega)⟩⟩
    · rw [wrap_i64 (by omega) (by omega)] at h; simp only [gt_iff_lt, decide_eq_true_eq] at h; omega
    · rw [wrap_i64 (by omega) (by omega), hf1, List.length_append, hl']; omega
  · have hi' : i = n := by simp at h; omega
    rw [hi', ← hln, List.take_length]
    rw [hln]
    obtain ⟨g, w2, r2, h2'⟩ := (St.start w1).lit bT [.int .u8 (k.toNat : Int)] (by simp [Value.oneCell']) (by simp)
    refine ⟨_, _, _, _, r2, (var_spec ls.flatten.length w2 (by omega)).mono ?_⟩
    rintro e w3 ⟨a3, n3, c3, rfl, hf3⟩
    have h3 := hf3.add h2'
    have h9 := varL_len 9 ls.flatten.length (by omega) (by decide)
    have hn3 := hf3.2.1
    obtain ⟨va, vc, w4, r4, h4⟩ := h3.appendB (i := 0) (xs := [k]) rfl (h3.rd (i := 1) rfl) (by simp; omega)
    have h4' := St.pop (M := [_]) h4
    refine ⟨_, _, _, rfl, _, _, _, _, r4, fun xa xn xc y w' => ∃ i : Nat, y = (i : Int) ∧ i ≤ n ∧ xn = 1 + n3 + (ls.take i).flatten.length ∧ St w1 [] w' [.row 5 1 (.slice xa xn xc) xn (bv (k :: (varL ls.flatten.length ++ (ls.take i).flatten)))], fun _ _ _ y _ => n - y.toNat, ⟨0, rfl, by omega, by simp, by simpa using h4'⟩, ?_⟩
    rintro xa xn xc y w5 ⟨i, rfl, hi, rfl, hS⟩
    have hft := flat_take_le ls i
    refine ⟨fun h => ?_, fun h => ?_⟩
    · have hi' : i < n := by simp at h; omega
      obtain ⟨b, o, a', n', c', ha, hv, hrd, hld⟩ := ixS hr.cells h2 (i := i) (by omega)
      have hl' := hrd.lenB
      have hf1 := flat_take (ls := ls) (i := i) (by omega)
      have hf2 := flat_take_le ls (i + 1)
      rw [hf1, List.length_append, hl'] at hf2
      obtain ⟨va, vc, w6, r6, h6⟩ := hS.appendB (i := 0) rfl (hS.rd1 hrd) (by omega)
      refine ⟨b, o, ha, by omega, by omega, _, _, _, hld w5 (hr.cells.keep0 hS.chg), _, _, _, _, r6, ⟨i + 1, wrap_succ hi' (by omega), by omega, ?_, ?_⟩, mu_succ hi' (by omega)⟩
      · rw [hf1, List.length_append, hl']; omega
      · rw [hf1]
        have e : k :: (varL ls.flatten.length ++ ((ls.take i).flatten ++ ls.getD i [])) = k :: (varL ls.flatten.length ++ (ls.take i).flatten) ++ ls.getD i [] := by simp
        rw [e]; exact h6
    · have hi' : i = n := by simp at h; omega
      subst hi'
      rw [← hln, List.take_length] at hS ⊢
      exact ⟨_, _, _, rfl, hS.freshB (i := 0) rfl⟩

/-- The frame with which bytes begin: its kind, its body, the rest. -/
def frameF : List UInt8 → Option (UInt8 × List UInt8 × List UInt8)
  | [] => none
  | k :: r => (fieldF r).map fun p => (k, p.1, p.2)

theorem frameF_some {l b r : List UInt8} {k : UInt8} (h : frameF l = some (k, b, r)) : ∃ t, l = k :: t ∧ fieldF t = some (b, r) ∧ b.length + r.length + 2 ≤ l.length := by
  cases l with
  | nil => cases h
  | cons x t =>
    simp only [frameF, Option.map_eq_some_iff, Prod.mk.injEq] at h
    obtain ⟨⟨b', r'⟩, h1, rfl, rfl, rfl⟩ := h
    obtain ⟨s, _, _, _, h3, h4, _⟩ := fieldF_some h1
    exact ⟨t, rfl, h1, by simp only [List.length_cons] at *; omega⟩

/-- The whole frames, and the place behind them. -/
def framesF : Nat → List UInt8 → Nat → List (UInt8 × List UInt8 × Nat) × Nat
  | 0, _, p => ([], p)
  | f + 1, l, p => match frameF l with
    | none => ([], p)
    | some (k, b, r) => ((k, b, p) :: (framesF f r (p + (l.length - r.length))).1, (framesF f r (p + (l.length - r.length))).2)

/-- The cells of frames. -/
def frCells (vs : List Value) (fs : List (UInt8 × List UInt8 × Nat)) : List Value := (List.zipWith (fun v f => [.int .i64 (f.1.toNat : Int), v, .int .i64 (f.2.2 : Int)]) vs fs).flatten

theorem frCells_snoc {vs : List Value} {fs : List (UInt8 × List UInt8 × Nat)} (h : vs.length = fs.length) (v : Value) (f : UInt8 × List UInt8 × Nat) : frCells (vs ++ [v]) (fs ++ [f]) = frCells vs fs ++ [.int .i64 (f.1.toNat : Int), v, .int .i64 (f.2.2 : Int)] := by
  rw [frCells, List.zipWith_append h]; simp [frCells]

theorem frT : ElemT Tryz.prog 132 137 3 40 (.agg #[.int .i64 0, .slice none 0 0, .int .i64 0]) := ⟨by kernel_rfl, ⟨Tryz.t137, by kernel_rfl, by kernel_rfl, by kernel_rfl, by kernel_rfl⟩, rfl, by decide⟩

theorem built_frame : Tryz.prog.built 137 = fun parts => Instr.fill (fun i => (#[(0, 1), (1, 1), (2, 1)] : Array (Nat × Nat))[i]?) #[.int .i64 0, .slice none 0 0, .int .i64 0] parts := by kernel_rfl

theorem frame_build (k p : Int) (a : Option Addr) (n c : Nat) (w : World) : (Instr.build 137 #[(0, .int .i64 k), (1, .slice a n c), (2, .int .i64 p)]).run Tryz.prog w = .ok (.agg #[.int .i64 k, .slice a n c, .int .i64 p]) w := by
  apply run_build
  rw [built_frame]
  show Instr.fill _ _ [(0, .int .i64 k), (1, .slice a n c), (2, .int .i64 p)] = _
  rw [fill_step (off := 0) (sz := 1) rfl (by simp [Value.cells]) (by simp), fill_step (off := 1) (sz := 1) rfl (by simp [Value.cells]) (by simp [Value.cells]), fill_step (off := 2) (sz := 1) rfl (by simp [Value.cells]) (by simp [Value.cells])]
  simp [Instr.fill, Value.cells]

/-- Frames in a row of their own, their bodies in rows of their own. -/
structure OwnF (w w' : World) (a : Option Addr) (n c : Nat) (vs : List Value) (fs : List (UInt8 × List UInt8 × Nat)) : Prop where
  st : St w [] w' (.row 137 3 (.slice a n c) n (frCells vs fs) :: rowsL vs (fs.map fun f => f.2.1))
  len : vs.length = fs.length
  num : fs.length = n
  hd : ∀ i, i < (fs.map fun f => f.2.1).length → ∃ a c, vs[i]? = some (.slice a ((fs.map fun f => f.2.1).getD i []).length c)

theorem frames_spec (a : Option Addr) (n c : Nat) (l : List UInt8) (w : World) (hr : RdB w a n c l) (hb : n ≤ 1048576) :
    Calls Tryz.prog 88 #[.slice a n c] w fun e w' => ∃ a' n' c' vs, e = .returned (.tuple #[.slice a' n' c', .int .i64 (((framesF (l.length + 1) l 0).2 : Nat) : Int)]) ∧ OwnF w w' a' n' c' vs (framesF (l.length + 1) l 0).1 := by
  have iB : ∀ w, (isAgg 4).run Tryz.prog w = .ok false w := fun w => Tryz.isAgg4 w
  have hl := hr.lenB
  apply wire_Frames_vc
  obtain ⟨g, w1, r1, h1⟩ := (St.start w).box (P := Tryz.prog) 202 (.agg #[.slice a n c, .bool false])
  have h1' := h1.addNil 137 3
  refine ⟨_, reader_build a n c w, g, w1, r1, fun xa xn xc y w' => ∃ (fs : List (UInt8 × List UInt8 × Nat)) (rest : List UInt8) (vs : List Value) (a2 : Option Addr) (n2 c2 p f : Nat), y = (p : Int) ∧ xn = fs.length ∧ rest.length < f ∧
      framesF (l.length + 1) l 0 = (fs ++ (framesF f rest p).1, (framesF f rest p).2) ∧ fs.length + rest.length ≤ n ∧ p + rest.length = n ∧
      St w [] w' ([.blk g (.cells #[.slice a2 n2 c2, .bool false] 202), .row 137 3 (.slice xa xn xc) xn (frCells vs fs)] ++ rowsL vs (fs.map fun f => f.2.1)) ∧ RdB w a2 n2 c2 rest ∧ vs.length = fs.length ∧ (∀ i, i < (fs.map fun f => f.2.1).length → ∃ a c, vs[i]? = some (.slice a ((fs.map fun f => f.2.1).getD i []).length c)),
    fun _ xn _ _ _ => n - xn, ⟨[], l, [], a, n, c, 0, l.length + 1, rfl, rfl, by omega, by simp, by simp; omega, by omega, h1', hr, rfl, by simp⟩, ?_⟩
  rintro xa xn xc y w2 ⟨fs, rest, vs, a2, n2, c2, p, f, rfl, rfl, hfr, hff, hlen, hp, hS, hrd, hvs, hhd⟩
  obtain ⟨f, rfl⟩ : ∃ f', f = f' + 1 := ⟨f - 1, by omega⟩
  have hrl := hrd.lenB
  have hg : w2.heap[g]? = some (.cells #[.slice a2 n2 c2, .bool false] 202) := hS.holds 0 _ rfl
  refine (raw_spec g _ (some rest) 1 a2 n2 c2 w2 hg (hS.rd1 hrd)).mono ?_
  rintro e w3 ⟨a3, n3, c3, rfl, hc3, ⟨a4, n4, c4, hg4, hs4⟩, hr3⟩
  have hr4 := hs4 w hrd
  have hr43 := (hs4 w2 (hS.rd1 hrd)).keepG hg (rdr_ne _ _ _ _ _) hc3
  have hl4 : (((rawF (some rest) 1).map (·.2)).getD []).length ≤ 1048576 := by
    simp only [rawF, Option.bind_some]
    split <;> simp
    omega
  refine ⟨_, _, _, rfl, (rField_spec g _ _ a4 n4 c4 w3 hg4 hr43 (by omega)).mono ?_⟩
  rintro e w4 ⟨a5, n5, c5, rfl, hf5, a6, n6, c6, hg6, hs6⟩
  have hr6 := hs6 w hr4
  have hr35 := hr3.keepG hg4 (rdr_ne _ _ _ _ _) hf5.1
  -- what the two calls say
  have key : ((rawF (some rest) 1).map (·.2)).bind fieldF = (frameF rest).map (·.2) := by
    cases rest with
    | nil => rfl
    | cons k t =>
      have : rawF (some (k :: t)) 1 = some ([k], t) := by simp [rawF]; omega
      rw [this]
      simp only [Option.map_some, Option.bind_some, frameF]
      cases fieldF t <;> rfl
  have hst : ((((rawF (some rest) 1).map (·.2)).bind fieldF).map (·.2)).isNone = (frameF rest).isNone := by rw [key]; cases frameF rest <;> rfl
  have hf5' : FreshX [g] w2 w4 a5 n5 c5 (((frameF rest).map (·.2.1)).getD []) := by
    rw [key] at hf5
    refine ⟨hc3.trans hf5.1, ?_, ?_⟩
    · have := hf5.2.1; cases h : frameF rest <;> rw [h] at this <;> exact this
    · have := ownsRow_base hf5.2.2 hc3.size; cases h : frameF rest <;> rw [h] at this <;> exact this
  refine ⟨_, _, _, rfl, _, ld1 (iB _) (by rw [cell_of_row w4 g _ _ _ _ hg6]; rfl), fun hbr => ?_, fun hbr => ?_⟩
  · rw [hst] at hbr
    have hfn : frameF rest = none := by simpa using hbr
    have hz : framesF (l.length + 1) l 0 = (fs, p) := by rw [hff]; simp [framesF, hfn]
    rw [hz]
    have h4 := hf5'.addBlk hS (i := 0) rfl hg6
    exact ⟨_, _, _, vs, rfl, (St.pop h4).tail, hvs, rfl, hhd⟩
  · rw [hst] at hbr
    obtain ⟨q, hq⟩ : ∃ q, frameF rest = some q := by cases h : frameF rest with
      | none => rw [h] at hbr; simp at hbr
      | some q => exact ⟨q, rfl⟩
    obtain ⟨k, b, r⟩ := q
    obtain ⟨t, rfl, hft, hlt⟩ := frameF_some hq
    have hra : rawF (some (k :: t)) 1 = some ([k], t) := by simp [rawF]; omega
    rw [hra] at hr35 hr6 hg6
    rw [hq] at hf5'
    simp only [Option.map_some, Option.getD_some, Option.bind_some, hft] at hr35 hr6 hg6 hf5'
    have h4 := hf5'.addBlk hS (i := 0) rfl hg6
    have hbl := hf5'.2.1
    subst hbl
    have hl35 := hr35.lenB
    refine ixB (bA _) hr35.cells hl35 (by omega) (by simp at hl35; omega) fun _ _ _ => ?_
    have hk : IntKind.wrap .i64 ((([k].getD (0 : Int).toNat 0).toNat : Int)) = (k.toNat : Int) := by
      have := k.toNat_lt
      simp only [Int.toNat_zero]
      rw [show [k].getD 0 0 = k from rfl, wrap_i64 (by omega) (by omega)]
    rw [hk]
    have h5 : St w [] w4 ([.blk g (.cells #[.slice a6 n6 c6, .bool false] 202), .row 137 3 (.slice xa fs.length xc) fs.length (frCells vs fs)] ++ rowsL (vs ++ [Value.slice a5 b.length c5]) ((fs ++ [(k, b, p)]).map fun f => f.2.1)) := by
      rw [List.map_append, List.map_cons, List.map_nil, rowsL_snoc (by simp [hvs]), ← List.append_assoc]; exact h4
    obtain ⟨g6, w6, va, vc, w7, r6, r7, h7, h6⟩ := h5.pushA (i := 1) (ty := 132) frT rfl [.int .i64 (k.toNat : Int), .slice a5 b.length c5, .int .i64 (p : Int)] rfl (by omega) (by simp [Value.oneCell']) (by omega) (by simp only [maxLen]; omega)
    have h7b : w7.heap[g]? = some (.cells #[.slice a6 n6 c6, .bool false] 202) := h7.holds 0 _ rfl
    have hl6 := hr6.lenB
    simp only [List.length_cons] at hlen hp hlt hfr hrl
    refine ⟨_, frame_build _ _ _ _ _ _, _, _, _, _, r6, _, _, _, _, r7, _, _, _, ld1 (bsA _) (by rw [cell_of_row w7 g _ _ _ _ h7b]; rfl), ⟨fs ++ [(k, b, p)], r, vs ++ [Value.slice a5 b.length c5], a6, n6, c6, n - r.length, f, ?_, by simp, by omega, ?_, by simp; omega, by omega, ?_, hr6, by simp [hvs], ?_⟩, ?_⟩
    · rw [wrap_i64 (by omega) (by omega)]; omega
    · rw [hff]
      have hpp : p + ((k :: t).length - r.length) = n - r.length := by simp; omega
      simp only [framesF, hq, hpp]
      simp
    · rw [frCells_snoc hvs]; exact h7
    · rw [List.map_append, List.map_cons, List.map_nil]
      exact hd_snoc (by simp [hvs]) hhd _ _ _
    · show n - (fs.length + 1) < n - fs.length
      omega

open Go Sx
set_option maxRecDepth 8000

/-- Cells of things of one size. -/
theorem flat_get {α : Type} {sz : Nat} : ∀ {L : List (List α)}, (∀ x ∈ L, x.length = sz) → ∀ (i k : Nat), k < sz → L.flatten[i * sz + k]? = (L[i]?).bind fun x => x[k]?
  | [], _, i, k, _ => by simp
  | x :: L, h, 0, k, hk => by
    have hx := h x (by simp)
    rw [List.flatten_cons, Nat.zero_mul, Nat.zero_add, List.getElem?_append_left (by omega)]; rfl
  | x :: L, h, i + 1, k, hk => by
    have hx := h x (by simp)
    have ih := flat_get (L := L) (fun y hy => h y (by simp [hy])) i k hk
    rw [List.flatten_cons, List.getElem?_append_right (by rw [hx, Nat.add_mul]; omega), hx, List.getElem?_cons_succ, ← ih]
    congr 1
    rw [Nat.add_mul]; omega

theorem frCells_get {vs : List Value} {fs : List (UInt8 × List UInt8 × Nat)} (h : vs.length = fs.length) {i : Nat} (hi : i < fs.length) (k : Nat) (hk : k < 3) :
    (frCells vs fs)[i * 3 + k]? = [Value.int .i64 ((fs.getD i (0, [], 0)).1.toNat : Int), vs.getD i .nilIface, .int .i64 ((fs.getD i (0, [], 0)).2.2 : Int)][k]? := by
  rw [frCells, flat_get (sz := 3) _ _ _ hk]
  · have : (List.zipWith (fun v (f : UInt8 × List UInt8 × Nat) => [Value.int .i64 (f.1.toNat : Int), v, .int .i64 (f.2.2 : Int)]) vs fs)[i]? = some [Value.int .i64 ((fs.getD i (0, [], 0)).1.toNat : Int), vs.getD i .nilIface, .int .i64 ((fs.getD i (0, [], 0)).2.2 : Int)] := by
      rw [List.getElem?_zipWith, List.getElem?_eq_getElem hi, List.getElem?_eq_getElem (by omega : i < vs.length)]
      simp [List.getD, hi, show i < vs.length by omega]
    rw [this]; rfl
  · intro x hx
    obtain ⟨j, hj, rfl⟩ := List.getElem_of_mem hx
    simp

/-- Things read by their places. -/
theorem rdAt {w : World} {a : Option Addr} {cs : List Value} (hc : Cells w a cs) (hne : 0 < cs.length) : ∃ b o, a = some ⟨b, o, none⟩ ∧ ∀ {w' : World}, Cells w' a cs → ∀ {j : Nat} {v : Value}, cs[j]? = some v → w'.cell? ⟨b, o + j, none⟩ = some v := by
  obtain ⟨b, o, ha, _⟩ := hc.at_ (i := 0) (v := cs[0]) (by simp [hne])
  refine ⟨b, o, ha, fun {w'} hc' {j v} hv => ?_⟩
  obtain ⟨b', o', ha', hcell⟩ := hc'.at_ hv
  rw [ha] at ha'
  simp only [Option.some.injEq, Addr.mk.injEq, and_true] at ha'
  obtain ⟨rfl, rfl⟩ := ha'
  exact hcell

theorem ldO {P : Program} {w : World} {T : TypeId} {b o off : Nat} {v : Value} (hT : (isAgg T).run P w = .ok false w) (hc : w.cell? ⟨b, o, none⟩ = some v) (he : off = o) : (Instr.loadAt T (.pointer (some ⟨b, off, none⟩))).run P w = .ok v w := by
  subst he; exact ld1 hT hc

/-- Frames in memory, to be read. -/
structure RdF (w : World) (a : Option Addr) (n c : Nat) (vs : List Value) (fs : List (UInt8 × List UInt8 × Nat)) : Prop where
  rd : Rd w a n c 3 (frCells vs fs)
  row : Row2 w vs (fs.map fun f => f.2.1)
  num : fs.length = n

theorem RdF.keep0 {w w' : World} {a : Option Addr} {n c : Nat} {vs : List Value} {fs : List (UInt8 × List UInt8 × Nat)} (h : RdF w a n c vs fs) (hc : Chg [] w w') : RdF w' a n c vs fs := ⟨h.rd.keep0 hc, h.row.keep0 hc, h.num⟩

theorem OwnF.rdF {w w' : World} {a : Option Addr} {n c : Nat} {vs : List Value} {fs : List (UInt8 × List UInt8 × Nat)} (h : OwnF w w' a n c vs fs) : RdF w' a n c vs fs := by
  refine ⟨h.st.rd (i := 0) rfl, ⟨by rw [List.length_map]; exact h.len, fun i hi => ?_⟩, h.num⟩
  obtain ⟨a', c', h1⟩ := h.hd i hi
  refine ⟨a', _, c', h1, h.st.rd (i := i + 1) (e := 5) ?_⟩
  rw [List.getElem?_cons_succ, rowsL_get (by rw [List.length_map]; exact h.len) hi]
  simp only [List.getD, h1, Option.getD_some]

theorem OwnF.same {w0 w w' : World} {a : Option Addr} {n c : Nat} {vs : List Value} {fs : List (UInt8 × List UInt8 × Nat)} (h : OwnF w0 w a n c vs fs) (hc : Chg [] w w') : OwnF w0 w' a n c vs fs := ⟨h.st.same hc, h.len, h.num, h.hd⟩

theorem RdF.vlen {w : World} {a : Option Addr} {n c : Nat} {vs : List Value} {fs : List (UInt8 × List UInt8 × Nat)} (h : RdF w a n c vs fs) : vs.length = fs.length := by have := h.row.len; rwa [List.length_map] at this

theorem Row2.nil (w : World) : Row2 w [] [] := ⟨rfl, by simp⟩
theorem Row2.cons {w : World} {vs : List Value} {ls : List (List UInt8)} {a : Option Addr} {n c : Nat} {l : List UInt8} (h : RdB w a n c l) (h2 : Row2 w vs ls) : Row2 w (.slice a n c :: vs) (l :: ls) := by
  refine ⟨by simp [h2.len], fun i hi => ?_⟩
  cases i with
  | zero => exact ⟨a, n, c, rfl, h⟩
  | succ i => exact h2.rd i (by simpa using hi)

theorem rframe_spec (k : UInt8) (a : Option Addr) (n c : Nat) (l : List UInt8) (w : World) (hr : RdB w a n c l) (hb : n ≤ 67108864) :
    Calls Tryz.prog 75 #[.int .u8 (k.toNat : Int), .slice a n c] w fun e w' => ∃ a' n' c', e = .returned (.slice a' n' c') ∧ FreshB w w' a' n' c' (frameL k l) := by
  have hl := hr.lenB
  apply amphoraref04_Frame_vc
  refine ⟨fun h => by simp at h; omega, fun _ => ?_⟩
  obtain ⟨g, w2, r2, h2'⟩ := (St.start w).lit bT [.int .u8 (k.toNat : Int)] (by simp [Value.oneCell']) (by simp)
  obtain ⟨g3, w3, r3, h3⟩ := h2'.lit bbT [.slice a n c] (by simp [Value.oneCell']) (by simp)
  refine ⟨_, _, _, _, r2, _, _, _, _, r3, (rpack_spec _ 1 1 [.slice a n c] [l] w3 (h3.rd (i := 1) rfl) ((Row2.nil _).cons (h3.rd1 hr)) (by simp; omega) (by simp)).mono ?_⟩
  rintro e w4 ⟨a4, n4, c4, rfl, hf4⟩
  have h4 := hf4.add h3
  have hn4 := hf4.2.1
  have h9 := varL_len 9 n (by simp; omega) (by decide)
  have hp : packL [l] = varL l.length ++ l := by simp [packL]
  rw [hp] at hn4
  rw [hl] at hn4 hp
  simp only [List.length_append] at hn4
  obtain ⟨va, vc, w5, r5, h5⟩ := h4.appendB (i := 0) (xs := [k]) rfl (h4.rd (i := 2) rfl) (by simp; omega)
  refine ⟨_, _, _, rfl, _, _, _, _, r5, _, _, _, rfl, ?_⟩
  have := h5.freshB (i := 0) rfl
  rw [hp] at this
  rw [frameL, hl]; exact this

end Go.Proofs.YtmdandkoajocpaaGreatDoor
