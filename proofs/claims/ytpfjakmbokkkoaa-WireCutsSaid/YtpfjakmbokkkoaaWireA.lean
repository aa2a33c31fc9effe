/- Contracts of wire's numbers: Var, Num, ReadVar, ReadNum (conditions: those that each theorem names). -/
import Derived.Test.YtpfjakmbokkkoaaSxSeat
import Derived.Test.YtpfjakmbokkkoaaWireF
import Derived.Test.YtpfjakmbokkkoaaNum
import Derived.Test.YtpfjakmbokkkoaaVwire
namespace Go.Proofs.Ytpfjakmbokkkoaa
open Go Sx

theorem or128 (r : Nat) : (r % 256) ||| 128 = r % 128 + 128 := by
  have h : ∀ x < 256, x ||| 128 = x % 128 + 128 := by decide +kernel
  rw [h _ (Nat.mod_lt _ (by decide))]
  omega

theorem var_neg (x : Int) (w : World) (h : x < 0) : Calls Try.prog 18 #[.int .i64 x] w fun e w' => e = .returned (.slice none 0 0) ∧ w' = w := by
  apply wire_Var_vc
  exact ⟨fun _ => ⟨rfl, rfl⟩, fun h' => by simp at h'; omega⟩

theorem var_spec (m : Nat) (w : World) (hm : m < 9223372036854775808) : Calls Try.prog 18 #[.int .i64 (m : Int)] w fun e w' => ∃ a n c, e = .returned (.slice a n c) ∧ FreshB w w' a n c (varL m) := by
  have hlen := varL_len 9 m (by simpa using hm) (by decide)
  apply wire_Var_vc
  refine ⟨fun h => by simp at h; omega, fun _ => ?_⟩
  refine ⟨fun x a n c w' => ∃ (k : Nat) (pre : List UInt8), x = (k : Int) ∧ varL m = pre ++ varL k ∧ pre.length = n ∧ St w [] w' [.row 5 1 (.slice a n c) n (bv pre)], fun x _ _ _ _ => x.toNat,
    ⟨m, [], rfl, rfl, rfl, (St.start w).addNil _ _⟩, ?_⟩
  rintro x a n c w1 ⟨k, pre, rfl, he, hl, hS⟩
  have hn : n + (varL k).length ≤ 9 := by have := congrArg List.length he; simp at this; omega
  have hk1 := varL_pos k
  have key : ∀ b : Nat, b < 256 → ∃ g w2 va vc w3, (Instr.buildSlice 22 1 #[(0, .int .u8 (b : Int))]).run Try.prog w1 = .ok (.slice (some ⟨g, 0, none⟩) 1 1) w2 ∧
      (Builtin.append_ #[22, 22] 22 #[.slice a n c, .slice (some ⟨g, 0, none⟩) 1 1]).run Try.prog w2 = .ok (.slice va (n + 1) vc) w3 ∧ St w [] w3 [.row 5 1 (.slice va (n + 1) vc) (n + 1) (bv (pre ++ [UInt8.ofNat b]))] := by
    intro b hb
    obtain ⟨g, w2, hr2, h2⟩ := hS.lit bT [.int .u8 (b : Int)] (by simp [Value.oneCell']) (by simp)
    obtain ⟨va, vc, w3, hr3, h3, _, _⟩ := h2.append (i := 0) (ty := 22) bT rfl (h2.rd (i := 1) rfl) (by simp [Value.oneCell']) (by simp; omega) (by simp only [maxLen, List.length_cons, List.length_nil]; omega)
    refine ⟨g, w2, va, vc, w3, hr2, hr3, ?_⟩
    have h4 := St.pop (M := [_]) h3
    have : bv (pre ++ [UInt8.ofNat b]) = bv pre ++ [.int .u8 (b : Int)] := by
      rw [bv_append]; congr 1; simp [bv, Nat.mod_eq_of_lt hb]
    rw [this]
    exact h4
  refine ⟨fun h => ?_, fun h => ?_⟩
  · have hk : ¬ k < 128 := by simp at h; omega
    have hv : bor .u8 (IntKind.wrap .u8 (k : Int)) 128 = ((k % 128 + 128 : Nat) : Int) := by
      rw [wrap_u8, show ((k : Int) % 256) = ((k % 256 : Nat) : Int) by omega, show (128 : Int) = ((128 : Nat) : Int) from rfl, bor_nat rfl (by simp [kmod, IntKind.bits]; omega) (by simp [kmod, IntKind.bits]), or128]
    have hs : shrI .i64 (k : Int) 7 = ((k / 128 : Nat) : Int) := by rw [show (7 : Int) = ((7 : Nat) : Int) from rfl, shr_nat _ _ _ (by decide)]
    rw [hv, hs]
    obtain ⟨g, w2, va, vc, w3, hr2, hr3, h3⟩ := key (k % 128 + 128) (by omega)
    refine ⟨_, _, _, _, hr2, _, _, _, _, hr3, ⟨k / 128, pre ++ [UInt8.ofNat (k % 128 + 128)], rfl, ?_, by simp [hl], h3⟩, ?_⟩
    · rw [he, varL_big hk]; simp
    · simp; omega
  · have hk : k < 128 := by simp at h; omega
    have hv : IntKind.wrap .u8 (k : Int) = (k : Int) := by rw [wrap_u8]; omega
    rw [hv]
    obtain ⟨g, w2, va, vc, w3, hr2, hr3, h3⟩ := key k (by omega)
    refine ⟨_, _, _, _, hr2, _, _, _, _, hr3, _, _, _, rfl, ?_⟩
    rw [he, varL_small hk]
    exact h3.freshB (i := 0) rfl

/-- The three results of ReadVar. -/
def rvOut : Option (Nat × Nat) → Value
  | some (n, s) => .tuple #[.int .i64 (n : Int), .int .i64 (s : Int), errV none]
  | none => .tuple #[.int .i64 0, .int .i64 0, errV (some 9)]

theorem or_add (n b i : Nat) (hn : n < 128 ^ i) : n ||| (b * 128 ^ i) = n + b * 128 ^ i := by
  have e : 128 ^ i = 2 ^ (7 * i) := by rw [Nat.pow_mul]
  rw [e] at hn ⊢
  have := Nat.shiftLeft_add_eq_or_of_lt hn b
  rw [Nat.shiftLeft_eq] at this
  rw [Nat.or_comm, ← this, Nat.add_comm]

theorem pow128_le {i : Nat} (hi : i < 9) : 128 ^ (i + 1) ≤ 9223372036854775808 := by
  have : 128 ^ (i + 1) ≤ 128 ^ 9 := Nat.pow_le_pow_right (by decide) (by omega)
  simpa using this

theorem readVar_spec (a : Option Addr) (n c : Nat) (l : List UInt8) (w : World) (hr : RdB w a n c l) :
    Calls Try.prog 12 #[.slice a n c] w fun e w' => e = .returned (rvOut (readVarF l)) ∧ w' = w := by
  have hl := hr.lenB
  apply wire_ReadVar_vc
  refine ⟨fun x y w' => w' = w ∧ ∃ (m i : Nat), x = (m : Int) ∧ y = (i : Int) ∧ i ≤ 9 ∧ i ≤ n ∧ m < 128 ^ i ∧ rdVar (9 - i) (l.drop i) i m = readVarF l, fun _ y _ => 9 - y.toNat,
    ⟨rfl, 0, 0, rfl, rfl, by omega, by omega, by decide, rfl⟩, ?_⟩
  rintro x y w1 ⟨rfl, m, i, rfl, rfl, hi9, hin, hm, hv⟩
  refine ⟨fun h => ?_, fun h => ?_⟩
  · simp only [Bool.and_eq_true, decide_eq_true_eq] at h
    have hi : i < 9 := by omega
    have hil : i < l.length := by omega
    obtain ⟨b, hb⟩ : ∃ b, l.getD i 0 = b := ⟨_, rfl⟩
    have hdrop : l.drop i = b :: l.drop (i + 1) := by
      rw [List.drop_eq_getElem_cons hil, ← hb]; simp [List.getD, hil]
    have hf : 9 - i = (9 - (i + 1)) + 1 := by omega
    have hbl := b.toNat_lt
    rw [hdrop, hf, rdVar] at hv
    have h7 : IntKind.wrap .i64 (7 * (i : Int)) = ((7 * i : Nat) : Int) := by rw [wrap_i64 (by omega) (by omega)]; omega
    have hi1 : IntKind.wrap .i64 ((i : Int) + 1) = ((i + 1 : Nat) : Int) := by rw [wrap_i64 (by omega) (by omega)]; rfl
    rw [h7, hi1]
    have hand : IntKind.wrap .u64 (band .u8 (b.toNat : Int) 127) = ((b.toNat % 128 : Nat) : Int) := by
      rw [show (127 : Int) = ((127 : Nat) : Int) from rfl, band_nat rfl (by simp [kmod, IntKind.bits]; omega) (by simp [kmod, IntKind.bits]),
        show b.toNat &&& 127 = b.toNat % 128 from Nat.and_two_pow_sub_one_eq_mod _ 7, wrap_u64]
      omega
    have hp := pow128_le hi
    have hpow : 128 ^ i * 128 = 128 ^ (i + 1) := (Nat.pow_succ ..).symm
    have hlt : b.toNat % 128 * 128 ^ i < 9223372036854775808 := by
      have h1 : b.toNat % 128 < 128 := Nat.mod_lt _ (by decide)
      have h2 : b.toNat % 128 * 128 ^ i ≤ 127 * 128 ^ i := Nat.mul_le_mul_right _ (by omega)
      have h3 : 0 < 128 ^ i := Nat.pow_pos (by decide)
      omega
    have hshl : shlI .u64 ((b.toNat % 128 : Nat) : Int) ((7 * i : Nat) : Int) = ((b.toNat % 128 * 128 ^ i : Nat) : Int) := by
      rw [shl_nat rfl _ _ (by simp [IntKind.bits]; omega), show 2 ^ (7 * i) = 128 ^ i by rw [Nat.pow_mul], Nat.mod_eq_of_lt (by simp [kmod, IntKind.bits]; omega)]
    have hsum : m + b.toNat % 128 * 128 ^ i < 128 ^ (i + 1) := by
      have h1 : b.toNat % 128 < 128 := Nat.mod_lt _ (by decide)
      have h2 : b.toNat % 128 * 128 ^ i ≤ 127 * 128 ^ i := Nat.mul_le_mul_right _ (by omega)
      omega
    have hor : bor .u64 (m : Int) ((b.toNat % 128 * 128 ^ i : Nat) : Int) = ((m + b.toNat % 128 * 128 ^ i : Nat) : Int) := by
      rw [bor_nat rfl (by simp [kmod, IntKind.bits]; omega) (by simp [kmod, IntKind.bits]; omega), or_add _ _ _ hm]
    have hw : IntKind.wrap .i64 ((m + b.toNat % 128 * 128 ^ i : Nat) : Int) = ((m + b.toNat % 128 * 128 ^ i : Nat) : Int) := wrap_i64_nat _ (by omega)
    refine ixB (bA _) hr.cells hl (by omega) (by omega) fun _ _ _ => ?_
    simp only [Int.toNat_natCast, hb, hand, hshl, hor, hw]
    refine ⟨by omega, ixB (bA _) hr.cells hl (by omega) (by omega) fun _ _ _ => ?_⟩
    simp only [Int.toNat_natCast, hb]
    refine ⟨fun h1 => ixB (bA _) hr.cells hl (by omega) (by omega) fun _ _ _ => ?_, fun h1 => ?_⟩
    · simp only [decide_eq_true_eq] at h1
      rw [if_pos (by omega)] at hv
      simp only [Int.toNat_natCast, hb]
      refine ⟨fun h2 => ?_, fun h2 => ?_⟩
      · simp only [Bool.and_eq_true, beq_iff_eq, decide_eq_true_eq] at h2
        rw [if_pos (by omega)] at hv
        rw [← hv]
        exact ⟨rfl, trivial⟩
      · rw [if_neg (by intro h3; simp at h2; omega)] at hv
        rw [← hv, Nat.mod_eq_of_lt (by omega)]
        exact ⟨rfl, trivial⟩
    · simp only [decide_eq_false_iff_not] at h1
      rw [if_neg (by omega)] at hv
      refine ⟨⟨trivial, m + b.toNat % 128 * 128 ^ i, i + 1, rfl, rfl, by omega, by omega, hsum, ?_⟩, by omega⟩
      rw [← hv, show b.toNat % 128 = b.toNat - 128 by omega]
  · have : 9 - i = 0 ∨ l.drop i = [] := by
      simp at h
      rcases Nat.lt_or_ge i 9 with h1 | h1
      · right; exact List.drop_eq_nil_of_le (by omega)
      · left; omega
    have h0 : readVarF l = none := by
      rw [← hv]
      rcases this with h1 | h1
      · rw [h1]; rfl
      · rw [h1]; cases 9 - i <;> rfl
    rw [h0]
    exact ⟨rfl, rfl⟩

theorem take_succ_get {l : List UInt8} {j : Nat} {b : UInt8} (h : l[j]? = some b) : l.take (j + 1) = l.take j ++ [b] := by
  rw [List.take_add_one, h]; rfl

theorem num_bytes (x : Int) (w : World) : Calls Try.prog 20 #[.int .i64 x] w fun e w' => ∃ a n c, e = .returned (.slice a n c) ∧ FreshB w w' a n c (numL (x % 18446744073709551616).toNat) := by
  obtain ⟨u, hu⟩ : ∃ u : Nat, (x % 18446744073709551616).toNat = u := ⟨_, rfl⟩
  have hux : x % 18446744073709551616 = (u : Int) := by omega
  have hult : u < 18446744073709551616 := by omega
  rw [hu]
  apply wire_Num_vc
  obtain ⟨g, w1, hr1, h1⟩ := (St.start w).mk0n (kl := .i64) (kc := .i64) (c := 8) bT (by omega) (by omega)
  refine ⟨_, _, _, _, hr1, fun a n c i w' => ∃ j : Nat, j ≤ 8 ∧ n = j ∧ i = 56 - 8 * (j : Int) ∧ St w [] w' [.row 5 1 (.slice a n c) n (bv ((numL u).take j))], fun _ n _ _ _ => 8 - n, ⟨0, by omega, rfl, rfl, h1⟩, ?_⟩
  rintro a n c i w2 ⟨j, hj, rfl, rfl, hS⟩
  refine ⟨fun h => ?_, fun h => ?_⟩
  · have hj8 : n < 8 := by simp at h; omega
    refine ⟨by omega, ?_⟩
    have hv : IntKind.wrap .u8 (shrI .u64 (IntKind.wrap .u64 x) (56 - 8 * (n : Int))) = ((UInt8.ofNat (u / 256 ^ (7 - n) % 256)).toNat : Int) := by
      rw [wrap_u64, hux, show (56 - 8 * (n : Int)) = ((8 * (7 - n) : Nat) : Int) by omega, shr_nat _ _ _ (by simp [IntKind.bits]; omega), show 2 ^ (8 * (7 - n)) = 256 ^ (7 - n) by rw [Nat.pow_mul], wrap_u8]
      simp
    rw [hv]
    obtain ⟨b, hb⟩ : ∃ b, UInt8.ofNat (u / 256 ^ (7 - n) % 256) = b := ⟨_, rfl⟩
    rw [hb]
    obtain ⟨g, w3, hr3, h3⟩ := hS.lit bT [.int .u8 (b.toNat : Int)] (by simp [Value.oneCell']) (by simp)
    obtain ⟨va, vc, w4, hr4, h4, _, _⟩ := h3.append (i := 0) (ty := 22) bT rfl (h3.rd (i := 1) rfl) (by simp [Value.oneCell']) (by simp; omega) (by simp only [maxLen, List.length_cons, List.length_nil]; omega)
    refine ⟨_, _, _, _, hr3, _, _, _, _, hr4, ⟨n + 1, by omega, rfl, ?_, ?_⟩, ?_⟩
    · rw [wrap_i64 (by omega) (by omega)]; omega
    · rw [take_succ_get (by rw [numL_get _ _ hj8, hb]), bv_append]
      exact St.pop (M := [_]) h4
    · simp; omega
  · have hj8 : n = 8 := by simp at h; omega
    subst hj8
    rw [List.take_of_length_le (by rw [numL_len]; exact Nat.le_refl _)] at hS
    exact ⟨_, _, _, rfl, hS.freshB (i := 0) rfl⟩

theorem be_step (m b : Nat) (hb : b < 256) (hm : m < 72057594037927936) : bor .u64 (shlI .u64 (m : Int) (8 : Int)) (IntKind.wrap .u64 (b : Int)) = ((m * 256 + b : Nat) : Int) := by
  rw [show (8 : Int) = ((8 : Nat) : Int) from rfl, shl_nat rfl _ _ (by decide), Nat.mod_eq_of_lt (by simp [kmod, IntKind.bits]; omega), wrap_u64, show ((b : Int) % 18446744073709551616) = (b : Int) by omega,
    bor_nat rfl (by simp [kmod, IntKind.bits]; omega) (by simp [kmod, IntKind.bits]; omega)]
  have := Nat.shiftLeft_add_eq_or_of_lt (show b < 2 ^ 8 by omega) m
  rw [Nat.shiftLeft_eq] at this
  rw [← this]

/-- The two results of ReadNum. -/
def rnOut : Option Int → Value
  | some x => .tuple #[.int .i64 x, errV none]
  | none => .tuple #[.int .i64 0, errV (some 9)]

theorem pow256_le {i : Nat} (hi : i < 8) : 256 ^ i ≤ 72057594037927936 := by
  have : 256 ^ i ≤ 256 ^ 7 := Nat.pow_le_pow_right (by decide) (by omega)
  simpa using this

theorem readNum_spec (a : Option Addr) (n c : Nat) (l : List UInt8) (w : World) (hr : RdB w a n c l) :
    Calls Try.prog 14 #[.slice a n c] w fun e w' => e = .returned (rnOut (readNumF l)) ∧ w' = w := by
  have hl := hr.lenB
  apply wire_ReadNum_vc
  refine ⟨fun h => ?_, fun h => ?_⟩
  · have : l.length ≠ 8 := by simp at h; omega
    simp only [readNumF, if_neg this]
    exact ⟨rfl, trivial⟩
  · have h8 : l.length = 8 := by simp at h; omega
    refine ⟨fun x y w' => w' = w ∧ ∃ i : Nat, y = (i : Int) ∧ i ≤ 8 ∧ x = (beNat (l.take i) : Int), fun _ y _ => 8 - y.toNat, ⟨rfl, 0, rfl, by omega, rfl⟩, ?_⟩
    rintro x y w1 ⟨rfl, i, rfl, hi, rfl⟩
    refine ⟨fun h => ?_, fun h => ?_⟩
    · have hi8 : i < 8 := by simp at h; omega
      have hil : i < l.length := by omega
      obtain ⟨b, hb⟩ : ∃ b, l.getD i 0 = b := ⟨_, rfl⟩
      have hget : l[i]? = some b := by rw [← hb]; simp [List.getD, hil]
      have hm := beNat_lt (l.take i)
      rw [List.length_take, Nat.min_eq_left (by omega)] at hm
      have hp := pow256_le hi8
      refine ixB (bA _) hr.cells hl (by omega) (by omega) fun _ _ _ => ?_
      simp only [Int.toNat_natCast, hb]
      rw [be_step _ _ b.toNat_lt (by omega), wrap_i64 (by omega) (by omega)]
      exact ⟨⟨trivial, i + 1, rfl, by omega, by rw [take_succ_get hget, beNat_snoc]⟩, by omega⟩
    · have hi8 : i = 8 := by simp at h; omega
      subst hi8
      rw [List.take_of_length_le (by omega)]
      simp only [readNumF, if_pos h8]
      exact ⟨rfl, trivial⟩

end Go.Proofs.Ytpfjakmbokkkoaa
