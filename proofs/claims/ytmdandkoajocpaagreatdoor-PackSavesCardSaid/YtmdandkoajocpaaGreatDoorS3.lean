/- The proof of PackSavesCardSaid, part 3: what it rests on (conditions: those that each theorem names). -/
import Derived.Test.YtmdandkoajocpaaGreatDoorS2
import Derived.Laws.StructEq
import Derived.Laws.CopyRow
import Derived.Laws.IdiomCopy
import Derived.Test.YtmdandkoajocpaaGreatDoorRows
section
namespace Go.Proofs.YtmdandkoajocpaaGreatDoor
open Go Sx
set_option maxRecDepth 8000

def varL (n : Nat) : List UInt8 := if h : n < 128 then [UInt8.ofNat n] else UInt8.ofNat (n % 128 + 128) :: varL (n / 128)
termination_by n
decreasing_by omega

theorem varL_small {n : Nat} (h : n < 128) : varL n = [UInt8.ofNat n] := by rw [varL]; simp [h]
theorem varL_big {n : Nat} (h : ¬ n < 128) : varL n = UInt8.ofNat (n % 128 + 128) :: varL (n / 128) := by rw [varL]; simp [h]
theorem varL_pos (n : Nat) : 0 < (varL n).length := by rw [varL]; split <;> simp

theorem varL_len : ∀ (k n : Nat), n < 128 ^ k → 0 < k → (varL n).length ≤ k
 | 0, _, _, h => by omega
 | k + 1, n, hn, _ => by
   by_cases h : n < 128
   · rw [varL_small h]; simp
   · rw [varL_big h]
     have hk : 0 < k := by
       rcases Nat.eq_zero_or_pos k with rfl | h'
       · simp at hn; omega
       · exact h'
     have := varL_len k (n / 128) (by rw [Nat.pow_succ] at hn; exact Nat.div_lt_of_lt_mul (by rw [Nat.mul_comm]; exact hn)) hk
     simp only [List.length_cons]
     omega

def rdVar : Nat → List UInt8 → Nat → Nat → Option (Nat × Nat)
 | 0, _, _, _ => none
 | f + 1, l, i, n => match l with
   | [] => none
   | b :: r => if b.toNat < 128 then (if b.toNat = 0 ∧ 0 < i then none else some (n + b.toNat * 128 ^ i, i + 1)) else rdVar f r (i + 1) (n + (b.toNat - 128) * 128 ^ i)

def readVarF (l : List UInt8) : Option (Nat × Nat) := rdVar 9 l 0 0

def numL (u : Nat) : List UInt8 := (List.range 8).map fun k => UInt8.ofNat (u / 256 ^ (7 - k) % 256)
theorem numL_len (u : Nat) : (numL u).length = 8 := by simp [numL]
theorem numL_get (u k : Nat) (hk : k < 8) : (numL u)[k]? = some (UInt8.ofNat (u / 256 ^ (7 - k) % 256)) := by simp [numL, hk]

def beNat (l : List UInt8) : Nat := l.foldl (fun a b => a * 256 + b.toNat) 0

theorem beNat_lt (l : List UInt8) : beNat l < 256 ^ l.length := by
 have key : ∀ (l : List UInt8) (a k : Nat), a < 256 ^ k → l.foldl (fun a b => a * 256 + b.toNat) a < 256 ^ (k + l.length) := by
   intro l
   induction l with
   | nil => intro a k h; simpa using h
   | cons b l ih =>
     intro a k h
     have hb := b.toNat_lt
     have := ih (a * 256 + b.toNat) (k + 1) (by rw [Nat.pow_succ]; omega)
     simp only [List.foldl_cons, List.length_cons]
     rw [show k + (l.length + 1) = k + 1 + l.length by omega]
     exact this
 have := key l 0 0 (by decide)
 simpa [beNat] using this

theorem beNat_snoc (l : List UInt8) (b : UInt8) : beNat (l ++ [b]) = beNat l * 256 + b.toNat := by simp [beNat]

def readNumF (l : List UInt8) : Option Int := if l.length = 8 then some (IntKind.wrap .i64 (beNat l : Int)) else none

open Go Sx
set_option maxRecDepth 8000

theorem or128 (r : Nat) : (r % 256) ||| 128 = r % 128 + 128 := by
 have h : ∀ x < 256, x ||| 128 = x % 128 + 128 := by decide +kernel
 rw [h _ (Nat.mod_lt _ (by decide))]
 omega

theorem var_spec (m : Nat) (w : World) (hm : m < 9223372036854775808) : Calls Tryz.prog 125 #[.int .i64 (m : Int)] w fun e w' => ∃ a n c, e = .returned (.slice a n c) ∧ FreshB w w' a n c (varL m) := by
 have hlen := varL_len 9 m (by simpa using hm) (by decide)
 apply wire_Var_vc
 refine ⟨fun h => by simp at h; omega, fun _ => ?_⟩
 refine ⟨fun x a n c w' => ∃ (k : Nat) (pre : List UInt8), x = (k : Int) ∧ varL m = pre ++ varL k ∧ pre.length = n ∧ St w [] w' [.row 5 1 (.slice a n c) n (bv pre)], fun x _ _ _ _ => x.toNat,
   ⟨m, [], rfl, rfl, rfl, (St.start w).addNil _ _⟩, ?_⟩
 rintro x a n c w1 ⟨k, pre, rfl, he, hl, hS⟩
 have hn : n + (varL k).length ≤ 9 := by have := congrArg List.length he; simp at this; omega
 have hk1 := varL_pos k
 have key : ∀ b : Nat, b < 256 → ∃ g w2 va vc w3, (Instr.buildSlice 33 1 #[(0, .int .u8 (b : Int))]).run Tryz.prog w1 = .ok (.slice (some ⟨g, 0, none⟩) 1 1) w2 ∧
     (Builtin.append_ #[33, 33] 33 #[.slice a n c, .slice (some ⟨g, 0, none⟩) 1 1]).run Tryz.prog w2 = .ok (.slice va (n + 1) vc) w3 ∧ St w [] w3 [.row 5 1 (.slice va (n + 1) vc) (n + 1) (bv (pre ++ [UInt8.ofNat b]))] := by
   intro b hb
   obtain ⟨g, w2, hr2, h2⟩ := hS.lit bT [.int .u8 (b : Int)] (by simp [Value.oneCell']) (by simp)
   obtain ⟨va, vc, w3, hr3, h3, _, _⟩ := h2.append (i := 0) (ty := 33) bT rfl (h2.rd (i := 1) rfl) (by simp [Value.oneCell']) (by simp; omega) (by simp only [maxLen, List.length_cons, List.length_nil]; omega)
   refine ⟨g, w2, va, vc, w3, hr2, hr3, ?_⟩
   have h4 := St.pop (M := [_]) h3
   have : bv (pre ++ [UInt8.ofNat b]) = bv pre ++ [.int .u8 (b : Int)] := by
     rw [bv_append]; congr 1; simp [bv, Nat.mod_eq_of_lt hb]
   rw [this]
   exact h4
 refine ⟨fun h => ?_, fun h => ?_⟩
 · have hk : ¬ k < 128 := by simp at h; omega
   have hv : bor .u8 (IntKind.wrap .u8 (k : Int)) 128 = ((k % 128 + 128 : Nat) : Int) := by
     rw [wrap_u8, show ((k : Int) % 256) = ((k % 256 : Nat) : Int) by omega, show (128 : Int) = ((128 : Nat) : Int) from rfl, bor_nat rfl (by simp [kmod, IntKind.bits]; omega) (by simp [kmod, IntKind.bits]), or128]
   have hs : shrI .i64 (k : Int) 7 = ((k / 128 : Nat) : Int) := by rw [show (7 : Int) = ((7 : Nat) : Int) from rfl, shr_nat _ _ _ (by decide)]
   rw [hv, hs]
   obtain ⟨g, w2, va, vc, w3, hr2, hr3, h3⟩ := key (k % 128 + 128) (by omega)
   refine ⟨_, _, _, _, hr2, _, _, _, _, hr3, ⟨k / 128, pre ++ [UInt8.ofNat (k % 128 + 128)], rfl, ?_, by simp [hl], h3⟩, ?_⟩
   · rw [he, varL_big hk]; simp
   · simp; omega
 · have hk : k < 128 := by simp at h; omega
   have hv : IntKind.wrap .u8 (k : Int) = (k : Int) := by rw [wrap_u8]; omega
   rw [hv]
   obtain ⟨g, w2, va, vc, w3, hr2, hr3, h3⟩ := key k (by omega)
   refine ⟨_, _, _, _, hr2, _, _, _, _, hr3, _, _, _, rfl, ?_⟩
   rw [he, varL_small hk]
   exact h3.freshB (i := 0) rfl

def rvOut : Option (Nat × Nat) → Value
 | some (n, s) => .tuple #[.int .i64 (n : Int), .int .i64 (s : Int), errV none]
 | none => .tuple #[.int .i64 0, .int .i64 0, errV (some 9)]

theorem or_add (n b i : Nat) (hn : n < 128 ^ i) : n ||| (b * 128 ^ i) = n + b * 128 ^ i := by
 have e : 128 ^ i = 2 ^ (7 * i) := by rw [Nat.pow_mul]
 rw [e] at hn ⊢
 have := Nat.shiftLeft_add_eq_or_of_lt hn b
 rw [Nat.shiftLeft_eq] at this
 rw [Nat.or_comm, ← this, Nat.add_comm]

theorem pow128_le {i : Nat} (hi : i < 9) : 128 ^ (i + 1) ≤ 9223372036854775808 := by
 have : 128 ^ (i + 1) ≤ 128 ^ 9 := Nat.pow_le_pow_right (by decide) (by omega)
 simpa using this

theorem readVar_spec (a : Option Addr) (n c : Nat) (l : List UInt8) (w : World) (hr : RdB w a n c l) :
   Calls Tryz.prog 166 #[.slice a n c] w fun e w' => e = .returned (rvOut (readVarF l)) ∧ w' = w := by
 have hl := hr.lenB
 apply wire_ReadVar_vc
 refine ⟨fun x y w' => w' = w ∧ ∃ (m i : Nat), x = (m : Int) ∧ y = (i : Int) ∧ i ≤ 9 ∧ i ≤ n ∧ m < 128 ^ i ∧ rdVar (9 - i) (l.drop i) i m = readVarF l, fun _ y _ => 9 - y.toNat,
   ⟨rfl, 0, 0, rfl, rfl, by omega, by omega, by decide, rfl⟩, ?_⟩
 rintro x y w1 ⟨rfl, m, i, rfl, rfl, hi9, hin, hm, hv⟩
 refine ⟨fun h => ?_, fun h => ?_⟩
 · simp only [Bool.and_eq_true, decide_eq_true_eq] at h
   have hi : i < 9 := by omega
   have hil : i < l.length := by omega
   obtain ⟨b, hb⟩ : ∃ b, l.getD i 0 = b := ⟨_, rfl⟩
   have hdrop : l.drop i = b :: l.drop (i + 1) := by
     rw [List.drop_eq_getElem_cons hil, ← hb]; simp [List.getD, hil]
   have hf : 9 - i = (9 - (i + 1)) + 1 := by omega
   have hbl := b.toNat_lt
   rw [hdrop, hf, rdVar] at hv
   have h7 : IntKind.wrap .i64 (7 * (i : Int)) = ((7 * i : Nat) : Int) := by rw [wrap_i64 (by omega) (by omega)]; omega
   have hi1 : IntKind.wrap .i64 ((i : Int) + 1) = ((i + 1 : Nat) : Int) := by rw [wrap_i64 (by omega) (by omega)]; rfl
   rw [h7, hi1]
   have hand : IntKind.wrap .u64 (band .u8 (b.toNat : Int) 127) = ((b.toNat % 128 : Nat) : Int) := by
     rw [show (127 : Int) = ((127 : Nat) : Int) from rfl, band_nat rfl (by simp [kmod, IntKind.bits]; omega) (by simp [kmod, IntKind.bits]),
       show b.toNat &&& 127 = b.toNat % 128 from Nat.and_two_pow_sub_one_eq_mod _ 7, wrap_u64]
     omega
   have hp := pow128_le hi
   have hpow : 128 ^ i * 128 = 128 ^ (i + 1) := (Nat.pow_succ ..).symm
   have hlt : b.toNat % 128 * 128 ^ i < 9223372036854775808 := by
     have h1 : b.toNat % 128 < 128 := Nat.mod_lt _ (by decide)
     have h2 : b.toNat % 128 * 128 ^ i ≤ 127 * 128 ^ i := Nat.mul_le_mul_right _ (by omega)
     have h3 : 0 < 128 ^ i := Nat.pow_pos (by decide)
     omega
   have hshl : shlI .u64 ((b.toNat % 128 : Nat) : Int) ((7 * i : Nat) : Int) = ((b.toNat % 128 * 128 ^ i : Nat) : Int) := by
     rw [shl_nat rfl _ _ (by simp [IntKind.bits]; omega), show 2 ^ (7 * i) = 128 ^ i by rw [Nat.pow_mul], Nat.mod_eq_of_lt (by simp [kmod, IntKind.bits]; omega)]
   have hsum : m + b.toNat % 128 * 128 ^ i < 128 ^ (i + 1) := by
     have h1 : b.toNat % 128 < 128 := Nat.mod_lt _ (by decide)
     have h2 : b.toNat % 128 * 128 ^ i ≤ 127 * 128 ^ i := Nat.mul_le_mul_right _ (by omega)
     omega
   have hor : bor .u64 (m : Int) ((b.toNat % 128 * 128 ^ i : Nat) : Int) = ((m + b.toNat % 128 * 128 ^ i : Nat) : Int) := by
     rw [bor_nat rfl (by simp [kmod, IntKind.bits]; omega) (by simp [kmod, IntKind.bits]; omega), or_add _ _ _ hm]
   have hw : IntKind.wrap .i64 ((m + b.toNat % 128 * 128 ^ i : Nat) : Int) = ((m + b.toNat % 128 * 128 ^ i : Nat) : Int) := wrap_i64_nat _ (by omega)
   refine ixB (bA _) hr.cells hl (by omega) (by omega) fun _ _ _ => ?_
   simp only [Int.toNat_natCast, hb, hand, hshl, hor, hw]
   refine ⟨by omega, ixB (bA _) hr.cells hl (by omega) (by omega) fun _ _ _ => ?_⟩
   simp only [Int.toNat_natCast, hb]
   refine ⟨fun h1 => ixB (bA _) hr.cells hl (by omega) (by omega) fun _ _ _ => ?_, fun h1 => ?_⟩
   · simp only [decide_eq_true_eq] at h1
     rw [if_pos (by omega)] at hv
     simp only [Int.toNat_natCast, hb]
     refine ⟨fun h2 => ?_, fun h2 => ?_⟩
     · simp only [Bool.and_eq_true, beq_iff_eq, decide_eq_true_eq] at h2
       rw [if_pos (by omega)] at hv
       rw [← hv]
       exact ⟨rfl, trivial⟩
     · rw [if_neg (by intro h3; simp at h2; omega)] at hv
       rw [← hv, Nat.mod_eq_of_lt (by omega)]
       exact ⟨rfl, trivial⟩
   · simp only [decide_eq_false_iff_not] at h1
     rw [if_neg (by omega)] at hv
     refine ⟨⟨trivial, m + b.toNat % 128 * 128 ^ i, i + 1, rfl, rfl, by omega, by omega, hsum, ?_⟩, by omega⟩
     rw [← hv, show b.toNat % 128 = b.toNat - 128 by omega]
 · have : 9 - i = 0 ∨ l.drop i = [] := by
     simp at h
     rcases Nat.lt_or_ge i 9 with h1 | h1
     · right; exact List.drop_eq_nil_of_le (by omega)
     · left; omega
   have h0 : readVarF l = none := by
     rw [← hv]
     rcases this with h1 | h1
     · rw [h1]; rfl
     · rw [h1]; cases 9 - i <;> rfl
   rw [h0]
   exact ⟨rfl, rfl⟩

theorem take_succ_get {l : List UInt8} {j : Nat} {b : UInt8} (h : l[j]? = some b) : l.take (j + 1) = l.take j ++ [b] := by
 rw [List.take_add_one, h]; rfl

theorem num_bytes (x : Int) (w : World) : Calls Tryz.prog 58 #[.int .i64 x] w fun e w' => ∃ a n c, e = .returned (.slice a n c) ∧ FreshB w w' a n c (numL (x % 18446744073709551616).toNat) := by
 obtain ⟨u, hu⟩ : ∃ u : Nat, (x % 18446744073709551616).toNat = u := ⟨_, rfl⟩
 have hux : x % 18446744073709551616 = (u : Int) := by omega
 have hult : u < 18446744073709551616 := by omega
 rw [hu]
 apply wire_Num_vc
 obtain ⟨g, w1, hr1, h1⟩ := (St.start w).mk0n (kl := .i64) (kc := .i64) (c := 8) bT (by omega) (by omega)
 refine ⟨_, _, _, _, hr1, fun a n c i w' => ∃ j : Nat, j ≤ 8 ∧ n = j ∧ i = 56 - 8 * (j : Int) ∧ St w [] w' [.row 5 1 (.slice a n c) n (bv ((numL u).take j))], fun _ n _ _ _ => 8 - n, ⟨0, by omega, rfl, rfl, h1⟩, ?_⟩
 rintro a n c i w2 ⟨j, hj, rfl, rfl, hS⟩
 refine ⟨fun h => ?_, fun h => ?_⟩
 · have hj8 : n < 8 := by simp at h; omega
   refine ⟨by omega, ?_⟩
   have hv : IntKind.wrap .u8 (shrI .u64 (IntKind.wrap .u64 x) (56 - 8 * (n : Int))) = ((UInt8.ofNat (u / 256 ^ (7 - n) % 256)).toNat : Int) := by
     rw [wrap_u64, hux, show (56 - 8 * (n : Int)) = ((8 * (7 - n) : Nat) : Int) by omega, shr_nat _ _ _ (by simp [IntKind.bits]; omega), show 2 ^ (8 * (7 - n)) = 256 ^ (7 - n) by rw [Nat.pow_mul], wrap_u8]
     simp
   rw [hv]
   obtain ⟨b, hb⟩ : ∃ b, UInt8.ofNat (u / 256 ^ (7 - n) % 256) = b := ⟨_, rfl⟩
   rw [hb]
   obtain ⟨g, w3, hr3, h3⟩ := hS.lit bT [.int .u8 (b.toNat : Int)] (by simp [Value.oneCell']) (by simp)
   obtain ⟨va, vc, w4, hr4, h4, _, _⟩ := h3.append (i := 0) (ty := 33) bT rfl (h3.rd (i := 1) rfl) (by simp [Value.oneCell']) (by simp; omega) (by simp only [maxLen, List.length_cons, List.length_nil]; omega)
   refine ⟨_, _, _, _, hr3, _, _, _, _, hr4, ⟨n + 1, by omega, rfl, ?_, ?_⟩, ?_⟩
   · rw [wrap_i64 (by omega) (by omega)]; omega
   · rw [take_succ_get (by rw [numL_get _ _ hj8, hb]), bv_append]
     exact St.pop (M := [_]) h4
   · simp; omega
 · have hj8 : n = 8 := by simp at h; omega
   subst hj8
   rw [List.take_of_length_le (by rw [numL_len]; exact Nat.le_refl _)] at hS
   exact ⟨_, _, _, rfl, hS.freshB (i := 0) rfl⟩

theorem be_step (m b : Nat) (hb : b < 256) (hm : m < 72057594037927936) : bor .u64 (shlI .u64 (m : Int) (8 : Int)) (IntKind.wrap .u64 (b : Int)) = ((m * 256 + b : Nat) : Int) := by
 rw [show (8 : Int) = ((8 : Nat) : Int) from rfl, shl_nat rfl _ _ (by decide), Nat.mod_eq_of_lt (by simp [kmod, IntKind.bits]; omega), wrap_u64, show ((b : Int) % 18446744073709551616) = (b : Int) by omega,
   bor_nat rfl (by simp [kmod, IntKind.bits]; omega) (by simp [kmod, IntKind.bits]; omega)]
 have := Nat.shiftLeft_add_eq_or_of_lt (show b < 2 ^ 8 by omega) m
 rw [Nat.shiftLeft_eq] at this
 rw [← this]

def rnOut : Option Int → Value
 | some x => .tuple #[.int .i64 x, errV none]
 | none => .tuple #[.int .i64 0, errV (some 9)]

theorem pow256_le {i : Nat} (hi : i < 8) : 256 ^ i ≤ 72057594037927936 := by
 have : 256 ^ i ≤ 256 ^ 7 := Nat.pow_le_pow_right (by decide) (by omega)
 simpa using this

theorem readNum_spec (a : Option Addr) (n c : Nat) (l : List UInt8) (w : World) (hr : RdB w a n c l) :
   Calls Tryz.prog 87 #[.slice a n c] w fun e w' => e = .returned (rnOut (readNumF l)) ∧ w' = w := by
 have hl := hr.lenB
 apply wire_ReadNum_vc
 refine ⟨fun h => ?_, fun h => ?_⟩
 · have : l.length ≠ 8 := by simp at h; omega
   simp only [readNumF, if_neg this]
   exact ⟨rfl, trivial⟩
 · have h8 : l.length = 8 := by simp at h; omega
   refine ⟨fun x y w' => w' = w ∧ ∃ i : Nat, y = (i : Int) ∧ i ≤ 8 ∧ x = (beNat (l.take i) : Int), fun _ y _ => 8 - y.toNat, ⟨rfl, 0, rfl, by omega, rfl⟩, ?_⟩
   rintro x y w1 ⟨rfl, i, rfl, hi, rfl⟩
   refine ⟨fun h => ?_, fun h => ?_⟩
   · have hi8 : i < 8 := by simp at h; omega
     have hil : i < l.length := by omega
     obtain ⟨b, hb⟩ : ∃ b, l.getD i 0 = b := ⟨_, rfl⟩
     have hget : l[i]? = some b := by rw [← hb]; simp [List.getD, hil]
     have hm := beNat_lt (l.take i)
     rw [List.length_take, Nat.min_eq_left (by omega)] at hm
     have hp := pow256_le hi8
     refine ixB (bA _) hr.cells hl (by omega) (by omega) fun _ _ _ => ?_
     simp only [Int.toNat_natCast, hb]
     rw [be_step _ _ b.toNat_lt (by omega), wrap_i64 (by omega) (by omega)]
     exact ⟨⟨trivial, i + 1, rfl, by omega, by rw [take_succ_get hget, beNat_snoc]⟩, by omega⟩
   · have hi8 : i = 8 := by simp at h; omega
     subst hi8
     rw [List.take_of_length_le (by omega)]
     simp only [readNumF, if_pos h8]
     exact ⟨rfl, trivial⟩

open Go Sx
set_option maxRecDepth 8000

def packL (ls : List (List UInt8)) : List UInt8 := (ls.map fun l => varL l.length ++ l).flatten

theorem packL_take {ls : List (List UInt8)} {i : Nat} (h : i < ls.length) : packL (ls.take (i + 1)) = packL (ls.take i) ++ varL (ls.getD i []).length ++ ls.getD i [] := by
 rw [List.take_add_one, List.getElem?_eq_getElem h, packL, packL, List.map_append, List.flatten_append, List.append_assoc]
 congr 1
 simp [List.getD, h]

theorem packL_len : ∀ ls : List (List UInt8), (∀ l ∈ ls, l.length < 9223372036854775808) → (packL ls).length ≤ ls.flatten.length + 9 * ls.length
 | [], _ => by simp [packL]
 | l :: ls, h => by
   have ih := packL_len ls fun x hx => h x (by simp [hx])
   have h9 := varL_len 9 l.length (by have := h l (by simp); simpa using this) (by decide)
   have e : packL (l :: ls) = varL l.length ++ l ++ packL ls := by simp [packL]
   rw [e]
   simp only [List.length_append, List.flatten_cons, List.length_cons]
   omega

theorem mem_le_flat {ls : List (List UInt8)} {l : List UInt8} (h : l ∈ ls) : l.length ≤ ls.flatten.length := by
 obtain ⟨i, hi, rfl⟩ := List.getElem_of_mem h
 have := getD_le_flat hi
 simpa [List.getD, hi] using this

theorem packL_bound {ls : List (List UInt8)} (h : ls.flatten.length ≤ 67108864) (i : Nat) : (packL (ls.take i)).length ≤ 67108864 + 9 * ls.length := by
 have h1 := packL_len (ls.take i) fun l hl => by have := mem_le_flat (List.mem_of_mem_take hl); omega
 have h2 := flat_take_le ls i
 have h3 : (ls.take i).length ≤ ls.length := by rw [List.length_take]; omega
 omega

theorem pack_spec (a : Option Addr) (n c : Nat) (vs : List Value) (ls : List (List UInt8)) (w : World) (hr : Rd w a n c 1 vs) (h2 : Row2 w vs ls) (hb : ls.flatten.length ≤ 67108864) (hn : ls.length ≤ 1048576) :
   Calls Tryz.prog 121 #[.slice a n c] w fun e w' => ∃ a' n' c', e = .returned (.slice a' n' c') ∧ FreshB w w' a' n' c' (packL ls) := by
 have hln : ls.length = n := by have := hr.len; have := h2.len; omega
 apply wire_Pack_vc
 refine ⟨fun xa xn xc x w' => ∃ i : Nat, x = (i : Int) ∧ i ≤ n ∧ xn = (packL (ls.take i)).length ∧ St w [] w' [.row 5 1 (.slice xa xn xc) xn (bv (packL (ls.take i)))], fun _ _ _ x _ => n - x.toNat,
   ⟨0, rfl, by omega, by simp [packL], (St.start w).addNil _ _⟩, ?_⟩
 rintro xa xn xc x w1 ⟨i, rfl, hi, hxn, hS⟩
 have hpb := packL_bound hb i
 refine ⟨fun h => ?_, fun h => ?_⟩
 · have hi' : i < n := by simp at h; omega
   obtain ⟨b, o, a', n', c', ha, hv, hrd, hld⟩ := ixS hr.cells h2 (i := i) (by omega)
   have hl' := hrd.lenB
   have hle := getD_le_flat (ls := ls) (i := i) (by omega)
   refine ⟨b, o, ha, by omega, by omega, _, _, _, hld w1 (hr.cells.keep0 hS.chg), fun h => ?_, fun _ => ?_⟩
   · simp at h; omega
   · have h9 := varL_len 9 n' (by simp; omega) (by decide)
     refine (var_spec n' w1 (by omega)).mono ?_
     rintro e w2 ⟨a2, n2, c2, rfl, hf2⟩
     have hS2 := hf2.add hS
     have hn2 := hf2.2.1
     obtain ⟨va, vc, w3, hr3, hS3⟩ := hS2.appendB (i := 0) rfl (hS2.rd (i := 1) rfl) (by omega)
     obtain ⟨vb, vd, w4, hr4, hS4⟩ := hS3.appendB (i := 0) rfl (hS3.rd1 hrd) (by omega)
     have hpt := packL_take (ls := ls) (i := i) (by omega)
     rw [hl'] at hpt
     refine ⟨_, _, _, rfl, _, _, _, _, hr3, _, _, _, _, hr4, ⟨i + 1, ?_, by omega, ?_, ?_⟩, ?_⟩
     · rw [wrap_i64 (by omega) (by omega)]; rfl
     · rw [hpt]; simp only [List.length_append]; omega
     · rw [hpt]; exact St.pop (M := [_]) hS4
     · show n - (IntKind.wrap .i64 ((i : Int) + 1)).toNat < n - ((i : Int)).toNat
       rw [wrap_i64 (by omega) (by omega)]; omega
 · have hi' : i = n := by simp at h; omega
   rw [hi', ← hln, List.take_length] at hS
   exact ⟨_, _, _, rfl, hS.freshB (i := 0) rfl⟩

def SubB (a : Option Addr) (n c : Nat) (l : List UInt8) (a' : Option Addr) (n' c' : Nat) (l' : List UInt8) : Prop := ∀ v : World, RdB v a n c l → RdB v a' n' c' l'

def RdrA (g T : Nat) (a : Option Addr) (n c : Nat) (st : Option (List UInt8)) (w : World) : Prop := w.heap[g]? = some (.cells #[.slice a n c, .bool st.isNone] T)

def RdrP (g T : Nat) (a : Option Addr) (n c : Nat) (st st' : Option (List UInt8)) (w' : World) : Prop := ∃ a' n' c', RdrA g T a' n' c' st' w' ∧ SubB a n c (st.getD []) a' n' c' (st'.getD [])

theorem rdr_ne (a : Option Addr) (n c : Nat) (t : Bool) (l : List UInt8) : ∀ v ∈ bv l, v ∉ (#[Value.slice a n c, .bool t] : Array Value).toList := by
 intro v hv
 simp only [bv, List.mem_map] at hv
 obtain ⟨b, _, rfl⟩ := hv
 simp

theorem fail_spec (g T : Nat) (a : Option Addr) (n c : Nat) (t : Bool) (w : World) (hg : w.heap[g]? = some (.cells #[.slice a n c, .bool t] T)) :
   Calls Tryz.prog 138 #[.pointer (some ⟨g, 0, none⟩)] w fun e w' => e = .returned (.tuple #[]) ∧ Chg [g] w w' ∧ w'.heap[g]? = some (.cells #[.slice none 0 0, .bool true] T) := by
 apply wire_Reader_fail_vc
 have s1 : ∀ w, (sizeOf 4).run Tryz.prog w = .ok 1 w := fun w => Tryz.sizeOf4 w
 have s2 : ∀ w, (sizeOf 33).run Tryz.prog w = .ok 1 w := fun w => Tryz.sizeOf33 w
 obtain ⟨w1, r1, h1⟩ := (St.ofBlk hg).st (i := 0) (o := 1) (v := .bool true) rfl (s1 _) (by simp) rfl
 obtain ⟨w2, r2, h2⟩ := h1.st (i := 0) (o := 0) (v := .slice none 0 0) rfl (s2 _) (by simp) rfl
 exact ⟨w1, r1, w2, r2, rfl, h2.chg, h2.holds 0 _ rfl⟩

def rawF (st : Option (List UInt8)) (x : Int) : Option (List UInt8 × List UInt8) := st.bind fun l => if 0 ≤ x ∧ x ≤ (l.length : Int) then some (l.take x.toNat, l.drop x.toNat) else none

theorem raw_spec (g T : Nat) (st : Option (List UInt8)) (x : Int) (a : Option Addr) (n c : Nat) (w : World) (hg : RdrA g T a n c st w) (hr : RdB w a n c (st.getD [])) :
   Calls Tryz.prog 118 #[.pointer (some ⟨g, 0, none⟩), .int .i64 x] w fun e w' => ∃ a' n' c', e = .returned (.slice a' n' c') ∧ Chg [g] w w' ∧ RdrP g T a n c st ((rawF st x).map (·.2)) w' ∧ RdB w' a' n' c' (((rawF st x).map (·.1)).getD []) := by
 unfold RdrA at hg
 have iB : ∀ w, (isAgg 4).run Tryz.prog w = .ok false w := fun w => Tryz.isAgg4 w
 have s2 : ∀ w, (sizeOf 33).run Tryz.prog w = .ok 1 w := fun w => Tryz.sizeOf33 w
 have hl := hr.lenB
 have hle := hr.le
 have hS := St.ofBlk hg
 have ld0 := hS.ld (i := 0) (o := 0) (P := Tryz.prog) (v := .slice a n c) rfl (bsA _) rfl
 have ld1' := hS.ld (i := 0) (o := 1) (P := Tryz.prog) (v := .bool st.isNone) rfl (iB _) rfl
 apply wire_Reader_raw_vc
 refine ⟨fun b w' => b = decide (x < 0 ∨ (n : Int) < x) ∧ w' = w, ⟨fun h => ?_, fun h => ⟨a, n, c, ld0, ?_, rfl⟩⟩, ?_⟩
 · simp at h; exact ⟨by simp [h], rfl⟩
 · simp at h; simp [show ¬ x < 0 by omega]
 rintro b w1 ⟨rfl, rfl⟩
 refine ⟨fun w' => (¬ (x < 0 ∨ (n : Int) < x) ∧ w' = w1) ∨ ((x < 0 ∨ (n : Int) < x) ∧ Chg [g] w1 w' ∧ w'.heap[g]? = some (.cells #[.slice none 0 0, .bool true] T)), ⟨fun h => ?_, fun h => ?_⟩, ?_⟩
 · refine (fail_spec g T a n c _ w1 hg).mono ?_
   rintro e w2 ⟨rfl, hc2, hg2⟩
   exact ⟨rfl, .inr ⟨by simpa using h, hc2, hg2⟩⟩
 · exact .inl ⟨by simpa using h, rfl⟩
 rintro w2 (⟨hx, rfl⟩ | ⟨hx, hc2, hg2⟩)
 · refine ⟨_, ld1', fun h => ?_, fun h => ?_⟩
   · cases st with
     | some l => simp at h
     | none =>
       refine ⟨_, _, _, rfl, Chg.refl _ _, ?_, ?_⟩
       · exact ⟨a, n, c, hg, fun v hv => by simpa [rawF] using hv⟩
       · simpa [rawF] using rdNil _
   · cases st with
     | none => simp at h
     | some l =>
       simp only [Option.getD_some] at hr hl
       have hxn : 0 ≤ x ∧ x ≤ (n : Int) := by omega
       obtain ⟨m, rfl⟩ := Int.eq_ofNat_of_zero_le hxn.1
       refine ⟨_, _, _, ld0, by omega, by omega, by omega, _, _, _, ld0, by omega, by omega, by omega, fun a2 hs2 => ?_⟩
       simp only [Int.toNat_natCast] at hs2 ⊢
       obtain ⟨w3, r3, h3⟩ := hS.st (i := 0) (o := 0) (P := Tryz.prog) (v := .slice a2 (n - m) (c - m)) rfl (s2 _) (by simp) rfl
       have hc3 := h3.chg
       have hrf : rawF (some l) (m : Int) = some (l.take m, l.drop m) := by simp [rawF]; omega
       rw [hrf]
       have e1 : ((bv l).drop (m * 1)).take ((n - m) * 1) = bv (l.drop m) := by
         rw [Nat.mul_one, Nat.mul_one, List.take_of_length_le (by simp; omega), bv_drop]
       refine ⟨w3, r3, _, _, _, rfl, hc3, ⟨a2, n - m, c - m, h3.holds 0 _ rfl, fun v hv => ?_⟩, ?_⟩
       · have hsub := (show RdB v a n c l from hv).sub hs2 (hh := n) (by omega) (Nat.le_refl _) hle (Nat.le_refl _)
         rw [e1] at hsub
         exact hsub
       · have h0 : SubA 1 a 0 c a := ⟨fun _ => rfl, fun _ => by cases a <;> simp [Addr.add]⟩
         have := hr.sub h0 (hh := m) (by omega) (by omega) (by omega) (Nat.le_refl _)
         have e2 : ((bv l).drop (0 * 1)).take ((m - 0) * 1) = bv (l.take m) := by simp [bv_take]
         rw [e2] at this
         have h4 := this.keepG hg (rdr_ne _ _ _ _ _) hc3
         exact ⟨h4.cells, by simpa using h4.len, Nat.le_refl _, fun ha => by have := hr.nil ha; omega⟩
 · have hS2 := St.ofBlk hg2
   refine ⟨true, hS2.ld (i := 0) (o := 1) (P := Tryz.prog) (v := .bool true) rfl (iB _) rfl, fun _ => ?_, fun h => by cases h⟩
   have hrf : rawF st x = none := by
     cases st with
     | none => rfl
     | some l =>
       simp only [Option.getD_some] at hl
       simp [rawF]; omega
   rw [hrf]
   exact ⟨_, _, _, rfl, hc2, ⟨none, 0, 0, hg2, fun v _ => rdNil v⟩, rdNil _⟩

theorem rRaw_spec (g T : Nat) (st : Option (List UInt8)) (x : Int) (a : Option Addr) (n c : Nat) (w : World) (hg : RdrA g T a n c st w) (hr : RdB w a n c (st.getD [])) (hb : (st.getD []).length ≤ 140737488355000) :
   Calls Tryz.prog 140 #[.pointer (some ⟨g, 0, none⟩), .int .i64 x] w fun e w' => ∃ a' n' c', e = .returned (.slice a' n' c') ∧ FreshX [g] w w' a' n' c' (((rawF st x).map (·.1)).getD []) ∧ RdrP g T a n c st ((rawF st x).map (·.2)) w' := by
 apply wire_Reader_Raw_vc
 refine (raw_spec g T st x a n c w hg hr).mono ?_
 rintro e w1 ⟨a1, n1, c1, rfl, hc1, hv1, hr1⟩
 have hl := hr1.lenB
 have hn : n1 ≤ 140737488355000 := by
   rw [← hl]
   cases st with
   | none => simp [rawF]
   | some l =>
     simp only [Option.getD_some] at hb
     simp only [rawF, Option.bind_some]
     split
     · simp; omega
     · simp
 refine ⟨_, _, _, rfl, (clone_spec a1 n1 c1 _ w1 hr1 hn).mono ?_⟩
 rintro e w2 ⟨a2, c2, rfl, hf⟩
 obtain ⟨a3, n3, c3, hg3, hr3⟩ := hv1
 unfold RdrA at hg3
 refine ⟨_, _, _, rfl, _, _, _, rfl, hf.after hc1, a3, n3, c3, ?_, hr3⟩
 unfold RdrA
 rw [hf.1.block g (Array.getElem?_eq_some_iff.1 hg3).1 (by simp)]
 exact hg3

theorem rdVar_some : ∀ (f : Nat) (l : List UInt8) (i n m s : Nat), rdVar f l i n = some (m, s) → n < 128 ^ i → i < s ∧ s ≤ i + l.length ∧ s ≤ i + f ∧ m < 128 ^ s
 | 0, _, _, _, _, _, h, _ => by simp [rdVar] at h
 | f + 1, [], i, n, m, s, h, _ => by simp [rdVar] at h
 | f + 1, b :: r, i, n, m, s, h, hn => by
   have hp : 128 ^ (i + 1) = 128 ^ i * 128 := Nat.pow_succ ..
   have hpos : 0 < 128 ^ i := Nat.pow_pos (by decide)
   have hbl := b.toNat_lt
   simp only [rdVar] at h
   split at h
   · rename_i hb
     split at h
     · cases h
     · simp only [Option.some.injEq, Prod.mk.injEq] at h
       obtain ⟨rfl, rfl⟩ := h
       have : b.toNat * 128 ^ i ≤ 127 * 128 ^ i := Nat.mul_le_mul_right _ (by omega)
       refine ⟨by omega, by simp only [List.length_cons]; omega, by omega, by omega⟩
   · rename_i hb
     have : (b.toNat - 128) * 128 ^ i ≤ 127 * 128 ^ i := Nat.mul_le_mul_right _ (by omega)
     obtain ⟨h1, h2, h3, h4⟩ := rdVar_some f r (i + 1) _ m s h (by omega)
     refine ⟨by omega, by simp only [List.length_cons]; omega, by omega, h4⟩

theorem readVarF_some {l : List UInt8} {n s : Nat} (h : readVarF l = some (n, s)) : 1 ≤ s ∧ s ≤ l.length ∧ s ≤ 9 ∧ n < 9223372036854775808 := by
 obtain ⟨h1, h2, h3, h4⟩ := rdVar_some 9 l 0 0 n s h (by decide)
 have : 128 ^ s ≤ 128 ^ 9 := Nat.pow_le_pow_right (by decide) (by omega)
 refine ⟨by omega, by omega, by omega, by omega⟩

def varF (st : Option (List UInt8)) : Option (Nat × List UInt8) := st.bind fun l => (readVarF l).map fun p => (p.1, l.drop p.2)

theorem rVar_spec (g T : Nat) (st : Option (List UInt8)) (a : Option Addr) (n c : Nat) (w : World) (hg : RdrA g T a n c st w) (hr : RdB w a n c (st.getD [])) :
   Calls Tryz.prog 139 #[.pointer (some ⟨g, 0, none⟩)] w fun e w' => e = .returned (.int .i64 ((((varF st).map (·.1)).getD 0 : Nat) : Int)) ∧ Chg [g] w w' ∧ RdrP g T a n c st ((varF st).map (·.2)) w' := by
 unfold RdrA at hg
 have iB : ∀ w, (isAgg 4).run Tryz.prog w = .ok false w := fun w => Tryz.isAgg4 w
 have s2 : ∀ w, (sizeOf 33).run Tryz.prog w = .ok 1 w := fun w => Tryz.sizeOf33 w
 have hl := hr.lenB
 have hle := hr.le
 have hS := St.ofBlk hg
 have ld0 := hS.ld (i := 0) (o := 0) (P := Tryz.prog) (v := .slice a n c) rfl (bsA _) rfl
 have ld1' := hS.ld (i := 0) (o := 1) (P := Tryz.prog) (v := .bool st.isNone) rfl (iB _) rfl
 obtain ⟨m, hI⟩ := eI
 apply wire_Reader_Var_vc
 refine ⟨_, ld1', fun h => ?_, fun h => ?_⟩
 · cases st with
   | some l => simp at h
   | none => exact ⟨rfl, Chg.refl _ _, a, n, c, hg, fun v hv => by simpa [varF] using hv⟩
 cases st with
 | none => simp at h
 | some l =>
 simp only [Option.getD_some] at hr hl
 refine ⟨_, _, _, ld0, (readVar_spec a n c l w hr).mono ?_⟩
 rintro e w1 ⟨rfl, rfl⟩
 have hvf : varF (some l) = (readVarF l).map fun p => (p.1, l.drop p.2) := rfl
 rw [hvf]
 cases hrv : readVarF l with
 | none =>
   refine ⟨_, _, _, rfl, _, neqS_nil hI (some 9) _ _, fun _ => (fail_spec g T a n c _ w1 hg).mono ?_, fun h => by simp at h⟩
   rintro e w2 ⟨rfl, hc2, hg2⟩
   exact ⟨rfl, rfl, hc2, none, 0, 0, hg2, fun v _ => rdNil v⟩
 | some p =>
   obtain ⟨k, s⟩ := p
   obtain ⟨h1, h2, _, h4⟩ := readVarF_some hrv
   refine ⟨_, _, _, rfl, _, neqS_nil hI none _ _, fun h => by simp at h, fun _ => ⟨_, _, _, ld0, by omega, by omega, by omega, fun a2 hs2 => ?_⟩⟩
   simp only [Int.toNat_natCast] at hs2 ⊢
   obtain ⟨w3, r3, h3⟩ := hS.st (i := 0) (o := 0) (P := Tryz.prog) (v := .slice a2 (n - s) (c - s)) rfl (s2 _) (by simp) rfl
   have e1 : ((bv l).drop (s * 1)).take ((n - s) * 1) = bv (l.drop s) := by
     rw [Nat.mul_one, Nat.mul_one, List.take_of_length_le (by simp; omega), bv_drop]
   refine ⟨w3, r3, rfl, h3.chg, a2, n - s, c - s, h3.holds 0 _ rfl, fun v hv => ?_⟩
   have hsub := (show RdB v a n c l from hv).sub hs2 (hh := n) (by omega) (Nat.le_refl _) hle (Nat.le_refl _)
   rw [e1] at hsub
   exact hsub

def fieldF (l : List UInt8) : Option (List UInt8 × List UInt8) := (readVarF l).bind fun p => if p.1 ≤ 67108864 ∧ p.1 + p.2 ≤ l.length then some ((l.drop p.2).take p.1, l.drop (p.2 + p.1)) else none

theorem fieldF_some {l f r : List UInt8} (h : fieldF l = some (f, r)) : ∃ s, readVarF l = some (f.length, s) ∧ f = (l.drop s).take f.length ∧ r = l.drop (s + f.length) ∧ 1 ≤ s ∧ s + f.length + r.length = l.length ∧ f.length ≤ 67108864 := by
 unfold fieldF at h
 cases hv : readVarF l with
 | none => rw [hv] at h; cases h
 | some p =>
   obtain ⟨n, s⟩ := p
   rw [hv] at h
   simp only [Option.bind_some] at h
   split at h
   · rename_i hc
     simp only [Option.some.injEq, Prod.mk.injEq] at h
     obtain ⟨rfl, rfl⟩ := h
     have hlen : ((l.drop s).take n).length = n := by simp; omega
     obtain ⟨h1, h2, _, _⟩ := readVarF_some hv
     refine ⟨s, by rw [hlen], by rw [hlen], by rw [hlen], h1, ?_, by omega⟩
     rw [hlen]; simp; omega
   · cases h

theorem rField_spec (g T : Nat) (st : Option (List UInt8)) (a : Option Addr) (n c : Nat) (w : World) (hg : RdrA g T a n c st w) (hr : RdB w a n c (st.getD [])) (hb : (st.getD []).length ≤ 140737488355000) :
   Calls Tryz.prog 119 #[.pointer (some ⟨g, 0, none⟩)] w fun e w' => ∃ a' n' c', e = .returned (.slice a' n' c') ∧ FreshX [g] w w' a' n' c' (((st.bind fieldF).map (·.1)).getD []) ∧ RdrP g T a n c st ((st.bind fieldF).map (·.2)) w' := by
 have iB : ∀ w, (isAgg 4).run Tryz.prog w = .ok false w := fun w => Tryz.isAgg4 w
 apply wire_Reader_Field_vc
 refine (rVar_spec g T st a n c w hg hr).mono ?_
 rintro e w1 ⟨rfl, hc1, a1, n1, c1, hg1, hs1⟩
 have hr1 := (hs1 w hr).keepG hg (rdr_ne _ _ _ _ _) hc1
 have hS := St.ofBlk hg1
 refine ⟨_, rfl, _, hS.ld (i := 0) (o := 1) (P := Tryz.prog) (v := .bool ((varF st).map (·.2)).isNone) rfl (iB _) rfl, fun h => ?_, fun h => ?_⟩
 · have hvn : varF st = none := by cases hv : varF st with
     | none => rfl
     | some p => rw [hv] at h; simp at h
   have hfn : st.bind fieldF = none := by
     cases st with
     | none => rfl
     | some l =>
       simp only [varF, Option.bind_some, Option.map_eq_none_iff] at hvn
       simp [fieldF, hvn]
   rw [hvn] at hg1 hs1
   rw [hfn]
   exact ⟨_, _, _, rfl, ⟨hc1, rfl, World.ownsRow_nil _ _ _ _⟩, a1, n1, c1, hg1, hs1⟩
 · cases st with
   | none => simp [varF] at h
   | some l =>
   cases hv : readVarF l with
   | none => simp [varF, hv] at h
   | some p =>
   obtain ⟨k, s⟩ := p
   obtain ⟨h1, h2, _, h4⟩ := readVarF_some hv
   have hvf : varF (some l) = some (k, l.drop s) := by simp [varF, hv]
   simp only [Option.getD_some] at hb
   rw [hvf] at hs1 hg1 hr1 ⊢
   simp only [Option.map_some, Option.getD_some, Option.bind_some] at hs1 hg1 hr1 ⊢
   refine ⟨fun hk => ?_, fun hk => ?_⟩
   · have hk' : 67108864 < k := by simp at hk; omega
     have hfn : fieldF l = none := by simp [fieldF, hv]; omega
     refine (fail_spec g T a1 n1 c1 _ w1 hg1).mono ?_
     rintro e w2 ⟨rfl, hc2, hg2⟩
     rw [hfn]
     exact ⟨rfl, _, _, _, rfl, ⟨hc1.trans hc2, rfl, World.ownsRow_nil _ _ _ _⟩, none, 0, 0, hg2, fun v _ => rdNil v⟩
   · have hk' : k ≤ 67108864 := by simp at hk; omega
     have hfr : fieldF l = rawF (some (l.drop s)) (k : Int) := by
       simp only [fieldF, hv, Option.bind_some, rawF, List.length_drop, List.drop_drop]
       by_cases hks : k + s ≤ l.length
       · rw [if_pos ⟨hk', hks⟩, if_pos (by omega), Int.toNat_natCast]
       · rw [if_neg (by omega), if_neg (by omega)]
     rw [hfr]
     refine (rRaw_spec g T (some (l.drop s)) k a1 n1 c1 w1 hg1 hr1 (by simp; omega)).mono ?_
     rintro e w2 ⟨a2, n2, c2, rfl, hf2, a3, n3, c3, hg3, hs3⟩
     exact ⟨_, _, _, rfl, _, _, _, rfl, ⟨hc1.trans hf2.1, hf2.2.1, ownsRow_base hf2.2.2 hc1.size⟩, a3, n3, c3, hg3, fun v hv => hs3 v (hs1 v hv)⟩

open Go Sx
set_option maxRecDepth 8000

theorem rowsL_snoc {vs : List Value} {ls : List (List UInt8)} (h : vs.length = ls.length) (v : Value) (l : List UInt8) : rowsL (vs ++ [v]) (ls ++ [l]) = rowsL vs ls ++ [.row 5 1 v l.length (bv l)] := by
 rw [rowsL, List.zipWith_append h]; rfl

theorem hd_snoc {vs : List Value} {ls : List (List UInt8)} (h : vs.length = ls.length) (hd : ∀ i, i < ls.length → ∃ a c, vs[i]? = some (.slice a (ls.getD i []).length c)) (a : Option Addr) (c : Nat) (l : List UInt8) :
   ∀ i, i < (ls ++ [l]).length → ∃ a' c', (vs ++ [Value.slice a l.length c])[i]? = some (.slice a' ((ls ++ [l]).getD i []).length c') := by
 intro i hi
 by_cases hlt : i < ls.length
 · obtain ⟨a', c', h1⟩ := hd i hlt
   refine ⟨a', c', ?_⟩
   rw [List.getElem?_append_left (by omega), h1]
   simp [List.getD, List.getElem?_append_left hlt]
 · have : i = ls.length := by simp at hi; omega
   subst this
   refine ⟨a, c, ?_⟩
   rw [List.getElem?_append_right (by omega), h, Nat.sub_self]
   simp [List.getD]

theorem built_reader : Tryz.prog.built 202 = fun parts => Instr.fill (fun i => (#[(0, 1), (1, 1)] : Array (Nat × Nat))[i]?) #[.slice none 0 0, .bool false] parts := by kernel_rfl

theorem reader_build (a : Option Addr) (n c : Nat) (w : World) : (Instr.build 202 #[(0, .slice a n c)]).run Tryz.prog w = .ok (.agg #[.slice a n c, .bool false]) w := by
 apply run_build
 rw [built_reader]
 show Instr.fill _ _ [(0, .slice a n c)] = _
 rw [fill_step (off := 0) (sz := 1) rfl (by simp [Value.cells]) (by simp)]
 simp [Instr.fill, Value.cells]

open Go Sx
set_option maxRecDepth 8000

theorem rvar_spec (m : Nat) (w : World) (hm : m < 9223372036854775808) : Calls Tryz.prog 126 #[.int .i64 (m : Int)] w fun e w' => ∃ a n c, e = .returned (.slice a n c) ∧ FreshB w w' a n c (varL m) := by
 have hlen := varL_len 9 m (by simpa using hm) (by decide)
 apply amphoraref04_Var_vc
 refine ⟨fun x a n c w' => ∃ (k : Nat) (pre : List UInt8), x = (k : Int) ∧ k < 9223372036854775808 ∧ varL m = pre ++ varL k ∧ pre.length = n ∧ St w [] w' [.row 5 1 (.slice a n c) n (bv pre)], fun x _ _ _ _ => x.toNat,
   ⟨m, [], rfl, hm, rfl, rfl, (St.start w).addNil _ _⟩, ?_⟩
 rintro x a n c w1 ⟨k, pre, rfl, hk, he, hl, hS⟩
 have hn : n + (varL k).length ≤ 9 := by have := congrArg List.length he; simp at this; omega
 have hk1 := varL_pos k
 have hd : IntKind.wrap .i64 (Int.tdiv (k : Int) 128) = ((k / 128 : Nat) : Int) := by rw [show Int.tdiv (k : Int) 128 = ((k / 128 : Nat) : Int) by rw [Int.tdiv_eq_ediv_of_nonneg (by omega)]; omega]; exact wrap_i64_nat _ (by omega)
 have hmo : Int.tmod (k : Int) 128 = ((k % 128 : Nat) : Int) := by rw [Int.tmod_eq_emod_of_nonneg (by omega)]; omega
 refine ⟨fun _ => ?_, fun h => by simp at h⟩
 rw [hd, hmo]
 refine ⟨fun h => ?_, fun h => ?_⟩
 · have hk0 : k < 128 := by simp at h; omega
   have hv : IntKind.wrap .u8 ((k % 128 : Nat) : Int) = (k : Int) := by rw [wrap_u8]; omega
   rw [hv]
   obtain ⟨g, w2, va, vc, w3, hr2, hr3, h3, _⟩ := hS.push1 (i := 0) rfl (by omega) k (by omega)
   refine ⟨_, _, _, _, hr2, _, _, _, _, hr3, _, _, _, rfl, ?_⟩
   rw [he, varL_small hk0]
   exact h3.freshB (i := 0) rfl
 · have hk0 : ¬ k < 128 := by simp at h; omega
   have hv : IntKind.wrap .u8 (IntKind.wrap .i64 (((k % 128 : Nat) : Int) + 128)) = ((k % 128 + 128 : Nat) : Int) := by
     rw [wrap_i64 (by omega) (by omega), wrap_u8]; omega
   rw [hv]
   obtain ⟨g, w2, va, vc, w3, hr2, hr3, h3, _⟩ := hS.push1 (i := 0) rfl (by omega) (k % 128 + 128) (by omega)
   refine ⟨_, _, _, _, hr2, _, _, _, _, hr3, ⟨k / 128, pre ++ [UInt8.ofNat (k % 128 + 128)], rfl, by omega, ?_, by simp [hl], h3⟩, ?_⟩
   · rw [he, varL_big hk0]; simp
   · simp; omega

theorem rnum_bytes (x : Int) (w : World) : Calls Tryz.prog 74 #[.int .i64 x] w fun e w' => ∃ a n c, e = .returned (.slice a n c) ∧ FreshB w w' a n c (numL (x % 18446744073709551616).toNat) := by
 obtain ⟨u, hu⟩ : ∃ u : Nat, (x % 18446744073709551616).toNat = u := ⟨_, rfl⟩
 have hux : x % 18446744073709551616 = (u : Int) := by omega
 have hult : u < 18446744073709551616 := by omega
 rw [hu]
 apply amphoraref04_Num_vc
 obtain ⟨g, w1, hr1, h1⟩ := (St.start w).mkN (kl := .i64) (kc := .i64) (c := 8) bT rfl (by omega) (by omega) (by omega)
 refine ⟨_, _, _, _, hr1, fun v i w' => ∃ j : Nat, j ≤ 8 ∧ i = 7 - (j : Int) ∧ v = ((u / 256 ^ j : Nat) : Int) ∧ ∃ xs, St w [] w' [.row 5 1 (.slice (some ⟨g, 0, none⟩) 8 8) 8 xs] ∧ xs.length = 8 ∧ xs.drop (8 - j) = bv ((numL u).drop (8 - j)), fun _ i _ => (i + 1).toNat,
   ⟨0, by omega, by omega, ?_, _, h1, by simp, ?_⟩, ?_⟩
 · rw [wrap_u64, hux]; simp
 · rw [Nat.sub_zero, List.drop_of_length_le (by simp), List.drop_of_length_le (by rw [numL_len]; exact Nat.le_refl _)]; rfl
 rintro v i w2 ⟨j, hj, rfl, rfl, xs, hS, hxs, hdr⟩
 refine ⟨fun h => ?_, fun h => ?_⟩
 · have hj8 : j < 8 := by simp at h; omega
   refine ⟨g, 0, rfl, by omega, by simp; omega, ?_⟩
   have hv : IntKind.wrap .u8 (Int.tmod ((u / 256 ^ j : Nat) : Int) 256) = ((UInt8.ofNat (u / 256 ^ j % 256)).toNat : Int) := by
     rw [Int.tmod_eq_emod_of_nonneg (Int.natCast_nonneg _), wrap_u8]; simp
   rw [hv]
   obtain ⟨b, hb⟩ : ∃ b, UInt8.ofNat (u / 256 ^ j % 256) = b := ⟨_, rfl⟩
   rw [hb]
   obtain ⟨w3, hr3, h3⟩ := hS.stRow (i := 0) (j := 7 - j) (T := 5) (v := .int .u8 (b.toNat : Int)) rfl (by exact Tryz.sizeOf5 _) (by omega) (by simp [Value.oneCell'])
   rw [show (0 + Int.toNat (7 - (j : Int)) * 1) = 7 - j by omega]
   refine ⟨w3, hr3, ⟨j + 1, by omega, ?_, ?_, _, h3, by simp [hxs], ?_⟩, ?_⟩
   · rw [wrap_i64 (by omega) (by omega)]; omega
   · have hdd : u / 256 ^ j / 256 = u / 256 ^ (j + 1) := by rw [Nat.div_div_eq_div_mul, Nat.pow_succ]
     have : u / 256 ^ (j + 1) ≤ u := Nat.div_le_self _ _
     rw [Int.tdiv_eq_ediv_of_nonneg (Int.natCast_nonneg _), show ((u / 256 ^ j : Nat) : Int) / 256 = ((u / 256 ^ (j + 1) : Nat) : Int) by rw [← hdd]; exact (Int.natCast_ediv _ 256).symm, wrap_u64]
     generalize u / 256 ^ (j + 1) = q at this ⊢
     omega
   · have hlt : 7 - j < (numL u).length := by rw [numL_len]; omega
     have hget : (numL u)[7 - j]? = some b := by rw [numL_get _ _ (by omega), ← hb, show 7 - (7 - j) = j by omega]
     rw [show 8 - (j + 1) = 7 - j by omega, List.drop_set, if_neg (by omega), Nat.sub_self, List.drop_eq_getElem_cons (by omega), List.set_cons_zero, show 7 - j + 1 = 8 - j by omega, hdr, List.drop_eq_getElem_cons hlt,
       show 7 - j + 1 = 8 - j by omega]
     rw [List.getElem?_eq_getElem hlt, Option.some.injEq] at hget
     rw [hget]
     rfl
   · show (IntKind.wrap .i64 (7 - (j : Int) - 1) + 1).toNat < (7 - (j : Int) + 1).toNat
     rw [wrap_i64 (by omega) (by omega)]; omega
 · have hj8 : j = 8 := by simp at h; omega
   subst hj8
   simp only [Nat.sub_self, List.drop_zero] at hdr
   subst hdr
   exact ⟨_, _, _, rfl, hS.freshB (i := 0) rfl⟩

open Go Sx
set_option maxRecDepth 8000

theorem rpack_spec (a : Option Addr) (n c : Nat) (vs : List Value) (ls : List (List UInt8)) (w : World) (hr : Rd w a n c 1 vs) (h2 : Row2 w vs ls) (hb : ls.flatten.length ≤ 67108864) (hn : ls.length ≤ 1048576) :
   Calls Tryz.prog 105 #[.slice a n c] w fun e w' => ∃ a' n' c', e = .returned (.slice a' n' c') ∧ FreshB w w' a' n' c' (packL ls) := by
 have hln : ls.length = n := by have := hr.len; have := h2.len; omega
 apply amphoraref04_Pack_vc
 refine ⟨fun xa xn xc x w' => ∃ i : Nat, x = (i : Int) ∧ i ≤ n ∧ xn = (packL (ls.take i)).length ∧ St w [] w' [.row 5 1 (.slice xa xn xc) xn (bv (packL (ls.take i)))], fun _ _ _ x _ => n - x.toNat,
   ⟨0, rfl, by omega, by simp [packL], (St.start w).addNil _ _⟩, ?_⟩
 rintro xa xn xc x w1 ⟨i, rfl, hi, hxn, hS⟩
 have hpb := packL_bound hb i
 refine ⟨fun h => ?_, fun h => ?_⟩
 · have hi' : i < n := by simp at h; omega
   obtain ⟨b, o, a', n', c', ha, hv, hrd, hld⟩ := ixS hr.cells h2 (i := i) (by omega)
   have hl' := hrd.lenB
   have hle := getD_le_flat (ls := ls) (i := i) (by omega)
   refine ⟨b, o, ha, by omega, by omega, _, _, _, hld w1 (hr.cells.keep0 hS.chg), fun h => ?_, fun _ => ?_⟩
   · simp at h; omega
   · have h9 := varL_len 9 n' (by simp; omega) (by decide)
     have hSd := hS.drew
     refine ⟨fun w' => Chg [] w w', hSd.chg, b, o, ha, by omega, by omega, b, o, ha, by omega, by omega, a', n', c', fun w' h => hld w' (hr.cells.keep0 h), a', n', c', fun w' h => hld w' (hr.cells.keep0 h), thenC (rvar_spec n' w1.drew (by omega)) ?_⟩
     rintro e w2 ⟨a2, n2, c2, rfl, hf2⟩
     have hS2 := hf2.add hSd
     have hn2 := hf2.2.1
     obtain ⟨va, vc, w3, hr3, hS3⟩ := hS2.appendB (i := 0) rfl (hS2.rd (i := 1) rfl) (by omega)
     obtain ⟨vb, vd, w4, hr4, hS4⟩ := hS3.appendB (i := 0) rfl (hS3.rd1 hrd) (by omega)
     have hpt := packL_take (ls := ls) (i := i) (by omega)
     rw [hl'] at hpt
     refine ⟨_, _, _, rfl, fun w' => Chg [] w w', fun _ h => h, hS2.chg, _, _, _, _, hr3, fun w' => Chg [] w w', fun _ h => h, hS3.chg, _, _, _, _, hr4, fun w' => Chg [] w w', fun _ h => h, hS4.chg, ⟨i + 1, ?_, by omega, ?_, ?_⟩, ?_⟩
     · rw [wrap_i64 (by omega) (by omega)]; rfl
     · rw [hpt]; simp only [List.length_append]; omega
     · rw [hpt]; exact St.pop (M := [_]) hS4
     · show n - (IntKind.wrap .i64 ((i : Int) + 1)).toNat < n - ((i : Int)).toNat
       rw [wrap_i64 (by omega) (by omega)]; omega
 · have hi' : i = n := by simp at h; omega
   rw [hi', ← hln, List.take_length] at hS
   exact ⟨_, _, _, rfl, hS.freshB (i := 0) rfl⟩

open Go Sx
set_option maxRecDepth 8000

def frameL (k : UInt8) (b : List UInt8) : List UInt8 := k :: (varL b.length ++ b)

theorem frame_spec (k : UInt8) (a : Option Addr) (n c : Nat) (vs : List Value) (ls : List (List UInt8)) (w : World) (hr : Rd w a n c 1 vs) (h2 : Row2 w vs ls) (hb : ls.flatten.length ≤ 67108864) (hn : ls.length ≤ 1048576) :
   Calls Tryz.prog 103 #[.int .u8 (k.toNat : Int), .slice a n c] w fun e w' => ∃ a' n' c', e = .returned (.slice a' n' c') ∧ FreshB w w' a' n' c' (frameL k ls.flatten) := by
 have hln : ls.length = n := by have := hr.len; have := h2.len; omega
 apply wire_Frame_vc
 refine ⟨fun x y w' => ∃ i : Nat, y = (i : Int) ∧ i ≤ n ∧ x = (((ls.take i).flatten.length : Nat) : Int) ∧ w' = w, fun _ y _ => n - y.toNat, ⟨0, rfl, by omega, by simp, rfl⟩, ?_⟩
 rintro x y w1 ⟨i, rfl, hi, rfl, rfl⟩
 have hft := flat_take_le ls i
 refine ⟨fun h => ?_, fun h => ?_⟩
 · have hi' : i < n := by simp at h; omega
   obtain ⟨b, o, a', n', c', ha, hv, hrd, hld⟩ := ixS hr.cells h2 (i := i) (by omega)
   have hl' := hrd.lenB
   have hf1 := flat_take (ls := ls) (i := i) (by omega)
   have hf2 := flat_take_le ls (i + 1)
   rw [hf1, List.length_append, hl'] at hf2
   refine ⟨b, o, ha, by omega, by omega, _, _, _, hld w1 hr.cells, fun h => ?_, fun _ => ⟨⟨i + 1, wrap_succ hi' (by omega), by omega, ?_, rfl⟩, mu_succ hi' (by omega)⟩⟩
   · rw [wrap_i64 (by omega) (by omega)] at h; simp only [gt_iff_lt, decide_eq_true_eq] at h; omega
   · rw [wrap_i64 (by omega) (by omega), hf1, List.length_append, hl']; omega
 · have hi' : i = n := by simp at h; omega
   rw [hi', ← hln, List.take_length]
   rw [hln]
   obtain ⟨g, w2, r2, h2'⟩ := (St.start w1).lit bT [.int .u8 (k.toNat : Int)] (by simp [Value.oneCell']) (by simp)
   refine ⟨_, _, _, _, r2, (var_spec ls.flatten.length w2 (by omega)).mono ?_⟩
   rintro e w3 ⟨a3, n3, c3, rfl, hf3⟩
   have h3 := hf3.add h2'
   have h9 := varL_len 9 ls.flatten.length (by omega) (by decide)
   have hn3 := hf3.2.1
   obtain ⟨va, vc, w4, r4, h4⟩ := h3.appendB (i := 0) (xs := [k]) rfl (h3.rd (i := 1) rfl) (by simp; omega)
   have h4' := St.pop (M := [_]) h4
   refine ⟨_, _, _, rfl, _, _, _, _, r4, fun xa xn xc y w' => ∃ i : Nat, y = (i : Int) ∧ i ≤ n ∧ xn = 1 + n3 + (ls.take i).flatten.length ∧ St w1 [] w' [.row 5 1 (.slice xa xn xc) xn (bv (k :: (varL ls.flatten.length ++ (ls.take i).flatten)))], fun _ _ _ y _ => n - y.toNat, ⟨0, rfl, by omega, by simp, by simpa using h4'⟩, ?_⟩
   rintro xa xn xc y w5 ⟨i, rfl, hi, rfl, hS⟩
   have hft := flat_take_le ls i
   refine ⟨fun h => ?_, fun h => ?_⟩
   · have hi' : i < n := by simp at h; omega
     obtain ⟨b, o, a', n', c', ha, hv, hrd, hld⟩ := ixS hr.cells h2 (i := i) (by omega)
     have hl' := hrd.lenB
     have hf1 := flat_take (ls := ls) (i := i) (by omega)
     have hf2 := flat_take_le ls (i + 1)
     rw [hf1, List.length_append, hl'] at hf2
     obtain ⟨va, vc, w6, r6, h6⟩ := hS.appendB (i := 0) rfl (hS.rd1 hrd) (by omega)
     refine ⟨b, o, ha, by omega, by omega, _, _, _, hld w5 (hr.cells.keep0 hS.chg), _, _, _, _, r6, ⟨i + 1, wrap_succ hi' (by omega), by omega, ?_, ?_⟩, mu_succ hi' (by omega)⟩
     · rw [hf1, List.length_append, hl']; omega
     · rw [hf1]
       have e : k :: (varL ls.flatten.length ++ ((ls.take i).flatten ++ ls.getD i [])) = k :: (varL ls.flatten.length ++ (ls.take i).flatten) ++ ls.getD i [] := by simp
       rw [e]; exact h6
   · have hi' : i = n := by simp at h; omega
     subst hi'
     rw [← hln, List.take_length] at hS ⊢
     exact ⟨_, _, _, rfl, hS.freshB (i := 0) rfl⟩

def frameF : List UInt8 → Option (UInt8 × List UInt8 × List UInt8)
 | [] => none
 | k :: r => (fieldF r).map fun p => (k, p.1, p.2)

theorem frameF_some {l b r : List UInt8} {k : UInt8} (h : frameF l = some (k, b, r)) : ∃ t, l = k :: t ∧ fieldF t = some (b, r) ∧ b.length + r.length + 2 ≤ l.length := by
 cases l with
 | nil => cases h
 | cons x t =>
   simp only [frameF, Option.map_eq_some_iff, Prod.mk.injEq] at h
   obtain ⟨⟨b', r'⟩, h1, rfl, rfl, rfl⟩ := h
   obtain ⟨s, _, _, _, h3, h4, _⟩ := fieldF_some h1
   exact ⟨t, rfl, h1, by simp only [List.length_cons] at *; omega⟩

def framesF : Nat → List UInt8 → Nat → List (UInt8 × List UInt8 × Nat) × Nat
 | 0, _, p => ([], p)
 | f + 1, l, p => match frameF l with
   | none => ([], p)
   | some (k, b, r) => ((k, b, p) :: (framesF f r (p + (l.length - r.length))).1, (framesF f r (p + (l.length - r.length))).2)

def frCells (vs : List Value) (fs : List (UInt8 × List UInt8 × Nat)) : List Value := (List.zipWith (fun v f => [.int .i64 (f.1.toNat : Int), v, .int .i64 (f.2.2 : Int)]) vs fs).flatten

theorem frCells_snoc {vs : List Value} {fs : List (UInt8 × List UInt8 × Nat)} (h : vs.length = fs.length) (v : Value) (f : UInt8 × List UInt8 × Nat) : frCells (vs ++ [v]) (fs ++ [f]) = frCells vs fs ++ [.int .i64 (f.1.toNat : Int), v, .int .i64 (f.2.2 : Int)] := by
 rw [frCells, List.zipWith_append h]; simp [frCells]

theorem frT : ElemT Tryz.prog 132 137 3 40 (.agg #[.int .i64 0, .slice none 0 0, .int .i64 0]) := ⟨by kernel_rfl, ⟨Tryz.t137, by kernel_rfl, by kernel_rfl, by kernel_rfl, by kernel_rfl⟩, rfl, by decide⟩

theorem built_frame : Tryz.prog.built 137 = fun parts => Instr.fill (fun i => (#[(0, 1), (1, 1), (2, 1)] : Array (Nat × Nat))[i]?) #[.int .i64 0, .slice none 0 0, .int .i64 0] parts := by kernel_rfl

theorem frame_build (k p : Int) (a : Option Addr) (n c : Nat) (w : World) : (Instr.build 137 #[(0, .int .i64 k), (1, .slice a n c), (2, .int .i64 p)]).run Tryz.prog w = .ok (.agg #[.int .i64 k, .slice a n c, .int .i64 p]) w := by
 apply run_build
 rw [built_frame]
 show Instr.fill _ _ [(0, .int .i64 k), (1, .slice a n c), (2, .int .i64 p)] = _
 rw [fill_step (off := 0) (sz := 1) rfl (by simp [Value.cells]) (by simp), fill_step (off := 1) (sz := 1) rfl (by simp [Value.cells]) (by simp [Value.cells]), fill_step (off := 2) (sz := 1) rfl (by simp [Value.cells]) (by simp [Value.cells])]
 simp [Instr.fill, Value.cells]

structure OwnF (w w' : World) (a : Option Addr) (n c : Nat) (vs : List Value) (fs : List (UInt8 × List UInt8 × Nat)) : Prop where
 st : St w [] w' (.row 137 3 (.slice a n c) n (frCells vs fs) :: rowsL vs (fs.map fun f => f.2.1))
 len : vs.length = fs.length
 num : fs.length = n
 hd : ∀ i, i < (fs.map fun f => f.2.1).length → ∃ a c, vs[i]? = some (.slice a ((fs.map fun f => f.2.1).getD i []).length c)

theorem frames_spec (a : Option Addr) (n c : Nat) (l : List UInt8) (w : World) (hr : RdB w a n c l) (hb : n ≤ 1048576) :
   Calls Tryz.prog 88 #[.slice a n c] w fun e w' => ∃ a' n' c' vs, e = .returned (.tuple #[.slice a' n' c', .int .i64 (((framesF (l.length + 1) l 0).2 : Nat) : Int)]) ∧ OwnF w w' a' n' c' vs (framesF (l.length + 1) l 0).1 := by
 have iB : ∀ w, (isAgg 4).run Tryz.prog w = .ok false w := fun w => Tryz.isAgg4 w
 have hl := hr.lenB
 apply wire_Frames_vc
 obtain ⟨g, w1, r1, h1⟩ := (St.start w).box (P := Tryz.prog) 202 (.agg #[.slice a n c, .bool false])
 have h1' := h1.addNil 137 3
 refine ⟨_, reader_build a n c w, g, w1, r1, fun xa xn xc y w' => ∃ (fs : List (UInt8 × List UInt8 × Nat)) (rest : List UInt8) (vs : List Value) (a2 : Option Addr) (n2 c2 p f : Nat), y = (p : Int) ∧ xn = fs.length ∧ rest.length < f ∧
     framesF (l.length + 1) l 0 = (fs ++ (framesF f rest p).1, (framesF f rest p).2) ∧ fs.length + rest.length ≤ n ∧ p + rest.length = n ∧
     St w [] w' ([.blk g (.cells #[.slice a2 n2 c2, .bool false] 202), .row 137 3 (.slice xa xn xc) xn (frCells vs fs)] ++ rowsL vs (fs.map fun f => f.2.1)) ∧ RdB w a2 n2 c2 rest ∧ vs.length = fs.length ∧ (∀ i, i < (fs.map fun f => f.2.1).length → ∃ a c, vs[i]? = some (.slice a ((fs.map fun f => f.2.1).getD i []).length c)),
   fun _ xn _ _ _ => n - xn, ⟨[], l, [], a, n, c, 0, l.length + 1, rfl, rfl, by omega, by simp, by simp; omega, by omega, h1', hr, rfl, by simp⟩, ?_⟩
 rintro xa xn xc y w2 ⟨fs, rest, vs, a2, n2, c2, p, f, rfl, rfl, hfr, hff, hlen, hp, hS, hrd, hvs, hhd⟩
 obtain ⟨f, rfl⟩ : ∃ f', f = f' + 1 := ⟨f - 1, by omega⟩
 have hrl := hrd.lenB
 have hg : w2.heap[g]? = some (.cells #[.slice a2 n2 c2, .bool false] 202) := hS.holds 0 _ rfl
 refine (raw_spec g _ (some rest) 1 a2 n2 c2 w2 hg (hS.rd1 hrd)).mono ?_
 rintro e w3 ⟨a3, n3, c3, rfl, hc3, ⟨a4, n4, c4, hg4, hs4⟩, hr3⟩
 have hr4 := hs4 w hrd
 have hr43 := (hs4 w2 (hS.rd1 hrd)).keepG hg (rdr_ne _ _ _ _ _) hc3
 have hl4 : (((rawF (some rest) 1).map (·.2)).getD []).length ≤ 1048576 := by
   simp only [rawF, Option.bind_some]
   split <;> simp
   omega
 refine ⟨_, _, _, rfl, (rField_spec g _ _ a4 n4 c4 w3 hg4 hr43 (by omega)).mono ?_⟩
 rintro e w4 ⟨a5, n5, c5, rfl, hf5, a6, n6, c6, hg6, hs6⟩
 have hr6 := hs6 w hr4
 have hr35 := hr3.keepG hg4 (rdr_ne _ _ _ _ _) hf5.1
 -- what the two calls say
 have key : ((rawF (some rest) 1).map (·.2)).bind fieldF = (frameF rest).map (·.2) := by
   cases rest with
   | nil => rfl
   | cons k t =>
     have : rawF (some (k :: t)) 1 = some ([k], t) := by simp [rawF]; omega
     rw [this]
     simp only [Option.map_some, Option.bind_some, frameF]
     cases fieldF t <;> rfl
 have hst : ((((rawF (some rest) 1).map (·.2)).bind fieldF).map (·.2)).isNone = (frameF rest).isNone := by rw [key]; cases frameF rest <;> rfl
 have hf5' : FreshX [g] w2 w4 a5 n5 c5 (((frameF rest).map (·.2.1)).getD []) := by
   rw [key] at hf5
   refine ⟨hc3.trans hf5.1, ?_, ?_⟩
   · have := hf5.2.1; cases h : frameF rest <;> rw [h] at this <;> exact this
   · have := ownsRow_base hf5.2.2 hc3.size; cases h : frameF rest <;> rw [h] at this <;> exact this
 refine ⟨_, _, _, rfl, _, ld1 (iB _) (by rw [cell_of_row w4 g _ _ _ _ hg6]; rfl), fun hbr => ?_, fun hbr => ?_⟩
 · rw [hst] at hbr
   have hfn : frameF rest = none := by simpa using hbr
   have hz : framesF (l.length + 1) l 0 = (fs, p) := by rw [hff]; simp [framesF, hfn]
   rw [hz]
   have h4 := hf5'.addBlk hS (i := 0) rfl hg6
   exact ⟨_, _, _, vs, rfl, (St.pop h4).tail, hvs, rfl, hhd⟩
 · rw [hst] at hbr
   obtain ⟨q, hq⟩ : ∃ q, frameF rest = some q := by cases h : frameF rest with
     | none => rw [h] at hbr; simp at hbr
     | some q => exact ⟨q, rfl⟩
   obtain ⟨k, b, r⟩ := q
   obtain ⟨t, rfl, hft, hlt⟩ := frameF_some hq
   have hra : rawF (some (k :: t)) 1 = some ([k], t) := by simp [rawF]; omega
   rw [hra] at hr35 hr6 hg6
   rw [hq] at hf5'
   simp only [Option.map_some, Option.getD_some, Option.bind_some, hft] at hr35 hr6 hg6 hf5'
   have h4 := hf5'.addBlk hS (i := 0) rfl hg6
   have hbl := hf5'.2.1
   subst hbl
   have hl35 := hr35.lenB
   refine ixB (bA _) hr35.cells hl35 (by omega) (by simp at hl35; omega) fun _ _ _ => ?_
   have hk : IntKind.wrap .i64 ((([k].getD (0 : Int).toNat 0).toNat : Int)) = (k.toNat : Int) := by
     have := k.toNat_lt
     simp only [Int.toNat_zero]
     rw [show [k].getD 0 0 = k from rfl, wrap_i64 (by omega) (by omega)]
   rw [hk]
   have h5 : St w [] w4 ([.blk g (.cells #[.slice a6 n6 c6, .bool false] 202), .row 137 3 (.slice xa fs.length xc) fs.length (frCells vs fs)] ++ rowsL (vs ++ [Value.slice a5 b.length c5]) ((fs ++ [(k, b, p)]).map fun f => f.2.1)) := by
     rw [List.map_append, List.map_cons, List.map_nil, rowsL_snoc (by simp [hvs]), ← List.append_assoc]; exact h4
   obtain ⟨g6, w6, va, vc, w7, r6, r7, h7, h6⟩ := h5.pushA (i := 1) (ty := 132) frT rfl [.int .i64 (k.toNat : Int), .slice a5 b.length c5, .int .i64 (p : Int)] rfl (by omega) (by simp [Value.oneCell']) (by omega) (by simp only [maxLen]; omega)
   have h7b : w7.heap[g]? = some (.cells #[.slice a6 n6 c6, .bool false] 202) := h7.holds 0 _ rfl
   have hl6 := hr6.lenB
   simp only [List.length_cons] at hlen hp hlt hfr hrl
   refine ⟨_, frame_build _ _ _ _ _ _, _, _, _, _, r6, _, _, _, _, r7, _, _, _, ld1 (bsA _) (by rw [cell_of_row w7 g _ _ _ _ h7b]; rfl), ⟨fs ++ [(k, b, p)], r, vs ++ [Value.slice a5 b.length c5], a6, n6, c6, n - r.length, f, ?_, by simp, by omega, ?_, by simp; omega, by omega, ?_, hr6, by simp [hvs], ?_⟩, ?_⟩
   · rw [wrap_i64 (by omega) (by omega)]; omega
   · rw [hff]
     have hpp : p + ((k :: t).length - r.length) = n - r.length := by simp; omega
     simp only [framesF, hq, hpp]
     simp
   · rw [frCells_snoc hvs]; exact h7
   · rw [List.map_append, List.map_cons, List.map_nil]
     exact hd_snoc (by simp [hvs]) hhd _ _ _
   · show n - (fs.length + 1) < n - fs.length
     omega

open Go Sx
set_option maxRecDepth 8000

structure RdF (w : World) (a : Option Addr) (n c : Nat) (vs : List Value) (fs : List (UInt8 × List UInt8 × Nat)) : Prop where
 rd : Rd w a n c 3 (frCells vs fs)
 row : Row2 w vs (fs.map fun f => f.2.1)
 num : fs.length = n

theorem OwnF.rdF {w w' : World} {a : Option Addr} {n c : Nat} {vs : List Value} {fs : List (UInt8 × List UInt8 × Nat)} (h : OwnF w w' a n c vs fs) : RdF w' a n c vs fs := by
 refine ⟨h.st.rd (i := 0) rfl, ⟨by rw [List.length_map]; exact h.len, fun i hi => ?_⟩, h.num⟩
 obtain ⟨a', c', h1⟩ := h.hd i hi
 refine ⟨a', _, c', h1, h.st.rd (i := i + 1) (e := 5) ?_⟩
 rw [List.getElem?_cons_succ, rowsL_get (by rw [List.length_map]; exact h.len) hi]
 simp only [List.getD, h1, Option.getD_some]

theorem rframe_spec (k : UInt8) (a : Option Addr) (n c : Nat) (l : List UInt8) (w : World) (hr : RdB w a n c l) (hb : n ≤ 67108864) :
   Calls Tryz.prog 75 #[.int .u8 (k.toNat : Int), .slice a n c] w fun e w' => ∃ a' n' c', e = .returned (.slice a' n' c') ∧ FreshB w w' a' n' c' (frameL k l) := by
 have hl := hr.lenB
 apply amphoraref04_Frame_vc
 refine ⟨fun h => by simp at h; omega, fun _ => ?_⟩
 obtain ⟨g, w2, r2, h2'⟩ := (St.start w).lit bT [.int .u8 (k.toNat : Int)] (by simp [Value.oneCell']) (by simp)
 obtain ⟨g3, w3, r3, h3⟩ := h2'.lit bbT [.slice a n c] (by simp [Value.oneCell']) (by simp)
 refine ⟨_, _, _, _, r2, _, _, _, _, r3, (rpack_spec _ 1 1 [.slice a n c] [l] w3 (h3.rd (i := 1) rfl) ((Row2.nil _).cons (h3.rd1 hr)) (by simp; omega) (by simp)).mono ?_⟩
 rintro e w4 ⟨a4, n4, c4, rfl, hf4⟩
 have h4 := hf4.add h3
 have hn4 := hf4.2.1
 have h9 := varL_len 9 n (by simp; omega) (by decide)
 have hp : packL [l] = varL l.length ++ l := by simp [packL]
 rw [hp] at hn4
 rw [hl] at hn4 hp
 simp only [List.length_append] at hn4
 obtain ⟨va, vc, w5, r5, h5⟩ := h4.appendB (i := 0) (xs := [k]) rfl (h4.rd (i := 2) rfl) (by simp; omega)
 refine ⟨_, _, _, rfl, _, _, _, _, r5, _, _, _, rfl, ?_⟩
 have := h5.freshB (i := 0) rfl
 rw [hp] at this
 rw [frameL, hl]; exact this

end Go.Proofs.YtmdandkoajocpaaGreatDoor
end

section
namespace Go.Proofs.YtmdandkoajocpaaGreatDoor
namespace Sx
open Go
set_option maxRecDepth 8000

theorem bv_ints (l : List UInt8) : bv l = (l.map fun b => (b.toNat : Int)).map (Value.int .u8) := by simp [bv]
end Sx

namespace Sx
open Go
set_option maxRecDepth 8000

theorem eq_arrG {P : Program} {T e n d : Nat} {k : IntKind} (hT : P.underlying T = some (.array n e)) (hs : ∀ w, (sizeOf e).run P w = .ok 1 w) (hA : ∀ w, (isAgg e).run P w = .ok false w)
   (hd : ∀ a b w, (Op.equalIn d e (.int k a) (.int k b)).run P w = .ok (a == b) w) (l m : List Int) (hl : l.length = n) (hm : m.length = n) (w : World) :
   (Op.equalIn (d + 1) T (.agg (l.map (Value.int k)).toArray) (.agg (m.map (Value.int k)).toArray)).run P w = .ok (decide (l = m)) w := by
 have hp : ∀ (l : List Int), l.length = n → ∀ (i : Nat) (w : World), i < n → (part e (l.map (Value.int k)).toArray i).run P w = .ok (.int k (l.getD i 0)) w := by
   intro l hl i w hi
   simp [part, hA, hs, show i < l.length by omega]
 have key : ∀ (js : List Nat) (w : World), (∀ j ∈ js, j < n) → (forIn (m := Sem) js ((none, ()) : Option Bool × Unit) fun i (_ : Option Bool × Unit) => do
     let a ← part e (l.map (Value.int k)).toArray i
     let b ← part e (m.map (Value.int k)).toArray i
     let c ← Op.equalIn d e a b
     if c = false then pure (ForInStep.done (some false, ())) else pure (ForInStep.yield (none, ()))).run P w = .ok (if js.all (fun j => l.getD j 0 == m.getD j 0) then (none, ()) else (some false, ())) w := by
   intro js
   induction js with
   | nil => intro w _; simp
   | cons j js ih =>
     intro w hj
     simp only [List.forIn_cons, Sem.run_bind, hp l hl j w (hj j (by simp)), hp m hm j w (hj j (by simp)), Result.andThen_ok, hd, List.all_cons]
     rcases Bool.eq_false_or_eq_true (l.getD j 0 == m.getD j 0) with hb | hb
     · simp only [hb, Bool.true_and]
       simpa using ih w (fun i hi => hj i (by simp [hi]))
     · simp only [hb, Bool.false_and]
       simp
 have hall : (List.range' 0 n).all (fun j => l.getD j 0 == m.getD j 0) = decide (l = m) := by
   rw [Bool.eq_iff_iff]
   simp only [List.all_eq_true, beq_iff_eq, decide_eq_true_eq, List.mem_range'_1]
   constructor
   · intro h
     apply List.ext_getElem (by omega)
     intro i h1 h2
     have := h i ⟨by omega, by omega⟩
     simpa [List.getD, h1, h2] using this
   · intro h; subst h; intro _ _; rfl
 simp only [Op.equalIn, Sem.run_bind, run_underlying hT, Result.andThen_ok, hs]
 have k0 := key (List.range' 0 n) w (by simp [List.mem_range'_1])
 rw [hall] at k0
 by_cases h : l = m
 · simp only [h, decide_true, if_true] at k0
   simp [h, k0]
 · simp only [h, decide_false, Bool.false_eq_true, if_false] at k0
   simp [h, k0]

theorem bvI_inj {l m : List UInt8} : (l.map fun b => (b.toNat : Int)) = (m.map fun b => (b.toNat : Int)) ↔ l = m := by
 constructor
 · intro h
   apply List.ext_getElem?
   intro i
   have := congrArg (fun q => q[i]?) h
   simp only [List.getElem?_map] at this
   cases h1 : l[i]? <;> cases h2 : m[i]? <;> simp [h1, h2] at this ⊢
   exact UInt8.toNat_inj.1 (by omega)
 · intro h; rw [h]
end Sx

namespace Sx
open Go
set_option maxRecDepth 8000

theorem eqFields_step {P : Program} {d : Nat} {xs ys : Array Value} {f : Field} {fs : List Field} {a b : Value} {r : Bool} {w : World} (hn : f.name ≠ "_") (ha : (part f.type xs f.offset).run P w = .ok a w) (hb : (part f.type ys f.offset).run P w = .ok b w)
   (he : (Op.equalIn d f.type a b).run P w = .ok r w) {q : Bool} (hq : (Op.eqFields d xs ys fs).run P w = .ok q w) : (Op.eqFields d xs ys (f :: fs)).run P w = .ok (r && q) w := by
 rw [Op.eqFields, if_pos hn]
 simp only [Sem.run_bind, ha, hb, he, Result.andThen_ok]
 cases r with
 | true => simp [hq]
 | false => simp

theorem eqS_struct {P : Program} {T : TypeId} {xs ys : Array Value} {r : Bool} {w : World} (hT : P.underlying T = some (.struct (P.fieldsOf T))) (hp : P.stoodInHeld T = false) (hg : P.eqGuardType P.depth T = false) (x y : Operand)
   (h : (Op.eqFields 9999 xs ys (P.fieldsOf T).toList).run P w = .ok r w) : (eqlS .eql T x y (.agg xs) (.agg ys)).run P w = .ok (.bool r) w ∧ (eqlS .neq T x y (.agg xs) (.agg ys)).run P w = .ok (.bool (!r)) w := by
 have h1 := (run_equalIn_struct (P := P) w 9999 T xs ys hT hp).trans h
 refine ⟨?_, ?_⟩
 · simp only [eqlS, Sem.run_bind, run_eqGuard_agg w .eql T x y _ _ hg, Result.andThen_ok, run_eql_struct w, h1]
 · simp only [eqlS, Sem.run_bind, run_eqGuard_agg w .neq T x y _ _ hg, Result.andThen_ok, run_neq_struct w, h1]
end Sx

end Go.Proofs.YtmdandkoajocpaaGreatDoor
end

section
namespace Go.Proofs.YtmdandkoajocpaaGreatDoor
open Go Sx
set_option maxRecDepth 8000

theorem o64A (w : World) : (isAgg 207).run Tryz.prog w = .ok true w := Tryz.isAgg207 w
theorem o64S (w : World) : (sizeOf 207).run Tryz.prog w = .ok 64 w := Tryz.sizeOf207 w
theorem o64Z (w : World) : (zeroValue 207).run Tryz.prog w = .ok (.agg (bv (List.replicate 64 0)).toArray) w := Tryz.zeroValue207 w
theorem sB1 (w : World) : (sizeOf 5).run Tryz.prog w = .ok 1 w := Tryz.sizeOf5 w

theorem Sx.St.copyB {w0 w : World} {X : List Nat} {M : List Res} (h : St w0 X w M) {i g T n c d : Nat} {a : Option Addr} {l src : List UInt8} (hi : M[i]? = some (.arr g T (bv l))) (hd : l.length = d) (hr : RdB w a n c src) (hn : n ≤ d) :
   ∃ w', (Builtin.copy_ #[33, 33] 3 #[.slice (some ⟨g, 0, none⟩) d d, .slice a n c]).run Tryz.prog w = .ok (.int .i64 (n : Int)) w' ∧ St w0 X w' (M.set i (.arr g T (bv (src ++ l.drop n)))) := by
 have hl := hr.lenB
 have hinf : (Tryz.prog.info? 5).map (·.size) = some 1 := by kernel_rfl
 have hg := h.holds i _ hi
 have done : n = 0 → St w0 X w (M.set i (.arr g T (bv (src ++ l.drop n)))) := fun h0 => by
   subst h0
   have : src = [] := List.eq_nil_of_length_eq_zero hl
   subst this
   rw [List.nil_append, List.drop_zero]
   exact h.upd hi (Chg.refl _ _) hg (fun k hk => .inl hk)
 rcases hr.cells with h0 | ⟨b, o, rfl, hrg⟩
 · have h0' : n = 0 := by rw [← hl]; simpa [bv] using congrArg List.length h0
   refine ⟨w, ?_, done h0'⟩
   subst h0'
   exact run_copy_none w _ _ _ 5 _ _ _ _ _ _ bS hinf (by simp)
 · have hr' := run_copy_row (P := Tryz.prog) w 33 33 3 5 g 0 d d ⟨b, o, none⟩ n c (bv l).toArray T (bv src) bS hinf hg (by rw [bv_length, hl]; exact (Nat.min_eq_left hn).symm) (fun j v hj => by rw [Addr.add_mid]; exact hrg j v hj) (by simp; omega) (bv_one _)
   have e : ((bv l).toArray.toList.take 0 ++ bv src ++ (bv l).toArray.toList.drop (0 + (bv src).length)).toArray = (bv (src ++ l.drop n)).toArray := by
     simp [bv_drop, hl]
   rw [e] at hr'
   refine ⟨_, by rw [hr', bv_length, hl]; rfl, h.upd hi (w' := w.setRow g _) ⟨rfl, rfl, rfl, by simp, fun k _ hk => setRow_other w g k _ (fun e => hk (by simp [Res.fp, e]))⟩ (setRow_heap w g _ _ T _ hg) (by simp [Res.fp])⟩

theorem xorc_val (b c : UInt8) : bxor .u8 (b.toNat : Int) (c.toNat : Int) = ((b ^^^ c).toNat : Int) := by
 rw [bxor_nat rfl (by have := b.toNat_lt; simpa [kmod, IntKind.bits] using this) (by have := c.toNat_lt; simpa [kmod, IntKind.bits] using this), UInt8.toNat_xor]

def kdL (g : Nat) (o : List UInt8) : List Value := .pointer (some ⟨g, 0, none⟩) :: bv o

def ipad (key : List UInt8) : List UInt8 := (macK key).map (· ^^^ 0x36)
def opad (key : List UInt8) : List UInt8 := (macK key).map (· ^^^ 0x5c)
theorem ipad_len (key : List UInt8) : (ipad key).length = 64 := by rw [ipad, List.length_map]; exact macK_len key
theorem opad_len (key : List UInt8) : (opad key).length = 64 := by rw [opad, List.length_map]; exact macK_len key
def kM (gk g : Nat) (key m : List UInt8) (a : Option Addr) (c : Nat) : List Res := .arr gk 260 (kdL g (opad key)) :: hM g 271 (ipad key ++ m) a c
theorem macF_pads (key m : List UInt8) : macF key m = shaF (opad key ++ shaF (ipad key ++ m)) := rfl

theorem built_keyed : Tryz.prog.built 260 = fun parts => Instr.fill (fun i => (#[(0, 1), (1, 64)] : Array (Nat × Nat))[i]?) (.pointer none :: bv (List.replicate 64 0)).toArray parts := by kernel_rfl
theorem keyed_build (g : Nat) (w : World) : (Instr.build 260 #[(0, .pointer (some ⟨g, 0, none⟩))]).run Tryz.prog w = .ok (.agg (kdL g (List.replicate 64 0)).toArray) w := by
 apply run_build
 rw [built_keyed]
 show Instr.fill _ _ [(0, .pointer (some ⟨g, 0, none⟩))] = _
 rw [fill_step (off := 0) (sz := 1) rfl (by simp [Value.cells]) (by simp)]
 simp [Instr.fill, Value.cells, kdL]

theorem pA (w : World) : (isAgg 257).run Tryz.prog w = .ok false w := Tryz.isAgg257 w

theorem kWrite_spec {w0 w : World} {X : List Nat} {M : List Res} (gk g : Nat) (key m : List UInt8) (a : Option Addr) (c : Nat) (a1 : Option Addr) (n1 c1 : Nat) (vs : List Value) (ls : List (List UInt8)) (hK : KTab w0) (hX : 5 ∉ X) (hS : St w0 X w (M ++ kM gk g key m a c))
   (hp : PartsK (fpsL (hM g 271 (ipad key ++ m) a c)) w a1 n1 c1 vs ls) (hb : m.length + ls.flatten.length ≤ 140737488340000) (hn : n1 ≤ 4611686018427387904) :
   Calls Tryz.prog 142 #[.pointer (some ⟨gk, 0, none⟩), .slice a1 n1 c1] w fun e w' => e = .returned (.tuple #[]) ∧ ∃ a' c', St w0 X w' (M ++ kM gk g key (m ++ ls.flatten) a' c') ∧ Chg (fpsL (hM g 271 (ipad key ++ m) a c)) w w' := by
 have hS' : St w0 X w ((M ++ [.arr gk 260 (kdL g (opad key))]) ++ hM g 271 (ipad key ++ m) a c) := by rw [List.append_assoc]; exact hS
 have hN := hS.sub (List.sublist_append_right M _)
 have hip := ipad_len key
 apply sha_Keyed_Write_vc
 refine ⟨g, 0, hN.ldL (i := 0) (o := 0) rfl (pA _) rfl rfl, (hWrite_spec g _ (ipad key ++ m) a c a1 n1 c1 vs ls hK hX hS' hp (by rw [List.length_append, hip]; omega) hn).mono ?_⟩
 rintro e w' ⟨rfl, a', c', h', hc'⟩
 refine ⟨rfl, rfl, a', c', ?_, hc'⟩
 rw [List.append_assoc, List.append_assoc] at h'
 exact h'

theorem Sx.St.rdAt1 {w0 w : World} {X : List Nat} {M : List Res} (h : St w0 X w M) {i g T : Nat} {v : Value} {l : List UInt8} (hi : M[i]? = some (.arr g T (v :: bv l))) : RdB w (some ⟨g, 1, none⟩) l.length l.length l :=
 ⟨.inr ⟨g, 1, rfl, fun j u hj => by
   have := h.cellsA hi (j + 1) u (by simpa using hj)
   rw [show 1 + j = 0 + (j + 1) by omega]; exact this⟩, by simp, Nat.le_refl _, by simp⟩

theorem row2_one {w : World} {a : Option Addr} {n c : Nat} {l : List UInt8} (h : RdB w a n c l) : Row2 w [.slice a n c] [l] := by
 refine ⟨rfl, fun i hi => ?_⟩
 have : i = 0 := by simpa using hi
 subst this
 exact ⟨a, n, c, rfl, h⟩
theorem row2_two {w : World} {a : Option Addr} {n c : Nat} {l : List UInt8} {a2 : Option Addr} {n2 c2 : Nat} {l2 : List UInt8} (h : RdB w a n c l) (h2 : RdB w a2 n2 c2 l2) : Row2 w [.slice a n c, .slice a2 n2 c2] [l, l2] := by
 refine ⟨rfl, fun i hi => ?_⟩
 rcases i with _ | _ | i
 · exact ⟨a, n, c, rfl, h⟩
 · exact ⟨a2, n2, c2, rfl, h2⟩
 · simp only [List.length_cons, List.length_nil] at hi; omega

theorem kSum_spec {w0 w : World} {X : List Nat} {M : List Res} (gk g : Nat) (key m : List UInt8) (a : Option Addr) (c : Nat) (hK : KTab w) (hS : St w0 X w (M ++ kM gk g key m a c)) (hb : m.length ≤ 70368744170000) :
   Calls Tryz.prog 143 #[.pointer (some ⟨gk, 0, none⟩)] w fun e w' => e = .returned (.agg (bv (macF key m)).toArray) ∧ Chg [] w w' := by
 have hN := (hS.sub (List.sublist_append_right M _)).self
 have hip := ipad_len key
 apply sha_Keyed_Sum_vc
 obtain ⟨g1, w1, r1, h1⟩ := (St.start w).zeroA d32Z
 have hN1 := hN.same h1.chg
 have hK1 := hK.keep0 h1.chg
 refine ⟨_, _, r1, g, 0, hN1.ldL (i := 0) (o := 0) rfl (pA _) rfl rfl, (hSum_spec (M := [_]) g _ _ a c hK1 hN1 (by rw [List.length_append, hip]; omega)).mono ?_⟩
 rintro e w2 ⟨rfl, hc2⟩
 have h2 := h1.same hc2
 obtain ⟨g3, w3, r3, h3⟩ := h2.zeroA d32Z
 obtain ⟨w4, r4, h4⟩ := h3.stA (i := 1) (v := bv (shaF (ipad key ++ m))) rfl (d32S _) (by simp) (by simp) (bv_one _)
 have h4d := h4.drew
 have hop := opad_len key
 obtain ⟨g5, w5, r5, h5⟩ := h4d.lit bbT [.slice (some ⟨gk, 1, none⟩) 64 64, .slice (some ⟨g3, 0, none⟩) 32 32] (by simp [Value.oneCell']) (by simp)
 have hN5 := hN.same h5.chg
 have q1 := hN5.rdAt1 (i := 0) rfl
 rw [hop] at q1
 have q2 : RdB w5 (some ⟨g3, 0, none⟩) 32 32 (shaF (ipad key ++ m)) := h5.rdA (i := 1) rfl (by simp)
 refine ⟨_, rfl, g3, w3, r3, w4, r4, by omega, by omega, by omega, by omega, _, _, _, _, r5, (shaSum_spec _ 2 2 _ [opad key, shaF (ipad key ++ m)] w5 (hK.keep0 h5.chg) (h5.rd (i := 2) rfl) (row2_two q1 q2) (by simp [hop]) (by decide)).mono ?_⟩
 rintro e w6 ⟨rfl, hc6⟩
 have hm : shaF [opad key, shaF (ipad key ++ m)].flatten = macF key m := by rw [macF_pads]; simp
 rw [hm]
 have h6 := h5.same hc6
 obtain ⟨w7, r7, h7⟩ := h6.stA (i := 0) (v := bv (macF key m)) rfl (d32S _) (by simp) (by simp) (bv_one _)
 exact ⟨_, rfl, w7, r7, _, h7.ldVarA (i := 0) (l := bv (macF key m)) rfl (d32A _) (d32S _) (by simp), rfl, h7.chg⟩

theorem newMac_spec (a : Option Addr) (n c : Nat) (key : List UInt8) (w : World) (hK : KTab w) (hr : RdB w a n c key) (hb : n ≤ 70368744170000) :
   Calls Tryz.prog 141 #[.slice a n c] w fun e w' => ∃ gk g a' c', e = .returned (.pointer (some ⟨gk, 0, none⟩)) ∧ St w [] w' (kM gk g key [] a' c') := by
 have hl := hr.lenB
 have hle := hr.le
 apply sha_NewMac_vc
 obtain ⟨g1, w1, r1, h1⟩ := (St.start w).zeroA o64Z
 refine ⟨_, _, r1, fun w' => St w [] w' [.arr g1 207 (bv (macK key))], ⟨fun h => ?_, fun h => ?_⟩, ?_⟩
 · have hn : 64 < key.length := by simp at h; omega
   obtain ⟨g2, w2, r2, h2⟩ := h1.lit bbT [.slice a n c] (by simp [Value.oneCell']) (by simp)
   refine ⟨_, _, _, _, r2, (shaSum_spec _ 1 1 _ [key] w2 (hK.keep0 h2.chg) (h2.rd (i := 1) rfl) (row2_one (h2.rd1 hr)) (by simp; omega) (by decide)).mono ?_⟩
   rintro e w3 ⟨rfl, hc3⟩
   have hk1 : shaF [key].flatten = shaF key := by simp
   rw [hk1]
   have h3 := h2.same hc3
   obtain ⟨g4, w4, r4, h4⟩ := h3.zeroA d32Z
   obtain ⟨w5, r5, h5⟩ := h4.stA (i := 2) (v := bv (shaF key)) rfl (d32S _) (by simp) (by simp) (bv_one _)
   have h5d := h5.drew
   obtain ⟨w6, r6, h6⟩ := h5d.copyB (i := 0) (d := 64) (n := 32) (c := 32) (a := some ⟨g4, 0, none⟩) (src := shaF key) rfl (by simp) (h5d.rdA (i := 2) rfl (by simp)) (by omega)
   refine ⟨_, rfl, g4, w4, r4, w5, r5, by omega, by omega, by omega, by omega, _, w6, r6, ?_⟩
   have hmk : macK key = shaF key ++ (List.replicate 64 0).drop 32 := by
     simp only [macK, if_pos hn, shaF_len]
     rfl
   rw [hmk]
   exact h6.sub (List.Sublist.cons_cons _ (List.nil_sublist _))
 · have hn : ¬ 64 < key.length := by simp at h; omega
   obtain ⟨w6, r6, h6⟩ := h1.copyB (i := 0) (d := 64) (n := n) (c := c) (a := a) (src := key) rfl (by simp) (h1.rd1 hr) (by omega)
   refine ⟨by omega, by omega, _, w6, r6, ?_⟩
   have hmk : macK key = key ++ (List.replicate 64 0).drop n := by
     simp only [macK, if_neg hn]
     rw [List.drop_replicate, hl]
   rw [hmk]
   exact h6
 rintro w8 h8
 obtain ⟨K, hKk⟩ : ∃ K, macK key = K := ⟨_, rfl⟩
 have hKl : K.length = 64 := by rw [← hKk]; exact macK_len key
 rw [hKk] at h8
 refine (shaNew_spec w8).mono ?_
 rintro e w9 ⟨g, rfl, hN9⟩
 have h9 : St w [] w9 ([.arr g1 207 (bv K)] ++ hM g 271 [] none 0) := by
   refine St.callPart (N := []) (w := w8) (by simpa using h8) ?_
   simpa [fpsL] using hN9
 obtain ⟨gk, w10, r10, h10⟩ := h9.boxA (P := Tryz.prog) 260 (kdL g (List.replicate 64 0))
 refine ⟨_, _, rfl, _, keyed_build g w9, gk, w10, r10, _, h10.ldA (i := 0) (l := bv K) rfl (o64A _) (o64S _) (by simp [hKl]), ?_⟩
 refine ⟨fun x w' => ∃ i : Nat, x = (i : Int) ∧ i ≤ 64 ∧ St w [] w' ([.arr g1 207 (bv (mixG (K.map (· ^^^ 0x36)) K i))] ++ hM g 271 [] none 0 ++ [.arr gk 260 (kdL g (mixG (K.map (· ^^^ 0x5c)) (List.replicate 64 0) i))]), fun x _ => 64 - x.toNat,
   ⟨0, rfl, by omega, by rw [mixG_zero, mixG_zero]; exact h10⟩, ?_⟩
 rintro x w11 ⟨i, rfl, hi, h11⟩
 have hm1 : (mixG (K.map (· ^^^ 0x36)) K i).length = 64 := by rw [mixG_len (by simp) (by omega)]; exact hKl
 have hm2 : (mixG (K.map (· ^^^ 0x5c)) (List.replicate 64 (0 : UInt8)) i).length = 64 := by rw [mixG_len (by simp [hKl]) (by simp; omega)]; simp
 refine ⟨fun h => ?_, fun h => ?_⟩
 · have hi' : i < 64 := by simp at h; omega
   have hb5 : (K.map (· ^^^ 0x5c))[i]? = some (K.getD i 0 ^^^ 0x5c) := by simp [List.getD, show i < K.length by omega]
   have hb3 : (K.map (· ^^^ 0x36))[i]? = some (K.getD i 0 ^^^ 0x36) := by simp [List.getD, show i < K.length by omega]
   have x5 : bxor .u8 ((K.getD i 0).toNat : Int) 92 = ((K.getD i 0 ^^^ 0x5c).toNat : Int) := xorc_val _ 0x5c
   have x3 : bxor .u8 ((K.getD i 0).toNat : Int) 54 = ((K.getD i 0 ^^^ 0x36).toNat : Int) := xorc_val _ 0x36
   obtain ⟨w12, r12, h12⟩ := h11.stL (i := 3) (o := 1 + i) (off := 1 + Int.toNat (i : Int) * 1) (v := .int .u8 ((K.getD i 0 ^^^ 0x5c).toNat : Int)) rfl (sB1 _) (by omega) (by rw [kdL, List.length_cons, bv_length, hm2]; omega) rfl
   have hset : (kdL g (mixG (K.map (· ^^^ 0x5c)) (List.replicate 64 0) i)).set (1 + i) (.int .u8 ((K.getD i 0 ^^^ 0x5c).toNat : Int)) = kdL g (mixG (K.map (· ^^^ 0x5c)) (List.replicate 64 0) (i + 1)) := by
     rw [kdL, Nat.add_comm 1 i, List.set_cons_succ, bv_set, mixG_set (by simp [hKl]) hb5]; rfl
   rw [hset] at h12
   have h12' : St w [] w12 ([.arr g1 207 (bv (mixG (K.map (· ^^^ 0x36)) K i))] ++ hM g 271 [] none 0 ++ [.arr gk 260 (kdL g (mixG (K.map (· ^^^ 0x5c)) (List.replicate 64 0) (i + 1)))]) := h12
   obtain ⟨w13, r13, h13⟩ := h12'.stB (i := 0) (o := i) (off := 0 + Int.toNat (i : Int) * 1) (b := K.getD i 0 ^^^ 0x36) rfl (sB1 _) (by omega) (by omega)
   rw [mixG_set (by simp) hb3] at h13
   refine ⟨_, ixArr (cs := bv K) Tryz.underlying207 (sB1 _) (bA _) hi' (bv_getD (by omega)), by omega, by omega, w12, by rw [x5]; exact r12, by omega, by omega, w13, by rw [x3]; exact r13, ⟨i + 1, wrap_succ hi' (by omega), by omega, h13⟩, mu_succ hi' (by omega)⟩
 · have hi' : i = 64 := by simp at h; omega
   have f1 : mixG (K.map (· ^^^ 0x36)) K i = ipad key := by
     have := mixG_all (x := K.map (· ^^^ 0x36)) (l := K) (by simp)
     rw [hKl] at this; rw [hi', this, ipad, hKk]
   have f2 : mixG (K.map (· ^^^ 0x5c)) (List.replicate 64 (0 : UInt8)) i = opad key := by
     have := mixG_all (x := K.map (· ^^^ 0x5c)) (l := List.replicate 64 (0 : UInt8)) (by simp [hKl])
     rw [List.length_replicate] at this; rw [hi', this, opad, hKk]
   rw [f1, f2] at h11
   clear f1 f2 hm1 hm2 h hi hi'
   have hip := ipad_len key
   obtain ⟨g14, w14, r14, h14⟩ := h11.lit bbT [.slice (some ⟨g1, 0, none⟩) 64 64] (by simp [Value.oneCell']) (by simp)
   have hP : List.Perm ([Res.arr g1 207 (bv (ipad key))] ++ hM g 271 [] none 0 ++ [Res.arr gk 260 (kdL g (opad key))] ++ [Res.row 33 1 (.slice (some ⟨g14, 0, none⟩) 1 1) 1 [.slice (some ⟨g1, 0, none⟩) 64 64]])
       (([Res.row 33 1 (.slice (some ⟨g14, 0, none⟩) 1 1) 1 [.slice (some ⟨g1, 0, none⟩) 64 64], Res.arr g1 207 (bv (ipad key))] ++ [Res.arr gk 260 (kdL g (opad key))]) ++ hM g 271 [] none 0) := by
     refine List.perm_append_comm.trans ?_
     refine List.Perm.cons _ ?_
     refine List.Perm.cons _ ?_
     exact List.perm_append_comm
   have h14' := h14.perm hP
   have hkp : ∀ w', Chg (fpsL (hM g 271 [] none 0)) w14 w' → Rd w' (some ⟨g14, 0, none⟩) 1 1 1 [.slice (some ⟨g1, 0, none⟩) 64 64] ∧ RdB w' (some ⟨g1, 0, none⟩) 64 64 (ipad key) := fun w' hc => by
     have q1 : Res.holds w' (Res.row 33 1 (.slice (some ⟨g14, 0, none⟩) 1 1) 1 [.slice (some ⟨g1, 0, none⟩) 64 64]) := h14'.keptPart (by simp) hc
     have q2 : Res.holds w' (Res.arr g1 207 (bv (ipad key))) := h14'.keptPart (by simp) hc
     exact ⟨ownsRow_rd q1, (St.ofBlk (o := .cells (bv (ipad key)).toArray 207) q2).rdA (i := 0) rfl (by simp [hip])⟩
   -- the inner pad is the first that is written
   refine ⟨by omega, by omega, _, _, _, _, r14, ?_⟩
   apply sha_Keyed_Write_vc
   have hNk := h14'.sub (List.sublist_append_left _ _)
   refine ⟨g, 0, hNk.ldL (i := 2) (o := 0) rfl (pA _) rfl rfl, (hWrite_spec g _ [] none 0 _ 1 1 _ [ipad key] hK (by simp) h14' ⟨fun w' hc => (hkp w' hc).1, fun w' hc => row2_one (hkp w' hc).2⟩ (by simp [hip]) (by decide)).mono ?_⟩
   rintro e w15 ⟨rfl, a15, c15, h15, _⟩
   have e1 : [] ++ [ipad key].flatten = ipad key ++ [] := by simp
   rw [e1, List.append_assoc] at h15
   exact ⟨rfl, rfl, gk, g, a15, c15, rfl, h15.sub (List.sublist_append_right _ _)⟩

theorem mac_spec (a : Option Addr) (n c : Nat) (key : List UInt8) (a1 : Option Addr) (n1 c1 : Nat) (vs : List Value) (ls : List (List UInt8)) (w : World) (hK : KTab w) (hr : RdB w a n c key) (hb : n ≤ 70368744170000) (hr1 : Rd w a1 n1 c1 1 vs) (h2 : Row2 w vs ls) (hb1 : ls.flatten.length ≤ 70368744170000) (hn1 : n1 ≤ 4611686018427387904) :
   Calls Tryz.prog 120 #[.slice a n c, .slice a1 n1 c1] w fun e w' => e = .returned (.agg (bv (macF key ls.flatten)).toArray) ∧ Chg [] w w' := by
 apply sha_Mac_vc
 obtain ⟨g1, w1, r1, h1⟩ := (St.start w).zeroA d32Z
 refine ⟨_, _, r1, (newMac_spec a n c key w1 (hK.keep0 h1.chg) (h1.rd1 hr) hb).mono ?_⟩
 rintro e w2 ⟨gk, g, a2, c2, rfl, hN2⟩
 have h2' : St w [] w2 ([.arr g1 22 (bv (List.replicate 32 0))] ++ kM gk g key [] a2 c2) := by
   refine St.callPart (N := []) (w := w1) (by simpa using h1) ?_
   simpa [fpsL] using hN2
 have hNh : St w [] w2 (hM g 271 (ipad key ++ []) a2 c2) := h2'.sub ((List.sublist_append_right [_, _] _))
 refine ⟨gk, 0, rfl, (kWrite_spec gk g key [] a2 c2 a1 n1 c1 vs ls hK (by simp) h2' (partsK_old hNh hr1 h2) (by simp only [List.length_nil]; omega) hn1).mono ?_⟩
 rintro e w3 ⟨rfl, a3, c3, h3, _⟩
 rw [List.nil_append] at h3
 refine ⟨rfl, (kSum_spec gk g key _ a3 c3 (hK.keep0 h3.chg) h3 hb1).mono ?_⟩
 rintro e w4 ⟨rfl, hc4⟩
 have h4 := h3.same hc4
 obtain ⟨w5, r5, h5⟩ := h4.stA (i := 0) (v := bv (macF key ls.flatten)) rfl (d32S _) (by simp) (by simp) (bv_one _)
 exact ⟨_, rfl, w5, r5, _, h5.ldVarA (i := 0) (l := bv (macF key ls.flatten)) rfl (d32A _) (d32S _) (by simp), rfl, h5.chg⟩

open Go Sx
set_option maxRecDepth 8000

theorem turn_spec (x n : Nat) (w : World) (hx : x < 4294967296) (hn : n < 32) (h0 : 0 < n) : Calls Tryz.prog 147 #[.int .u32 (x : Int), .int .u64 (n : Int)] w fun e w' => e = .returned (.int .u32 ((rotr x n : Nat) : Int)) ∧ w' = w := by
 apply amphoraref02_turn_vc
 have h2 : IntKind.wrap .u64 ((32 : Int) - (n : Int)) = ((32 - n : Nat) : Int) := by rw [wrap_u64]; omega
 rw [h2]
 refine ⟨by omega, by omega, ?_, rfl⟩
 rw [shl_val (show 32 - n ≤ 32 by omega), shr_val _ _ (by omega), or_val (shr_lt _ hx) (Nat.mod_lt _ (by decide)), Nat.or_comm]
 rfl

theorem filled_spec (a : Option Addr) (k c : Nat) (m : List UInt8) (w : World) (hr : RdB w a k c m) (hb : k ≤ 70368744177664) :
   Calls Tryz.prog 146 #[.slice a k c] w fun e w' => ∃ a' n' c', e = .returned (.slice a' n' c') ∧ FreshB w w' a' n' c' (m ++ padL m.length) := by
 have hl := hr.lenB
 subst hl
 obtain ⟨n, hn⟩ : ∃ n, m.length = n := ⟨_, rfl⟩
 rw [hn] at hr hb ⊢
 apply amphoraref02_filled_vc
 obtain ⟨g1, w1, r1, h1⟩ := (St.start w).lit bT [] (by simp) (by simp)
 obtain ⟨va, vc, w2, r2, h2⟩ := h1.appendB (i := 0) (xs := []) rfl (h1.rd1 hr) (by simp; omega)
 simp only [List.length_nil, Nat.zero_add, List.nil_append] at r2 h2
 obtain ⟨g3, w3, vb, vd, w4, r3, r4, h4, _⟩ := h2.push1 (i := 0) (n := n) (pre := m) rfl (by omega) 128 (by decide)
 refine ⟨_, _, _, _, r1, _, _, _, _, r2, _, _, _, _, r3, _, _, _, _, r4, ?_⟩
 have hzl := zerosN_lt n
 refine ⟨fun xa xn xc w' => ∃ z : Nat, z ≤ zerosN n ∧ xn = n + 1 + z ∧ St w [] w' [.row 5 1 (.slice xa xn xc) xn (bv (m ++ (0x80 :: List.replicate z 0)))], fun _ xn _ _ => n + 1 + zerosN n - xn, ⟨0, by omega, rfl, h4⟩, ?_⟩
 rintro xa xn xc w5 ⟨z, hz, rfl, h5⟩
 refine ⟨fun h => ?_, fun h => ?_⟩
 · rw [Int.tmod_eq_emod_of_nonneg (by omega)] at h
   have hne : (n + 1 + z) % 64 ≠ 56 := by simp at h; omega
   have hz' : z < zerosN n := by
     rcases Nat.lt_or_ge z (zerosN n) with h1 | h1
     · exact h1
     · have : z = zerosN n := by omega
       rw [this] at hne
       simp only [zerosN] at hne
       omega
   obtain ⟨g6, w6, vb, vd, w7, r6, r7, h7, _⟩ := h5.push1 (i := 0) (n := n + 1 + z) rfl (by omega) 0 (by decide)
   refine ⟨_, _, _, _, r6, _, _, _, _, r7, ⟨z + 1, by omega, by omega, ?_⟩, (by show n + 1 + zerosN n - (n + 1 + z + 1) < n + 1 + zerosN n - (n + 1 + z); omega)⟩
   have : m ++ (0x80 :: List.replicate z 0) ++ [UInt8.ofNat 0] = m ++ ((0x80 : UInt8) :: List.replicate (z + 1) 0) := by
     rw [List.replicate_succ']; simp
   rw [← this]
   exact h7
 · rw [Int.tmod_eq_emod_of_nonneg (by omega)] at h
   have he : (n + 1 + z) % 64 = 56 := by simp at h; omega
   have hz' : z = zerosN n := by
     simp only [zerosN] at hz ⊢
     omega
   subst hz'
   refine ⟨fun xa xn xc x w' => ∃ j : Nat, x = (j : Int) ∧ j ≤ 8 ∧ xn = n + 1 + zerosN n + j ∧ St w [] w' [.row 5 1 (.slice xa xn xc) xn (bv (m ++ (0x80 :: (List.replicate (zerosN n) 0 ++ (List.range j).map (lenB n)))))], fun _ _ _ x _ => 8 - x.toNat, ⟨0, rfl, by omega, rfl, by simpa using h5⟩, ?_⟩
   rintro ya yn yc y w8 ⟨j, rfl, hj, rfl, h8⟩
   refine ⟨fun h => ?_, fun h => ?_⟩
   · have hj' : j < 8 := by simp at h; omega
     have e1 : IntKind.wrap .u64 ((56 : Int) - IntKind.wrap .u64 (8 * IntKind.wrap .u64 (j : Int))) = ((56 - 8 * j : Nat) : Int) := by
       simp only [wrap_u64]; omega
     rw [e1, lenB_val n j hj']
     obtain ⟨g9, w9, vb, vd, w10, r9, r10, h10, _⟩ := h8.push1 (i := 0) (n := n + 1 + zerosN n + j) rfl (by omega) (lenB n j).toNat (lenB n j).toNat_lt
     refine ⟨by omega, _, _, _, _, r9, _, _, _, _, r10, ⟨j + 1, wrap_succ hj' (by omega), by omega, by omega, ?_⟩, mu_succ hj' (by omega)⟩
     have : m ++ (0x80 :: (List.replicate (zerosN n) 0 ++ (List.range j).map (lenB n))) ++ [UInt8.ofNat (lenB n j).toNat] = m ++ ((0x80 : UInt8) :: (List.replicate (zerosN n) 0 ++ (List.range (j + 1)).map (lenB n))) := by
       rw [List.range_succ, List.map_append]; simp
     rw [← this]
     exact h10
   · have hj' : j = 8 := by simp at h; omega
     subst hj'
     exact ⟨_, _, _, rfl, St.freshB (l := m ++ padL n) h8 (i := 0) rfl⟩

def p4 (l : List UInt8) (o : Nat) : Nat → Nat
 | 0 => 0
 | j + 1 => p4 l o j * 256 + (l.getD (o + j) 0).toNat
theorem p4_lt (l : List UInt8) (o : Nat) : ∀ j, p4 l o j < 256 ^ j
 | 0 => by simp [p4]
 | j + 1 => by
   have := p4_lt l o j
   have hb := (l.getD (o + j) 0).toNat_lt
   rw [p4, Nat.pow_succ]; omega
theorem p4_be4 (l : List UInt8) (o : Nat) : p4 l o 4 = be4 l o := by simp [p4, be4]

theorem schedK_tail (b : List UInt8) : ∀ (k i : Nat), k ≤ i → i < 64 → (schedK b k)[i]? = some 0
 | 0, i, _, h => by rw [schedK, List.getElem?_replicate, if_pos h]
 | k + 1, i, hk, h => by rw [schedK, List.getElem?_set_ne (by omega)]; exact schedK_tail b k i (by omega) h

def shF (v : List Nat) (j : Nat) : List Nat := v.take (j + 1) ++ (v.drop j).take (7 - j)

theorem shF_7 {v : List Nat} (h : v.length = 8) : shF v 7 = v := by
 match v, h with
 | [_, _, _, _, _, _, _, _], _ => rfl
theorem shF_len {v : List Nat} (h : v.length = 8) {j : Nat} (hj : j ≤ 7) : (shF v j).length = 8 := by simp [shF]; omega
theorem shF_step {v : List Nat} (h : v.length = 8) {j : Nat} (h0 : 0 < j) (hj : j ≤ 7) : (shF v j).getD (j - 1) 0 = v.getD (j - 1) 0 ∧ (shF v j).set j (v.getD (j - 1) 0) = shF v (j - 1) := by
 match v, h with
 | [_, _, _, _, _, _, _, _], _ =>
   rcases j with _ | _ | _ | _ | _ | _ | _ | _ | j
   · omega
   · exact ⟨rfl, rfl⟩
   · exact ⟨rfl, rfl⟩
   · exact ⟨rfl, rfl⟩
   · exact ⟨rfl, rfl⟩
   · exact ⟨rfl, rfl⟩
   · exact ⟨rfl, rfl⟩
   · exact ⟨rfl, rfl⟩
   · omega
theorem shF_end {v : List Nat} (h : v.length = 8) (x y : Nat) : (shF v 0).getD 4 0 = v.getD 3 0 ∧ ((shF v 0).set 4 x).set 0 y = [y, v.getD 0 0, v.getD 1 0, v.getD 2 0, x, v.getD 4 0, v.getD 5 0, v.getD 6 0] := by
 match v, h with
 | [_, _, _, _, _, _, _, _], _ => exact ⟨rfl, rfl⟩

theorem getD_dt (l : List UInt8) (o i : Nat) (h : i < 64) : ((l.drop o).take 64).getD i 0 = l.getD (o + i) 0 := by
 simp only [List.getD, List.getElem?_take, List.getElem?_drop, if_pos h]

theorem rsum_spec (a : Option Addr) (n c : Nat) (vs : List Value) (ls : List (List UInt8)) (w : World) (hr : Rd w a n c 1 vs) (h2 : Row2 w vs ls) (hb : ls.flatten.length ≤ 70368744177664) (hn : n ≤ 4611686018427387904) :
   Calls Tryz.prog 124 #[.slice a n c] w fun e w' => e = .returned (.agg (bv (shaF ls.flatten)).toArray) ∧ Chg [] w w' := by
 have hln : ls.length = n := by have := hr.len; have := h2.len; omega
 have sB : ∀ w, (sizeOf 5).run Tryz.prog w = .ok 1 w := fun w => Tryz.sizeOf5 w
 have ze : ∀ k : Nat, 0 + Int.toNat (k : Int) * 1 = k := fun k => by omega
 apply amphoraref02_Sum_vc
 obtain ⟨g2, w1, r1, h1⟩ := (St.start w).zeroA d32Z
 have hbk : (Instr.build 232 (((kv .u32 kTab).zipIdx 0).map fun p => (p.2, p.1)).toArray).run Tryz.prog w1 = .ok (.agg (kv .u32 kTab).toArray) w1 := by
   have := build_arr (P := Tryz.prog) (w := w1) (w64Z w1) Tryz.underlying232 (uS _) (kv .u32 kTab) (kv_one _ _) (by simp [kTab_len])
   rwa [List.drop_of_length_le (by simp [kTab_len]), List.append_nil] at this
 obtain ⟨g3, w2, r2, h2'⟩ := h1.zeroA w64Z
 obtain ⟨w3, r3, h3⟩ := h2'.stA (i := 1) (v := kv .u32 kTab) rfl (w64S _) (by simp) (by simp [kTab_len]) (kv_one _ _)
 refine ⟨_, _, r1, _, hbk, g3, w2, r2, w3, r3, ?_⟩
 have h3' : St w [] w3 ([.arr g2 22 (bv (List.replicate 32 0)), .arr g3 232 (kv .u32 kTab)] ++ [.row 5 1 (.slice none 0 0) 0 (bv [])]) := h3.addNil _ _
 refine ⟨fun xa xn xc x w' => ∃ i : Nat, x = (i : Int) ∧ i ≤ n ∧ xn = (ls.take i).flatten.length ∧ St w [] w' ([.arr g2 22 (bv (List.replicate 32 0)), .arr g3 232 (kv .u32 kTab)] ++ [.row 5 1 (.slice xa xn xc) xn (bv (ls.take i).flatten)]), fun _ _ _ x _ => n - x.toNat, ⟨0, rfl, by omega, by simp, by simpa using h3'⟩, ?_⟩
 rintro xa xn xc x w4 ⟨i, rfl, hi, rfl, h4⟩
 have hft := flat_take_le ls i
 refine ⟨fun h => ?_, fun h => ?_⟩
 · have hi' : i < n := by simp at h; omega
   obtain ⟨b, o, a', n', c', ha, hv, hrd, hld⟩ := ixS hr.cells h2 (i := i) (by omega)
   have hl' := hrd.lenB
   have hf1 := flat_take (ls := ls) (i := i) (by omega)
   have hf2 := flat_take_le ls (i + 1)
   have hf3 := congrArg List.length hf1
   rw [List.length_append, hl'] at hf3
   obtain ⟨va, vc, w5, r5, h5⟩ := h4.appendB (i := 2) rfl (h4.rd1 hrd) (by omega)
   refine ⟨b, o, ha, by omega, by omega, _, _, _, hld w4 (hr.cells.keep0 h4.chg), _, _, _, _, r5, ⟨i + 1, wrap_succ hi' hn, by omega, by omega, ?_⟩, mu_succ hi' hn⟩
   rw [hf1]; exact h5
 have hi' : i = n := by simp at h; omega
 have hta : ls.take i = ls := by rw [hi', ← hln, List.take_length]
 rw [hta] at h4 ⊢
 clear hi' hi hft h hta h3' h3 h2' h1 hbk
 obtain ⟨msg, hmsg⟩ : ∃ msg, ls.flatten = msg := ⟨_, rfl⟩
 rw [hmsg] at h4 hb ⊢
 refine (filled_spec _ _ _ msg w4 (h4.rd (i := 2) rfl) (by omega)).mono ?_
 rintro e w6 ⟨a6, n6, c6, rfl, hf6⟩
 have hn6 := hf6.2.1
 have h6 := hf6.add (h4.sub (List.sublist_append_left _ _))
 obtain ⟨L, hL⟩ : ∃ L, msg ++ padL msg.length = L := ⟨_, rfl⟩
 have hmod : n6 % 64 = 0 := by rw [← hn6, List.length_append]; exact padL_mod _
 have hLb : n6 ≤ 70368744177664 + 200 := by
   have := padL_len msg.length
   have := zerosN_lt msg.length
   rw [← hn6, List.length_append]; omega
 rw [hL] at h6 hn6
 have hsha : shaF msg = digL (blocksF (n6 / 64) h0L L) := by rw [shaF, hL, hOf, hn6]
 rw [hsha]
 clear hf6 hsha hL hmsg
 have hb0 : (Instr.build 233 (((kv .u32 h0L).zipIdx 0).map fun p => (p.2, p.1)).toArray).run Tryz.prog w6 = .ok (.agg (kv .u32 h0L).toArray) w6 := by
   have := build_arr (P := Tryz.prog) (w := w6) (w8Z w6) Tryz.underlying233 (uS _) (kv .u32 h0L) (kv_one _ _) (by simp [h0L])
   rwa [List.drop_of_length_le (by simp [h0L]), List.append_nil] at this
 obtain ⟨g6, w7, r7, h7⟩ := h6.zeroA w8Z
 obtain ⟨w8, r8, h8⟩ := h7.stA (i := 3) (v := kv .u32 h0L) rfl (w8S _) (by simp) (by simp [h0L]) (kv_one _ _)
 refine ⟨_, _, _, rfl, _, hb0, g6, w7, r7, w8, r8, ?_⟩
 obtain ⟨M0, hM0⟩ : ∃ M0 : List Res, M0 = [.arr g2 22 (bv (List.replicate 32 0)), .arr g3 232 (kv .u32 kTab), .row 5 1 (.slice a6 n6 c6) n6 (bv L)] := ⟨_, rfl⟩
 have h8' : St w [] w8 (M0 ++ [.arr g6 233 (kv .u32 h0L)]) := by rw [hM0]; exact h8
 clear h8 h7 h6 h4 r7 r8 hb0
 refine ⟨fun x w' => ∃ b : Nat, x = ((64 * b : Nat) : Int) ∧ 64 * b ≤ n6 ∧ St w [] w' (M0 ++ [.arr g6 233 (kv .u32 (blocksF b h0L L))]), fun x _ => n6 - x.toNat, ⟨0, rfl, by omega, h8'⟩, ?_⟩
 rintro x w9 ⟨b, rfl, hbn, h9⟩
 refine ⟨fun h => ?_, fun h => ?_⟩
 · have hbl : 64 * b + 64 ≤ n6 := by simp at h; omega
   clear h
   obtain ⟨H, hH⟩ : ∃ H, blocksF b h0L L = H := ⟨_, rfl⟩
   have hHl : H.length = 8 := by rw [← hH]; exact blocksF_len _ _ rfl
   have hHlt : Lt32 H := by rw [← hH]; exact blocksF_lt _ _ rfl h0L_lt
   obtain ⟨B, hB⟩ : ∃ B, (L.drop (64 * b)).take 64 = B := ⟨_, rfl⟩
   have hBg : ∀ i, i < 64 → B.getD i 0 = L.getD (64 * b + i) 0 := fun i hi => by rw [← hB]; exact getD_dt _ _ _ hi
   have hnext : blocksF (b + 1) h0L L = compress H B := by rw [blocksF_snoc, hH, hB]
   rw [hH] at h9
   have hz := build_arr (P := Tryz.prog) (w := w9) (w64Z w9) Tryz.underlying232 (uS _) [] (by simp) (by simp)
   simp only [List.nil_append, List.length_nil, List.drop_zero] at hz
   obtain ⟨g8, w10, r10, h10⟩ := h9.zeroA w64Z
   have i3 : ∀ (r s : Res), (M0 ++ [r] ++ [s])[3]? = some r := fun r s => by rw [hM0]; rfl
   have i4 : ∀ (r s : Res), (M0 ++ [r] ++ [s])[4]? = some s := fun r s => by rw [hM0]; rfl
   have s4 : ∀ (r s s' : Res), (M0 ++ [r] ++ [s]).set 4 s' = M0 ++ [r] ++ [s'] := fun r s s' => by rw [hM0]; rfl
   have i2 : ∀ (N : List Res), (M0 ++ N)[2]? = some (.row 5 1 (.slice a6 n6 c6) n6 (bv L)) := fun N => by rw [hM0]; rfl
   have i1 : ∀ (N : List Res), (M0 ++ N)[1]? = some (.arr g3 232 (kv .u32 kTab)) := fun N => by rw [hM0]; rfl
   obtain ⟨w11, r11, h11⟩ := h10.stA (v := kv .u32 (List.replicate 64 0)) (i4 _ _) (w64S _) (by simp) (by simp) (kv_one _ _)
   rw [s4] at h11
   refine ⟨_, hz, g8, w10, r10, w11, r11, fun x w' => ∃ t : Nat, x = (t : Int) ∧ t ≤ 64 ∧ St w [] w' (M0 ++ [.arr g6 233 (kv .u32 H)] ++ [.arr g8 232 (kv .u32 (schedK B t))]), fun x _ => 64 - x.toNat, ⟨0, rfl, by omega, h11⟩, ?_⟩
   rintro x w12 ⟨t, rfl, ht, h12⟩
   refine ⟨fun h => ?_, fun h => ?_⟩
   · have ht' : t < 64 := by simp at h; omega
     refine ⟨fun h => ?_, fun h => ?_⟩
     · have ht16 : t < 16 := by simp at h; omega
       have hself : (schedK B t).set t (p4 B (4 * t) 0) = schedK B t := by
         apply List.ext_getElem?
         intro q
         by_cases hq : t = q
         · subst hq
           rw [List.getElem?_set_self (by simp; omega), schedK_tail B t t (Nat.le_refl _) ht']; rfl
         · rw [List.getElem?_set_ne hq]
       refine ⟨fun x w' => ∃ j : Nat, x = (j : Int) ∧ j ≤ 4 ∧ St w [] w' (M0 ++ [.arr g6 233 (kv .u32 H)] ++ [.arr g8 232 (kv .u32 ((schedK B t).set t (p4 B (4 * t) j)))]), fun x _ => 4 - x.toNat, ⟨0, rfl, by omega, by rw [hself]; exact h12⟩, ?_⟩
       rintro x w13 ⟨j, rfl, hj, h13⟩
       refine ⟨fun h => ?_, fun h => ?_⟩
       · have hj' : j < 4 := by simp at h; omega
         have e1 : IntKind.wrap .i64 (IntKind.wrap .i64 (((64 * b : Nat) : Int) + IntKind.wrap .i64 (4 * (t : Int))) + (j : Int)) = ((64 * b + (4 * t + j) : Nat) : Int) := by
           rw [show IntKind.wrap .i64 (4 * (t : Int)) = ((4 * t : Nat) : Int) by rw [wrap_i64 (by omega) (by omega)]; omega, show IntKind.wrap .i64 (((64 * b : Nat) : Int) + ((4 * t : Nat) : Int)) = ((64 * b + 4 * t : Nat) : Int) by rw [wrap_i64 (by omega) (by omega)]; omega, wrap_i64 (by omega) (by omega)]; omega
         rw [e1]
         have hc13 : Cells w13 a6 (bv L) := h13.cells (by rw [List.append_assoc]; exact i2 _)
         have hpl := p4_lt B (4 * t) j
         have hp24 : p4 B (4 * t) j < 16777216 := by
           have : 256 ^ j ≤ 256 ^ 3 := Nat.pow_le_pow_right (by decide) (by omega)
           omega
         have hgt : ((schedK B t).set t (p4 B (4 * t) j)).getD t 0 = p4 B (4 * t) j := getD_set_self (by simp; omega)
         have hbyte := (L.getD (64 * b + (4 * t + j)) 0).toNat_lt
         have hval : bor .u32 (shlI .u32 ((p4 B (4 * t) j : Nat) : Int) 8) (IntKind.wrap .u32 ((L.getD (64 * b + (4 * t + j)) 0).toNat : Int)) = ((p4 B (4 * t) (j + 1) : Nat) : Int) := by
           rw [show (8 : Int) = ((8 : Nat) : Int) from rfl, shl_val (by decide), Nat.mod_eq_of_lt (by omega), wrap_u32_nat (by omega), or_val (by omega) (by omega), or_sum _ _ 8 (by omega), p4, hBg _ (by omega)]
         refine ⟨fun w' => St w [] w' (M0 ++ [.arr g6 233 (kv .u32 H)] ++ [.arr g8 232 (kv .u32 ((schedK B t).set t (p4 B (4 * t) j)))]), h13.drew, by omega, by omega, ix0 hc13 hn6 (64 * b + (4 * t + j)) (by omega) fun b1 o1 ha1 q1 => ?_⟩
         have h13d := h13.drew
         obtain ⟨w14, r14, h14⟩ := h13d.stK (n := p4 B (4 * t) (j + 1)) (i4 _ _) (uS _) (ze t) (by simp; omega)
         rw [s4, List.set_set] at h14
         refine ⟨b1, o1, ha1, by omega, by omega, _, fun w' h => h.ldK (i4 _ _) (uA _) (ze t) (by simp; omega), _, fun w' h => q1 w' (h.cells (by rw [List.append_assoc]; exact i2 _)), by omega, by omega, w14, ?_, ⟨j + 1, wrap_succ hj' (by omega), by omega, h14⟩, mu_succ hj' (by omega)⟩
         rw [hgt, hval]; exact r14
       · have hj' : j = 4 := by simp at h; omega
         subst hj'
         refine ⟨⟨t + 1, wrap_succ ht' (by omega), by omega, ?_⟩, mu_succ ht' (by omega)⟩
         have : schedK B (t + 1) = (schedK B t).set t (p4 B (4 * t) 4) := by rw [schedK, if_pos ht16, p4_be4]
         rw [this]; exact h13
     · have ht16 : 16 ≤ t := by simp at h; omega
       have e : ∀ j : Nat, j ≤ 16 → IntKind.wrap .i64 ((t : Int) - (j : Int)) = ((t - j : Nat) : Int) := fun j hj => by rw [wrap_i64 (by omega) (by omega)]; omega
       have e15 : IntKind.wrap .i64 ((t : Int) - 15) = ((t - 15 : Nat) : Int) := e 15 (by omega)
       have e2 : IntKind.wrap .i64 ((t : Int) - 2) = ((t - 2 : Nat) : Int) := e 2 (by omega)
       have e7 : IntKind.wrap .i64 ((t : Int) - 7) = ((t - 7 : Nat) : Int) := e 7 (by omega)
       have e16 : IntKind.wrap .i64 ((t : Int) - 16) = ((t - 16 : Nat) : Int) := e 16 (by omega)
       rw [e15, e2, e7, e16]
       obtain ⟨W, hW⟩ : ∃ W, schedK B t = W := ⟨_, rfl⟩
       have hWl : W.length = 64 := by rw [← hW]; exact schedK_len B t
       have hlt : Lt32 W := by rw [← hW]; exact schedK_lt B t
       have hnx : schedK B (t + 1) = W.set t (nextW W t) := by rw [schedK, if_neg (by omega), hW]
       rw [hW] at h12
       obtain ⟨Q, hQ⟩ : ∃ Q : World → Prop, Q = fun w' => St w [] w' (M0 ++ [.arr g6 233 (kv .u32 H)] ++ [.arr g8 232 (kv .u32 W)]) := ⟨_, rfl⟩
       have hQ12 : Q w12 := by rw [hQ]; exact h12
       have hd : ∀ w', Q w' → Q w'.drew := fun w' h => by rw [hQ] at h ⊢; exact h.drew
       have ld : ∀ j : Nat, j < 64 → ∀ w', Q w' → (Instr.loadAt 209 (.pointer (some ⟨g8, 0 + Int.toNat (j : Int) * 1, none⟩))).run Tryz.prog w' = .ok (.int .u32 ((W.getD j 0 : Nat) : Int)) w' := fun j hj w' h => by
         rw [hQ] at h; exact h.ldK (i4 _ _) (uA _) (ze j) (by omega)
       refine ⟨by omega, by omega, _, ld _ (by omega) _ hQ12, by omega, by omega, _, ld _ (by omega) _ hQ12, Q, hd _ hQ12, by omega, by omega, by omega, by omega, _, ld _ (by omega), _, ld _ (by omega), (turn_spec _ 17 _ (hlt _) (by decide) (by decide)).mono ?_⟩
       rintro e w15 ⟨rfl, rfl⟩
       refine ⟨_, rfl, Q, fun _ h => h, hd _ hQ12, (turn_spec _ 19 _ (hlt _) (by decide) (by decide)).mono ?_⟩
       rintro e w16 ⟨rfl, rfl⟩
       refine ⟨_, rfl, Q, fun _ h => h, hd _ hQ12, (turn_spec _ 7 _ (hlt _) (by decide) (by decide)).mono ?_⟩
       rintro e w17 ⟨rfl, rfl⟩
       refine ⟨_, rfl, Q, fun _ h => h, hd _ hQ12, (turn_spec _ 18 _ (hlt _) (by decide) (by decide)).mono ?_⟩
       rintro e w18 ⟨rfl, rfl⟩
       refine ⟨_, rfl, Q, fun _ h => h, hd _ hQ12, by omega, by omega, ?_⟩
       rw [sg0_val (hlt _), sg1_val (hlt _), add_val, add_val, add_val]
       have h9 := hd _ hQ12
       rw [hQ] at h9
       obtain ⟨w19, r19, h19⟩ := h9.stK (n := nextW W t) (i4 _ _) (uS _) (ze t) (by omega)
       rw [s4] at h19
       exact ⟨w19, r19, ⟨t + 1, wrap_succ ht' (by omega), by omega, by rw [hnx]; exact h19⟩, mu_succ ht' (by omega)⟩
   · have ht' : t = 64 := by simp at h; omega
     obtain ⟨W, hW⟩ : ∃ W, schedK B 64 = W := ⟨_, rfl⟩
     have hWt : schedK B t = W := by rw [ht', hW]
     have hWl : W.length = 64 := by rw [← hW]; exact schedK_len B 64
     have hWlt : Lt32 W := by rw [← hW]; exact schedK_lt B 64
     obtain ⟨V, hV⟩ : ∃ V, rounds W H 64 = V := ⟨_, rfl⟩
     have hcomp : compress H B = List.zipWith add32 H V := by rw [compress, hW, hV]
     rw [hWt] at h12
     clear hWt ht' ht h hW
     have i5 : ∀ (r s u : Res), (M0 ++ [r] ++ [s] ++ [u])[5]? = some u := fun r s u => by rw [hM0]; rfl
     have i4' : ∀ (r s u : Res), (M0 ++ [r] ++ [s] ++ [u])[4]? = some s := fun r s u => by rw [hM0]; rfl
     have i3' : ∀ (r s u : Res), (M0 ++ [r] ++ [s] ++ [u])[3]? = some r := fun r s u => by rw [hM0]; rfl
     have i1' : ∀ (r s u : Res), (M0 ++ [r] ++ [s] ++ [u])[1]? = some (.arr g3 232 (kv .u32 kTab)) := fun r s u => by rw [hM0]; rfl
     have s5 : ∀ (r s u u' : Res), (M0 ++ [r] ++ [s] ++ [u]).set 5 u' = M0 ++ [r] ++ [s] ++ [u'] := fun r s u u' => by rw [hM0]; rfl
     have s3' : ∀ (r r' s u : Res), (M0 ++ [r] ++ [s] ++ [u]).set 3 r' = M0 ++ [r'] ++ [s] ++ [u] := fun r r' s u => by rw [hM0]; rfl
     obtain ⟨g13, w20, r20, h20⟩ := h12.zeroA w8Z
     obtain ⟨w21, r21, h21⟩ := h20.stA (v := kv .u32 H) (i5 _ _ _) (w8S _) (by simp) (by simp [hHl]) (kv_one _ _)
     rw [s5] at h21
     refine ⟨_, h12.ldA (i3 _ _) (w8A _) (w8S _) (by simp [hHl]), g13, w20, r20, w21, r21, fun x w' => ∃ t : Nat, x = (t : Int) ∧ t ≤ 64 ∧ ∃ v : List Nat, rounds W H t = v ∧ St w [] w' (M0 ++ [.arr g6 233 (kv .u32 H)] ++ [.arr g8 232 (kv .u32 W)] ++ [.arr g13 233 (kv .u32 v)]), fun x _ => 64 - x.toNat, ⟨0, rfl, by omega, H, rfl, h21⟩, ?_⟩
     rintro x w22 ⟨t, rfl, ht, v, hv, h22⟩
     have hvlt : Lt32 v := by rw [← hv]; exact rounds_lt W hHlt t
     have hvl : v.length = 8 := by rw [← hv]; exact rounds_len W hHl t
     refine ⟨fun h => ?_, fun h => ?_⟩
     · have ht' : t < 64 := by simp at h; omega
       obtain ⟨Q, hQ⟩ : ∃ Q : World → Prop, Q = fun w' => St w [] w' (M0 ++ [.arr g6 233 (kv .u32 H)] ++ [.arr g8 232 (kv .u32 W)] ++ [.arr g13 233 (kv .u32 v)]) := ⟨_, rfl⟩
       have hQ22 : Q w22 := by rw [hQ]; exact h22
       have hd : ∀ w', Q w' → Q w'.drew := fun w' h => by rw [hQ] at h ⊢; exact h.drew
       have ldv : ∀ j : Nat, j < 8 → ∀ w', Q w' → (Instr.loadAt 209 (.pointer (some ⟨g13, j, none⟩))).run Tryz.prog w' = .ok (.int .u32 ((v.getD j 0 : Nat) : Int)) w' := fun j hj w' h => by
         rw [hQ] at h; exact h.ldK (i5 _ _ _) (uA _) rfl (by omega)
       have ldw : ∀ w', Q w' → (Instr.loadAt 209 (.pointer (some ⟨g8, 0 + Int.toNat (t : Int) * 1, none⟩))).run Tryz.prog w' = .ok (.int .u32 ((W.getD t 0 : Nat) : Int)) w' := fun w' h => by
         rw [hQ] at h; exact h.ldK (i4' _ _ _) (uA _) (ze t) (by omega)
       have ldk : ∀ w', Q w' → (Instr.loadAt 209 (.pointer (some ⟨g3, 0 + Int.toNat (t : Int) * 1, none⟩))).run Tryz.prog w' = .ok (.int .u32 ((kTab.getD t 0 : Nat) : Int)) w' := fun w' h => by
         rw [hQ] at h; exact h.ldK (i1' _ _ _) (uA _) (ze t) (by rw [kTab_len]; omega)
       refine ⟨_, ldv 4 (by decide) _ hQ22, _, ldv 5 (by decide) _ hQ22, _, ldv 4 (by decide) _ hQ22, _, ldv 6 (by decide) _ hQ22, _, ldv 0 (by decide) _ hQ22, _, ldv 1 (by decide) _ hQ22, _, ldv 0 (by decide) _ hQ22, _, ldv 2 (by decide) _ hQ22, _, ldv 1 (by decide) _ hQ22, _, ldv 2 (by decide) _ hQ22,
         Q, hd _ hQ22, by omega, by omega, by omega, by omega, _, ldv 7 (by decide), _, ldv 4 (by decide), _, ldv 4 (by decide), _, ldv 4 (by decide), _, ldk, _, ldw, (turn_spec _ 6 _ (hvlt _) (by decide) (by decide)).mono ?_⟩
       rintro e w23 ⟨rfl, rfl⟩
       refine ⟨_, rfl, Q, fun _ h => h, hd _ hQ22, (turn_spec _ 11 _ (hvlt _) (by decide) (by decide)).mono ?_⟩
       rintro e w24 ⟨rfl, rfl⟩
       refine ⟨_, rfl, Q, fun _ h => h, hd _ hQ22, (turn_spec _ 25 _ (hvlt _) (by decide) (by decide)).mono ?_⟩
       rintro e w25 ⟨rfl, rfl⟩
       refine ⟨_, rfl, Q, fun _ h => h, hd _ hQ22, Q, hd _ (hd _ hQ22), _, ldv 0 (by decide), _, ldv 0 (by decide), _, ldv 0 (by decide), (turn_spec _ 2 _ (hvlt _) (by decide) (by decide)).mono ?_⟩
       rintro e w26 ⟨rfl, rfl⟩
       refine ⟨_, rfl, Q, fun _ h => h, hd _ (hd _ hQ22), (turn_spec _ 13 _ (hvlt _) (by decide) (by decide)).mono ?_⟩
       rintro e w27 ⟨rfl, rfl⟩
       refine ⟨_, rfl, Q, fun _ h => h, hd _ (hd _ hQ22), (turn_spec _ 22 _ (hvlt _) (by decide) (by decide)).mono ?_⟩
       rintro e w28 ⟨rfl, rfl⟩
       have h28 := hd _ (hd _ hQ22)
       rw [hQ] at h28
       refine ⟨_, rfl, Q, fun _ h => h, hd _ (hd _ hQ22), fun x w' => ∃ j : Nat, x = (j : Int) ∧ j ≤ 7 ∧ St w [] w' (M0 ++ [.arr g6 233 (kv .u32 H)] ++ [.arr g8 232 (kv .u32 W)] ++ [.arr g13 233 (kv .u32 (shF v j))]), fun x _ => x.toNat, ⟨7, rfl, by omega, by rw [shF_7 hvl]; exact h28⟩, ?_⟩
       rintro x w29 ⟨j, rfl, hj, h29⟩
       refine ⟨fun h => ?_, fun h => ?_⟩
       · have hj0 : 0 < j := by simp at h; omega
         have e1 : IntKind.wrap .i64 ((j : Int) - 1) = ((j - 1 : Nat) : Int) := by rw [wrap_i64 (by omega) (by omega)]; omega
         rw [e1]
         obtain ⟨f1, f2⟩ := shF_step hvl hj0 hj
         obtain ⟨w30, r30, h30⟩ := h29.stK (n := v.getD (j - 1) 0) (i5 _ _ _) (uS _) (ze j) (by rw [shF_len hvl hj]; omega)
         rw [s5, f2] at h30
         refine ⟨by omega, by omega, _, h29.ldK (i5 _ _ _) (uA _) (ze (j - 1)) (by rw [shF_len hvl hj]; omega), by omega, by omega, w30, ?_, ⟨j - 1, rfl, by omega, h30⟩, ?_⟩
         · rw [f1]; exact r30
         · show ((j - 1 : Nat) : Int).toNat < (j : Int).toNat
           omega
       · have hj0 : j = 0 := by simp at h; omega
         subst hj0
         obtain ⟨f1, _⟩ := shF_end hvl 0 0
         rw [bg1_val (hvlt _), bg0_val (hvlt _), ch_val (hvlt _) (hvlt _) (hvlt _), maj_val (hvlt _) (hvlt _) (hvlt _)]
         simp only [add_val]
         refine ⟨_, h29.ldK (i5 _ _ _) (uA _) (rfl : 4 = 4) (by rw [shF_len hvl (by omega)]; omega), ?_⟩
         rw [f1]
         simp only [add_val]
         obtain ⟨w31, r31, h31⟩ := h29.stK (n := add32 (v.getD 3 0) (add32 (add32 (add32 (add32 (v.getD 7 0) (bg1 (v.getD 4 0))) (chF (v.getD 4 0) (v.getD 5 0) (v.getD 6 0))) (kTab.getD t 0)) (W.getD t 0))) (i5 _ _ _) (uS _) (rfl : 4 = 4) (by rw [shF_len hvl (by omega)]; omega)
         rw [s5] at h31
         obtain ⟨w32, r32, h32⟩ := h31.stK (n := add32 (add32 (add32 (add32 (add32 (v.getD 7 0) (bg1 (v.getD 4 0))) (chF (v.getD 4 0) (v.getD 5 0) (v.getD 6 0))) (kTab.getD t 0)) (W.getD t 0)) (add32 (bg0 (v.getD 0 0)) (majF (v.getD 0 0) (v.getD 1 0) (v.getD 2 0)))) (i5 _ _ _) (uS _) (rfl : 0 = 0) (by rw [List.length_set, shF_len hvl (by omega)]; omega)
         rw [s5, (shF_end hvl _ _).2] at h32
         exact ⟨w31, r31, w32, r32, ⟨t + 1, wrap_succ ht' (by omega), by omega, _, by rw [rounds, hv]; rfl, h32⟩, mu_succ ht' (by omega)⟩
     · have ht' : t = 64 := by simp at h; omega
       have hvV : v = V := by rw [← hv, ht', hV]
       obtain ⟨Z, hZ⟩ : ∃ Z, List.zipWith add32 H v = Z := ⟨_, rfl⟩
       have hZl : Z.length = 8 := by rw [← hZ]; exact zip_len hHl hvl
       have hZg : ∀ j, j < 8 → Z[j]? = some (add32 (H.getD j 0) (v.getD j 0)) := fun j hj => by rw [← hZ]; exact zip_get hHl hvl hj
       have hcZ : compress H B = Z := by rw [hcomp, ← hvV, hZ]
       clear hvV ht' ht h hv hV hcomp
       refine ⟨fun x w' => ∃ j : Nat, x = (j : Int) ∧ j ≤ 8 ∧ St w [] w' (M0 ++ [.arr g6 233 (kv .u32 (mixG Z H j))] ++ [.arr g8 232 (kv .u32 W)] ++ [.arr g13 233 (kv .u32 v)]), fun x _ => 8 - x.toNat, ⟨0, rfl, by omega, by rw [mixG_zero]; exact h22⟩, ?_⟩
       rintro x w33 ⟨j, rfl, hj, h33⟩
       have hml : (mixG Z H j).length = 8 := by rw [mixG_len (by omega) (by omega)]; exact hHl
       refine ⟨fun h => ?_, fun h => ?_⟩
       · have hj' : j < 8 := by simp at h; omega
         have hgj : (mixG Z H j).getD j 0 = H.getD j 0 := by simp only [List.getD, mixG_get (show Z.length = H.length by omega) (show j < H.length by omega)]
         obtain ⟨w34, r34, h34⟩ := h33.drew.stK (n := add32 (H.getD j 0) (v.getD j 0)) (i3' _ _ _) (uS _) (ze j) (by omega)
         rw [s3', mixG_set (by omega) (hZg j hj')] at h34
         refine ⟨fun w' => St w [] w' (M0 ++ [.arr g6 233 (kv .u32 (mixG Z H j))] ++ [.arr g8 232 (kv .u32 W)] ++ [.arr g13 233 (kv .u32 v)]), h33.drew, by omega, by omega, by omega, by omega, _, fun w' h => h.ldK (i3' _ _ _) (uA _) (ze j) (by omega), _, fun w' h => h.ldK (i5 _ _ _) (uA _) (ze j) (by omega), by omega, by omega, w34, ?_, ⟨j + 1, wrap_succ hj' (by omega), by omega, h34⟩, mu_succ hj' (by omega)⟩
         rw [hgj, add_val]; exact r34
       · have hj' : j = 8 := by simp at h; omega
         subst hj'
         have hall : mixG Z H 8 = Z := by have := mixG_all (x := Z) (l := H) (by omega); rwa [hHl] at this
         rw [hall] at h33
         have h33' := St.pop (St.pop h33)
         have ew : IntKind.wrap .i64 (((64 * b : Nat) : Int) + 64) = ((64 * (b + 1) : Nat) : Int) := by rw [wrap_i64 (by omega) (by omega)]; omega
         rw [ew]
         refine ⟨⟨b + 1, rfl, by omega, ?_⟩, ?_⟩
         · rw [hnext, hcZ]; exact h33'
         · show n6 - ((64 * (b + 1) : Nat) : Int).toNat < n6 - ((64 * b : Nat) : Int).toNat
           omega
 · have hbe : 64 * b = n6 := by simp at h; omega
   have hbd : n6 / 64 = b := by omega
   rw [hbd]
   obtain ⟨H, hH⟩ : ∃ H, blocksF b h0L L = H := ⟨_, rfl⟩
   have hHl : H.length = 8 := by rw [← hH]; exact blocksF_len _ _ rfl
   rw [hH] at h9 ⊢
   clear hH hbd hbe h
   have hz := build_arr (P := Tryz.prog) (w := w9) (d32Z w9) Tryz.underlying22 (sB _) [] (by simp) (by simp)
   simp only [List.nil_append, List.length_nil, List.drop_zero] at hz
   obtain ⟨g21, w10, r10, h10⟩ := h9.zeroA d32Z
   have i3 : ∀ (r s : Res), (M0 ++ [r] ++ [s])[3]? = some r := fun r s => by rw [hM0]; rfl
   have i4 : ∀ (r s : Res), (M0 ++ [r] ++ [s])[4]? = some s := fun r s => by rw [hM0]; rfl
   have i0 : ∀ (r s : Res), (M0 ++ [r] ++ [s])[0]? = some (.arr g2 22 (bv (List.replicate 32 0))) := fun r s => by rw [hM0]; rfl
   have s4 : ∀ (r s s' : Res), (M0 ++ [r] ++ [s]).set 4 s' = M0 ++ [r] ++ [s'] := fun r s s' => by rw [hM0]; rfl
   have hdl : (digL H).length = 32 := digL_len H
   obtain ⟨w11, r11, h11⟩ := h10.stA (v := bv (List.replicate 32 0)) (i4 _ _) (d32S _) (by simp) (by simp) (bv_one _)
   rw [s4] at h11
   refine ⟨_, hz, g21, w10, r10, w11, r11, fun x w' => ∃ i : Nat, x = (i : Int) ∧ i ≤ 32 ∧ St w [] w' (M0 ++ [.arr g6 233 (kv .u32 H)] ++ [.arr g21 22 (bv (upTo (digL H) i))]), fun x _ => 32 - x.toNat, ⟨0, rfl, by omega, by rw [upTo_zero, hdl]; exact h11⟩, ?_⟩
   rintro x w12 ⟨i, rfl, hi, h12⟩
   refine ⟨fun h => ?_, fun h => ?_⟩
   · have hi' : i < 32 := by simp at h; omega
     have e1 : IntKind.wrap .i64 (Int.tdiv (i : Int) 4) = ((i / 4 : Nat) : Int) := by rw [Int.tdiv_eq_ediv_of_nonneg (by omega), wrap_i64 (by omega) (by omega)]; omega
     have e2 : IntKind.wrap .u64 ((24 : Int) - IntKind.wrap .u64 (8 * IntKind.wrap .u64 (Int.tmod (i : Int) 4))) = ((24 - 8 * (i % 4) : Nat) : Int) := by
       rw [Int.tmod_eq_emod_of_nonneg (by omega)]
       simp only [wrap_u64]
       omega
     rw [e1, e2]
     have hval := digB_val H (i / 4) (i % 4) (by omega)
     rw [show 4 * (i / 4) + i % 4 = i by omega] at hval
     obtain ⟨w13, r13, h13⟩ := h12.stB (b := digB H i) (i4 _ _) (sB _) (ze i) (by rw [upTo_len (by omega)]; omega)
     rw [s4, upTo_set (digL_get H hi')] at h13
     refine ⟨by omega, by omega, _, h12.ldK (i3 _ _) (uA _) (ze (i / 4)) (by omega), by omega, by omega, by omega, w13, ?_, ⟨i + 1, wrap_succ hi' (by omega), by omega, h13⟩, mu_succ hi' (by omega)⟩
     rw [hval]; exact r13
   · have hi' : i = (digL H).length := by simp at h; omega
     rw [hi', upTo_all] at h12
     obtain ⟨w13, r13, h13⟩ := h12.stA (i := 0) (v := bv (digL H)) (i0 _ _) (d32S _) (by simp) (by simp [hdl]) (bv_one _)
     have i0' : ((M0 ++ [Res.arr g6 233 (kv .u32 H)] ++ [Res.arr g21 22 (bv (digL H))]).set 0 (.arr g2 22 (bv (digL H))))[0]? = some (.arr g2 22 (bv (digL H))) := by rw [hM0]; rfl
     exact ⟨_, h12.ldA (i4 _ _) (d32A _) (d32S _) (by simp [hdl]), w13, r13, _, h13.ldVarA i0' (d32A _) (d32S _) (by simp [hdl]), rfl, h13.chg⟩

open Go Sx
set_option maxRecDepth 8000

theorem bv_zeros (n : Nat) : bv (List.replicate n 0) = List.replicate n (.int .u8 0) := by simp [bv]

theorem rmac_spec (a : Option Addr) (n c : Nat) (key : List UInt8) (a1 : Option Addr) (n1 c1 : Nat) (vs : List Value) (ls : List (List UInt8)) (w : World) (hr : RdB w a n c key) (hb : n ≤ 70368744170000) (hr1 : Rd w a1 n1 c1 1 vs) (h2 : Row2 w vs ls) (hb1 : ls.flatten.length ≤ 70368744170000) (hn1 : n1 ≤ 4611686018427387904) :
   Calls Tryz.prog 101 #[.slice a n c, .slice a1 n1 c1] w fun e w' => e = .returned (.agg (bv (macF key ls.flatten)).toArray) ∧ Chg [] w w' := by
 have hl := hr.lenB
 have hln : ls.length = n1 := by have := hr1.len; have := h2.len; omega
 apply amphoraref02_Mac_vc
 obtain ⟨g4, w1, r1, h1⟩ := (St.start w).zeroA d32Z
 refine ⟨_, _, r1, fun xa xn xc w' => ∃ k : List UInt8, RdB w' xa xn xc k ∧ k.length ≤ 64 ∧ macK key = k ++ List.replicate (64 - k.length) 0 ∧ St w [] w' [.arr g4 22 (bv (List.replicate 32 0))], ⟨fun h => ?_, fun h => ?_⟩, ?_⟩
 · have hn : 64 < key.length := by simp at h; omega
   obtain ⟨g2, w2, r2, h2'⟩ := h1.lit bbT [.slice a n c] (by simp [Value.oneCell']) (by simp)
   refine ⟨_, _, _, _, r2, (rsum_spec _ 1 1 _ [key] w2 (h2'.rd (i := 1) rfl) (row2_one (h2'.rd1 hr)) (by simp; omega) (by decide)).mono ?_⟩
   rintro e w3 ⟨rfl, hc3⟩
   have hk1 : shaF [key].flatten = shaF key := by simp
   rw [hk1]
   have h3 := h2'.same hc3
   obtain ⟨g5, w4, r4, h4⟩ := h3.zeroA d32Z
   obtain ⟨w5, r5, h5⟩ := h4.stA (i := 2) (v := bv (shaF key)) rfl (d32S _) (by simp) (by simp) (bv_one _)
   refine ⟨_, rfl, g5, w4, r4, w5, r5, by omega, by omega, shaF key, h5.rdA (i := 2) rfl (by simp), by simp, ?_, h5.sub (List.Sublist.cons_cons _ (List.nil_sublist _))⟩
   simp only [macK, if_pos hn]
 · have hn : ¬ 64 < key.length := by simp at h; omega
   exact ⟨key, h1.rd1 hr, by omega, by simp only [macK, if_neg hn], h1⟩
 rintro xa xn xc w6 ⟨k, hrk, hk64, hmk, h6⟩
 have hkl := hrk.lenB
 obtain ⟨K, hKk⟩ : ∃ K, macK key = K := ⟨_, rfl⟩
 have hKl : K.length = 64 := by rw [← hKk]; exact macK_len key
 have hr16 := hr1.keep0 h6.chg
 have h26 := h2.keep0 h6.chg
 obtain ⟨gi, w7, r7, h7⟩ := (St.start w6).mkN (kl := .i64) (kc := .i64) (c := 64) bT rfl (by omega) (by omega) (by omega)
 obtain ⟨go, w8, r8, h8⟩ := h7.mkN (kl := .i64) (kc := .i64) (c := 64) bT rfl (by omega) (by omega) (by omega)
 have h8' : St w6 [] w8 [.row 5 1 (.slice (some ⟨gi, 0, none⟩) 64 64) 64 (bv (mixG (ipad key) (List.replicate 64 0) 0)), .row 5 1 (.slice (some ⟨go, 0, none⟩) 64 64) 64 (bv (mixG (opad key) (List.replicate 64 0) 0))] := by
   rw [mixG_zero, mixG_zero, bv_zeros]; exact h8
 have hip := ipad_len key
 have hop := opad_len key
 refine ⟨_, _, _, _, r7, _, _, _, _, r8, fun x w' => ∃ i : Nat, x = (i : Int) ∧ i ≤ 64 ∧ St w6 [] w' [.row 5 1 (.slice (some ⟨gi, 0, none⟩) 64 64) 64 (bv (mixG (ipad key) (List.replicate 64 0) i)), .row 5 1 (.slice (some ⟨go, 0, none⟩) 64 64) 64 (bv (mixG (opad key) (List.replicate 64 0) i))], fun x _ => 64 - x.toNat,
   ⟨0, rfl, by omega, h8'⟩, ?_⟩
 rintro x w9 ⟨i, rfl, hi, h9⟩
 refine ⟨fun h => ?_, fun h => ?_⟩
 · have hi' : i < 64 := by simp at h; omega
   have hKi : K.getD i 0 = if i < k.length then k.getD i 0 else 0 := by
     rw [← hKk, hmk]
     simp only [List.getD, List.getElem?_append]
     split
     · rfl
     · rw [List.getElem?_replicate]; split <;> rfl
   refine ⟨fun x w' => x = ((K.getD i 0).toNat : Int) ∧ w' = w9, ⟨fun h => ?_, fun h => ?_⟩, ?_⟩
   · have hik : i < xn := by simp at h; omega
     refine ix0 (hrk.keep0 h9.chg).cells hkl i hik fun b o ha q => ⟨b, o, ha, by omega, by omega, _, q w9 (hrk.keep0 h9.chg).cells, ?_, rfl⟩
     rw [hKi, if_pos (by omega)]
   · have hik : ¬ i < xn := by simp at h; omega
     refine ⟨?_, rfl⟩
     rw [hKi, if_neg (by omega)]; rfl
   rintro y w10 ⟨rfl, rfl⟩
   have hb5 : (opad key)[i]? = some (K.getD i 0 ^^^ 0x5c) := by simp [opad, hKk, List.getD, show i < K.length by omega]
   have hb3 : (ipad key)[i]? = some (K.getD i 0 ^^^ 0x36) := by simp [ipad, hKk, List.getD, show i < K.length by omega]
   have x5 : bxor .u8 ((K.getD i 0).toNat : Int) 92 = ((K.getD i 0 ^^^ 0x5c).toNat : Int) := xorc_val _ 0x5c
   have x3 : bxor .u8 ((K.getD i 0).toNat : Int) 54 = ((K.getD i 0 ^^^ 0x36).toNat : Int) := xorc_val _ 0x36
   obtain ⟨w11, r11, h11⟩ := h9.stRow (i := 0) (j := i) (T := 5) (v := .int .u8 ((K.getD i 0 ^^^ 0x36).toNat : Int)) rfl (sB1 _) hi' rfl
   rw [bv_set, mixG_set (by rw [hip, List.length_replicate]) hb3] at h11
   obtain ⟨w12, r12, h12⟩ := h11.stRow (i := 1) (j := i) (T := 5) (v := .int .u8 ((K.getD i 0 ^^^ 0x5c).toNat : Int)) rfl (sB1 _) hi' rfl
   rw [bv_set, mixG_set (by rw [hop, List.length_replicate]) hb5] at h12
   have ze : 0 + Int.toNat (i : Int) * 1 = i := by omega
   refine ⟨gi, 0, rfl, by omega, by omega, w11, by rw [x3, ze]; exact r11, go, 0, rfl, by omega, by omega, w12, by rw [x5, ze]; exact r12, ⟨i + 1, wrap_succ hi' (by omega), by omega, h12⟩, mu_succ hi' (by omega)⟩
 · have hi' : i = 64 := by simp at h; omega
   have f1 : mixG (ipad key) (List.replicate 64 (0 : UInt8)) i = ipad key := by
     have := mixG_all (x := ipad key) (l := List.replicate 64 (0 : UInt8)) (by rw [hip, List.length_replicate])
     rw [List.length_replicate] at this; rw [hi', this]
   have f2 : mixG (opad key) (List.replicate 64 (0 : UInt8)) i = opad key := by
     have := mixG_all (x := opad key) (l := List.replicate 64 (0 : UInt8)) (by rw [hop, List.length_replicate])
     rw [List.length_replicate] at this; rw [hi', this]
   rw [f1, f2] at h9
   clear f1 f2 hi' h hi h8' h8 h7
   refine ⟨fun xa xn xc x w' => ∃ i : Nat, x = (i : Int) ∧ i ≤ n1 ∧ xn = 64 + (ls.take i).flatten.length ∧ St w6 [] w' [.row 5 1 (.slice xa xn xc) xn (bv (ipad key ++ (ls.take i).flatten)), .row 5 1 (.slice (some ⟨go, 0, none⟩) 64 64) 64 (bv (opad key))], fun _ _ _ x _ => n1 - x.toNat, ⟨0, rfl, by omega, by simp, by simpa using h9⟩, ?_⟩
   rintro ya yn yc y w10 ⟨i, rfl, hi, rfl, h10⟩
   have hft := flat_take_le ls i
   refine ⟨fun h => ?_, fun h => ?_⟩
   · have hi' : i < n1 := by simp at h; omega
     obtain ⟨b, o, a', n', c', ha, hv, hrd, hld⟩ := ixS hr16.cells h26 (i := i) (by omega)
     have hl' := hrd.lenB
     have hf1 := flat_take (ls := ls) (i := i) (by omega)
     have hf2 := flat_take_le ls (i + 1)
     have hf3 := congrArg List.length hf1
     rw [List.length_append, hl'] at hf3
     obtain ⟨va, vc, w11, r11, h11⟩ := h10.appendB (i := 0) rfl (h10.rd1 hrd) (by omega)
     refine ⟨b, o, ha, by omega, by omega, _, _, _, hld w10 (hr16.cells.keep0 h10.chg), _, _, _, _, r11, ⟨i + 1, wrap_succ hi' hn1, by omega, by omega, ?_⟩, mu_succ hi' hn1⟩
     rw [hf1, ← List.append_assoc]; exact h11
   · have hi' : i = n1 := by simp at h; omega
     have hta : ls.take i = ls := by rw [hi', ← hln, List.take_length]
     rw [hta] at h10 ⊢
     obtain ⟨ms, hms⟩ : ∃ ms, ls.flatten = ms := ⟨_, rfl⟩
     rw [hms] at h10 hb1 ⊢
     obtain ⟨g11, w11, r11, h11⟩ := h10.lit bbT [.slice ya (64 + ms.length) yc] (by simp [Value.oneCell']) (by simp)
     refine ⟨_, _, _, _, r11, (rsum_spec _ 1 1 _ [ipad key ++ ms] w11 (h11.rd (i := 2) rfl) (row2_one (h11.rd (i := 0) rfl)) (by simp [hip]; omega) (by decide)).mono ?_⟩
     rintro e w12 ⟨rfl, hc12⟩
     have hk1 : shaF [ipad key ++ ms].flatten = shaF (ipad key ++ ms) := by simp
     rw [hk1]
     have h12 := h11.same hc12
     obtain ⟨g13, w13, r13, h13⟩ := h12.zeroA d32Z
     obtain ⟨w14, r14, h14⟩ := h13.stA (i := 3) (v := bv (shaF (ipad key ++ ms))) rfl (d32S _) (by simp) (by simp) (bv_one _)
     obtain ⟨g15, w15, r15, h15⟩ := h14.lit bbT [.slice (some ⟨go, 0, none⟩) 64 64, .slice (some ⟨g13, 0, none⟩) 32 32] (by simp [Value.oneCell']) (by simp)
     refine ⟨_, rfl, g13, w13, r13, w14, r14, by omega, by omega, _, _, _, _, r15, (rsum_spec _ 2 2 _ [opad key, shaF (ipad key ++ ms)] w15 (h15.rd (i := 4) rfl) (row2_two (h15.rd (i := 1) rfl) (h15.rdA (i := 3) rfl (by simp))) (by simp [hop]) (by decide)).mono ?_⟩
     rintro e w16 ⟨rfl, hc16⟩
     have hm : shaF [opad key, shaF (ipad key ++ ms)].flatten = macF key ms := by rw [macF_pads]; simp
     rw [hm]
     have hfin := h6.same (h15.chg.trans hc16)
     obtain ⟨w17, r17, h17⟩ := hfin.stA (i := 0) (v := bv (macF key ms)) rfl (d32S _) (by simp) (by simp) (bv_one _)
     exact ⟨_, rfl, w17, r17, _, h17.ldVarA (i := 0) (l := bv (macF key ms)) rfl (d32A _) (d32S _) (by simp), rfl, h17.chg⟩

theorem row2_three {w : World} {a : Option Addr} {n c : Nat} {l : List UInt8} {a2 : Option Addr} {n2 c2 : Nat} {l2 : List UInt8} {a3 : Option Addr} {n3 c3 : Nat} {l3 : List UInt8} (h : RdB w a n c l) (h2 : RdB w a2 n2 c2 l2) (h3 : RdB w a3 n3 c3 l3) : Row2 w [.slice a n c, .slice a2 n2 c2, .slice a3 n3 c3] [l, l2, l3] :=
 (row2_two h2 h3).cons h

open Go Sx
set_option maxRecDepth 8000

theorem byteI (j : Nat) : IntKind.wrap .u8 ((j + 1 : Nat) : Int) = ((UInt8.ofNat (j + 1)).toNat : Int) := by
 rw [wrap_u8, UInt8.toNat_ofNat']; omega

theorem macF_congr {k k' : List UInt8} (h : macK k = macK k') (m : List UInt8) : macF k m = macF k' m := by simp only [macF, h]

theorem outF_bound {n j : Nat} (h1 : n ≤ 32 * j) (h2 : j = 0 ∨ 32 * (j - 1) < n) : (n + 31) / 32 = j := by omega

theorem rderive_specN (a0 : Option Addr) (n0 c0 : Nat) (salt : List UInt8) (a1 : Option Addr) (n1 c1 : Nat) (secret : List UInt8) (a2 : Option Addr) (n2 c2 : Nat) (info : List UInt8) (x : Int) (w : World) (hr0 : RdB w a0 n0 c0 salt) (hr1 : RdB w a1 n1 c1 secret) (hr2 : RdB w a2 n2 c2 info) (hb : n0 + n1 + n2 ≤ 1099511627776) :
   Calls Tryz.prog 69 #[.slice a0 n0 c0, .slice a1 n1 c1, .slice a2 n2 c2, .int .i64 x] w fun e w' =>
     ((x < 0 ∨ 8160 < x) ∧ e = .returned (.tuple #[.slice none 0 0, .int .i64 7]) ∧ w' = w) ∨
     (0 ≤ x ∧ x ≤ 8160 ∧ ∃ a n c, e = .returned (.tuple #[.slice a n c, .int .i64 0]) ∧ Chg [] w w' ∧ RdB w' a n c (deriveF salt secret info x.toNat) ∧ ∀ ad, a = some ad → w.heap.size ≤ ad.block) := by
 have e0 := hr0.lenB
 have e1 := hr1.lenB
 have e2 := hr2.lenB
 apply amphoraref02_Derive_vc
 refine ⟨fun h => .inl ⟨by simp at h; omega, rfl, rfl⟩, fun h => ?_⟩
 have hx : 0 ≤ x ∧ x ≤ 8160 := by simp at h; omega
 obtain ⟨n, rfl⟩ := Int.eq_ofNat_of_zero_le hx.1
 clear h
 refine ⟨fun xa xn xc w' => ∃ s : List UInt8, RdB w' xa xn xc s ∧ macK s = macK salt ∧ xn ≤ 1099511627776 ∧ Chg [] w w', ⟨fun h => ?_, fun _ => ⟨salt, hr0, rfl, by omega, Chg.refl _ _⟩⟩, ?_⟩
 · have hn0 : n0 = 0 := by simp at h; omega
   have hs : salt = [] := List.eq_nil_of_length_eq_zero (by omega)
   obtain ⟨g, w1, r1, h1⟩ := (St.start w).mkN (kl := .i64) (kc := .i64) (c := 32) bT rfl (by omega) (by omega) (by omega)
   have h1' : St w [] w1 [.row 5 1 (.slice (some ⟨g, 0, none⟩) 32 32) 32 (bv (List.replicate 32 0))] := by rw [bv_zeros]; exact h1
   refine ⟨_, _, _, _, r1, List.replicate 32 0, h1'.rd (i := 0) rfl, ?_, by omega, h1.chg⟩
   rw [hs]; rfl
 rintro xa xn xc w2 ⟨s, hrs, hms, hxn, hc2⟩
 have es := hrs.lenB
 obtain ⟨g3, w3, r3, h3⟩ := (St.start w2).lit bbT [.slice a1 n1 c1] (by simp [Value.oneCell']) (by simp)
 have hc3 := hc2.trans h3.chg
 refine ⟨_, _, _, _, r3, (rmac_spec xa xn xc s _ 1 1 _ [secret] w3 (h3.rd1 hrs) (by omega) (h3.rd (i := 0) rfl) (row2_one (hr1.keep0 hc3)) (by simp; omega) (by decide)).mono ?_⟩
 rintro e w4 ⟨rfl, hc4⟩
 have hk1 : macF s [secret].flatten = macF salt secret := by rw [macF_congr hms]; simp
 rw [hk1]
 obtain ⟨prk, hprk⟩ : ∃ p, macF salt secret = p := ⟨_, rfl⟩
 have hpl : prk.length = 32 := by rw [← hprk]; exact macF_len _ _
 rw [hprk]
 have hdF : deriveF salt secret info n = (outF prk info ((n + 31) / 32)).take n := by rw [deriveF, hprk]
 have hc4' := hc3.trans hc4
 obtain ⟨g5, w5, r5, h5⟩ := ((St.start w).same hc4').zeroA d32Z
 obtain ⟨w6, r6, h6⟩ := h5.stA (i := 0) (v := bv prk) rfl (d32S _) (by simp) (by simp [hpl]) (bv_one _)
 have h6n := h6.addNil 5 1
 obtain ⟨g7, w7, r7, h7⟩ := h6n.lit bT [] (by simp) (by simp)
 refine ⟨_, rfl, g5, w5, r5, w6, r6, _, _, _, _, r7, fun xa xn xc ya yn yc z w' => ∃ j : Nat, z = ((j + 1 : Nat) : Int) ∧ (j = 0 ∨ 32 * (j - 1) < n) ∧ xn = 32 * j ∧ St w [] w' [.arr g5 22 (bv prk), .row 5 1 (.slice xa xn xc) xn (bv (outF prk info j)), .row 5 1 (.slice ya yn yc) yn (bv (tF prk info j))],
   fun _ xn _ _ _ _ _ _ => n + 32 - xn, ⟨0, rfl, .inl rfl, rfl, h7⟩, ?_⟩
 rintro xa' xn' xc' ya yn yc z w8 ⟨j, rfl, hj, rfl, h8⟩
 refine ⟨fun h => ?_, fun h => ?_⟩
 · have hlt : 32 * j < n := by simp at h; omega
   have htl : (tF prk info j).length ≤ 32 := by
     cases j with
     | zero => simp [tF]
     | succ j => simp [tF]
   rw [byteI]
   obtain ⟨g9, w9, r9, h9⟩ := h8.lit bT [.int .u8 ((UInt8.ofNat (j + 1)).toNat : Int)] (by simp [Value.oneCell']) (by simp)
   obtain ⟨g10, w10, r10, h10⟩ := h9.lit bbT [.slice ya yn yc, .slice a2 n2 c2, .slice (some ⟨g9, 0, none⟩) 1 1] (by simp [Value.oneCell']) (by simp)
   have q1 : RdB w10 ya yn yc (tF prk info j) := h10.rd (i := 2) rfl
   have q3 : RdB w10 (some ⟨g9, 0, none⟩) 1 1 [UInt8.ofNat (j + 1)] := h10.rd (i := 3) rfl
   refine ⟨by omega, by omega, _, _, _, _, r9, _, _, _, _, r10, (rmac_spec _ 32 32 prk _ 3 3 _ [tF prk info j, info, [UInt8.ofNat (j + 1)]] w10 (h10.rdA (i := 0) rfl (by simp [hpl])) (by omega) (h10.rd (i := 4) rfl) (row2_three q1 (h10.rd1 hr2) q3) (by simp; omega) (by decide)).mono ?_⟩
   rintro e w11 ⟨rfl, hc11⟩
   have hk2 : macF prk [tF prk info j, info, [UInt8.ofNat (j + 1)]].flatten = tF prk info (j + 1) := by rw [tF]; simp
   rw [hk2]
   have h11 := h10.same hc11
   obtain ⟨g12, w12, r12, h12⟩ := h11.zeroA d32Z
   have htl1 : (tF prk info (j + 1)).length = 32 := by simp [tF]
   obtain ⟨w13, r13, h13⟩ := h12.stA (i := 5) (v := bv (tF prk info (j + 1))) rfl (d32S _) (by simp) (by simp [htl1]) (bv_one _)
   obtain ⟨g14, w14, r14, h14⟩ := h13.lit bT [] (by simp) (by simp)
   obtain ⟨ta, tc, w15, r15, h15⟩ := h14.appendB (i := 6) (xs := []) rfl (h14.rdA (i := 5) (l := bv (tF prk info (j + 1))) (n := 32) rfl (by simp [htl1])) (by simp)
   simp only [List.length_nil, Nat.zero_add, List.nil_append] at r15 h15
   obtain ⟨va, vc, w16, r16, h16⟩ := h15.appendB (i := 1) rfl (h15.rd (i := 6) rfl) (by omega)
   have e1' : 32 * j + 32 = 32 * (j + 1) := by omega
   rw [e1'] at r16 h16
   refine ⟨_, rfl, g12, w12, r12, w13, r13, _, _, _, _, r14, by omega, by omega, _, _, _, _, r15, _, _, _, _, r16, ⟨j + 1, ?_, .inr (by omega), rfl, ?_⟩, ?_⟩
   · rw [wrap_i64 (by omega) (by omega)]; omega
   · have : List.Sublist [Res.arr g5 22 (bv prk), .row 5 1 (.slice va (32 * (j + 1)) vc) (32 * (j + 1)) (bv (outF prk info (j + 1))), .row 5 1 (.slice ta 32 tc) 32 (bv (tF prk info (j + 1)))]
         [Res.arr g5 22 (bv prk), .row 5 1 (.slice va (32 * (j + 1)) vc) (32 * (j + 1)) (bv (outF prk info (j + 1))), .row 5 1 (.slice ya yn yc) yn (bv (tF prk info j)), .row 5 1 (.slice (some ⟨g9, 0, none⟩) 1 1) 1 (bv [UInt8.ofNat (j + 1)]), .row 33 1 (.slice (some ⟨g10, 0, none⟩) 3 3) 3 [.slice ya yn yc, .slice a2 n2 c2, .slice (some ⟨g9, 0, none⟩) 1 1], .arr g12 22 (bv (tF prk info (j + 1))), .row 5 1 (.slice ta 32 tc) 32 (bv (tF prk info (j + 1)))] :=
       List.Sublist.cons_cons _ (List.Sublist.cons_cons _ (List.Sublist.cons _ (List.Sublist.cons _ (List.Sublist.cons _ (List.Sublist.cons _ (List.Sublist.refl _))))))
     exact St.sub h16 this
   · show n + 32 - 32 * (j + 1) < n + 32 - 32 * j
     omega
 · have hge : n ≤ 32 * j := by simp at h; omega
   have hj' := outF_bound hge hj
   have hrow := h8.rd (i := 1) rfl
   have hle := hrow.le
   refine ⟨by omega, by omega, .inr ⟨by omega, by omega, _, _, _, rfl, h8.chg, ?_, fun ad e => ?_⟩⟩
   · rw [Int.toNat_natCast, hdF, hj']
     exact rdB_upto (l := outF prk info j) hrow (k := n) hge
   · subst e
     have := h8.own 1 _ rfl ad.block (by simp [Res.fp, Value.ownBlock])
     simpa using this

end Go.Proofs.YtmdandkoajocpaaGreatDoor
end

section
namespace Go.Proofs.YtmdandkoajocpaaGreatDoor
open Go Go.Proofs.YtmdandkoajocpaaGreatDoor.Sx

set_option maxRecDepth 100000
theorem chacha_word_vc (a0a : Option Addr) (a0n : Nat) (a0c : Nat) (w : World) (R : Ending → World → Prop) (h : ∃ S : World → Prop, S w.drew ∧ (∃ t4b t4o, a0a = some ⟨t4b, t4o, none⟩ ∧ 0 ≤ (0 : Int) ∧ (0 : Int) < (a0n : Int) ∧ (∃ t8b t8o, a0a = some ⟨t8b, t8o, none⟩ ∧ 0 ≤ (1 : Int) ∧ (1 : Int) < (a0n : Int) ∧ (∃ t14b t14o, a0a = some ⟨t14b, t14o, none⟩ ∧ 0 ≤ (2 : Int) ∧ (2 : Int) < (a0n : Int) ∧ (∃ t20b t20o, a0a = some ⟨t20b, t20o, none⟩ ∧ 0 ≤ (3 : Int) ∧ (3 : Int) < (a0n : Int) ∧ (∃ t5, (∀ w', S w' → LdQ 5 t4b (t4o + Int.toNat (0 : Int) * 1) (.int .u8 t5) w') ∧ (∃ t9, (∀ w', S w' → LdQ 5 t8b (t8o + Int.toNat (1 : Int) * 1) (.int .u8 t9) w') ∧ (∃ t15, (∀ w', S w' → LdQ 5 t14b (t14o + Int.toNat (2 : Int) * 1) (.int .u8 t15) w') ∧ (∃ t21, (∀ w', S w' → LdQ 5 t20b (t20o + Int.toNat (3 : Int) * 1) (.int .u8 t21) w') ∧ (R (.returned (.int .u32 (bor .u32 (bor .u32 (bor .u32 (IntKind.wrap .u32 t5) (shlI .u32 (IntKind.wrap .u32 t9) (8 : Int))) (shlI .u32 (IntKind.wrap .u32 t15) (16 : Int))) (shlI .u32 (IntKind.wrap .u32 t21) (24 : Int))))) w.drew)))))))))) : Calls Tryz.prog 188 #[(.slice a0a a0n a0c)] w R := calls_of_ev2 (tc := .sq [.rg 1, .drawS (.tk 0 .p (.tk 1 .ix (.tk 4 .p (.tk 5 .ix (.tk 10 .p (.tk 11 .ix (.tk 16 .p (.tk 17 .ix (.ts 2 (.int .u8) (.tk 3 .p (.ts 6 (.int .u8) (.tks [7, 8, 9] (.ts 12 (.int .u8) (.tks [13, 14, 15] (.ts 18 (.int .u8) (.tks (lr [(19, 4)]) .nil)))))))))))))))) []] .leaf) Tryz.func188 (by kernel_rfl) (by kernel_rfl) h

theorem chacha_quarter_vc (a0 : Int) (a1 : Int) (a2 : Int) (a3 : Int) (w : World) (R : Ending → World → Prop) (h : Calls Tryz.prog 189 #[(.int .u32 (bxor .u32 a3 (IntKind.wrap .u32 (a0 + a1)))), (.int .i64 16)] w fun e18 w1 => ∃ t18, e18 = .returned (.int .u32 t18) ∧ (Calls Tryz.prog 189 #[(.int .u32 (bxor .u32 a1 (IntKind.wrap .u32 (a2 + t18)))), (.int .i64 12)] w1 fun e25 w2 => ∃ t25, e25 = .returned (.int .u32 t25) ∧ (Calls Tryz.prog 189 #[(.int .u32 (bxor .u32 t18 (IntKind.wrap .u32 ((IntKind.wrap .u32 (a0 + a1)) + t25)))), (.int .i64 8)] w2 fun e32 w3 => ∃ t32, e32 = .returned (.int .u32 t32) ∧ (Calls Tryz.prog 189 #[(.int .u32 (bxor .u32 t25 (IntKind.wrap .u32 ((IntKind.wrap .u32 (a2 + t18)) + t32)))), (.int .i64 7)] w3 fun e39 w4 => ∃ t39, e39 = .returned (.int .u32 t39) ∧ (R (.returned (.tuple #[(.int .u32 (IntKind.wrap .u32 ((IntKind.wrap .u32 (a0 + a1)) + t25))), (.int .u32 t39), (.int .u32 (IntKind.wrap .u32 ((IntKind.wrap .u32 (a2 + t18)) + t32))), (.int .u32 t32)])) w4))))) : Calls Tryz.prog 185 #[(.int .u32 a0), (.int .u32 a1), (.int .u32 a2), (.int .u32 a3)] w R := calls_of_ev2 (tc := .sq [.rg 4, .rg 4, .reg (.pp 3 (.op (.cl [.int .u32]) (.op .p .nil))), .rg 4, .reg (.pp 3 (.op (.cl [.int .u32]) (.op .p .nil))), .rg 4, .reg (.pp 3 (.op (.cl [.int .u32]) (.op .p .nil))), .rg 4, .reg (.pp 3 (.op (.cl [.int .u32]) (.op .p .nil))), .rg 8] .leaf) Tryz.func185 (by kernel_rfl) (by kernel_rfl) h

theorem chacha_begin_vc (a0 : Array Value) (a1 : Int) (a2 : Array Value) (w : World) (R : Ending → World → Prop) (h : ∃ g3 w1, (Instr.box 22 (.agg a0)).run Tryz.prog w = .ok (.pointer (some ⟨g3, 0, none⟩)) w1 ∧ (∃ g5 w2, (Instr.box 187 (.agg a2)).run Tryz.prog w1 = .ok (.pointer (some ⟨g5, 0, none⟩)) w2 ∧ (∃ g6 w3, AlQ 235 g6 w2 w3 ∧ (∃ t10, (Instr.build 235 #[(0, (.int .u32 1634760805)), (1, (.int .u32 857760878)), (2, (.int .u32 2036477234)), (3, (.int .u32 1797285236))]).run Tryz.prog w3 = .ok (.agg t10) w3 ∧ (∃ g7 w4, AlQ 235 g7 w3 w4 ∧ (∃ w5, StQ 235 g7 0 (.agg t10) w4 w5 ∧ (∃ (I : Int → World → Prop) (μ : Int → World → Nat), I 0 w5 ∧ (∀ x11, ∀ w6, I x11 w6 → ((decide (x11 < (8 : Int)) = true → (0 ≤ (IntKind.wrap .i64 ((4 : Int) * x11)) ∧ (IntKind.wrap .i64 ((4 : Int) * x11)) ≤ (32 : Int) ∧ (32 : Int) ≤ (32 : Int) ∧ ∀ t18a, SubA 1 (some ⟨g3, 0, none⟩) (Int.toNat (IntKind.wrap .i64 ((4 : Int) * x11))) 32 t18a → (Calls Tryz.prog 188 #[(.slice t18a ((32) - (Int.toNat (IntKind.wrap .i64 ((4 : Int) * x11)))) (32 - (Int.toNat (IntKind.wrap .i64 ((4 : Int) * x11)))))] w6 fun e19 w7 => ∃ t19, e19 = .returned (.int .u32 t19) ∧ (0 ≤ (IntKind.wrap .i64 ((4 : Int) + x11)) ∧ (IntKind.wrap .i64 ((4 : Int) + x11)) < (16 : Int) ∧ (∃ w8, StQ 209 g7 (0 + Int.toNat (IntKind.wrap .i64 ((4 : Int) + x11)) * 1) (.int .u32 t19) w7 w8 ∧ (I (IntKind.wrap .i64 (x11 + 1)) w8 ∧ μ (IntKind.wrap .i64 (x11 + 1)) w8 < μ x11 w6)))))) ∧ (decide (x11 < (8 : Int)) = false → (∃ w9, StQ 209 g7 12 (.int .u32 a1) w6 w9 ∧ (∃ (I_1 : Int → World → Prop) (μ_1 : Int → World → Nat), I_1 0 w9 ∧ (∀ x24, ∀ w10, I_1 x24 w10 → ((decide (x24 < (3 : Int)) = true → (0 ≤ (IntKind.wrap .i64 ((4 : Int) * x24)) ∧ (IntKind.wrap .i64 ((4 : Int) * x24)) ≤ (12 : Int) ∧ (12 : Int) ≤ (12 : Int) ∧ ∀ t31a, SubA 1 (some ⟨g5, 0, none⟩) (Int.toNat (IntKind.wrap .i64 ((4 : Int) * x24))) 12 t31a → (Calls Tryz.prog 188 #[(.slice t31a ((12) - (Int.toNat (IntKind.wrap .i64 ((4 : Int) * x24)))) (12 - (Int.toNat (IntKind.wrap .i64 ((4 : Int) * x24)))))] w10 fun e32 w11 => ∃ t32, e32 = .returned (.int .u32 t32) ∧ (0 ≤ (IntKind.wrap .i64 ((13 : Int) + x24)) ∧ (IntKind.wrap .i64 ((13 : Int) + x24)) < (16 : Int) ∧ (∃ w12, StQ 209 g7 (0 + Int.toNat (IntKind.wrap .i64 ((13 : Int) + x24)) * 1) (.int .u32 t32) w11 w12 ∧ (I_1 (IntKind.wrap .i64 (x24 + 1)) w12 ∧ μ_1 (IntKind.wrap .i64 (x24 + 1)) w12 < μ_1 x24 w10)))))) ∧ (decide (x24 < (3 : Int)) = false → (∃ t35, LdQ 235 g7 0 (.agg t35) w10 ∧ (∃ w13, StQ 235 g6 0 (.agg t35) w10 w13 ∧ (∃ r6, (loadVar 235 ⟨g6, 0, none⟩).run Tryz.prog w13 = .ok r6 w13 ∧ (R (.returned r6) w13))))))))))))))))))) : Calls Tryz.prog 184 #[(.agg a0), (.int .u32 a1), (.agg a2)] w R := calls_of_ev2 (tc := .sq [.reg (.op .bx (.op .bx (.op .bx .nil))), .reg (.op (.ld .agg) (.op .bx (.op .u .nil))), .seq (.rg 1) (.blk (.loop (lr [(8, 1), (11, 11)]) [11] [.int .i64] (.sq [.rg 1, .cond .leaf .leaf, .blk (.seq (.rg 2) (.reg (.pp 4 (.op .sl (.op (.cl [.int .u32]) (.op .ix (.op .u .nil)))))))] (.rg 2)))), .reg (.pp 2 (.op .u .nil)), .seq (.rg 1) (.blk (.loop (lr [(9, 1), (24, 11)]) [24] [.int .i64] (.sq [.rg 1, .cond .leaf .leaf, .blk (.seq (.rg 2) (.reg (.pp 4 (.op .sl (.op (.cl [.int .u32]) (.op .ix (.op .u .nil)))))))] (.rg 2)))), .reg (.op (.ld .agg) (.op .u .nil))] .leaf) Tryz.func184 (by kernel_rfl) (by kernel_rfl) h

theorem chacha_Block_vc (a0 : Array Value) (a1 : Int) (a2 : Array Value) (w : World) (R : Ending → World → Prop) (h : ∃ g3 w1, (Instr.box 22 (.agg a0)).run Tryz.prog w = .ok (.pointer (some ⟨g3, 0, none⟩)) w1 ∧ (∃ g5 w2, (Instr.box 187 (.agg a2)).run Tryz.prog w1 = .ok (.pointer (some ⟨g5, 0, none⟩)) w2 ∧ (∃ g6 w3, AlQ 207 g6 w2 w3 ∧ (∃ t17, LdQ 22 g3 0 (.agg t17) w3 ∧ (∃ t19, LdQ 187 g5 0 (.agg t19) w3 ∧ (Calls Tryz.prog 184 #[(.agg t17), (.int .u32 a1), (.agg t19)] w3 fun e20 w4 => ∃ t20, e20 = .returned (.agg t20) ∧ (∃ g7 w5, AlQ 235 g7 w4 w5 ∧ (∃ w6, StQ 235 g7 0 (.agg t20) w5 w6 ∧ (∃ t21, LdQ 235 g7 0 (.agg t21) w6 ∧ (∃ g8 w7, AlQ 235 g8 w6 w7 ∧ (∃ w8, StQ 235 g8 0 (.agg t21) w7 w8 ∧ (∃ (I : Int → World → Prop) (μ : Int → World → Nat), I 0 w8 ∧ (∀ x22, ∀ w9, I x22 w9 → ((decide (x22 < (10 : Int)) = true → (∃ (I_1 : Int → World → Prop) (μ_1 : Int → World → Nat), I_1 0 w9 ∧ (∀ x24, ∀ w10, I_1 x24 w10 → ((decide (x24 < (4 : Int)) = true → (∃ S : World → Prop, S w10.drew ∧ (0 ≤ x24 ∧ x24 < (16 : Int) ∧ (0 ≤ (IntKind.wrap .i64 ((4 : Int) + x24)) ∧ (IntKind.wrap .i64 ((4 : Int) + x24)) < (16 : Int) ∧ (0 ≤ (IntKind.wrap .i64 ((8 : Int) + x24)) ∧ (IntKind.wrap .i64 ((8 : Int) + x24)) < (16 : Int) ∧ (0 ≤ (IntKind.wrap .i64 ((12 : Int) + x24)) ∧ (IntKind.wrap .i64 ((12 : Int) + x24)) < (16 : Int) ∧ (∃ t37, (∀ w', S w' → LdQ 209 g8 (0 + Int.toNat x24 * 1) (.int .u32 t37) w') ∧ (∃ t41, (∀ w', S w' → LdQ 209 g8 (0 + Int.toNat (IntKind.wrap .i64 ((4 : Int) + x24)) * 1) (.int .u32 t41) w') ∧ (∃ t45, (∀ w', S w' → LdQ 209 g8 (0 + Int.toNat (IntKind.wrap .i64 ((8 : Int) + x24)) * 1) (.int .u32 t45) w') ∧ (∃ t49, (∀ w', S w' → LdQ 209 g8 (0 + Int.toNat (IntKind.wrap .i64 ((12 : Int) + x24)) * 1) (.int .u32 t49) w') ∧ (Calls Tryz.prog 185 #[(.int .u32 t37), (.int .u32 t41), (.int .u32 t45), (.int .u32 t49)] w10.drew fun e50 w11 => ∃ t50_0 t50_1 t50_2 t50_3, e50 = .returned (.tuple #[(.int .u32 t50_0), (.int .u32 t50_1), (.int .u32 t50_2), (.int .u32 t50_3)]) ∧ (∃ S_1 : World → Prop, (∀ w', S_1 w' → S w') ∧ S_1 w11 ∧ (0 ≤ x24 ∧ x24 < (16 : Int) ∧ (∃ w12, StQ 209 g8 (0 + Int.toNat x24 * 1) (.int .u32 t50_0) w11 w12 ∧ (0 ≤ (IntKind.wrap .i64 ((4 : Int) + x24)) ∧ (IntKind.wrap .i64 ((4 : Int) + x24)) < (16 : Int) ∧ (∃ w13, StQ 209 g8 (0 + Int.toNat (IntKind.wrap .i64 ((4 : Int) + x24)) * 1) (.int .u32 t50_1) w12 w13 ∧ (0 ≤ (IntKind.wrap .i64 ((8 : Int) + x24)) ∧ (IntKind.wrap .i64 ((8 : Int) + x24)) < (16 : Int) ∧ (∃ w14, StQ 209 g8 (0 + Int.toNat (IntKind.wrap .i64 ((8 : Int) + x24)) * 1) (.int .u32 t50_2) w13 w14 ∧ (0 ≤ (IntKind.wrap .i64 ((12 : Int) + x24)) ∧ (IntKind.wrap .i64 ((12 : Int) + x24)) < (16 : Int) ∧ (∃ w15, StQ 209 g8 (0 + Int.toNat (IntKind.wrap .i64 ((12 : Int) + x24)) * 1) (.int .u32 t50_3) w14 w15 ∧ (I_1 (IntKind.wrap .i64 (x24 + 1)) w15 ∧ μ_1 (IntKind.wrap .i64 (x24 + 1)) w15 < μ_1 x24 w10))))))))))))))))))))) ∧ (decide (x24 < (4 : Int)) = false → (∃ (I_2 : Int → World → Prop) (μ_2 : Int → World → Nat), I_2 0 w10 ∧ (∀ x60, ∀ w16, I_2 x60 w16 → ((decide (x60 < (4 : Int)) = true → (∃ S : World → Prop, S w16.drew ∧ (0 ≤ x60 ∧ x60 < (16 : Int) ∧ (0 ≤ (IntKind.wrap .i64 ((4 : Int) + (Int.tmod (IntKind.wrap .i64 (x60 + 1)) (4 : Int)))) ∧ (IntKind.wrap .i64 ((4 : Int) + (Int.tmod (IntKind.wrap .i64 (x60 + 1)) (4 : Int)))) < (16 : Int) ∧ (0 ≤ (IntKind.wrap .i64 ((8 : Int) + (Int.tmod (IntKind.wrap .i64 (x60 + (2 : Int))) (4 : Int)))) ∧ (IntKind.wrap .i64 ((8 : Int) + (Int.tmod (IntKind.wrap .i64 (x60 + (2 : Int))) (4 : Int)))) < (16 : Int) ∧ (0 ≤ (IntKind.wrap .i64 ((12 : Int) + (Int.tmod (IntKind.wrap .i64 (x60 + (3 : Int))) (4 : Int)))) ∧ (IntKind.wrap .i64 ((12 : Int) + (Int.tmod (IntKind.wrap .i64 (x60 + (3 : Int))) (4 : Int)))) < (16 : Int) ∧ (∃ t82, (∀ w', S w' → LdQ 209 g8 (0 + Int.toNat x60 * 1) (.int .u32 t82) w') ∧ (∃ t85, (∀ w', S w' → LdQ 209 g8 (0 + Int.toNat (IntKind.wrap .i64 ((4 : Int) + (Int.tmod (IntKind.wrap .i64 (x60 + 1)) (4 : Int)))) * 1) (.int .u32 t85) w') ∧ (∃ t88, (∀ w', S w' → LdQ 209 g8 (0 + Int.toNat (IntKind.wrap .i64 ((8 : Int) + (Int.tmod (IntKind.wrap .i64 (x60 + (2 : Int))) (4 : Int)))) * 1) (.int .u32 t88) w') ∧ (∃ t91, (∀ w', S w' → LdQ 209 g8 (0 + Int.toNat (IntKind.wrap .i64 ((12 : Int) + (Int.tmod (IntKind.wrap .i64 (x60 + (3 : Int))) (4 : Int)))) * 1) (.int .u32 t91) w') ∧ (Calls Tryz.prog 185 #[(.int .u32 t82), (.int .u32 t85), (.int .u32 t88), (.int .u32 t91)] w16.drew fun e92 w17 => ∃ t92_0 t92_1 t92_2 t92_3, e92 = .returned (.tuple #[(.int .u32 t92_0), (.int .u32 t92_1), (.int .u32 t92_2), (.int .u32 t92_3)]) ∧ (∃ S_1 : World → Prop, (∀ w', S_1 w' → S w') ∧ S_1 w17 ∧ (0 ≤ x60 ∧ x60 < (16 : Int) ∧ (∃ w18, StQ 209 g8 (0 + Int.toNat x60 * 1) (.int .u32 t92_0) w17 w18 ∧ (0 ≤ (IntKind.wrap .i64 ((4 : Int) + (Int.tmod (IntKind.wrap .i64 (x60 + 1)) (4 : Int)))) ∧ (IntKind.wrap .i64 ((4 : Int) + (Int.tmod (IntKind.wrap .i64 (x60 + 1)) (4 : Int)))) < (16 : Int) ∧ (∃ w19, StQ 209 g8 (0 + Int.toNat (IntKind.wrap .i64 ((4 : Int) + (Int.tmod (IntKind.wrap .i64 (x60 + 1)) (4 : Int)))) * 1) (.int .u32 t92_1) w18 w19 ∧ (0 ≤ (IntKind.wrap .i64 ((8 : Int) + (Int.tmod (IntKind.wrap .i64 (x60 + (2 : Int))) (4 : Int)))) ∧ (IntKind.wrap .i64 ((8 : Int) + (Int.tmod (IntKind.wrap .i64 (x60 + (2 : Int))) (4 : Int)))) < (16 : Int) ∧ (∃ w20, StQ 209 g8 (0 + Int.toNat (IntKind.wrap .i64 ((8 : Int) + (Int.tmod (IntKind.wrap .i64 (x60 + (2 : Int))) (4 : Int)))) * 1) (.int .u32 t92_2) w19 w20 ∧ (0 ≤ (IntKind.wrap .i64 ((12 : Int) + (Int.tmod (IntKind.wrap .i64 (x60 + (3 : Int))) (4 : Int)))) ∧ (IntKind.wrap .i64 ((12 : Int) + (Int.tmod (IntKind.wrap .i64 (x60 + (3 : Int))) (4 : Int)))) < (16 : Int) ∧ (∃ w21, StQ 209 g8 (0 + Int.toNat (IntKind.wrap .i64 ((12 : Int) + (Int.tmod (IntKind.wrap .i64 (x60 + (3 : Int))) (4 : Int)))) * 1) (.int .u32 t92_3) w20 w21 ∧ (I_2 (IntKind.wrap .i64 (x60 + 1)) w21 ∧ μ_2 (IntKind.wrap .i64 (x60 + 1)) w21 < μ_2 x60 w16))))))))))))))))))))) ∧ (decide (x60 < (4 : Int)) = false → (I (IntKind.wrap .i64 (x22 + 1)) w16 ∧ μ (IntKind.wrap .i64 (x22 + 1)) w16 < μ x22 w9)))))))))) ∧ (decide (x22 < (10 : Int)) = false → (∃ g14 w22, AlQ 207 g14 w9 w22 ∧ (∃ (I_1 : Int → World → Prop) (μ_1 : Int → World → Nat), I_1 0 w22 ∧ (∀ x103, ∀ w23, I_1 x103 w23 → ((decide (x103 < (16 : Int)) = true → (∃ S : World → Prop, S w23.drew ∧ (0 ≤ x103 ∧ x103 < (16 : Int) ∧ (0 ≤ x103 ∧ x103 < (16 : Int) ∧ (∃ t108, (∀ w', S w' → LdQ 209 g8 (0 + Int.toNat x103 * 1) (.int .u32 t108) w') ∧ (∃ t111, (∀ w', S w' → LdQ 209 g7 (0 + Int.toNat x103 * 1) (.int .u32 t111) w') ∧ (0 ≤ (IntKind.wrap .i64 ((4 : Int) * x103)) ∧ (IntKind.wrap .i64 ((4 : Int) * x103)) < (64 : Int) ∧ (∃ w24, StQ 5 g14 (0 + Int.toNat (IntKind.wrap .i64 ((4 : Int) * x103)) * 1) (.int .u8 (IntKind.wrap .u8 (IntKind.wrap .u32 (t108 + t111)))) w23.drew w24 ∧ (0 ≤ (IntKind.wrap .i64 ((IntKind.wrap .i64 ((4 : Int) * x103)) + (1 : Int))) ∧ (IntKind.wrap .i64 ((IntKind.wrap .i64 ((4 : Int) * x103)) + (1 : Int))) < (64 : Int) ∧ (∃ w25, (Instr.storeAt 5 (.pointer (some ⟨g14, 0 + Int.toNat (IntKind.wrap .i64 ((IntKind.wrap .i64 ((4 : Int) * x103)) + (1 : Int))) * 1, none⟩)) (.int .u8 (IntKind.wrap .u8 (shrI .u32 (IntKind.wrap .u32 (t108 + t111)) (8 : Int))))).run Tryz.prog w24 = .ok () w25 ∧ (0 ≤ (IntKind.wrap .i64 ((IntKind.wrap .i64 ((4 : Int) * x103)) + (2 : Int))) ∧ (IntKind.wrap .i64 ((IntKind.wrap .i64 ((4 : Int) * x103)) + (2 : Int))) < (64 : Int) ∧ (∃ w26, (Instr.storeAt 5 (.pointer (some ⟨g14, 0 + Int.toNat (IntKind.wrap .i64 ((IntKind.wrap .i64 ((4 : Int) * x103)) + (2 : Int))) * 1, none⟩)) (.int .u8 (IntKind.wrap .u8 (shrI .u32 (IntKind.wrap .u32 (t108 + t111)) (16 : Int))))).run Tryz.prog w25 = .ok () w26 ∧ (0 ≤ (IntKind.wrap .i64 ((IntKind.wrap .i64 ((4 : Int) * x103)) + (3 : Int))) ∧ (IntKind.wrap .i64 ((IntKind.wrap .i64 ((4 : Int) * x103)) + (3 : Int))) < (64 : Int) ∧ (∃ w27, (Instr.storeAt 5 (.pointer (some ⟨g14, 0 + Int.toNat (IntKind.wrap .i64 ((IntKind.wrap .i64 ((4 : Int) * x103)) + (3 : Int))) * 1, none⟩)) (.int .u8 (IntKind.wrap .u8 (shrI .u32 (IntKind.wrap .u32 (t108 + t111)) (24 : Int))))).run Tryz.prog w26 = .ok () w27 ∧ (I_1 (IntKind.wrap .i64 (x103 + 1)) w27 ∧ μ_1 (IntKind.wrap .i64 (x103 + 1)) w27 < μ_1 x103 w23))))))))))))))) ∧ (decide (x103 < (16 : Int)) = false → (∃ t140, LdQ 207 g14 0 (.agg t140) w23 ∧ (∃ w28, StQ 207 g6 0 (.agg t140) w23 w28 ∧ (∃ r6, (loadVar 207 ⟨g6, 0, none⟩).run Tryz.prog w28 = .ok r6 w28 ∧ (R (.returned r6) w28)))))))))))))))))))))))) : Calls Tryz.prog 171 #[(.agg a0), (.int .u32 a1), (.agg a2)] w R := calls_of_ev2 (tc := .sq [.reg (.op .bx (.op .bx (.op .bx .nil))), .reg (.op (.ld .agg) (.op .p (.op (.ld .agg) (.op (.cl [.agg]) (.op .bx (.op .u .nil)))))), .reg (.op (.ld .agg) (.op .bx (.op .u .nil))), .seq (.rg 1) (.blk (.loop (lr [(9, 5), (22, 81)]) [22] [.int .i64] (.sq [.rg 1, .cond .leaf .leaf, .blk (.sq [.seq (.rg 1) (.blk (.loop (lr [(9, 1), (24, 36)]) [24] [.int .i64] (.sq [.rg 1, .cond .leaf .leaf, .blk (.seq (.rg 2) (.drawS (.tks (lr [(0, 8)]) (.tk 8 .ix (.tks [10, 11] (.tk 12 .ix (.tks [14, 15] (.tk 16 .ix (.tks [18, 19] (.tk 20 .ix (.ts 9 (.int .u32) (.ts 13 (.int .u32) (.ts 17 (.int .u32) (.ts 21 (.int .u32) (.go 22 (.cl [.int .u32, .int .u32, .int .u32, .int .u32]) (.tks (lr [(23, 5)]) (.tk 28 .ix (.go 29 .u (.tk 30 .ix (.go 31 .u (.tk 32 .ix (.go 33 .u (.tk 34 .ix (.go 35 .u .nil)))))))))))))))))))))) (lr [(0, 9), (10, 3), (14, 3), (18, 3), (23, 13)])))] (.rg 2)))), .rg 1] (.blk (.loop (lr [(10, 4), (60, 42)]) [60] [.int .i64] (.sq [.rg 1, .cond .leaf .leaf, .blk (.sq [.rg 2, .rg 15] (.drawS (.tks (lr [(0, 5)]) (.tk 5 .ix (.tk 7 .p (.tk 8 .ix (.tk 10 .p (.tk 11 .ix (.tk 13 .p (.tk 14 .ix (.ts 6 (.int .u32) (.ts 9 (.int .u32) (.ts 12 (.int .u32) (.ts 15 (.int .u32) (.go 16 (.cl [.int .u32, .int .u32, .int .u32, .int .u32]) (.tks (lr [(17, 5)]) (.tk 22 .ix (.go 23 .u (.tk 24 .ix (.go 25 .u (.tk 26 .ix (.go 27 .u (.tk 28 .ix (.go 29 .u .nil)))))))))))))))))))))) (lr [(0, 6), (7, 2), (10, 2), (13, 2), (17, 13)])))] (.rg 2)))))] (.rg 2)))), .reg (.op .bx .nil), .seq (.rg 1) (.blk (.loop (lr [(15, 2), (103, 37)]) [103] [.int .i64] (.sq [.rg 1, .cond .leaf .leaf, .blk (.sq [.rg 2, .drawS (.tk 0 .p (.tk 1 .ix (.tk 3 .p (.tk 4 .ix (.ts 2 (.int .u32) (.ts 5 (.int .u32) (.tks [6, 7] .nil))))))) []] (.reg (.pp 22 (.op .ix (.op .u (.op .ix (.op .u (.op .ix (.op .u (.op .ix (.op .u .nil)))))))))))] (.rg 2)))), .reg (.op (.ld .agg) (.op .u .nil))] .leaf) Tryz.func171 (by kernel_rfl) (by kernel_rfl) h

theorem chacha_seat_over_vc (a0b : Nat) (a0o : Nat) (a1 : Int) (a2a : Option Addr) (a2n : Nat) (a2c : Nat) (w : World) (R : Ending → World → Prop) (h : ∃ g6 w1, AlQ 207 g6 w w1 ∧ (∃ (I : Int → Int → World → Prop) (μ : Int → Int → World → Nat), I (-1) 0 w1 ∧ (∀ x7 x12, ∀ w2, I x7 x12 w2 → ((decide (x12 < (a2n : Int)) = true → (∃ J : Int → World → Prop, ((((IntKind.wrap .i64 (Int.tdiv (IntKind.wrap .i64 (a1 + x12)) (64 : Int))) != x7) = true → (∃ S : World → Prop, S w2.drew ∧ (∃ t25, (∀ w', S w' → LdQ 22 a0b a0o (.agg t25) w') ∧ (∃ t31, (∀ w', S w' → LdQ 187 a0b (a0o + 32) (.agg t31) w') ∧ (Calls Tryz.prog 171 #[(.agg t25), (.int .u32 (IntKind.wrap .u32 (IntKind.wrap .i64 (Int.tdiv (IntKind.wrap .i64 (a1 + x12)) (64 : Int))))), (.agg t31)] w2.drew fun e32 w3 => ∃ t32, e32 = .returned (.agg t32) ∧ (∃ S_1 : World → Prop, (∀ w', S_1 w' → S w') ∧ S_1 w3 ∧ (∃ w4, StQ 207 g6 0 (.agg t32) w3 w4 ∧ (J (IntKind.wrap .i64 (Int.tdiv (IntKind.wrap .i64 (a1 + x12)) (64 : Int))) w4)))))))) ∧ (((IntKind.wrap .i64 (Int.tdiv (IntKind.wrap .i64 (a1 + x12)) (64 : Int))) != x7) = false → (J x7 w2))) ∧ (∀ x7_1, ∀ w5, J x7_1 w5 → (∃ S : World → Prop, S w5.drew ∧ (∃ t36b t36o, a2a = some ⟨t36b, t36o, none⟩ ∧ 0 ≤ x12 ∧ x12 < (a2n : Int) ∧ (0 ≤ (Int.tmod (IntKind.wrap .i64 (a1 + x12)) (64 : Int)) ∧ (Int.tmod (IntKind.wrap .i64 (a1 + x12)) (64 : Int)) < (64 : Int) ∧ (∃ t37, (∀ w', S w' → LdQ 5 t36b (t36o + Int.toNat x12 * 1) (.int .u8 t37) w') ∧ (∃ t43, (∀ w', S w' → LdQ 5 g6 (0 + Int.toNat (Int.tmod (IntKind.wrap .i64 (a1 + x12)) (64 : Int)) * 1) (.int .u8 t43) w') ∧ (∃ t45b t45o, a2a = some ⟨t45b, t45o, none⟩ ∧ 0 ≤ x12 ∧ x12 < (a2n : Int) ∧ (∃ w6, StQ 5 t45b (t45o + Int.toNat x12 * 1) (.int .u8 (bxor .u8 t37 t43)) w5.drew w6 ∧ (I x7_1 (IntKind.wrap .i64 (x12 + 1)) w6 ∧ μ x7_1 (IntKind.wrap .i64 (x12 + 1)) w6 < μ x7 x12 w2))))))))))) ∧ (decide (x12 < (a2n : Int)) = false → (R (.returned (.tuple #[])) w2)))))) : Calls Tryz.prog 145 #[(.pointer (some ⟨a0b, a0o, none⟩)), (.int .i64 a1), (.slice a2a a2n a2c)] w R := calls_of_ev2 (tc := .sq [.reg (.op .bx .nil), .rg 1, .rg 3] (.blk (.loop (lr [(7, 3), (12, 35)]) [7, 12] [.int .i64, .int .i64] (.sq [.rg 1, .cond .leaf .leaf, .blk (.sq [.rg 2, .sq [.rg 5, .rg 3] (.join (lr [(7, 1), (22, 12)]) [7] [.int .i64] (.cond (.drawS (.tks [0, 1, 2, 4, 5, 6, 7, 8, 11] (.ts 3 .agg (.ts 9 .agg (.go 10 (.cl [.agg]) (.go 12 .u (.tk 13 .p .nil)))))) (lr [(0, 3), (4, 5), (11, 3)])) .leaf))] (.drawS (.tks [0, 1] (.tk 2 .ix (.tks [4, 5, 6, 7] (.tk 8 .ix (.ts 3 (.int .u8) (.ts 9 (.int .u8) (.tk 10 .p (.tk 11 .ix (.go 12 .u .nil))))))))) [12]))] (.rg 2))))) Tryz.func145 (by kernel_rfl) (by kernel_rfl) h

theorem chacha_room_vc (a0 : Int) (a1 : Int) (w : World) (R : Ending → World → Prop) (h : R (.returned (.bool (((decide (a0 ≥ (0 : Int))) && (decide (a0 ≤ (274877906944 : Int)))) && (decide (a1 ≤ (IntKind.wrap .i64 ((274877906944 : Int) - a0))))))) w) : Calls Tryz.prog 144 #[(.int .i64 a0), (.int .i64 a1)] w R := calls_of_ev2 (tc := .sq [.rg 1, .reg (.pp 3 (.ap 2 (.op .p (.ap 4 (.op .p .nil)))))] .leaf) Tryz.func144 (by kernel_rfl) (by kernel_rfl) h

theorem chacha_XOR_vc (a0 : Array Value) (a1 : Array Value) (a2 : Int) (a3a : Option Addr) (a3n : Nat) (a3c : Nat) (w : World) (R : Ending → World → Prop) (h : ∃ g4 w1, (Instr.box 22 (.agg a0)).run Tryz.prog w = .ok (.pointer (some ⟨g4, 0, none⟩)) w1 ∧ (∃ g5 w2, (Instr.box 187 (.agg a1)).run Tryz.prog w1 = .ok (.pointer (some ⟨g5, 0, none⟩)) w2 ∧ (Calls Tryz.prog 144 #[(.int .i64 a2), (.int .i64 (a3n : Int))] w2 fun e14 w3 => ∃ t14, e14 = .returned (.bool t14) ∧ (((!t14) = true → (R (.returned (.tuple #[(.slice none 0 0), (.iface 69 (.int .i64 8))])) w3)) ∧ ((!t14) = false → (∃ t19a t19n t19c w4, (Instr.makeSlice 33 (.int .i64 0) (.int .i64 (a3n : Int))).run Tryz.prog w3 = .ok (.slice t19a t19n t19c) w4 ∧ (∃ t21a t21n t21c w5, (Builtin.append_ #[33, 33] 33 #[(.slice t19a t19n t19c), (.slice a3a a3n a3c)]).run Tryz.prog w4 = .ok (.slice t21a t21n t21c) w5 ∧ (∃ t22, LdQ 22 g4 0 (.agg t22) w5 ∧ (∃ t23, LdQ 187 g5 0 (.agg t23) w5 ∧ (∃ t24, (Instr.build 230 #[(0, (.agg t22)), (1, (.agg t23))]).run Tryz.prog w5 = .ok (.agg t24) w5 ∧ (∃ g25 w6, (Instr.box 230 (.agg t24)).run Tryz.prog w5 = .ok (.pointer (some ⟨g25, 0, none⟩)) w6 ∧ (Calls Tryz.prog 145 #[(.pointer (some ⟨g25, 0, none⟩)), (.int .i64 a2), (.slice t21a t21n t21c)] w6 fun e28 w7 => e28 = .returned (.tuple #[]) ∧ (R (.returned (.tuple #[(.slice t21a t21n t21c), .nilIface])) w7))))))))))))) : Calls Tryz.prog 122 #[(.agg a0), (.agg a1), (.int .i64 a2), (.slice a3a a3n a3c)] w R := calls_of_ev2 (tc := .sq [.reg (.op .bx (.op .bx (.pp 2 .nil))), .seq (.reg (.pp 3 (.op (.cl [.bool]) (.op .p .nil)))) (.cond (.seq (.rg 3) .leaf) .leaf), .reg (.pp 2 (.op (.r .slice) (.op .p (.op (.r .slice) (.op .p .nil))))), .reg (.op (.ld .agg) (.op (.ld .agg) (.op (.ld .agg) (.op .bx (.pp 2 (.op (.cl []) .nil)))))), .rg 3] .leaf) Tryz.func122 (by kernel_rfl) (by kernel_rfl) h

theorem amphoraref03_left_vc (a0 : Int) (a1 : Int) (w : World) (R : Ending → World → Prop) (h : 0 ≤ a1 ∧ (0 ≤ (IntKind.wrap .u64 ((32 : Int) - a1)) ∧ (R (.returned (.int .u32 (bor .u32 (shlI .u32 a0 a1) (shrI .u32 a0 (IntKind.wrap .u64 ((32 : Int) - a1)))))) w))) : Calls Tryz.prog 172 #[(.int .u32 a0), (.int .u64 a1)] w R := calls_of_ev2 (tc := .sq [.rg 1, .reg (.pp 2 (.op .sc (.pp 3 (.op .sc (.pp 2 .nil)))))] .leaf) Tryz.func172 (by kernel_rfl) (by kernel_rfl) h

theorem amphoraref03_round_vc (a0b : Nat) (a0o : Nat) (a1 : Int) (a2 : Int) (a3 : Int) (a4 : Int) (w : World) (R : Ending → World → Prop) (h : ∃ S : World → Prop, S w.drew ∧ (0 ≤ a1 ∧ a1 < (16 : Int) ∧ (0 ≤ a2 ∧ a2 < (16 : Int) ∧ (∃ t16, (∀ w', S w' → LdQ 209 a0b (a0o + Int.toNat a1 * 1) (.int .u32 t16) w') ∧ (∃ t21, (∀ w', S w' → LdQ 209 a0b (a0o + Int.toNat a2 * 1) (.int .u32 t21) w') ∧ (0 ≤ a1 ∧ a1 < (16 : Int) ∧ (∃ w1, StQ 209 a0b (a0o + Int.toNat a1 * 1) (.int .u32 (IntKind.wrap .u32 (t16 + t21))) w.drew w1 ∧ (∃ S_1 : World → Prop, S_1 w1.drew ∧ (0 ≤ a4 ∧ a4 < (16 : Int) ∧ (0 ≤ a1 ∧ a1 < (16 : Int) ∧ (∃ t31, (∀ w', S_1 w' → LdQ 209 a0b (a0o + Int.toNat a4 * 1) (.int .u32 t31) w') ∧ (∃ t36, (∀ w', S_1 w' → LdQ 209 a0b (a0o + Int.toNat a1 * 1) (.int .u32 t36) w') ∧ (Calls Tryz.prog 172 #[(.int .u32 (bxor .u32 t31 t36)), (.int .u64 16)] w1.drew fun e38 w2 => ∃ t38, e38 = .returned (.int .u32 t38) ∧ (∃ S_2 : World → Prop, (∀ w', S_2 w' → S_1 w') ∧ S_2 w2 ∧ (0 ≤ a4 ∧ a4 < (16 : Int) ∧ (∃ w3, StQ 209 a0b (a0o + Int.toNat a4 * 1) (.int .u32 t38) w2 w3 ∧ (∃ S_3 : World → Prop, S_3 w3.drew ∧ (0 ≤ a3 ∧ a3 < (16 : Int) ∧ (0 ≤ a4 ∧ a4 < (16 : Int) ∧ (∃ t47, (∀ w', S_3 w' → LdQ 209 a0b (a0o + Int.toNat a3 * 1) (.int .u32 t47) w') ∧ (∃ t52, (∀ w', S_3 w' → LdQ 209 a0b (a0o + Int.toNat a4 * 1) (.int .u32 t52) w') ∧ (0 ≤ a3 ∧ a3 < (16 : Int) ∧ (∃ w4, StQ 209 a0b (a0o + Int.toNat a3 * 1) (.int .u32 (IntKind.wrap .u32 (t47 + t52))) w3.drew w4 ∧ (∃ S_4 : World → Prop, S_4 w4.drew ∧ (0 ≤ a2 ∧ a2 < (16 : Int) ∧ (0 ≤ a3 ∧ a3 < (16 : Int) ∧ (∃ t62, (∀ w', S_4 w' → LdQ 209 a0b (a0o + Int.toNat a2 * 1) (.int .u32 t62) w') ∧ (∃ t67, (∀ w', S_4 w' → LdQ 209 a0b (a0o + Int.toNat a3 * 1) (.int .u32 t67) w') ∧ (Calls Tryz.prog 172 #[(.int .u32 (bxor .u32 t62 t67)), (.int .u64 12)] w4.drew fun e69 w5 => ∃ t69, e69 = .returned (.int .u32 t69) ∧ (∃ S_5 : World → Prop, (∀ w', S_5 w' → S_4 w') ∧ S_5 w5 ∧ (0 ≤ a2 ∧ a2 < (16 : Int) ∧ (∃ w6, StQ 209 a0b (a0o + Int.toNat a2 * 1) (.int .u32 t69) w5 w6 ∧ (∃ S_6 : World → Prop, S_6 w6.drew ∧ (0 ≤ a1 ∧ a1 < (16 : Int) ∧ (0 ≤ a2 ∧ a2 < (16 : Int) ∧ (∃ t78, (∀ w', S_6 w' → LdQ 209 a0b (a0o + Int.toNat a1 * 1) (.int .u32 t78) w') ∧ (∃ t83, (∀ w', S_6 w' → LdQ 209 a0b (a0o + Int.toNat a2 * 1) (.int .u32 t83) w') ∧ (0 ≤ a1 ∧ a1 < (16 : Int) ∧ (∃ w7, StQ 209 a0b (a0o + Int.toNat a1 * 1) (.int .u32 (IntKind.wrap .u32 (t78 + t83))) w6.drew w7 ∧ (∃ S_7 : World → Prop, S_7 w7.drew ∧ (0 ≤ a4 ∧ a4 < (16 : Int) ∧ (0 ≤ a1 ∧ a1 < (16 : Int) ∧ (∃ t93, (∀ w', S_7 w' → LdQ 209 a0b (a0o + Int.toNat a4 * 1) (.int .u32 t93) w') ∧ (∃ t98, (∀ w', S_7 w' → LdQ 209 a0b (a0o + Int.toNat a1 * 1) (.int .u32 t98) w') ∧ (Calls Tryz.prog 172 #[(.int .u32 (bxor .u32 t93 t98)), (.int .u64 8)] w7.drew fun e100 w8 => ∃ t100, e100 = .returned (.int .u32 t100) ∧ (∃ S_8 : World → Prop, (∀ w', S_8 w' → S_7 w') ∧ S_8 w8 ∧ (0 ≤ a4 ∧ a4 < (16 : Int) ∧ (∃ w9, StQ 209 a0b (a0o + Int.toNat a4 * 1) (.int .u32 t100) w8 w9 ∧ (∃ S_9 : World → Prop, S_9 w9.drew ∧ (0 ≤ a3 ∧ a3 < (16 : Int) ∧ (0 ≤ a4 ∧ a4 < (16 : Int) ∧ (∃ t109, (∀ w', S_9 w' → LdQ 209 a0b (a0o + Int.toNat a3 * 1) (.int .u32 t109) w') ∧ (∃ t114, (∀ w', S_9 w' → LdQ 209 a0b (a0o + Int.toNat a4 * 1) (.int .u32 t114) w') ∧ (0 ≤ a3 ∧ a3 < (16 : Int) ∧ (∃ w10, StQ 209 a0b (a0o + Int.toNat a3 * 1) (.int .u32 (IntKind.wrap .u32 (t109 + t114))) w9.drew w10 ∧ (∃ S_10 : World → Prop, S_10 w10.drew ∧ (0 ≤ a2 ∧ a2 < (16 : Int) ∧ (0 ≤ a3 ∧ a3 < (16 : Int) ∧ (∃ t124, (∀ w', S_10 w' → LdQ 209 a0b (a0o + Int.toNat a2 * 1) (.int .u32 t124) w') ∧ (∃ t129, (∀ w', S_10 w' → LdQ 209 a0b (a0o + Int.toNat a3 * 1) (.int .u32 t129) w') ∧ (Calls Tryz.prog 172 #[(.int .u32 (bxor .u32 t124 t129)), (.int .u64 7)] w10.drew fun e131 w11 => ∃ t131, e131 = .returned (.int .u32 t131) ∧ (∃ S_11 : World → Prop, (∀ w', S_11 w' → S_10 w') ∧ S_11 w11 ∧ (0 ≤ a2 ∧ a2 < (16 : Int) ∧ (∃ w12, StQ 209 a0b (a0o + Int.toNat a2 * 1) (.int .u32 t131) w11 w12 ∧ (R (.returned (.tuple #[])) w12))))))))))))))))))))))))))))))))))))))))))))))))))))))))))))))))) : Calls Tryz.prog 148 #[(.pointer (some ⟨a0b, a0o, none⟩)), (.int .i64 a1), (.int .i64 a2), (.int .i64 a3), (.int .i64 a4)] w R := calls_of_ev2 (tc := .sq [.drawS (.tks (lr [(0, 5)]) (.tk 5 .ix (.tks [7, 8, 9] (.tk 10 .ix (.tk 13 .p (.ts 6 (.int .u32) (.ts 11 (.int .u32) (.tk 12 .p (.tk 14 .ix (.go 15 .u .nil)))))))))) [15], .drawS (.tks (lr [(0, 5)]) (.tk 5 .ix (.tks [7, 8, 9] (.tk 10 .ix (.tk 14 .p (.ts 6 (.int .u32) (.ts 11 (.int .u32) (.tk 12 .p (.go 13 (.cl [.int .u32]) (.tk 15 .ix (.go 16 .u .nil))))))))))) [16], .drawS (.tks (lr [(0, 5)]) (.tk 5 .ix (.tks [7, 8, 9] (.tk 10 .ix (.tk 13 .p (.ts 6 (.int .u32) (.ts 11 (.int .u32) (.tk 12 .p (.tk 14 .ix (.go 15 .u .nil)))))))))) [15], .drawS (.tks (lr [(0, 5)]) (.tk 5 .ix (.tks [7, 8, 9] (.tk 10 .ix (.tk 14 .p (.ts 6 (.int .u32) (.ts 11 (.int .u32) (.tk 12 .p (.go 13 (.cl [.int .u32]) (.tk 15 .ix (.go 16 .u .nil))))))))))) [16], .drawS (.tks (lr [(0, 5)]) (.tk 5 .ix (.tks [7, 8, 9] (.tk 10 .ix (.tk 13 .p (.ts 6 (.int .u32) (.ts 11 (.int .u32) (.tk 12 .p (.tk 14 .ix (.go 15 .u .nil)))))))))) [15], .drawS (.tks (lr [(0, 5)]) (.tk 5 .ix (.tks [7, 8, 9] (.tk 10 .ix (.tk 14 .p (.ts 6 (.int .u32) (.ts 11 (.int .u32) (.tk 12 .p (.go 13 (.cl [.int .u32]) (.tk 15 .ix (.go 16 .u .nil))))))))))) [16], .drawS (.tks (lr [(0, 5)]) (.tk 5 .ix (.tks [7, 8, 9] (.tk 10 .ix (.tk 13 .p (.ts 6 (.int .u32) (.ts 11 (.int .u32) (.tk 12 .p (.tk 14 .ix (.go 15 .u .nil)))))))))) [15]] (.drawS (.tks (lr [(0, 5)]) (.tk 5 .ix (.tks [7, 8, 9] (.tk 10 .ix (.tk 14 .p (.ts 6 (.int .u32) (.ts 11 (.int .u32) (.tk 12 .p (.go 13 (.cl [.int .u32]) (.tk 15 .ix (.go 16 .u .nil))))))))))) [16])) Tryz.func148 (by kernel_rfl) (by kernel_rfl) h

theorem amphoraref03_Block_vc (a0 : Array Value) (a1 : Int) (a2 : Array Value) (w : World) (R : Ending → World → Prop) (h : ∃ g3 w1, (Instr.box 22 (.agg a0)).run Tryz.prog w = .ok (.pointer (some ⟨g3, 0, none⟩)) w1 ∧ (∃ g5 w2, (Instr.box 187 (.agg a2)).run Tryz.prog w1 = .ok (.pointer (some ⟨g5, 0, none⟩)) w2 ∧ (∃ g6 w3, AlQ 207 g6 w2 w3 ∧ (∃ t15, (Instr.build 235 #[]).run Tryz.prog w3 = .ok (.agg t15) w3 ∧ (∃ g7 w4, AlQ 235 g7 w3 w4 ∧ (∃ w5, StQ 235 g7 0 (.agg t15) w4 w5 ∧ (∃ w6, StQ 209 g7 0 (.int .u32 1634760805) w5 w6 ∧ (∃ w7, StQ 209 g7 1 (.int .u32 857760878) w6 w7 ∧ (∃ w8, StQ 209 g7 2 (.int .u32 2036477234) w7 w8 ∧ (∃ w9, StQ 209 g7 3 (.int .u32 1797285236) w8 w9 ∧ (∃ w10, StQ 209 g7 12 (.int .u32 a1) w9 w10 ∧ (∃ (I : Int → World → Prop) (μ : Int → World → Nat), I 0 w10 ∧ (∀ x8, ∀ w11, I x8 w11 → ((decide (x8 < (32 : Int)) = true → (∃ S : World → Prop, S w11.drew ∧ (0 ≤ (IntKind.wrap .i64 ((4 : Int) + (IntKind.wrap .i64 (Int.tdiv x8 (4 : Int))))) ∧ (IntKind.wrap .i64 ((4 : Int) + (IntKind.wrap .i64 (Int.tdiv x8 (4 : Int))))) < (16 : Int) ∧ (0 ≤ x8 ∧ x8 < (32 : Int) ∧ (∃ t33, (∀ w', S w' → LdQ 209 g7 (0 + Int.toNat (IntKind.wrap .i64 ((4 : Int) + (IntKind.wrap .i64 (Int.tdiv x8 (4 : Int))))) * 1) (.int .u32 t33) w') ∧ (∃ t36, (∀ w', S w' → LdQ 5 g3 (0 + Int.toNat x8 * 1) (.int .u8 t36) w') ∧ (0 ≤ (IntKind.wrap .u64 ((8 : Int) * (IntKind.wrap .u64 (Int.tmod x8 (4 : Int))))) ∧ (0 ≤ (IntKind.wrap .i64 ((4 : Int) + (IntKind.wrap .i64 (Int.tdiv x8 (4 : Int))))) ∧ (IntKind.wrap .i64 ((4 : Int) + (IntKind.wrap .i64 (Int.tdiv x8 (4 : Int))))) < (16 : Int) ∧ (∃ w12, (Instr.storeAt 209 (.pointer (some ⟨g7, 0 + Int.toNat (IntKind.wrap .i64 ((4 : Int) + (IntKind.wrap .i64 (Int.tdiv x8 (4 : Int))))) * 1, none⟩)) (.int .u32 (bor .u32 t33 (shlI .u32 (IntKind.wrap .u32 t36) (IntKind.wrap .u64 ((8 : Int) * (IntKind.wrap .u64 (Int.tmod x8 (4 : Int))))))))).run Tryz.prog w11.drew = .ok () w12 ∧ (I (IntKind.wrap .i64 (x8 + 1)) w12 ∧ μ (IntKind.wrap .i64 (x8 + 1)) w12 < μ x8 w11)))))))))) ∧ (decide (x8 < (32 : Int)) = false → (∃ (I_1 : Int → World → Prop) (μ_1 : Int → World → Nat), I_1 0 w11 ∧ (∀ x9, ∀ w13, I_1 x9 w13 → ((decide (x9 < (12 : Int)) = true → (∃ S : World → Prop, S w13.drew ∧ (0 ≤ (IntKind.wrap .i64 ((13 : Int) + (IntKind.wrap .i64 (Int.tdiv x9 (4 : Int))))) ∧ (IntKind.wrap .i64 ((13 : Int) + (IntKind.wrap .i64 (Int.tdiv x9 (4 : Int))))) < (16 : Int) ∧ (0 ≤ x9 ∧ x9 < (12 : Int) ∧ (∃ t56, (∀ w', S w' → LdQ 209 g7 (0 + Int.toNat (IntKind.wrap .i64 ((13 : Int) + (IntKind.wrap .i64 (Int.tdiv x9 (4 : Int))))) * 1) (.int .u32 t56) w') ∧ (∃ t59, (∀ w', S w' → LdQ 5 g5 (0 + Int.toNat x9 * 1) (.int .u8 t59) w') ∧ (0 ≤ (IntKind.wrap .u64 ((8 : Int) * (IntKind.wrap .u64 (Int.tmod x9 (4 : Int))))) ∧ (0 ≤ (IntKind.wrap .i64 ((13 : Int) + (IntKind.wrap .i64 (Int.tdiv x9 (4 : Int))))) ∧ (IntKind.wrap .i64 ((13 : Int) + (IntKind.wrap .i64 (Int.tdiv x9 (4 : Int))))) < (16 : Int) ∧ (∃ w14, (Instr.storeAt 209 (.pointer (some ⟨g7, 0 + Int.toNat (IntKind.wrap .i64 ((13 : Int) + (IntKind.wrap .i64 (Int.tdiv x9 (4 : Int))))) * 1, none⟩)) (.int .u32 (bor .u32 t56 (shlI .u32 (IntKind.wrap .u32 t59) (IntKind.wrap .u64 ((8 : Int) * (IntKind.wrap .u64 (Int.tmod x9 (4 : Int))))))))).run Tryz.prog w13.drew = .ok () w14 ∧ (I_1 (IntKind.wrap .i64 (x9 + 1)) w14 ∧ μ_1 (IntKind.wrap .i64 (x9 + 1)) w14 < μ_1 x9 w13)))))))))) ∧ (decide (x9 < (12 : Int)) = false → (∃ t68, LdQ 235 g7 0 (.agg t68) w13 ∧ (∃ g10 w15, AlQ 235 g10 w13 w15 ∧ (∃ w16, StQ 235 g10 0 (.agg t68) w15 w16 ∧ (∃ (I_2 : Int → World → Prop) (μ_2 : Int → World → Nat), I_2 0 w16 ∧ (∀ x11, ∀ w17, I_2 x11 w17 → ((decide (x11 < (10 : Int)) = true → (Calls Tryz.prog 148 #[(.pointer (some ⟨g10, 0, none⟩)), (.int .i64 0), (.int .i64 4), (.int .i64 8), (.int .i64 12)] w17 fun e73 w18 => e73 = .returned (.tuple #[]) ∧ (Calls Tryz.prog 148 #[(.pointer (some ⟨g10, 0, none⟩)), (.int .i64 1), (.int .i64 5), (.int .i64 9), (.int .i64 13)] w18 fun e74 w19 => e74 = .returned (.tuple #[]) ∧ (Calls Tryz.prog 148 #[(.pointer (some ⟨g10, 0, none⟩)), (.int .i64 2), (.int .i64 6), (.int .i64 10), (.int .i64 14)] w19 fun e75 w20 => e75 = .returned (.tuple #[]) ∧ (Calls Tryz.prog 148 #[(.pointer (some ⟨g10, 0, none⟩)), (.int .i64 3), (.int .i64 7), (.int .i64 11), (.int .i64 15)] w20 fun e76 w21 => e76 = .returned (.tuple #[]) ∧ (Calls Tryz.prog 148 #[(.pointer (some ⟨g10, 0, none⟩)), (.int .i64 0), (.int .i64 5), (.int .i64 10), (.int .i64 15)] w21 fun e77 w22 => e77 = .returned (.tuple #[]) ∧ (Calls Tryz.prog 148 #[(.pointer (some ⟨g10, 0, none⟩)), (.int .i64 1), (.int .i64 6), (.int .i64 11), (.int .i64 12)] w22 fun e78 w23 => e78 = .returned (.tuple #[]) ∧ (Calls Tryz.prog 148 #[(.pointer (some ⟨g10, 0, none⟩)), (.int .i64 2), (.int .i64 7), (.int .i64 8), (.int .i64 13)] w23 fun e79 w24 => e79 = .returned (.tuple #[]) ∧ (Calls Tryz.prog 148 #[(.pointer (some ⟨g10, 0, none⟩)), (.int .i64 3), (.int .i64 4), (.int .i64 9), (.int .i64 14)] w24 fun e80 w25 => e80 = .returned (.tuple #[]) ∧ (I_2 (IntKind.wrap .i64 (x11 + 1)) w25 ∧ μ_2 (IntKind.wrap .i64 (x11 + 1)) w25 < μ_2 x11 w17)))))))))) ∧ (decide (x11 < (10 : Int)) = false → (∃ t81, (Instr.build 207 #[]).run Tryz.prog w17 = .ok (.agg t81) w17 ∧ (∃ g12 w26, AlQ 207 g12 w17 w26 ∧ (∃ w27, StQ 207 g12 0 (.agg t81) w26 w27 ∧ (∃ (I_3 : Int → World → Prop) (μ_3 : Int → World → Nat), I_3 0 w27 ∧ (∀ x13, ∀ w28, I_3 x13 w28 → ((decide (x13 < (64 : Int)) = true → (∃ S : World → Prop, S w28.drew ∧ (0 ≤ (IntKind.wrap .i64 (Int.tdiv x13 (4 : Int))) ∧ (IntKind.wrap .i64 (Int.tdiv x13 (4 : Int))) < (16 : Int) ∧ (0 ≤ (IntKind.wrap .i64 (Int.tdiv x13 (4 : Int))) ∧ (IntKind.wrap .i64 (Int.tdiv x13 (4 : Int))) < (16 : Int) ∧ (∃ t89, (∀ w', S w' → LdQ 209 g7 (0 + Int.toNat (IntKind.wrap .i64 (Int.tdiv x13 (4 : Int))) * 1) (.int .u32 t89) w') ∧ (∃ t93, (∀ w', S w' → LdQ 209 g10 (0 + Int.toNat (IntKind.wrap .i64 (Int.tdiv x13 (4 : Int))) * 1) (.int .u32 t93) w') ∧ (0 ≤ (IntKind.wrap .u64 ((8 : Int) * (IntKind.wrap .u64 (Int.tmod x13 (4 : Int))))) ∧ (0 ≤ x13 ∧ x13 < (64 : Int) ∧ (∃ w29, (Instr.storeAt 5 (.pointer (some ⟨g12, 0 + Int.toNat x13 * 1, none⟩)) (.int .u8 (IntKind.wrap .u8 (shrI .u32 (IntKind.wrap .u32 (t89 + t93)) (IntKind.wrap .u64 ((8 : Int) * (IntKind.wrap .u64 (Int.tmod x13 (4 : Int))))))))).run Tryz.prog w28.drew = .ok () w29 ∧ (I_3 (IntKind.wrap .i64 (x13 + 1)) w29 ∧ μ_3 (IntKind.wrap .i64 (x13 + 1)) w29 < μ_3 x13 w28)))))))))) ∧ (decide (x13 < (64 : Int)) = false → (∃ t104, LdQ 207 g12 0 (.agg t104) w28 ∧ (∃ w30, StQ 207 g6 0 (.agg t104) w28 w30 ∧ (∃ r6, (loadVar 207 ⟨g6, 0, none⟩).run Tryz.prog w30 = .ok r6 w30 ∧ (R (.returned r6) w30))))))))))))))))))))))))))))))))))))) : Calls Tryz.prog 127 #[(.agg a0), (.int .u32 a1), (.agg a2)] w R := calls_of_ev2 (tc := .sq [.reg (.op .bx (.op .bx (.op .bx .nil))), .reg (.op (.ld .agg) (.op .bx (.op .u .nil))), .reg (.op .p (.op .u .nil)), .reg (.op .p (.op .u .nil)), .reg (.op .p (.op .u .nil)), .reg (.op .p (.op .u .nil)), .reg (.pp 2 (.op .u .nil)), .seq (.rg 1) (.blk (.loop (lr [(8, 1), (22, 23)]) [8] [.int .i64] (.sq [.seq (.rg 2) (.cond .leaf .leaf), .blk (.drawS (.tks (lr [(0, 6)]) (.tk 6 .ix (.tk 8 .p (.tk 9 .ix (.tks (lr [(12, 4)]) (.ts 7 (.int .u32) (.ts 10 (.int .u8) (.tk 11 .p (.tk 16 .sc (.tk 17 .p (.tk 18 .ix (.go 19 .u .nil)))))))))))) [19])] (.rg 3)))), .seq (.rg 1) (.blk (.loop (lr [(9, 1), (45, 23)]) [9] [.int .i64] (.sq [.seq (.rg 2) (.cond .leaf .leaf), .blk (.drawS (.tks (lr [(0, 6)]) (.tk 6 .ix (.tk 8 .p (.tk 9 .ix (.tks (lr [(12, 4)]) (.ts 7 (.int .u32) (.ts 10 (.int .u8) (.tk 11 .p (.tk 16 .sc (.tk 17 .p (.tk 18 .ix (.go 19 .u .nil)))))))))))) [19])] (.rg 3)))), .reg (.op (.ld .agg) (.op .bx (.op .u .nil))), .seq (.rg 1) (.blk (.loop (lr [(11, 1), (69, 12)]) [11] [.int .i64] (.sq [.seq (.rg 2) (.cond .leaf .leaf), .blk (.sq [.reg (.op (.cl []) .nil), .reg (.op (.cl []) .nil), .reg (.op (.cl []) .nil), .reg (.op (.cl []) .nil), .reg (.op (.cl []) .nil), .reg (.op (.cl []) .nil), .reg (.op (.cl []) .nil)] (.reg (.op (.cl []) .nil)))] (.rg 3)))), .reg (.op (.ld .agg) (.op .bx (.op .u .nil))), .seq (.rg 1) (.blk (.loop (lr [(13, 2), (82, 22)]) [13] [.int .i64] (.sq [.seq (.rg 2) (.cond .leaf .leaf), .blk (.seq (.drawS (.tks [0, 1] (.tk 2 .ix (.tks [4, 5] (.tk 6 .ix (.ts 3 (.int .u32) (.ts 7 (.int .u32) (.tks [8, 9] .nil))))))) []) (.reg (.pp 6 (.op .sc (.op .p (.op .ix (.op .u .nil)))))))] (.rg 3)))), .reg (.op (.ld .agg) (.op .u .nil))] .leaf) Tryz.func127 (by kernel_rfl) (by kernel_rfl) h

theorem amphoraref03_XOR_vc (a0 : Array Value) (a1 : Array Value) (a2 : Int) (a3a : Option Addr) (a3n : Nat) (a3c : Nat) (w : World) (R : Ending → World → Prop) (h : ∃ g4 w1, (Instr.box 22 (.agg a0)).run Tryz.prog w = .ok (.pointer (some ⟨g4, 0, none⟩)) w1 ∧ (∃ g5 w2, (Instr.box 187 (.agg a1)).run Tryz.prog w1 = .ok (.pointer (some ⟨g5, 0, none⟩)) w2 ∧ (((((decide (a2 < (0 : Int))) || (decide (a2 > (274877906944 : Int)))) || (decide ((a3n : Int) > (IntKind.wrap .i64 ((274877906944 : Int) - a2))))) = true → (R (.returned (.tuple #[(.slice none 0 0), (.int .i64 8)])) w2)) ∧ ((((decide (a2 < (0 : Int))) || (decide (a2 > (274877906944 : Int)))) || (decide ((a3n : Int) > (IntKind.wrap .i64 ((274877906944 : Int) - a2))))) = false → (∃ t26a t26n t26c w3, (Instr.buildSlice 33 0 #[]).run Tryz.prog w2 = .ok (.slice t26a t26n t26c) w3 ∧ (∃ t27, (Instr.build 207 #[]).run Tryz.prog w3 = .ok (.agg t27) w3 ∧ (∃ g11 w4, AlQ 207 g11 w3 w4 ∧ (∃ w5, StQ 207 g11 0 (.agg t27) w4 w5 ∧ (∃ (I : Option Addr → Nat → Nat → Int → World → Prop) (μ : Option Addr → Nat → Nat → Int → World → Nat), I t26a t26n t26c 0 w5 ∧ (∀ x10a x10n x10c x12, ∀ w6, I x10a x10n x10c x12 w6 → ((decide (x12 < (a3n : Int)) = true → (∃ J : World → Prop, ((((x12 == (0 : Int)) || ((Int.tmod (IntKind.wrap .i64 (a2 + x12)) (64 : Int)) == (0 : Int))) = true → (∃ t43, LdQ 22 g4 0 (.agg t43) w6 ∧ (∃ t49, LdQ 187 g5 0 (.agg t49) w6 ∧ (Calls Tryz.prog 127 #[(.agg t43), (.int .u32 (IntKind.wrap .u32 (IntKind.wrap .i64 (Int.tdiv (IntKind.wrap .i64 (a2 + x12)) (64 : Int))))), (.agg t49)] w6 fun e50 w7 => ∃ t50, e50 = .returned (.agg t50) ∧ (∃ w8, StQ 207 g11 0 (.agg t50) w7 w8 ∧ (J  w8)))))) ∧ (((x12 == (0 : Int)) || ((Int.tmod (IntKind.wrap .i64 (a2 + x12)) (64 : Int)) == (0 : Int))) = false → (J  w6))) ∧ (∀ w9, J  w9 → (∃ S : World → Prop, S w9.drew ∧ (∃ t54b t54o, a3a = some ⟨t54b, t54o, none⟩ ∧ 0 ≤ x12 ∧ x12 < (a3n : Int) ∧ (0 ≤ (Int.tmod (IntKind.wrap .i64 (a2 + x12)) (64 : Int)) ∧ (Int.tmod (IntKind.wrap .i64 (a2 + x12)) (64 : Int)) < (64 : Int) ∧ (∃ t55, (∀ w', S w' → LdQ 5 t54b (t54o + Int.toNat x12 * 1) (.int .u8 t55) w') ∧ (∃ t61, (∀ w', S w' → LdQ 5 g11 (0 + Int.toNat (Int.tmod (IntKind.wrap .i64 (a2 + x12)) (64 : Int)) * 1) (.int .u8 t61) w') ∧ (∃ t63a t63n t63c w10, (Instr.buildSlice 33 1 #[(0, (.int .u8 (bxor .u8 t55 t61)))]).run Tryz.prog w9.drew = .ok (.slice t63a t63n t63c) w10 ∧ (∃ S_1 : World → Prop, (∀ w', S_1 w' → S w') ∧ S_1 w10 ∧ (∃ t64a t64n t64c w11, (Builtin.append_ #[33, 33] 33 #[(.slice x10a x10n x10c), (.slice t63a t63n t63c)]).run Tryz.prog w10 = .ok (.slice t64a t64n t64c) w11 ∧ (∃ S_2 : World → Prop, (∀ w', S_2 w' → S_1 w') ∧ S_2 w11 ∧ (I t64a t64n t64c (IntKind.wrap .i64 (x12 + 1)) w11 ∧ μ t64a t64n t64c (IntKind.wrap .i64 (x12 + 1)) w11 < μ x10a x10n x10c x12 w6))))))))))))) ∧ (decide (x12 < (a3n : Int)) = false → (R (.returned (.tuple #[(.slice x10a x10n x10c), (.int .i64 0)])) w6))))))))))))) : Calls Tryz.prog 106 #[(.agg a0), (.agg a1), (.int .i64 a2), (.slice a3a a3n a3c)] w R := calls_of_ev2 (tc := .sq [.reg (.op .bx (.op .bx (.pp 2 .nil))), .seq (.reg (.pp 3 (.ap 2 (.op .p (.ap 5 .nil))))) (.cond (.seq (.rg 2) .leaf) .leaf), .reg (.op (.r .slice) (.op .p .nil)), .reg (.op (.ld .agg) (.op .bx (.op .u .nil))), .seq (.rg 1) (.blk (.loop (lr [(10, 1), (12, 1), (28, 37)]) [10, 12] [.slice, .int .i64] (.sq [.seq (.rg 4) (.cond .leaf .leaf), .blk (.seq (.seq (.reg (.pp 3 (.ap 5 .nil))) (.join (lr [(43, 8)]) [] [] (.cond (.reg (.op (.ld .agg) (.pp 5 (.op (.ld .agg) (.op (.cl [.agg]) (.op .u .nil)))))) .leaf))) (.drawS (.tks [0, 1, 2] (.tk 3 .ix (.tks [5, 6, 7, 8] (.tk 9 .ix (.ts 4 (.int .u8) (.ts 10 (.int .u8) (.tk 11 .p (.go 12 (.r .slice) (.go 13 (.r .slice) (.tk 14 .p .nil)))))))))) []))] (.rg 3)))), .rg 3] .leaf) Tryz.func106 (by kernel_rfl) (by kernel_rfl) h

end Go.Proofs.YtmdandkoajocpaaGreatDoor
end
