/- Contracts, several texts in one (conditions: those that each theorem names). -/
import Derived.Test.YtoianikapjkekaaSxInt
import Derived.Test.YtoianikapjkekaaSxSeat
import Derived.Test.YtoianikapjkekaaNum
import Derived.Test.YtoianikapjkekaaVwire
import Derived.Test.YtoianikapjkekaaClone
import Derived.Test.YtoianikapjkekaaApart
namespace Go.Proofs.Ytoianikapjkekaa
open Go Sx
set_option maxRecDepth 8000

/-- A short number's bytes. -/
def varL (n : Nat) : List UInt8 := if h : n < 128 then [UInt8.ofNat n] else UInt8.ofNat (n % 128 + 128) :: varL (n / 128)
termination_by n
decreasing_by omega

theorem varL_small {n : Nat} (h : n < 128) : varL n = [UInt8.ofNat n] := by rw [varL]; simp [h]
theorem varL_big {n : Nat} (h : ¬ n < 128) : varL n = UInt8.ofNat (n % 128 + 128) :: varL (n / 128) := by rw [varL]; simp [h]
theorem varL_pos (n : Nat) : 0 < (varL n).length := by rw [varL]; split <;> simp

theorem varL_len : ∀ (k n : Nat), n < 128 ^ k → 0 < k → (varL n).length ≤ k
  | 0, _, _, h => by omega
  | k + 1, n, hn, _ => by
    by_cases h : n < 128
    · rw [varL_small h]; simp
    · rw [varL_big h]
      have hk : 0 < k := by
        rcases Nat.eq_zero_or_pos k with rfl | h'
        · simp at hn; omega
        · exact h'
      have := varL_len k (n / 128) (by rw [Nat.pow_succ] at hn; exact Nat.div_lt_of_lt_mul (by rw [Nat.mul_comm]; exact hn)) hk
      simp only [List.length_cons]
      omega

/-- What a short number's bytes say: the number and how many bytes; none: they say nothing. Read from byte i on, n gathered. -/
def rdVar : Nat → List UInt8 → Nat → Nat → Option (Nat × Nat)
  | 0, _, _, _ => none
  | f + 1, l, i, n => match l with
    | [] => none
    | b :: r => if b.toNat < 128 then (if b.toNat = 0 ∧ 0 < i then none else some (n + b.toNat * 128 ^ i, i + 1)) else rdVar f r (i + 1) (n + (b.toNat - 128) * 128 ^ i)

def readVarF (l : List UInt8) : Option (Nat × Nat) := rdVar 9 l 0 0

/-- A long number's bytes. -/
def numL (u : Nat) : List UInt8 := (List.range 8).map fun k => UInt8.ofNat (u / 256 ^ (7 - k) % 256)
theorem numL_len (u : Nat) : (numL u).length = 8 := by simp [numL]
theorem numL_get (u k : Nat) (hk : k < 8) : (numL u)[k]? = some (UInt8.ofNat (u / 256 ^ (7 - k) % 256)) := by simp [numL, hk]

def beNat (l : List UInt8) : Nat := l.foldl (fun a b => a * 256 + b.toNat) 0

theorem beNat_lt (l : List UInt8) : beNat l < 256 ^ l.length := by
  have key : ∀ (l : List UInt8) (a k : Nat), a < 256 ^ k → l.foldl (fun a b => a * 256 + b.toNat) a < 256 ^ (k + l.length) := by
    intro l
    induction l with
    | nil => intro a k h; simpa using h
    | cons b l ih =>
      intro a k h
      have hb := b.toNat_lt
      have := ih (a * 256 + b.toNat) (k + 1) (by rw [Nat.pow_succ]; omega)
      simp only [List.foldl_cons, List.length_cons]
      rw [show k + (l.length + 1) = k + 1 + l.length by omega]
      exact this
  have := key l 0 0 (by decide)
  simpa [beNat] using this

theorem beNat_snoc (l : List UInt8) (b : UInt8) : beNat (l ++ [b]) = beNat l * 256 + b.toNat := by simp [beNat]

/-- What eight bytes say. -/
def readNumF (l : List UInt8) : Option Int := if l.length = 8 then some (IntKind.wrap .i64 (beNat l : Int)) else none

open Go Sx
set_option maxRecDepth 8000

theorem or128 (r : Nat) : (r % 256) ||| 128 = r % 128 + 128 := by
  have h : ∀ x < 256, x ||| 128 = x % 128 + 128 := by decide +kernel
  rw [h _ (Nat.mod_lt _ (by decide))]
  omega

theorem var_neg (x : Int) (w : World) (h : x < 0) : Calls Try.prog 47 #[.int .i64 x] w fun e w' => e = .returned (.slice none 0 0) ∧ w' = w := by
  apply wire_Var_vc
  exact ⟨fun _ => ⟨rfl, rfl⟩, fun h' => by simp at h'; omega⟩

theorem var_spec (m : Nat) (w : World) (hm : m < 9223372036854775808) : Calls Try.prog 47 #[.int .i64 (m : Int)] w fun e w' => ∃ a n c, e = .returned (.slice a n c) ∧ FreshB w w' a n c (varL m) := by
  have hlen := varL_len 9 m (by simpa using hm) (by decide)
  apply wire_Var_vc
  refine ⟨fun h => by simp at h; omega, fun _ => ?_⟩
  refine ⟨fun x a n c w' => ∃ (k : Nat) (pre : List UInt8), x = (k : Int) ∧ varL m = pre ++ varL k ∧ pre.length = n ∧ St w [] w' [.row 5 1 (.slice a n c) n (bv pre)], fun x _ _ _ _ => x.toNat,
    ⟨m, [], rfl, rfl, rfl, (St.start w).addNil _ _⟩, ?_⟩
  rintro x a n c w1 ⟨k, pre, rfl, he, hl, hS⟩
  have hn : n + (varL k).length ≤ 9 := by have := congrArg List.length he; simp at this; omega
  have hk1 := varL_pos k
  have key : ∀ b : Nat, b < 256 → ∃ g w2 va vc w3, (Instr.buildSlice 63 1 #[(0, .int .u8 (b : Int))]).run Try.prog w1 = .ok (.slice (some ⟨g, 0, none⟩) 1 1) w2 ∧
      (Builtin.append_ #[63, 63] 63 #[.slice a n c, .slice (some ⟨g, 0, none⟩) 1 1]).run Try.prog w2 = .ok (.slice va (n + 1) vc) w3 ∧ St w [] w3 [.row 5 1 (.slice va (n + 1) vc) (n + 1) (bv (pre ++ [UInt8.ofNat b]))] := by
    intro b hb
    obtain ⟨g, w2, hr2, h2⟩ := hS.lit bT [.int .u8 (b : Int)] (by simp [Value.oneCell']) (by simp)
    obtain ⟨va, vc, w3, hr3, h3, _, _⟩ := h2.append (i := 0) (ty := 63) bT rfl (h2.rd (i := 1) rfl) (by simp [Value.oneCell']) (by simp; omega) (by simp only [maxLen, List.length_cons, List.length_nil]; omega)
    refine ⟨g, w2, va, vc, w3, hr2, hr3, ?_⟩
    have h4 := St.pop (M := [_]) h3
    have : bv (pre ++ [UInt8.ofNat b]) = bv pre ++ [.int .u8 (b : Int)] := by
      rw [bv_append]; congr 1; simp [bv, Nat.mod_eq_of_lt hb]
    rw [this]
    exact h4
  refine ⟨fun h => ?_, fun h => ?_⟩
  · have hk : ¬ k < 128 := by simp at h; omega
    have hv : bor .u8 (IntKind.wrap .u8 (k : Int)) 128 = ((k % 128 + 128 : Nat) : Int) := by
      rw [wrap_u8, show ((k : Int) % 256) = ((k % 256 : Nat) : Int) by omega, show (128 : Int) = ((128 : Nat) : Int) from rfl, bor_nat rfl (by simp [kmod, IntKind.bits]; omega) (by simp [kmod, IntKind.bits]), or128]
    have hs : shrI .i64 (k : Int) 7 = ((k / 128 : Nat) : Int) := by rw [show (7 : Int) = ((7 : Nat) : Int) from rfl, shr_nat _ _ _ (by decide)]
    rw [hv, hs]
    obtain ⟨g, w2, va, vc, w3, hr2, hr3, h3⟩ := key (k % 128 + 128) (by omega)
    refine ⟨_, _, _, _, hr2, _, _, _, _, hr3, ⟨k / 128, pre ++ [UInt8.ofNat (k % 128 + 128)], rfl, ?_, by simp [hl], h3⟩, ?_⟩
    · rw [he, varL_big hk]; simp
    · simp; omega
  · have hk : k < 128 := by simp at h; omega
    have hv : IntKind.wrap .u8 (k : Int) = (k : Int) := by rw [wrap_u8]; omega
    rw [hv]
    obtain ⟨g, w2, va, vc, w3, hr2, hr3, h3⟩ := key k (by omega)
    refine ⟨_, _, _, _, hr2, _, _, _, _, hr3, _, _, _, rfl, ?_⟩
    rw [he, varL_small hk]
    exact h3.freshB (i := 0) rfl

/-- The three results of ReadVar. -/
def rvOut : Option (Nat × Nat) → Value
  | some (n, s) => .tuple #[.int .i64 (n : Int), .int .i64 (s : Int), errV none]
  | none => .tuple #[.int .i64 0, .int .i64 0, errV (some 9)]

theorem or_add (n b i : Nat) (hn : n < 128 ^ i) : n ||| (b * 128 ^ i) = n + b * 128 ^ i := by
  have e : 128 ^ i = 2 ^ (7 * i) := by rw [Nat.pow_mul]
  rw [e] at hn ⊢
  have := Nat.shiftLeft_add_eq_or_of_lt hn b
  rw [Nat.shiftLeft_eq] at this
  rw [Nat.or_comm, ← this, Nat.add_comm]

theorem pow128_le {i : Nat} (hi : i < 9) : 128 ^ (i + 1) ≤ 9223372036854775808 := by
  have : 128 ^ (i + 1) ≤ 128 ^ 9 := Nat.pow_le_pow_right (by decide) (by omega)
  simpa using this

theorem readVar_spec (a : Option Addr) (n c : Nat) (l : List UInt8) (w : World) (hr : RdB w a n c l) :
    Calls Try.prog 65 #[.slice a n c] w fun e w' => e = .returned (rvOut (readVarF l)) ∧ w' = w := by
  have hl := hr.lenB
  apply wire_ReadVar_vc
  refine ⟨fun x y w' => w' = w ∧ ∃ (m i : Nat), x = (m : Int) ∧ y = (i : Int) ∧ i ≤ 9 ∧ i ≤ n ∧ m < 128 ^ i ∧ rdVar (9 - i) (l.drop i) i m = readVarF l, fun _ y _ => 9 - y.toNat,
    ⟨rfl, 0, 0, rfl, rfl, by omega, by omega, by decide, rfl⟩, ?_⟩
  rintro x y w1 ⟨rfl, m, i, rfl, rfl, hi9, hin, hm, hv⟩
  refine ⟨fun h => ?_, fun h => ?_⟩
  · simp only [Bool.and_eq_true, decide_eq_true_eq] at h
    have hi : i < 9 := by omega
    have hil : i < l.length := by omega
    obtain ⟨b, hb⟩ : ∃ b, l.getD i 0 = b := ⟨_, rfl⟩
    have hdrop : l.drop i = b :: l.drop (i + 1) := by
      rw [List.drop_eq_getElem_cons hil, ← hb]; simp [List.getD, hil]
    have hf : 9 - i = (9 - (i + 1)) + 1 := by omega
    have hbl := b.toNat_lt
    rw [hdrop, hf, rdVar] at hv
    have h7 : IntKind.wrap .i64 (7 * (i : Int)) = ((7 * i : Nat) : Int) := by rw [wrap_i64 (by omega) (by omega)]; omega
    have hi1 : IntKind.wrap .i64 ((i : Int) + 1) = ((i + 1 : Nat) : Int) := by rw [wrap_i64 (by omega) (by omega)]; rfl
    rw [h7, hi1]
    have hand : IntKind.wrap .u64 (band .u8 (b.toNat : Int) 127) = ((b.toNat % 128 : Nat) : Int) := by
      rw [show (127 : Int) = ((127 : Nat) : Int) from rfl, band_nat rfl (by simp [kmod, IntKind.bits]; omega) (by simp [kmod, IntKind.bits]),
        show b.toNat &&& 127 = b.toNat % 128 from Nat.and_two_pow_sub_one_eq_mod _ 7, wrap_u64]
      omega
    have hp := pow128_le hi
    have hpow : 128 ^ i * 128 = 128 ^ (i + 1) := (Nat.pow_succ ..).symm
    have hlt : b.toNat % 128 * 128 ^ i < 9223372036854775808 := by
      have h1 : b.toNat % 128 < 128 := Nat.mod_lt _ (by decide)
      have h2 : b.toNat % 128 * 128 ^ i ≤ 127 * 128 ^ i := Nat.mul_le_mul_right _ (by omega)
      have h3 : 0 < 128 ^ i := Nat.pow_pos (by decide)
      omega
    have hshl : shlI .u64 ((b.toNat % 128 : Nat) : Int) ((7 * i : Nat) : Int) = ((b.toNat % 128 * 128 ^ i : Nat) : Int) := by
      rw [shl_nat rfl _ _ (by simp [IntKind.bits]; omega), show 2 ^ (7 * i) = 128 ^ i by rw [Nat.pow_mul], Nat.mod_eq_of_lt (by simp [kmod, IntKind.bits]; omega)]
    have hsum : m + b.toNat % 128 * 128 ^ i < 128 ^ (i + 1) := by
      have h1 : b.toNat % 128 < 128 := Nat.mod_lt _ (by decide)
      have h2 : b.toNat % 128 * 128 ^ i ≤ 127 * 128 ^ i := Nat.mul_le_mul_right _ (by omega)
      omega
    have hor : bor .u64 (m : Int) ((b.toNat % 128 * 128 ^ i : Nat) : Int) = ((m + b.toNat % 128 * 128 ^ i : Nat) : Int) := by
      rw [bor_nat rfl (by simp [kmod, IntKind.bits]; omega) (by simp [kmod, IntKind.bits]; omega), or_add _ _ _ hm]
    have hw : IntKind.wrap .i64 ((m + b.toNat % 128 * 128 ^ i : Nat) : Int) = ((m + b.toNat % 128 * 128 ^ i : Nat) : Int) := wrap_i64_nat _ (by omega)
    refine ixB (bA _) hr.cells hl (by omega) (by omega) fun _ _ _ => ?_
    simp only [Int.toNat_natCast, hb, hand, hshl, hor, hw]
    refine ⟨by omega, ixB (bA _) hr.cells hl (by omega) (by omega) fun _ _ _ => ?_⟩
    simp only [Int.toNat_natCast, hb]
    refine ⟨fun h1 => ixB (bA _) hr.cells hl (by omega) (by omega) fun _ _ _ => ?_, fun h1 => ?_⟩
    · simp only [decide_eq_true_eq] at h1
      rw [if_pos (by omega)] at hv
      simp only [Int.toNat_natCast, hb]
      refine ⟨fun h2 => ?_, fun h2 => ?_⟩
      · simp only [Bool.and_eq_true, beq_iff_eq, decide_eq_true_eq] at h2
        rw [if_pos (by omega)] at hv
        rw [← hv]
        exact ⟨rfl, trivial⟩
      · rw [if_neg (by intro h3; simp at h2; omega)] at hv
        rw [← hv, Nat.mod_eq_of_lt (by omega)]
        exact ⟨rfl, trivial⟩
    · simp only [decide_eq_false_iff_not] at h1
      rw [if_neg (by omega)] at hv
      refine ⟨⟨trivial, m + b.toNat % 128 * 128 ^ i, i + 1, rfl, rfl, by omega, by omega, hsum, ?_⟩, by omega⟩
      rw [← hv, show b.toNat % 128 = b.toNat - 128 by omega]
  · have : 9 - i = 0 ∨ l.drop i = [] := by
      simp at h
      rcases Nat.lt_or_ge i 9 with h1 | h1
      · right; exact List.drop_eq_nil_of_le (by omega)
      · left; omega
    have h0 : readVarF l = none := by
      rw [← hv]
      rcases this with h1 | h1
      · rw [h1]; rfl
      · rw [h1]; cases 9 - i <;> rfl
    rw [h0]
    exact ⟨rfl, rfl⟩

theorem take_succ_get {l : List UInt8} {j : Nat} {b : UInt8} (h : l[j]? = some b) : l.take (j + 1) = l.take j ++ [b] := by
  rw [List.take_add_one, h]; rfl

theorem be_step (m b : Nat) (hb : b < 256) (hm : m < 72057594037927936) : bor .u64 (shlI .u64 (m : Int) (8 : Int)) (IntKind.wrap .u64 (b : Int)) = ((m * 256 + b : Nat) : Int) := by
  rw [show (8 : Int) = ((8 : Nat) : Int) from rfl, shl_nat rfl _ _ (by decide), Nat.mod_eq_of_lt (by simp [kmod, IntKind.bits]; omega), wrap_u64, show ((b : Int) % 18446744073709551616) = (b : Int) by omega,
    bor_nat rfl (by simp [kmod, IntKind.bits]; omega) (by simp [kmod, IntKind.bits]; omega)]
  have := Nat.shiftLeft_add_eq_or_of_lt (show b < 2 ^ 8 by omega) m
  rw [Nat.shiftLeft_eq] at this
  rw [← this]

/-- The two results of ReadNum. -/
def rnOut : Option Int → Value
  | some x => .tuple #[.int .i64 x, errV none]
  | none => .tuple #[.int .i64 0, errV (some 9)]

theorem pow256_le {i : Nat} (hi : i < 8) : 256 ^ i ≤ 72057594037927936 := by
  have : 256 ^ i ≤ 256 ^ 7 := Nat.pow_le_pow_right (by decide) (by omega)
  simpa using this

open Go Sx
set_option maxRecDepth 8000

/-- Fields, one behind the other. -/
def packL (ls : List (List UInt8)) : List UInt8 := (ls.map fun l => varL l.length ++ l).flatten

theorem packL_take {ls : List (List UInt8)} {i : Nat} (h : i < ls.length) : packL (ls.take (i + 1)) = packL (ls.take i) ++ varL (ls.getD i []).length ++ ls.getD i [] := by
  rw [List.take_add_one, List.getElem?_eq_getElem h, packL, packL, List.map_append, List.flatten_append, List.append_assoc]
  congr 1
  simp [List.getD, h]

theorem packL_len : ∀ ls : List (List UInt8), (∀ l ∈ ls, l.length < 9223372036854775808) → (packL ls).length ≤ ls.flatten.length + 9 * ls.length
  | [], _ => by simp [packL]
  | l :: ls, h => by
    have ih := packL_len ls fun x hx => h x (by simp [hx])
    have h9 := varL_len 9 l.length (by have := h l (by simp); simpa using this) (by decide)
    have e : packL (l :: ls) = varL l.length ++ l ++ packL ls := by simp [packL]
    rw [e]
    simp only [List.length_append, List.flatten_cons, List.length_cons]
    omega

theorem mem_le_flat {ls : List (List UInt8)} {l : List UInt8} (h : l ∈ ls) : l.length ≤ ls.flatten.length := by
  obtain ⟨i, hi, rfl⟩ := List.getElem_of_mem h
  have := getD_le_flat hi
  simpa [List.getD, hi] using this

theorem packL_bound {ls : List (List UInt8)} (h : ls.flatten.length ≤ 67108864) (i : Nat) : (packL (ls.take i)).length ≤ 67108864 + 9 * ls.length := by
  have h1 := packL_len (ls.take i) fun l hl => by have := mem_le_flat (List.mem_of_mem_take hl); omega
  have h2 := flat_take_le ls i
  have h3 : (ls.take i).length ≤ ls.length := by rw [List.length_take]; omega
  omega

/-- A slice that may be read wherever another may. -/
def SubB (a : Option Addr) (n c : Nat) (l : List UInt8) (a' : Option Addr) (n' c' : Nat) (l' : List UInt8) : Prop := ∀ v : World, RdB v a n c l → RdB v a' n' c' l'

/-- A Reader in memory, and what it has not read yet; none: it is broken. -/
def RdrA (g T : Nat) (a : Option Addr) (n c : Nat) (st : Option (List UInt8)) (w : World) : Prop := w.heap[g]? = some (.cells #[.slice a n c, .bool st.isNone] T)

/-- Behind a call of a Reader. -/
def RdrP (g T : Nat) (a : Option Addr) (n c : Nat) (st st' : Option (List UInt8)) (w' : World) : Prop := ∃ a' n' c', RdrA g T a' n' c' st' w' ∧ SubB a n c (st.getD []) a' n' c' (st'.getD [])

theorem rdr_ne (a : Option Addr) (n c : Nat) (t : Bool) (l : List UInt8) : ∀ v ∈ bv l, v ∉ (#[Value.slice a n c, .bool t] : Array Value).toList := by
  intro v hv
  simp only [bv, List.mem_map] at hv
  obtain ⟨b, _, rfl⟩ := hv
  simp

theorem fail_spec (g T : Nat) (a : Option Addr) (n c : Nat) (t : Bool) (w : World) (hg : w.heap[g]? = some (.cells #[.slice a n c, .bool t] T)) :
    Calls Try.prog 66 #[.pointer (some ⟨g, 0, none⟩)] w fun e w' => e = .returned (.tuple #[]) ∧ Chg [g] w w' ∧ w'.heap[g]? = some (.cells #[.slice none 0 0, .bool true] T) := by
  apply wire_Reader_fail_vc
  have s1 : ∀ w, (sizeOf 4).run Try.prog w = .ok 1 w := fun w => Try.sizeOf4 w
  have s2 : ∀ w, (sizeOf 63).run Try.prog w = .ok 1 w := fun w => Try.sizeOf63 w
  obtain ⟨w1, r1, h1⟩ := (St.ofBlk hg).st (i := 0) (o := 1) (v := .bool true) rfl (s1 _) (by simp) rfl
  obtain ⟨w2, r2, h2⟩ := h1.st (i := 0) (o := 0) (v := .slice none 0 0) rfl (s2 _) (by simp) rfl
  exact ⟨w1, r1, w2, r2, rfl, h2.chg, h2.holds 0 _ rfl⟩

/-- What raw does. -/
def rawF (st : Option (List UInt8)) (x : Int) : Option (List UInt8 × List UInt8) := st.bind fun l => if 0 ≤ x ∧ x ≤ (l.length : Int) then some (l.take x.toNat, l.drop x.toNat) else none

theorem raw_spec (g T : Nat) (st : Option (List UInt8)) (x : Int) (a : Option Addr) (n c : Nat) (w : World) (hg : RdrA g T a n c st w) (hr : RdB w a n c (st.getD [])) :
    Calls Try.prog 64 #[.pointer (some ⟨g, 0, none⟩), .int .i64 x] w fun e w' => ∃ a' n' c', e = .returned (.slice a' n' c') ∧ Chg [g] w w' ∧ RdrP g T a n c st ((rawF st x).map (·.2)) w' ∧ RdB w' a' n' c' (((rawF st x).map (·.1)).getD []) := by
  unfold RdrA at hg
  have iB : ∀ w, (isAgg 4).run Try.prog w = .ok false w := fun w => Try.isAgg4 w
  have s2 : ∀ w, (sizeOf 63).run Try.prog w = .ok 1 w := fun w => Try.sizeOf63 w
  have hl := hr.lenB
  have hle := hr.le
  have hS := St.ofBlk hg
  have ld0 := hS.ld (i := 0) (o := 0) (P := Try.prog) (v := .slice a n c) rfl (bsA _) rfl
  have ld1' := hS.ld (i := 0) (o := 1) (P := Try.prog) (v := .bool st.isNone) rfl (iB _) rfl
  apply wire_Reader_raw_vc
  refine ⟨fun b w' => b = decide (x < 0 ∨ (n : Int) < x) ∧ w' = w, ⟨fun h => ?_, fun h => ⟨a, n, c, ld0, ?_, rfl⟩⟩, ?_⟩
  · simp at h; exact ⟨by simp [h], rfl⟩
  · simp at h; simp [show ¬ x < 0 by omega]
  rintro b w1 ⟨rfl, rfl⟩
  refine ⟨fun w' => (¬ (x < 0 ∨ (n : Int) < x) ∧ w' = w1) ∨ ((x < 0 ∨ (n : Int) < x) ∧ Chg [g] w1 w' ∧ w'.heap[g]? = some (.cells #[.slice none 0 0, .bool true] T)), ⟨fun h => ?_, fun h => ?_⟩, ?_⟩
  · refine (fail_spec g T a n c _ w1 hg).mono ?_
    rintro e w2 ⟨rfl, hc2, hg2⟩
    exact ⟨rfl, .inr ⟨by simpa using h, hc2, hg2⟩⟩
  · exact .inl ⟨by simpa using h, rfl⟩
  rintro w2 (⟨hx, rfl⟩ | ⟨hx, hc2, hg2⟩)
  · refine ⟨_, ld1', fun h => ?_, fun h => ?_⟩
    · cases st with
      | some l => simp at h
      | none =>
        refine ⟨_, _, _, rfl, Chg.refl _ _, ?_, ?_⟩
        · exact ⟨a, n, c, hg, fun v hv => by simpa [rawF] using hv⟩
        · simpa [rawF] using rdNil _
    · cases st with
      | none => simp at h
      | some l =>
        simp only [Option.getD_some] at hr hl
        have hxn : 0 ≤ x ∧ x ≤ (n : Int) := by omega
        obtain ⟨m, rfl⟩ := Int.eq_ofNat_of_zero_le hxn.1
        refine ⟨_, _, _, ld0, by omega, by omega, by omega, _, _, _, ld0, by omega, by omega, by omega, fun a2 hs2 => ?_⟩
        simp only [Int.toNat_natCast] at hs2 ⊢
        obtain ⟨w3, r3, h3⟩ := hS.st (i := 0) (o := 0) (P := Try.prog) (v := .slice a2 (n - m) (c - m)) rfl (s2 _) (by simp) rfl
        have hc3 := h3.chg
        have hrf : rawF (some l) (m : Int) = some (l.take m, l.drop m) := by simp [rawF]; omega
        rw [hrf]
        have e1 : ((bv l).drop (m * 1)).take ((n - m) * 1) = bv (l.drop m) := by
          rw [Nat.mul_one, Nat.mul_one, List.take_of_length_le (by simp; omega), bv_drop]
        refine ⟨w3, r3, _, _, _, rfl, hc3, ⟨a2, n - m, c - m, h3.holds 0 _ rfl, fun v hv => ?_⟩, ?_⟩
        · have hsub := (show RdB v a n c l from hv).sub hs2 (hh := n) (by omega) (Nat.le_refl _) hle (Nat.le_refl _)
          rw [e1] at hsub
          exact hsub
        · have h0 : SubA 1 a 0 c a := ⟨fun _ => rfl, fun _ => by cases a <;> simp [Addr.add]⟩
          have := hr.sub h0 (hh := m) (by omega) (by omega) (by omega) (Nat.le_refl _)
          have e2 : ((bv l).drop (0 * 1)).take ((m - 0) * 1) = bv (l.take m) := by simp [bv_take]
          rw [e2] at this
          have h4 := this.keepG hg (rdr_ne _ _ _ _ _) hc3
          exact ⟨h4.cells, by simpa using h4.len, Nat.le_refl _, fun ha => by have := hr.nil ha; omega⟩
  · have hS2 := St.ofBlk hg2
    refine ⟨true, hS2.ld (i := 0) (o := 1) (P := Try.prog) (v := .bool true) rfl (iB _) rfl, fun _ => ?_, fun h => by cases h⟩
    have hrf : rawF st x = none := by
      cases st with
      | none => rfl
      | some l =>
        simp only [Option.getD_some] at hl
        simp [rawF]; omega
    rw [hrf]
    exact ⟨_, _, _, rfl, hc2, ⟨none, 0, 0, hg2, fun v _ => rdNil v⟩, rdNil _⟩

theorem rRaw_spec (g T : Nat) (st : Option (List UInt8)) (x : Int) (a : Option Addr) (n c : Nat) (w : World) (hg : RdrA g T a n c st w) (hr : RdB w a n c (st.getD [])) (hb : (st.getD []).length ≤ 140737488355000) :
    Calls Try.prog 51 #[.pointer (some ⟨g, 0, none⟩), .int .i64 x] w fun e w' => ∃ a' n' c', e = .returned (.slice a' n' c') ∧ FreshX [g] w w' a' n' c' (((rawF st x).map (·.1)).getD []) ∧ RdrP g T a n c st ((rawF st x).map (·.2)) w' := by
  apply wire_Reader_Raw_vc
  refine (raw_spec g T st x a n c w hg hr).mono ?_
  rintro e w1 ⟨a1, n1, c1, rfl, hc1, hv1, hr1⟩
  have hl := hr1.lenB
  have hn : n1 ≤ 140737488355000 := by
    rw [← hl]
    cases st with
    | none => simp [rawF]
    | some l =>
      simp only [Option.getD_some] at hb
      simp only [rawF, Option.bind_some]
      split
      · simp; omega
      · simp
  refine ⟨_, _, _, rfl, (clone_spec a1 n1 c1 _ w1 hr1 hn).mono ?_⟩
  rintro e w2 ⟨a2, c2, rfl, hf⟩
  obtain ⟨a3, n3, c3, hg3, hr3⟩ := hv1
  unfold RdrA at hg3
  refine ⟨_, _, _, rfl, _, _, _, rfl, hf.after hc1, a3, n3, c3, ?_, hr3⟩
  unfold RdrA
  rw [hf.1.block g (Array.getElem?_eq_some_iff.1 hg3).1 (by simp)]
  exact hg3

theorem rdVar_some : ∀ (f : Nat) (l : List UInt8) (i n m s : Nat), rdVar f l i n = some (m, s) → n < 128 ^ i → i < s ∧ s ≤ i + l.length ∧ s ≤ i + f ∧ m < 128 ^ s
  | 0, _, _, _, _, _, h, _ => by simp [rdVar] at h
  | f + 1, [], i, n, m, s, h, _ => by simp [rdVar] at h
  | f + 1, b :: r, i, n, m, s, h, hn => by
    have hp : 128 ^ (i + 1) = 128 ^ i * 128 := Nat.pow_succ ..
    have hpos : 0 < 128 ^ i := Nat.pow_pos (by decide)
    have hbl := b.toNat_lt
    simp only [rdVar] at h
    split at h
    · rename_i hb
      split at h
      · cases h
      · simp only [Option.some.injEq, Prod.mk.injEq] at h
        obtain ⟨rfl, rfl⟩ := h
        have : b.toNat * 128 ^ i ≤ 127 * 128 ^ i := Nat.mul_le_mul_right _ (by omega)
        refine ⟨by omega, by simp only [List.length_cons]; omega, by omega, by omega⟩
    · rename_i hb
      have : (b.toNat - 128) * 128 ^ i ≤ 127 * 128 ^ i := Nat.mul_le_mul_right _ (by omega)
      obtain ⟨h1, h2, h3, h4⟩ := rdVar_some f r (i + 1) _ m s h (by omega)
      refine ⟨by omega, by simp only [List.length_cons]; omega, by omega, h4⟩

theorem readVarF_some {l : List UInt8} {n s : Nat} (h : readVarF l = some (n, s)) : 1 ≤ s ∧ s ≤ l.length ∧ s ≤ 9 ∧ n < 9223372036854775808 := by
  obtain ⟨h1, h2, h3, h4⟩ := rdVar_some 9 l 0 0 n s h (by decide)
  have : 128 ^ s ≤ 128 ^ 9 := Nat.pow_le_pow_right (by decide) (by omega)
  refine ⟨by omega, by omega, by omega, by omega⟩

/-- What Var does. -/
def varF (st : Option (List UInt8)) : Option (Nat × List UInt8) := st.bind fun l => (readVarF l).map fun p => (p.1, l.drop p.2)

theorem rVar_spec (g T : Nat) (st : Option (List UInt8)) (a : Option Addr) (n c : Nat) (w : World) (hg : RdrA g T a n c st w) (hr : RdB w a n c (st.getD [])) :
    Calls Try.prog 52 #[.pointer (some ⟨g, 0, none⟩)] w fun e w' => e = .returned (.int .i64 ((((varF st).map (·.1)).getD 0 : Nat) : Int)) ∧ Chg [g] w w' ∧ RdrP g T a n c st ((varF st).map (·.2)) w' := by
  unfold RdrA at hg
  have iB : ∀ w, (isAgg 4).run Try.prog w = .ok false w := fun w => Try.isAgg4 w
  have s2 : ∀ w, (sizeOf 63).run Try.prog w = .ok 1 w := fun w => Try.sizeOf63 w
  have hl := hr.lenB
  have hle := hr.le
  have hS := St.ofBlk hg
  have ld0 := hS.ld (i := 0) (o := 0) (P := Try.prog) (v := .slice a n c) rfl (bsA _) rfl
  have ld1' := hS.ld (i := 0) (o := 1) (P := Try.prog) (v := .bool st.isNone) rfl (iB _) rfl
  obtain ⟨m, hI⟩ := eI
  apply wire_Reader_Var_vc
  refine ⟨_, ld1', fun h => ?_, fun h => ?_⟩
  · cases st with
    | some l => simp at h
    | none => exact ⟨rfl, Chg.refl _ _, a, n, c, hg, fun v hv => by simpa [varF] using hv⟩
  cases st with
  | none => simp at h
  | some l =>
  simp only [Option.getD_some] at hr hl
  refine ⟨_, _, _, ld0, (readVar_spec a n c l w hr).mono ?_⟩
  rintro e w1 ⟨rfl, rfl⟩
  have hvf : varF (some l) = (readVarF l).map fun p => (p.1, l.drop p.2) := rfl
  rw [hvf]
  cases hrv : readVarF l with
  | none =>
    refine ⟨_, _, _, rfl, _, neqS_nil hI (some 9) _ _, fun _ => (fail_spec g T a n c _ w1 hg).mono ?_, fun h => by simp at h⟩
    rintro e w2 ⟨rfl, hc2, hg2⟩
    exact ⟨rfl, rfl, hc2, none, 0, 0, hg2, fun v _ => rdNil v⟩
  | some p =>
    obtain ⟨k, s⟩ := p
    obtain ⟨h1, h2, _, h4⟩ := readVarF_some hrv
    refine ⟨_, _, _, rfl, _, neqS_nil hI none _ _, fun h => by simp at h, fun _ => ⟨_, _, _, ld0, by omega, by omega, by omega, fun a2 hs2 => ?_⟩⟩
    simp only [Int.toNat_natCast] at hs2 ⊢
    obtain ⟨w3, r3, h3⟩ := hS.st (i := 0) (o := 0) (P := Try.prog) (v := .slice a2 (n - s) (c - s)) rfl (s2 _) (by simp) rfl
    have e1 : ((bv l).drop (s * 1)).take ((n - s) * 1) = bv (l.drop s) := by
      rw [Nat.mul_one, Nat.mul_one, List.take_of_length_le (by simp; omega), bv_drop]
    refine ⟨w3, r3, rfl, h3.chg, a2, n - s, c - s, h3.holds 0 _ rfl, fun v hv => ?_⟩
    have hsub := (show RdB v a n c l from hv).sub hs2 (hh := n) (by omega) (Nat.le_refl _) hle (Nat.le_refl _)
    rw [e1] at hsub
    exact hsub

/-- The field with which bytes begin, and the rest. -/
def fieldF (l : List UInt8) : Option (List UInt8 × List UInt8) := (readVarF l).bind fun p => if p.1 ≤ 67108864 ∧ p.1 + p.2 ≤ l.length then some ((l.drop p.2).take p.1, l.drop (p.2 + p.1)) else none

theorem fieldF_some {l f r : List UInt8} (h : fieldF l = some (f, r)) : ∃ s, readVarF l = some (f.length, s) ∧ f = (l.drop s).take f.length ∧ r = l.drop (s + f.length) ∧ 1 ≤ s ∧ s + f.length + r.length = l.length ∧ f.length ≤ 67108864 := by
  unfold fieldF at h
  cases hv : readVarF l with
  | none => rw [hv] at h; cases h
  | some p =>
    obtain ⟨n, s⟩ := p
    rw [hv] at h
    simp only [Option.bind_some] at h
    split at h
    · rename_i hc
      simp only [Option.some.injEq, Prod.mk.injEq] at h
      obtain ⟨rfl, rfl⟩ := h
      have hlen : ((l.drop s).take n).length = n := by simp; omega
      obtain ⟨h1, h2, _, _⟩ := readVarF_some hv
      refine ⟨s, by rw [hlen], by rw [hlen], by rw [hlen], h1, ?_, by omega⟩
      rw [hlen]; simp; omega
    · cases h

open Go Sx
set_option maxRecDepth 8000

/-- What n fields are. -/
def unpackF : Nat → List UInt8 → Option (List (List UInt8))
  | 0, l => if l = [] then some [] else none
  | k + 1, l => (fieldF l).bind fun p => (unpackF k p.2).map (p.1 :: ·)

def unpackZ (x : Int) (l : List UInt8) : Option (List (List UInt8)) := if x < 0 then none else unpackF x.toNat l

/-- Lists in rows of their own, in a row of its own. -/
structure OwnL (w w' : World) (a : Option Addr) (n c : Nat) (vs : List Value) (ls : List (List UInt8)) : Prop where
  st : St w [] w' (.row 63 1 (.slice a n c) n vs :: rowsL vs ls) 
  len : vs.length = ls.length
  hd : ∀ i, i < ls.length → ∃ a c, vs[i]? = some (.slice a (ls.getD i []).length c)

theorem rowsL_snoc {vs : List Value} {ls : List (List UInt8)} (h : vs.length = ls.length) (v : Value) (l : List UInt8) : rowsL (vs ++ [v]) (ls ++ [l]) = rowsL vs ls ++ [.row 5 1 v l.length (bv l)] := by
  rw [rowsL, List.zipWith_append h]; rfl

theorem hd_snoc {vs : List Value} {ls : List (List UInt8)} (h : vs.length = ls.length) (hd : ∀ i, i < ls.length → ∃ a c, vs[i]? = some (.slice a (ls.getD i []).length c)) (a : Option Addr) (c : Nat) (l : List UInt8) :
    ∀ i, i < (ls ++ [l]).length → ∃ a' c', (vs ++ [Value.slice a l.length c])[i]? = some (.slice a' ((ls ++ [l]).getD i []).length c') := by
  intro i hi
  by_cases hlt : i < ls.length
  · obtain ⟨a', c', h1⟩ := hd i hlt
    refine ⟨a', c', ?_⟩
    rw [List.getElem?_append_left (by omega), h1]
    simp [List.getD, List.getElem?_append_left hlt]
  · have : i = ls.length := by simp at hi; omega
    subst this
    refine ⟨a, c, ?_⟩
    rw [List.getElem?_append_right (by omega), h, Nat.sub_self]
    simp [List.getD]

theorem OwnL.row2 {w w' : World} {a : Option Addr} {n c : Nat} {vs : List Value} {ls : List (List UInt8)} (h : OwnL w w' a n c vs ls) : Row2 w' vs ls := by
  refine ⟨h.len, fun i hi => ?_⟩
  obtain ⟨a', c', h1⟩ := h.hd i hi
  refine ⟨a', _, c', h1, h.st.rd (i := i + 1) (e := 5) ?_⟩
  rw [List.getElem?_cons_succ, rowsL_get h.len hi]
  simp [List.getD, h1]

theorem OwnL.rd {w w' : World} {a : Option Addr} {n c : Nat} {vs : List Value} {ls : List (List UInt8)} (h : OwnL w w' a n c vs ls) : Rd w' a n c 1 vs := h.st.rd (i := 0) rfl
theorem OwnL.num {w w' : World} {a : Option Addr} {n c : Nat} {vs : List Value} {ls : List (List UInt8)} (h : OwnL w w' a n c vs ls) : ls.length = n := by have := h.rd.len; have := h.len; omega

theorem OwnL.same {w0 w w' : World} {a : Option Addr} {n c : Nat} {vs : List Value} {ls : List (List UInt8)} (h : OwnL w0 w a n c vs ls) (hc : Chg [] w w') : OwnL w0 w' a n c vs ls := ⟨h.st.same hc, h.len, h.hd⟩

theorem OwnL.nil (w : World) : OwnL w w none 0 0 [] [] := ⟨(St.start w).addNil _ _, rfl, by simp⟩

theorem unpackF_len : ∀ (k : Nat) (l : List UInt8) (fs : List (List UInt8)), unpackF k l = some fs → fs.length = k ∧ fs.length + fs.flatten.length ≤ l.length
  | 0, l, fs, h => by
    simp only [unpackF] at h
    split at h
    · simp only [Option.some.injEq] at h; subst h; simp
    · cases h
  | k + 1, l, fs, h => by
    simp only [unpackF, Option.bind_eq_some_iff, Option.map_eq_some_iff] at h
    obtain ⟨⟨f, r⟩, h1, gs, h2, rfl⟩ := h
    obtain ⟨s, _, _, _, h3, h4, _⟩ := fieldF_some h1
    obtain ⟨h5, h6⟩ := unpackF_len k r gs h2
    simp only [List.length_cons, List.flatten_cons, List.length_append]
    omega

theorem built_reader : Try.prog.built 103 = fun parts => Instr.fill (fun i => (#[(0, 1), (1, 1)] : Array (Nat × Nat))[i]?) #[.slice none 0 0, .bool false] parts := by kernel_rfl

theorem reader_build (a : Option Addr) (n c : Nat) (w : World) : (Instr.build 103 #[(0, .slice a n c)]).run Try.prog w = .ok (.agg #[.slice a n c, .bool false]) w := by
  apply run_build
  rw [built_reader]
  show Instr.fill _ _ [(0, .slice a n c)] = _
  rw [fill_step (off := 0) (sz := 1) rfl (by simp [Value.cells]) (by simp)]
  simp [Instr.fill, Value.cells]

open Go Sx
set_option maxRecDepth 8000

theorem rvar_neg (x : Int) (w : World) (h : x < 0) : Calls Try.prog 48 #[.int .i64 x] w fun e w' => e = .returned (.slice none 0 0) ∧ w' = w := by
  apply amphoraref04_Var_vc
  refine ⟨fun x' _ _ _ w' => x' < 0 ∧ w' = w, fun _ _ _ _ _ => 0, ⟨h, rfl⟩, ?_⟩
  rintro x' a n c w1 ⟨hx, rfl⟩
  exact ⟨fun h' => by simp at h'; omega, fun _ => ⟨rfl, rfl⟩⟩

theorem rvar_spec (m : Nat) (w : World) (hm : m < 9223372036854775808) : Calls Try.prog 48 #[.int .i64 (m : Int)] w fun e w' => ∃ a n c, e = .returned (.slice a n c) ∧ FreshB w w' a n c (varL m) := by
  have hlen := varL_len 9 m (by simpa using hm) (by decide)
  apply amphoraref04_Var_vc
  refine ⟨fun x a n c w' => ∃ (k : Nat) (pre : List UInt8), x = (k : Int) ∧ k < 9223372036854775808 ∧ varL m = pre ++ varL k ∧ pre.length = n ∧ St w [] w' [.row 5 1 (.slice a n c) n (bv pre)], fun x _ _ _ _ => x.toNat,
    ⟨m, [], rfl, hm, rfl, rfl, (St.start w).addNil _ _⟩, ?_⟩
  rintro x a n c w1 ⟨k, pre, rfl, hk, he, hl, hS⟩
  have hn : n + (varL k).length ≤ 9 := by have := congrArg List.length he; simp at this; omega
  have hk1 := varL_pos k
  have hd : IntKind.wrap .i64 (Int.tdiv (k : Int) 128) = ((k / 128 : Nat) : Int) := by rw [show Int.tdiv (k : Int) 128 = ((k / 128 : Nat) : Int) by rw [Int.tdiv_eq_ediv_of_nonneg (by omega)]; omega]; exact wrap_i64_nat _ (by omega)
  have hmo : Int.tmod (k : Int) 128 = ((k % 128 : Nat) : Int) := by rw [Int.tmod_eq_emod_of_nonneg (by omega)]; omega
  refine ⟨fun _ => ?_, fun h => by simp at h⟩
  rw [hd, hmo]
  refine ⟨fun h => ?_, fun h => ?_⟩
  · have hk0 : k < 128 := by simp at h; omega
    have hv : IntKind.wrap .u8 ((k % 128 : Nat) : Int) = (k : Int) := by rw [wrap_u8]; omega
    rw [hv]
    obtain ⟨g, w2, va, vc, w3, hr2, hr3, h3, _⟩ := hS.push1 (i := 0) rfl (by omega) k (by omega)
    refine ⟨_, _, _, _, hr2, _, _, _, _, hr3, _, _, _, rfl, ?_⟩
    rw [he, varL_small hk0]
    exact h3.freshB (i := 0) rfl
  · have hk0 : ¬ k < 128 := by simp at h; omega
    have hv : IntKind.wrap .u8 (IntKind.wrap .i64 (((k % 128 : Nat) : Int) + 128)) = ((k % 128 + 128 : Nat) : Int) := by
      rw [wrap_i64 (by omega) (by omega), wrap_u8]; omega
    rw [hv]
    obtain ⟨g, w2, va, vc, w3, hr2, hr3, h3, _⟩ := hS.push1 (i := 0) rfl (by omega) (k % 128 + 128) (by omega)
    refine ⟨_, _, _, _, hr2, _, _, _, _, hr3, ⟨k / 128, pre ++ [UInt8.ofNat (k % 128 + 128)], rfl, by omega, ?_, by simp [hl], h3⟩, ?_⟩
    · rw [he, varL_big hk0]; simp
    · simp; omega

/-- What the bytes of a number say that has not ended, and one more. -/
def valL : List UInt8 → Nat → Nat
  | [], b => b
  | p :: ps, b => (p.toNat - 128) + 128 * valL ps b

theorem valL_snoc (ps : List UInt8) (p : UInt8) (b : Nat) : valL (ps ++ [p]) b = valL ps ((p.toNat - 128) + 128 * b) := by
  induction ps with
  | nil => rfl
  | cons q ps ih => simp [valL, ih]

theorem valL_pos : ∀ (ps : List UInt8) (b : Nat), 0 < b → 0 < valL ps b
  | [], _, h => h
  | p :: ps, b, h => by have := valL_pos ps b h; simp only [valL]; omega

theorem ofNat_toNat8 (p : UInt8) : UInt8.ofNat p.toNat = p := by simp

theorem varL_valL : ∀ (ps : List UInt8) (b : UInt8), (∀ p ∈ ps, 128 ≤ p.toNat) → b.toNat < 128 → (b.toNat ≠ 0 ∨ ps = []) → varL (valL ps b.toNat) = ps ++ [b]
  | [], b, _, hb, _ => by simp [valL, varL_small hb]
  | p :: ps, b, hp, hb, h => by
    have hb0 : b.toNat ≠ 0 := h.resolve_right (by simp)
    have hpos := valL_pos ps b.toNat (by omega)
    have h1 := hp p (by simp)
    have h2 := p.toNat_lt
    have ih := varL_valL ps b (fun q hq => hp q (by simp [hq])) hb (.inl hb0)
    rw [valL, varL_big (by omega), show (p.toNat - 128 + 128 * valL ps b.toNat) / 128 = valL ps b.toNat by omega, ih, show (p.toNat - 128 + 128 * valL ps b.toNat) % 128 + 128 = p.toNat by omega, ofNat_toNat8]
    rfl

theorem varL_valL_ne : ∀ (ps : List UInt8), ps ≠ [] → (∀ p ∈ ps, 128 ≤ p.toNat) → varL (valL ps 0) ≠ ps ++ [0]
  | [], h, _ => absurd rfl h
  | p :: ps, _, hp => by
    have h1 := hp p (by simp)
    have h2 := p.toNat_lt
    intro he
    rw [valL] at he
    by_cases h0 : valL ps 0 = 0
    · rw [h0, varL_small (by omega)] at he
      have := congrArg List.length he
      simp at this
    · rw [varL_big (by omega), show (p.toNat - 128 + 128 * valL ps 0) / 128 = valL ps 0 by omega] at he
      have hps : ps ≠ [] := by rintro rfl; exact h0 rfl
      simp only [List.cons_append, List.cons.injEq] at he
      exact varL_valL_ne ps hps (fun q hq => hp q (by simp [hq])) he.2

/-- The three results of the reference's ReadVar. -/
def rvOutR : Option (Nat × Nat) → Value
  | some (n, s) => .tuple #[.int .i64 (n : Int), .int .i64 (s : Int), .int .i64 0]
  | none => .tuple #[.int .i64 0, .int .i64 0, .int .i64 9]

theorem rreadVar_spec (a : Option Addr) (n c : Nat) (l : List UInt8) (w : World) (hr : RdB w a n c l) :
    Calls Try.prog 68 #[.slice a n c] w fun e w' => e = .returned (rvOutR (readVarF l)) ∧ Chg [] w w' := by
  have hl := hr.lenB
  have hle := hr.le
  apply amphoraref04_ReadVar_vc
  refine ⟨fun x u y w' => Chg [] w w' ∧ ∃ (m i : Nat), x = (m : Int) ∧ y = (i : Int) ∧ i ≤ 9 ∧ i ≤ n ∧ (i < 9 → u = ((128 ^ i : Nat) : Int)) ∧ m < 128 ^ i ∧ (∀ p ∈ l.take i, 128 ≤ p.toNat) ∧ (∀ b, m + b * 128 ^ i = valL (l.take i) b) ∧ rdVar (9 - i) (l.drop i) i m = readVarF l, fun _ _ y _ => 9 - y.toNat,
    ⟨Chg.refl _ _, 0, 0, rfl, rfl, by omega, by omega, fun _ => rfl, by decide, by simp, by simp [valL], rfl⟩, ?_⟩
  rintro x u y w1 ⟨hc1, m, i, rfl, rfl, hi9, hin, hu, hm, hpre, hval, hv⟩
  refine ⟨fun h => ?_, fun h => ?_⟩
  · simp only [Bool.and_eq_true, decide_eq_true_eq] at h
    have hi : i < 9 := by omega
    have hil : i < l.length := by omega
    obtain rfl := hu hi
    obtain ⟨b, hb⟩ : ∃ b, l.getD i 0 = b := ⟨_, rfl⟩
    have hget : l[i]? = some b := by rw [← hb]; simp [List.getD, hil]
    have hdrop : l.drop i = b :: l.drop (i + 1) := by
      rw [List.drop_eq_getElem_cons hil, ← hb]; simp [List.getD, hil]
    have hf : 9 - i = (9 - (i + 1)) + 1 := by omega
    have hbl := b.toNat_lt
    rw [hdrop, hf, rdVar] at hv
    have hi1 : IntKind.wrap .i64 ((i : Int) + 1) = ((i + 1 : Nat) : Int) := by rw [wrap_i64 (by omega) (by omega)]; rfl
    rw [hi1]
    have hp := pow128_le hi
    have hpow : 128 ^ i * 128 = 128 ^ (i + 1) := (Nat.pow_succ ..).symm
    have h3 : 0 < 128 ^ i := Nat.pow_pos (by decide)
    have hmod : b.toNat % 128 < 128 := Nat.mod_lt _ (by decide)
    have hmul : b.toNat % 128 * 128 ^ i ≤ 127 * 128 ^ i := Nat.mul_le_mul_right _ (by omega)
    have hsum : m + b.toNat % 128 * 128 ^ i < 128 ^ (i + 1) := by omega
    have hw : IntKind.wrap .i64 ((m : Int) + IntKind.wrap .i64 (IntKind.wrap .i64 (Int.tmod (b.toNat : Int) 128) * ((128 ^ i : Nat) : Int))) = ((m + b.toNat % 128 * 128 ^ i : Nat) : Int) := by
      rw [show Int.tmod (b.toNat : Int) 128 = ((b.toNat % 128 : Nat) : Int) by rw [Int.tmod_eq_emod_of_nonneg (by omega)]; omega, wrap_i64_nat _ (by omega), ← Int.natCast_mul, wrap_i64_nat _ (by omega), ← Int.natCast_add, wrap_i64_nat _ (by omega)]
    have hK := hr.keep0 hc1
    refine ixB (bA _) hK.cells hl (by omega) (by omega) fun _ _ _ => ?_
    refine ixB (bA _) hK.cells hl (by omega) (by omega) fun _ _ _ => ?_
    simp only [Int.toNat_natCast, hb, hw]
    refine ⟨fun h1 => ?_, fun h1 => ?_⟩
    · simp only [decide_eq_true_eq] at h1
      rw [if_pos (by omega)] at hv
      have hcd := hc1.trans (Chg.drew _ w1)
      have htl : (l.take (i + 1)).length = i + 1 := by rw [List.length_take]; omega
      have htk : ∀ w', Chg [] w w' → Cells w' a (bv (l.take (i + 1))) := fun w' hc' => by
        have := (hr.keep0 hc').cells
        rcases this with h0 | ⟨g, o, ha, hrg⟩
        · have : l = [] := by cases l with
            | nil => rfl
            | cons _ _ => simp [bv] at h0
          subst this; simp at hil
        · right
          refine ⟨g, o, ha, ?_⟩
          intro j v hj
          rw [bv_take, List.getElem?_take] at hj
          split at hj
          · exact hrg j v hj
          · simp at hj
      refine ⟨fun w' => Chg [] w w', hcd, by omega, by omega, ⟨(l.take (i + 1)).toArray⟩, fun w' hc' => toStr bS bE sS (htk w' hc') (by rw [htl]), ?_⟩
      refine thenC (rvar_spec (m + b.toNat % 128 * 128 ^ i) _ (by omega)) ?_
      rintro e w2 ⟨a2, n2, c2, rfl, hf2⟩
      refine ⟨_, _, _, rfl, fun w' => Chg [] w w' ∧ Chg [] w2 w', fun w' h => h.1, ⟨hcd.trans hf2.1, Chg.refl _ _⟩, ⟨(varL (m + b.toNat % 128 * 128 ^ i)).toArray⟩, fun w' hc' => toStr bS bE sS (hf2.cells.keep0 hc'.2) hf2.2.1, ?_⟩
      have hbm : b.toNat % 128 = b.toNat := Nat.mod_eq_of_lt (by omega)
      simp only [ByteArray.toList_mk, hbm, hval, take_succ_get hget]
      refine ⟨fun h2 => ?_, fun h2 => ?_⟩
      · rw [if_pos] at hv
        · rw [← hv]; exact ⟨rfl, hcd.trans hf2.1⟩
        · refine Classical.byContradiction fun hn => ?_
          rw [varL_valL _ _ hpre (by omega)] at h2
          · simp at h2
          · rcases Nat.eq_zero_or_pos i with h0 | h0
            · right; subst h0; rfl
            · left; intro hb0; exact hn ⟨hb0, h0⟩
      · rw [if_neg] at hv
        · rw [← hv, hval]; exact ⟨rfl, hcd.trans hf2.1⟩
        · rintro ⟨hb0, hi0⟩
          have : b = 0 := by rw [← ofNat_toNat8 b, hb0]; rfl
          subst this
          simp only [Bool.not_eq_false', beq_iff_eq] at h2
          exact varL_valL_ne _ (by intro h0; have := congrArg List.length h0; rw [List.length_take, List.length_nil] at this; omega) hpre h2
    · simp only [decide_eq_false_iff_not] at h1
      rw [if_neg (by omega)] at hv
      have hb128 : b.toNat % 128 = b.toNat - 128 := by omega
      refine ⟨⟨hc1, m + b.toNat % 128 * 128 ^ i, i + 1, rfl, rfl, by omega, by omega, fun hi' => ?_, hsum, ?_, ?_, ?_⟩, by omega⟩
      · have := pow128_le hi'
        have h4 : 128 ^ (i + 1) * 128 = 128 ^ (i + 1 + 1) := (Nat.pow_succ ..).symm
        rw [show ((128 ^ i : Nat) : Int) * 128 = ((128 ^ (i + 1) : Nat) : Int) by rw [← hpow]; push_cast; rfl]
        exact wrap_i64_nat _ (by omega)
      · intro p hp
        rw [take_succ_get hget, List.mem_append] at hp
        rcases hp with hp | hp
        · exact hpre p hp
        · simp at hp; subst hp; omega
      · intro d
        rw [take_succ_get hget, valL_snoc, ← hval, ← hpow, hb128, Nat.add_mul]
        have : d * (128 ^ i * 128) = 128 * d * 128 ^ i := by rw [Nat.mul_comm (128 ^ i), ← Nat.mul_assoc, Nat.mul_comm d]
        omega
      · rw [← hv, hb128]
  · have : 9 - i = 0 ∨ l.drop i = [] := by
      simp at h
      rcases Nat.lt_or_ge i 9 with h1 | h1
      · right; exact List.drop_eq_nil_of_le (by omega)
      · left; omega
    have h0 : readVarF l = none := by
      rw [← hv]
      rcases this with h1 | h1
      · rw [h1]; rfl
      · rw [h1]; cases 9 - i <;> rfl
    rw [h0]
    exact ⟨rfl, hc1⟩

/-- The two results of the reference's ReadNum. -/
def rnOutR : Option Int → Value
  | some x => .tuple #[.int .i64 x, .int .i64 0]
  | none => .tuple #[.int .i64 0, .int .i64 9]

open Go Sx
set_option maxRecDepth 8000

open Go Sx
set_option maxRecDepth 8000

theorem ofNat8 {n : Nat} (h : n < 256) : (UInt8.ofNat n).toNat = n := by rw [UInt8.toNat_ofNat']; exact Nat.mod_eq_of_lt h

theorem rdVar_varL : ∀ (f m i n : Nat) (r : List UInt8), m < 128 ^ f → (m ≠ 0 ∨ i = 0) → 0 < f → rdVar f (varL m ++ r) i n = some (n + m * 128 ^ i, i + (varL m).length)
  | 0, _, _, _, _, _, _, h => by omega
  | f + 1, m, i, n, r, hm, h0, _ => by
    have hp : 128 ^ (f + 1) = 128 ^ f * 128 := Nat.pow_succ ..
    by_cases h : m < 128
    · rw [varL_small h]
      simp only [List.cons_append, List.nil_append, rdVar, ofNat8 (show m < 256 by omega), if_pos h, List.length_cons, List.length_nil, Nat.zero_add]
      rw [if_neg (by omega)]
    · have hf : 0 < f := by
        rcases Nat.eq_zero_or_pos f with rfl | h' 
        · simp at hm; omega
        · exact h'
      have hq : m / 128 < 128 ^ f := Nat.div_lt_of_lt_mul (by rw [Nat.mul_comm]; omega)
      have ih := rdVar_varL f (m / 128) (i + 1) (n + m % 128 * 128 ^ i) r hq (.inl (by omega)) hf
      rw [varL_big h]
      simp only [List.cons_append, rdVar, ofNat8 (show m % 128 + 128 < 256 by omega)]
      rw [if_neg (by omega), Nat.add_sub_cancel, ih]
      have e : n + m % 128 * 128 ^ i + m / 128 * 128 ^ (i + 1) = n + m * 128 ^ i := by
        have h1 : 128 ^ (i + 1) = 128 * 128 ^ i := by rw [Nat.pow_succ, Nat.mul_comm]
        rw [h1, ← Nat.mul_assoc, Nat.add_assoc, ← Nat.add_mul]
        congr 2
        omega
      rw [e, List.length_cons]
      congr 2
      omega

theorem readVar_varL {m : Nat} (h : m < 9223372036854775808) (r : List UInt8) : readVarF (varL m ++ r) = some (m, (varL m).length) := by
  rw [readVarF, rdVar_varL 9 m 0 0 r (by simpa using h) (.inr rfl) (by decide)]
  simp

theorem rdVar_cut : ∀ (f m i n c : Nat), c < (varL m).length → rdVar f ((varL m).take c) i n = none
  | 0, _, _, _, _, _ => rfl
  | f + 1, m, i, n, 0, _ => rfl
  | f + 1, m, i, n, c + 1, h => by
    by_cases hm : m < 128
    · rw [varL_small hm] at h; simp at h
    · rw [varL_big hm] at h ⊢
      simp only [List.length_cons, Nat.add_lt_add_iff_right] at h
      simp only [List.take_succ_cons, rdVar, ofNat8 (show m % 128 + 128 < 256 by omega)]
      rw [if_neg (by omega)]
      exact rdVar_cut f (m / 128) (i + 1) _ c h

theorem readVar_cut {m c : Nat} (h : c < (varL m).length) : readVarF ((varL m).take c) = none := rdVar_cut 9 m 0 0 c h

theorem rdVar_back : ∀ (f : Nat) (l : List UInt8) (i n m s : Nat), rdVar f l i n = some (m, s) → ∃ q, m = n + q * 128 ^ i ∧ i < s ∧ varL q = l.take (s - i) ∧ (q ≠ 0 ∨ i = 0)
  | 0, _, _, _, _, _, h => by simp [rdVar] at h
  | f + 1, [], i, n, m, s, h => by simp [rdVar] at h
  | f + 1, b :: r, i, n, m, s, h => by
    have hbl := b.toNat_lt
    simp only [rdVar] at h
    split at h
    · rename_i hb
      split at h
      · cases h
      · rename_i h0
        simp only [Option.some.injEq, Prod.mk.injEq] at h
        obtain ⟨rfl, rfl⟩ := h
        refine ⟨b.toNat, rfl, by omega, ?_, ?_⟩
        · rw [varL_small hb, Nat.add_sub_cancel_left]; simp
        · omega
    · rename_i hb
      obtain ⟨q, rfl, hs, hv, hq⟩ := rdVar_back f r (i + 1) _ m s h
      have hq0 : q ≠ 0 := hq.resolve_right (by omega)
      refine ⟨b.toNat - 128 + 128 * q, ?_, by omega, ?_, .inl (by omega)⟩
      · have h1 : 128 ^ (i + 1) = 128 * 128 ^ i := by rw [Nat.pow_succ, Nat.mul_comm]
        rw [h1, ← Nat.mul_assoc, Nat.add_assoc, ← Nat.add_mul, Nat.mul_comm q]
      · rw [varL_big (by omega), show (b.toNat - 128 + 128 * q) / 128 = q by omega, hv, show (b.toNat - 128 + 128 * q) % 128 + 128 = b.toNat by omega, ofNat_toNat8, show s - i = (s - (i + 1)) + 1 by omega, List.take_succ_cons]

theorem readVar_back {l : List UInt8} {m s : Nat} (h : readVarF l = some (m, s)) : varL m = l.take s := by
  obtain ⟨q, rfl, _, hv, _⟩ := rdVar_back 9 l 0 0 m s h
  simpa using hv

theorem beNat_numL (u : Nat) (h : u < 18446744073709551616) : beNat (numL u) = u := by
  have key : ∀ k, k ≤ 8 → beNat ((List.range k).map fun j => UInt8.ofNat (u / 256 ^ (7 - j) % 256)) = u / 256 ^ (8 - k) := by
    intro k
    induction k with
    | zero => intro _; simp [beNat]; exact (Nat.div_eq_of_lt h).symm
    | succ k ih =>
      intro hk
      rw [List.range_succ, List.map_append, List.map_cons, List.map_nil, beNat_snoc, ih (by omega), ofNat8 (Nat.mod_lt _ (by decide)), show 8 - k = (7 - k) + 1 by omega, show 8 - (k + 1) = 7 - k by omega, Nat.pow_succ, ← Nat.div_div_eq_div_mul]
      omega
  have := key 8 (by decide)
  simpa [numL] using this

theorem readNum_numL (x : Int) (h1 : -9223372036854775808 ≤ x) (h2 : x ≤ 9223372036854775807) : readNumF (numL (x % 18446744073709551616).toNat) = some x := by
  rw [readNumF, if_pos (numL_len _), beNat_numL _ (by omega), Int.toNat_of_nonneg (by omega), wrap_i64_of]
  congr 1
  split <;> omega

theorem fieldF_back {l f r : List UInt8} (h : fieldF l = some (f, r)) : l = varL f.length ++ f ++ r := by
  obtain ⟨s, h1, h2, h3, _, h5, _⟩ := fieldF_some h
  rw [readVar_back h1]
  have e1 : l.take s ++ l.drop s = l := List.take_append_drop s l
  have e2 : f ++ r = l.drop s := by
    have := List.take_append_drop f.length (l.drop s)
    rw [← h2, List.drop_drop, ← h3] at this
    exact this
  rw [List.append_assoc, e2, e1]

theorem fieldF_pack {f : List UInt8} (h : f.length ≤ 67108864) (r : List UInt8) : fieldF (varL f.length ++ f ++ r) = some (f, r) := by
  rw [List.append_assoc, fieldF, readVar_varL (by omega)]
  simp only [Option.bind_some]
  rw [if_pos ⟨h, by simp; omega⟩]
  have e1 : (varL f.length ++ (f ++ r)).drop (varL f.length).length = f ++ r := by simp
  have e2 : (varL f.length ++ (f ++ r)).drop ((varL f.length).length + f.length) = r := by
    rw [← List.drop_drop, e1]; simp
  rw [e1, e2]; simp

theorem fieldF_cut {f : List UInt8} (h : f.length < 9223372036854775808) {c : Nat} (hc : c < (varL f.length ++ f).length) : fieldF ((varL f.length ++ f).take c) = none := by
  by_cases h1 : c < (varL f.length).length
  · rw [List.take_append_of_le_length (by omega), fieldF, readVar_cut h1]; rfl
  · have e : (varL f.length ++ f).take c = varL f.length ++ f.take (c - (varL f.length).length) := by
      rw [List.take_append, List.take_of_length_le (by omega)]
    rw [e, fieldF, readVar_varL h]
    simp only [Option.bind_some]
    rw [if_neg]
    simp only [List.length_append, List.length_take] at hc ⊢
    omega

theorem packL_cons (f : List UInt8) (ls : List (List UInt8)) : packL (f :: ls) = varL f.length ++ f ++ packL ls := by simp [packL]

theorem unpack_pack : ∀ (ls : List (List UInt8)) (r : List UInt8), (∀ l ∈ ls, l.length ≤ 67108864) → unpackF ls.length (packL ls ++ r) = if r = [] then some ls else none
  | [], r, _ => by simp [packL, unpackF]
  | f :: ls, r, h => by
    rw [packL_cons, List.append_assoc, List.length_cons, unpackF, fieldF_pack (h f (by simp))]
    simp only [Option.bind_some]
    rw [unpack_pack ls r fun l hl => h l (by simp [hl])]
    split <;> rfl

theorem unpack_cut : ∀ (ls : List (List UInt8)) (c : Nat), (∀ l ∈ ls, l.length ≤ 67108864) → c < (packL ls).length → unpackF ls.length ((packL ls).take c) = none
  | [], c, _, hc => by simp [packL] at hc
  | f :: ls, c, h, hc => by
    rw [packL_cons] at hc ⊢
    rw [List.length_cons, unpackF]
    have hf := h f (by simp)
    by_cases h1 : c < (varL f.length ++ f).length
    · rw [List.take_append_of_le_length (by omega), fieldF_cut (by omega) h1]; rfl
    · rw [List.take_append, List.take_of_length_le (by omega), fieldF_pack hf]
      simp only [Option.bind_some]
      rw [unpack_cut ls _ (fun l hl => h l (by simp [hl])) (by rw [List.length_append] at hc; omega)]
      rfl

theorem unpackZ_nat (n : Nat) (l : List UInt8) : unpackZ (n : Int) l = unpackF n l := by rw [unpackZ, if_neg (by omega), Int.toNat_natCast]

open Go Sx
set_option maxRecDepth 8000

theorem rVar_nil (w : World) : Calls Try.prog 52 #[.pointer none] w fun e w' => e = .returned (.int .i64 0) ∧ w' = w := by
  apply wire_Reader_Var_vc_nil
  exact ⟨rfl, rfl⟩
theorem rRaw_nil (x : Int) (w : World) : Calls Try.prog 51 #[.pointer none, .int .i64 x] w fun e w' => e = .returned (.slice none 0 0) ∧ w' = w := by
  apply wire_Reader_Raw_vc_nil
  exact ⟨rfl, rfl⟩
theorem rLeft_nil (w : World) : Calls Try.prog 50 #[.pointer none] w fun e w' => e = .returned (.int .i64 0) ∧ w' = w := by
  apply wire_Reader_Left_vc_nil
  exact ⟨rfl, rfl⟩
theorem rErr_nil (w : World) : Calls Try.prog 53 #[.pointer none] w fun e w' => e = .returned (errV (some 9)) ∧ w' = w := by
  apply wire_Reader_Err_vc_nil
  exact ⟨rfl, rfl⟩
theorem rLeft_spec (g T : Nat) (st : Option (List UInt8)) (a : Option Addr) (n c : Nat) (w : World) (hg : RdrA g T a n c st w) :
    Calls Try.prog 50 #[.pointer (some ⟨g, 0, none⟩)] w fun e w' => e = .returned (.int .i64 (n : Int)) ∧ w' = w := by
  apply wire_Reader_Left_vc
  exact ⟨_, _, _, (St.ofBlk hg).ld (i := 0) (o := 0) rfl (bsA _) rfl, rfl, rfl⟩

/-- The error of a Reader. -/
def brE (st : Option (List UInt8)) : Option Int := if st.isNone then some 9 else none

theorem rErr_spec (g T : Nat) (st : Option (List UInt8)) (a : Option Addr) (n c : Nat) (w : World) (hg : RdrA g T a n c st w) :
    Calls Try.prog 53 #[.pointer (some ⟨g, 0, none⟩)] w fun e w' => e = .returned (errV (brE st)) ∧ w' = w := by
  have iB : ∀ w, (isAgg 4).run Try.prog w = .ok false w := fun w => Try.isAgg4 w
  apply wire_Reader_Err_vc
  exact ⟨_, (St.ofBlk hg).ld (i := 0) (o := 1) (v := .bool st.isNone) rfl (iB _) rfl, fun h => ⟨by simp [brE, h, errV], rfl⟩, fun h => ⟨by simp [brE, h, errV], rfl⟩⟩

/-- What Num says. -/
def numF (st : Option (List UInt8)) : Int := (readNumF (((rawF st 8).map (·.1)).getD [])).getD 0

theorem newReader_spec (a : Option Addr) (n c : Nat) (l : List UInt8) (w : World) (hr : RdB w a n c l) (hb : n ≤ 140737488355000) :
    Calls Try.prog 49 #[.slice a n c] w fun e w' => ∃ g a' c', e = .returned (.pointer (some ⟨g, 0, none⟩)) ∧ St w [] w' [.row 5 1 (.slice a' n c') n (bv l), .blk g (.cells #[.slice a' n c', .bool false] 103)] := by
  apply wire_NewReader_vc
  refine (clone_spec a n c l w hr hb).mono ?_
  rintro e w1 ⟨a1, c1, rfl, hf⟩
  obtain ⟨g, w2, r2, h2⟩ := (hf.add (St.start w)).box (P := Try.prog) 103 (.agg #[.slice a1 n c1, .bool false])
  exact ⟨_, _, _, rfl, _, reader_build a1 n c1 w1, g, w2, r2, g, a1, c1, rfl, h2⟩

/-! ### The reference's Reader -/

theorem take_spec (g T : Nat) (st : Option (List UInt8)) (x : Int) (a : Option Addr) (n c : Nat) (w : World) (hg : RdrA g T a n c st w) (hr : RdB w a n c (st.getD [])) :
    Calls Try.prog 67 #[.pointer (some ⟨g, 0, none⟩), .int .i64 x] w fun e w' => ∃ a' n' c', e = .returned (.slice a' n' c') ∧ Chg [g] w w' ∧ RdrP g T a n c st ((rawF st x).map (·.2)) w' ∧ SubB a n c (st.getD []) a' n' c' (((rawF st x).map (·.1)).getD []) := by
  unfold RdrA at hg
  have iB : ∀ w, (isAgg 4).run Try.prog w = .ok false w := fun w => Try.isAgg4 w
  have s1 : ∀ w, (sizeOf 4).run Try.prog w = .ok 1 w := fun w => Try.sizeOf4 w
  have s2 : ∀ w, (sizeOf 63).run Try.prog w = .ok 1 w := fun w => Try.sizeOf63 w
  have hl := hr.lenB
  have hle := hr.le
  have hS := St.ofBlk hg
  have ld0 := hS.ld (i := 0) (o := 0) (P := Try.prog) (v := .slice a n c) rfl (bsA _) rfl
  have ld1' := hS.ld (i := 0) (o := 1) (P := Try.prog) (v := .bool st.isNone) rfl (iB _) rfl
  apply amphoraref04_Reader_take_vc
  refine ⟨fun b w' => b = (rawF st x).isNone ∧ w' = w, ⟨_, ld1', fun h => ⟨?_, rfl⟩, fun h => ⟨_, _, _, ld0, ?_, rfl⟩⟩, ?_⟩
  · cases st with
    | none => rfl
    | some l =>
      simp at h
      simp [rawF]; omega
  · cases st with
    | none => simp at h
    | some l =>
      simp at h hl
      by_cases hx : x ≤ (n : Int)
      · have : rawF (some l) x = some (l.take x.toNat, l.drop x.toNat) := by simp [rawF]; omega
        rw [this]; simp; omega
      · have : rawF (some l) x = none := by simp [rawF]; omega
        rw [this]; simp; omega
  rintro b w1 ⟨rfl, rfl⟩
  refine ⟨fun h => ?_, fun h => ?_⟩
  · have hrf : rawF st x = none := by simpa using h
    obtain ⟨w2, r2, h2⟩ := hS.st (i := 0) (o := 1) (v := .bool true) rfl (s1 _) (by simp) rfl
    obtain ⟨w3, r3, h3⟩ := h2.st (i := 0) (o := 0) (v := .slice none 0 0) rfl (s2 _) (by simp) rfl
    rw [hrf]
    exact ⟨w2, r2, w3, r3, _, _, _, rfl, h3.chg, ⟨none, 0, 0, h3.holds 0 _ rfl, fun v _ => rdNil v⟩, fun v _ => rdNil v⟩
  · cases st with
    | none => simp [rawF] at h
    | some l =>
      simp only [Option.getD_some] at hr hl
      have hxn : 0 ≤ x ∧ x ≤ (n : Int) := by
        simp only [rawF, Option.bind_some] at h
        split at h
        · omega
        · simp at h
      obtain ⟨m, rfl⟩ := Int.eq_ofNat_of_zero_le hxn.1
      refine ⟨_, _, _, ld0, by omega, by omega, _, _, _, ld0, by omega, by omega, by omega, fun a2 hs2 => ?_⟩
      simp only [Int.toNat_natCast] at hs2 ⊢
      obtain ⟨w3, r3, h3⟩ := hS.st (i := 0) (o := 0) (P := Try.prog) (v := .slice a2 (n - m) (c - m)) rfl (s2 _) (by simp) rfl
      have hrf : rawF (some l) (m : Int) = some (l.take m, l.drop m) := by simp [rawF]; omega
      rw [hrf]
      have e1 : ((bv l).drop (m * 1)).take ((n - m) * 1) = bv (l.drop m) := by
        rw [Nat.mul_one, Nat.mul_one, List.take_of_length_le (by simp; omega), bv_drop]
      refine ⟨w3, r3, _, _, _, rfl, h3.chg, ⟨a2, n - m, c - m, h3.holds 0 _ rfl, fun v hv => ?_⟩, fun v hv => ?_⟩
      · have hsub := (show RdB v a n c l from hv).sub hs2 (hh := n) (by omega) (Nat.le_refl _) hle (Nat.le_refl _)
        rw [e1] at hsub
        exact hsub
      · have h0 : SubA 1 a 0 c a := ⟨fun _ => rfl, fun _ => by cases a <;> simp [Addr.add]⟩
        have := (show RdB v a n c l from hv).sub h0 (hh := m) (by omega) (by omega) (by omega) (Nat.le_refl _)
        have e2 : ((bv l).drop (0 * 1)).take ((m - 0) * 1) = bv (l.take m) := by simp [bv_take]
        rw [e2] at this
        exact this

theorem rdr_flag {g T : Nat} {a : Option Addr} {n c : Nat} {st : Option (List UInt8)} {w : World} (hg : RdrA g T a n c st w) : (Instr.loadAt 4 (.pointer (some ⟨g, 1, none⟩))).run Try.prog w = .ok (.bool st.isNone) w :=
  (St.ofBlk hg).ld (i := 0) (o := 1) (v := .bool st.isNone) rfl (Try.isAgg4 _) rfl
theorem rdr_rest {g T : Nat} {a : Option Addr} {n c : Nat} {st : Option (List UInt8)} {w : World} (hg : RdrA g T a n c st w) : (Instr.loadAt 63 (.pointer (some ⟨g, 0, none⟩))).run Try.prog w = .ok (.slice a n c) w :=
  (St.ofBlk hg).ld (i := 0) (o := 0) rfl (bsA _) rfl

theorem raw_neg (st : Option (List UInt8)) : rawF st (-1) = none := by cases st <;> simp [rawF]
theorem raw_nat {l : List UInt8} {m : Nat} (h : m ≤ l.length) : rawF (some l) (m : Int) = some (l.take m, l.drop m) := by simp [rawF]; omega

theorem mVar_spec (g T : Nat) (st : Option (List UInt8)) (a : Option Addr) (n c : Nat) (w : World) (hg : RdrA g T a n c st w) (hr : RdB w a n c (st.getD [])) :
    Calls Try.prog 55 #[.pointer (some ⟨g, 0, none⟩)] w fun e w' => e = .returned (.int .i64 ((((varF st).map (·.1)).getD 0 : Nat) : Int)) ∧ Chg [g] w w' ∧ RdrP g T a n c st ((varF st).map (·.2)) w' := by
  apply amphoraref04_Reader_Var_vc
  refine ⟨_, _, _, rdr_rest hg, (rreadVar_spec a n c _ w hr).mono ?_⟩
  rintro e w1 ⟨rfl, hc1⟩
  have hg1 : RdrA g T a n c st w1 := by
    unfold RdrA at hg ⊢; rw [hc1.block g (Array.getElem?_eq_some_iff.1 hg).1 (by simp)]; exact hg
  -- the size that is taken
  obtain ⟨x, k, o, hx, hrv⟩ : ∃ (x : Int) (k : Int) (o : Int), (rvOutR (readVarF (st.getD []))) = .tuple #[.int .i64 k, .int .i64 x, .int .i64 o] ∧ ((o ≠ 0 ∧ varF st = none) ∨ (o = 0 ∧ ∃ s : Nat, x = (s : Int) ∧ rawF st x = (varF st).map (fun p => (((st.getD []).take s), p.2)) ∧ k = (((varF st).map (·.1)).getD 0 : Nat) ∧ (varF st).isSome)) := by
    cases h : readVarF (st.getD []) with
    | none =>
      refine ⟨0, 0, 9, rfl, .inl ⟨by decide, ?_⟩⟩
      cases st with
      | none => rfl
      | some l => simp at h; simp [varF, h]
    | some p =>
      obtain ⟨k, s⟩ := p
      obtain ⟨_, h2, _, _⟩ := readVarF_some h
      refine ⟨s, k, 0, rfl, .inr ⟨rfl, s, rfl, ?_⟩⟩
      cases st with
      | none => simp [readVarF, rdVar] at h
      | some l =>
        simp only [Option.getD_some] at h h2 ⊢
        have hv : varF (some l) = some (k, l.drop s) := by simp [varF, h]
        rw [hv, raw_nat h2]
        exact ⟨rfl, rfl, rfl⟩
  rw [hx]
  refine ⟨_, _, _, rfl, fun y w' => w' = w1 ∧ ((y = -1 ∧ varF st = none) ∨ (y = x ∧ o = 0)), ⟨fun h => ⟨rfl, ?_⟩, fun h => ⟨rfl, .inr ⟨rfl, by simpa using h⟩⟩⟩, ?_⟩
  · have : o ≠ 0 := by simpa using h
    refine .inl ⟨rfl, ?_⟩
    rcases hrv with h1 | h1
    · exact h1.2
    · exact absurd h1.1 this
  rintro y w2 ⟨rfl, hy⟩
  refine (take_spec g T st y a n c w2 hg1 (hr.keep0 hc1)).mono ?_
  rintro e w3 ⟨a3, n3, c3, rfl, hc3, ⟨a4, n4, c4, hg4, hs4⟩, _⟩
  refine ⟨_, _, _, rfl, _, rdr_flag hg4, ?_⟩
  rcases hy with ⟨rfl, hvn⟩ | ⟨rfl, ho⟩
  · rw [raw_neg] at hg4 hs4 ⊢
    rw [hvn]
    exact ⟨fun _ => ⟨rfl, (hc1.mono (by simp)).trans hc3, a4, n4, c4, hg4, hs4⟩, fun h => by simp at h⟩
  · rcases hrv with h1 | ⟨_, s, rfl, h1, rfl, h3⟩
    · exact absurd ho h1.1
    · rw [h1] at hg4 hs4 ⊢
      have e1 : ((varF st).map (fun p => (((st.getD []).take s), p.2))).map (·.2) = (varF st).map (·.2) := by cases varF st <;> rfl
      rw [e1] at hg4 hs4 ⊢
      refine ⟨fun h => ?_, fun _ => ⟨rfl, (hc1.mono (by simp)).trans hc3, a4, n4, c4, hg4, hs4⟩⟩
      cases hv : varF st with
      | none => rw [hv] at h3; simp at h3
      | some p => rw [hv] at h; simp at h

theorem mRaw_spec (g T : Nat) (st : Option (List UInt8)) (x : Int) (a : Option Addr) (n c : Nat) (w : World) (hg : RdrA g T a n c st w) (hr : RdB w a n c (st.getD [])) :
    Calls Try.prog 54 #[.pointer (some ⟨g, 0, none⟩), .int .i64 x] w fun e w' => ∃ a' n' c', e = .returned (.slice a' n' c') ∧ Chg [g] w w' ∧ RdrP g T a n c st ((rawF st x).map (·.2)) w' ∧ RdB w' a' n' c' (((rawF st x).map (·.1)).getD []) := by
  apply amphoraref04_Reader_Raw_vc
  refine (take_spec g T st x a n c w hg hr).mono ?_
  rintro e w1 ⟨a1, n1, c1, rfl, hc1, hv1, hs1⟩
  exact ⟨_, _, _, rfl, _, _, _, rfl, hc1, hv1, (hs1 w hr).keepG hg (rdr_ne _ _ _ _ _) hc1⟩

end Go.Proofs.Ytoianikapjkekaa
