/- Contracts of wire's numbers: Var, Num, ReadVar, ReadNum (conditions: those that each theorem names). -/
import Derived.Test.YtlhhmoljlmmnoaaDoorSxSeat
import Derived.Test.YtlhhmoljlmmnoaaDoorWireF
import Derived.Test.YtlhhmoljlmmnoaaDoorNum
import Derived.Test.YtlhhmoljlmmnoaaDoorVwire
namespace Go.Proofs.YtlhhmoljlmmnoaaDoor
open Go Sx
set_option maxRecDepth 8000

theorem or128 (r : Nat) : (r % 256) ||| 128 = r % 128 + 128 := by
  have h : ∀ x < 256, x ||| 128 = x % 128 + 128 := by decide +kernel
  rw [h _ (Nat.mod_lt _ (by decide))]
  omega

theorem var_neg (x : Int) (w : World) (h : x < 0) : Calls Tryd.prog 46 #[.int .i64 x] w fun e w' => e = .returned (.slice none 0 0) ∧ w' = w := by
  apply wire_Var_vc
  exact ⟨fun _ => ⟨rfl, rfl⟩, fun h' => by simp at h'; omega⟩

theorem var_spec (m : Nat) (w : World) (hm : m < 9223372036854775808) : Calls Tryd.prog 46 #[.int .i64 (m : Int)] w fun e w' => ∃ a n c, e = .returned (.slice a n c) ∧ FreshB w w' a n c (varL m) := by
  have hlen := varL_len 9 m (by simpa using hm) (by decide)
  apply wire_Var_vc
  refine ⟨fun h => by simp at h; omega, fun _ => ?_⟩
  refine ⟨fun x a n c w' => ∃ (k : Nat) (pre : List UInt8), x = (k : Int) ∧ varL m = pre ++ varL k ∧ pre.length = n ∧ St w [] w' [.row 5 1 (.slice a n c) n (bv pre)], fun x _ _ _ _ => x.toNat,
    ⟨m, [], rfl, rfl, rfl, (St.start w).addNil _ _⟩, ?_⟩
  rintro x a n c w1 ⟨k, pre, rfl, he, hl, hS⟩
  have hn : n + (varL k).length ≤ 9 := by have := congrArg List.length he; simp at this; omega
  have hk1 := varL_pos k
  have key : ∀ b : Nat, b < 256 → ∃ g w2 va vc w3, (Instr.buildSlice 25 1 #[(0, .int .u8 (b : Int))]).run Tryd.prog w1 = .ok (.slice (some ⟨g, 0, none⟩) 1 1) w2 ∧
      (Builtin.append_ #[25, 25] 25 #[.slice a n c, .slice (some ⟨g, 0, none⟩) 1 1]).run Tryd.prog w2 = .ok (.slice va (n + 1) vc) w3 ∧ St w [] w3 [.row 5 1 (.slice va (n + 1) vc) (n + 1) (bv (pre ++ [UInt8.ofNat b]))] := by
    intro b hb
    obtain ⟨g, w2, hr2, h2⟩ := hS.lit bT [.int .u8 (b : Int)] (by simp [Value.oneCell']) (by simp)
    obtain ⟨va, vc, w3, hr3, h3, _, _⟩ := h2.append (i := 0) (ty := 25) bT rfl (h2.rd (i := 1) rfl) (by simp [Value.oneCell']) (by simp; omega) (by simp only [maxLen, List.length_cons, List.length_nil]; omega)
    refine ⟨g, w2, va, vc, w3, hr2, hr3, ?_⟩
    have h4 := St.pop (M := [_]) h3
    have : bv (pre ++ [UInt8.ofNat b]) = bv pre ++ [.int .u8 (b : Int)] := by
      rw [bv_append]; congr 1; simp [bv, Nat.mod_eq_of_lt hb]
    rw [this]
    exact h4
  refine ⟨fun h => ?_, fun h => ?_⟩
  · have hk : ¬ k < 128 := by simp at h; omega
    have hv : bor .u8 (IntKind.wrap .u8 (k : Int)) 128 = ((k % 128 + 128 : Nat) : Int) := by
      rw [wrap_u8, show ((k : Int) % 256) = ((k % 256 : Nat) : Int) by omega, show (128 : Int) = ((128 : Nat) : Int) from rfl, bor_nat rfl (by simp [kmod, IntKind.bits]; omega) (by simp [kmod, IntKind.bits]), or128]
    have hs : shrI .i64 (k : Int) 7 = ((k / 128 : Nat) : Int) := by rw [show (7 : Int) = ((7 : Nat) : Int) from rfl, shr_nat _ _ _ (by decide)]
    rw [hv, hs]
    obtain ⟨g, w2, va, vc, w3, hr2, hr3, h3⟩ := key (k % 128 + 128) (by omega)
    refine ⟨_, _, _, _, hr2, _, _, _, _, hr3, ⟨k / 128, pre ++ [UInt8.ofNat (k % 128 + 128)], rfl, ?_, by simp [hl], h3⟩, ?_⟩
    · rw [he, varL_big hk]; simp
    · simp; omega
  · have hk : k < 128 := by simp at h; omega
    have hv : IntKind.wrap .u8 (k : Int) = (k : Int) := by rw [wrap_u8]; omega
    rw [hv]
    obtain ⟨g, w2, va, vc, w3, hr2, hr3, h3⟩ := key k (by omega)
    refine ⟨_, _, _, _, hr2, _, _, _, _, hr3, _, _, _, rfl, ?_⟩
    rw [he, varL_small hk]
    exact h3.freshB (i := 0) rfl

/-- The three results of ReadVar. -/
def rvOut : Option (Nat × Nat) → Value
  | some (n, s) => .tuple #[.int .i64 (n : Int), .int .i64 (s : Int), errV none]
  | none => .tuple #[.int .i64 0, .int .i64 0, errV (some 9)]

theorem or_add (n b i : Nat) (hn : n < 128 ^ i) : n ||| (b * 128 ^ i) = n + b * 128 ^ i := by
  have e : 128 ^ i = 2 ^ (7 * i) := by rw [Nat.pow_mul]
  rw [e] at hn ⊢
  have := Nat.shiftLeft_add_eq_or_of_lt hn b
  rw [Nat.shiftLeft_eq] at this
  rw [Nat.or_comm, ← this, Nat.add_comm]

theorem pow128_le {i : Nat} (hi : i < 9) : 128 ^ (i + 1) ≤ 9223372036854775808 := by
  have : 128 ^ (i + 1) ≤ 128 ^ 9 := Nat.pow_le_pow_right (by decide) (by omega)
  simpa using this

theorem take_succ_get {l : List UInt8} {j : Nat} {b : UInt8} (h : l[j]? = some b) : l.take (j + 1) = l.take j ++ [b] := by
  rw [List.take_add_one, h]; rfl

theorem be_step (m b : Nat) (hb : b < 256) (hm : m < 72057594037927936) : bor .u64 (shlI .u64 (m : Int) (8 : Int)) (IntKind.wrap .u64 (b : Int)) = ((m * 256 + b : Nat) : Int) := by
  rw [show (8 : Int) = ((8 : Nat) : Int) from rfl, shl_nat rfl _ _ (by decide), Nat.mod_eq_of_lt (by simp [kmod, IntKind.bits]; omega), wrap_u64, show ((b : Int) % 18446744073709551616) = (b : Int) by omega,
    bor_nat rfl (by simp [kmod, IntKind.bits]; omega) (by simp [kmod, IntKind.bits]; omega)]
  have := Nat.shiftLeft_add_eq_or_of_lt (show b < 2 ^ 8 by omega) m
  rw [Nat.shiftLeft_eq] at this
  rw [← this]

/-- The two results of ReadNum. -/
def rnOut : Option Int → Value
  | some x => .tuple #[.int .i64 x, errV none]
  | none => .tuple #[.int .i64 0, errV (some 9)]

theorem pow256_le {i : Nat} (hi : i < 8) : 256 ^ i ≤ 72057594037927936 := by
  have : 256 ^ i ≤ 256 ^ 7 := Nat.pow_le_pow_right (by decide) (by omega)
  simpa using this

end Go.Proofs.YtlhhmoljlmmnoaaDoor
