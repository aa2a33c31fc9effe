/- Laws of numbers and fields, in plain words (conditions: none). -/
import Derived.Test.YtmdandkoajocpaaGreatDoorWireB
namespace Go.Proofs.YtmdandkoajocpaaGreatDoor
open Go Sx
set_option maxRecDepth 8000

theorem ofNat8 {n : Nat} (h : n < 256) : (UInt8.ofNat n).toNat = n := by rw [UInt8.toNat_ofNat']; exact Nat.mod_eq_of_lt h

theorem rdVar_varL : ∀ (f m i n : Nat) (r : List UInt8), m < 128 ^ f → (m ≠ 0 ∨ i = 0) → 0 < f → rdVar f (varL m ++ r) i n = some (n + m * 128 ^ i, i + (varL m).length)
  | 0, _, _, _, _, _, _, h => by omega
  | f + 1, m, i, n, r, hm, h0, _ => by
    have hp : 128 ^ (f + 1) = 128 ^ f * 128 := Nat.pow_succ ..
    by_cases h : m < 128
    · rw [varL_small h]
      simp only [List.cons_append, List.nil_append, rdVar, ofNat8 (show m < 256 by omega), if_pos h, List.length_cons, List.length_nil, Nat.zero_add]
      rw [if_neg (by omega)]
    · have hf : 0 < f := by
        rcases Nat.eq_zero_or_pos f with rfl | h' 
        · simp at hm; omega
        · exact h'
      have hq : m / 128 < 128 ^ f := Nat.div_lt_of_lt_mul (by rw [Nat.mul_comm]; omega)
      have ih := rdVar_varL f (m / 128) (i + 1) (n + m % 128 * 128 ^ i) r hq (.inl (by omega)) hf
      rw [varL_big h]
      simp only [List.cons_append, rdVar, ofNat8 (show m % 128 + 128 < 256 by omega)]
      rw [if_neg (by omega), Nat.add_sub_cancel, ih]
      have e : n + m % 128 * 128 ^ i + m / 128 * 128 ^ (i + 1) = n + m * 128 ^ i := by
        have h1 : 128 ^ (i + 1) = 128 * 128 ^ i := by rw [Nat.pow_succ, Nat.mul_comm]
        rw [h1, ← Nat.mul_assoc, Nat.add_assoc, ← Nat.add_mul]
        congr 2
        omega
      rw [e, List.length_cons]
      congr 2
      omega

theorem readVar_varL {m : Nat} (h : m < 9223372036854775808) (r : List UInt8) : readVarF (varL m ++ r) = some (m, (varL m).length) := by
  rw [readVarF, rdVar_varL 9 m 0 0 r (by simpa using h) (.inr rfl) (by decide)]
  simp

theorem rdVar_cut : ∀ (f m i n c : Nat), c < (varL m).length → rdVar f ((varL m).take c) i n = none
  | 0, _, _, _, _, _ => rfl
  | f + 1, m, i, n, 0, _ => rfl
  | f + 1, m, i, n, c + 1, h => by
    by_cases hm : m < 128
    · rw [varL_small hm] at h; simp at h
    · rw [varL_big hm] at h ⊢
      simp only [List.length_cons, Nat.add_lt_add_iff_right] at h
      simp only [List.take_succ_cons, rdVar, ofNat8 (show m % 128 + 128 < 256 by omega)]
      rw [if_neg (by omega)]
      exact rdVar_cut f (m / 128) (i + 1) _ c h

theorem readVar_cut {m c : Nat} (h : c < (varL m).length) : readVarF ((varL m).take c) = none := rdVar_cut 9 m 0 0 c h

theorem rdVar_back : ∀ (f : Nat) (l : List UInt8) (i n m s : Nat), rdVar f l i n = some (m, s) → ∃ q, m = n + q * 128 ^ i ∧ i < s ∧ varL q = l.take (s - i) ∧ (q ≠ 0 ∨ i = 0)
  | 0, _, _, _, _, _, h => by simp [rdVar] at h
  | f + 1, [], i, n, m, s, h => by simp [rdVar] at h
  | f + 1, b :: r, i, n, m, s, h => by
    have hbl := b.toNat_lt
    simp only [rdVar] at h
    split at h
    · rename_i hb
      split at h
      · cases h
      · rename_i h0
        simp only [Option.some.injEq, Prod.mk.injEq] at h
        obtain ⟨rfl, rfl⟩ := h
        refine ⟨b.toNat, rfl, by omega, ?_, ?_⟩
        · rw [varL_small hb, Nat.add_sub_cancel_left]; simp
        · omega
    · rename_i hb
      obtain ⟨q, rfl, hs, hv, hq⟩ := rdVar_back f r (i + 1) _ m s h
      have hq0 : q ≠ 0 := hq.resolve_right (by omega)
      refine ⟨b.toNat - 128 + 128 * q, ?_, by omega, ?_, .inl (by omega)⟩
      · have h1 : 128 ^ (i + 1) = 128 * 128 ^ i := by rw [Nat.pow_succ, Nat.mul_comm]
        rw [h1, ← Nat.mul_assoc, Nat.add_assoc, ← Nat.add_mul, Nat.mul_comm q]
      · rw [varL_big (by omega), show (b.toNat - 128 + 128 * q) / 128 = q by omega, hv, show (b.toNat - 128 + 128 * q) % 128 + 128 = b.toNat by omega, ofNat_toNat8, show s - i = (s - (i + 1)) + 1 by omega, List.take_succ_cons]

theorem readVar_back {l : List UInt8} {m s : Nat} (h : readVarF l = some (m, s)) : varL m = l.take s := by
  obtain ⟨q, rfl, _, hv, _⟩ := rdVar_back 9 l 0 0 m s h
  simpa using hv

theorem beNat_numL (u : Nat) (h : u < 18446744073709551616) : beNat (numL u) = u := by
  have key : ∀ k, k ≤ 8 → beNat ((List.range k).map fun j => UInt8.ofNat (u / 256 ^ (7 - j) % 256)) = u / 256 ^ (8 - k) := by
    intro k
    induction k with
    | zero => intro _; simp [beNat]; exact (Nat.div_eq_of_lt h).symm
    | succ k ih =>
      intro hk
      rw [List.range_succ, List.map_append, List.map_cons, List.map_nil, beNat_snoc, ih (by omega), ofNat8 (Nat.mod_lt _ (by decide)), show 8 - k = (7 - k) + 1 by omega, show 8 - (k + 1) = 7 - k by omega, Nat.pow_succ, ← Nat.div_div_eq_div_mul]
      omega
  have := key 8 (by decide)
  simpa [numL] using this

theorem readNum_numL (x : Int) (h1 : -9223372036854775808 ≤ x) (h2 : x ≤ 9223372036854775807) : readNumF (numL (x % 18446744073709551616).toNat) = some x := by
  rw [readNumF, if_pos (numL_len _), beNat_numL _ (by omega), Int.toNat_of_nonneg (by omega), wrap_i64_of]
  congr 1
  split <;> omega

theorem fieldF_back {l f r : List UInt8} (h : fieldF l = some (f, r)) : l = varL f.length ++ f ++ r := by
  obtain ⟨s, h1, h2, h3, _, h5, _⟩ := fieldF_some h
  rw [readVar_back h1]
  have e1 : l.take s ++ l.drop s = l := List.take_append_drop s l
  have e2 : f ++ r = l.drop s := by
    have := List.take_append_drop f.length (l.drop s)
    rw [← h2, List.drop_drop, ← h3] at this
    exact this
  rw [List.append_assoc, e2, e1]

theorem fieldF_pack {f : List UInt8} (h : f.length ≤ 67108864) (r : List UInt8) : fieldF (varL f.length ++ f ++ r) = some (f, r) := by
  rw [List.append_assoc, fieldF, readVar_varL (by omega)]
  simp only [Option.bind_some]
  rw [if_pos ⟨h, by simp; omega⟩]
  have e1 : (varL f.length ++ (f ++ r)).drop (varL f.length).length = f ++ r := by simp
  have e2 : (varL f.length ++ (f ++ r)).drop ((varL f.length).length + f.length) = r := by
    rw [← List.drop_drop, e1]; simp
  rw [e1, e2]; simp

theorem fieldF_cut {f : List UInt8} (h : f.length < 9223372036854775808) {c : Nat} (hc : c < (varL f.length ++ f).length) : fieldF ((varL f.length ++ f).take c) = none := by
  by_cases h1 : c < (varL f.length).length
  · rw [List.take_append_of_le_length (by omega), fieldF, readVar_cut h1]; rfl
  · have e : (varL f.length ++ f).take c = varL f.length ++ f.take (c - (varL f.length).length) := by
      rw [List.take_append, List.take_of_length_le (by omega)]
    rw [e, fieldF, readVar_varL h]
    simp only [Option.bind_some]
    rw [if_neg]
    simp only [List.length_append, List.length_take] at hc ⊢
    omega

theorem packL_cons (f : List UInt8) (ls : List (List UInt8)) : packL (f :: ls) = varL f.length ++ f ++ packL ls := by simp [packL]

theorem unpack_pack : ∀ (ls : List (List UInt8)) (r : List UInt8), (∀ l ∈ ls, l.length ≤ 67108864) → unpackF ls.length (packL ls ++ r) = if r = [] then some ls else none
  | [], r, _ => by simp [packL, unpackF]
  | f :: ls, r, h => by
    rw [packL_cons, List.append_assoc, List.length_cons, unpackF, fieldF_pack (h f (by simp))]
    simp only [Option.bind_some]
    rw [unpack_pack ls r fun l hl => h l (by simp [hl])]
    split <;> rfl

theorem unpack_cut : ∀ (ls : List (List UInt8)) (c : Nat), (∀ l ∈ ls, l.length ≤ 67108864) → c < (packL ls).length → unpackF ls.length ((packL ls).take c) = none
  | [], c, _, hc => by simp [packL] at hc
  | f :: ls, c, h, hc => by
    rw [packL_cons] at hc ⊢
    rw [List.length_cons, unpackF]
    have hf := h f (by simp)
    by_cases h1 : c < (varL f.length ++ f).length
    · rw [List.take_append_of_le_length (by omega), fieldF_cut (by omega) h1]; rfl
    · rw [List.take_append, List.take_of_length_le (by omega), fieldF_pack hf]
      simp only [Option.bind_some]
      rw [unpack_cut ls _ (fun l hl => h l (by simp [hl])) (by rw [List.length_append] at hc; omega)]
      rfl

theorem unpackZ_nat (n : Nat) (l : List UInt8) : unpackZ (n : Int) l = unpackF n l := by rw [unpackZ, if_neg (by omega), Int.toNat_natCast]

end Go.Proofs.YtmdandkoajocpaaGreatDoor
