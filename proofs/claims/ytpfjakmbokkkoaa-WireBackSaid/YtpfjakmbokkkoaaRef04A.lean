/- Contracts of the reference's numbers: Var, Num, ReadVar, ReadNum (conditions: those that each theorem names). -/
import Derived.Test.YtpfjakmbokkkoaaWireA
import Derived.Test.YtpfjakmbokkkoaaVref04
namespace Go.Proofs.Ytpfjakmbokkkoaa
open Go Sx

theorem rvar_neg (x : Int) (w : World) (h : x < 0) : Calls Try.prog 19 #[.int .i64 x] w fun e w' => e = .returned (.slice none 0 0) ∧ w' = w := by
  apply amphoraref04_Var_vc
  refine ⟨fun x' _ _ _ w' => x' < 0 ∧ w' = w, fun _ _ _ _ _ => 0, ⟨h, rfl⟩, ?_⟩
  rintro x' a n c w1 ⟨hx, rfl⟩
  exact ⟨fun h' => by simp at h'; omega, fun _ => ⟨rfl, rfl⟩⟩

theorem rvar_spec (m : Nat) (w : World) (hm : m < 9223372036854775808) : Calls Try.prog 19 #[.int .i64 (m : Int)] w fun e w' => ∃ a n c, e = .returned (.slice a n c) ∧ FreshB w w' a n c (varL m) := by
  have hlen := varL_len 9 m (by simpa using hm) (by decide)
  apply amphoraref04_Var_vc
  refine ⟨fun x a n c w' => ∃ (k : Nat) (pre : List UInt8), x = (k : Int) ∧ k < 9223372036854775808 ∧ varL m = pre ++ varL k ∧ pre.length = n ∧ St w [] w' [.row 5 1 (.slice a n c) n (bv pre)], fun x _ _ _ _ => x.toNat,
    ⟨m, [], rfl, hm, rfl, rfl, (St.start w).addNil _ _⟩, ?_⟩
  rintro x a n c w1 ⟨k, pre, rfl, hk, he, hl, hS⟩
  have hn : n + (varL k).length ≤ 9 := by have := congrArg List.length he; simp at this; omega
  have hk1 := varL_pos k
  have hd : IntKind.wrap .i64 (Int.tdiv (k : Int) 128) = ((k / 128 : Nat) : Int) := by rw [show Int.tdiv (k : Int) 128 = ((k / 128 : Nat) : Int) by rw [Int.tdiv_eq_ediv_of_nonneg (by omega)]; omega]; exact wrap_i64_nat _ (by omega)
  have hmo : Int.tmod (k : Int) 128 = ((k % 128 : Nat) : Int) := by rw [Int.tmod_eq_emod_of_nonneg (by omega)]; omega
  refine ⟨fun _ => ?_, fun h => by simp at h⟩
  rw [hd, hmo]
  refine ⟨fun h => ?_, fun h => ?_⟩
  · have hk0 : k < 128 := by simp at h; omega
    have hv : IntKind.wrap .u8 ((k % 128 : Nat) : Int) = (k : Int) := by rw [wrap_u8]; omega
    rw [hv]
    obtain ⟨g, w2, va, vc, w3, hr2, hr3, h3, _⟩ := hS.push1 (i := 0) rfl (by omega) k (by omega)
    refine ⟨_, _, _, _, hr2, _, _, _, _, hr3, _, _, _, rfl, ?_⟩
    rw [he, varL_small hk0]
    exact h3.freshB (i := 0) rfl
  · have hk0 : ¬ k < 128 := by simp at h; omega
    have hv : IntKind.wrap .u8 (IntKind.wrap .i64 (((k % 128 : Nat) : Int) + 128)) = ((k % 128 + 128 : Nat) : Int) := by
      rw [wrap_i64 (by omega) (by omega), wrap_u8]; omega
    rw [hv]
    obtain ⟨g, w2, va, vc, w3, hr2, hr3, h3, _⟩ := hS.push1 (i := 0) rfl (by omega) (k % 128 + 128) (by omega)
    refine ⟨_, _, _, _, hr2, _, _, _, _, hr3, ⟨k / 128, pre ++ [UInt8.ofNat (k % 128 + 128)], rfl, by omega, ?_, by simp [hl], h3⟩, ?_⟩
    · rw [he, varL_big hk0]; simp
    · simp; omega

/-- What the bytes of a number say that has not ended, and one more. -/
def valL : List UInt8 → Nat → Nat
  | [], b => b
  | p :: ps, b => (p.toNat - 128) + 128 * valL ps b

theorem valL_snoc (ps : List UInt8) (p : UInt8) (b : Nat) : valL (ps ++ [p]) b = valL ps ((p.toNat - 128) + 128 * b) := by
  induction ps with
  | nil => rfl
  | cons q ps ih => simp [valL, ih]

theorem valL_pos : ∀ (ps : List UInt8) (b : Nat), 0 < b → 0 < valL ps b
  | [], _, h => h
  | p :: ps, b, h => by have := valL_pos ps b h; simp only [valL]; omega

theorem ofNat_toNat8 (p : UInt8) : UInt8.ofNat p.toNat = p := by simp

theorem varL_valL : ∀ (ps : List UInt8) (b : UInt8), (∀ p ∈ ps, 128 ≤ p.toNat) → b.toNat < 128 → (b.toNat ≠ 0 ∨ ps = []) → varL (valL ps b.toNat) = ps ++ [b]
  | [], b, _, hb, _ => by simp [valL, varL_small hb]
  | p :: ps, b, hp, hb, h => by
    have hb0 : b.toNat ≠ 0 := h.resolve_right (by simp)
    have hpos := valL_pos ps b.toNat (by omega)
    have h1 := hp p (by simp)
    have h2 := p.toNat_lt
    have ih := varL_valL ps b (fun q hq => hp q (by simp [hq])) hb (.inl hb0)
    rw [valL, varL_big (by omega), show (p.toNat - 128 + 128 * valL ps b.toNat) / 128 = valL ps b.toNat by omega, ih, show (p.toNat - 128 + 128 * valL ps b.toNat) % 128 + 128 = p.toNat by omega, ofNat_toNat8]
    rfl

theorem varL_valL_ne : ∀ (ps : List UInt8), ps ≠ [] → (∀ p ∈ ps, 128 ≤ p.toNat) → varL (valL ps 0) ≠ ps ++ [0]
  | [], h, _ => absurd rfl h
  | p :: ps, _, hp => by
    have h1 := hp p (by simp)
    have h2 := p.toNat_lt
    intro he
    rw [valL] at he
    by_cases h0 : valL ps 0 = 0
    · rw [h0, varL_small (by omega)] at he
      have := congrArg List.length he
      simp at this
    · rw [varL_big (by omega), show (p.toNat - 128 + 128 * valL ps 0) / 128 = valL ps 0 by omega] at he
      have hps : ps ≠ [] := by rintro rfl; exact h0 rfl
      simp only [List.cons_append, List.cons.injEq] at he
      exact varL_valL_ne ps hps (fun q hq => hp q (by simp [hq])) he.2

/-- The three results of the reference's ReadVar. -/
def rvOutR : Option (Nat × Nat) → Value
  | some (n, s) => .tuple #[.int .i64 (n : Int), .int .i64 (s : Int), .int .i64 0]
  | none => .tuple #[.int .i64 0, .int .i64 0, .int .i64 9]

theorem rreadVar_spec (a : Option Addr) (n c : Nat) (l : List UInt8) (w : World) (hr : RdB w a n c l) :
    Calls Try.prog 13 #[.slice a n c] w fun e w' => e = .returned (rvOutR (readVarF l)) ∧ Chg [] w w' := by
  have hl := hr.lenB
  have hle := hr.le
  apply amphoraref04_ReadVar_vc
  refine ⟨fun x u y w' => Chg [] w w' ∧ ∃ (m i : Nat), x = (m : Int) ∧ y = (i : Int) ∧ i ≤ 9 ∧ i ≤ n ∧ (i < 9 → u = ((128 ^ i : Nat) : Int)) ∧ m < 128 ^ i ∧ (∀ p ∈ l.take i, 128 ≤ p.toNat) ∧ (∀ b, m + b * 128 ^ i = valL (l.take i) b) ∧ rdVar (9 - i) (l.drop i) i m = readVarF l, fun _ _ y _ => 9 - y.toNat,
    ⟨Chg.refl _ _, 0, 0, rfl, rfl, by omega, by omega, fun _ => rfl, by decide, by simp, by simp [valL], rfl⟩, ?_⟩
  rintro x u y w1 ⟨hc1, m, i, rfl, rfl, hi9, hin, hu, hm, hpre, hval, hv⟩
  refine ⟨fun h => ?_, fun h => ?_⟩
  · simp only [Bool.and_eq_true, decide_eq_true_eq] at h
    have hi : i < 9 := by omega
    have hil : i < l.length := by omega
    obtain rfl := hu hi
    obtain ⟨b, hb⟩ : ∃ b, l.getD i 0 = b := ⟨_, rfl⟩
    have hget : l[i]? = some b := by rw [← hb]; simp [List.getD, hil]
    have hdrop : l.drop i = b :: l.drop (i + 1) := by
      rw [List.drop_eq_getElem_cons hil, ← hb]; simp [List.getD, hil]
    have hf : 9 - i = (9 - (i + 1)) + 1 := by omega
    have hbl := b.toNat_lt
    rw [hdrop, hf, rdVar] at hv
    have hi1 : IntKind.wrap .i64 ((i : Int) + 1) = ((i + 1 : Nat) : Int) := by rw [wrap_i64 (by omega) (by omega)]; rfl
    rw [hi1]
    have hp := pow128_le hi
    have hpow : 128 ^ i * 128 = 128 ^ (i + 1) := (Nat.pow_succ ..).symm
    have h3 : 0 < 128 ^ i := Nat.pow_pos (by decide)
    have hmod : b.toNat % 128 < 128 := Nat.mod_lt _ (by decide)
    have hmul : b.toNat % 128 * 128 ^ i ≤ 127 * 128 ^ i := Nat.mul_le_mul_right _ (by omega)
    have hsum : m + b.toNat % 128 * 128 ^ i < 128 ^ (i + 1) := by omega
    have hw : IntKind.wrap .i64 ((m : Int) + IntKind.wrap .i64 (IntKind.wrap .i64 (Int.tmod (b.toNat : Int) 128) * ((128 ^ i : Nat) : Int))) = ((m + b.toNat % 128 * 128 ^ i : Nat) : Int) := by
      rw [show Int.tmod (b.toNat : Int) 128 = ((b.toNat % 128 : Nat) : Int) by rw [Int.tmod_eq_emod_of_nonneg (by omega)]; omega, wrap_i64_nat _ (by omega), ← Int.natCast_mul, wrap_i64_nat _ (by omega), ← Int.natCast_add, wrap_i64_nat _ (by omega)]
    have hK := hr.keep0 hc1
    refine ixB (bA _) hK.cells hl (by omega) (by omega) fun _ _ _ => ?_
    refine ixB (bA _) hK.cells hl (by omega) (by omega) fun _ _ _ => ?_
    simp only [Int.toNat_natCast, hb, hw]
    refine ⟨fun h1 => ?_, fun h1 => ?_⟩
    · simp only [decide_eq_true_eq] at h1
      rw [if_pos (by omega)] at hv
      have hcd := hc1.trans (Chg.drew _ w1)
      have htl : (l.take (i + 1)).length = i + 1 := by rw [List.length_take]; omega
      have htk : ∀ w', Chg [] w w' → Cells w' a (bv (l.take (i + 1))) := fun w' hc' => by
        have := (hr.keep0 hc').cells
        rcases this with h0 | ⟨g, o, ha, hrg⟩
        · have : l = [] := by cases l with
            | nil => rfl
            | cons _ _ => simp [bv] at h0
          subst this; simp at hil
        · right
          refine ⟨g, o, ha, ?_⟩
          intro j v hj
          rw [bv_take, List.getElem?_take] at hj
          split at hj
          · exact hrg j v hj
          · simp at hj
      refine ⟨fun w' => Chg [] w w', hcd, by omega, by omega, ⟨(l.take (i + 1)).toArray⟩, fun w' hc' => toStr bS bE sS (htk w' hc') (by rw [htl]), ?_⟩
      refine thenC (rvar_spec (m + b.toNat % 128 * 128 ^ i) _ (by omega)) ?_
      rintro e w2 ⟨a2, n2, c2, rfl, hf2⟩
      refine ⟨_, _, _, rfl, fun w' => Chg [] w w' ∧ Chg [] w2 w', fun w' h => h.1, ⟨hcd.trans hf2.1, Chg.refl _ _⟩, ⟨(varL (m + b.toNat % 128 * 128 ^ i)).toArray⟩, fun w' hc' => toStr bS bE sS (hf2.cells.keep0 hc'.2) hf2.2.1, ?_⟩
      have hbm : b.toNat % 128 = b.toNat := Nat.mod_eq_of_lt (by omega)
      simp only [ByteArray.toList_mk, hbm, hval, take_succ_get hget]
      refine ⟨fun h2 => ?_, fun h2 => ?_⟩
      · rw [if_pos] at hv
        · rw [← hv]; exact ⟨rfl, hcd.trans hf2.1⟩
        · refine Classical.byContradiction fun hn => ?_
          rw [varL_valL _ _ hpre (by omega)] at h2
          · simp at h2
          · rcases Nat.eq_zero_or_pos i with h0 | h0
            · right; subst h0; rfl
            · left; intro hb0; exact hn ⟨hb0, h0⟩
      · rw [if_neg] at hv
        · rw [← hv, hval]; exact ⟨rfl, hcd.trans hf2.1⟩
        · rintro ⟨hb0, hi0⟩
          have : b = 0 := by rw [← ofNat_toNat8 b, hb0]; rfl
          subst this
          simp only [Bool.not_eq_false', beq_iff_eq] at h2
          exact varL_valL_ne _ (by intro h0; have := congrArg List.length h0; rw [List.length_take, List.length_nil] at this; omega) hpre h2
    · simp only [decide_eq_false_iff_not] at h1
      rw [if_neg (by omega)] at hv
      have hb128 : b.toNat % 128 = b.toNat - 128 := by omega
      refine ⟨⟨hc1, m + b.toNat % 128 * 128 ^ i, i + 1, rfl, rfl, by omega, by omega, fun hi' => ?_, hsum, ?_, ?_, ?_⟩, by omega⟩
      · have := pow128_le hi'
        have h4 : 128 ^ (i + 1) * 128 = 128 ^ (i + 1 + 1) := (Nat.pow_succ ..).symm
        rw [show ((128 ^ i : Nat) : Int) * 128 = ((128 ^ (i + 1) : Nat) : Int) by rw [← hpow]; push_cast; rfl]
        exact wrap_i64_nat _ (by omega)
      · intro p hp
        rw [take_succ_get hget, List.mem_append] at hp
        rcases hp with hp | hp
        · exact hpre p hp
        · simp at hp; subst hp; omega
      · intro d
        rw [take_succ_get hget, valL_snoc, ← hval, ← hpow, hb128, Nat.add_mul]
        have : d * (128 ^ i * 128) = 128 * d * 128 ^ i := by rw [Nat.mul_comm (128 ^ i), ← Nat.mul_assoc, Nat.mul_comm d]
        omega
      · rw [← hv, hb128]
  · have : 9 - i = 0 ∨ l.drop i = [] := by
      simp at h
      rcases Nat.lt_or_ge i 9 with h1 | h1
      · right; exact List.drop_eq_nil_of_le (by omega)
      · left; omega
    have h0 : readVarF l = none := by
      rw [← hv]
      rcases this with h1 | h1
      · rw [h1]; rfl
      · rw [h1]; cases 9 - i <;> rfl
    rw [h0]
    exact ⟨rfl, hc1⟩

theorem rnum_bytes (x : Int) (w : World) : Calls Try.prog 21 #[.int .i64 x] w fun e w' => ∃ a n c, e = .returned (.slice a n c) ∧ FreshB w w' a n c (numL (x % 18446744073709551616).toNat) := by
  obtain ⟨u, hu⟩ : ∃ u : Nat, (x % 18446744073709551616).toNat = u := ⟨_, rfl⟩
  have hux : x % 18446744073709551616 = (u : Int) := by omega
  have hult : u < 18446744073709551616 := by omega
  rw [hu]
  apply amphoraref04_Num_vc
  obtain ⟨g, w1, hr1, h1⟩ := (St.start w).mkN (kl := .i64) (kc := .i64) (c := 8) bT rfl (by omega) (by omega) (by omega)
  refine ⟨_, _, _, _, hr1, fun v i w' => ∃ j : Nat, j ≤ 8 ∧ i = 7 - (j : Int) ∧ v = ((u / 256 ^ j : Nat) : Int) ∧ ∃ xs, St w [] w' [.row 5 1 (.slice (some ⟨g, 0, none⟩) 8 8) 8 xs] ∧ xs.length = 8 ∧ xs.drop (8 - j) = bv ((numL u).drop (8 - j)), fun _ i _ => (i + 1).toNat,
    ⟨0, by omega, by omega, ?_, _, h1, by simp, ?_⟩, ?_⟩
  · rw [wrap_u64, hux]; simp
  · rw [Nat.sub_zero, List.drop_of_length_le (by simp), List.drop_of_length_le (by rw [numL_len]; exact Nat.le_refl _)]; rfl
  rintro v i w2 ⟨j, hj, rfl, rfl, xs, hS, hxs, hdr⟩
  refine ⟨fun h => ?_, fun h => ?_⟩
  · have hj8 : j < 8 := by simp at h; omega
    refine ⟨g, 0, rfl, by omega, by simp; omega, ?_⟩
    have hv : IntKind.wrap .u8 (Int.tmod ((u / 256 ^ j : Nat) : Int) 256) = ((UInt8.ofNat (u / 256 ^ j % 256)).toNat : Int) := by
      rw [Int.tmod_eq_emod_of_nonneg (Int.natCast_nonneg _), wrap_u8]; simp
    rw [hv]
    obtain ⟨b, hb⟩ : ∃ b, UInt8.ofNat (u / 256 ^ j % 256) = b := ⟨_, rfl⟩
    rw [hb]
    obtain ⟨w3, hr3, h3⟩ := hS.stRow (i := 0) (j := 7 - j) (T := 5) (v := .int .u8 (b.toNat : Int)) rfl (by exact Try.sizeOf5 _) (by omega) (by simp [Value.oneCell'])
    rw [show (0 + Int.toNat (7 - (j : Int)) * 1) = 7 - j by omega]
    refine ⟨w3, hr3, ⟨j + 1, by omega, ?_, ?_, _, h3, by simp [hxs], ?_⟩, ?_⟩
    · rw [wrap_i64 (by omega) (by omega)]; omega
    · have hdd : u / 256 ^ j / 256 = u / 256 ^ (j + 1) := by rw [Nat.div_div_eq_div_mul, Nat.pow_succ]
      have : u / 256 ^ (j + 1) ≤ u := Nat.div_le_self _ _
      rw [Int.tdiv_eq_ediv_of_nonneg (Int.natCast_nonneg _), show ((u / 256 ^ j : Nat) : Int) / 256 = ((u / 256 ^ (j + 1) : Nat) : Int) by rw [← hdd]; exact (Int.natCast_ediv _ 256).symm, wrap_u64]
      generalize u / 256 ^ (j + 1) = q at this ⊢
      omega
    · have hlt : 7 - j < (numL u).length := by rw [numL_len]; omega
      have hget : (numL u)[7 - j]? = some b := by rw [numL_get _ _ (by omega), ← hb, show 7 - (7 - j) = j by omega]
      rw [show 8 - (j + 1) = 7 - j by omega, List.drop_set, if_neg (by omega), Nat.sub_self, List.drop_eq_getElem_cons (by omega), List.set_cons_zero, show 7 - j + 1 = 8 - j by omega, hdr, List.drop_eq_getElem_cons hlt,
        show 7 - j + 1 = 8 - j by omega]
      rw [List.getElem?_eq_getElem hlt, Option.some.injEq] at hget
      rw [hget]
      rfl
    · show (IntKind.wrap .i64 (7 - (j : Int) - 1) + 1).toNat < (7 - (j : Int) + 1).toNat
      rw [wrap_i64 (by omega) (by omega)]; omega
  · have hj8 : j = 8 := by simp at h; omega
    subst hj8
    simp only [Nat.sub_self, List.drop_zero] at hdr
    subst hdr
    exact ⟨_, _, _, rfl, hS.freshB (i := 0) rfl⟩

/-- The two results of the reference's ReadNum. -/
def rnOutR : Option Int → Value
  | some x => .tuple #[.int .i64 x, .int .i64 0]
  | none => .tuple #[.int .i64 0, .int .i64 9]

theorem rreadNum_spec (a : Option Addr) (n c : Nat) (l : List UInt8) (w : World) (hr : RdB w a n c l) :
    Calls Try.prog 15 #[.slice a n c] w fun e w' => e = .returned (rnOutR (readNumF l)) ∧ w' = w := by
  have hl := hr.lenB
  apply amphoraref04_ReadNum_vc
  refine ⟨fun h => ?_, fun h => ?_⟩
  · have : l.length ≠ 8 := by simp at h; omega
    simp only [readNumF, if_neg this]
    exact ⟨rfl, trivial⟩
  · have h8 : l.length = 8 := by simp at h; omega
    refine ⟨fun x y w' => w' = w ∧ ∃ i : Nat, y = (i : Int) ∧ i ≤ 8 ∧ x = (beNat (l.take i) : Int), fun _ y _ => 8 - y.toNat, ⟨rfl, 0, rfl, by omega, rfl⟩, ?_⟩
    rintro x y w1 ⟨rfl, i, rfl, hi, rfl⟩
    refine ⟨fun h => ?_, fun h => ?_⟩
    · have hi8 : i < 8 := by simp at h; omega
      have hil : i < l.length := by omega
      obtain ⟨b, hb⟩ : ∃ b, l.getD i 0 = b := ⟨_, rfl⟩
      have hget : l[i]? = some b := by rw [← hb]; simp [List.getD, hil]
      have hm := beNat_lt (l.take i)
      rw [List.length_take, Nat.min_eq_left (by omega)] at hm
      have hp := pow256_le hi8
      have hbl := b.toNat_lt
      refine ixB (bA _) hr.cells hl (by omega) (by omega) fun _ _ _ => ?_
      simp only [Int.toNat_natCast, hb]
      rw [show IntKind.wrap .u64 (IntKind.wrap .u64 ((beNat (l.take i) : Int) * 256) + IntKind.wrap .u64 (b.toNat : Int)) = ((beNat (l.take i) * 256 + b.toNat : Nat) : Int) by simp only [wrap_u64]; omega, wrap_i64 (by omega) (by omega)]
      exact ⟨⟨trivial, i + 1, rfl, by omega, by rw [take_succ_get hget, beNat_snoc]⟩, by omega⟩
    · have hi8 : i = 8 := by simp at h; omega
      subst hi8
      rw [List.take_of_length_le (by omega)]
      simp only [readNumF, if_pos h8]
      exact ⟨rfl, trivial⟩

end Go.Proofs.Ytpfjakmbokkkoaa
