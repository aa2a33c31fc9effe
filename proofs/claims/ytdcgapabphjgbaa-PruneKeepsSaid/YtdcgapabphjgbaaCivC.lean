/- The document's calendar walked: it finds the code's buckets (conditions: none). -/
import Derived.Test.YtdcgapabphjgbaaCivB
import Derived.Test.YtdcgapabphjgbaaVref20
namespace Go.Proofs.Ytdcgapabphjgbaa
open Go Sx
set_option maxRecDepth 8000

theorem tmod0 {a k : Int} (hk : 0 < k) : ((Int.tmod a k) == (0 : Int)) = decide (a % k = 0) := by
  have : Int.tmod a k = 0 ↔ a % k = 0 := ⟨fun h => Int.emod_eq_zero_of_dvd (Int.dvd_of_tmod_eq_zero h), fun h => Int.tmod_eq_zero_of_dvd (Int.dvd_of_emod_eq_zero h)⟩
  by_cases h : a % k = 0
  · simp [h, this.2 h]
  · simp [h, mt this.1 h]
theorem rleap_spec (y : Int) (w : World) : Calls Try.prog 76 #[.int .i64 y] w fun e w' => e = .returned (.bool (leapI y)) ∧ w' = w := by
  apply amphoraref19_Leap_vc
  rw [tmod0 (by decide), tmod0 (by decide)]
  have e3 : ((Int.tmod y 100) != (0 : Int)) = !decide (y % 100 = 0) := by rw [bne, tmod0 (by decide)]
  rw [e3]
  unfold leapI
  refine ⟨fun h => ⟨by rw [h]; rfl, rfl⟩, fun h => ⟨fun h2 => ⟨by rw [h, h2]; rfl, rfl⟩, fun h2 => ⟨by rw [h, h2]; rfl, rfl⟩⟩⟩
theorem rof_spec (y : Int) (w : World) : Calls Try.prog 54 #[.int .i64 y] w fun e w' => e = .returned (.int .i64 (if leapI y then 366 else 365)) ∧ w' = w := by
  apply amphoraref19_of_vc
  refine (rleap_spec y w).mono ?_
  rintro e w1 ⟨rfl, rfl⟩
  exact ⟨_, rfl, fun h => ⟨by rw [if_pos h], rfl⟩, fun h => ⟨by rw [if_neg (by rw [h]; simp)], rfl⟩⟩

theorem ixS20 {T : TypeId} (hT : Try.prog.underlying T = some .string) {l : List UInt8} {i : Nat} (hi : i < l.length) (w : World) : (Instr.index T (.string ⟨l.toArray⟩) (.int .i64 (i : Int))).run Try.prog w = .ok (.int .u8 ((l.getD i 0).toNat : Int)) w := by
  have h1 : (⟨l.toArray⟩ : ByteArray)[i]? = some (l.getD i 0) := by
    have h2 : i < (⟨l.toArray⟩ : ByteArray).size := by show i < l.toArray.size; simpa using hi
    rw [getElem?_pos _ i h2]
    show some (l.toArray[i]'(by simpa using hi)) = _
    simp [List.getD, hi]
  have h0 : (0 : Int) ≤ (i : Int) := by omega
  simp only [Instr.index, Sem.run_bind, asIntOf, Sem.run_pure, run_underlying hT, Result.andThen_ok, h0, if_true, Int.toNat_natCast, h1]
theorem rlen_spec (y : Int) (m : Nat) (h1 : 1 ≤ m) (h12 : m ≤ 12) (w : World) : Calls Try.prog 55 #[.int .i64 y, .int .i64 (m : Int)] w fun e w' => e = .returned (.int .i64 ((lenB (leapI y) m : Nat) : Int)) ∧ w' = w := by
  apply amphoraref19_Length_vc
  have hl : ∀ k : Fin 12, (([31, 28, 31, 30, 31, 30, 31, 31, 30, 31, 30, 31] : List UInt8).getD k.1 0).toNat = lenB false (k.1 + 1) := by decide
  have hk := hl ⟨m - 1, by omega⟩
  simp only at hk
  rw [show m - 1 + 1 = m by omega] at hk
  have hw : IntKind.wrap .i64 ((m : Int) - 1) = ((m - 1 : Nat) : Int) := by rw [wrap_i64 (by omega) (by omega)]; omega
  refine ⟨fun h => ?_, fun _ => ⟨_, by rw [hw]; exact ixS20 Try.underlying9 (l := [31, 28, 31, 30, 31, 30, 31, 31, 30, 31, 30, 31]) (i := m - 1) (by simp; omega) w, fun x w' => x = (decide (m = 2) && leapI y) ∧ w' = w, ⟨fun h2 => (rleap_spec y w).mono ?_, fun h2 => ⟨?_, rfl⟩⟩, ?_⟩⟩
  · simp at h; omega
  · rintro e w1 ⟨rfl, rfl⟩
    have : m = 2 := by simp at h2; omega
    exact ⟨_, rfl, by simp [this], rfl⟩
  · have : m ≠ 2 := by simp at h2; omega
    simp [this]
  rintro x w2 ⟨rfl, rfl⟩
  rw [hk]
  have hb : lenB false m ≤ 31 := by unfold lenB; split <;> split <;> simp
  refine ⟨fun x w' => x = ((lenB (leapI y) m : Nat) : Int) ∧ w' = w2, ⟨fun h => ⟨?_, rfl⟩, fun h => ⟨?_, rfl⟩⟩, ?_⟩
  · simp only [Bool.and_eq_true, decide_eq_true_eq] at h
    obtain ⟨rfl, hy⟩ := h
    rw [hy]; rfl
  · rw [wrap_i64 (by omega) (by omega)]
    by_cases h2 : m = 2
    · subst h2
      have : leapI y = false := by simpa using h
      rw [this]
    · rw [len_ne2 h2 (leapI y)]
  · rintro x w3 ⟨rfl, rfl⟩
    exact ⟨rfl, rfl⟩

theorem rfloor_spec {n d : Int} (hd : 0 < d) (hd2 : d ≤ 1000000) (h0 : -1099511627776 ≤ n) (h1 : n ≤ 1099511627776) (w : World) : Calls Try.prog 41 #[.int .i64 n, .int .i64 d] w fun e w' => e = .returned (.int .i64 (n / d)) ∧ w' = w := by
  apply amphoraref19_Floor_vc
  have e0 := Int.mul_tdiv_add_tmod n d
  have hdm := Int.emod_add_mul_ediv n d
  have hm0 := Int.emod_nonneg n (by omega : d ≠ 0)
  have hm1 := Int.emod_lt_of_pos n hd
  have hcase : (Int.tdiv n d = n / d ∧ d * (n / d) ≤ n) ∨ (Int.tdiv n d = n / d + 1 ∧ n < d * (n / d + 1)) := by
    by_cases hz : 0 ≤ n ∨ d ∣ n
    · left
      have ht : Int.tmod n d = n % d := by rw [Int.tmod_eq_emod, if_pos hz]; omega
      have : d * Int.tdiv n d = d * (n / d) := by rw [ht] at e0; omega
      exact ⟨Int.eq_of_mul_eq_mul_left (by omega) this, by omega⟩
    · right
      have ht : Int.tmod n d = n % d - d := by rw [Int.tmod_eq_emod, if_neg hz]; omega
      have : d * Int.tdiv n d = d * (n / d + 1) := by rw [ht] at e0; rw [Int.mul_add]; omega
      exact ⟨Int.eq_of_mul_eq_mul_left (by omega) this, by rw [Int.mul_add]; omega⟩
  have hb : -1099511627777 ≤ n / d ∧ n / d ≤ 1099511627776 := by
    constructor
    · have : -1099511627776 ≤ n / d := by
        rw [Int.le_ediv_iff_mul_le hd]
        have : (-1099511627776 : Int) * d ≤ -1099511627776 * 1 := Int.mul_le_mul_of_nonpos_left (by omega) (by omega)
        omega
      omega
    · by_cases hn : 0 ≤ n
      · exact Int.le_trans (Int.ediv_le_self d hn) h1
      · have := Int.ediv_neg_of_neg_of_pos (by omega : n < 0) hd; omega
  have hq : -1099511627777 ≤ Int.tdiv n d ∧ Int.tdiv n d ≤ 1099511627777 := by rcases hcase with ⟨h, _⟩ | ⟨h, _⟩ <;> omega
  have hmul : d * (n / d) = n - n % d := by omega
  have hmul2 : d * (n / d + 1) = n - n % d + d := by rw [Int.mul_add]; omega
  have hp : Int.tdiv n d * d = d * Int.tdiv n d := Int.mul_comm _ _
  have hpb : -1099512627777 ≤ Int.tdiv n d * d ∧ Int.tdiv n d * d ≤ 1099512627777 := by rcases hcase with ⟨h, _⟩ | ⟨h, _⟩ <;> rw [hp, h] <;> omega
  refine ⟨by omega, fun x w' => x = n / d ∧ w' = w, ?_, ?_⟩
  · rw [wrap_i64 (n := Int.tdiv n d) (by omega) (by omega), wrap_i64 (n := Int.tdiv n d * d) (by omega) (by omega), wrap_i64 (n := Int.tdiv n d - 1) (by omega) (by omega)]
    refine ⟨fun h => ⟨?_, rfl⟩, fun h => ⟨?_, rfl⟩⟩
    · simp only [decide_eq_true_eq] at h
      rcases hcase with ⟨h1, h2⟩ | ⟨h1, h2⟩
      · rw [hp, h1] at h; omega
      · omega
    · simp only [decide_eq_false_iff_not] at h
      rcases hcase with ⟨h1, h2⟩ | ⟨h1, h2⟩
      · exact h1
      · rw [hp, h1] at h; omega
  · rintro x w1 ⟨rfl, rfl⟩
    exact ⟨rfl, rfl⟩

theorem rwday_spec (n : Int) (w : World) : Calls Try.prog 78 #[.int .i64 n] w fun e w' => e = .returned (.int .i64 ((n + 3) % 7 + 1)) ∧ w' = w := by
  apply amphoraref19_Weekday_vc
  obtain ⟨r, hr⟩ : ∃ r, Int.tmod n 7 = r := ⟨_, rfl⟩
  have hrr : r = n % 7 ∨ r = n % 7 - 7 := by
    rw [← hr, Int.tmod_eq_emod]
    split
    · left; omega
    · right; rfl
  rw [hr]
  refine ⟨fun x w' => x = n % 7 ∧ w' = w, ⟨fun h => ⟨?_, rfl⟩, fun h => ⟨?_, rfl⟩⟩, ?_⟩
  · simp only [decide_eq_true_eq] at h
    rw [wrap_i64 (by omega) (by omega)]; omega
  · simp only [decide_eq_false_iff_not] at h
    omega
  rintro x w1 ⟨rfl, rfl⟩
  rw [wrap_i64 (n := n % 7 + 4) (by omega) (by omega), wrap_i64 (n := n % 7 + 4 - 7) (by omega) (by omega)]
  refine ⟨fun x w' => x = (n + 3) % 7 + 1 ∧ w' = w1, ⟨fun h => ⟨?_, rfl⟩, fun h => ⟨?_, rfl⟩⟩, ?_⟩
  · simp only [decide_eq_true_eq] at h
    omega
  · simp only [decide_eq_false_iff_not] at h
    omega
  rintro x w2 ⟨rfl, rfl⟩
  exact ⟨rfl, rfl⟩

/-- The date of a day that is in range. -/
theorem rdate_spec (n : Int) (h0 : -13000000 ≤ n) (h1 : n ≤ 13000000) (w : World) : Calls Try.prog 42 #[.int .i64 n] w fun e w' => ∃ (y : Int) (m d : Nat), e = .returned (.tuple #[.agg (iv [y, (m : Int), (d : Int)]).toArray, .int .i64 0]) ∧ DateOk n y m d ∧ Chg [] w w' := by
  apply amphoraref19_Date_vc
  obtain ⟨g2, w1, r1, k1⟩ := (St.start w).zeroA dZ
  have k1 : St w [] w1 [.arr g2 75 (iv [0, 0, 0])] := k1
  refine ⟨g2, w1, r1, fun h => ?_, fun _ => ?_⟩
  · simp at h; omega
  -- whole spans
  refine ⟨fun x y w' => ∃ k : Nat, x = n + 146097 * k ∧ y = 1970 - 400 * k ∧ n + 146097 * k < 20000000 ∧ (k : Int) ≤ 100 ∧ w' = w1, fun x _ _ => (20000000 - x).toNat, ⟨0, by simp, by simp, by simp; omega, by simp, rfl⟩, ?_⟩
  rintro x y w2 ⟨k, rfl, rfl, hk, hk2, rfl⟩
  refine ⟨fun h => ?_, fun h => ?_⟩
  · simp only [decide_eq_true_eq] at h
    rw [wrap_i64 (n := n + 146097 * (k : Int) + 146097) (by omega) (by omega), wrap_i64 (by omega) (by omega)]
    exact ⟨⟨k + 1, by omega, by omega, by omega, by omega, rfl⟩, by dsimp only; omega⟩
  simp only [decide_eq_false_iff_not] at h
  obtain ⟨e, he⟩ : ∃ e : Int, (k : Int) = e := ⟨_, rfl⟩
  rw [he] at h hk hk2 ⊢
  have he0 : 0 ≤ e := by omega
  clear he
  refine ⟨fun x y w' => ∃ j : Nat, x = n + 146097 * (e - j) ∧ y = 1970 - 400 * (e - j) ∧ 0 ≤ x ∧ (j : Int) ≤ 200 ∧ w' = w2, fun x _ _ => x.toNat, ⟨0, by simp, by simp, by omega, by simp, rfl⟩, ?_⟩
  rintro x y w3 ⟨j, hx, rfl, hx0, hj, rfl⟩
  refine ⟨fun h2 => ?_, fun h2 => ?_⟩
  · simp only [ge_iff_le, decide_eq_true_eq] at h2
    rw [wrap_i64 (n := x - 146097) (by omega) (by omega), wrap_i64 (by omega) (by omega)]
    exact ⟨⟨j + 1, by omega, by omega, by omega, by omega, rfl⟩, by dsimp only; omega⟩
  simp only [ge_iff_le, decide_eq_false_iff_not] at h2
  obtain ⟨f, hf⟩ : ∃ f : Int, e - j = f := ⟨_, rfl⟩
  rw [hf] at hx ⊢
  have hfb : -100 ≤ f ∧ f ≤ 100 := by omega
  clear hf
  -- years
  have hjan : ∀ z : Int, janI (1970 - 400 * f + z) = janI (1970 + z) - 146097 * f := fun z => by
    have := jan_era (1970 + z) (-f)
    rw [show 1970 - 400 * f + z = 1970 + z + 400 * -f by omega, this]; omega
  have h1970 : janI 1970 = 719528 := by decide
  refine ⟨fun u y w' => ∃ z : Int, 0 ≤ z ∧ z ≤ 400 ∧ y = 1970 - 400 * f + z ∧ u = n + 719528 - janI y ∧ 0 ≤ u ∧ w' = w3, fun u _ _ => u.toNat, ⟨0, by omega, by omega, by omega, ?_, hx0, rfl⟩, ?_⟩
  · have := hjan 0
    simp only [Int.add_zero] at this
    rw [this, h1970]; omega
  rintro u y w4 ⟨z, hz0, hz4, rfl, hu, hu0, rfl⟩
  have hyb : -40000 ≤ 1970 - 400 * f + z ∧ 1970 - 400 * f + z ≤ 43000 := by omega
  obtain ⟨y, hy⟩ : ∃ y, 1970 - 400 * f + z = y := ⟨_, rfl⟩
  rw [hy] at hu hyb ⊢
  have hs := jan_step y
  have hjz := hjan z
  rw [hy] at hjz
  refine (rof_spec y w4).mono ?_
  rintro e5 w5 ⟨rfl, rfl⟩
  refine ⟨_, rfl, fun h3 => (rof_spec y w5).mono ?_, fun h3 => ?_⟩
  · rintro e6 w6 ⟨rfl, rfl⟩
    refine ⟨_, rfl, ?_⟩
    simp only [ge_iff_le, decide_eq_true_eq] at h3
    have hub : u ≤ 200000 := by
      have : janI 1970 ≤ janI (1970 + z) := by
        by_cases e : z = 0
        · subst e; exact Int.le_refl _
        · have := jan_lt (y := 1970) (z := 1970 + z) (by omega); omega
      omega
    have hz399 : z < 400 := by
      apply Int.lt_of_not_ge
      intro hge
      have e : z = 400 := by omega
      subst e
      have : janI (1970 + 400) = 865625 := by decide
      omega
    cases hl : leapI y with
    | true =>
      rw [hl] at hs h3; simp only [↓reduceIte] at hs h3
      have e366 : (if true = true then (366 : Int) else 365) = 366 := rfl
      rw [e366]
      rw [wrap_i64 (n := u - 366) (by omega) (by omega), wrap_i64 (n := y + 1) (by omega) (by omega)]
      exact ⟨⟨z + 1, by omega, by omega, by omega, by omega, by omega, rfl⟩, by dsimp only; omega⟩
    | false =>
      rw [hl] at hs h3; simp only [↓reduceIte, Bool.false_eq_true] at hs h3
      have e365 : (if false = true then (366 : Int) else 365) = 365 := rfl
      rw [e365]
      rw [wrap_i64 (n := u - 365) (by omega) (by omega), wrap_i64 (n := y + 1) (by omega) (by omega)]
      exact ⟨⟨z + 1, by omega, by omega, by omega, by omega, by omega, rfl⟩, by dsimp only; omega⟩
  simp only [ge_iff_le, decide_eq_false_iff_not] at h3
  -- months
  have h12 : cumB (leapI y) 13 = 365 + (if leapI y then 1 else 0) := by cases leapI y <;> rfl
  have hyb2 : -40000 ≤ y ∧ y ≤ 40000 := by
    have a1 : janI (-40000) = -14609700 := by decide
    have a2 : janI 40001 = 14610066 := by decide
    have : janI y ≤ n + 719528 := by omega
    constructor
    · exact hyb.1
    · refine Int.not_lt.1 fun hgt => ?_
      by_cases e : 40001 = y
      · rw [← e] at this; omega
      · have := jan_lt (y := 40001) (z := y) (by omega); omega
  have hc1 : ((cumB (leapI y) 1 : Nat) : Int) = 0 := by cases leapI y <;> rfl
  refine ⟨fun v q w' => ∃ m : Nat, q = (m : Int) ∧ 1 ≤ m ∧ m ≤ 12 ∧ v = u - ((cumB (leapI y) m : Nat) : Int) ∧ 0 ≤ v ∧ w' = w5, fun v _ _ => v.toNat, ⟨1, rfl, by omega, by omega, by rw [hc1]; omega, hu0, rfl⟩, ?_⟩
  rintro v q w7 ⟨m, rfl, hm1, hm12, hv, hv0, rfl⟩
  have hcl := cum_len (leapI y) ⟨m, by omega⟩ hm1
  simp only at hcl
  have hlb : 28 ≤ lenB (leapI y) m ∧ lenB (leapI y) m ≤ 31 := by unfold lenB; split <;> split <;> simp
  have hub : u ≤ 400 := by
    cases hl : leapI y with
    | true => rw [hl] at h3; simp only [↓reduceIte] at h3; omega
    | false => rw [hl] at h3; simp only [↓reduceIte, Bool.false_eq_true] at h3; omega
  refine (rlen_spec y m hm1 hm12 w7).mono ?_
  rintro e8 w8 ⟨rfl, rfl⟩
  refine ⟨_, rfl, fun h4 => (rlen_spec y m hm1 hm12 w8).mono ?_, fun h4 => ⟨fun hbad => ?_, fun _ => ?_⟩⟩
  · rintro e9 w9 ⟨rfl, rfl⟩
    refine ⟨_, rfl, ?_⟩
    simp only [ge_iff_le, decide_eq_true_eq] at h4
    have hm11 : m < 12 := by
      apply Nat.lt_of_not_le
      intro hge
      have e : m = 12 := by omega
      subst e
      rw [show (12 : Nat) + 1 = 13 from rfl, h12] at hcl
      cases hl : leapI y with
      | true => rw [hl] at h3 hcl hv h4; simp only [↓reduceIte] at h3 hcl; omega
      | false => rw [hl] at h3 hcl hv h4; simp only [↓reduceIte, Bool.false_eq_true] at h3 hcl; omega
    rw [wrap_i64 (n := v - _) (by omega) (by omega), wrap_i64 (n := (m : Int) + 1) (by omega) (by omega)]
    exact ⟨⟨m + 1, by omega, by omega, by omega, by omega, by omega, rfl⟩, by dsimp only; omega⟩
  · exfalso; simp at hbad; omega
  · simp only [ge_iff_le, decide_eq_false_iff_not] at h4
    have hw : IntKind.wrap .i64 (v + 1) = ((v.toNat + 1 : Nat) : Int) := by rw [wrap_i64 (by omega) (by omega)]; omega
    rw [hw]
    obtain ⟨w9, r9, k9⟩ := k1.stA (i := 0) (v := iv [y, (m : Int), ((v.toNat + 1 : Nat) : Int)]) rfl (dS _) rfl rfl (iv_one _)
    refine ⟨_, date_build _ _ _ _, w9, r9, _, k9.ldVarA (i := 0) (l := iv [y, (m : Int), ((v.toNat + 1 : Nat) : Int)]) rfl (dT _) (dS _) rfl, y, m, v.toNat + 1, rfl, ⟨hm1, hm12, by omega, by omega, by omega⟩, k9.chg⟩

end Go.Proofs.Ytdcgapabphjgbaa
