/- The document's weeks and buckets walked: they are the code's (conditions: none). -/
import Derived.Test.YtdcgapabphjgbaaCivC
namespace Go.Proofs.Ytdcgapabphjgbaa
open Go Sx
set_option maxRecDepth 8000

/-- January 4th's day. -/
theorem rdays_spec (y : Int) (h0 : -40000 ≤ y) (h1 : y ≤ 40000) (w : World) : Calls Try.prog 77 #[.agg (iv [y, 1, 4]).toArray] w fun e w' => e = .returned (.tuple #[.int .i64 (janI y - 719525), .int .i64 0]) ∧ Chg [] w w' := by
  apply amphoraref19_Days_vc
  obtain ⟨g1, w1, r1, k1⟩ := (St.start w).boxA (P := Try.prog) 75 (iv [y, 1, 4])
  have k1 : St w [] w1 [.arr g1 75 (iv [y, 1, 4])] := k1
  have hl31 : ((lenB (leapI y) 1 : Nat) : Int) = 31 := by cases leapI y <;> rfl
  have k1d : St w [] w1.drew [.arr g1 75 (iv [y, 1, 4])] := k1.drew
  refine ⟨g1, w1, r1, fun x w' => x = false ∧ w' = w1.drew, ⟨fun w' => St w [] w' [.arr g1 75 (iv [y, 1, 4])], k1d, _, fun w' hw => hw.ldL (i := 0) (o := 0) (v := .int .i64 y) rfl (iA _) rfl rfl, fun h => ?_, fun _ => ⟨_, fun w' hw => hw.ldL (i := 0) (o := 0) (v := .int .i64 y) rfl (iA _) rfl rfl, fun h => ?_, fun _ => ⟨_, fun w' hw => hw.ldL (i := 0) (o := 2) (v := .int .i64 4) rfl (iA _) rfl rfl, fun h => (by cases h), fun _ => ⟨_, fun w' hw => hw.ldL (i := 0) (o := 2) (v := .int .i64 4) rfl (iA _) rfl rfl, _, fun w' hw => hw.ldL (i := 0) (o := 0) (v := .int .i64 y) rfl (iA _) rfl rfl, _, fun w' hw => hw.ldL (i := 0) (o := 1) (v := .int .i64 1) rfl (iA _) rfl rfl, (rlen_spec y 1 (by omega) (by omega) w1.drew).mono ?_⟩⟩⟩⟩, ?_⟩
  · exfalso; simp at h; omega
  · exfalso; simp at h; omega
  · rintro e w2 ⟨rfl, rfl⟩
    exact ⟨_, rfl, _, fun _ h => h, k1d, by rw [hl31]; rfl, rfl⟩
  rintro x w3 ⟨rfl, rfl⟩
  refine ⟨fun h => (by cases h), fun _ => ⟨_, k1d.ldL (i := 0) (o := 0) (v := .int .i64 y) rfl (iA _) rfl rfl, ?_⟩⟩
  have h1970 : janI 1970 = 719528 := by decide
  refine ⟨fun m x w' => ∃ k : Nat, x = y + 400 * k ∧ m = -(146097 * k) ∧ (x < 2370 ∨ k = 0) ∧ w' = w1.drew, fun _ x _ => (2370 - x).toNat, ⟨0, by simp, by simp, .inr rfl, rfl⟩, ?_⟩
  rintro m x w4 ⟨k, rfl, rfl, hk, rfl⟩
  refine ⟨fun h => ?_, fun h => ?_⟩
  · simp only [decide_eq_true_eq] at h
    rw [wrap_i64 (n := -(146097 * (k : Int)) - 146097) (by omega) (by omega), wrap_i64 (by omega) (by omega)]
    exact ⟨⟨k + 1, by omega, by omega, by omega, rfl⟩, by dsimp only; omega⟩
  simp only [decide_eq_false_iff_not] at h
  obtain ⟨e, he⟩ : ∃ e : Int, (k : Int) = e := ⟨_, rfl⟩
  have hkb : (k : Int) ≤ 200 := by omega
  rw [he] at h hk hkb ⊢
  have he0 : 0 ≤ e := by omega
  refine ⟨fun m x w' => ∃ j : Nat, x = y + 400 * (e - j) ∧ m = -(146097 * (e - j)) ∧ 1970 ≤ x ∧ w' = w1.drew, fun _ x _ => x.toNat, ⟨0, by simp, by simp, by omega, rfl⟩, ?_⟩
  rintro m x w5 ⟨j, hx, rfl, hx0, rfl⟩
  refine ⟨fun h2 => ?_, fun h2 => ?_⟩
  · simp only [ge_iff_le, decide_eq_true_eq] at h2
    rw [wrap_i64 (n := -(146097 * (e - (j : Int))) + 146097) (by omega) (by omega), wrap_i64 (by omega) (by omega)]
    exact ⟨⟨j + 1, by omega, by omega, by omega, rfl⟩, by dsimp only; omega⟩
  simp only [ge_iff_le, decide_eq_false_iff_not] at h2
  obtain ⟨f, hf⟩ : ∃ f : Int, e - j = f := ⟨_, rfl⟩
  rw [hf] at hx ⊢
  have hje : janI x = janI y + 146097 * f := by rw [hx]; exact jan_era y f
  have hfb : -200 ≤ f ∧ f ≤ 200 := by omega
  refine ⟨fun m z w' => ∃ i : Nat, z = 1970 + (i : Int) ∧ z ≤ x ∧ m = -(146097 * f) + janI z - 719528 ∧ 0 ≤ janI z - 719528 ∧ janI z - 719528 ≤ 366 * i ∧ w' = w1.drew, fun _ z _ => (x - z).toNat, ⟨0, rfl, by omega, by rw [h1970]; omega, by rw [h1970]; omega, by rw [h1970]; omega, rfl⟩, ?_⟩
  rintro m z w6 ⟨i, rfl, hz, rfl, hj0, hj1, rfl⟩
  have hs := jan_step (1970 + (i : Int))
  refine ⟨fun h3 => (rof_spec _ _).mono ?_, fun h3 => ?_⟩
  · rintro e7 w7 ⟨rfl, rfl⟩
    simp only [decide_eq_true_eq] at h3
    refine ⟨_, rfl, ?_⟩
    cases hl : leapI (1970 + (i : Int)) with
    | true =>
      rw [hl] at hs; simp only [↓reduceIte] at hs
      have e366 : (if true = true then (366 : Int) else 365) = 366 := rfl
      rw [e366, wrap_i64 (n := _ + 366) (by omega) (by omega), wrap_i64 (n := 1970 + (i : Int) + 1) (by omega) (by omega)]
      exact ⟨⟨i + 1, by omega, by omega, by omega, by omega, by omega, rfl⟩, by dsimp only; omega⟩
    | false =>
      rw [hl] at hs; simp only [↓reduceIte, Bool.false_eq_true] at hs
      have e365 : (if false = true then (366 : Int) else 365) = 365 := rfl
      rw [e365, wrap_i64 (n := _ + 365) (by omega) (by omega), wrap_i64 (n := 1970 + (i : Int) + 1) (by omega) (by omega)]
      exact ⟨⟨i + 1, by omega, by omega, by omega, by omega, by omega, rfl⟩, by dsimp only; omega⟩
  simp only [decide_eq_false_iff_not] at h3
  have hzx : 1970 + (i : Int) = x := by omega
  rw [hzx] at hj0 hj1 ⊢
  refine ⟨fun m q w' => m = -(146097 * f) + janI x - 719528 ∧ q = 1 ∧ w' = w1.drew, fun _ _ _ => 0, ⟨rfl, rfl, rfl⟩, ?_⟩
  rintro m q w8 ⟨rfl, rfl, rfl⟩
  refine ⟨_, k1d.ldL (i := 0) (o := 1) (v := .int .i64 1) rfl (iA _) rfl rfl, fun h4 => (by simp at h4), fun _ => ⟨_, k1d.ldL (i := 0) (o := 2) (v := .int .i64 4) rfl (iA _) rfl rfl, ?_, k1d.chg⟩⟩
  have hjb : -14609700 ≤ janI y ∧ janI y ≤ 14610066 := by unfold janI; omega
  have hw : IntKind.wrap .i64 (IntKind.wrap .i64 (-(146097 * f) + janI x - 719528 + 4) - 1) = janI y - 719525 := by
    rw [wrap_i64 (n := -(146097 * f) + janI x - 719528 + 4) (by omega) (by omega), wrap_i64 (by omega) (by omega)]; omega
  rw [hw]

/-- The Monday of a year's first week. -/
def firI (y : Int) : Int := janI y - 719525 - (janI y - 719525 + 3) % 7
theorem rfirst_spec (y : Int) (h0 : -40000 ≤ y) (h1 : y ≤ 40000) (w : World) : Calls Try.prog 56 #[.int .i64 y] w fun e w' => e = .returned (.int .i64 (firI y)) ∧ Chg [] w w' := by
  apply amphoraref19_first_vc
  refine ⟨fun x m w' => x = y ∧ m = 0 ∧ w' = w, fun _ _ _ => 0, ⟨rfl, rfl, rfl⟩, ?_⟩
  rintro x m w1 ⟨rfl, rfl, rfl⟩
  refine ⟨fun h => (by exfalso; simp at h; omega), fun _ => ⟨fun z m w' => z = x ∧ m = 0 ∧ w' = w1, fun _ _ _ => 0, ⟨rfl, rfl, rfl⟩, ?_⟩⟩
  rintro z m w2 ⟨rfl, rfl, rfl⟩
  refine ⟨fun h => (by exfalso; simp at h; omega), fun _ => ⟨_, date_build _ _ _ _, (rdays_spec z h0 h1 w2).mono ?_⟩⟩
  rintro e w3 ⟨rfl, c3⟩
  have hjb : -14609700 ≤ janI z ∧ janI z ≤ 14610066 := by unfold janI; omega
  refine ⟨_, _, rfl, ?_⟩
  rw [wrap_i64 (n := 0 + (janI z - 719525)) (by omega) (by omega), Int.zero_add]
  refine (rwday_spec _ w3).mono ?_
  rintro e w4 ⟨rfl, rfl⟩
  refine ⟨_, rfl, ?_, c3⟩
  have hw : IntKind.wrap .i64 (IntKind.wrap .i64 (janI z - 719525 - ((janI z - 719525 + 3) % 7 + 1)) + 1) = firI z := by
    rw [wrap_i64 (n := janI z - 719525 - ((janI z - 719525 + 3) % 7 + 1)) (by omega) (by omega), wrap_i64 (by omega) (by omega)]; unfold firI; omega
  rw [hw]

theorem rweek_spec (n : Int) (h0 : -12800000 ≤ n) (h1 : n ≤ 12800000) (y : Int) (hy : janI y ≤ thuI n + 719528 ∧ thuI n + 719528 < janI (y + 1)) (w : World) : Calls Try.prog 43 #[.int .i64 n] w fun e w' => e = .returned (.tuple #[.int .i64 y, .int .i64 ((thuI n + 719528 - janI y) / 7 + 1), .int .i64 0]) ∧ Chg [] w w' := by
  apply amphoraref19_Week_vc
  have hth : n - 3 ≤ thuI n ∧ thuI n ≤ n + 3 := by unfold thuI; omega
  have hyb : -38000 ≤ y ∧ y ≤ 38000 := by
    obtain ⟨a1, a2⟩ := hy
    unfold janI at a1 a2
    omega
  refine (rdate_spec n (by omega) (by omega) w).mono ?_
  rintro e w1 ⟨y0, m, d, rfl, hd, c1⟩
  obtain ⟨g5, w2, r2, k2⟩ := (St.start w1).zeroA dZ
  obtain ⟨w3, r3, k3⟩ := k2.stA (i := 0) (v := iv [y0, (m : Int), (d : Int)]) rfl (dS _) rfl rfl (iv_one _)
  have k3 : St w1 [] w3 [.arr g5 75 (iv [y0, (m : Int), (d : Int)])] := k3
  have hdy := hd.year
  have hy0b : -38000 ≤ y0 ∧ y0 ≤ 38000 := by
    obtain ⟨a1, a2⟩ := hdy
    unfold janI at a1 a2
    omega
  have c3 := c1.trans k3.chg
  refine ⟨_, _, rfl, g5, w2, r2, w3, r3, fun h => (by cases h), fun _ => ⟨_, k3.ldL (i := 0) (o := 0) (v := .int .i64 y0) rfl (iA _) rfl rfl, ?_⟩⟩
  have hy1 : y ≤ y0 + 1 := by
    refine Int.not_lt.1 fun hgt => ?_
    have := jan_lt (y := y0 + 1) (z := y) hgt
    omega
  have hcmp : ∀ z : Int, firI z ≤ n ↔ janI z ≤ thuI n + 719528 := fun z => by unfold firI thuI; omega
  refine ⟨fun z w' => y ≤ z ∧ z ≤ y0 + 1 ∧ Chg [] w w', fun z _ => (z - y).toNat, ⟨by rw [wrap_i64 (by omega) (by omega)]; exact hy1, by rw [wrap_i64 (by omega) (by omega)]; omega, c3⟩, ?_⟩
  rintro z w4 ⟨hz1, hz2, c4⟩
  refine (rfirst_spec z (by omega) (by omega) w4).mono ?_
  rintro e w5 ⟨rfl, c5⟩
  refine ⟨_, rfl, fun h => ?_, fun h => (rfirst_spec z (by omega) (by omega) w5).mono ?_⟩
  · simp only [decide_eq_true_eq] at h
    have hzy : y < z := by
      have h2 : ¬ janI z ≤ thuI n + 719528 := fun h3 => by have := (hcmp z).2 h3; omega
      by_cases e : y = z
      · subst e; exact absurd hy.1 h2
      · omega
    rw [wrap_i64 (by omega) (by omega)]
    exact ⟨⟨by omega, by omega, c4.trans c5⟩, by dsimp only; omega⟩
  · rintro e w6 ⟨rfl, c6⟩
    simp only [decide_eq_false_iff_not, Int.not_lt] at h
    have h2 := (hcmp z).1 h
    have hzy : z = y := by
      refine Int.le_antisymm (Int.not_lt.1 fun hgt => ?_) hz1
      by_cases e : y + 1 = z
      · rw [e] at hy; omega
      · have := jan_lt (y := y + 1) (z := z) (by omega); omega
    subst hzy
    refine ⟨_, rfl, ?_, (c4.trans c5).trans c6⟩
    have hjz : -13900000 ≤ janI z ∧ janI z ≤ 13900000 := by unfold janI; omega
    have hfb : -15000000 ≤ firI z ∧ firI z ≤ 15000000 := by unfold firI; omega
    have hw : IntKind.wrap .i64 (IntKind.wrap .i64 (Int.tdiv (IntKind.wrap .i64 (n - firI z)) 7) + 1) = (thuI n + 719528 - janI z) / 7 + 1 := by
      rw [wrap_i64 (n := n - firI z) (by omega) (by omega), Int.tdiv_eq_ediv_of_nonneg (by omega), wrap_i64 (n := (n - firI z) / 7) (by omega) (by omega), wrap_i64 (by omega) (by omega)]
      unfold firI thuI at *
      omega
    rw [hw]

theorem rbucket_spec (k : Nat) (hk1 : 1 ≤ k) (hk5 : k ≤ 5) (t : Int) (w : World) : Calls Try.prog 28 #[.int .i64 (k : Int), .int .i64 t] w fun e w' => e = .returned (.tuple #[.int .i64 (buckW k t), .int .i64 (if offT t then 24 else 0)]) ∧ Chg [] w w' := by
  apply amphoraref19_Bucket_vc
  have hcond : (((decide (t < -1099511627776) || decide (t > 1099511627776)) || decide ((k : Int) < 1)) || decide ((k : Int) > 5)) = offT t := by
    rw [show decide ((k : Int) < 1) = false by simp; omega, show decide ((k : Int) > 5) = false by simp; omega, Bool.or_false, Bool.or_false]
    rfl
  rw [hcond]
  refine ⟨fun h => ⟨?_, Chg.refl _ _⟩, fun h => ?_⟩
  · unfold buckW
    rw [h]; rfl
  obtain ⟨b0, b1⟩ := offT_bound h
  have hday := day_of h
  refine (rfloor_spec (n := t) (d := 86400) (by decide) (by decide) b0 b1 w).mono ?_
  rintro e w1 ⟨rfl, rfl⟩
  refine ⟨_, rfl, (rdate_spec (t / 86400) (by omega) (by omega) w1).mono ?_⟩
  rintro e w2 ⟨y, m, d, rfl, hd, c2⟩
  obtain ⟨g7, w3, r3, k3⟩ := (St.start w2).zeroA dZ
  obtain ⟨w4, r4, k4⟩ := k3.stA (i := 0) (v := iv [y, (m : Int), (d : Int)]) rfl (dS _) rfl rfl (iv_one _)
  have k4 : St w2 [] w4 [.arr g7 75 (iv [y, (m : Int), (d : Int)])] := k4
  have c4 := c2.trans k4.chg
  obtain ⟨y', m', d', hd', hb', e4, e5⟩ := buck45 h
  obtain ⟨rfl, rfl, _⟩ := hd.uniq hd'
  have hm12 := hd.m12
  rw [h]
  refine ⟨_, _, rfl, g7, w3, r3, w4, r4, fun q1 => (rfloor_spec (n := t) (d := 3600) (by decide) (by decide) b0 b1 w4).mono ?_, fun q1 => ⟨fun q2 => ⟨?_, c4⟩, fun q2 => ⟨fun q3 => ?_, fun q3 => ⟨fun q4 => ?_, fun q4 => ?_⟩⟩⟩⟩
  · rintro e w5 ⟨rfl, rfl⟩
    have : (k : Int) = 1 := by simpa using q1
    rw [this]
    exact ⟨_, rfl, by rw [buck1 h]; rfl, c4⟩
  · have : (k : Int) = 2 := by simpa using q2
    rw [this, buck2 h]; rfl
  · have : (k : Int) = 3 := by simpa using q3
    rw [this]
    obtain ⟨z, hzb, hz, e3⟩ := buck3 h
    refine (rweek_spec (t / 86400) (by omega) (by omega) z hz w4).mono ?_
    rintro e w6 ⟨rfl, c6⟩
    refine ⟨_, _, _, rfl, ?_, c4.trans c6⟩
    have hs := jan_step z
    have hs2 : (if leapI z = true then (1 : Int) else 0) ≤ 1 := by split <;> omega
    rw [e3, wrap_i64 (n := 100 * z) (by omega) (by omega), wrap_i64 (by omega) (by omega)]; rfl
  · have : (k : Int) = 4 := by simpa using q4
    rw [this]
    refine ⟨_, k4.ldL (i := 0) (o := 0) (v := .int .i64 y) rfl (iA _) rfl rfl, _, k4.ldL (i := 0) (o := 1) (v := .int .i64 (m : Int)) rfl (iA _) rfl rfl, ?_, c4⟩
    rw [e4, wrap_i64 (n := 100 * y) (by omega) (by omega), wrap_i64 (by omega) (by omega)]; rfl
  · have n1 : ¬ (k : Int) = 1 := by simpa using q1
    have n2 : ¬ (k : Int) = 2 := by simpa using q2
    have n3 : ¬ (k : Int) = 3 := by simpa using q3
    have n4 : ¬ (k : Int) = 4 := by simpa using q4
    have : (k : Int) = 5 := by omega
    rw [this]
    exact ⟨_, k4.ldL (i := 0) (o := 0) (v := .int .i64 y) rfl (iA _) rfl rfl, by rw [e5]; rfl, c4⟩

end Go.Proofs.Ytdcgapabphjgbaa
