/- The calendar in plain words: which day a date is, and which date the code finds (conditions: none). -/
import Derived.Test.YtdcgapabphjgbaaPruA
namespace Go.Proofs.Ytdcgapabphjgbaa
open Go Sx
set_option maxRecDepth 8000

/-! ### years that begin in March, of one span of 400 -/
def fN (d : Nat) : Nat := d - d / 1460 + d / 36524 - d / 146096
def yoeN (d : Nat) : Nat := fN d / 365
def marN (y : Nat) : Nat := 365 * y + y / 4 - y / 100
def endN (y : Nat) : Nat := marN (y + 1) + if y = 399 then 1 else 0
theorem fN_mono1 (d : Nat) (h : d + 1 < 146097) : fN d ≤ fN (d + 1) := by
  unfold fN
  by_cases h1 : d = 146095
  · subst h1; decide
  · have : (d + 1) / 146096 = 0 := Nat.div_eq_of_lt (by omega)
    have : d / 146096 = 0 := Nat.div_eq_of_lt (by omega)
    omega
theorem fN_mono : ∀ (k d : Nat), d + k < 146097 → fN d ≤ fN (d + k)
  | 0, d, _ => Nat.le_refl _
  | k + 1, d, h => Nat.le_trans (fN_mono k d (by omega)) (fN_mono1 (d + k) (by omega))
theorem yoe_mono {d e : Nat} (h : d ≤ e) (he : e < 146097) : yoeN d ≤ yoeN e := by
  obtain ⟨k, rfl⟩ : ∃ k, e = d + k := ⟨e - d, by omega⟩
  exact Nat.div_le_div_right (fN_mono k d he)
theorem yoe_ends : ∀ y : Fin 400, yoeN (marN y.1) = y.1 ∧ yoeN (endN y.1 - 1) = y.1 := by decide +kernel
theorem yoe_spec {d : Nat} (hd : d < 146097) : yoeN d < 400 ∧ marN (yoeN d) ≤ d ∧ d < endN (yoeN d) := by
  have h400 : yoeN d < 400 := by
    have h1 := yoe_mono (d := d) (e := 146096) (by omega) (by decide)
    have h2 : yoeN 146096 = 399 := by decide
    omega
  obtain ⟨y, hy⟩ : ∃ y, yoeN d = y := ⟨_, rfl⟩
  rw [hy] at h400 ⊢
  have hm : ∀ z : Nat, z < 400 → endN z ≤ 146097 ∧ marN z < 146097 ∧ 0 < endN z := by
    intro z hz
    unfold endN marN
    split <;> omega
  refine ⟨h400, Nat.le_of_not_lt fun h => ?_, Nat.lt_of_not_le fun h => ?_⟩
  · have h0 : y ≠ 0 := by rintro rfl; simp [marN] at h
    obtain ⟨z, rfl⟩ : ∃ z, y = z + 1 := ⟨y - 1, by omega⟩
    have h1 := (yoe_ends ⟨z, by omega⟩).2
    have h2 := hm z (by omega)
    have e : endN z = marN (z + 1) := by unfold endN; rw [if_neg (by omega)]; rfl
    have h3 := yoe_mono (d := d) (e := endN z - 1) (by omega) (by omega)
    simp only at h1
    omega
  · have h2 := hm y h400
    by_cases h9 : y = 399
    · subst h9
      have : endN 399 = 146097 := by decide
      omega
    · have h1 := (yoe_ends ⟨y + 1, by omega⟩).1
      have e : endN y = marN (y + 1) := by unfold endN; rw [if_neg h9]; rfl
      have h3 := yoe_mono (d := marN (y + 1)) (e := d) (by omega) hd
      simp only at h1
      omega

/-! ### months -/
def leapI (y : Int) : Bool := decide (y % 400 = 0) || (decide (y % 4 = 0) && !decide (y % 100 = 0))
def lenB (b : Bool) (m : Nat) : Nat := if m = 2 then (if b then 29 else 28) else if m = 4 ∨ m = 6 ∨ m = 9 ∨ m = 11 then 30 else 31
def cumB (b : Bool) (m : Nat) : Nat := ([0, 0, 31, 59, 90, 120, 151, 181, 212, 243, 273, 304, 334, 365].getD m 0) + if b && decide (3 ≤ m) then 1 else 0
theorem cum_len : ∀ b : Bool, ∀ m : Fin 13, 1 ≤ m.1 → cumB b (m.1 + 1) = cumB b m.1 + lenB b m.1 := by decide
theorem cum_lt : ∀ b : Bool, ∀ m k : Fin 13, 1 ≤ m.1 → m.1 < k.1 → cumB b m.1 + lenB b m.1 ≤ cumB b k.1 := by decide
theorem cum_le : ∀ b : Bool, ∀ m : Fin 13, 1 ≤ m.1 → cumB b m.1 + lenB b m.1 ≤ 365 + (if b then 1 else 0) := by decide
def mpN (r : Nat) : Nat := (5 * r + 2) / 153
def monN (r : Nat) : Nat := (mpN r + 2) % 12 + 1
def dayN (r : Nat) : Nat := r - (153 * mpN r + 2) / 5 + 1
theorem mon_spec : ∀ r : Fin 366, 1 ≤ monN r.1 ∧ monN r.1 ≤ 12 ∧ 1 ≤ dayN r.1 ∧ (153 * mpN r.1 + 2) / 5 ≤ r.1 ∧
    (3 ≤ monN r.1 → r.1 < 306 ∧ dayN r.1 ≤ lenB false (monN r.1) ∧ cumB false (monN r.1) + dayN r.1 = r.1 + 60) ∧
    (monN r.1 ≤ 2 → 306 ≤ r.1 ∧ cumB false (monN r.1) + dayN r.1 + 305 = r.1 ∧ dayN r.1 ≤ lenB true (monN r.1) ∧ (r.1 ≤ 364 → dayN r.1 ≤ lenB false (monN r.1))) := by decide +kernel
theorem cum_true (m : Nat) : cumB true m = cumB false m + if 3 ≤ m then 1 else 0 := by
  unfold cumB
  by_cases h : 3 ≤ m <;> simp [h]
theorem len_ne2 {m : Nat} (h : m ≠ 2) (b : Bool) : lenB b m = lenB false m := by unfold lenB; rw [if_neg h, if_neg h]

/-! ### days -/
/-- The day of January 1st, counted from January 1st of the year 0. -/
def janI (y : Int) : Int := 365 * y + (y + 3) / 4 - (y + 99) / 100 + (y + 399) / 400
theorem jan_step (y : Int) : janI (y + 1) = janI y + 365 + if leapI y then 1 else 0 := by
  unfold janI leapI
  by_cases h4 : y % 400 = 0
  · simp only [h4, decide_true, Bool.true_or, if_true]; omega
  · by_cases h1 : y % 4 = 0
    · by_cases h2 : y % 100 = 0
      · simp only [h4, h1, h2, decide_true, decide_false, Bool.not_true, Bool.and_false, Bool.or_false, Bool.false_eq_true, if_false]; omega
      · simp only [h4, h1, h2, decide_true, decide_false, Bool.not_false, Bool.and_true, Bool.or_true, if_true]; omega
    · simp only [h4, h1, decide_false, Bool.false_and, Bool.or_false, Bool.false_eq_true, if_false]; omega
theorem jan_lt {y z : Int} (h : y < z) : janI y + 365 ≤ janI z := by
  have h1 := jan_step y
  have h2 : janI (y + 1) ≤ janI z := by
    by_cases e : y + 1 = z
    · rw [e]; omega
    · unfold janI; omega
  have : (0 : Int) ≤ if leapI y then 1 else 0 := by split <;> omega
  omega
theorem jan_era (y e : Int) : janI (y + 400 * e) = janI y + 146097 * e := by unfold janI; omega
theorem leap_era (y e : Int) : leapI (y + 400 * e) = leapI y := by
  unfold leapI
  have h1 : (y + 400 * e) % 400 = y % 400 := by omega
  have h2 : (y + 400 * e) % 4 = y % 4 := by omega
  have h3 : (y + 400 * e) % 100 = y % 100 := by omega
  rw [h1, h2, h3]

/-- A date's parts, and which day it is, counted from January 1st, 1970. -/
structure DateOk (n y : Int) (m d : Nat) : Prop where
  m1 : 1 ≤ m
  m12 : m ≤ 12
  d1 : 1 ≤ d
  dl : d ≤ lenB (leapI y) m
  day : janI y + (cumB (leapI y) m : Int) + (d : Int) = n + 719529

theorem DateOk.year {n y : Int} {m d : Nat} (h : DateOk n y m d) : janI y ≤ n + 719528 ∧ n + 719528 < janI (y + 1) := by
  have h1 := cum_le (leapI y) ⟨m, by have := h.m12; omega⟩ h.m1
  have h2 := jan_step y
  have h3 := h.day
  have h4 := h.dl
  have h5 := h.d1
  simp only at h1
  refine ⟨by omega, ?_⟩
  cases hb : leapI y with
  | true => rw [hb] at h1 h2 h3 h4; simp only [↓reduceIte] at h1 h2; omega
  | false => rw [hb] at h1 h2 h3 h4; simp only [↓reduceIte, Bool.false_eq_true] at h1 h2; omega
theorem year_uniq {n y z : Int} (h1 : janI y ≤ n ∧ n < janI (y + 1)) (h2 : janI z ≤ n ∧ n < janI (z + 1)) : y = z := by
  rcases Int.lt_trichotomy y z with h | h | h
  · have : janI (y + 1) ≤ janI z := by
      by_cases e : y + 1 = z
      · rw [e]; omega
      · have := jan_lt (y := y + 1) (z := z) (by omega); omega
    omega
  · exact h
  · have : janI (z + 1) ≤ janI y := by
      by_cases e : z + 1 = y
      · rw [e]; omega
      · have := jan_lt (y := z + 1) (z := y) (by omega); omega
    omega
theorem DateOk.uniq {n y z : Int} {m k d e : Nat} (h : DateOk n y m d) (g : DateOk n z k e) : y = z ∧ m = k ∧ d = e := by
  obtain rfl := year_uniq h.year g.year
  have h1 := h.day; have g1 := g.day
  have h2 := h.dl; have g2 := g.dl
  have h3 := h.d1; have g3 := g.d1
  have hm := h.m12; have gm := g.m12
  have : m = k := by
    rcases Nat.lt_trichotomy m k with hl | hl | hl
    · have := cum_lt (leapI y) ⟨m, by omega⟩ ⟨k, by omega⟩ h.m1 hl
      simp only at this; omega
    · exact hl
    · have := cum_lt (leapI y) ⟨k, by omega⟩ ⟨m, by omega⟩ g.m1 hl
      simp only at this; omega
  subst this
  exact ⟨rfl, rfl, by omega⟩
/-- Later days have no earlier years, nor months. -/
theorem DateOk.mono {n q y z : Int} {m k d e : Nat} (h : DateOk n y m d) (g : DateOk q z k e) (hnq : n ≤ q) : y < z ∨ (y = z ∧ m ≤ k) := by
  have h1 := h.year; have g1 := g.year
  rcases Int.lt_trichotomy y z with hl | hl | hl
  · exact .inl hl
  · subst hl
    refine .inr ⟨rfl, Nat.le_of_not_lt fun hkm => ?_⟩
    have := cum_lt (leapI y) ⟨k, by have := g.m12; omega⟩ ⟨m, by have := h.m12; omega⟩ g.m1 hkm
    have a1 := h.day; have a2 := g.day; have a3 := g.dl; have a4 := h.d1
    simp only at this
    omega
  · exfalso
    have : janI (z + 1) ≤ janI y := by
      by_cases e : z + 1 = y
      · rw [e]; omega
      · have := jan_lt (y := z + 1) (z := y) (by omega); omega
    omega

/-- The date of a day of one span of 400 years, from March 1st of the year 0 on. -/
theorem era_date {d : Nat} (hd : d < 146097) : DateOk ((d : Int) - 719468) ((yoeN d : Int) + if monN (d - marN (yoeN d)) ≤ 2 then 1 else 0) (monN (d - marN (yoeN d))) (dayN (d - marN (yoeN d))) := by
  obtain ⟨h1, h2, h3⟩ := yoe_spec hd
  obtain ⟨y, hy⟩ : ∃ y, yoeN d = y := ⟨_, rfl⟩
  rw [hy] at h1 h2 h3 ⊢
  obtain ⟨r, hr⟩ : ∃ r, d - marN y = r := ⟨_, rfl⟩
  rw [hr]
  have hdr : d = marN y + r := by omega
  have hmy : marN y = 365 * y + y / 4 - y / 100 := rfl
  have hr366 : r < 366 := by
    unfold endN marN at h3
    unfold marN at hdr
    split at h3 <;> omega
  have hr365 : r = 365 → leapI ((y : Int) + 1) = true := by
    intro e
    unfold endN marN at h3
    unfold marN at hdr
    unfold leapI
    by_cases h9 : y = 399
    · subst h9; decide
    · rw [if_neg h9] at h3
      have g1 : (y + 1) / 4 ≤ y / 4 + 1 := by omega
      have g2 : y / 100 ≤ (y + 1) / 100 := by omega
      have g3 : (y + 1) / 4 = y / 4 + 1 := by omega
      have g4 : (y + 1) / 100 = y / 100 := by omega
      have b1 : (y + 1) % 4 = 0 := by omega
      have b2 : ¬ (y + 1) % 100 = 0 := by omega
      have a1 : ((y : Int) + 1) % 4 = 0 := by omega
      have a2 : ¬ ((y : Int) + 1) % 100 = 0 := by omega
      simp [a1, a2]
  obtain ⟨q1, q2, q3, _, q4, q5⟩ := mon_spec ⟨r, hr366⟩
  simp only at q1 q2 q3 q4 q5
  by_cases hm : monN r ≤ 2
  · rw [if_pos hm]
    obtain ⟨p1, p2, p3, p4⟩ := q5 hm
    refine ⟨q1, q2, q3, ?_, ?_⟩
    · cases hl : leapI ((y : Int) + 1) with
      | true => exact p3
      | false => exact p4 (by by_cases e : r = 365; rw [hr365 e] at hl; cases hl; omega)
    · have hc : cumB (leapI ((y : Int) + 1)) (monN r) = cumB false (monN r) := by
        cases leapI ((y : Int) + 1) with
        | true => rw [cum_true, if_neg (by omega)]; rfl
        | false => rfl
      have hj1 : janI ((y : Int) + 1) = 365 * (y : Int) + (y : Int) / 4 - (y : Int) / 100 + 366 := by unfold janI; omega
      rw [hc, hdr, hmy, hj1]
      omega
  · rw [if_neg hm, Int.add_zero]
    obtain ⟨p1, p2, p3⟩ := q4 (by omega)
    refine ⟨q1, q2, q3, by rw [len_ne2 (by omega)]; exact p2, ?_⟩
    have hj := jan_step (y : Int)
    have hj1 : janI ((y : Int) + 1) = 365 * (y : Int) + (y : Int) / 4 - (y : Int) / 100 + 366 := by unfold janI; omega
    rw [hdr, hmy]
    cases hl : leapI (y : Int) with
    | true => rw [hl] at hj; simp only [if_true] at hj; rw [cum_true, if_pos (by omega)]; omega
    | false => rw [hl] at hj; simp only [Bool.false_eq_true, if_false] at hj; omega

/-! ### the code's reckoning -/
theorem floorW_eq {n d : Int} (hd : 0 < d) (h0 : -4611686018427387904 ≤ n) (h1 : n ≤ 4611686018427387904) : floorW n d = n / d := by
  have e0 := Int.mul_tdiv_add_tmod n d
  have a1 := Int.tdiv_eq_ediv_of_nonneg (a := n) (b := d)
  have hdm := Int.emod_add_mul_ediv n d
  have hm0 := Int.emod_nonneg n (by omega : d ≠ 0)
  have hm1 := Int.emod_lt_of_pos n hd
  have hq : n / d ≤ 4611686018427387904 ∧ -4611686018427387905 ≤ n / d := by
    constructor
    · by_cases hn : 0 ≤ n
      · exact Int.le_trans (Int.ediv_le_self d hn) h1
      · have := Int.ediv_neg_of_neg_of_pos (by omega : n < 0) hd; omega
    · have : -4611686018427387904 ≤ n / d := by
        rw [Int.le_ediv_iff_mul_le hd]
        have : (-4611686018427387904 : Int) * d ≤ -4611686018427387904 * 1 := Int.mul_le_mul_of_nonpos_left (by omega) (by omega)
        omega
      omega
  unfold floorW
  by_cases hn : 0 ≤ n
  · have ht : Int.tmod n d = n % d := Int.tmod_eq_emod_of_nonneg hn
    rw [ht, if_neg (by simp; omega), Int.tdiv_eq_ediv_of_nonneg hn, wrap_i64 (by omega) (by omega)]
  · by_cases hz : n % d = 0
    · have ht : Int.tmod n d = 0 := by rw [Int.tmod_eq_emod, if_pos (.inr (Int.dvd_of_emod_eq_zero hz)), hz]; rfl
      have hq2 : Int.tdiv n d = n / d := by
        have e1 : d * Int.tdiv n d = d * (n / d) := by rw [ht] at e0; omega
        exact Int.eq_of_mul_eq_mul_left (by omega) e1
      rw [ht, if_neg (by simp), hq2, wrap_i64 (by omega) (by omega)]
    · have ht : Int.tmod n d = n % d - d := by
        rw [Int.tmod_eq_emod]
        rw [if_neg (by rintro (h | h); exact hn h; exact hz (Int.emod_eq_zero_of_dvd h))]
        omega
      have hq2 : Int.tdiv n d = n / d + 1 := by
        rw [ht] at e0
        have e1 : d * Int.tdiv n d = d * (n / d + 1) := by rw [Int.mul_add]; omega
        exact Int.eq_of_mul_eq_mul_left (by omega) e1
      rw [ht, if_pos (by simp; omega), hq2, wrap_i64 (n := n / d + 1) (by omega) (by omega), wrap_i64 (by omega) (by omega)]
      omega

theorem tdiv_nat (a b : Nat) : Int.tdiv (a : Int) (b : Int) = ((a / b : Nat) : Int) := by
  rw [Int.tdiv_eq_ediv_of_nonneg (by omega)]; simp

/-- The code's date of a day. -/
theorem dateW_ok {n : Int} (h0 : -20000000 ≤ n) (h1 : n ≤ 20000000) : ∃ m d : Nat, dateM n = (m : Int) ∧ dateD n = (d : Int) ∧ DateOk n (dateY n) m d := by
  have hfl : floorW (IntKind.wrap .i64 (n + 719468)) 146097 = (n + 719468) / 146097 := by
    rw [wrap_i64 (by omega) (by omega), floorW_eq (by decide) (by omega) (by omega)]
  obtain ⟨e, he⟩ : ∃ e, (n + 719468) / 146097 = e := ⟨_, rfl⟩
  obtain ⟨d, hd⟩ : ∃ d : Nat, (n + 719468) % 146097 = (d : Int) := ⟨((n + 719468) % 146097).toNat, by omega⟩
  have hd1 : d < 146097 := by omega
  have hn : n = (d : Int) - 719468 + 146097 * e := by omega
  have heb : -1000 ≤ e ∧ e ≤ 1000 := by omega
  obtain ⟨y1, y2, y3⟩ := yoe_spec hd1
  have hD : dayX n = (d : Int) := by
    unfold dayX
    rw [hfl, he, wrap_i64 (n := n + 719468) (by omega) (by omega), wrap_i64 (n := e * 146097) (by omega) (by omega), wrap_i64 (by omega) (by omega)]
    omega
  have hY : yearX (d : Int) = ((yoeN d : Nat) : Int) := by
    unfold yearX yoeN fN
    rw [show (1460 : Int) = ((1460 : Nat) : Int) from rfl, show (36524 : Int) = ((36524 : Nat) : Int) from rfl, show (146096 : Int) = ((146096 : Nat) : Int) from rfl, tdiv_nat, tdiv_nat, tdiv_nat]
    rw [wrap_i64_nat (d / 1460) (by omega), wrap_i64_nat (d / 36524) (by omega), wrap_i64_nat (d / 146096) (by omega)]
    rw [wrap_i64 (n := (d : Int) - ((d / 1460 : Nat) : Int)) (by omega) (by omega), wrap_i64 (n := (d : Int) - ((d / 1460 : Nat) : Int) + ((d / 36524 : Nat) : Int)) (by omega) (by omega), wrap_i64 (n := (d : Int) - ((d / 1460 : Nat) : Int) + ((d / 36524 : Nat) : Int) - ((d / 146096 : Nat) : Int)) (by omega) (by omega)]
    have hc : (d : Int) - ((d / 1460 : Nat) : Int) + ((d / 36524 : Nat) : Int) - ((d / 146096 : Nat) : Int) = ((d - d / 1460 + d / 36524 - d / 146096 : Nat) : Int) := by omega
    rw [hc, show (365 : Int) = ((365 : Nat) : Int) from rfl, tdiv_nat, wrap_i64_nat _ (by omega)]
  obtain ⟨y, hy⟩ : ∃ y, yoeN d = y := ⟨_, rfl⟩
  rw [hy] at y1 y2 y3 hY
  have hR : restX (d : Int) (y : Int) = ((d - marN y : Nat) : Int) := by
    unfold restX
    rw [show (4 : Int) = ((4 : Nat) : Int) from rfl, show (100 : Int) = ((100 : Nat) : Int) from rfl, tdiv_nat, tdiv_nat]
    rw [wrap_i64 (n := 365 * (y : Int)) (by omega) (by omega), wrap_i64_nat (y / 4) (by omega), wrap_i64_nat (y / 100) (by omega), wrap_i64 (n := 365 * (y : Int) + ((y / 4 : Nat) : Int)) (by omega) (by omega), wrap_i64 (n := 365 * (y : Int) + ((y / 4 : Nat) : Int) - ((y / 100 : Nat) : Int)) (by omega) (by omega), wrap_i64 (by omega) (by omega)]
    unfold marN at y2 ⊢
    omega
  obtain ⟨r, hr⟩ : ∃ r, d - marN y = r := ⟨_, rfl⟩
  rw [hr] at hR
  have hr366 : r < 366 := by
    unfold endN marN at y3
    unfold marN at hr y2
    split at y3 <;> omega
  obtain ⟨q1, q2, q3, q6, q4, q5⟩ := mon_spec ⟨r, hr366⟩
  simp only at q1 q2 q3 q4 q5 q6
  have hX : monX (r : Int) = ((mpN r : Nat) : Int) := by
    unfold monX mpN
    rw [wrap_i64 (n := 5 * (r : Int)) (by omega) (by omega), wrap_i64 (n := 5 * (r : Int) + 2) (by omega) (by omega), show 5 * (r : Int) + 2 = ((5 * r + 2 : Nat) : Int) by omega, show (153 : Int) = ((153 : Nat) : Int) from rfl, tdiv_nat, wrap_i64_nat _ (by omega)]
  have hmp : mpN r ≤ 11 := by unfold mpN; omega
  have hM : dateM n = ((monN r : Nat) : Int) := by
    unfold dateM monN
    rw [hD, hY, hR, hX, wrap_i64 (n := ((mpN r : Nat) : Int) + 2) (by omega) (by omega), show ((mpN r : Nat) : Int) + 2 = ((mpN r + 2 : Nat) : Int) by omega, Int.tmod_eq_emod_of_nonneg (by omega), wrap_i64 (by omega) (by omega)]
    omega
  have hDD : dateD n = ((dayN r : Nat) : Int) := by
    unfold dateD dayN
    rw [hD, hY, hR, hX, wrap_i64 (n := 153 * ((mpN r : Nat) : Int)) (by omega) (by omega), wrap_i64 (n := 153 * ((mpN r : Nat) : Int) + 2) (by omega) (by omega), show 153 * ((mpN r : Nat) : Int) + 2 = ((153 * mpN r + 2 : Nat) : Int) by omega, show (5 : Int) = ((5 : Nat) : Int) from rfl, tdiv_nat, wrap_i64_nat _ (by omega), wrap_i64 (n := (r : Int) - _) (by omega) (by omega), wrap_i64 (by omega) (by omega)]
    omega
  have hY0 : dateY0 n = (y : Int) + 400 * e := by
    unfold dateY0
    rw [hfl, he, hD, hY, wrap_i64 (n := e * 400) (by omega) (by omega), wrap_i64 (by omega) (by omega)]
    omega
  have hYY : dateY n = ((y : Int) + if monN r ≤ 2 then 1 else 0) + 400 * e := by
    unfold dateY
    rw [hM, hY0]
    by_cases hm : monN r ≤ 2
    · rw [if_pos (by simp; omega), if_pos hm, wrap_i64 (by omega) (by omega)]; omega
    · rw [if_neg (by simp; omega), if_neg hm]; omega
  refine ⟨monN r, dayN r, hM, hDD, ?_⟩
  have hk := era_date hd1
  rw [hy, hr] at hk
  rw [hYY]
  refine ⟨hk.m1, hk.m12, hk.d1, by rw [leap_era]; exact hk.dl, ?_⟩
  rw [leap_era, jan_era]
  have := hk.day
  omega

end Go.Proofs.Ytdcgapabphjgbaa
