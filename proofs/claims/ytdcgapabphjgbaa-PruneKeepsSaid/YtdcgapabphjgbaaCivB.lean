/- The code's buckets in plain words; later times have no earlier buckets (conditions: none). -/
import Derived.Test.YtdcgapabphjgbaaCivA
namespace Go.Proofs.Ytdcgapabphjgbaa
open Go Sx
set_option maxRecDepth 8000

theorem DateOk.bound {n y : Int} {m d : Nat} (h : DateOk n y m d) (h0 : -20000000 ≤ n) (h1 : n ≤ 20000000) : -60000 ≤ y ∧ y ≤ 60000 := by
  have := h.year
  unfold janI at this
  omega
theorem wday_eq {n : Int} (h0 : -20000000 ≤ n) (h1 : n ≤ 20000000) : wdayW n = (n + 3) % 7 + 1 := by
  unfold wdayW
  obtain ⟨r, hr⟩ : ∃ r, Int.tmod n 7 = r := ⟨_, rfl⟩
  have hrr : r = n % 7 ∨ r = n % 7 - 7 := by
    rw [← hr, Int.tmod_eq_emod]
    split
    · left; omega
    · right; rfl
  rw [hr, wrap_i64 (n := r + 7) (by omega) (by omega), wrap_i64 (n := r + 7 + 3) (by omega) (by omega), Int.tmod_eq_emod_of_nonneg (by omega), wrap_i64 (by omega) (by omega)]
  omega
theorem days_jan {y : Int} (h0 : -60001 ≤ y) (h1 : y ≤ 60001) : daysW y 1 1 = janI y - 719528 := by
  have hY : daysY y 1 = y - 1 := by unfold daysY; rw [if_pos (by decide), wrap_i64 (by omega) (by omega)]
  unfold daysW
  rw [hY]
  obtain ⟨z, hz⟩ : ∃ z, y - 1 = z := ⟨_, rfl⟩
  rw [hz]
  unfold daysF
  rw [floorW_eq (by decide) (by omega) (by omega)]
  obtain ⟨e, he⟩ : ∃ e, z / 400 = e := ⟨_, rfl⟩
  obtain ⟨x, hx⟩ : ∃ x, z - e * 400 = x := ⟨_, rfl⟩
  have hx0 : 0 ≤ x ∧ x ≤ 399 := by omega
  have hm : IntKind.wrap .i64 (IntKind.wrap .i64 (IntKind.wrap .i64 (Int.tdiv (IntKind.wrap .i64 (IntKind.wrap .i64 (153 * Int.tmod (IntKind.wrap .i64 (1 + 9)) 12) + 2)) 5) + 1) - 1) = 306 := by decide
  rw [hm, he, wrap_i64 (n := e * 400) (by omega) (by omega), wrap_i64 (n := z - e * 400) (by omega) (by omega), hx, Int.tdiv_eq_ediv_of_nonneg hx0.1, Int.tdiv_eq_ediv_of_nonneg hx0.1,
    wrap_i64 (n := e * 146097) (by omega) (by omega), wrap_i64 (n := x * 365) (by omega) (by omega), wrap_i64 (n := x / 4) (by omega) (by omega), wrap_i64 (n := x / 100) (by omega) (by omega),
    wrap_i64 (n := e * 146097 + x * 365) (by omega) (by omega), wrap_i64 (n := e * 146097 + x * 365 + x / 4) (by omega) (by omega), wrap_i64 (n := e * 146097 + x * 365 + x / 4 - x / 100) (by omega) (by omega),
    wrap_i64 (n := e * 146097 + x * 365 + x / 4 - x / 100 + 306) (by omega) (by omega), wrap_i64 (by omega) (by omega)]
  unfold janI
  omega
theorem range_in {n : Int} (h0 : -13000000 ≤ n) (h1 : n ≤ 13000000) : rangeW n = true := by
  have e1 : daysW (-40000) 1 1 = -15329228 := by decide +kernel
  have e2 : daysW 40000 12 31 = 13890537 := by decide +kernel
  unfold rangeW
  rw [e1, e2]
  simp
  omega
/-- The Thursday of a day's week. -/
def thuI (n : Int) : Int := n + 3 - (n + 3) % 7
theorem week_eq {n : Int} (h0 : -13000000 ≤ n) (h1 : n ≤ 13000000) : ∃ y, (-60000 ≤ y ∧ y ≤ 60000) ∧ (janI y ≤ thuI n + 719528 ∧ thuI n + 719528 < janI (y + 1)) ∧ weekY n = y ∧ weekN n = (thuI n + 719528 - janI y) / 7 + 1 := by
  have hT : thuW n = thuI n := by
    unfold thuW thuI
    rw [wday_eq (by omega) (by omega), wrap_i64 (n := n + 4) (by omega) (by omega), wrap_i64 (by omega) (by omega)]
    omega
  have hb : -14000000 ≤ thuI n ∧ thuI n ≤ 14000000 := by unfold thuI; omega
  obtain ⟨m, d, _, _, hd⟩ := dateW_ok (n := thuI n) (by omega) (by omega)
  have hy := hd.year
  have hyb := hd.bound (by omega) (by omega)
  refine ⟨dateY (thuI n), hyb, hy, by unfold weekY; rw [range_in h0 h1, if_pos rfl, hT], ?_⟩
  obtain ⟨y, hye⟩ : ∃ y, dateY (thuI n) = y := ⟨_, rfl⟩
  rw [hye] at hy hyb
  unfold weekN
  have hs := jan_step y
  have hs2 : (if leapI y = true then (1 : Int) else 0) ≤ 1 := by split <;> omega
  rw [range_in h0 h1, if_pos rfl, hT, hye, days_jan (by omega) (by omega), wrap_i64 (n := thuI n - (janI y - 719528)) (by omega) (by omega), Int.tdiv_eq_ediv_of_nonneg (by omega), wrap_i64 (n := (thuI n - (janI y - 719528)) / 7) (by omega) (by omega), wrap_i64 (by omega) (by omega)]
  congr 2
  omega

theorem offT_bound {t : Int} (h : offT t = false) : -1099511627776 ≤ t ∧ t ≤ 1099511627776 := by
  simp only [offT, Bool.or_eq_false_iff, decide_eq_false_iff_not] at h
  omega
theorem buck1 {t : Int} (h : offT t = false) : buckW 1 t = t / 3600 := by
  have := offT_bound h
  unfold buckW
  rw [h]
  simp only [Bool.false_eq_true, if_false, if_true]
  exact floorW_eq (by decide) (by omega) (by omega)
theorem day_of {t : Int} (h : offT t = false) : floorW t 86400 = t / 86400 ∧ -12725830 ≤ t / 86400 ∧ t / 86400 ≤ 12725830 := by
  have := offT_bound h
  exact ⟨floorW_eq (by decide) (by omega) (by omega), by omega, by omega⟩
theorem buck2 {t : Int} (h : offT t = false) : buckW 2 t = t / 86400 := by
  unfold buckW
  rw [h]
  exact (day_of h).1
theorem buck3 {t : Int} (h : offT t = false) : ∃ y, (-60000 ≤ y ∧ y ≤ 60000) ∧ (janI y ≤ thuI (t / 86400) + 719528 ∧ thuI (t / 86400) + 719528 < janI (y + 1)) ∧ buckW 3 t = 100 * y + ((thuI (t / 86400) + 719528 - janI y) / 7 + 1) := by
  obtain ⟨e, h0, h1⟩ := day_of h
  obtain ⟨y, hb, hy, e1, e2⟩ := week_eq (n := t / 86400) (by omega) (by omega)
  refine ⟨y, hb, hy, ?_⟩
  have hs := jan_step y
  have hs2 : (if leapI y = true then (1 : Int) else 0) ≤ 1 := by split <;> omega
  have : buckW 3 t = IntKind.wrap .i64 (IntKind.wrap .i64 (100 * weekY (floorW t 86400)) + weekN (floorW t 86400)) := by unfold buckW; rw [h]; rfl
  rw [this, e, e1, e2, wrap_i64 (n := 100 * y) (by omega) (by omega), wrap_i64 (by omega) (by omega)]
theorem buck45 {t : Int} (h : offT t = false) : ∃ (y : Int) (m d : Nat), DateOk (t / 86400) y m d ∧ (-60000 ≤ y ∧ y ≤ 60000) ∧ buckW 4 t = 100 * y + (m : Int) ∧ buckW 5 t = y := by
  obtain ⟨e, h0, h1⟩ := day_of h
  obtain ⟨m, d, hm, _, hd⟩ := dateW_ok (n := t / 86400) (by omega) (by omega)
  have hb := hd.bound (by omega) (by omega)
  have hm12 := hd.m12
  refine ⟨_, m, d, hd, hb, ?_, ?_⟩
  · have : buckW 4 t = IntKind.wrap .i64 (IntKind.wrap .i64 (100 * dateY (floorW t 86400)) + dateM (floorW t 86400)) := by unfold buckW; rw [h]; rfl
    rw [this, e, hm, wrap_i64 (n := 100 * dateY (t / 86400)) (by omega) (by omega), wrap_i64 (by omega) (by omega)]
  · have : buckW 5 t = dateY (floorW t 86400) := by unfold buckW; rw [h]; rfl
    rw [this, e]

theorem buck_mono {k : Nat} (hk1 : 1 ≤ k) (hk5 : k ≤ 5) {t u : Int} (ht : offT t = false) (hu : offT u = false) (h : t ≤ u) : buckW k t ≤ buckW k u := by
  have hd : t / 86400 ≤ u / 86400 := by omega
  have h5 : k = 1 ∨ k = 2 ∨ k = 3 ∨ k = 4 ∨ k = 5 := by omega
  rcases h5 with rfl | rfl | rfl | rfl | rfl
  · show buckW 1 t ≤ buckW 1 u
    rw [buck1 ht, buck1 hu]; omega
  · show buckW 2 t ≤ buckW 2 u
    rw [buck2 ht, buck2 hu]; exact hd
  · show buckW 3 t ≤ buckW 3 u
    obtain ⟨y, _, hy, e1⟩ := buck3 ht
    obtain ⟨z, _, hz, e2⟩ := buck3 hu
    rw [e1, e2]
    have hth : thuI (t / 86400) ≤ thuI (u / 86400) := by unfold thuI; omega
    rcases Int.lt_trichotomy y z with hl | hl | hl
    · have hs := jan_step y
      have hs2 : (if leapI y = true then (1 : Int) else 0) ≤ 1 := by split <;> omega
      omega
    · subst hl; omega
    · exfalso
      have : janI (z + 1) ≤ janI y := by
        by_cases e : z + 1 = y
        · rw [e]; omega
        · have := jan_lt (y := z + 1) (z := y) (by omega); omega
      omega
  · show buckW 4 t ≤ buckW 4 u
    obtain ⟨y, m, d, h1, _, e1, _⟩ := buck45 ht
    obtain ⟨z, k, e, h2, _, e2, _⟩ := buck45 hu
    rw [e1, e2]
    have := h1.m12; have := h2.m1; have := h1.m1
    rcases h1.mono h2 hd with h | ⟨h, h'⟩ <;> omega
  · show buckW 5 t ≤ buckW 5 u
    obtain ⟨y, m, d, h1, _, _, e1⟩ := buck45 ht
    obtain ⟨z, k, e, h2, _, _, e2⟩ := buck45 hu
    rw [e1, e2]
    rcases h1.mono h2 hd with h | ⟨h, _⟩ <;> omega

end Go.Proofs.Ytdcgapabphjgbaa
