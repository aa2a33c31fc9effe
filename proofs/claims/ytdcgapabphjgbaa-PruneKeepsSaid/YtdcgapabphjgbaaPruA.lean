/- Comparisons; the calendar's buckets as the code reckons them (conditions: none). -/
import Derived.Test.YtdcgapabphjgbaaPruF
import Derived.Test.YtdcgapabphjgbaaLists
import Derived.Test.YtdcgapabphjgbaaEqErr
import Derived.Test.YtdcgapabphjgbaaVprune
import Derived.Test.YtdcgapabphjgbaaVlaw20
import Derived.Sort.Grow
namespace Go.Proofs.Ytdcgapabphjgbaa
open Go Sx
set_option maxRecDepth 8000

/-! ### comparisons -/
theorem strB (l : List UInt8) : (⟨l.toArray⟩ : ByteArray).toList = l := by rw [ByteArray.toList_eq]
theorem gtrS (l m : List UInt8) (x y : Operand) (w : World) : (eqlS .gtr 9 x y (.string ⟨l.toArray⟩) (.string ⟨m.toArray⟩)).run Try.prog w = .ok (.bool (lexLt m l)) w := by
  have h3 : (eqGuard .gtr 9 x y (.string ⟨l.toArray⟩) (.string ⟨m.toArray⟩)).run Try.prog w = .ok () w := rfl
  have h4 : binOp .gtr 9 (.string ⟨l.toArray⟩) (.string ⟨m.toArray⟩) = pure (.bool (lexLt m l)) := by
    have : binOp .gtr 9 (.string ⟨l.toArray⟩) (.string ⟨m.toArray⟩) = pure (.bool !(Op.bytesLess (⟨l.toArray⟩ : ByteArray).toList (⟨m.toArray⟩ : ByteArray).toList || ((⟨l.toArray⟩ : ByteArray).toList == (⟨m.toArray⟩ : ByteArray).toList))) := by simp [binOp, Op.stringOp]
    rw [this, strB, strB, less_lex, lex_gt]
  simp only [eqlS, Sem.run_bind, h3, Result.andThen_ok, h4, Sem.run_pure]
theorem lssS (l m : List UInt8) (x y : Operand) (w : World) : (eqlS .lss 9 x y (.string ⟨l.toArray⟩) (.string ⟨m.toArray⟩)).run Try.prog w = .ok (.bool (lexLt l m)) w := by
  have h3 : (eqGuard .lss 9 x y (.string ⟨l.toArray⟩) (.string ⟨m.toArray⟩)).run Try.prog w = .ok () w := rfl
  have h4 : binOp .lss 9 (.string ⟨l.toArray⟩) (.string ⟨m.toArray⟩) = pure (.bool (lexLt l m)) := by
    have : binOp .lss 9 (.string ⟨l.toArray⟩) (.string ⟨m.toArray⟩) = pure (.bool (Op.bytesLess (⟨l.toArray⟩ : ByteArray).toList (⟨m.toArray⟩ : ByteArray).toList)) := by simp [binOp, Op.stringOp]
    rw [this, strB, strB, less_lex]
  simp only [eqlS, Sem.run_bind, h3, Result.andThen_ok, h4, Sem.run_pure]

theorem nanI (a : Int) (w : World) : Calls Try.prog 52 #[.int .i64 a] w fun e w' => e = .returned (.bool false) ∧ w' = w := by
  apply cmp_isNaN_int_vc
  exact ⟨by simp, rfl⟩
theorem nanS (a : ByteArray) (w : World) : Calls Try.prog 53 #[.string a] w fun e w' => e = .returned (.bool false) ∧ w' = w := by
  apply cmp_isNaN_string_vc
  exact ⟨by simp, rfl⟩
theorem cmpI_spec (a b : Int) (w : World) : Calls Try.prog 39 #[.int .i64 a, .int .i64 b] w fun e w' => e = .returned (.int .i64 (icmp a b)) ∧ w' = w := by
  apply cmp_Compare_int_vc
  refine (nanI a w).mono ?_
  rintro e w1 ⟨rfl, rfl⟩
  refine ⟨_, rfl, (nanI b w1).mono ?_⟩
  rintro e w1 ⟨rfl, rfl⟩
  refine ⟨_, rfl, fun h => (by cases h), fun _ => ⟨fun h => (by cases h), fun _ => ⟨fun h => ?_, fun h => ⟨fun h2 => ?_, fun h2 => ?_⟩⟩⟩⟩
  · have : a < b := by simpa using h
    exact ⟨by simp [icmp, this], rfl⟩
  · have h1 : ¬ a < b := by simpa using h
    have : a > b := by simpa using h2
    exact ⟨by simp only [icmp, if_neg h1, if_pos this], rfl⟩
  · have h1 : ¬ a < b := by simpa using h
    have : ¬ a > b := by simpa using h2
    exact ⟨by simp only [icmp, if_neg h1, if_neg this], rfl⟩
theorem cmpS_spec (a b : List UInt8) (w : World) : Calls Try.prog 40 #[.string ⟨a.toArray⟩, .string ⟨b.toArray⟩] w fun e w' => e = .returned (.int .i64 (lexCmp a b)) ∧ w' = w := by
  apply cmp_Compare_string_vc
  refine (nanS _ w).mono ?_
  rintro e w1 ⟨rfl, rfl⟩
  refine ⟨_, rfl, (nanS _ w1).mono ?_⟩
  rintro e w1 ⟨rfl, rfl⟩
  refine ⟨_, rfl, fun h => (by cases h), fun _ => ⟨fun h => (by cases h), fun _ => ⟨_, lssS a b _ _ w1, fun h => ?_, fun h => ⟨_, gtrS a b _ _ w1, fun h2 => ?_, fun h2 => ?_⟩⟩⟩⟩
  · exact ⟨by simp [lexCmp, h], rfl⟩
  · exact ⟨by simp [lexCmp, h, h2], rfl⟩
  · exact ⟨by simp [lexCmp, h, h2], rfl⟩

/-! ### the calendar, as the code reckons -/
def floorW (n d : Int) : Int := if decide (Int.tmod n d < 0) then IntKind.wrap .i64 (IntKind.wrap .i64 (Int.tdiv n d) - 1) else IntKind.wrap .i64 (Int.tdiv n d)
theorem floor_spec (n d : Int) (hd : d ≠ 0) (w : World) : Calls Try.prog 47 #[.int .i64 n, .int .i64 d] w fun e w' => e = .returned (.int .i64 (floorW n d)) ∧ w' = w := by
  apply civil_floor_vc
  refine ⟨hd, hd, fun x w' => x = floorW n d ∧ w' = w, ⟨fun h => ⟨by unfold floorW; rw [if_pos h], rfl⟩, fun h => ⟨by unfold floorW; rw [if_neg (by rw [h]; simp)], rfl⟩⟩, ?_⟩
  rintro x w' ⟨rfl, rfl⟩
  exact ⟨rfl, rfl⟩

theorem dT (w : World) : (isAgg 75).run Try.prog w = .ok true w := Try.isAgg75 w
theorem dS (w : World) : (sizeOf 75).run Try.prog w = .ok 3 w := Try.sizeOf75 w
theorem dZ (w : World) : (zeroValue 75).run Try.prog w = .ok (.agg (iv [0, 0, 0]).toArray) w := Try.zeroValue75 w
theorem iA (w : World) : (isAgg 3).run Try.prog w = .ok false w := Try.isAgg3 w
theorem iS (w : World) : (sizeOf 3).run Try.prog w = .ok 1 w := Try.sizeOf3 w
theorem built_date : Try.prog.built 75 = fun parts => Instr.fill (fun i => (#[(0, 1), (1, 1), (2, 1)] : Array (Nat × Nat))[i]?) (iv [0, 0, 0]).toArray parts := by kernel_rfl
theorem date_build (x y z : Int) (w : World) : (Instr.build 75 #[(0, .int .i64 x), (1, .int .i64 y), (2, .int .i64 z)]).run Try.prog w = .ok (.agg (iv [x, y, z]).toArray) w := by
  apply run_build
  rw [built_date]
  show Instr.fill _ _ [(0, _), (1, _), (2, _)] = _
  rw [fill_step (off := 0) (sz := 1) rfl rfl (by simp [Value.cells, iv]), fill_step (off := 1) (sz := 1) rfl rfl (by simp [Value.cells, iv]), fill_step (off := 2) (sz := 1) rfl rfl (by simp [Value.cells, iv])]
  rfl

theorem field_date (x y z : Int) (w : World) : (Instr.field 75 (.agg (iv [x, y, z]).toArray) 0).run Try.prog w = .ok (.int .i64 x) w := by
  have hu := Try.underlying75
  simp [Instr.field, run_underlying hu, part, iA, iS, iv, fieldPlace, asAgg]
def dayX (n : Int) : Int := IntKind.wrap .i64 (IntKind.wrap .i64 (n + 719468) - IntKind.wrap .i64 (floorW (IntKind.wrap .i64 (n + 719468)) 146097 * 146097))
def yearX (d : Int) : Int := IntKind.wrap .i64 (Int.tdiv (IntKind.wrap .i64 (IntKind.wrap .i64 (IntKind.wrap .i64 (d - IntKind.wrap .i64 (Int.tdiv d 1460)) + IntKind.wrap .i64 (Int.tdiv d 36524)) - IntKind.wrap .i64 (Int.tdiv d 146096))) 365)
def restX (d y : Int) : Int := IntKind.wrap .i64 (d - IntKind.wrap .i64 (IntKind.wrap .i64 (IntKind.wrap .i64 (365 * y) + IntKind.wrap .i64 (Int.tdiv y 4)) - IntKind.wrap .i64 (Int.tdiv y 100)))
def monX (r : Int) : Int := IntKind.wrap .i64 (Int.tdiv (IntKind.wrap .i64 (IntKind.wrap .i64 (5 * r) + 2)) 153)
def dateY0 (n : Int) : Int := IntKind.wrap .i64 (IntKind.wrap .i64 (floorW (IntKind.wrap .i64 (n + 719468)) 146097 * 400) + yearX (dayX n))
def dateM (n : Int) : Int := IntKind.wrap .i64 (Int.tmod (IntKind.wrap .i64 (monX (restX (dayX n) (yearX (dayX n))) + 2)) 12 + 1)
def dateD (n : Int) : Int := IntKind.wrap .i64 (IntKind.wrap .i64 (restX (dayX n) (yearX (dayX n)) - IntKind.wrap .i64 (Int.tdiv (IntKind.wrap .i64 (IntKind.wrap .i64 (153 * monX (restX (dayX n) (yearX (dayX n)))) + 2)) 5)) + 1)
def dateY (n : Int) : Int := if decide (dateM n ≤ 2) then IntKind.wrap .i64 (dateY0 n + 1) else dateY0 n
theorem date_spec (n : Int) (w : World) : Calls Try.prog 32 #[.int .i64 n] w fun e w' => e = .returned (.agg (iv [dateY n, dateM n, dateD n]).toArray) ∧ Chg [] w w' := by
  apply civil_date_vc
  obtain ⟨g2, w1, r1, h1⟩ := (St.start w).zeroA dZ
  have h1 : St w [] w1 [.arr g2 75 (iv [0, 0, 0])] := h1
  refine ⟨g2, w1, r1, (floor_spec _ 146097 (by decide) w1).mono ?_⟩
  rintro e w2 ⟨rfl, rfl⟩
  refine ⟨_, rfl, _, date_build _ _ _ _, ?_⟩
  show ∃ (g7 : Nat) (w3 : World), _ ∧ ∃ w4 : World, (Instr.storeAt 75 (.pointer (some ⟨g7, 0, none⟩)) (.agg (iv [dateY0 n, dateM n, dateD n]).toArray)).run Try.prog w3 = .ok () w4 ∧ _
  obtain ⟨g7, w3, r3, h3⟩ := h1.zeroA dZ
  obtain ⟨w4, r4, h4⟩ := h3.stA (i := 1) (v := iv [dateY0 n, dateM n, dateD n]) rfl (dS _) rfl rfl (iv_one _)
  have h4 : St w [] w4 [.arr g2 75 (iv [0, 0, 0]), .arr g7 75 (iv [dateY0 n, dateM n, dateD n])] := h4
  refine ⟨g7, w3, r3, w4, r4, _, h4.ldL (i := 1) (o := 1) rfl (iA _) rfl rfl, fun w' => St w [] w' [.arr g2 75 (iv [0, 0, 0]), .arr g7 75 (iv [dateY n, dateM n, dateD n])], ⟨fun hm => ?_, fun hm => ?_⟩, fun w6 h6 => ?_⟩
  · obtain ⟨w5, r5, h5⟩ := h4.stL (i := 1) (o := 0) (v := .int .i64 (IntKind.wrap .i64 (dateY0 n + 1))) rfl (iS _) rfl (by simp) rfl
    refine ⟨_, h4.ldL (i := 1) (o := 0) rfl (iA _) rfl rfl, w5, r5, ?_⟩
    have : dateY n = IntKind.wrap .i64 (dateY0 n + 1) := by unfold dateY; rw [if_pos hm]
    rw [this]; exact h5
  · have : dateY n = dateY0 n := by unfold dateY; rw [if_neg (by rw [hm]; simp)]
    rw [this]; exact h4
  · obtain ⟨w7, r7, h7⟩ := h6.stA (i := 0) (v := iv [dateY n, dateM n, dateD n]) rfl (dS _) rfl rfl (iv_one _)
    exact ⟨_, h6.ldA (i := 1) (l := iv [dateY n, dateM n, dateD n]) rfl (dT _) (dS _) rfl, w7, r7, _, h7.ldVarA (i := 0) (l := iv [dateY n, dateM n, dateD n]) rfl (dT _) (dS _) rfl, rfl, h7.chg⟩

def daysY (y m : Int) : Int := if decide (m ≤ 2) then IntKind.wrap .i64 (y - 1) else y
def daysF (y m d : Int) : Int := IntKind.wrap .i64 (IntKind.wrap .i64 (IntKind.wrap .i64 (IntKind.wrap .i64 (IntKind.wrap .i64 (IntKind.wrap .i64 (floorW y 400 * 146097) + IntKind.wrap .i64 (IntKind.wrap .i64 (y - IntKind.wrap .i64 (floorW y 400 * 400)) * 365)) + IntKind.wrap .i64 (Int.tdiv (IntKind.wrap .i64 (y - IntKind.wrap .i64 (floorW y 400 * 400))) 4)) - IntKind.wrap .i64 (Int.tdiv (IntKind.wrap .i64 (y - IntKind.wrap .i64 (floorW y 400 * 400))) 100)) + IntKind.wrap .i64 (IntKind.wrap .i64 (IntKind.wrap .i64 (Int.tdiv (IntKind.wrap .i64 (IntKind.wrap .i64 (153 * Int.tmod (IntKind.wrap .i64 (m + 9)) 12) + 2)) 5) + d) - 1)) - 719468)
def daysW (y m d : Int) : Int := daysF (daysY y m) m d
theorem days_spec (y m d : Int) (w : World) : Calls Try.prog 50 #[.agg (iv [y, m, d]).toArray] w fun e w' => e = .returned (.int .i64 (daysW y m d)) ∧ Chg [] w w' := by
  apply civil_days_vc
  obtain ⟨g1, w1, r1, h1⟩ := (St.start w).boxA (P := Try.prog) 75 (iv [y, m, d])
  have h1 : St w [] w1 [.arr g1 75 (iv [y, m, d])] := h1
  refine ⟨g1, w1, r1, _, h1.ldL (i := 0) (o := 0) rfl (iA _) rfl rfl, _, h1.ldL (i := 0) (o := 1) rfl (iA _) rfl rfl, fun x w' => x = daysY y m ∧ w' = w1, ⟨fun h => ⟨by unfold daysY; rw [if_pos h], rfl⟩, fun h => ⟨by unfold daysY; rw [if_neg (by rw [h]; simp)], rfl⟩⟩, ?_⟩
  rintro x w2 ⟨rfl, rfl⟩
  refine (floor_spec _ 400 (by decide) w2).mono ?_
  rintro e w3 ⟨rfl, rfl⟩
  exact ⟨_, rfl, _, h1.ldL (i := 0) (o := 1) rfl (iA _) rfl rfl, _, h1.ldL (i := 0) (o := 2) rfl (iA _) rfl rfl, rfl, h1.chg⟩

def rangeW (n : Int) : Bool := decide (n ≥ daysW (-40000) 1 1) && decide (n ≤ daysW 40000 12 31)
theorem inRange_spec (n : Int) (w : World) : Calls Try.prog 48 #[.int .i64 n] w fun e w' => e = .returned (.bool (rangeW n)) ∧ Chg [] w w' := by
  apply civil_inRange_vc
  refine ⟨_, date_build _ _ _ _, (days_spec _ _ _ w).mono ?_⟩
  rintro e w1 ⟨rfl, c1⟩
  refine ⟨_, rfl, fun h => ⟨_, date_build _ _ _ _, (days_spec _ _ _ w1).mono ?_⟩, fun h => ⟨by unfold rangeW; rw [h]; rfl, c1⟩⟩
  rintro e w2 ⟨rfl, c2⟩
  exact ⟨_, rfl, by unfold rangeW; rw [h]; rfl, c1.trans c2⟩

def wdayW (n : Int) : Int := IntKind.wrap .i64 (Int.tmod (IntKind.wrap .i64 (IntKind.wrap .i64 (Int.tmod n 7 + 7) + 3)) 7 + 1)
theorem weekday_spec (n : Int) (w : World) : Calls Try.prog 49 #[.int .i64 n] w fun e w' => e = .returned (.int .i64 (wdayW n)) ∧ w' = w := by
  apply civil_Weekday_vc
  exact ⟨rfl, rfl⟩
def thuW (n : Int) : Int := IntKind.wrap .i64 (IntKind.wrap .i64 (n + 4) - wdayW n)
def weekY (n : Int) : Int := if rangeW n then dateY (thuW n) else 0
def weekN (n : Int) : Int := if rangeW n then IntKind.wrap .i64 (IntKind.wrap .i64 (Int.tdiv (IntKind.wrap .i64 (thuW n - daysW (dateY (thuW n)) 1 1)) 7) + 1) else 0
theorem week_spec (n : Int) (w : World) : Calls Try.prog 35 #[.int .i64 n] w fun e w' => e = .returned (.tuple #[.int .i64 (weekY n), .int .i64 (weekN n), errV (if rangeW n then none else some 24)]) ∧ Chg [] w w' := by
  apply civil_Week_vc
  refine (inRange_spec n w).mono ?_
  rintro e w1 ⟨rfl, c1⟩
  refine ⟨_, rfl, fun h => ?_, fun h => (weekday_spec n w1).mono ?_⟩
  · have h : rangeW n = false := by simpa using h
    simp only [weekY, weekN, h]
    exact ⟨rfl, c1⟩
  rintro e w2 ⟨rfl, rfl⟩
  have h : rangeW n = true := by simpa using h
  refine ⟨_, rfl, (date_spec _ _).mono ?_⟩
  rintro e w3 ⟨rfl, c3⟩
  refine ⟨_, rfl, _, field_date _ _ _ _, _, date_build _ _ _ _, (days_spec _ _ _ w3).mono ?_⟩
  rintro e w4 ⟨rfl, c4⟩
  refine ⟨_, rfl, ?_, (c1.trans c3).trans c4⟩
  simp only [weekY, weekN, h, if_true]
  rfl

theorem day_spec (t : Int) (w : World) : Calls Try.prog 33 #[.int .i64 t] w fun e w' => e = .returned (.int .i64 (floorW t 86400)) ∧ w' = w := by
  apply civil_Day_vc
  refine (floor_spec t 86400 (by decide) w).mono ?_
  rintro e w1 ⟨rfl, rfl⟩
  exact ⟨_, rfl, rfl, rfl⟩
theorem hour_spec (t : Int) (w : World) : Calls Try.prog 34 #[.int .i64 t] w fun e w' => e = .returned (.int .i64 (floorW t 3600)) ∧ w' = w := by
  apply civil_Hour_vc
  refine (floor_spec t 3600 (by decide) w).mono ?_
  rintro e w1 ⟨rfl, rfl⟩
  exact ⟨_, rfl, rfl, rfl⟩

def offT (t : Int) : Bool := decide (t < -1099511627776) || decide (t > 1099511627776)
/-- A time's bucket, as the code reckons it. -/
def buckW (k t : Int) : Int := if offT t then 0 else if k = 1 then floorW t 3600 else if k = 2 then floorW t 86400 else
  if k = 3 then IntKind.wrap .i64 (IntKind.wrap .i64 (100 * weekY (floorW t 86400)) + weekN (floorW t 86400)) else
  if k = 4 then IntKind.wrap .i64 (IntKind.wrap .i64 (100 * dateY (floorW t 86400)) + dateM (floorW t 86400)) else if k = 5 then dateY (floorW t 86400) else 0
def buckE (k t : Int) : Option Int := if offT t then some 24 else if k = 1 ∨ k = 2 ∨ k = 4 ∨ k = 5 then none else if k = 3 then (if rangeW (floorW t 86400) then none else some 24) else some 24
theorem bucket_spec (k t : Int) (w : World) : Calls Try.prog 24 #[.int .i64 k, .int .i64 t] w fun e w' => e = .returned (.tuple #[.int .i64 (buckW k t), errV (buckE k t)]) ∧ Chg [] w w' := by
  apply civil_Bucket_vc
  refine ⟨fun h => ?_, fun h => (day_spec t w).mono ?_⟩
  · have h : offT t = true := h
    simp only [buckW, buckE, h, if_true]
    exact ⟨rfl, Chg.refl _ _⟩
  have h : offT t = false := h
  rintro e w1 ⟨rfl, rfl⟩
  refine ⟨_, rfl, (date_spec _ w1).mono ?_⟩
  rintro e w2 ⟨rfl, c2⟩
  obtain ⟨g6, w3, r3, h3⟩ := (St.start w2).zeroA dZ
  obtain ⟨w4, r4, h4⟩ := h3.stA (i := 0) (v := iv [dateY (floorW t 86400), dateM (floorW t 86400), dateD (floorW t 86400)]) rfl (dS _) rfl rfl (iv_one _)
  have h4 : St w2 [] w4 [.arr g6 75 (iv [dateY (floorW t 86400), dateM (floorW t 86400), dateD (floorW t 86400)])] := h4
  have c4 := c2.trans h4.chg
  simp only [buckW, buckE, h, Bool.false_eq_true, if_false]
  refine ⟨_, rfl, g6, w3, r3, w4, r4, fun k1 => (hour_spec t w4).mono ?_, fun k1 => ⟨fun k2 => (day_spec t w4).mono ?_, fun k2 => ⟨fun k3 => (day_spec t w4).mono ?_, fun k3 => ⟨fun k4 => ?_, fun k4 => ⟨fun k5 => ?_, fun k5 => ?_⟩⟩⟩⟩⟩
  · rintro e w5 ⟨rfl, rfl⟩
    have : k = 1 := by simpa using k1
    subst this
    exact ⟨_, rfl, rfl, c4⟩
  · rintro e w5 ⟨rfl, rfl⟩
    have : k = 2 := by simpa using k2
    subst this
    exact ⟨_, rfl, rfl, c4⟩
  · rintro e w5 ⟨rfl, rfl⟩
    have : k = 3 := by simpa using k3
    subst this
    refine ⟨_, rfl, (week_spec _ w5).mono ?_⟩
    rintro e w6 ⟨rfl, c6⟩
    exact ⟨_, _, _, rfl, rfl, c4.trans c6⟩
  · have : k = 4 := by simpa using k4
    subst this
    exact ⟨_, h4.ldL (i := 0) (o := 0) rfl (iA _) rfl rfl, _, h4.ldL (i := 0) (o := 1) rfl (iA _) rfl rfl, rfl, c4⟩
  · have : k = 5 := by simpa using k5
    subst this
    exact ⟨_, h4.ldL (i := 0) (o := 0) rfl (iA _) rfl rfl, rfl, c4⟩
  · have e1 : ¬ k = 1 := by simpa using k1
    have e2 : ¬ k = 2 := by simpa using k2
    have e3 : ¬ k = 3 := by simpa using k3
    have e4 : ¬ k = 4 := by simpa using k4
    have e5 : ¬ k = 5 := by simpa using k5
    simp only [e1, e2, e3, e4, e5, if_false, or_self]
    exact ⟨rfl, c4⟩

end Go.Proofs.Ytdcgapabphjgbaa
