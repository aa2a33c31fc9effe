/- prune.Check, Why (conditions: none). -/
import Derived.Test.YtdcgapabphjgbaaPruB
namespace Go.Proofs.Ytdcgapabphjgbaa
open Go Sx
set_option maxRecDepth 8000

/-! ### policies -/
theorem poA (w : World) : (isAgg 23).run Try.prog w = .ok true w := Try.isAgg23 w
theorem poS (w : World) : (sizeOf 23).run Try.prog w = .ok 6 w := Try.sizeOf23 w
theorem a6A (w : World) : (isAgg 62).run Try.prog w = .ok true w := Try.isAgg62 w
theorem a6S (w : World) : (sizeOf 62).run Try.prog w = .ok 6 w := Try.sizeOf62 w
theorem a6Z (w : World) : (zeroValue 62).run Try.prog w = .ok (.agg (iv [0, 0, 0, 0, 0, 0]).toArray) w := Try.zeroValue62 w
theorem a6U : Try.prog.underlying 62 = some (.array 6 3) := Try.underlying62
theorem snAgg (w : World) : (isAgg 30).run Try.prog w = .ok true w := Try.isAgg30 w
theorem snS (w : World) : (sizeOf 30).run Try.prog w = .ok 36 w := Try.sizeOf30 w
theorem blA (w : World) : (isAgg 4).run Try.prog w = .ok false w := Try.isAgg4 w
theorem blS (w : World) : (sizeOf 4).run Try.prog w = .ok 1 w := Try.sizeOf4 w
def sn0 : SnapD := ⟨[], 0, 0, 0, List.replicate 32 0, by simp⟩
theorem snZ (w : World) : (zeroValue 30).run Try.prog w = .ok (.agg (snapC sn0).toArray) w := Try.zeroValue30 w

theorem ix6 {ns : List Int} {i : Nat} {z : Int} (hi : i < 6) (hz : ns[i]? = some z) (w : World) : (Instr.index 62 (.agg (iv ns).toArray) (.int .i64 (i : Int))).run Try.prog w = .ok (.int .i64 z) w := by
  have h1 : (0 : Int) ≤ (i : Int) ∧ (i : Int) < ((6 : Nat) : Int) := by omega
  have hv : (iv ns)[i]? = some (.int .i64 z) := by rw [iv_get, hz]; rfl
  simp [Instr.index, asIntOf, run_underlying a6U, iS, part, iA, hv, hi]

theorem numbers_spec (ns : List Int) (hn : ns.length = 6) (w : World) : Calls Try.prog 25 #[.agg (iv ns).toArray] w fun e w' => e = .returned (.agg (iv ns).toArray) ∧ Chg [] w w' := by
  apply prune_numbers_vc
  obtain ⟨a, b, c, d, e, f, rfl⟩ : ∃ a b c d e f, ns = [a, b, c, d, e, f] := by
    match ns, hn with
    | [a, b, c, d, e, f], _ => exact ⟨a, b, c, d, e, f, rfl⟩
  obtain ⟨g1, w1, r1, h1⟩ := (St.start w).boxA (P := Try.prog) 23 (iv [a, b, c, d, e, f])
  obtain ⟨g2, w2, r2, h2⟩ := h1.zeroA a6Z
  have h2 : St w [] w2 [.arr g1 23 (iv [a, b, c, d, e, f]), .arr g2 62 (iv [0, 0, 0, 0, 0, 0])] := h2
  have ld : ∀ (i : Nat) (z : Int), (iv [a, b, c, d, e, f])[i]? = some (.int .i64 z) → (Instr.loadAt 3 (.pointer (some ⟨g1, i, none⟩))).run Try.prog w2 = .ok (.int .i64 z) w2 := fun i z hz => h2.ldL (i := 0) (o := i) rfl (iA _) rfl hz
  have hb := build_arr (P := Try.prog) (w := w2) (a6Z w2) a6U (iS w2) (iv [a, b, c, d, e, f]) (iv_one _) (by simp)
  obtain ⟨w3, r3, h3⟩ := h2.stA (i := 1) (v := iv [a, b, c, d, e, f]) rfl (a6S _) rfl rfl (iv_one _)
  exact ⟨g1, w1, r1, g2, w2, r2, _, ld 0 a rfl, _, ld 1 b rfl, _, ld 2 c rfl, _, ld 3 d rfl, _, ld 4 e rfl, _, ld 5 f rfl, _, hb, w3, r3, _, h3.ldVarA (i := 1) (l := iv [a, b, c, d, e, f]) rfl (a6A _) (a6S _) rfl, rfl, h3.chg⟩

def badN (z : Int) : Bool := decide (z < 0) || decide (z > 1048576)
def checkP (ns : List Int) : Option Int := if ns.any badN then some 23 else if ns.sum = 0 then some 23 else none
theorem sum_bound : ∀ (l : List Int), (∀ z ∈ l, badN z = false) → 0 ≤ l.sum ∧ l.sum ≤ 1048576 * (l.length : Int)
  | [], _ => by simp
  | z :: r, h => by
    have h1 := h z (by simp)
    have h2 := sum_bound r fun z hz => h z (by simp [hz])
    simp only [badN, Bool.or_eq_false_iff, decide_eq_false_iff_not] at h1
    rw [List.sum_cons, List.length_cons]
    omega
theorem check_spec (ns : List Int) (hn : ns.length = 6) (w : World) : Calls Try.prog 18 #[.agg (iv ns).toArray] w fun e w' => e = .returned (errV (checkP ns)) ∧ Chg [] w w' := by
  apply prune_Check_vc
  obtain ⟨g1, w1, r1, h1⟩ := (St.start w).boxA (P := Try.prog) 23 (iv ns)
  have h1 : St w [] w1 [.arr g1 23 (iv ns)] := h1
  refine ⟨g1, w1, r1, _, h1.ldA (i := 0) (l := iv ns) rfl (poA _) (poS _) (by simp [hn]), (numbers_spec ns hn w1).mono ?_⟩
  rintro e w2 ⟨rfl, c2⟩
  refine ⟨_, rfl, fun s i w' => ∃ j : Nat, i = (j : Int) ∧ j ≤ 6 ∧ s = (ns.take j).sum ∧ (∀ z ∈ ns.take j, badN z = false) ∧ w' = w2, fun _ i _ => 6 - i.toNat, ⟨0, rfl, by omega, by simp, by simp, rfl⟩, ?_⟩
  rintro s i w3 ⟨j, rfl, hj, rfl, hok, rfl⟩
  have hsb := sum_bound _ hok
  have htl : (ns.take j).length = j := by rw [List.length_take]; omega
  rw [htl] at hsb
  refine ⟨fun hlt => ?_, fun hge => ?_⟩
  · have hj' : j < 6 := by simp at hlt; omega
    have hz : ns[j]? = some ns[j] := List.getElem?_eq_getElem (by omega)
    obtain ⟨z, hze⟩ : ∃ z, ns[j] = z := ⟨_, rfl⟩
    rw [hze] at hz
    refine ⟨_, ix6 hj' hz _, fun hb => ⟨?_, h1.chg.trans c2⟩, fun hb => ?_⟩
    · have : checkP ns = some 23 := by
        unfold checkP; rw [if_pos]
        rw [List.any_eq_true]
        exact ⟨z, List.mem_of_getElem? hz, hb⟩
      rw [this]; rfl
    · have hb' : badN z = false := hb
      have e1 : ns.take (j + 1) = ns.take j ++ [z] := by rw [List.take_add_one, hz]; rfl
      have hzb := hb'
      simp only [badN, Bool.or_eq_false_iff, decide_eq_false_iff_not] at hzb
      refine ⟨⟨j + 1, wrap_succ hj' (by omega), by omega, ?_, ?_, rfl⟩, mu_succ hj' (by omega)⟩
      · rw [e1, List.sum_append, wrap_i64 (by omega) (by omega)]; simp
      · rw [e1]
        intro u hu
        rcases List.mem_append.1 hu with hu | hu
        · exact hok u hu
        · rw [List.mem_singleton] at hu; rw [hu]; exact hb'
  · have hj' : j = 6 := by simp at hge; omega
    subst hj'
    rw [List.take_of_length_le (by omega)] at hok ⊢
    have hna : ns.any badN = false := by
      rw [List.any_eq_false]
      intro z hz; rw [hok z hz]; simp
    refine ⟨fun h0 => ⟨?_, h1.chg.trans c2⟩, fun h0 => ⟨?_, h1.chg.trans c2⟩⟩
    · have : checkP ns = some 23 := by unfold checkP; rw [hna]; simp only [Bool.false_eq_true, if_false]; rw [if_pos (by simpa using h0)]
      rw [this]; rfl
    · have : checkP ns = none := by unfold checkP; rw [hna]; simp only [Bool.false_eq_true, if_false]; rw [if_neg (by simpa using h0)]
      rw [this]; rfl

/-! ### a rule -/
def ruleC (n : Nat) (o : Option Int) : List Value := [.int .i64 (n : Int), .bool o.isSome, .int .i64 (o.getD 0)]
theorem rule_build (z : Int) (w : World) (hz : 0 ≤ z) : (Instr.build 66 #[(0, .int .i64 z)]).run Try.prog w = .ok (.agg (ruleC z.toNat none).toArray) w := by
  have hb : Try.prog.built 66 = fun parts => Instr.fill (fun i => (#[(0, 1), (1, 1), (2, 1)] : Array (Nat × Nat))[i]?) (ruleC 0 none).toArray parts := by kernel_rfl
  apply run_build
  rw [hb]
  show Instr.fill _ _ [(0, _)] = _
  rw [fill_step (off := 0) (sz := 1) rfl rfl (by simp [Value.cells, ruleC])]
  have : ((z.toNat : Nat) : Int) = z := by omega
  simp [ruleC, this, Instr.fill, Value.cells]
theorem keeps_spec {w0 w : World} {M : List Res} (hS : St w0 [] w M) {i g : Nat} {T : TypeId} {n : Nat} {o : Option Int} (hi : M[i]? = some (.arr g T (ruleC n o))) (hn : n ≤ 1048576) (b : Int) :
    Calls Try.prog 27 #[.pointer (some ⟨g, 0, none⟩), .int .i64 b] w fun e w' =>
      (n = 0 ∨ o = some b) ∧ e = .returned (.bool false) ∧ w' = w ∨ ¬ (n = 0 ∨ o = some b) ∧ e = .returned (.bool true) ∧ St w0 [] w' (M.set i (.arr g T (ruleC (n - 1) (some b)))) := by
  have him := (List.getElem?_eq_some_iff.1 hi).1
  apply prune_rule_keeps_vc
  refine ⟨fun x w' => x = decide (n = 0 ∨ o = some b) ∧ w' = w, ⟨_, hS.ldL (o := 0) hi (iA _) rfl rfl, fun h0 => ⟨?_, rfl⟩, fun h0 => ⟨_, hS.ldL (o := 1) hi (blA _) rfl rfl, fun h1 => ⟨_, hS.ldL (o := 2) hi (iA _) rfl rfl, ?_, rfl⟩, fun h1 => ⟨?_, rfl⟩⟩⟩, ?_⟩
  · have : n = 0 := by simp at h0; omega
    simp [this]
  · have hn0 : ¬ n = 0 := by simp at h0; omega
    cases o with
    | none => simp at h1
    | some v =>
      have : (v == b) = decide (v = b) := rfl
      simp [hn0, this]
  · have hn0 : ¬ n = 0 := by simp at h0; omega
    cases o with
    | none => simp [hn0]
    | some v => simp at h1
  · rintro x w1 ⟨rfl, rfl⟩
    refine ⟨fun h => .inl ⟨by simpa using h, rfl, rfl⟩, fun h => ?_⟩
    have hc : ¬ (n = 0 ∨ o = some b) := by simpa using h
    have hn0 : n ≠ 0 := fun e => hc (.inl e)
    obtain ⟨w2, r2, h2⟩ := hS.stL (o := 0) (v := .int .i64 (IntKind.wrap .i64 ((n : Int) - 1))) hi (iS _) rfl (by simp [ruleC]) rfl
    obtain ⟨w3, r3, h3⟩ := h2.stL (i := i) (o := 1) (v := .bool true) (List.getElem?_set_self him) (blS _) rfl (by simp [ruleC]) rfl
    obtain ⟨w4, r4, h4⟩ := h3.stL (i := i) (o := 2) (v := .int .i64 b) (by rw [List.set_set]; exact List.getElem?_set_self him) (iS _) rfl (by simp [ruleC]) rfl
    refine ⟨_, hS.ldL (o := 0) hi (iA _) rfl rfl, w2, r2, w3, r3, w4, r4, .inr ⟨hc, rfl, ?_⟩⟩
    have hw : IntKind.wrap .i64 ((n : Int) - 1) = ((n - 1 : Nat) : Int) := by rw [wrap_i64 (by omega) (by omega)]; omega
    rw [hw] at h4
    simpa [ruleC, List.set_set] using h4

/-! ### Why, in plain words -/
def bktW (l : List SnapD) (k i : Nat) : Int := if k = 0 then (i : Int) else buckW (k : Int) ((l[i]?).elim 0 SnapD.time)
def pickK (ns : List Int) (l : List SnapD) (L : List Nat) (k : Nat) : List Nat := pickP (bktW l k) (ns.getD k 0).toNat none L
def whyN (ns : List Int) (l : List SnapD) (L : List Nat) : Nat → Nat → Nat
  | 0, _ => 0
  | k + 1, i => whyN ns l L k i + if i ∈ pickK ns l L k then 2 ^ k else 0
theorem whyN_lt (ns : List Int) (l : List SnapD) (L : List Nat) : ∀ k i, whyN ns l L k i < 2 ^ k
  | 0, _ => by simp [whyN]
  | k + 1, i => by
    have := whyN_lt ns l L k i
    rw [whyN, Nat.pow_succ]
    split <;> omega
def outV (ns : List Int) (l : List SnapD) (L : List Nat) (k : Nat) : List Int := (List.range l.length).map fun i => (whyN ns l L k i : Int)
def errW (ns : List Int) (l : List SnapD) : Option Int := if checkP ns = none then (if l.any fun s => offT s.time then some 24 else none) else checkP ns
theorem borK : ∀ k : Fin 6, ∀ u : Fin 64, u.1 < 2 ^ k.1 → bor .i64 (u.1 : Int) (shlI .i64 (1 : Int) (k.1 : Int)) = ((u.1 + 2 ^ k.1 : Nat) : Int) := by decide +kernel
def midV (ns : List Int) (l : List SnapD) (L P : List Nat) (k : Nat) : List Int := (List.range l.length).map fun i => ((whyN ns l L k i + if i ∈ P then 2 ^ k else 0 : Nat) : Int)
theorem midV_get (ns : List Int) (l : List SnapD) (L P : List Nat) (k : Nat) {i : Nat} (hi : i < l.length) : (midV ns l L P k)[i]? = some ((whyN ns l L k i + if i ∈ P then 2 ^ k else 0 : Nat) : Int) := by
  simp [midV, List.getElem?_range, hi]
theorem midV_nil (ns : List Int) (l : List SnapD) (L : List Nat) (k : Nat) : midV ns l L [] k = outV ns l L k := by simp [midV, outV]
theorem midV_all (ns : List Int) (l : List SnapD) (L : List Nat) (k : Nat) : midV ns l L (pickK ns l L k) k = outV ns l L (k + 1) := by simp only [midV, outV, whyN]
theorem midV_set (ns : List Int) (l : List SnapD) (L P : List Nat) (k : Nat) {i : Nat} (hi : i < l.length) (hP : i ∉ P) : (iv (midV ns l L P k)).set i (.int .i64 ((whyN ns l L k i + 2 ^ k : Nat) : Int)) = iv (midV ns l L (P ++ [i]) k) := by
  apply List.ext_getElem?
  intro j
  rw [List.getElem?_set]
  by_cases hij : i = j
  · subst hij
    rw [if_pos rfl, if_pos (by simp [midV]; exact hi), iv_get, midV_get _ _ _ _ _ hi]
    simp
  · rw [if_neg hij, iv_get, iv_get]
    by_cases hj : j < l.length
    · rw [midV_get _ _ _ _ _ hj, midV_get _ _ _ _ _ hj]
      have : (j ∈ P ++ [i]) ↔ j ∈ P := by
        rw [List.mem_append, List.mem_singleton]
        exact ⟨fun h => h.resolve_right fun e => hij e.symm, .inl⟩
      simp only [this]
    · rw [List.getElem?_eq_none (by simp [midV]; omega), List.getElem?_eq_none (by simp [midV]; omega)]

set_option maxHeartbeats 2000000 in
theorem why_spec (ns : List Int) (hn : ns.length = 6) (a : Option Addr) (n c : Nat) (l : List SnapD) (w : World) (hr : RdS w a n c l) (hb : n ≤ 1000000) :
    Calls Try.prog 10 #[.agg (iv ns).toArray, .slice a n c] w fun e w' => ∃ ra rn rc v, e = .returned (.tuple #[.slice ra rn rc, errV (errW ns l)]) ∧ Chg [] w w' ∧ Rd w' ra rn rc 1 (iv v) ∧ (errW ns l ≠ none → v = [] ∧ rn = 0) ∧ (errW ns l = none → rn = n ∧ ∃ L, NewOrd l L ∧ v = outV ns l L 6) := by
  obtain ⟨mI, hI⟩ := eI
  have hln := hr.num (by decide)
  have rnil : ∀ w', Rd w' none 0 0 1 (iv []) := fun w' => ⟨Cells.nil _ _, rfl, Nat.le_refl _, fun _ => rfl⟩
  apply prune_Why_vc
  obtain ⟨g2, w1, r1, h1⟩ := (St.start w).boxA (P := Try.prog) 23 (iv ns)
  have h1 : St w [] w1 [.arr g2 23 (iv ns)] := h1
  have ldP : ∀ {w' L}, St w [] w' (.arr g2 23 (iv ns) :: L) → (Instr.loadAt 23 (.pointer (some ⟨g2, 0, none⟩))).run Try.prog w' = .ok (.agg (iv ns).toArray) w' := fun h => h.ldA (i := 0) (l := iv ns) rfl (poA _) (poS _) (by simp [hn])
  refine ⟨g2, w1, r1, _, ldP h1, (check_spec ns hn w1).mono ?_⟩
  rintro e w2 ⟨rfl, c2⟩
  have h2 := h1.same c2
  refine ⟨_, rfl, _, neqS_nil hI _ _ _, fun hs => ?_, fun hs => ?_⟩
  · have hne : checkP ns ≠ none := fun e => by rw [e] at hs; cases hs
    have : errW ns l = checkP ns := by unfold errW; rw [if_neg hne]
    rw [this]
    exact ⟨none, 0, 0, [], rfl, h2.chg, rnil _, fun _ => ⟨rfl, rfl⟩, fun e => absurd e hne⟩
  have hck : checkP ns = none := by cases h : checkP ns <;> rw [h] at hs <;> simp at hs ⊢
  refine ⟨fun i w' => ∃ j : Nat, i = (j : Int) ∧ j ≤ n ∧ (∀ s ∈ l.take j, offT s.time = false) ∧ St w [] w' [.arr g2 23 (iv ns)], fun i _ => n - i.toNat, ⟨0, rfl, Nat.zero_le _, by simp, h2⟩, ?_⟩
  rintro i w3 ⟨j, rfl, hj, hok, h3⟩
  refine ⟨fun hlt => ?_, fun hge => ?_⟩
  · have hj' : j < n := by simp at hlt; omega
    have hs : l[j]? = some l[j] := List.getElem?_eq_getElem (by omega)
    obtain ⟨s, hse⟩ : ∃ s, l[j] = s := ⟨_, rfl⟩
    rw [hse] at hs
    obtain ⟨b, o, hab, hld⟩ := hr.ld (P := Try.prog) (by decide) snAgg snS hs
    obtain ⟨g8, w4, r4, h4⟩ := h3.zeroA snZ
    obtain ⟨w5, r5, h5⟩ := h4.stA (i := 1) (v := snapC s) rfl (snS _) (snapC_len _) (snapC_len _) (snapC_one _)
    have h5 : St w [] w5 [.arr g2 23 (iv ns), .arr g8 30 (snapC s)] := h5
    refine ⟨b, o, hab, by omega, by omega, _, hld w3 (hr.keep0 h3.chg), g8, w4, r4, w5, r5, _, h5.ldL (i := 1) (o := 1) (v := .int .i64 s.time) rfl (iA _) rfl rfl, (bucket_spec 1 s.time w5).mono ?_⟩
    rintro e w6 ⟨rfl, c6⟩
    have h6 := h5.same c6
    refine ⟨_, _, rfl, _, neqS_nil hI _ _ _, fun hbad => ?_, fun hgood => ?_⟩
    · have hoff : offT s.time = true := by
        cases h : offT s.time with
        | true => rfl
        | false => simp [buckE, h] at hbad
      have he : buckE 1 s.time = some 24 := by simp [buckE, hoff]
      have : errW ns l = some 24 := by
        unfold errW; rw [if_pos hck, if_pos]
        rw [List.any_eq_true]
        exact ⟨s, List.mem_of_getElem? hs, hoff⟩
      rw [he, this]
      exact ⟨none, 0, 0, [], rfl, h6.chg, rnil _, fun _ => ⟨rfl, rfl⟩, fun e => by cases e⟩
    · have hoff : offT s.time = false := by
        cases h : offT s.time with
        | false => rfl
        | true => simp [buckE, h] at hgood
      refine ⟨⟨j + 1, wrap_succ hj' (by omega), by omega, ?_, h6.sub (by simp)⟩, mu_succ hj' (by omega)⟩
      rw [List.take_add_one, hs]
      intro u hu
      rcases List.mem_append.1 hu with hu | hu
      · exact hok u hu
      · simp only [Option.toList_some, List.mem_singleton] at hu; rw [hu]; exact hoff
  have hj' : j = n := by simp at hge; omega
  subst hj'
  rw [List.take_of_length_le (by omega)] at hok
  have herr : errW ns l = none := by
    unfold errW; rw [if_pos hck, if_neg]
    rw [List.any_eq_true]
    rintro ⟨s, hs, he⟩
    rw [hok s hs] at he; cases he
  rw [herr]
  obtain ⟨g4, w7, r7, h7⟩ := h3.mkN (kl := .i64) (kc := .i64) (c := (j : Int)) inT rfl (by omega) (by omega) (by omega)
  rw [Int.toNat_natCast] at r7 h7
  have h7 : St w [] w7 [.arr g2 23 (iv ns), .row 3 1 (.slice (some ⟨g4, 0, none⟩) j j) j (List.replicate j (.int .i64 0))] := h7
  refine ⟨_, _, _, w7, r7, _, ldP h7, (numbers_spec ns hn w7).mono ?_⟩
  rintro e w8 ⟨rfl, c8⟩
  have h8 := h7.same c8
  have hnb : ∀ z ∈ ns, badN z = false := by
    intro z hz
    cases h : badN z with
    | false => rfl
    | true =>
      have : checkP ns = some 23 := by unfold checkP; rw [if_pos (List.any_eq_true.2 ⟨z, hz, h⟩)]
      rw [hck] at this; cases this
  let Out : List Int → World → Prop := fun v w' => St w [] w' [.arr g2 23 (iv ns), .row 3 1 (.slice (some ⟨g4, 0, none⟩) j j) j (iv v)]
  refine ⟨_, rfl, fun x w' => ∃ k : Nat, x = (k : Int) ∧ k ≤ 6 ∧ ∃ L, (k ≠ 0 → NewOrd l L) ∧ Out (outV ns l L k) w', fun x _ => 6 - x.toNat, ⟨0, rfl, by omega, [], fun h => absurd rfl h, ?_⟩, ?_⟩
  · have : iv (outV ns l [] 0) = List.replicate j (.int .i64 0) := by
      apply List.ext_getElem?
      intro i
      by_cases hi : i < j
      · simp [iv, outV, whyN, hln, List.getElem?_range, hi]
      · rw [List.getElem?_eq_none (by simp [outV]; omega), List.getElem?_eq_none (by simp; omega)]
    show St w [] w8 [_, .row 3 1 (.slice (some ⟨g4, 0, none⟩) j j) j (iv (outV ns l [] 0))]
    rw [this]; exact h8
  rintro x w9 ⟨k, rfl, hk, L0, hL0, h9⟩
  refine ⟨fun hlt => ?_, fun hge => ?_⟩
  · have hk' : k < 6 := by simp at hlt; omega
    have hz : ns[k]? = some ns[k] := List.getElem?_eq_getElem (by omega)
    obtain ⟨z, hze⟩ : ∃ z, ns[k] = z := ⟨_, rfl⟩
    rw [hze] at hz
    have hzb := hnb z (List.mem_of_getElem? hz)
    simp only [badN, Bool.or_eq_false_iff, decide_eq_false_iff_not] at hzb
    obtain ⟨g5, w10, r10, h10⟩ := Sx.St.boxA (P := Try.prog) h9 66 (ruleC z.toNat none)
    refine ⟨_, ix6 hk' hz _, _, rule_build z _ (by omega), g5, w10, r10, (newest_spec w10 (hr.keep0 h10.chg) hb).mono ?_⟩
    rintro e w11 ⟨xa, xc, L, rfl, hL, k11⟩
    have hLL : k ≠ 0 → L0 = L := fun h => (hL0 h).uniq hL
    have hout : outV ns l L0 k = outV ns l L k := by
      by_cases h : k = 0
      · subst h; simp [outV, whyN]
      · rw [hLL h]
    rw [hout] at h10
    have h11 := Sx.St.callPart (M := [.arr g2 23 (iv ns), .row 3 1 (.slice (some ⟨g4, 0, none⟩) j j) j (iv (outV ns l L k)), .arr g5 66 (ruleC z.toNat none)]) (N := []) (by rw [List.append_nil]; exact h10) k11
    have hLlen := hL.len
    have hnod := hL.nodup
    have hN : (ns.getD k 0).toNat = z.toNat := by rw [List.getD_eq_getElem?_getD, hz]; rfl
    let In : List Nat → Nat → Option Int → World → Prop := fun P n' o' w' => St w [] w' [.arr g2 23 (iv ns), .row 3 1 (.slice (some ⟨g4, 0, none⟩) j j) j (iv (midV ns l L P k)), .arr g5 66 (ruleC n' o'), .row 3 1 (.slice xa j xc) j (iv (L.map fun i : Nat => (i : Int)))]
    refine ⟨_, _, _, rfl, fun y w' => ∃ (p : Nat) (P : List Nat) (n' : Nat) (o' : Option Int), y = (p : Int) ∧ p ≤ j ∧ n' ≤ 1048576 ∧ pickK ns l L k = P ++ pickP (bktW l k) n' o' (L.drop p) ∧ (∀ i ∈ P, i ∈ L.take p) ∧ In P n' o' w', fun y _ => j - y.toNat, ⟨0, [], z.toNat, none, rfl, Nat.zero_le _, by omega, by rw [pickK, hN]; simp, by simp, ?_⟩, ?_⟩
    · show St w [] w11 _
      rw [midV_nil]; exact h11
    rintro y w12 ⟨p, P, n', o', rfl, hp, hn', hpick, hPm, h12⟩
    refine ⟨fun hlt => ?_, fun hge => ?_⟩
    · have hp' : p < j := by simp at hlt; omega
      have hi : L[p]? = some L[p] := List.getElem?_eq_getElem (by omega)
      obtain ⟨i, hie⟩ : ∃ i, L[p] = i := ⟨_, rfl⟩
      have hdrop : L.drop p = i :: L.drop (p + 1) := by rw [← hie]; exact List.drop_eq_getElem_cons (by omega)
      rw [hie] at hi
      have hil : i < l.length := hL.lt (List.mem_of_getElem? hi)
      have hs : l[i]? = some l[i] := List.getElem?_eq_getElem hil
      obtain ⟨s, hse⟩ : ∃ s, l[i] = s := ⟨_, rfl⟩
      rw [hse] at hs
      have hord : Rd w12 xa j xc 1 (iv (L.map fun i : Nat => (i : Int))) := Sx.St.rd h12 (i := 3) rfl
      obtain ⟨b, o, hab, hcell⟩ := hord.cells.at_ (i := p) (v := .int .i64 (i : Int)) (by rw [iv_get, List.getElem?_map, hi]; rfl)
      refine ⟨b, o, hab, by omega, by omega, _, by rw [Int.toNat_natCast, Nat.mul_one]; exact ld1 (iA _) hcell, fun x w' => x = bktW l k i ∧ In P n' o' w', ⟨fun hk0 => ?_, fun hk0 => ⟨?_, h12⟩⟩, ?_⟩
      · have hk0' : k ≠ 0 := by simp at hk0; omega
        obtain ⟨b2, o2, hab2, ld2⟩ := hr.fld (P := Try.prog) (by decide) iA (j := 1) hs (v := .int .i64 s.time) rfl
        refine ⟨b2, o2, hab2, by omega, by omega, _, ld2 w12 (hr.keep0 (Sx.St.chg h12)), (bucket_spec _ _ w12).mono ?_⟩
        rintro e w13 ⟨rfl, c13⟩
        exact ⟨_, _, rfl, by simp [bktW, hk0', hs], Sx.St.same h12 c13⟩
      · have hk0' : k = 0 := by simp at hk0; omega
        simp [bktW, hk0']
      rintro x w14 ⟨rfl, h14⟩
      refine (keeps_spec h14 (i := 2) rfl hn' _).mono ?_
      rintro e w15 (⟨hc, rfl, rfl⟩ | ⟨hc, rfl, h15⟩)
      · refine ⟨_, rfl, fun w' => In P n' o' w', ⟨fun h => (by cases h), fun _ => h14⟩, fun w17 h17 => ⟨⟨p + 1, P, n', o', wrap_succ hp' (by omega), by omega, hn', ?_, fun q hq => ?_, h17⟩, mu_succ hp' (by omega)⟩⟩
        · rw [hpick, hdrop, pickP, if_pos hc]
        · exact (List.take_sublist_take_left (by omega : p ≤ p + 1)).subset (hPm q hq)
      · have hiP : i ∉ P := fun h => by
          have h1 := hPm i h
          obtain ⟨q, hq, hqe⟩ := List.getElem_of_mem h1
          rw [List.length_take] at hq
          rw [List.getElem_take] at hqe
          have := List.pairwise_iff_getElem.1 hnod q p (by omega) (by omega) (by omega)
          rw [hqe, hie] at this
          exact this rfl
        have h15 : In P (n' - 1) (some (bktW l k i)) w15 := h15
        have h15d : In P (n' - 1) (some (bktW l k i)) w15.drew := Sx.St.drew h15
        have hvi : (iv (midV ns l L P k))[i]? = some (.int .i64 ((whyN ns l L k i : Nat) : Int)) := by rw [iv_get, midV_get _ _ _ _ _ hil]; simp [hiP]
        have hor : bor .i64 ((whyN ns l L k i : Nat) : Int) (shlI .i64 (1 : Int) (k : Int)) = ((whyN ns l L k i + 2 ^ k : Nat) : Int) := by
          have hlt := whyN_lt ns l L k i
          have h64 : 2 ^ k ≤ 64 := by have := Nat.pow_le_pow_right (n := 2) (by decide) (by omega : k ≤ 6); simpa using this
          exact borK ⟨k, hk'⟩ ⟨whyN ns l L k i, by omega⟩ hlt
        obtain ⟨w16, r16, h16⟩ := Sx.St.stRow (j := i) (v := .int .i64 ((whyN ns l L k i + 2 ^ k : Nat) : Int)) h15d (i := 1) rfl (iS _) (by omega) rfl
        rw [midV_set _ _ _ _ _ hil hiP] at h16
        have h16 : In (P ++ [i]) (n' - 1) (some (bktW l k i)) w16 := h16
        refine ⟨_, rfl, fun w' => In (P ++ [i]) (n' - 1) (some (bktW l k i)) w', ⟨fun _ => ⟨In P (n' - 1) (some (bktW l k i)), h15d, g4, 0, rfl, by omega, by omega, by omega, ((whyN ns l L k i : Nat) : Int), fun w' hw => ?_, g4, 0, rfl, by omega, by omega, w16, ?_, h16⟩, fun h => (by cases h)⟩, fun w17 h17 => ⟨⟨p + 1, P ++ [i], n' - 1, some (bktW l k i), wrap_succ hp' (by omega), by omega, by omega, ?_, fun q hq => ?_, h17⟩, mu_succ hp' (by omega)⟩⟩
        · have hrd : Rd w' (some ⟨g4, 0, none⟩) j j 1 (iv (midV ns l L P k)) := Sx.St.rd hw (i := 1) rfl
          obtain ⟨b3, o3, hab3, hc3⟩ := hrd.cells.at_ hvi
          simp only [Option.some.injEq, Addr.mk.injEq] at hab3
          obtain ⟨rfl, rfl, _⟩ := hab3
          rw [Int.toNat_natCast, Nat.mul_one]
          exact ld1 (iA _) hc3
        · rw [hor, Int.toNat_natCast, Nat.mul_one, Nat.zero_add]; exact r16
        · rw [hpick, hdrop, pickP, if_neg hc, List.append_assoc]; rfl
        · rcases List.mem_append.1 hq with hq | hq
          · exact (List.take_sublist_take_left (by omega : p ≤ p + 1)).subset (hPm q hq)
          · rw [List.mem_singleton] at hq
            rw [hq, List.take_add_one, hi]; simp
    · have hp' : p = j := by simp at hge; omega
      subst hp'
      rw [List.drop_of_length_le (by omega), pickP, List.append_nil] at hpick
      refine ⟨⟨k + 1, wrap_succ hk' (by omega), by omega, L, fun _ => hL, ?_⟩, mu_succ hk' (by omega)⟩
      have h13 : Out (midV ns l L P k) w12 := Sx.St.sub h12 (by simp)
      rw [← hpick, midV_all] at h13
      exact h13
  · have hk' : k = 6 := by simp at hge; omega
    subst hk'
    exact ⟨_, _, _, outV ns l L0 6, rfl, Sx.St.chg h9, Sx.St.rd h9 (i := 1) rfl, fun h => absurd rfl h, fun _ => ⟨rfl, L0, hL0 (by decide), rfl⟩⟩

end Go.Proofs.Ytdcgapabphjgbaa
