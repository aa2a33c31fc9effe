/- The document's answer for chapter 20 walked (conditions: none). -/
import Derived.Test.YtdcgapabphjgbaaPruI
import Derived.Test.YtdcgapabphjgbaaCivD
import Derived.Test.YtdcgapabphjgbaaSnapEq
namespace Go.Proofs.Ytdcgapabphjgbaa
open Go Sx
set_option maxRecDepth 8000

/-! ### Check -/
theorem pos_sum : ∀ (l : List Int), (∀ z ∈ l, badN z = false) → ((l.any fun z => decide (z > 0)) = true ↔ l.sum ≠ 0)
  | [], _ => by simp
  | z :: r, h => by
    have h1 := h z (by simp)
    have h2 := pos_sum r fun z hz => h z (by simp [hz])
    have h3 := (sum_bound r fun z hz => h z (by simp [hz])).1
    simp only [badN, Bool.or_eq_false_iff, decide_eq_false_iff_not] at h1
    rw [List.any_cons, Bool.or_eq_true, h2, List.sum_cons, decide_eq_true_eq]
    omega
theorem rcheck_spec (ns : List Int) (hn : ns.length = 6) (w : World) : Calls Try.prog 19 #[.agg (iv ns).toArray] w fun e w' => e = .returned (.int .i64 ((checkP ns).getD 0)) ∧ Chg [] w w' := by
  apply amphoraref20_Check_vc
  obtain ⟨g1, w1, r1, k1⟩ := (St.start w).boxA (P := Try.prog) 23 (iv ns)
  have k1 : St w [] w1 [.arr g1 23 (iv ns)] := k1
  refine ⟨g1, w1, r1, _, k1.ldA (i := 0) (l := iv ns) rfl (poA _) (poS _) (by simp [hn]), (numbers20_spec ns hn w1).mono ?_⟩
  rintro e w2 ⟨na, nc, rfl, k2⟩
  have hnr := k2.rd (i := 0) rfl
  have c2 := k1.chg.trans k2.chg
  refine ⟨_, _, _, rfl, fun b i w' => ∃ j : Nat, i = (j : Int) ∧ j ≤ 6 ∧ b = ((ns.take j).any fun z => decide (z > 0)) ∧ (∀ z ∈ ns.take j, badN z = false) ∧ w' = w2, fun _ i _ => 6 - i.toNat, ⟨0, rfl, by omega, by simp, by simp, rfl⟩, ?_⟩
  rintro b i w3 ⟨j, rfl, hj, hb, hok, rfl⟩
  refine ⟨fun hlt => ?_, fun hge => ?_⟩
  · have hj' : j < 6 := by simp at hlt; omega
    have hz : ns[j]? = some ns[j] := List.getElem?_eq_getElem (by omega)
    obtain ⟨z, hze⟩ : ∃ z, ns[j] = z := ⟨_, rfl⟩
    rw [hze] at hz
    obtain ⟨bz, oz, habz, hcz⟩ := hnr.cells.at_ (i := j) (v := .int .i64 z) (by rw [iv_get, hz]; rfl)
    have hld : (Instr.loadAt 3 (.pointer (some ⟨bz, oz + Int.toNat (j : Int) * 1, none⟩))).run Try.prog w3 = .ok (.int .i64 z) w3 := by rw [Int.toNat_natCast, Nat.mul_one]; exact ld1 (iA _) hcz
    have e1 : ns.take (j + 1) = ns.take j ++ [z] := by rw [List.take_add_one, hz]; rfl
    refine ⟨fun x w' => x = badN z ∧ w' = w3, ⟨bz, oz, habz, by omega, by omega, _, hld, fun h => ⟨by unfold badN; rw [h]; rfl, rfl⟩, fun h => ⟨bz, oz, habz, by omega, by omega, _, hld, by unfold badN; rw [h]; rfl, rfl⟩⟩, ?_⟩
    rintro x w4 ⟨rfl, rfl⟩
    refine ⟨fun hbad => ⟨?_, c2⟩, fun hgood => ⟨fun y w' => y = ((ns.take (j + 1)).any fun z => decide (z > 0)) ∧ w' = w4, ⟨fun h => ⟨?_, rfl⟩, fun h => ⟨bz, oz, habz, by omega, by omega, _, hld, ?_, rfl⟩⟩, ?_⟩⟩
    · have : checkP ns = some 23 := by
        unfold checkP; rw [if_pos]
        rw [List.any_eq_true]
        exact ⟨z, List.mem_of_getElem? hz, hbad⟩
      rw [this]; rfl
    · rw [e1, List.any_append, ← hb, h]; rfl
    · rw [e1, List.any_append, ← hb, h]; simp
    · rintro y w5 ⟨rfl, rfl⟩
      refine ⟨⟨j + 1, wrap_succ hj' (by omega), by omega, rfl, ?_, rfl⟩, mu_succ hj' (by omega)⟩
      rw [e1]
      intro u hu
      rcases List.mem_append.1 hu with hu | hu
      · exact hok u hu
      · rw [List.mem_singleton] at hu; rw [hu]; exact hgood
  · have hj' : j = 6 := by simp at hge; omega
    subst hj'
    rw [List.take_of_length_le (by omega)] at hok hb
    have hna : ns.any badN = false := by
      rw [List.any_eq_false]
      intro z hz; rw [hok z hz]; simp
    have hps := pos_sum ns hok
    rw [← hb] at hps
    refine ⟨fun h0 => ⟨?_, c2⟩, fun h0 => ⟨?_, c2⟩⟩
    · have hs : ns.sum = 0 := by
        have hb0 : b = false := by simpa using h0
        by_cases e : ns.sum = 0
        · exact e
        · have := hps.2 e; rw [hb0] at this; cases this
      have : checkP ns = some 23 := by unfold checkP; rw [hna]; simp only [Bool.false_eq_true, if_false]; rw [if_pos hs]
      rw [this]; rfl
    · have hs : ns.sum ≠ 0 := hps.1 (by simpa using h0)
      have : checkP ns = none := by unfold checkP; rw [hna]; simp only [Bool.false_eq_true, if_false]; rw [if_neg hs]
      rw [this]; rfl

/-! ### the order -/
theorem rnewer_spec {l : List SnapD} {a : Option Addr} {n c : Nat} {x y : Nat} {s t : SnapD} (w : World) (hx : l[x]? = some s) (hy : l[y]? = some t) (hr : RdS w a n c l) :
    Calls Try.prog 44 #[.slice a n c, .int .i64 (x : Int), .int .i64 (y : Int)] w fun e w' => e = .returned (.bool (nwB s t x y)) ∧ Chg [] w w' := by
  have hln := hr.num (by decide)
  have hxl := (List.getElem?_eq_some_iff.1 hx).1
  have hyl := (List.getElem?_eq_some_iff.1 hy).1
  apply amphoraref20_newer_vc
  obtain ⟨b1, o1, ha1, ld1'⟩ := hr.fld (P := Try.prog) (by decide) iA (j := 1) hx (v := .int .i64 s.time) rfl
  obtain ⟨b2, o2, ha2, ld2⟩ := hr.fld (P := Try.prog) (by decide) iA (j := 1) hy (v := .int .i64 t.time) rfl
  obtain ⟨b3, o3, ha3, ld3⟩ := hr.fld (P := Try.prog) (by decide) stA_ (j := 0) hx (v := strV s.name) rfl
  obtain ⟨b4, o4, ha4, ld4⟩ := hr.fld (P := Try.prog) (by decide) stA_ (j := 0) hy (v := strV t.name) rfl
  have d1 : Chg [] w w.drew := Chg.drew _ _
  have d2 := d1.trans (Chg.drew [] w.drew)
  have d3 := d2.trans (Chg.drew [] w.drew.drew)
  refine ⟨fun w' => Chg [] w w', d1, b1, o1, ha1, by omega, by omega, b2, o2, ha2, by omega, by omega, _, fun w' hw => ld1' w' (hr.keep0 hw), _, fun w' hw => ld2 w' (hr.keep0 hw), fun h => ⟨fun w' => Chg [] w w', d2, b1, o1, ha1, by omega, by omega, b2, o2, ha2, by omega, by omega, _, fun w' hw => ld1' w' (hr.keep0 hw), _, fun w' hw => ld2 w' (hr.keep0 hw), ?_, d2⟩, fun h => ⟨fun w' => Chg [] w w', d2, b3, o3, ha3, by omega, by omega, b4, o4, ha4, by omega, by omega, _, fun w' hw => ld3 w' (hr.keep0 hw), _, fun w' hw => ld4 w' (hr.keep0 hw), fun h2 => ⟨fun w' => Chg [] w w', d3, b3, o3, ha3, by omega, by omega, b4, o4, ha4, by omega, by omega, _, fun w' hw => ld3 w' (hr.keep0 hw), _, fun w' hw => ld4 w' (hr.keep0 hw), _, fun w' _ => gtrS s.name t.name _ _ w', ?_, d3⟩, fun h2 => ⟨?_, d2⟩⟩⟩
  · have : ¬ s.time = t.time := by simpa using h
    simp [nwB, this]
  · have h1 : s.time = t.time := by simpa using h
    rw [strEq] at h2
    have h3 : ¬ s.name = t.name := by simpa using h2
    have h4 : ¬ t.time < s.time := by omega
    simp [nwB, h1, h3]
  · have h1 : s.time = t.time := by simpa using h
    rw [strEq] at h2
    have h3 : s.name = t.name := by simpa using h2
    have h4 : ¬ t.time < s.time := by omega
    simp [nwB, h1, h3, lex_irrefl]

/-- Who comes ahead of one. -/
def aheadB (l : List SnapD) (i j : Nat) : Bool := (j != i) && nwB (atS l j) (atS l i) j i
theorem aheadB_iff {l : List SnapD} {i j : Nat} (hi : i < l.length) (hj : j < l.length) (hne : j ≠ i) : aheadB l i j = true ↔ Newer l j i := by
  unfold aheadB
  rw [Bool.and_eq_true]
  constructor
  · rintro ⟨_, h⟩; exact ⟨_, _, atS_get hj, atS_get hi, h⟩
  · rintro ⟨s, t, h1, h2, h3⟩
    rw [atS_get hj] at h1
    rw [atS_get hi] at h2
    obtain rfl := Option.some.inj h1
    obtain rfl := Option.some.inj h2
    exact ⟨by simpa using hne, h3⟩
theorem ahead_count {l : List SnapD} {L A B : List Nat} {i : Nat} (hL : NewOrd l L) (he : L = A ++ i :: B) : ((List.range l.length).filter (aheadB l i)).length = A.length := by
  have h1 : ((List.range l.length).filter (aheadB l i)).Perm (L.filter (aheadB l i)) := (hL.perm.filter _).symm
  rw [h1.length_eq, he, List.filter_append]
  have hpw := hL.pw
  have hnd := hL.nodup
  rw [he] at hpw hnd
  obtain ⟨pA, pB, pAB⟩ := List.pairwise_append.1 hpw
  obtain ⟨nA, nB, nAB⟩ := List.nodup_append.1 hnd
  have hlt : ∀ j ∈ L, j < l.length := fun j hj => hL.lt hj
  have hi : i < l.length := hlt i (by rw [he]; simp)
  have e1 : A.filter (aheadB l i) = A := by
    rw [List.filter_eq_self]
    intro j hj
    have hne : j ≠ i := nAB j hj i (by simp)
    exact (aheadB_iff hi (hlt j (by rw [he]; simp [hj])) hne).2 (pAB j hj i (by simp))
  have e2 : (i :: B).filter (aheadB l i) = [] := by
    rw [List.filter_eq_nil_iff]
    intro j hj hb
    rcases List.mem_cons.1 hj with e | hjB
    · subst e; simp [aheadB] at hb
    · have hne : j ≠ i := fun e => (List.nodup_cons.1 nB).1 (e ▸ hjB)
      have := (aheadB_iff hi (hlt j (by rw [he]; simp [hjB])) hne).1 hb
      exact this.asymm ((List.pairwise_cons.1 pB).1 j hjB)
  rw [e1, e2, List.append_nil]
def placed (L : List Nat) (k : Nat) : List Int := L.map fun i => if i < k then (i : Int) else 0
theorem placed_all {L : List Nat} {k : Nat} (h : ∀ i ∈ L, i < k) : placed L k = L.map fun i : Nat => (i : Int) := List.map_congr_left fun i hi => by rw [if_pos (h i hi)]
theorem placed_set {L A B : List Nat} {i : Nat} (hn : L.Nodup) (he : L = A ++ i :: B) : (iv (placed L i)).set A.length (.int .i64 (i : Int)) = iv (placed L (i + 1)) := by
  rw [he] at hn
  obtain ⟨nA, nB, nAB⟩ := List.nodup_append.1 hn
  have e : ∀ M : List Nat, i ∉ M → placed M i = placed M (i + 1) := fun M hM => List.map_congr_left fun j hj => by
    have : j ≠ i := fun e => hM (e ▸ hj)
    by_cases h : j < i
    · rw [if_pos h, if_pos (by omega)]
    · rw [if_neg h, if_neg (by omega)]
  have hA : i ∉ A := fun h => nAB i h i (by simp) rfl
  have hB : i ∉ B := (List.nodup_cons.1 nB).1
  have e1 : placed L i = placed A i ++ 0 :: placed B i := by rw [he]; simp [placed]
  have e2 : placed L (i + 1) = placed A i ++ (i : Int) :: placed B i := by rw [he, e A hA, e B hB]; simp [placed]
  rw [e1, e2]
  simp [iv, placed, List.set_append_right]

theorem rorder_spec {l : List SnapD} {L : List Nat} {a : Option Addr} {n c : Nat} (w : World) (hr : RdS w a n c l) (hL : NewOrd l L) (hb : n ≤ 1000000) :
    Calls Try.prog 29 #[.slice a n c] w fun e w' => ∃ xa xc, e = .returned (.slice xa n xc) ∧ St w [] w' [.row 3 1 (.slice xa n xc) n (iv (L.map fun i : Nat => (i : Int)))] := by
  have hln := hr.num (by decide)
  have hLl := hL.len
  apply amphoraref20_Order_vc
  obtain ⟨g, w1, r1, k1⟩ := (St.start w).mkN (kl := .i64) (kc := .i64) (c := (n : Int)) inT rfl (by omega) (by omega) (by omega)
  rw [Int.toNat_natCast] at r1 k1
  have e0 : List.replicate n (Value.int .i64 0) = iv (placed L 0) := by
    apply List.ext_getElem?
    intro i
    by_cases hi : i < n
    · have : i < L.length := by omega
      simp [iv, placed, hi, this]
    · rw [List.getElem?_eq_none (by simp; omega), List.getElem?_eq_none (by simp [placed]; omega)]
  rw [e0] at k1
  have k1 : St w [] w1 [.row 3 1 (.slice (some ⟨g, 0, none⟩) n n) n (iv (placed L 0))] := k1
  refine ⟨_, _, _, w1, r1, fun x w' => ∃ i : Nat, x = (i : Int) ∧ i ≤ n ∧ St w [] w' [.row 3 1 (.slice (some ⟨g, 0, none⟩) n n) n (iv (placed L i))], fun x _ => n - x.toNat, ⟨0, rfl, Nat.zero_le _, k1⟩, ?_⟩
  rintro x w2 ⟨i, rfl, hi, k2⟩
  refine ⟨fun hlt => ?_, fun hge => ?_⟩
  · have hi' : i < n := by simp at hlt; omega
    have hmem : i ∈ L := hL.mem (by omega)
    obtain ⟨A, B, hAB⟩ := List.append_of_mem hmem
    refine ⟨fun x y w' => ∃ q : Nat, y = (q : Int) ∧ q ≤ n ∧ x = ((((List.range q).filter (aheadB l i)).length : Nat) : Int) ∧ St w [] w' [.row 3 1 (.slice (some ⟨g, 0, none⟩) n n) n (iv (placed L i))], fun _ y _ => n - y.toNat, ⟨0, rfl, Nat.zero_le _, rfl, k2⟩, ?_⟩
    rintro x y w3 ⟨q, rfl, hq, rfl, k3⟩
    have hle : ((List.range q).filter (aheadB l i)).length ≤ q := by
      have := List.length_filter_le (aheadB l i) (List.range q); simpa using this
    refine ⟨fun hlt2 => ?_, fun hge2 => ?_⟩
    · have hq' : q < n := by simp at hlt2; omega
      have hstep : ((List.range (q + 1)).filter (aheadB l i)).length = ((List.range q).filter (aheadB l i)).length + if aheadB l i q then 1 else 0 := by
        rw [List.range_succ, List.filter_append, List.length_append]
        cases h : aheadB l i q <;> simp [h]
      refine ⟨fun b w' => b = aheadB l i q ∧ St w [] w' [.row 3 1 (.slice (some ⟨g, 0, none⟩) n n) n (iv (placed L i))], ⟨fun h => (rnewer_spec w3 (atS_get (l := l) (by omega)) (atS_get (l := l) (by omega)) (hr.keep0 k3.chg)).mono ?_, fun h => ⟨?_, k3⟩⟩, ?_⟩
      · rintro e w4 ⟨rfl, c4⟩
        have hne : q ≠ i := by
          intro e; subst e; simp at h
        exact ⟨_, rfl, by simp [aheadB, hne], k3.same c4⟩
      · have : q = i := by simp at h; omega
        simp [aheadB, this]
      rintro b w5 ⟨rfl, k5⟩
      refine ⟨fun m w' => m = ((((List.range (q + 1)).filter (aheadB l i)).length : Nat) : Int) ∧ St w [] w' [.row 3 1 (.slice (some ⟨g, 0, none⟩) n n) n (iv (placed L i))], ⟨fun h => ⟨?_, k5⟩, fun h => ⟨?_, k5⟩⟩, ?_⟩
      · rw [hstep, h, wrap_i64 (by omega) (by omega)]; simp
      · rw [hstep, h]; simp
      rintro m w6 ⟨rfl, k6⟩
      exact ⟨⟨q + 1, wrap_succ hq' (by omega), by omega, rfl, k6⟩, mu_succ hq' (by omega)⟩
    · have hq' : q = n := by simp at hge2; omega
      subst hq'
      have hcnt := ahead_count hL hAB
      rw [hln] at hcnt
      rw [hcnt]
      have hAl : A.length < q := by rw [← hln, ← hLl, hAB]; simp
      obtain ⟨w7, r7, k7⟩ := k3.stRow (j := A.length) (v := .int .i64 (i : Int)) (i := 0) rfl (iS _) hAl rfl
      rw [placed_set hL.nodup hAB] at k7
      refine ⟨g, 0, rfl, by omega, by omega, w7, by rw [Int.toNat_natCast, Nat.mul_one, Nat.zero_add]; exact r7, ⟨i + 1, wrap_succ hi' (by omega), by omega, k7⟩, mu_succ hi' (by omega)⟩
  · have hi' : i = n := by simp at hge; omega
    subst hi'
    rw [placed_all (fun j hj => by have := hL.lt hj; omega)] at k2
    exact ⟨_, _, rfl, k2⟩

end Go.Proofs.Ytdcgapabphjgbaa
