/- The document's Why and Gone walked (conditions: none). -/
import Derived.Test.YtdcgapabphjgbaaPruJ
namespace Go.Proofs.Ytdcgapabphjgbaa
open Go Sx
set_option maxRecDepth 8000

theorem rdU {w : World} {a : Option Addr} {n c : Nat} {cs : List Value} (h : Rd w a n c 1 cs) {i : Nat} {v : Value} (hv : cs[i]? = some v) : ∃ b o, a = some ⟨b, o, none⟩ ∧ ∀ w', Rd w' a n c 1 cs → w'.cell? ⟨b, o + i, none⟩ = some v := by
  obtain ⟨b, o, hab, _⟩ := h.cells.at_ hv
  refine ⟨b, o, hab, fun w' h' => ?_⟩
  obtain ⟨b', o', hab', hc⟩ := h'.cells.at_ hv
  rw [hab] at hab'
  simp only [Option.some.injEq, Addr.mk.injEq] at hab'
  obtain ⟨rfl, rfl, _⟩ := hab'
  exact hc
theorem check_or (ns : List Int) : checkP ns = none ∨ checkP ns = some 23 := by
  unfold checkP
  split
  · exact .inr rfl
  · split
    · exact .inr rfl
    · exact .inl rfl

abbrev nI (l : List Nat) : List Value := iv (l.map fun i : Nat => (i : Int))
theorem nI_get {l : List Nat} {p i : Nat} (h : l[p]? = some i) : (nI l)[p]? = some (.int .i64 (i : Int)) := by rw [iv_get, List.getElem?_map, h]; rfl
theorem nI_snoc (l : List Nat) (i : Nat) : nI (l ++ [i]) = nI l ++ [.int .i64 (i : Int)] := by simp [iv]

set_option maxHeartbeats 4000000 in
theorem rwhy_spec (ns : List Int) (hn : ns.length = 6) (a : Option Addr) (n c : Nat) (l : List SnapD) (L : List Nat) (w : World) (hr : RdS w a n c l) (hb : n ≤ 1000000) (hL0 : errW ns l = none → NewOrd l L) :
    Calls Try.prog 11 #[.agg (iv ns).toArray, .slice a n c] w fun e w' => ∃ ra rn rc v, e = .returned (.tuple #[.slice ra rn rc, .int .i64 ((errW ns l).getD 0)]) ∧ Chg [] w w' ∧ Rd w' ra rn rc 1 (iv v) ∧ (errW ns l ≠ none → v = [] ∧ rn = 0) ∧ (errW ns l = none → rn = n ∧ v = outV ns l L 6) := by
  have hln := hr.num (by decide)
  have rnil : ∀ w', Rd w' none 0 0 1 (iv []) := fun w' => ⟨Cells.nil _ _, rfl, Nat.le_refl _, fun _ => rfl⟩
  apply amphoraref20_Why_vc
  obtain ⟨g2, w1, r1, k1⟩ := (St.start w).boxA (P := Try.prog) 23 (iv ns)
  have k1 : St w [] w1 [.arr g2 23 (iv ns)] := k1
  have ldP : ∀ {w' M}, St w [] w' (.arr g2 23 (iv ns) :: M) → (Instr.loadAt 23 (.pointer (some ⟨g2, 0, none⟩))).run Try.prog w' = .ok (.agg (iv ns).toArray) w' := fun h => h.ldA (i := 0) (l := iv ns) rfl (poA _) (poS _) (by simp [hn])
  refine ⟨g2, w1, r1, _, ldP k1, (rcheck_spec ns hn w1).mono ?_⟩
  rintro e w2 ⟨rfl, c2⟩
  have k2 := k1.same c2
  rcases check_or ns with hck | hck
  case inr =>
    have herr : errW ns l = some 23 := by unfold errW; rw [if_neg (by rw [hck]; simp), hck]
    rw [hck, herr]
    refine ⟨_, rfl, fun _ => ⟨none, 0, 0, [], rfl, k2.chg, rnil _, fun _ => ⟨rfl, rfl⟩, fun e => by cases e⟩, fun h => by simp at h⟩
  rw [hck]
  refine ⟨_, rfl, fun h => by simp at h, fun _ => ⟨fun i w' => ∃ j : Nat, i = (j : Int) ∧ j ≤ n ∧ (∀ s ∈ l.take j, offT s.time = false) ∧ St w [] w' [.arr g2 23 (iv ns)], fun i _ => n - i.toNat, ⟨0, rfl, Nat.zero_le _, by simp, k2⟩, ?_⟩⟩
  rintro i w3 ⟨j, rfl, hj, hok, k3⟩
  refine ⟨fun hlt => ?_, fun hge => ?_⟩
  · have hj' : j < n := by simp at hlt; omega
    have hs : l[j]? = some l[j] := List.getElem?_eq_getElem (by omega)
    obtain ⟨s, hse⟩ : ∃ s, l[j] = s := ⟨_, rfl⟩
    rw [hse] at hs
    obtain ⟨b, o, hab, hld⟩ := hr.fld (P := Try.prog) (by decide) iA (j := 1) hs (v := .int .i64 s.time) rfl
    refine ⟨b, o, hab, by omega, by omega, _, hld w3 (hr.keep0 k3.chg), (rbucket_spec 1 (by decide) (by decide) s.time w3).mono ?_⟩
    rintro e w4 ⟨rfl, c4⟩
    have k4 := k3.same c4
    cases hoff : offT s.time with
    | true =>
      have herr : errW ns l = some 24 := by
        unfold errW; rw [if_pos hck, if_pos]
        rw [List.any_eq_true]
        exact ⟨s, List.mem_of_getElem? hs, hoff⟩
      rw [herr]
      exact ⟨_, _, rfl, fun _ => ⟨none, 0, 0, [], rfl, k4.chg, rnil _, fun _ => ⟨rfl, rfl⟩, fun e => by cases e⟩, fun h => by simp at h⟩
    | false =>
      refine ⟨_, _, rfl, fun h => by simp at h, fun _ => ⟨⟨j + 1, wrap_succ hj' (by omega), by omega, ?_, k4⟩, mu_succ hj' (by omega)⟩⟩
      rw [List.take_add_one, hs]
      intro u hu
      rcases List.mem_append.1 hu with hu | hu
      · exact hok u hu
      · simp only [Option.toList_some, List.mem_singleton] at hu; rw [hu]; exact hoff
  have hj' : j = n := by simp at hge; omega
  subst hj'
  rw [List.take_of_length_le (by omega)] at hok
  have herr : errW ns l = none := by
    unfold errW; rw [if_pos hck, if_neg]
    rw [List.any_eq_true]
    rintro ⟨s, hs, he⟩
    rw [hok s hs] at he; cases he
  have hL := hL0 herr
  have hLlen := hL.len
  have hnod := hL.nodup
  rw [herr]
  obtain ⟨g4, w5, r5, k5⟩ := k3.mkN (kl := .i64) (kc := .i64) (c := (j : Int)) inT rfl (by omega) (by omega) (by omega)
  rw [Int.toNat_natCast] at r5 k5
  have e0 : List.replicate j (Value.int .i64 0) = iv (outV ns l L 0) := by
    apply List.ext_getElem?
    intro i
    by_cases hi : i < j
    · simp [iv, outV, whyN, hln, List.getElem?_range, hi]
    · rw [List.getElem?_eq_none (by simp; omega), List.getElem?_eq_none (by simp [outV]; omega)]
  rw [e0] at k5
  have k5 : St w [] w5 [.arr g2 23 (iv ns), .row 3 1 (.slice (some ⟨g4, 0, none⟩) j j) j (iv (outV ns l L 0))] := k5
  refine ⟨_, _, _, w5, r5, _, ldP k5, (numbers20_spec ns hn w5).mono ?_⟩
  rintro e w6 ⟨na, nc, rfl, q6⟩
  have k6 := Sx.St.callPart (M := [.arr g2 23 (iv ns), .row 3 1 (.slice (some ⟨g4, 0, none⟩) j j) j (iv (outV ns l L 0))]) (N := []) (by rw [List.append_nil]; exact k5) q6
  refine ⟨_, _, _, rfl, (rorder_spec w6 (hr.keep0 k6.chg) hL hb).mono ?_⟩
  rintro e w7 ⟨xa, xc, rfl, q7⟩
  have k7 := Sx.St.callPart (M := [.arr g2 23 (iv ns), .row 3 1 (.slice (some ⟨g4, 0, none⟩) j j) j (iv (outV ns l L 0)), .row 3 1 (.slice na 6 nc) 6 (iv ns)]) (N := []) (by rw [List.append_nil]; exact k6) q7
  let Hd : List Int → List Res := fun v => [.arr g2 23 (iv ns), .row 3 1 (.slice (some ⟨g4, 0, none⟩) j j) j (iv v), .row 3 1 (.slice na 6 nc) 6 (iv ns), .row 3 1 (.slice xa j xc) j (nI L)]
  have k7 : St w [] w7 (Hd (outV ns l L 0)) := k7
  refine ⟨_, _, _, rfl, fun x y w' => ∃ k : Nat, x = ((2 ^ k : Nat) : Int) ∧ y = (k : Int) ∧ k ≤ 6 ∧ St w [] w' (Hd (outV ns l L k)), fun _ y _ => 6 - y.toNat, ⟨0, rfl, rfl, by omega, k7⟩, ?_⟩
  rintro x y w8 ⟨k, rfl, rfl, hk, k8⟩
  refine ⟨fun hlt => ?_, fun hge => ?_⟩
  · have hk' : k < 6 := by simp at hlt; omega
    have hpow : 2 ^ k ≤ 32 := by have := Nat.pow_le_pow_right (n := 2) (by decide) (by omega : k ≤ 5); simpa using this
    have hz : ns[k]? = some ns[k] := List.getElem?_eq_getElem (by omega)
    obtain ⟨z, hze⟩ : ∃ z, ns[k] = z := ⟨_, rfl⟩
    rw [hze] at hz
    have hzb := num_pos hck hz
    have hN : (ns.getD k 0).toNat = z.toNat := by rw [List.getD_eq_getElem?_getD, hz]; rfl
    have fin : ∀ {P : List Nat} {w'} {X : List Res}, pickK ns l L k = P → St w [] w' (Hd (midV ns l L P k) ++ X) →
        (∃ k' : Nat, IntKind.wrap .i64 (2 * ((2 ^ k : Nat) : Int)) = ((2 ^ k' : Nat) : Int) ∧ IntKind.wrap .i64 ((k : Int) + 1) = (k' : Int) ∧ k' ≤ 6 ∧ St w [] w' (Hd (outV ns l L k'))) := fun {P w' X} hp h => by
      refine ⟨k + 1, ?_, wrap_succ hk' (by omega), by omega, ?_⟩
      · obtain ⟨u, hu⟩ : ∃ u : Nat, 2 ^ k = u := ⟨_, rfl⟩
        rw [Nat.pow_succ, hu, wrap_i64 (by omega) (by omega)]; omega
      · rw [← hp, midV_all] at h
        exact h.sub (by simp)
    refine ⟨fun ya yn yc q w' => ∃ (p : Nat) (P : List Nat), q = (p : Int) ∧ p ≤ j ∧ yn = P.length ∧ yn ≤ p ∧ pickK ns l L k = P ++ pickP (bktW l k) (z.toNat - P.length) (P.getLast?.map (bktW l k)) (L.drop p) ∧ (∀ i ∈ P, i ∈ L.take p) ∧ St w [] w' (Hd (midV ns l L P k) ++ [.row 3 1 (.slice ya yn yc) yn (nI P)]), fun _ _ _ q _ => j - q.toNat, ⟨0, [], rfl, Nat.zero_le _, rfl, Nat.le_refl _, by rw [pickK, hN]; simp, by simp, ?_⟩, ?_⟩
    · rw [midV_nil]; exact k8.addNil _ _
    rintro ya yn yc q w9 ⟨p, P, rfl, hp, hyn, hyp, hpick, hPm, k9⟩
    refine ⟨fun hlt2 => ?_, fun hge2 => ?_⟩
    · have hp' : p < j := by simp at hlt2; omega
      have hi : L[p]? = some L[p] := List.getElem?_eq_getElem (by omega)
      obtain ⟨i, hie⟩ : ∃ i, L[p] = i := ⟨_, rfl⟩
      have hdrop : L.drop p = i :: L.drop (p + 1) := by rw [← hie]; exact List.drop_eq_getElem_cons (by omega)
      rw [hie] at hi
      have hil : i < l.length := hL.lt (List.mem_of_getElem? hi)
      have hnot : i ∉ P := fun h => by
        have h1 := hPm i h
        obtain ⟨q, hq, hqe⟩ := List.getElem_of_mem h1
        rw [List.length_take] at hq
        rw [List.getElem_take] at hqe
        have := List.pairwise_iff_getElem.1 hnod q p (by omega) (by omega) (by omega)
        rw [hqe, hie] at this
        exact this rfl
      have hs := atS_get hil
      obtain ⟨s, hse⟩ : ∃ s, atS l i = s := ⟨_, rfl⟩
      rw [hse] at hs
      obtain ⟨bz, oz, habz, hcz⟩ := rdU (k9.rd (i := 2) rfl) (i := k) (v := .int .i64 z) (by rw [iv_get, hz]; rfl)
      obtain ⟨bo, oo, habo, hco⟩ := rdU (k9.rd (i := 3) rfl) (nI_get hi)
      obtain ⟨bt, ot, habt, ldt⟩ := hr.fld (P := Try.prog) (by decide) iA (j := 1) hs (v := .int .i64 s.time) rfl
      have ldO : ∀ {w'} {v : List Int} {X : List Res}, St w [] w' (Hd v ++ X) → (Instr.loadAt 3 (.pointer (some ⟨bo, oo + Int.toNat (p : Int) * 1, none⟩))).run Try.prog w' = .ok (.int .i64 (i : Int)) w' := fun h => by
        rw [Int.toNat_natCast, Nat.mul_one]; exact ld1 (iA _) (hco _ (h.rd (i := 3) rfl))
      refine ⟨bz, oz, habz, by omega, by omega, _, by rw [Int.toNat_natCast, Nat.mul_one]; exact ld1 (iA _) (hcz _ (k9.rd (i := 2) rfl)), fun hfull => ?_, fun hroom => ?_⟩
      · have h0 : z.toNat - P.length = 0 := by simp at hfull; omega
        rw [h0, pick_zero, List.append_nil] at hpick
        exact ⟨fin hpick k9, mu_succ hk' (by omega)⟩
      have hne0 : z.toNat - P.length ≠ 0 := by simp at hroom; omega
      refine ⟨fun w' => P.getLast?.map (bktW l k) ≠ some (bktW l k i) ∧ St w [] w' (Hd (midV ns l L P k) ++ [.row 3 1 (.slice ya yn yc) yn (nI P)]), ⟨fun hc => ?_, fun hc => ⟨?_, k9⟩⟩, ?_⟩
      · rw [Bool.and_eq_true] at hc
        have hk1 : 1 ≤ k := by have := hc.1; simp at this; omega
        have hy1 : 1 ≤ yn := by have := hc.2; simp at this; omega
        have hlast : P[yn - 1]? = some P[yn - 1] := List.getElem?_eq_getElem (by omega)
        obtain ⟨m, hme⟩ : ∃ m, P[yn - 1] = m := ⟨_, rfl⟩
        rw [hme] at hlast
        have hgl : P.getLast? = some m := by rw [List.getLast?_eq_getElem?, ← hyn]; exact hlast
        have hml : m < l.length := hL.lt (List.mem_of_mem_take (hPm m (List.mem_of_getElem? hlast)))
        have hs2 := atS_get hml
        obtain ⟨t, hte⟩ : ∃ t, atS l m = t := ⟨_, rfl⟩
        rw [hte] at hs2
        have hw : IntKind.wrap .i64 ((yn : Int) - 1) = ((yn - 1 : Nat) : Int) := by rw [wrap_i64 (by omega) (by omega)]; omega
        obtain ⟨bk, ok, habk, hck2⟩ := rdU (k9.rd (i := 4) rfl) (nI_get hlast)
        obtain ⟨bu, ou, habu, ldu⟩ := hr.fld (P := Try.prog) (by decide) iA (j := 1) hs2 (v := .int .i64 t.time) rfl
        refine ⟨bk, ok, habk, by rw [hw]; omega, by rw [hw]; omega, _, by rw [hw, Int.toNat_natCast, Nat.mul_one]; exact ld1 (iA _) (hck2 _ (k9.rd (i := 4) rfl)), bu, ou, habu, by omega, by omega, _, ldu w9 (hr.keep0 k9.chg), (rbucket_spec k hk1 (by omega) t.time w9).mono ?_⟩
        rintro e w10 ⟨rfl, c10⟩
        have k10 := k9.same c10
        refine ⟨_, _, rfl, bo, oo, habo, by omega, by omega, _, ldO k10, bt, ot, habt, by omega, by omega, _, ldt w10 (hr.keep0 k10.chg), (rbucket_spec k hk1 (by omega) s.time w10).mono ?_⟩
        rintro e w11 ⟨rfl, c11⟩
        have k11 := k10.same c11
        have hbm : bktW l k m = buckW k t.time := by simp only [bktW, if_neg (by omega : ¬ k = 0), hs2, Option.elim_some]
        have hbi : bktW l k i = buckW k s.time := by simp only [bktW, if_neg (by omega : ¬ k = 0), hs, Option.elim_some]
        refine ⟨_, _, rfl, fun he => ⟨⟨p + 1, P, wrap_succ hp' (by omega), by omega, hyn, by omega, ?_, fun q hq => (List.take_sublist_take_left (by omega : p ≤ p + 1)).subset (hPm q hq), k11⟩, mu_succ hp' (by omega)⟩, fun he => ⟨?_, k11⟩⟩
        · have he' : buckW k t.time = buckW k s.time := by simpa using he
          rw [hpick, hdrop, pickP, if_pos (.inr (by rw [hgl, Option.map_some, hbm, hbi, he']))]
        · have he' : ¬ buckW k t.time = buckW k s.time := by simpa using he
          rw [hgl, Option.map_some, hbm, hbi]
          exact fun h => he' (Option.some.inj h)
      · rw [Bool.and_eq_false_iff] at hc
        cases hgl : P.getLast? with
        | none => simp
        | some m =>
          have hmP : m ∈ P := List.mem_of_getLast? hgl
          have hk0 : k = 0 := by
            rcases hc with hc | hc
            · simp at hc; omega
            · exfalso
              have : P = [] := List.eq_nil_of_length_eq_zero (by simp at hc; omega)
              rw [this] at hmP; cases hmP
          subst hk0
          rw [Option.map_some]
          intro h
          have : (m : Int) = (i : Int) := by simpa [bktW] using h
          have : m = i := by omega
          subst this
          exact hnot hmP
      rintro w12 ⟨hneq, k12⟩
      obtain ⟨g3, w13, va, vc, w14, r13, r14, k14, _, _⟩ := k12.pushV (i := 4) (ty := 32) inT rfl (.int .i64 (i : Int)) rfl (by omega) (by simp only [maxLen]; omega)
      have k14 : St w [] w14 (Hd (midV ns l L P k) ++ [.row 3 1 (.slice va (yn + 1) vc) (yn + 1) (nI P ++ [.int .i64 (i : Int)])]) := k14
      rw [← nI_snoc] at k14
      have k14d := k14.drew
      have hvi : (iv (midV ns l L P k))[i]? = some (.int .i64 ((whyN ns l L k i : Nat) : Int)) := by rw [iv_get, midV_get _ _ _ _ _ hil]; simp [hnot]
      have hwl := whyN_lt ns l L k i
      obtain ⟨w15, r15, k15⟩ := k14d.stRow (j := i) (v := .int .i64 ((whyN ns l L k i + 2 ^ k : Nat) : Int)) (i := 1) rfl (iS _) (by omega) rfl
      rw [midV_set _ _ _ _ _ hil hnot] at k15
      have k15 : St w [] w15 (Hd (midV ns l L (P ++ [i]) k) ++ [.row 3 1 (.slice va (yn + 1) vc) (yn + 1) (nI (P ++ [i]))]) := k15
      have hadd : IntKind.wrap .i64 (((whyN ns l L k i : Nat) : Int) + ((2 ^ k : Nat) : Int)) = ((whyN ns l L k i + 2 ^ k : Nat) : Int) := by rw [wrap_i64 (by omega) (by omega)]; omega
      obtain ⟨bw, ow, habw, hcw⟩ := rdU (k14d.rd (i := 1) rfl) hvi
      simp only [Option.some.injEq, Addr.mk.injEq, and_true] at habw
      obtain ⟨rfl, rfl⟩ := habw
      refine ⟨bo, oo, habo, by omega, by omega, _, ldO k12, _, _, _, w13, r13, _, _, _, w14, r14, fun w' => St w [] w' (Hd (midV ns l L P k) ++ [.row 3 1 (.slice va (yn + 1) vc) (yn + 1) (nI (P ++ [i]))]), k14d, bo, oo, habo, by omega, by omega, bo, oo, habo, by omega, by omega, _, fun w' h => ldO h, _, fun w' h => ldO h, g4, 0, rfl, by omega, by omega, _, fun w' h => by rw [Int.toNat_natCast, Nat.mul_one]; exact ld1 (iA _) (hcw _ (h.rd (i := 1) rfl)), g4, 0, rfl, by omega, by omega, w15, by rw [hadd, Int.toNat_natCast, Nat.mul_one, Nat.zero_add]; exact r15, ⟨p + 1, P ++ [i], wrap_succ hp' (by omega), by omega, by simp [hyn], by omega, ?_, fun q hq => ?_, k15⟩, mu_succ hp' (by omega)⟩
      · rw [hpick, hdrop, pickP, if_neg (by rintro (h | h); exact hne0 h; exact hneq h), List.append_assoc]
        simp [Nat.sub_sub]
      · rcases List.mem_append.1 hq with hq | hq
        · exact (List.take_sublist_take_left (by omega : p ≤ p + 1)).subset (hPm q hq)
        · rw [List.mem_singleton] at hq
          rw [hq, List.take_add_one, hi]; simp
    · have hp' : p = j := by simp at hge2; omega
      subst hp'
      rw [List.drop_of_length_le (by omega), pickP, List.append_nil] at hpick
      exact ⟨fin hpick k9, mu_succ hk' (by omega)⟩
  · have hk' : k = 6 := by simp at hge; omega
    subst hk'
    exact ⟨_, _, _, outV ns l L 6, rfl, k8.chg, k8.rd (i := 1) rfl, fun h => absurd rfl h, fun _ => ⟨rfl, rfl⟩⟩

/-! ### a name more -/
def insL (s : List UInt8) : List (List UInt8) → List (List UInt8)
  | [] => [s]
  | x :: r => if lexLt s x then s :: x :: r else x :: insL s r
theorem insL_perm (s : List UInt8) : ∀ v, (insL s v).Perm (s :: v)
  | [] => List.Perm.refl _
  | x :: r => by
    rw [insL]
    split
    · exact List.Perm.refl _
    · exact ((insL_perm s r).cons x).trans (List.Perm.swap s x r)
theorem insL_sorted (s : List UInt8) : ∀ v, SortedS v → SortedS (insL s v)
  | [], _ => by simp [SortedS, insL]
  | x :: r, h => by
    unfold SortedS at h
    rw [List.pairwise_cons] at h
    rw [insL]
    split
    · rename_i hs
      refine List.Pairwise.cons (fun y hy => ?_) (List.Pairwise.cons h.1 h.2)
      rcases List.mem_cons.1 hy with rfl | hy
      · exact lex_asymm hs
      · cases hc : lexLt y s with
        | false => rfl
        | true => have := h.1 y hy; rw [lex_trans _ _ _ hc hs] at this; cases this
    · rename_i hs
      refine List.Pairwise.cons (fun y hy => ?_) (insL_sorted s r h.2)
      rcases List.mem_cons.1 ((insL_perm s r).mem_iff.1 hy) with rfl | hy
      · simpa using hs
      · exact h.1 y hy
theorem insL_app (s : List UInt8) : ∀ (u v : List (List UInt8)), insL s (u ++ v) = if (u.any fun x => lexLt s x) then insL s u ++ v else u ++ insL s v
  | [], v => by simp
  | x :: u, v => by
    have ih := insL_app s u v
    rw [List.cons_append, insL, List.any_cons, insL]
    cases h : lexLt s x with
    | true => simp
    | false =>
      simp only [Bool.false_eq_true, if_false, Bool.false_or]
      rw [ih]
      split <;> simp

theorem rwith_spec (a : Option Addr) (n c : Nat) (v : List (List UInt8)) (s : List UInt8) (w : World) (hr : Rd w a n c 1 (v.map strV)) (hb : n ≤ 1000000) :
    Calls Try.prog 31 #[.slice a n c, .string ⟨s.toArray⟩] w fun e w' => ∃ ra rc, e = .returned (.slice ra (n + 1) rc) ∧ Chg [] w w' ∧ Rd w' ra (n + 1) rc 1 ((insL s v).map strV) := by
  have hln : v.length = n := by have := hr.len; simpa using this
  apply amphoraref20_with_vc
  refine ⟨fun xa xn xc d i w' => ∃ j : Nat, i = (j : Int) ∧ j ≤ n ∧ d = ((v.take j).any fun x => lexLt s x) ∧ xn = (if d then j + 1 else j) ∧ St w [] w' [.row 9 1 (.slice xa xn xc) xn ((if d then insL s (v.take j) else v.take j).map strV)], fun _ _ _ _ i _ => n - i.toNat, ⟨0, rfl, Nat.zero_le _, by simp, rfl, by simpa using (St.start w).addNil 9 1⟩, ?_⟩
  rintro xa xn xc d i w1 ⟨j, rfl, hj, hd, hxn, k1⟩
  have hxb : xn ≤ j + 1 := by rw [hxn]; split <;> omega
  refine ⟨fun hlt => ?_, fun hge => ?_⟩
  · have hj' : j < n := by simp at hlt; omega
    have hx : v[j]? = some v[j] := List.getElem?_eq_getElem (by omega)
    obtain ⟨x, hxe⟩ : ∃ x, v[j] = x := ⟨_, rfl⟩
    rw [hxe] at hx
    have htk : v.take (j + 1) = v.take j ++ [x] := by rw [List.take_add_one, hx]; rfl
    have hany : ((v.take (j + 1)).any fun x => lexLt s x) = (d || lexLt s x) := by rw [htk, List.any_append, ← hd]; simp
    obtain ⟨b, o, hab, hcell⟩ := rdU hr (i := j) (v := strV x) (by rw [List.getElem?_map, hx]; rfl)
    have ldx : ∀ {w'}, Chg [] w w' → (Instr.loadAt 9 (.pointer (some ⟨b, o + Int.toNat (j : Int) * 1, none⟩))).run Try.prog w' = .ok (strV x) w' := fun hc => by rw [Int.toNat_natCast, Nat.mul_one]; exact ld1 (stA_ _) (hcell _ (hr.keep0 hc))
    refine ⟨fun y w' => y = (!d && lexLt s x) ∧ w' = w1, ⟨fun h => ⟨b, o, hab, by omega, by omega, _, ldx k1.chg, _, lssS s x _ _ w1, by rw [h]; rfl, rfl⟩, fun h => ⟨by rw [h]; rfl, rfl⟩⟩, ?_⟩
    rintro y w2 ⟨rfl, rfl⟩
    refine ⟨fun ya yn yc d' w' => d' = (d || lexLt s x) ∧ yn = (if d' then j + 1 else j) ∧ St w [] w' [.row 9 1 (.slice ya yn yc) yn ((if d' then (if d then insL s (v.take j) else v.take j ++ [s]) else v.take j).map strV)], ⟨fun h => ?_, fun h => ⟨?_, ?_, ?_⟩⟩, ?_⟩
    · rw [Bool.and_eq_true, Bool.not_eq_true'] at h
      obtain ⟨hd0, hlt1⟩ := h
      rw [hd0] at hxn k1
      simp only [Bool.false_eq_true, if_false] at hxn k1
      obtain ⟨g3, w3, va, vc, w4, r3, r4, k4, _, _⟩ := k1.pushV (i := 0) (ty := 39) stT rfl (strV s) rfl (by omega) (by simp only [maxLen]; omega)
      refine ⟨_, _, _, w3, r3, _, _, _, w4, r4, by rw [hd0, hlt1]; rfl, by rw [if_pos rfl]; omega, ?_⟩
      rw [if_pos rfl, hd0]
      simpa using k4
    · cases hd2 : d with
      | true => rfl
      | false => rw [hd2] at h; simpa using h.symm
    · exact hxn
    · cases hd2 : d with
      | true => rw [hd2] at k1; simpa using k1
      | false => rw [hd2] at k1; simpa using k1
    rintro ya yn yc d' w5 ⟨hd', hyn, k5⟩
    have hyb : yn ≤ j + 1 := by rw [hyn]; split <;> omega
    obtain ⟨g6, w6, va, vc, w7, r6, r7, k7, _, _⟩ := k5.pushV (i := 0) (ty := 39) stT rfl (strV x) rfl (by omega) (by simp only [maxLen]; omega)
    refine ⟨b, o, hab, by omega, by omega, _, ldx k5.chg, _, _, _, w6, r6, _, _, _, w7, r7, ⟨j + 1, wrap_succ hj' (by omega), by omega, by rw [hany, hd'], by rw [hyn]; split <;> omega, ?_⟩, mu_succ hj' (by omega)⟩
    have e1 : (if d' then insL s (v.take (j + 1)) else v.take (j + 1)) = (if d' then (if d then insL s (v.take j) else v.take j ++ [s]) else v.take j) ++ [x] := by
      rw [htk, insL_app, ← hd]
      cases d with
      | true => have : d' = true := by rw [hd']; rfl
                rw [this]; simp
      | false =>
        cases hlx : lexLt s x with
        | true => have : d' = true := by rw [hd', hlx]; rfl
                  rw [this]; simp [insL, hlx]
        | false => have : d' = false := by rw [hd', hlx]; rfl
                   rw [this]; simp
    rw [e1, List.map_append]
    exact k7
  · have hj' : j = n := by simp at hge; omega
    subst hj'
    rw [List.take_of_length_le (by omega)] at hd k1
    have hins : insL s v = if d then insL s v else v ++ [s] := by
      have := insL_app s v []
      rw [List.append_nil, List.append_nil, ← hd] at this
      rw [this]
      cases d <;> simp [insL]
    refine ⟨fun ya yn yc w' => yn = j + 1 ∧ St w [] w' [.row 9 1 (.slice ya yn yc) yn ((insL s v).map strV)], ⟨fun h => ?_, fun h => ⟨?_, ?_⟩⟩, ?_⟩
    · have hd0 : d = false := by simpa using h
      rw [hd0] at hxn k1 hins
      simp only [Bool.false_eq_true, if_false] at hxn k1 hins
      obtain ⟨g3, w3, va, vc, w4, r3, r4, k4, _, _⟩ := k1.pushV (i := 0) (ty := 39) stT rfl (strV s) rfl (by omega) (by simp only [maxLen]; omega)
      refine ⟨_, _, _, w3, r3, _, _, _, w4, r4, by omega, ?_⟩
      rw [hins]
      simpa using k4
    · have hd1 : d = true := by simpa using h
      rw [hd1] at hxn; simpa using hxn
    · have hd1 : d = true := by simpa using h
      rw [hd1] at k1; simpa using k1
    rintro ya yn yc w5 ⟨rfl, k5⟩
    exact ⟨_, _, rfl, k5.chg, k5.rd (i := 0) rfl⟩

/-! ### Gone -/
theorem rgone_spec (ns : List Int) (hn : ns.length = 6) (a : Option Addr) (n c : Nat) (l : List SnapD) (L : List Nat) (w : World) (hr : RdS w a n c l) (hb : n ≤ 1000000) (hL0 : errW ns l = none → NewOrd l L) :
    Calls Try.prog 13 #[.agg (iv ns).toArray, .slice a n c] w fun e w' => ∃ ra rn rc v, e = .returned (.tuple #[.slice ra rn rc, .int .i64 ((errW ns l).getD 0)]) ∧ Chg [] w w' ∧ Rd w' ra rn rc 1 (v.map strV) ∧ (errW ns l ≠ none → v = [] ∧ rn = 0) ∧ (errW ns l = none → v.Perm (goneN ns l L n) ∧ SortedS v) := by
  have hln := hr.num (by decide)
  apply amphoraref20_Gone_vc
  obtain ⟨g2, w1, r1, k1⟩ := (St.start w).boxA (P := Try.prog) 23 (iv ns)
  have k1 : St w [] w1 [.arr g2 23 (iv ns)] := k1
  refine ⟨g2, w1, r1, _, k1.ldA (i := 0) (l := iv ns) rfl (poA _) (poS _) (by simp [hn]), (rwhy_spec ns hn a n c l L w1 (hr.keep0 k1.chg) hb hL0).mono ?_⟩
  rintro e w2 ⟨ra, rn, rc, v, rfl, c2, hv, _, hgood⟩
  have c02 := k1.chg.trans c2
  cases herr : errW ns l with
  | some x =>
    have hx : x ≠ 0 := by
      unfold errW at herr
      split at herr
      · split at herr
        · cases herr; decide
        · cases herr
      · rcases check_or ns with h | h
        · rw [h] at herr; cases herr
        · rw [h] at herr; cases herr; decide
    refine ⟨_, _, _, _, rfl, fun _ => ⟨none, 0, 0, [], rfl, c02, ⟨Cells.nil _ _, rfl, Nat.le_refl _, fun _ => rfl⟩, fun _ => ⟨rfl, rfl⟩, fun e => by cases e⟩, fun h => ?_⟩
    exfalso; simp at h; exact hx h
  | none =>
  obtain ⟨rfl, rfl⟩ := hgood herr
  refine ⟨_, _, _, _, rfl, fun h => by simp at h, fun _ => ⟨fun xa xn xc i w' => ∃ (j : Nat) (u : List (List UInt8)), i = (j : Int) ∧ j ≤ rn ∧ xn ≤ j ∧ Rd w' xa xn xc 1 (u.map strV) ∧ u.Perm (goneN ns l L j) ∧ SortedS u ∧ Chg [] w2 w', fun _ _ _ i _ => rn - i.toNat, ⟨0, [], rfl, Nat.zero_le _, Nat.le_refl _, ⟨Cells.nil _ _, rfl, Nat.le_refl _, fun _ => rfl⟩, List.Perm.refl _, List.Pairwise.nil, Chg.refl _ _⟩, ?_⟩⟩
  rintro xa xn xc i w3 ⟨j, u, rfl, hj, hxj, hu, hperm, hsort, c3⟩
  refine ⟨fun hlt => ?_, fun hge => ?_⟩
  · have hj' : j < rn := by simp at hlt; omega
    have hs := atS_get (l := l) (i := j) (by omega)
    obtain ⟨s, hse⟩ : ∃ s, atS l j = s := ⟨_, rfl⟩
    rw [hse] at hs
    obtain ⟨b, o, hab, hcell⟩ := (hv.keep0 c3).cells.at_ (i := j) (v := .int .i64 ((whyN ns l L 6 j : Nat) : Int)) (by rw [iv_get, outV_get _ _ _ _ (by omega)]; rfl)
    have hg1 : goneN ns l L (j + 1) = goneN ns l L j ++ if keptB ns l L j then [] else [s.name] := by
      unfold goneN
      rw [List.range_succ, List.filter_append, List.map_append]
      cases hk : keptB ns l L j <;> simp [nameAt, hs, hk]
    have hkb : (((whyN ns l L 6 j : Nat) : Int) == (0 : Int)) = !keptB ns l L j := by
      unfold keptB
      by_cases h : whyN ns l L 6 j = 0
      · simp [h]
      · have : ¬ ((whyN ns l L 6 j : Nat) : Int) = 0 := by omega
        simp [h, this]
    have hul : u.length = xn := by have := hu.len; simpa using this
    refine ⟨b, o, hab, by omega, by omega, _, by rw [Int.toNat_natCast, Nat.mul_one]; exact ld1 (iA _) hcell, ?_⟩
    rw [hkb]
    refine ⟨fun ya yn yc w' => ∃ u', yn ≤ j + 1 ∧ Rd w' ya yn yc 1 (u'.map strV) ∧ u'.Perm (goneN ns l L (j + 1)) ∧ SortedS u' ∧ Chg [] w2 w', ⟨fun hk => ?_, fun hk => ⟨u, by omega, hu, ?_, hsort, c3⟩⟩, ?_⟩
    · have hk : keptB ns l L j = false := by simpa using hk
      obtain ⟨b2, o2, hab2, ld2⟩ := hr.fld (P := Try.prog) (by decide) stA_ (j := 0) hs (v := strV s.name) rfl
      refine ⟨b2, o2, hab2, by omega, by omega, _, ld2 w3 (hr.keep0 (c02.trans c3)), (rwith_spec xa xn xc u s.name w3 hu (by omega)).mono ?_⟩
      rintro e w4 ⟨qa, qc, rfl, c4, hq⟩
      refine ⟨_, _, _, rfl, insL s.name u, by omega, hq, ?_, insL_sorted _ _ hsort, c3.trans c4⟩
      rw [hg1, hk]
      exact (insL_perm _ _).trans ((hperm.cons _).trans (List.perm_append_singleton _ _).symm)
    · have hk : keptB ns l L j = true := by simpa using hk
      rw [hg1, hk]; simpa using hperm
    · rintro ya yn yc w5 ⟨u', hyn, hu', hp', hs', c5⟩
      exact ⟨⟨j + 1, u', wrap_succ hj' (by omega), by omega, hyn, hu', hp', hs', c5⟩, mu_succ hj' (by omega)⟩
  · have hj' : j = rn := by simp at hge; omega
    subst hj'
    exact ⟨_, _, _, u, rfl, c02.trans c3, hu, fun h => absurd rfl h, fun _ => ⟨hperm, hsort⟩⟩

end Go.Proofs.Ytdcgapabphjgbaa
