/- The law PruneCounts (conditions: none). -/
import Derived.Test.YtdcgapabphjgbaaPruH
import Derived.Test.YtdcgapabphjgbaaCivB
import Derived.Test.YtdcgapabphjgbaaVref20
namespace Go.Proofs.Ytdcgapabphjgbaa
open Go Sx
set_option maxRecDepth 8000

theorem geqS (l m : List UInt8) (x y : Operand) (w : World) : (eqlS .geq 9 x y (.string ⟨l.toArray⟩) (.string ⟨m.toArray⟩)).run Try.prog w = .ok (.bool (!lexLt l m)) w := by
  have h3 : (eqGuard .geq 9 x y (.string ⟨l.toArray⟩) (.string ⟨m.toArray⟩)).run Try.prog w = .ok () w := rfl
  have h4 : binOp .geq 9 (.string ⟨l.toArray⟩) (.string ⟨m.toArray⟩) = pure (.bool (!lexLt l m)) := by
    have : binOp .geq 9 (.string ⟨l.toArray⟩) (.string ⟨m.toArray⟩) = pure (.bool (!Op.bytesLess (⟨l.toArray⟩ : ByteArray).toList (⟨m.toArray⟩ : ByteArray).toList)) := by simp [binOp, Op.stringOp]
    rw [this, strB, strB, less_lex]
  simp only [eqlS, Sem.run_bind, h3, Result.andThen_ok, h4, Sem.run_pure]

/-! ### the newest one -/
theorem Newer.trans {l : List SnapD} {i j k : Nat} (h : Newer l i j) (g : Newer l j k) : Newer l i k := by
  obtain ⟨s, t, h1, h2, h3⟩ := h
  obtain ⟨t', u, g1, g2, g3⟩ := g
  rw [h2] at g1
  obtain rfl := Option.some.inj g1
  exact ⟨s, u, h1, g2, nwB_trans h3 g3⟩
def newB (s t : SnapD) : Bool := decide (s.time > t.time) || (decide (s.time = t.time) && !lexLt s.name t.name)
structure Best (l : List SnapD) (p j : Nat) : Prop where
  z : j = 0 → p = 0
  lt : 0 < j → p < j
  all : ∀ q, q < j → q ≠ p → Newer l p q
theorem Best.step {l : List SnapD} {p j : Nat} {s t : SnapD} (h : Best l p j) (hs : l[j]? = some s) (ht : l[p]? = some t) : Best l (if newB s t then j else p) (j + 1) := by
  have hpj : p ≤ j := by
    rcases Nat.eq_zero_or_pos j with h0 | h0
    · have := h.z h0; omega
    · have := h.lt h0; omega
  refine ⟨fun e => by omega, fun _ => by split <;> omega, fun q hq hne => ?_⟩
  by_cases hb : newB s t = true
  · rw [if_pos hb] at hne ⊢
    have hqj : q < j := by omega
    have hp : p < j := h.lt (by omega)
    have hjp : Newer l j p := by
      refine ⟨s, t, hs, ht, ?_⟩
      rw [nwB_iff]
      simp only [newB, Bool.or_eq_true, Bool.and_eq_true, decide_eq_true_eq, Bool.not_eq_true'] at hb
      rcases hb with hb | ⟨hb, hl⟩
      · exact .inl hb
      · refine .inr ⟨hb, ?_⟩
        cases hc : lexLt t.name s.name with
        | true => exact .inl rfl
        | false => exact .inr ⟨lex_tri _ _ hl hc, hp⟩
    by_cases e : q = p
    · rw [e]; exact hjp
    · exact hjp.trans (h.all q hqj e)
  · rw [if_neg hb] at hne ⊢
    by_cases e : q = j
    · subst e
      refine ⟨t, s, ht, hs, ?_⟩
      have hb' : newB s t = false := by simpa using hb
      simp only [newB, Bool.or_eq_false_iff, Bool.and_eq_false_iff, decide_eq_false_iff_not, Bool.not_eq_false'] at hb'
      rw [nwB_iff]
      obtain ⟨h1, h2⟩ := hb'
      by_cases h3 : s.time < t.time
      · exact .inl h3
      · have h4 : s.time = t.time := by omega
        exact .inr ⟨h4.symm, .inl (h2.resolve_left (by simp [h4]))⟩
    · exact h.all q (by omega) hne
theorem Best.head {l : List SnapD} {p : Nat} {L : List Nat} (h : Best l p l.length) (hL : NewOrd l L) (h0 : 0 < l.length) : ∃ r, L = p :: r := by
  have hp := h.lt h0
  have hm := hL.mem hp
  match L, hm, hL with
  | x :: r, hm, hL =>
    by_cases e : x = p
    · exact ⟨r, by rw [e]⟩
    · have hpr : p ∈ r := by
        rcases List.mem_cons.1 hm with h1 | h1
        · exact absurd h1.symm e
        · exact h1
      have h1 := (List.pairwise_cons.1 hL.pw).1 p hpr
      exact absurd h1 (h.all x (hL.lt (by simp)) e).asymm
theorem some_pos {ns : List Int} (hn : ns.length = 6) (h : checkP ns = none) : ∃ k, k < 6 ∧ 0 < (ns.getD k 0).toNat := by
  obtain ⟨a, b, c, d, e, f, rfl⟩ : ∃ a b c d e f, ns = [a, b, c, d, e, f] := by
    match ns, hn with
    | [a, b, c, d, e, f], _ => exact ⟨a, b, c, d, e, f, rfl⟩
  have hb : ([a, b, c, d, e, f]).any badN = false := by
    cases hq : ([a, b, c, d, e, f]).any badN with
    | false => rfl
    | true => unfold checkP at h; rw [hq] at h; cases h
  have hs : ([a, b, c, d, e, f]).sum ≠ 0 := by
    intro e0
    unfold checkP at h; rw [hb, e0] at h; simp at h
  simp only [List.any_cons, List.any_nil, Bool.or_false, Bool.or_eq_false_iff, badN, decide_eq_false_iff_not] at hb
  simp at hs
  by_cases h0 : 0 < a
  · exact ⟨0, by omega, by simp; omega⟩
  by_cases h1 : 0 < b
  · exact ⟨1, by omega, by simp; omega⟩
  by_cases h2 : 0 < c
  · exact ⟨2, by omega, by simp; omega⟩
  by_cases h3 : 0 < d
  · exact ⟨3, by omega, by simp; omega⟩
  by_cases h4 : 0 < e
  · exact ⟨4, by omega, by simp; omega⟩
  by_cases h5 : 0 < f
  · exact ⟨5, by omega, by simp; omega⟩
  exfalso; omega
theorem num_pos {ns : List Int} {k : Nat} {z : Int} (h : checkP ns = none) (hz : ns[k]? = some z) : 0 ≤ z ∧ z ≤ 1048576 := by
  have hb : badN z = false := by
    cases hq : badN z with
    | false => rfl
    | true =>
      unfold checkP at h
      rw [if_pos (List.any_eq_true.2 ⟨z, List.mem_of_getElem? hz, hq⟩)] at h; cases h
  simp only [badN, Bool.or_eq_false_iff, decide_eq_false_iff_not] at hb
  omega

/-! ### counts -/
theorem errW_none {ns : List Int} {l : List SnapD} (h : errW ns l = none) : checkP ns = none ∧ ∀ s ∈ l, offT s.time = false := by
  unfold errW at h
  split at h
  · rename_i hc
    refine ⟨hc, fun s hs => ?_⟩
    cases ho : offT s.time with
    | false => rfl
    | true => rw [if_pos (List.any_eq_true.2 ⟨s, hs, ho⟩)] at h; cases h
  · rename_i hc; exact absurd h hc
theorem bkt_dec {l : List SnapD} {L : List Nat} (hoff : ∀ s ∈ l, offT s.time = false) (hL : NewOrd l L) {k : Nat} (h1 : 1 ≤ k) (h5 : k ≤ 5) : L.Pairwise fun i j => bktW l k j ≤ bktW l k i := by
  refine hL.pw.imp fun {i j} ⟨s, t, hi, hj, hst⟩ => ?_
  rw [nwB_iff] at hst
  have ht : t.time ≤ s.time := by rcases hst with h | ⟨h, _⟩ <;> omega
  simp only [bktW, if_neg (by omega : ¬ k = 0), hi, hj, Option.elim_some]
  exact buck_mono h1 h5 (hoff _ (List.mem_of_getElem? hj)) (hoff _ (List.mem_of_getElem? hi)) ht
def buckN (l : List SnapD) (k : Nat) : Nat := if k = 0 then l.length else (firsts (bktW l k) l.length).length
theorem pick_len {ns : List Int} {l : List SnapD} {L : List Nat} (herr : errW ns l = none) (hL : NewOrd l L) {k : Nat} (hk : k < 6) {z : Int} (hz : ns[k]? = some z) :
    ((pickK ns l L k).length : Int) = if ((buckN l k : Nat) : Int) < z then ((buckN l k : Nat) : Int) else z := by
  obtain ⟨hc, hoff⟩ := errW_none herr
  have hzb := num_pos hc hz
  have hg : ns.getD k 0 = z := by rw [List.getD_eq_getElem?_getD, hz]; rfl
  have hlen : (pickK ns l L k).length = min z.toNat (buckN l k) := by
    unfold pickK buckN
    rw [hg]
    by_cases h0 : k = 0
    · subst h0
      rw [pick_inj _ _ _ _ hL.nodup (fun i _ j _ e => by simp [bktW] at e; omega) (by simp), List.length_take, hL.len, if_pos rfl]
    · rw [pick_take, List.length_take, if_neg h0, pickA_count _ hL.perm (bkt_dec hoff hL (by omega) (by omega))]
  rw [hlen]
  split <;> omega
theorem no_newer {ns : List Int} {l : List SnapD} {L : List Nat} (hoff : ∀ s ∈ l, offT s.time = false) (hL : NewOrd l L) {k : Nat} (h1 : 1 ≤ k) (h5 : k ≤ 5) {i j : Nat} {s t : SnapD} (hs : l[i]? = some s) (ht : l[j]? = some t) (hi : i ∈ pickK ns l L k) (hlt : s.time < t.time) : bktW l k i ≠ bktW l k j := by
  intro he
  rw [pickK, pick_take] at hi
  have hi' := List.mem_of_mem_take hi
  have hj : j ∈ L := hL.mem (List.getElem?_eq_some_iff.1 ht).1
  have hdec := (pickA_dec (bktW l k) L none (bkt_dec hoff hL h1 h5) (by simp)).1
  rcases pickA_cov (R := Newer l) (bktW l k) L none hL.pw j hj with ⟨p, q1, q2, q3⟩ | h
  · have hpi : p = i := by
      by_cases e : p = i
      · exact e
      · exfalso
        obtain ⟨x, hx, rfl⟩ := List.getElem_of_mem q1
        obtain ⟨y, hy, rfl⟩ := List.getElem_of_mem hi'
        have hxy : x ≠ y := fun h => e (by subst h; rfl)
        rw [List.pairwise_map, List.pairwise_iff_getElem] at hdec
        rcases Nat.lt_or_gt_of_ne hxy with h | h
        · have := hdec x y hx hy h; omega
        · have := hdec y x hy hx h; omega
    subst hpi
    rcases q3 with q3 | ⟨s', t', a1, a2, a3⟩
    · subst q3; rw [hs] at ht; obtain rfl := Option.some.inj ht; omega
    · rw [hs] at a1; rw [ht] at a2
      obtain rfl := Option.some.inj a1
      obtain rfl := Option.some.inj a2
      rw [nwB_iff] at a3
      rcases a3 with h | ⟨h, _⟩ <;> omega
  · cases h
def cntK (ns : List Int) (l : List SnapD) (L : List Nat) (k j : Nat) : Nat := ((List.range j).filter fun i => decide (i ∈ pickK ns l L k)).length
theorem cntK_succ (ns : List Int) (l : List SnapD) (L : List Nat) (k j : Nat) : cntK ns l L k (j + 1) = cntK ns l L k j + if decide (j ∈ pickK ns l L k) then 1 else 0 := by
  unfold cntK
  rw [List.range_succ, List.filter_append, List.length_append]
  congr 1
  rw [List.filter_cons]
  split <;> simp
theorem cntK_le (ns : List Int) (l : List SnapD) (L : List Nat) (k j : Nat) : cntK ns l L k j ≤ j := by
  unfold cntK
  have := List.length_filter_le (fun i => decide (i ∈ pickK ns l L k)) (List.range j)
  simpa using this
theorem cntK_all {ns : List Int} {l : List SnapD} {L : List Nat} (hL : NewOrd l L) (k : Nat) : cntK ns l L k l.length = (pickK ns l L k).length := by
  have hs : (pickK ns l L k).Sublist L := pick_sub (bktW l k) L (ns.getD k 0).toNat none
  have hp : ((List.range l.length).filter fun i => decide (i ∈ pickK ns l L k)).Perm (pickK ns l L k) := by
    rw [List.perm_ext_iff_of_nodup (List.nodup_range.filter _) (hL.nodup.sublist hs)]
    intro i
    rw [List.mem_filter, List.mem_range, decide_eq_true_eq]
    exact ⟨fun h => h.2, fun h => ⟨hL.lt (hs.subset h), h⟩⟩
  exact hp.length_eq
theorem bit_eq (ns : List Int) (l : List SnapD) (L : List Nat) (i : Nat) {k : Nat} (hk : k < 6) : ((band .i64 (shrI .i64 ((whyN ns l L 6 i : Nat) : Int) (IntKind.wrap .u64 (k : Int))) (1 : Int)) == (1 : Int)) = decide (i ∈ pickK ns l L k) := by
  have hw : IntKind.wrap .u64 (k : Int) = (k : Int) := by rw [wrap_u64]; omega
  have h64 := whyN_lt ns l L 6 i
  have hb := bitK ⟨k, hk⟩ ⟨whyN ns l L 6 i, h64⟩
  simp only at hb
  rw [hw, hb, why_bit ns l L i k 6 hk]
  by_cases h : i ∈ pickK ns l L k <;> simp [h]

/-! ### the code -/
theorem same20_spec (k : Nat) (x y : Int) (w : World) : Calls Try.prog 22 #[.int .i64 (k : Int), .int .i64 x, .int .i64 y] w fun e w' => e = .returned (.bool (buckW k x == buckW k y)) ∧ Chg [] w w' := by
  apply amphoralaw20_same_vc
  refine (bucket_spec k x w).mono ?_
  rintro e w1 ⟨rfl, c1⟩
  refine ⟨_, _, rfl, (bucket_spec k y w1).mono ?_⟩
  rintro e w2 ⟨rfl, c2⟩
  exact ⟨_, _, rfl, rfl, c1.trans c2⟩

theorem buckets_spec (k : Nat) (a : Option Addr) (n c : Nat) (l : List SnapD) (w : World) (hr : RdS w a n c l) (hb : n ≤ 1000000) :
    Calls Try.prog 21 #[.int .i64 (k : Int), .slice a n c] w fun e w' => e = .returned (.int .i64 ((buckN l k : Nat) : Int)) ∧ Chg [] w w' := by
  have hln := hr.num (by decide)
  apply amphoralaw20_buckets_vc
  refine ⟨fun h => ?_, fun h => ?_⟩
  · have : k = 0 := by simp at h; omega
    subst this
    exact ⟨by simp [buckN, hln], Chg.refl _ _⟩
  have hk : k ≠ 0 := by simp at h; omega
  have hfl : ∀ j, (firsts (bktW l k) j).length ≤ j := fun j => by
    have := List.length_filter_le (firstB (bktW l k)) (List.range j)
    simpa [firsts] using this
  refine ⟨fun m i w' => ∃ j : Nat, i = (j : Int) ∧ j ≤ n ∧ m = (((firsts (bktW l k) j).length : Nat) : Int) ∧ Chg [] w w', fun _ i _ => n - i.toNat, ⟨0, rfl, Nat.zero_le _, rfl, Chg.refl _ _⟩, ?_⟩
  rintro m i w1 ⟨j, rfl, hj, rfl, c1⟩
  have hjb := hfl j
  refine ⟨fun hlt => ?_, fun hge => ?_⟩
  · have hj' : j < n := by simp at hlt; omega
    refine ⟨fun f i w' => ∃ q : Nat, i = (q : Int) ∧ q ≤ j ∧ f = ((List.range q).all fun p => !decide (bktW l k j = bktW l k p)) ∧ Chg [] w w', fun _ i _ => j - i.toNat, ⟨0, rfl, Nat.zero_le _, rfl, c1⟩, ?_⟩
    rintro f i w2 ⟨q, rfl, hq, hf, c2⟩
    refine ⟨fun hlt2 => ?_, fun hge2 => ?_⟩
    · have hq' : q < j := by simp at hlt2; omega
      refine ⟨fun f' w' => f' = ((List.range (q + 1)).all fun p => !decide (bktW l k j = bktW l k p)) ∧ Chg [] w w', ⟨fun w' => Chg [] w w', c2.trans (Chg.drew _ _), fun ht => ?_, fun hfalse => ?_⟩, ?_⟩
      · have e1 : l[j]? = some l[j] := List.getElem?_eq_getElem (by omega)
        have e2 : l[q]? = some l[q] := List.getElem?_eq_getElem (by omega)
        obtain ⟨b1, o1, ha1, ld1'⟩ := hr.fld (P := Try.prog) (by decide) iA (j := 1) e1 (v := .int .i64 l[j].time) rfl
        obtain ⟨b2, o2, ha2, ld2⟩ := hr.fld (P := Try.prog) (by decide) iA (j := 1) e2 (v := .int .i64 l[q].time) rfl
        refine ⟨b1, o1, ha1, by omega, by omega, b2, o2, ha2, by omega, by omega, _, fun w' hc => ld1' w' (hr.keep0 hc), _, fun w' hc => ld2 w' (hr.keep0 hc), (same20_spec k _ _ _).mono ?_⟩
        rintro e w3 ⟨rfl, c3⟩
        refine ⟨_, rfl, fun w' => Chg [] w w', fun _ h => h, (c2.trans (Chg.drew _ _)).trans c3, ?_, (c2.trans (Chg.drew _ _)).trans c3⟩
        rw [List.range_succ, List.all_append, ← hf, ht]
        simp only [bktW, if_neg hk, e1, e2, Option.elim_some, List.all_cons, List.all_nil, Bool.and_true, Bool.true_and]
        rfl
      · refine ⟨c2.trans (Chg.drew _ _), ?_, c2.trans (Chg.drew _ _)⟩
        rw [List.range_succ, List.all_append, ← hf, hfalse]; rfl
      · rintro f' w4 ⟨rfl, c4⟩
        exact ⟨⟨q + 1, wrap_succ hq' (by omega), by omega, rfl, c4⟩, mu_succ hq' (by omega)⟩
    · have hq' : q = j := by simp at hge2; omega
      subst hq'
      have hfs : firsts (bktW l k) (q + 1) = firsts (bktW l k) q ++ if f then [q] else [] := by
        have : firstB (bktW l k) q = f := hf.symm
        unfold firsts
        rw [List.range_succ, List.filter_append, List.filter_cons, this]
        cases f <;> simp
      refine ⟨fun m w' => m = (((firsts (bktW l k) (q + 1)).length : Nat) : Int) ∧ Chg [] w w', ⟨fun ht => ⟨?_, c2⟩, fun ht => ⟨?_, c2⟩⟩, ?_⟩
      · rw [hfs, ht, wrap_i64 (by omega) (by omega)]; simp
      · rw [hfs, ht]; simp
      · rintro m w5 ⟨rfl, c5⟩
        exact ⟨⟨q + 1, wrap_succ hj' (by omega), by omega, rfl, c5⟩, mu_succ hj' (by omega)⟩
  · have hj' : j = n := by simp at hge; omega
    subst hj'
    exact ⟨by simp [buckN, hk, hln], c1⟩

theorem numbers20_spec (ns : List Int) (hn : ns.length = 6) (w : World) : Calls Try.prog 20 #[.agg (iv ns).toArray] w fun e w' => ∃ na nc, e = .returned (.slice na 6 nc) ∧ St w [] w' [.row 3 1 (.slice na 6 nc) 6 (iv ns)] := by
  apply amphoraref20_Numbers_vc
  obtain ⟨a, b, c, d, e, f, rfl⟩ : ∃ a b c d e f, ns = [a, b, c, d, e, f] := by
    match ns, hn with
    | [a, b, c, d, e, f], _ => exact ⟨a, b, c, d, e, f, rfl⟩
  obtain ⟨g1, w1, r1, h1⟩ := (St.start w).boxA (P := Try.prog) 23 (iv [a, b, c, d, e, f])
  have h1 : St w [] w1 [.arr g1 23 (iv [a, b, c, d, e, f])] := h1
  have ld : ∀ (i : Nat) (z : Int), (iv [a, b, c, d, e, f])[i]? = some (.int .i64 z) → (Instr.loadAt 3 (.pointer (some ⟨g1, i, none⟩))).run Try.prog w1 = .ok (.int .i64 z) w1 := fun i z hz => h1.ldL (i := 0) (o := i) rfl (iA _) rfl hz
  obtain ⟨g2, w2, r2, h2⟩ := h1.lit inT (iv [a, b, c, d, e, f]) (iv_one _) (by simp)
  exact ⟨g1, w1, r1, _, ld 0 a rfl, _, ld 1 b rfl, _, ld 2 c rfl, _, ld 3 d rfl, _, ld 4 e rfl, _, ld 5 f rfl, _, _, _, w2, r2, _, _, rfl, h2.tail⟩

set_option maxHeartbeats 4000000 in
theorem pruneCounts_walk (ns : List Int) (hn : ns.length = 6) (a : Option Addr) (n c : Nat) (l : List SnapD) (w : World) (hr : RdS w a n c l) :
    Calls Try.prog 4 #[.agg (iv ns).toArray, .slice a n c] w fun e w' => e = .returned (.bool true) ∧ Chg [] w w' := by
  obtain ⟨mI, hI⟩ := eI
  have hln := hr.num (by decide)
  apply amphoralaw20_PruneCounts_vc
  obtain ⟨g2, w1, r1, k1⟩ := (St.start w).boxA (P := Try.prog) 23 (iv ns)
  have k1 : St w [] w1 [.arr g2 23 (iv ns)] := k1
  refine ⟨g2, w1, r1, (alive20_spec w1).mono ?_⟩
  rintro e w2 ⟨rfl, c2⟩
  refine ⟨_, rfl, fun h => (by cases h), fun _ => (longT_spec a n c w2).mono ?_⟩
  rintro e w3 ⟨rfl, rfl⟩
  have k3 := k1.same c2
  refine ⟨_, rfl, fun _ => ⟨rfl, k3.chg⟩, fun hlong => ?_⟩
  have hb : n ≤ 150 := by simp at hlong; omega
  refine ⟨_, k3.ldA (i := 0) (l := iv ns) rfl (poA _) (poS _) (by simp [hn]), (why_spec ns hn a n c l w3 (hr.keep0 k3.chg) (by omega)).mono ?_⟩
  rintro e w4 ⟨ra, rn, rc, v, rfl, c4, hv, _, hgood⟩
  have k4 := k3.same c4
  refine ⟨_, _, _, _, rfl, _, neqS_nil hI _ _ _, fun _ => ⟨rfl, k4.chg⟩, fun hs => ?_⟩
  have herr : errW ns l = none := by cases h : errW ns l <;> rw [h] at hs <;> simp at hs ⊢
  obtain ⟨rfl, L, hL, rfl⟩ := hgood herr
  obtain ⟨hck, hoff⟩ := errW_none herr
  have hg4 : w4.heap[g2]? = some (.cells (iv ns).toArray 23 (0, 0)) := k4.holds 0 _ rfl
  have ldP4 : ∀ {w'}, Chg [] w4 w' → (Instr.loadAt 23 (.pointer (some ⟨g2, 0, none⟩))).run Try.prog w' = .ok (.agg (iv ns).toArray) w' := fun {w'} hc => by
    have h1 := hc.block g2 (Array.getElem?_eq_some_iff.1 hg4).1 (by simp)
    rw [hg4] at h1
    exact (St.ofBlk h1).ldA (i := 0) (l := iv ns) rfl (poA _) (poS _) (by simp [hn])
  have c04 := k4.chg
  have hr4 : ∀ {w'}, Chg [] w4 w' → RdS w' a rn c l := fun hc => hr.keep0 (c04.trans hc)
  have ldW : ∀ {j : Nat}, j < rn → ∃ b o, ra = some ⟨b, o, none⟩ ∧ ∀ w', Chg [] w4 w' → (Instr.loadAt 3 (.pointer (some ⟨b, o + Int.toNat (j : Int) * 1, none⟩))).run Try.prog w' = .ok (.int .i64 ((whyN ns l L 6 j : Nat) : Int)) w' := fun {j} hj => by
    have hj2 : (iv (outV ns l L 6))[j]? = some (.int .i64 ((whyN ns l L 6 j : Nat) : Int)) := by rw [iv_get, outV_get _ _ _ _ (by omega)]; rfl
    obtain ⟨b, o, hab, _⟩ := hv.cells.at_ hj2
    refine ⟨b, o, hab, fun w' hc => ?_⟩
    obtain ⟨b', o', hab', hcell⟩ := (hv.keep0 hc).cells.at_ hj2
    rw [hab] at hab'
    simp only [Option.some.injEq, Addr.mk.injEq] at hab'
    obtain ⟨rfl, rfl, _⟩ := hab'
    rw [Int.toNat_natCast, Nat.mul_one]
    exact ld1 (iA _) hcell
  refine ⟨fun f i w' => ∃ p j : Nat, f = (p : Int) ∧ i = (j : Int) ∧ j ≤ rn ∧ Best l p j ∧ Chg [] w4 w', fun _ i _ => rn - i.toNat, ⟨0, 0, rfl, rfl, Nat.zero_le _, ⟨fun _ => rfl, fun h => by omega, fun q h => by omega⟩, Chg.refl _ _⟩, ?_⟩
  rintro f i w5 ⟨p, j, rfl, rfl, hj, hbest, c5⟩
  refine ⟨fun hlt => ?_, fun hge => ?_⟩
  · have hj' : j < rn := by simp at hlt; omega
    have hpj : p < rn := by
      rcases Nat.eq_zero_or_pos j with h0 | h0
      · have := hbest.z h0; omega
      · have := hbest.lt h0; omega
    have hs := atS_get (l := l) (i := j) (by omega)
    have ht := atS_get (l := l) (i := p) (by omega)
    obtain ⟨s, hse⟩ : ∃ s, atS l j = s := ⟨_, rfl⟩
    obtain ⟨t, hte⟩ : ∃ t, atS l p = t := ⟨_, rfl⟩
    rw [hse] at hs
    rw [hte] at ht
    obtain ⟨b, o, hab, hld⟩ := hr.ld (P := Try.prog) (by decide) snAgg snS hs
    obtain ⟨g9, w6, r6, k6⟩ := (St.start w5).zeroA snZ
    obtain ⟨w7, r7, k7⟩ := k6.stA (i := 0) (v := snapC s) rfl (snS _) (snapC_len _) (snapC_len _) (snapC_one _)
    have k7 : St w5 [] w7 [.arr g9 30 (snapC s)] := k7
    obtain ⟨b2, o2, hab2, ld2⟩ := hr.fld (P := Try.prog) (by decide) iA (j := 1) ht (v := .int .i64 t.time) rfl
    obtain ⟨b3, o3, hab3, ld3⟩ := hr.fld (P := Try.prog) (by decide) stA_ (j := 0) ht (v := strV t.name) rfl
    have c7 : Chg [] w4 w7.drew := c5.trans (k7.drew.chg)
    refine ⟨b, o, hab, by omega, by omega, _, hld w5 (hr4 c5), g9, w6, r6, w7, r7, fun x w' => x = newB s t ∧ Chg [] w4 w', ⟨fun w' => St w5 [] w' [.arr g9 30 (snapC s)], k7.drew, b2, o2, hab2, by omega, by omega, _, fun w' hw => hw.ldL (i := 0) (o := 1) (v := .int .i64 s.time) rfl (iA _) rfl rfl, _, fun w' hw => ld2 w' (hr4 (c5.trans hw.chg)), fun h1 => ⟨?_, c7⟩, fun h1 => ⟨b2, o2, hab2, by omega, by omega, _, fun w' hw => hw.ldL (i := 0) (o := 1) (v := .int .i64 s.time) rfl (iA _) rfl rfl, _, fun w' hw => ld2 w' (hr4 (c5.trans hw.chg)), fun h2 => ⟨b3, o3, hab3, by omega, by omega, _, fun w' hw => hw.ldL (i := 0) (o := 0) (v := strV s.name) rfl (stA_ _) rfl rfl, _, fun w' hw => ld3 w' (hr4 (c5.trans hw.chg)), _, fun w' _ => geqS s.name t.name _ _ w', ⟨?_, c7⟩⟩, fun h2 => ⟨?_, c7⟩⟩⟩, ?_⟩
    · have : s.time > t.time := by simpa using h1
      simp [newB, this]
    · have : ¬ s.time > t.time := by simpa using h1
      have h3 : s.time = t.time := by simpa using h2
      simp [newB, h3]
    · have : ¬ s.time > t.time := by simpa using h1
      have h3 : ¬ s.time = t.time := by simpa using h2
      simp [newB, this, h3]
    rintro x w8 ⟨rfl, c8⟩
    refine ⟨fun f w' => f = (((if newB s t then j else p) : Nat) : Int) ∧ Chg [] w4 w', ⟨fun h => ⟨by rw [if_pos h], c8⟩, fun h => ⟨by rw [if_neg (by rw [h]; simp)], c8⟩⟩, ?_⟩
    rintro f w9 ⟨rfl, c9⟩
    exact ⟨⟨_, j + 1, rfl, wrap_succ hj' (by omega), by omega, hbest.step hs ht, c9⟩, mu_succ hj' (by omega)⟩
  have hj' : j = rn := by simp at hge; omega
  subst hj'
  rw [← hln] at hbest
  refine ⟨fun x w' => x = false ∧ w' = w5, ⟨fun hpos => ?_, fun _ => ⟨rfl, rfl⟩⟩, ?_⟩
  · have h0 : 0 < j := by simp at hpos; omega
    have hp := hbest.lt (by omega)
    obtain ⟨b, o, hab, hld⟩ := ldW (j := p) (by omega)
    refine ⟨b, o, hab, by omega, by omega, _, hld w5 c5, ?_, rfl⟩
    obtain ⟨r, hLr⟩ := hbest.head hL (by omega)
    obtain ⟨k, hk, hnk⟩ := some_pos hn hck
    have h0 := head_kept hLr hk hnk (ns := ns) (l := l)
    simp [h0]
  rintro x w10 ⟨rfl, rfl⟩
  refine ⟨fun h => (by cases h), fun _ => ⟨_, ldP4 c5, (numbers20_spec ns hn w10).mono ?_⟩⟩
  rintro e w11 ⟨na, nc, rfl, k11⟩
  have c11 := k11.chg
  have hnr := k11.rd (i := 0) rfl
  have c4_11 := c5.trans c11
  refine ⟨_, _, _, rfl, fun x w' => ∃ k : Nat, x = (k : Int) ∧ k ≤ 6 ∧ Chg [] w11 w', fun x _ => 6 - x.toNat, ⟨0, rfl, by omega, Chg.refl _ _⟩, ?_⟩
  rintro x w12 ⟨k, rfl, hk, c12⟩
  refine ⟨fun hlt => ?_, fun _ => ⟨rfl, (c04.trans c4_11).trans c12⟩⟩
  have hk' : k < 6 := by simp at hlt; omega
  have hz : ns[k]? = some ns[k] := List.getElem?_eq_getElem (by omega)
  obtain ⟨z, hze⟩ : ∃ z, ns[k] = z := ⟨_, rfl⟩
  rw [hze] at hz
  have hw64 : (0 : Int) ≤ IntKind.wrap .u64 (k : Int) := by rw [wrap_u64]; omega
  obtain ⟨bz, oz, habz, hcz⟩ := (hnr.keep0 c12).cells.at_ (i := k) (v := .int .i64 z) (by rw [iv_get, hz]; rfl)
  refine ⟨bz, oz, habz, by omega, by omega, _, by rw [Int.toNat_natCast, Nat.mul_one]; exact ld1 (iA _) hcz, fun m i w' => ∃ q : Nat, i = (q : Int) ∧ q ≤ j ∧ m = ((cntK ns l L k q : Nat) : Int) ∧ Chg [] w12 w', fun _ i _ => j - i.toNat, ⟨0, rfl, Nat.zero_le _, rfl, Chg.refl _ _⟩, ?_⟩
  rintro m i w13 ⟨q, rfl, hq, rfl, c13⟩
  have c4_13 := c4_11.trans (c12.trans c13)
  refine ⟨fun hlt2 => ?_, fun hge2 => ?_⟩
  · have hq' : q < j := by simp at hlt2; omega
    have hcb := cntK_le ns l L k q
    have hcs := cntK_succ ns l L k q
    obtain ⟨b, o, hab, hld⟩ := ldW (j := q) hq'
    refine ⟨b, o, hab, by omega, by omega, _, hld w13 c4_13, hw64, fun m w' => m = ((cntK ns l L k (q + 1) : Nat) : Int) ∧ w' = w13, ⟨fun h => ⟨?_, rfl⟩, fun h => ⟨?_, rfl⟩⟩, ?_⟩
    · rw [bit_eq ns l L q hk'] at h
      rw [hcs, h, wrap_i64 (by omega) (by omega)]; simp
    · rw [bit_eq ns l L q hk'] at h
      rw [hcs, h]; simp
    · rintro m w14 ⟨rfl, rfl⟩
      exact ⟨⟨q + 1, wrap_succ hq' (by omega), by omega, rfl, c13⟩, mu_succ hq' (by omega)⟩
  have hq' : q = j := by simp at hge2; omega
  subst hq'
  refine (buckets_spec k a q c l w13 (hr4 c4_13) (by omega)).mono ?_
  rintro e w15 ⟨rfl, c15⟩
  have hcnt : ((cntK ns l L k q : Nat) : Int) = if ((buckN l k : Nat) : Int) < z then ((buckN l k : Nat) : Int) else z := by
    have := cntK_all (ns := ns) hL k
    rw [hln] at this
    rw [this]
    exact pick_len herr hL hk' hz
  refine ⟨_, rfl, fun h => ?_, fun _ => ?_⟩
  · rw [hcnt] at h; simp at h
  have c4_15 := c4_13.trans c15
  refine ⟨fun x w' => ∃ i : Nat, x = (i : Int) ∧ i ≤ q ∧ Chg [] w15 w', fun x _ => q - x.toNat, ⟨0, rfl, Nat.zero_le _, Chg.refl _ _⟩, ?_⟩
  rintro x w16 ⟨i, rfl, hi, c16⟩
  refine ⟨fun hlt3 => ?_, fun _ => ⟨⟨k + 1, wrap_succ hk' (by omega), by omega, c12.trans (c13.trans (c15.trans c16))⟩, mu_succ hk' (by omega)⟩⟩
  have hi' : i < q := by simp at hlt3; omega
  refine ⟨fun x w' => ∃ y : Nat, x = (y : Int) ∧ y ≤ q ∧ Chg [] w15 w', fun x _ => q - x.toNat, ⟨0, rfl, Nat.zero_le _, c16⟩, ?_⟩
  rintro x w17 ⟨y, rfl, hy, c17⟩
  refine ⟨fun hlt4 => ?_, fun _ => ⟨⟨i + 1, wrap_succ hi' (by omega), by omega, c17⟩, mu_succ hi' (by omega)⟩⟩
  have hy' : y < q := by simp at hlt4; omega
  have hs := atS_get (l := l) (i := i) (by omega)
  have ht := atS_get (l := l) (i := y) (by omega)
  obtain ⟨s, hse⟩ : ∃ s, atS l i = s := ⟨_, rfl⟩
  obtain ⟨t, hte⟩ : ∃ t, atS l y = t := ⟨_, rfl⟩
  rw [hse] at hs
  rw [hte] at ht
  obtain ⟨b, o, hab, hld⟩ := ldW (j := i) hi'
  obtain ⟨b1, o1, hab1, ld1'⟩ := hr.fld (P := Try.prog) (by decide) iA (j := 1) hs (v := .int .i64 s.time) rfl
  obtain ⟨b2, o2, hab2, ld2⟩ := hr.fld (P := Try.prog) (by decide) iA (j := 1) ht (v := .int .i64 t.time) rfl
  have c17d := c17.trans (Chg.drew [] w17)
  refine ⟨fun x w' => x = false ∧ Chg [] w15 w', ⟨fun w' => Chg [] w15 w', c17d, b, o, hab, by omega, by omega, _, fun w' hc => hld w' (c4_15.trans hc), hw64, fun h1 => ⟨fun h2 => ⟨b2, o2, hab2, by omega, by omega, b1, o1, hab1, by omega, by omega, _, fun w' hc => ld2 w' (hr4 (c4_15.trans hc)), _, fun w' hc => ld1' w' (hr4 (c4_15.trans hc)), fun h3 => ⟨b1, o1, hab1, by omega, by omega, b2, o2, hab2, by omega, by omega, _, fun w' hc => ld1' w' (hr4 (c4_15.trans hc)), _, fun w' hc => ld2 w' (hr4 (c4_15.trans hc)), (same20_spec k _ _ _).mono ?_⟩, fun _ => ⟨c17d, rfl, c17d⟩⟩, fun _ => ⟨c17d, rfl, c17d⟩⟩, fun _ => ⟨c17d, rfl, c17d⟩⟩, ?_⟩
  · rintro e w18 ⟨rfl, c18⟩
    refine ⟨_, rfl, fun w' => Chg [] w15 w', fun _ h => h, c17d.trans c18, ?_, c17d.trans c18⟩
    rw [bit_eq ns l L i hk'] at h1
    have hk0 : 1 ≤ k := by simp at h2; omega
    have := no_newer (ns := ns) hoff hL hk0 (by omega) hs ht (by simpa using h1) (by simpa using h3)
    simp only [bktW, if_neg (by omega : ¬ k = 0), hs, ht, Option.elim_some] at this
    simpa using this
  · rintro x w19 ⟨rfl, c19⟩
    exact ⟨fun h => (by cases h), fun _ => ⟨⟨y + 1, wrap_succ hy' (by omega), by omega, c19⟩, mu_succ hy' (by omega)⟩⟩

end Go.Proofs.Ytdcgapabphjgbaa
