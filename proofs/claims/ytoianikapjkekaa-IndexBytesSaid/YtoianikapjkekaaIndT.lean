/- Chapter 14: what stands behind adding, told by lookups; IndexLaws (conditions: none). -/
import Derived.Test.YtoianikapjkekaaIndN
namespace Go.Proofs.Ytoianikapjkekaa
open Go Sx
set_option maxRecDepth 8000

theorem find_iff {S : Refs} (h : Asc S) {r : RefD} : findF S r.id = some r ↔ r ∈ S := by
  constructor
  · intro hf
    exact List.mem_of_find?_eq_some hf
  · intro hr
    cases hq : findF S r.id with
    | none =>
      rw [findF, List.find?_eq_none] at hq
      exact absurd (by simp) (hq r hr)
    | some z =>
      have h1 := List.find?_some hq
      have h2 := List.mem_of_find?_eq_some hq
      simp only [beq_iff_eq] at h1
      rw [asc_nodup h h2 hr h1]

theorem asc_ext {S T : Refs} (hS : Asc S) (hT : Asc T) (h : ∀ id, findF S id = findF T id) : S = T :=
  asc_uniq hS hT fun r => by rw [← find_iff hS, ← find_iff hT, h]

theorem find_with {S : Refs} (h : Asc S) (r : RefD) (id : List UInt8) : findF (withF S r) id = if r.id = id then some r else findF S id := by
  obtain ⟨A, B, h1, h2, h3, h4⟩ := with_asc h r
  rw [h1]
  by_cases e : r.id = id
  · rw [if_pos e]
    unfold findF
    have hA : A.find? (fun x => x.id == id) = none := by
      rw [List.find?_eq_none]
      intro x hx
      have := lex_ne (h3 x hx)
      rw [e] at this
      simpa using this
    rw [List.find?_append, hA]
    simp [e]
  · rw [if_neg e]
    rcases h2 with h2 | ⟨y, hy, h2⟩
    · rw [h2]
      unfold findF
      simp [List.find?_append, List.find?_cons, e]
    · rw [h2]
      unfold findF
      have e2 : ¬ y.id = id := by rw [hy]; exact e
      simp [List.find?_append, List.find?_cons, e, e2]

/-- The last ref of an identifier. -/
def lastF (l : Refs) (id : List UInt8) : Option RefD := l.reverse.find? fun r => r.id == id

theorem find_add : ∀ (l S : Refs), Asc S → ∀ id, findF (addF S l) id = (lastF l id).or (findF S id)
  | [], S, _, id => by simp [addF, lastF]
  | r :: l, S, h, id => by
    have e : addF S (r :: l) = addF (withF S r) l := rfl
    rw [e, find_add l _ (asc_with h r), find_with h]
    unfold lastF
    rw [List.reverse_cons, List.find?_append]
    cases List.find? (fun r => r.id == id) l.reverse with
    | some z => simp
    | none => by_cases hr : r.id = id <;> simp [hr]

theorem last_asc {S : Refs} (h : Asc S) (id : List UInt8) : lastF S id = findF S id := by
  unfold lastF findF
  cases hq : S.reverse.find? fun r => r.id == id with
  | none =>
    rw [List.find?_eq_none] at hq
    symm
    rw [List.find?_eq_none]
    intro x hx
    exact hq x (by simpa using hx)
  | some z =>
    have h1 := List.find?_some hq
    have h2 := List.mem_of_find?_eq_some hq
    simp only [beq_iff_eq] at h1
    have := (find_iff h (r := z)).2 (by simpa using h2)
    rw [h1] at this
    exact this.symm

theorem asc_nil : Asc [] := List.Pairwise.nil
theorem find_add0 (l : Refs) (id : List UInt8) : findF (addF [] l) id = lastF l id := by rw [find_add l [] asc_nil]; simp [findF]
theorem add0_asc (l : Refs) : Asc (addF [] l) := asc_add asc_nil
theorem add0_self {S : Refs} (h : Asc S) : addF [] S = S := asc_ext (add0_asc S) h fun id => by rw [find_add0, last_asc h]
theorem last_append (l m : Refs) (id : List UInt8) : lastF (l ++ m) id = (lastF m id).or (lastF l id) := by unfold lastF; rw [List.reverse_append, List.find?_append]
theorem add_assoc {x y z : Refs} (hx : Asc x) (hy : Asc y) (hz : Asc z) : addF (addF x y) z = addF x (addF y z) :=
  asc_ext (asc_add (asc_add hx)) (asc_add hx) fun id => by
    rw [find_add z _ (asc_add hx), find_add y x hx, find_add _ x hx, last_asc (asc_add hy), find_add z y hy, last_asc hy]
    rw [Option.or_assoc]
theorem add_twice {x : Refs} (hx : Asc x) : addF x x = x := asc_ext (asc_add hx) hx fun id => by
  rw [find_add x x hx, last_asc hx]; cases findF x id <;> rfl
theorem add_one (a b c : Refs) : addF [] (a ++ b ++ c) = addF (addF (addF [] a) (addF [] b)) (addF [] c) :=
  asc_ext (add0_asc _) (asc_add (asc_add (add0_asc a))) fun id => by
    rw [find_add0, find_add _ _ (asc_add (add0_asc a)), find_add _ _ (add0_asc a), last_asc (add0_asc c), last_asc (add0_asc b), find_add0, find_add0, find_add0, last_append, last_append]
theorem mem_add {S l : Refs} (h : Asc S) {r : RefD} (hr : r ∈ addF S l) : r ∈ S ∨ r ∈ l := by
  have := (find_iff (asc_add h)).2 hr
  rw [find_add l S h] at this
  cases hq : lastF l r.id with
  | none => rw [hq, Option.none_or] at this; exact .inl (List.mem_of_find?_eq_some this)
  | some z =>
    rw [hq, Option.some_or, Option.some.injEq] at this
    subst this
    exact .inr (by simpa using List.mem_of_find?_eq_some hq)
theorem good_add {S l : Refs} (h : Asc S) (h1 : S.all goodF = true) (h2 : l.all goodF = true) : (addF S l).all goodF = true := by
  rw [List.all_eq_true] at *
  intro r hr
  rcases mem_add h hr with hr | hr
  · exact h1 r hr
  · exact h2 r hr

theorem getD_at {l : Refs} {i : Nat} (h : i < l.length) : l[i]? = some (l.getD i ref0) := by rw [List.getD, List.getElem?_eq_getElem h]; rfl
theorem seg_iff (l : Refs) : isSeg l = true ↔ Asc l ∧ l.all goodF = true := by
  constructor
  · intro h
    refine ⟨?_, seg_good h⟩
    have hok : ∀ i, i < l.length → okAt l i = true := fun i hi => List.all_eq_true.1 h i (List.mem_range.2 hi)
    have step : ∀ d i, i + d + 1 < l.length → lexLt (l.getD i ref0).id (l.getD (i + d + 1) ref0).id = true := by
      intro d
      induction d with
      | zero =>
        intro i hi
        have := hok (i + 1) (by omega)
        simp only [okAt, Bool.and_eq_true, Bool.or_eq_true, Nat.add_sub_cancel] at this
        rcases this.2 with h1 | h1
        · simp at h1
        · exact h1
      | succ d ih =>
        intro i hi
        have h1 := ih i (by omega)
        have := hok (i + (d + 1) + 1) (by omega)
        simp only [okAt, Bool.and_eq_true, Bool.or_eq_true, Nat.add_sub_cancel] at this
        rcases this.2 with h2 | h2
        · simp at h2
        · exact lex_trans _ _ _ h1 h2
    refine List.pairwise_iff_getElem.2 fun i j hi hj hij => ?_
    have := step (j - i - 1) i (by omega)
    rw [show i + (j - i - 1) + 1 = j by omega] at this
    have g : ∀ k (hk : k < l.length), l.getD k ref0 = l[k] := fun k hk => by simp [List.getD, hk]
    rw [g i hi, g j hj] at this
    exact this
  · rintro ⟨ha, hg⟩
    rw [isSeg, okTo, List.all_eq_true]
    intro i hi
    have hi := List.mem_range.1 hi
    have g : ∀ k (hk : k < l.length), l.getD k ref0 = l[k] := fun k hk => by simp [List.getD, hk]
    simp only [okAt, Bool.and_eq_true, Bool.or_eq_true]
    refine ⟨?_, ?_⟩
    · rw [g i hi]; exact List.all_eq_true.1 hg _ (List.getElem_mem _)
    · by_cases h0 : i = 0
      · left; simp [h0]
      · right
        rw [g i hi, g (i - 1) (by omega)]
        exact List.pairwise_iff_getElem.1 ha (i - 1) i (by omega) hi (by omega)
theorem seg_add {S l : Refs} (h : isSeg S = true) (hl : l.all goodF = true) : isSeg (addF S l) = true := by
  rw [seg_iff] at *
  exact ⟨asc_add h.1, good_add h.1 h.2 hl⟩
theorem seg_nil : isSeg [] = true := rfl

/-- index.Segment, told by what may be read. -/
theorem segR_spec (a : Option Addr) (n c : Nat) (l : Refs) (w : World) (hr : RdR w a n c l) (hb : n ≤ 1000000) :
    Calls Try.prog 16 #[.slice a n c] w fun e w' => ∃ a' n' c', e = .returned (.tuple #[.slice a' n' c', errV (if l.all goodF then none else some 28)]) ∧ RdR w' a' n' c' (if l.all goodF then addF [] l else []) ∧ Chg [] w w' := by
  refine (iSegment_spec a n c l w hr hb).mono ?_
  rintro e w1 (⟨hg, a', n', c', rfl, h1⟩ | ⟨hg, rfl, c1⟩)
  · rw [hg]
    exact ⟨a', n', c', rfl, ⟨h1.rd (i := 0) rfl, fun x _ => refC_len x⟩, h1.chg⟩
  · rw [hg]
    exact ⟨none, 0, 0, rfl, RdE.nil _, c1⟩

/-- A literal's row of segments, and index.Merge of it. -/
theorem mergeR_spec (vs : List Value) (ls : List Refs) (w : World) (hrow : RowR w vs ls) (hall : ls.all isSeg = true) (hb : (ls.map List.length).sum ≤ 100000) (hn : vs.length ≤ 100) :
    ∃ g w1, (Instr.buildSlice 22 vs.length ((vs.zipIdx 0).map fun p => (p.2, p.1)).toArray).run Try.prog w = .ok (.slice (some ⟨g, 0, none⟩) vs.length vs.length) w1 ∧
      Calls Try.prog 11 #[.slice (some ⟨g, 0, none⟩) vs.length vs.length] w1 fun e w' => ∃ a' n' c', e = .returned (.tuple #[.slice a' n' c', errV none]) ∧ RdR w' a' n' c' (mrgF ls) ∧ Chg [] w w' := by
  have h1c : ∀ v ∈ vs, v.oneCell' = true := by
    intro v hv
    obtain ⟨i, hi⟩ := List.getElem?_of_mem hv
    have hil : i < ls.length := by have := (List.getElem?_eq_some_iff.1 hi).1; have := hrow.len; omega
    obtain ⟨a, n, c, hv', _⟩ := hrow.rd i _ (List.getElem?_eq_getElem hil)
    rw [hi, Option.some.injEq] at hv'
    subst hv'
    rfl
  obtain ⟨g, w1, r1, h1⟩ := (St.start w).lit rrT vs h1c (by omega)
  refine ⟨g, w1, r1, (iMerge_spec _ _ _ vs ls w1 (h1.rd (i := 0) rfl) (hrow.keep0 h1.chg) hb (by omega)).mono ?_⟩
  rintro e w2 (⟨_, a', n', c', rfl, h2⟩ | ⟨hs, _⟩)
  · exact ⟨a', n', c', rfl, ⟨h2.rd (i := 0) rfl, fun x _ => refC_len x⟩, h1.chg.trans h2.chg⟩
  · rw [hall] at hs; cases hs

theorem rowR2 {w : World} {a b : Option Addr} {n c m d : Nat} {x y : Refs} (hx : RdR w a n c x) (hy : RdR w b m d y) : RowR w [.slice a n c, .slice b m d] [x, y] :=
  ⟨rfl, fun i l hi => by
    match i, hi with
    | 0, hi => simp only [List.getElem?_cons_zero, Option.some.injEq] at hi; subst hi; exact ⟨_, _, _, rfl, hx⟩
    | 1, hi => simp only [List.getElem?_cons_succ, List.getElem?_cons_zero, Option.some.injEq] at hi; subst hi; exact ⟨_, _, _, rfl, hy⟩
    | i + 2, hi => simp at hi⟩
theorem rowR3 {w : World} {a b e : Option Addr} {n c m d p q : Nat} {x y z : Refs} (hx : RdR w a n c x) (hy : RdR w b m d y) (hz : RdR w e p q z) : RowR w [.slice a n c, .slice b m d, .slice e p q] [x, y, z] :=
  ⟨rfl, fun i l hi => by
    match i, hi with
    | 0, hi => simp only [List.getElem?_cons_zero, Option.some.injEq] at hi; subst hi; exact ⟨_, _, _, rfl, hx⟩
    | 1, hi => simp only [List.getElem?_cons_succ, List.getElem?_cons_zero, Option.some.injEq] at hi; subst hi; exact ⟨_, _, _, rfl, hy⟩
    | 2, hi => simp only [List.getElem?_cons_succ, List.getElem?_cons_zero, Option.some.injEq] at hi; subst hi; exact ⟨_, _, _, rfl, hz⟩
    | i + 3, hi => simp at hi⟩

/-- A slice's literal without elements. -/
theorem Sx.St.lit0 {w0 w : World} {X : List Nat} {M : List Res} (h : St w0 X w M) {t e sz by_ : Nat} {z : Value} (E : ElemT Try.prog t e sz by_ z) :
    ∃ g w', (Instr.buildSlice t 0 #[]).run Try.prog w = .ok (.slice (some ⟨g, 0, none⟩) 0 0) w' ∧ St w0 X w' (M ++ [.row e sz (.slice (some ⟨g, 0, none⟩) 0 0) 0 []]) := by
  obtain ⟨inf, hinf, hz, hsz, hby⟩ := E.inf
  have hrow : (w.alloc (.cells #[] e)).ownsRow 0 e sz (.slice (some ⟨w.heap.size, 0, none⟩) 0 0) 0 [] := by
    have := World.ownsRow_lit (base := 0) (e := e) (size := sz) w #[] 0 (Nat.zero_le _) (by simp only [maxLen]; omega) (by simp)
    simpa using this
  refine ⟨w.heap.size, _, ?_, h.add (Chg.alloc _ (.cells #[] e)) hrow (by simp [Res.fp, Value.ownBlock])⟩
  simp [Instr.buildSlice, run_underlying E.ht, sizeOf, typeInfo, hinf, Instr.fill, newRow, Array.range_zero']

theorem refs_one (l : Refs) : ∀ u ∈ l.flatMap refC, u.oneCell' = true := fun u hu => by
  obtain ⟨x, _, hx⟩ := List.mem_flatMap.1 hu
  exact refC_one x u hx

set_option maxHeartbeats 1000000 in
theorem indexLaws_walk (a0 : Option Addr) (n0 c0 : Nat) (l0 : Refs) (a1 : Option Addr) (n1 c1 : Nat) (l1 : Refs) (a2 : Option Addr) (n2 c2 : Nat) (l2 : Refs) (w : World) (hr0 : RdR w a0 n0 c0 l0) (hr1 : RdR w a1 n1 c1 l1) (hr2 : RdR w a2 n2 c2 l2) :
    Calls Try.prog 4 #[.slice a0 n0 c0, .slice a1 n1 c1, .slice a2 n2 c2] w fun e w' => e = .returned (.bool true) ∧ Chg [] w w' := by
  have e0 := hr0.num (by decide)
  have e1 := hr1.num (by decide)
  have e2 := hr2.num (by decide)
  obtain ⟨mI, hI⟩ := eI
  apply amphoralaw14_IndexLaws_vc
  refine (alive14_spec w).mono ?_
  rintro e w1 ⟨rfl, d1⟩
  refine ⟨_, rfl, fun h => by simp at h, fun _ => ⟨fun _ => ⟨rfl, d1⟩, fun hle => ?_⟩⟩
  have hle : n0 ≤ 300 ∧ n1 ≤ 300 ∧ n2 ≤ 300 := by simp at hle; omega
  obtain ⟨b0, b1, b2⟩ := hle
  refine (segR_spec a0 n0 c0 l0 w1 (hr0.keep0 d1) (by omega)).mono ?_
  rintro e w2 ⟨xa, xn, xc, rfl, hx2, d12⟩
  have d2 := d1.trans d12
  refine ⟨_, _, _, _, rfl, (segR_spec a1 n1 c1 l1 w2 (hr1.keep0 d2) (by omega)).mono ?_⟩
  rintro e w3 ⟨ya, yn, yc, rfl, hy3, d23⟩
  have d3 := d2.trans d23
  refine ⟨_, _, _, _, rfl, (segR_spec a2 n2 c2 l2 w3 (hr2.keep0 d3) (by omega)).mono ?_⟩
  rintro e w4 ⟨za, zn, zc, rfl, hz4, d34⟩
  have d4 := d3.trans d34
  refine ⟨_, _, _, _, rfl, fun x w' => x = !(l0.all goodF && l1.all goodF && l2.all goodF) ∧ w' = w4, ⟨_, neqS_nil hI _ _ _, fun h => ⟨?_, rfl⟩, fun h => ⟨_, neqS_nil hI _ _ _, fun h' => ⟨?_, rfl⟩, fun h' => ⟨_, neqS_nil hI _ _ _, ?_, rfl⟩⟩⟩, ?_⟩
  · cases hg : l0.all goodF <;> simp [hg] at h ⊢
  · cases hg : l0.all goodF <;> cases hg1 : l1.all goodF <;> simp [hg, hg1] at h h' ⊢
  · cases hg : l0.all goodF <;> cases hg1 : l1.all goodF <;> cases hg2 : l2.all goodF <;> simp [hg, hg1, hg2] at h h' ⊢
  rintro x64 w5 ⟨rfl, rfl⟩
  refine ⟨fun _ => ⟨rfl, d4⟩, fun hg => ?_⟩
  have hg : l0.all goodF = true ∧ l1.all goodF = true ∧ l2.all goodF = true := by
    cases hg0 : l0.all goodF <;> cases hg1 : l1.all goodF <;> cases hg2 : l2.all goodF <;> simp [hg0, hg1, hg2] at hg ⊢
  obtain ⟨g0, g1, g2⟩ := hg
  rw [g0, if_pos rfl] at hx2
  rw [g1, if_pos rfl] at hy3
  rw [g2, if_pos rfl] at hz4
  obtain ⟨x, ex⟩ : ∃ x, addF [] l0 = x := ⟨_, rfl⟩
  obtain ⟨y, ey⟩ : ∃ y, addF [] l1 = y := ⟨_, rfl⟩
  obtain ⟨z, ez⟩ : ∃ z, addF [] l2 = z := ⟨_, rfl⟩
  have sx : isSeg x = true := by rw [← ex]; exact seg_add seg_nil g0
  have sy : isSeg y = true := by rw [← ey]; exact seg_add seg_nil g1
  have sz : isSeg z = true := by rw [← ez]; exact seg_add seg_nil g2
  obtain ⟨ax, gx⟩ := (seg_iff x).1 sx
  obtain ⟨ay, gy⟩ := (seg_iff y).1 sy
  obtain ⟨az, gz⟩ := (seg_iff z).1 sz
  have lx : x.length ≤ 300 := by have := addF_len l0 []; rw [ex] at this; simp at this; omega
  have ly : y.length ≤ 300 := by have := addF_len l1 []; rw [ey] at this; simp at this; omega
  have lz : z.length ≤ 300 := by have := addF_len l2 []; rw [ez] at this; simp at this; omega
  rw [ex] at hx2
  rw [ey] at hy3
  rw [ez] at hz4
  have m2 : ∀ u v : Refs, Asc u → mrgF [u, v] = addF u v := fun u v hu => by show addF (addF [] u) v = _; rw [add0_self hu]
  have m3 : ∀ u v t : Refs, Asc u → mrgF [u, v, t] = addF (addF u v) t := fun u v t hu => by show addF (addF (addF [] u) v) t = _; rw [add0_self hu]
  have sl : ∀ u v : Refs, (addF u v).length ≤ u.length + v.length := fun u v => by have := addF_len v u; omega
  have hx := hx2.keep0 (d23.trans d34)
  have hy := hy3.keep0 d34
  obtain ⟨gg, w6, r6, q6⟩ := mergeR_spec _ _ w5 (rowR2 hx hy) (by simp [sx, sy]) (by simp; omega) (by simp)
  refine ⟨_, _, _, w6, r6, q6.mono ?_⟩
  rintro e w7 ⟨pa, pn, pc, rfl, hxy, d7⟩
  rw [m2 x y ax] at hxy
  obtain ⟨gg, w8, r8, q8⟩ := mergeR_spec _ _ w7 (rowR2 (hy.keep0 d7) (hz4.keep0 d7)) (by simp [sy, sz]) (by simp; omega) (by simp)
  refine ⟨_, _, _, _, rfl, _, _, _, w8, r8, q8.mono ?_⟩
  rintro e w9 ⟨qa, qn, qc, rfl, hyz, d9⟩
  rw [m2 y z ay] at hyz
  have d79 := d7.trans d9
  have lxy := sl x y
  have lyz := sl y z
  obtain ⟨gg, w10, r10, q10⟩ := mergeR_spec _ _ w9 (rowR2 (hxy.keep0 d9) (hz4.keep0 d79)) (by simp [seg_add sx gy, sz]) (by simp; omega) (by simp)
  refine ⟨_, _, _, _, rfl, _, _, _, w10, r10, q10.mono ?_⟩
  rintro e w11 ⟨la, ln, lc, rfl, hleft, d11⟩
  rw [m2 _ z (asc_add ax)] at hleft
  have d711 := d79.trans d11
  obtain ⟨gg, w12, r12, q12⟩ := mergeR_spec _ _ w11 (rowR2 (hx.keep0 d711) (hyz.keep0 d11)) (by simp [sx, seg_add sy gz]) (by simp; omega) (by simp)
  refine ⟨_, _, _, _, rfl, _, _, _, w12, r12, q12.mono ?_⟩
  rintro e w13 ⟨ra, rn, rc, rfl, hright, d13⟩
  rw [m2 x _ ax, ← add_assoc ax ay az] at hright
  have d713 := d711.trans d13
  obtain ⟨gg, w14, r14, q14⟩ := mergeR_spec _ _ w13 (rowR3 (hx.keep0 d713) (hy.keep0 d713) (hz4.keep0 d713)) (by simp [sx, sy, sz]) (by simp; omega) (by simp)
  refine ⟨_, _, _, _, rfl, _, _, _, w14, r14, q14.mono ?_⟩
  rintro e w15 ⟨ta, tn, tc, rfl, hall, d15⟩
  rw [m3 x y z ax] at hall
  have d715 := d713.trans d15
  obtain ⟨gg, w16, r16, q16⟩ := mergeR_spec _ _ w15 (rowR3 (hx.keep0 d715) (hx.keep0 d715) (RdE.nil _)) (by simp [sx, seg_nil]) (by simp; omega) (by simp)
  refine ⟨_, _, _, _, rfl, _, _, _, w16, r16, q16.mono ?_⟩
  rintro e w17 ⟨ua, un, uc, rfl, htwice, d17⟩
  have e17 : mrgF [x, x, []] = x := by rw [m3 x x [] ax, add_twice ax]; rfl
  rw [e17] at htwice
  have d717 := d715.trans d17
  have d417 := d4.trans d717
  obtain ⟨gg, w18, r18, h18⟩ := (St.start w17).lit0 rfT
  have h18 : St w17 [] w18 [.row 52 35 (.slice (some ⟨gg, 0, none⟩) 0 0) 0 []] := h18
  obtain ⟨va, vc, w19, r19, h19, _, _⟩ := h18.append (i := 0) (ty := 24) rfT rfl ((hr0.keep0 d417).keep0 h18.chg).rd (refs_one l0) (by omega) (by simp only [maxLen]; omega)
  have h19 : St w17 [] w19 [.row 52 35 (.slice va (0 + n0) vc) (0 + n0) ([] ++ l0.flatMap refC)] := h19
  obtain ⟨va2, vc2, w20, r20, h20, _, _⟩ := h19.append (i := 0) (ty := 24) rfT rfl ((hr1.keep0 d417).keep0 h19.chg).rd (refs_one l1) (by omega) (by simp only [maxLen]; omega)
  have h20 : St w17 [] w20 [.row 52 35 (.slice va2 (0 + n0 + n1) vc2) (0 + n0 + n1) ([] ++ l0.flatMap refC ++ l1.flatMap refC)] := h20
  obtain ⟨va3, vc3, w21, r21, h21, _, _⟩ := h20.append (i := 0) (ty := 24) rfT rfl ((hr2.keep0 d417).keep0 h20.chg).rd (refs_one l2) (by omega) (by simp only [maxLen]; omega)
  have h21 : St w17 [] w21 [.row 52 35 (.slice va3 (0 + n0 + n1 + n2) vc3) (0 + n0 + n1 + n2) ([] ++ l0.flatMap refC ++ l1.flatMap refC ++ l2.flatMap refC)] := h21
  have hr21 : RdR w21 va3 (0 + n0 + n1 + n2) vc3 (l0 ++ l1 ++ l2) := by
    refine ⟨?_, fun x _ => refC_len x⟩
    have := h21.rd (i := 0) rfl
    simpa using this
  refine ⟨_, _, _, _, rfl, _, _, _, w18, r18, _, _, _, w19, r19, _, _, _, w20, r20, _, _, _, w21, r21, (segR_spec _ _ _ _ w21 hr21 (by omega)).mono ?_⟩
  rintro e w22 ⟨oa, on, oc, rfl, hone, d22⟩
  have gall : (l0 ++ l1 ++ l2).all goodF = true := by simp only [List.all_append, g0, g1, g2]; rfl
  rw [gall, if_pos rfl, add_one, ex, ey, ez] at hone
  have d1722 := h21.chg.trans d22
  have e1322 := d15.trans (d17.trans d1722)
  have e1122 := d13.trans e1322
  have ll : (addF (addF x y) z).length ≤ 1000 := by have := sl (addF x y) z; omega
  have SAME : ∀ (a : Option Addr) (n c : Nat) (b : Option Addr) (m d : Nat) (l : Refs) (w : World), RdR w a n c l → RdR w b m d l → l.length ≤ 1000 → Calls Try.prog 14 #[.slice a n c, .slice b m d] w fun e w' => e = .returned (.bool true) ∧ Chg [] w w' := by
    intro a n c b m d l w h1 h2 hl
    have hn := h1.num (by decide)
    refine (rsame13_spec a n c l b m d l w h1 h2 (by omega)).mono ?_
    rintro e w' ⟨⟨rfl, _⟩ | ⟨_, hne⟩, hc⟩
    · exact ⟨rfl, hc⟩
    · exact absurd rfl hne
  refine ⟨_, _, _, _, rfl, _, eqlS_nil hI none _ _, fun _ => ⟨_, eqlS_nil hI _ _ _, fun _ => ?_, fun h => by rw [gall] at h; simp at h⟩, fun h => by simp at h⟩
  refine (SAME _ _ _ _ _ _ _ w22 (hleft.keep0 e1122) (hright.keep0 e1322) ll).mono ?_
  rintro e w23 ⟨rfl, d23'⟩
  refine ⟨_, rfl, fun _ => (SAME _ _ _ _ _ _ _ w23 (hleft.keep0 (e1122.trans d23')) (hall.keep0 (d17.trans (d1722.trans d23'))) ll).mono ?_, fun h => by simp at h⟩
  rintro e w24 ⟨rfl, d24⟩
  have f24 := d23'.trans d24
  refine ⟨_, rfl, fun _ => (SAME _ _ _ _ _ _ _ w24 (hone.keep0 f24) (hall.keep0 (d17.trans (d1722.trans f24))) ll).mono ?_, fun h => by simp at h⟩
  rintro e w25 ⟨rfl, d25⟩
  have f25 := f24.trans d25
  refine ⟨_, rfl, fun _ => (SAME _ _ _ _ _ _ _ w25 (htwice.keep0 (d1722.trans f25)) (hx.keep0 (d717.trans (d1722.trans f25))) (by omega)).mono ?_, fun h => by simp at h⟩
  rintro e w26 ⟨rfl, d26⟩
  have f26 := f25.trans d26
  have hn := hall.num (by decide)
  refine ⟨_, rfl, fun _ => (iCheck_spec _ _ _ _ w26 (hall.keep0 (d17.trans (d1722.trans f26))) (by omega)).mono ?_, fun h => by simp at h⟩
  rintro e w27 ⟨rfl, d27⟩
  refine ⟨_, rfl, _, eqlS_nil hI _ _ _, ?_, d417.trans (d1722.trans (f26.trans d27))⟩
  rw [seg_add (seg_add sx gy) gz]
  rfl

end Go.Proofs.Ytoianikapjkekaa
