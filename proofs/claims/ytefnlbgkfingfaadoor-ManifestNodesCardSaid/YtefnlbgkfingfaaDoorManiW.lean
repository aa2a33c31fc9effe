/- Chapter 15: the levels of a tree in plain words; ManifestWalks (conditions: the table lies where the program laid it). -/
import Derived.Test.YtefnlbgkfingfaaDoorManiQ
namespace Go.Proofs.YtefnlbgkfingfaaDoor
open Go Sx
set_option maxRecDepth 8000

section
variable (K : List UInt8) (ids : Ids)
def idsAt : Nat → Ids
  | 0 => ids
  | j + 1 => (rlevelF j (idsAt j)).map (idF K)
def lev (j : Nat) : List (List UInt8) := rlevelF j (idsAt K ids j)
def pre : Nat → List (List UInt8)
  | 0 => []
  | j + 1 => pre j ++ lev K ids j
end

theorem idsAt_succ (K : List UInt8) (ids : Ids) (j : Nat) : idsAt K ids (j + 1) = (lev K ids j).map (idF K) := rfl
theorem pre_succ (K : List UInt8) (ids : Ids) (j : Nat) : pre K ids (j + 1) = pre K ids j ++ lev K ids j := rfl
theorem idsAt_all (K : List UInt8) {ids : Ids} (h : All32 ids) : ∀ j, All32 (idsAt K ids j)
  | 0 => h
  | _ + 1 => All32.mapId K _
theorem lev_pos (K : List UInt8) (ids : Ids) (j : Nat) : 1 ≤ (lev K ids j).length := by rw [lev, rlevel_len]; omega
theorem idsAt_pos (K : List UInt8) (ids : Ids) {j : Nat} (h : idsAt K ids j = []) : j = 0 := by
  cases j with
  | zero => rfl
  | succ j =>
    have := congrArg List.length h
    rw [idsAt_succ, List.length_map, List.length_nil] at this
    have := lev_pos K ids j
    omega

theorem build_levels (K : List UInt8) (ids : Ids) : ∀ f lv, (idsAt K ids lv).length ≤ 16 * capF f →
    ∃ d, d ≤ f ∧ buildF K (f + 2) lv (idsAt K ids lv) (pre K ids lv) = (pre K ids (lv + d + 1), idF K ((lev K ids (lv + d)).getD 0 [])) ∧ (lev K ids (lv + d)).length = 1 ∧ (TF (f + 1) (numCh (idsAt K ids lv).length)).2 = d ∧
      (pre K ids lv).length + (TF (f + 1) (numCh (idsAt K ids lv).length)).1 = (pre K ids (lv + d + 1)).length := by
  intro f
  induction f with
  | zero =>
    intro lv hc
    simp only [capF] at hc
    have hq : numCh (idsAt K ids lv).length ≤ 1 := by rw [numCh]; omega
    refine ⟨0, Nat.le_refl _, ?_, by rw [lev, rlevel_len, Nat.add_zero]; omega, by rw [TF_one _ hq], ?_⟩
    · by_cases h0 : idsAt K ids lv = []
      · obtain rfl := idsAt_pos K ids h0
        have hl : lev K ids 0 = [nodeL 0 []] := by rw [lev, h0, rlevel_nil]
        rw [h0, buildF_nil, Nat.add_zero, pre_succ, hl]
        rfl
      · have hl : lev K ids lv = levelF lv (idsAt K ids lv) := rlevel_of lv h0
        have hp : 0 < (idsAt K ids lv).length := List.length_pos_iff.2 h0
        have h1 : (levelF lv (idsAt K ids lv)).length = 1 := by rw [levelF_len, numCh]; omega
        rw [buildF_one h0 h1]
        simp only [Nat.add_zero, pre_succ, hl]
    · rw [TF_one _ hq, Nat.add_zero, pre_succ, List.length_append, lev, rlevel_len]
      omega
  | succ f ih =>
    intro lv hc
    by_cases hq : numCh (idsAt K ids lv).length ≤ 1
    · refine ⟨0, Nat.zero_le _, ?_, by rw [lev, rlevel_len, Nat.add_zero]; omega, by rw [TF_one _ hq], ?_⟩
      · by_cases h0 : idsAt K ids lv = []
        · obtain rfl := idsAt_pos K ids h0
          have hl : lev K ids 0 = [nodeL 0 []] := by rw [lev, h0, rlevel_nil]
          rw [h0, buildF_nil, Nat.add_zero, pre_succ, hl]
          rfl
        · have hl : lev K ids lv = levelF lv (idsAt K ids lv) := rlevel_of lv h0
          have hp : 0 < (idsAt K ids lv).length := List.length_pos_iff.2 h0
          have h1 : (levelF lv (idsAt K ids lv)).length = 1 := by rw [levelF_len]; rw [numCh] at hq ⊢; omega
          rw [buildF_one h0 h1]
          simp only [Nat.add_zero, pre_succ, hl]
      · rw [TF_one _ hq, Nat.add_zero, pre_succ, List.length_append, lev, rlevel_len]
        omega
    · have h0 : idsAt K ids lv ≠ [] := fun e => by rw [e] at hq; simp [numCh] at hq
      have hl : lev K ids lv = levelF lv (idsAt K ids lv) := rlevel_of lv h0
      have h1 : (levelF lv (idsAt K ids lv)).length ≠ 1 := by rw [levelF_len]; omega
      have hll : (lev K ids lv).length = numCh (idsAt K ids lv).length := by rw [hl, levelF_len]
      have hn : (idsAt K ids (lv + 1)).length = numCh (idsAt K ids lv).length := by rw [idsAt_succ, List.length_map, hll]
      obtain ⟨d, hd, e1, e2, e3, e4⟩ := ih (lv + 1) (by rw [hn, numCh]; simp only [capF] at hc; omega)
      have ea : lv + (d + 1) = lv + 1 + d := by omega
      rw [hn] at e3 e4
      refine ⟨d + 1, by omega, ?_, by rw [ea]; exact e2, ?_, ?_⟩
      · rw [buildF_more h0 h1, ea, ← e1, pre_succ, idsAt_succ, hl]
      · rw [TF, if_neg hq]
        show (TF (f + 1) (numCh (numCh (idsAt K ids lv).length))).2 + 1 = d + 1
        rw [e3]
      · rw [TF, if_neg hq, ea, ← e4, pre_succ, List.length_append, hll]
        show (pre K ids lv).length + (numCh (idsAt K ids lv).length + (TF (f + 1) (numCh (numCh (idsAt K ids lv).length))).1) = _
        omega

theorem cutI_flat {c : Ids} (h : All32 c) : cutI c.flatten c.length = c := by
  apply List.ext_getElem?
  intro i
  by_cases hi : i < c.length
  · rw [cutI, List.getElem?_map, List.getElem?_range hi, Option.map_some, flat32_drop i h]
    have := flat32_take 1 (h.drop i)
    simp only [Nat.mul_one] at this
    rw [this, List.take_one, List.head?_drop, List.getElem?_eq_getElem hi]
    simp
  · rw [List.getElem?_eq_none (by rw [cutI_len]; omega), List.getElem?_eq_none (by omega)]

theorem cutI_back (r : List UInt8) : ∀ k, (cutI r k).flatten = r.take (32 * k)
  | 0 => by simp [cutI]
  | k + 1 => by
    rw [cutI_succ, List.flatten_append, cutI_back r k, show 32 * (k + 1) = 32 * k + 32 by omega, List.take_add]
    simp

theorem nodeL_small (lv : Nat) {c : Ids} (h : c.length ≤ 16) : nodeL lv c = UInt8.ofNat lv :: UInt8.ofNat c.length :: c.flatten := by
  rw [nodeL, varL_small (by omega)]; rfl

theorem parse_node {lv : Nat} {c : Ids} (hc : All32 c) (hlv : lv ≤ 3) (h16 : c.length ≤ 16) (h0 : c = [] → lv = 0) : parseF (nodeL lv c) = some (lv, c) := by
  have e1 : (UInt8.ofNat lv).toNat = lv := by simp; omega
  have e2 : (UInt8.ofNat c.length).toNat = c.length := by simp; omega
  have hok : OkN (nodeL lv c) := by
    rw [nodeL_small lv h16]
    unfold OkN
    simp only [List.getD_cons_zero, List.getD_cons_succ, List.length_cons, e1, e2, flat32 hc]
    exact ⟨by omega, hlv, h16, fun h => h0 (List.eq_nil_of_length_eq_zero h), by omega⟩
  rw [parse_ok hok, nodeL_small lv h16]
  simp only [List.getD_cons_zero, List.getD_cons_succ, e1, e2, List.drop_succ_cons, List.drop_zero, cutI_flat hc]

theorem node_back {b : List UInt8} {lv : Nat} {c : Ids} (h : parseF b = some (lv, c)) : b = nodeL lv c := by
  by_cases hok : OkN b
  · rw [parse_ok hok] at h
    simp only [Option.some.injEq, Prod.mk.injEq] at h
    obtain ⟨rfl, rfl⟩ := h
    match b, hok with
    | [], hok => have := hok.1; simp at this
    | [_], hok => have := hok.1; simp at this
    | x :: y :: r, hok =>
      have h5 := hok.2.2.2.2
      have h3 := hok.2.2.1
      simp only [List.getD_cons_zero, List.getD_cons_succ, List.length_cons, List.drop_succ_cons, List.drop_zero] at h5 h3 ⊢
      rw [nodeL_small _ (by rw [cutI_len]; exact h3), cutI_len, cutI_back, List.take_of_length_le (by omega)]
      simp
  · rw [parse_no hok] at h; cases h

theorem join_map (lv : Nat) : ∀ cs : List Ids, (∀ c ∈ cs, parseF (nodeL lv c) = some (lv, c)) → joinF (lv : Int) (cs.map (nodeL lv)) = some cs.flatten
  | [], _ => rfl
  | c :: cs, h => by
    have hc := h c (by simp)
    rw [List.map_cons, join_ok (by rw [hc]; simp) (by rw [hc]; rfl), join_map lv cs fun d hd => h d (by simp [hd]), hc]
    rfl

theorem chunks_flat (ids : Ids) : ∀ k, ((List.range k).map (chunkL ids)).flatten = ids.take (16 * k)
  | 0 => by simp
  | k + 1 => by
    rw [List.range_succ, List.map_append, List.flatten_append, chunks_flat ids k, show 16 * (k + 1) = 16 * k + 16 by omega, List.take_add]
    simp [chunkL]

theorem join_level {lv : Nat} {ids : Ids} (h : All32 ids) (hlv : lv ≤ 3) (h0 : ids = [] → lv = 0) : joinF (lv : Int) (rlevelF lv ids) = some ids := by
  have e : rlevelF lv ids = ((List.range (max 1 (numCh ids.length))).map (chunkL ids)).map (nodeL lv) := by rw [rlevelF, List.map_map]; rfl
  rw [e, join_map lv _ fun c hc => ?_, chunks_flat, List.take_of_length_le (by rw [numCh]; omega)]
  simp only [List.mem_map, List.mem_range] at hc
  obtain ⟨i, hi, rfl⟩ := hc
  have hl := chunk_len ids i
  refine parse_node (h.chunk i) hlv (by omega) fun e => ?_
  have := congrArg List.length e
  rw [hl, List.length_nil] at this
  by_cases hn : ids = []
  · exact h0 hn
  · have : 0 < ids.length := List.length_pos_iff.2 hn
    rw [numCh] at hi
    omega

theorem Row2.sub {w : World} {vs : List Value} {ls : List (List UInt8)} (h : Row2 w vs ls) (a k : Nat) : Row2 w ((vs.drop a).take k) ((ls.drop a).take k) := by
  refine ⟨by rw [List.length_take, List.length_take, List.length_drop, List.length_drop, h.len], fun i hi => ?_⟩
  rw [List.length_take, List.length_drop] at hi
  obtain ⟨a', n, c, h1, h2⟩ := h.rd (a + i) (by omega)
  refine ⟨a', n, c, ?_, ?_⟩
  · rw [List.getElem?_take, if_pos (by omega), List.getElem?_drop, h1]
  · have e : ((ls.drop a).take k).getD i [] = ls.getD (a + i) [] := by
      rw [List.getD, List.getElem?_take, if_pos (by omega), List.getElem?_drop]; rfl
    rw [e]; exact h2

theorem rlevel_node_len {lv : Nat} {ids : Ids} (h : All32 ids) {i : Nat} (hi : i < (rlevelF lv ids).length) : ((rlevelF lv ids).getD i []).length ≤ 600 := by
  rw [rlevel_get lv ids hi]
  have h1 := nodeL_len lv (chunkL ids i) (h.chunk i) (by rw [chunk_len]; omega)
  have h2 := chunk_len ids i
  omega

set_option maxHeartbeats 1000000 in
theorem manifestWalks_walk (m : List UInt8) (a : Option Addr) (n c : Nat) (x : Int) (l : List UInt8) (w : World) (hK : KTab w) (hm : m.length = 32) (hr : RdB w a n c l) (hn : n ≤ 140737488355328) :
    Calls Tryd.prog 7 #[.agg (kaseL m a n c x).toArray] w fun e w' => e = .returned (.bool true) ∧ Chg [] w w' := by
  have hl := hr.lenB
  obtain ⟨mI, hI⟩ := eI
  apply amphoralaw15_ManifestWalks_vc
  obtain ⟨g1, w1, r1, h1⟩ := (St.start w).boxA (P := Tryd.prog) 25 (kaseL m a n c x)
  refine ⟨g1, w1, r1, (alive15_spec w1 (hK.keep0 h1.chg)).mono ?_⟩
  rintro e w2 ⟨rfl, c2⟩
  have h2 := h1.same c2
  refine ⟨_, rfl, fun h => by simp at h, fun _ => ⟨_, kase_a hm h2 (i := 0) rfl, (klarge_spec m a n c x w2 hm hn).mono ?_⟩⟩
  rintro e w3 ⟨rfl, c3⟩
  have h3 := h2.same c3
  refine ⟨_, rfl, fun _ => ⟨rfl, h3.chg⟩, fun hs => ?_⟩
  have hsm : (n : Int) * clampZ x ≤ 1500 := by simpa using hs
  refine ⟨_, kase_m hm h3 (i := 0) rfl, (rfromMaster_spec m w3 hm).mono ?_⟩
  rintro e w4 ⟨rfl, c4⟩
  obtain ⟨K, hKK⟩ : ∃ K, masterF m = K := ⟨_, rfl⟩
  have hk : K.length = 96 := by rw [← hKK]; simp
  rw [hKK]
  obtain ⟨g3, w5, r5, h5⟩ := (h3.same c4).zeroA kyZ
  obtain ⟨w6, r6, h6⟩ := h5.stA (i := 1) (v := bv K) rfl (kyS _) (by simp) (by simp [hk]) (bv_one _)
  obtain ⟨ids, hids⟩ : ∃ ids, caseIds l (clampZ x).toNat = ids := ⟨_, rfl⟩
  have hil : ids.length ≤ 1500 := by
    obtain ⟨hc1, hc2⟩ := clampZ_rng x
    rw [← hids, caseIds_len, hl]
    have : (((clampZ x).toNat * n : Nat) : Int) ≤ 1500 := by rw [Int.natCast_mul, Int.toNat_of_nonneg (by omega), Int.mul_comm]; exact hsm
    omega
  refine ⟨_, rfl, g3, w5, r5, w6, r6, _, kase_a hm h6 (i := 0) rfl, (kids_spec m a n c x l w6 hm (hr.keep0 h6.chg) hsm).mono ?_⟩
  rw [hids]
  rintro e w7 ⟨ia, im, ic, rfl, hri, c7⟩
  have h7 := h6.same c7
  have him := hri.num
  refine ⟨_, _, _, rfl, _, h7.ldA (i := 1) (l := bv K) rfl (kyA _) (kyS _) (by simp [hk]), (build_spec K ia im ic ids w7 hk (hK.keep0 h7.chg) hri (by omega)).mono ?_⟩
  rintro e w8 ⟨ga, gn, gc, gv, rfl, hO⟩
  have h8 := h7.same hO.st.chg
  have hri8 := hri.keep0 hO.st.chg
  obtain ⟨d, hd3, hb, hone, hcn2, hcn1⟩ := build_levels K ids 3 0 (by show ids.length ≤ _; simp only [capF]; omega)
  have hnl := buildF_len K 5 0 ids [] (by omega)
  have hb : buildF K 5 0 ids [] = (pre K ids (0 + d + 1), idF K ((lev K ids (0 + d)).getD 0 [])) := hb
  rw [Nat.zero_add] at hb hone hcn1
  rw [hb] at hO hnl ⊢
  simp only at hO hnl ⊢
  have hgn := hO.num
  simp only [List.length_nil] at hnl
  obtain ⟨root, hroot⟩ : ∃ q, idF K ((lev K ids d).getD 0 []) = q := ⟨_, rfl⟩
  have hrl : root.length = 32 := by rw [← hroot]; exact macF_len _ _
  have hwant : idsAt K ids (d + 1) = [root] := by
    rw [idsAt_succ, ← hroot]
    match hm : lev K ids d, hone with
    | [y], _ => rfl
  rw [hroot]
  have hcnt : cntF im = ((pre K ids (d + 1)).length, d + 1) := by
    have e1 : (TF 4 ((im + 15) / 16)).2 = d := by rw [← him]; exact hcn2
    have e2 : (pre K ids 0).length + (TF 4 ((im + 15) / 16)).1 = (pre K ids (d + 1)).length := by rw [← him]; exact hcn1
    have e0 : (pre K ids 0).length = 0 := rfl
    rw [cntF, e1]
    congr 1
    omega
  obtain ⟨g6, w9, r9, h9⟩ := (St.start w8).zeroA idZ
  obtain ⟨w10, r10, h10⟩ := h9.stA (i := 0) (v := bv root) rfl (idS _) (by simp) (by simp [hrl]) (bv_one _)
  refine ⟨_, _, _, _, _, rfl, g6, w9, r9, w10, r10, (count_spec (im : Int) w10).mono ?_⟩
  rintro e w11 ⟨rfl, hcount⟩
  rcases hcount with ⟨hbad, _⟩ | ⟨im', him', _, rfl⟩
  · omega
  obtain rfl : im = im' := by omega
  rw [hcnt]
  simp only
  refine ⟨_, _, rfl, _, neqS_nil hI none _ _, fun h => ?_, fun _ => ?_⟩
  · exfalso
    rw [hgn] at h
    simp at h
    omega
  obtain ⟨g12, w12, r12, h12⟩ := h10.litA idT (bv root) (by simp [hrl]) (by decide)
  have c12 : Chg [] w8 w12 := h12.chg
  have H : ∀ w', Chg [] w12 w' → St w [] w' [.arr g1 25 (kaseL m a n c x), .arr g3 28 (bv K)] := fun w' hc => h8.same (c12.trans hc)
  have O12 : ∀ w', Chg [] w12 w' → OwnL w7 w' ga gn gc gv (pre K ids (d + 1)) := fun w' hc => hO.same (c12.trans hc)
  have hsz : ∀ j, j ≤ d → (pre K ids j).length + (lev K ids j).length ≤ gn ∧ ((pre K ids (d + 1)).drop (pre K ids j).length).take (lev K ids j).length = lev K ids j := by
    intro j hj
    have key : ∀ k, ∃ r, pre K ids (j + 1 + k) = pre K ids j ++ lev K ids j ++ r := by
      intro k
      induction k with
      | zero => exact ⟨[], by rw [List.append_nil]; rfl⟩
      | succ k ih => obtain ⟨r, hr⟩ := ih; exact ⟨r ++ lev K ids (j + 1 + k), by rw [← List.append_assoc, ← hr]; rfl⟩
    obtain ⟨r, hr⟩ := key (d - j)
    rw [show j + 1 + (d - j) = d + 1 by omega] at hr
    refine ⟨by rw [← hgn, hr, List.length_append, List.length_append]; omega, ?_⟩
    rw [hr, List.append_assoc, List.drop_left, List.take_left]
  refine ⟨_, h10.ldA (i := 0) (l := bv root) rfl (idA _) (idS _) (by simp [hrl]), _, _, _, _, r12, fun x10 xa xn xc x12 w' => ∃ j : Nat, x12 = (j : Int) - 1 ∧ j ≤ d + 1 ∧ x10 = ((pre K ids j).length : Int) ∧ RdI w' xa xn xc (idsAt K ids j) ∧ Chg [] w12 w', fun _ _ _ _ x12 _ => (x12 + 1).toNat, ⟨d + 1, ?_, Nat.le_refl _, by rw [hgn], ?_, Chg.refl _ _⟩, ?_⟩
  · rw [wrap_i64 (by omega) (by omega)]
  · rw [hwant]
    exact ⟨by simpa using h12.rd (i := 1) rfl, fun i hi => by simp at hi; rw [hi]; exact hrl⟩
  rintro x10 xa xn xc x12 w13 ⟨j, rfl, hj, rfl, hri13, c13⟩
  refine ⟨fun h => ?_, fun h => ?_⟩
  · obtain ⟨i, rfl⟩ : ∃ i, j = i + 1 := ⟨j - 1, by simp at h; omega⟩
    have hxn : xn = (lev K ids i).length := by have := hri13.num; rw [idsAt_succ, List.length_map] at this; exact this.symm
    obtain ⟨hs1, hs2⟩ := hsz i (by omega)
    have hpl : (pre K ids (i + 1)).length = (pre K ids i).length + xn := by rw [pre_succ, List.length_append, hxn]
    obtain ⟨at', hat⟩ : ∃ q, (pre K ids i).length = q := ⟨_, rfl⟩
    rw [hat] at hpl hs1 hs2
    have wa : IntKind.wrap .i64 (((pre K ids (i + 1)).length : Int) - (xn : Int)) = (at' : Int) := by rw [hpl, wrap_i64 (by omega) (by omega)]; omega
    have wb : IntKind.wrap .i64 ((at' : Int) + (xn : Int)) = ((at' + xn : Nat) : Int) := by rw [wrap_i64 (by omega) (by omega)]; omega
    have wi : ((i + 1 : Nat) : Int) - 1 = (i : Int) := by omega
    rw [wi]
    simp only [wa, wb, Int.toNat_natCast, Nat.add_sub_cancel_left]
    have hO13 := O12 w13 c13
    have hgc := hO13.rd.le
    refine ⟨fun h => by simp at h; omega, fun _ => ⟨by omega, by omega, by omega, fun ta hsub => ?_⟩⟩
    have hrow : ∀ w', Chg [] w12 w' → Rd w' ta xn (gc - at') 1 ((gv.drop at').take xn) := fun w' hc => by
      have := (O12 w' hc).rd.sub hsub (hh := at' + xn) (by omega) (by omega) (by omega) (Nat.le_refl _)
      simpa using this
    have hrow2 : ∀ w', Chg [] w12 w' → Row2 w' ((gv.drop at').take xn) (lev K ids i) := fun w' hc => by
      have := (O12 w' hc).row2.sub at' xn
      rw [hxn, hs2] at this
      rw [hxn]
      exact this
    refine ⟨fun y w' => ∃ t : Nat, y = (t : Int) ∧ t ≤ xn ∧ Chg [] w13 w', fun y _ => xn - y.toNat, ⟨0, rfl, by omega, Chg.refl _ _⟩, ?_⟩
    rintro y w14 ⟨t, rfl, ht, c14⟩
    have d14 := c13.trans c14
    refine ⟨fun h => ?_, fun h => ?_⟩
    · have ht' : t < xn := by simp at h; omega
      obtain ⟨b, o, a', n', c', hta, hv, hrd, q⟩ := ixS (hrow w14 d14).cells (hrow2 w14 d14) (i := t) (by omega)
      obtain ⟨b2, o2, hxa, q2⟩ := hri13.ld ht'
      have d14d := d14.trans (Chg.drew [] w14)
      have hnb : n' ≤ 600 := by rw [← hrd.lenB]; exact rlevel_node_len (idsAt_all K hri.all i) (by show t < (lev K ids i).length; omega)
      have heq : (idsAt K ids (i + 1)).getD t [] = idF K ((lev K ids i).getD t []) := by
        rw [idsAt_succ, List.getD, List.getElem?_map, List.getElem?_eq_getElem (by omega)]
        simp [List.getD, show t < (lev K ids i).length by omega]
      refine ⟨b, o, hta, by omega, by omega, _, _, _, q w14 (hrow w14 d14).cells, fun w' => Chg [] w13 w', c14.trans (Chg.drew [] w14), b2, o2, hxa, by omega, by omega, _, fun w' h => (H w' (c13.trans h)).ldA (i := 1) (l := bv K) rfl (kyA _) (kyS _) (by simp [hk]), _, fun w' h => q2 w' (hri13.keep0 h), (id_spec K a' n' c' _ w14.drew hk (hK.keep0 (H _ d14d).chg) (hrd.keep0 (Chg.drew [] w14)) (by omega)).mono ?_⟩
      rintro e w15 ⟨rfl, c15⟩
      have e15 := (c14.trans (Chg.drew [] w14)).trans c15
      refine ⟨_, rfl, fun w' => Chg [] w13 w', fun _ h => h, e15, _, fun w' h => neId _ _ _ _ (macF_len _ _) (hri13.get32 ht') w', fun h => ?_, fun _ => ⟨⟨t + 1, wrap_succ ht' (by omega), by omega, e15⟩, mu_succ ht' (by omega)⟩⟩
      exfalso
      rw [heq] at h
      simp [idF] at h
    · have ht' : t = xn := by simp at h; omega
      refine (join_spec (i : Int) ta xn (gc - at') _ (lev K ids i) w14 (hrow w14 d14) (hrow2 w14 d14) (by omega) (fun k hk => by have := rlevel_node_len (idsAt_all K hri.all i) hk; show ((rlevelF i (idsAt K ids i)).getD k []).length ≤ _; omega)).mono ?_
      rw [show joinF (i : Int) (lev K ids i) = some (idsAt K ids i) from join_level (idsAt_all K hri.all i) (by omega) (idsAt_pos K ids)]
      rintro e w16 ⟨a16, n16, c16, rfl, hr16, f16⟩
      refine ⟨_, _, _, _, rfl, _, neqS_nil hI none _ _, fun h => by simp at h, fun _ => ⟨⟨i, ?_, by omega, by rw [hat], hr16, d14.trans f16⟩, ?_⟩⟩
      · rw [wrap_i64 (by omega) (by omega)]
      · rw [wrap_i64 (by omega) (by omega)] <;> omega
  · obtain rfl : j = 0 := by simp at h; omega
    refine ⟨fun _ => (rsame_spec _ _ _ (idsAt K ids 0) _ _ _ ids w13 hri13 (hri8.keep0 (c12.trans c13)) (by have := hri13.num; have : (idsAt K ids 0).length = ids.length := rfl; omega)).mono ?_, fun h => ?_⟩
    · rintro e w17 ⟨rfl, c17⟩
      have : (idsAt K ids 0 = ids) := rfl
      rw [decide_eq_true this]
      exact ⟨_, rfl, rfl, h8.chg.trans (c12.trans (c13.trans c17))⟩
    · exfalso
      have e0 : (pre K ids 0).length = 0 := rfl
      rw [e0] at h
      simp at h

end Go.Proofs.YtefnlbgkfingfaaDoor
