/- Chapter 15: the reference's level and Build; lists compared (conditions: none). -/
import Derived.Test.YtefnlbgkfingfaaDoorManiE
namespace Go.Proofs.YtefnlbgkfingfaaDoor
open Go Sx
set_option maxRecDepth 8000

def rlevelF (lv : Nat) (ids : Ids) : List (List UInt8) := (List.range (max 1 (numCh ids.length))).map fun i => nodeL lv (chunkL ids i)
theorem rlevel_nil (lv : Nat) : rlevelF lv [] = [nodeL lv []] := rfl
theorem rlevel_of (lv : Nat) {ids : Ids} (h : ids ≠ []) : rlevelF lv ids = levelF lv ids := by
  have : 0 < ids.length := List.length_pos_iff.2 h
  rw [rlevelF, levelF, Nat.max_eq_right (by rw [numCh]; omega)]

theorem rlevel_spec (lv : Nat) (a : Option Addr) (n c : Nat) (ids : Ids) (w : World) (hr : RdI w a n c ids) (hb : n ≤ 65536) :
    Calls Tryd.prog 31 #[.int .i64 (lv : Int), .slice a n c] w fun e w' => ∃ a' n' c' vs, e = .returned (.slice a' n' c') ∧ OwnL w w' a' n' c' vs (rlevelF lv ids) := by
  have hn := hr.num
  apply amphoraref15_level_vc
  refine ⟨fun xa xn xc oa on oc w' => ∃ (j : Nat) (vs : List Value), xn + 16 * j = n ∧ (j = 0 ∨ 0 < xn) ∧ RdI w xa xn xc (ids.drop (16 * j)) ∧ OwnL w w' oa on oc vs ((List.range j).map fun i => nodeL lv (chunkL ids i)), fun _ xn _ _ _ _ _ => xn, ⟨0, [], by omega, .inl rfl, by simpa using hr, OwnL.nil w⟩, ?_⟩
  rintro xa xn xc oa on oc w1 ⟨j, vs, hxn, hj, hrx, hO⟩
  have hle := hrx.rd.le
  have hon := hO.num
  simp only [List.length_map, List.length_range] at hon
  refine ⟨fun h => ?_, fun h => ?_⟩
  · have h16 : 16 < xn := by simp at h; omega
    have hp : RdI w xa 16 xc (chunkL ids j) := by
      have := hrx.sub (l := 0) (hh := 16) (m := xc) (a' := xa) ⟨fun _ => rfl, fun _ => by cases xa <;> simp [Addr.add]⟩ (by omega) (by omega) (by omega) (Nat.le_refl _)
      simpa [chunkL] using this
    refine ⟨by omega, by omega, (rnode_spec lv xa 16 xc _ w1 (hp.keep0 hO.st.chg) (by omega)).mono ?_⟩
    rintro e w2 ⟨a2, n2, c2, rfl, hf2⟩
    obtain ⟨g, w3, va, vc, w4, r3, r4, hO4⟩ := hO.push hf2 (by omega)
    refine ⟨_, _, _, rfl, _, _, _, _, r3, _, _, _, _, r4, by omega, by omega, by omega, fun ta hs => ⟨⟨j + 1, vs ++ [.slice a2 n2 c2], by omega, .inr (by omega), ?_, ?_⟩, (by show xn - 16 < xn; omega)⟩⟩
    · have := hrx.sub (l := 16) (hh := xn) (m := xc) hs (by omega) (Nat.le_refl _) hle (Nat.le_refl _)
      rw [List.drop_drop, List.take_of_length_le (by rw [List.length_drop]; omega)] at this
      exact this
    · rw [List.range_succ, List.map_append]; exact hO4
  · have h16 : xn ≤ 16 := by simp at h; omega
    refine (rnode_spec lv xa xn xc _ w1 (hrx.keep0 hO.st.chg) (by omega)).mono ?_
    rintro e w2 ⟨a2, n2, c2, rfl, hf2⟩
    obtain ⟨g, w3, va, vc, w4, r3, r4, hO4⟩ := hO.push hf2 (by omega)
    refine ⟨_, _, _, rfl, _, _, _, _, r3, _, _, _, _, r4, va, on + 1, vc, vs ++ [.slice a2 n2 c2], rfl, ?_⟩
    have e1 : ids.drop (16 * j) = chunkL ids j := by rw [chunkL, List.take_of_length_le (by rw [List.length_drop]; omega)]
    have e2 : max 1 (numCh ids.length) = j + 1 := by rw [numCh]; omega
    rw [rlevelF, e2, List.range_succ, List.map_append, List.map_singleton, ← e1]
    exact hO4

theorem rowsL_append {vs us : List Value} {ls ms : List (List UInt8)} (h : vs.length = ls.length) : rowsL (vs ++ us) (ls ++ ms) = rowsL vs ls ++ rowsL us ms := by
  rw [rowsL, List.zipWith_append h]; rfl

theorem HdOk.app {vs us : List Value} {ls ms : List (List UInt8)} (h : HdOk vs ls) (k : HdOk us ms) : HdOk (vs ++ us) (ls ++ ms) := by
  refine ⟨by rw [List.length_append, List.length_append, h.1, k.1], fun i hi => ?_⟩
  by_cases hl : i < ls.length
  · obtain ⟨a, c, h1⟩ := h.2 i hl
    refine ⟨a, c, ?_⟩
    rw [List.getElem?_append_left (by have := h.1; omega), h1]
    simp [List.getD, List.getElem?_append_left hl]
  · obtain ⟨a, c, h1⟩ := k.2 (i - ls.length) (by rw [List.length_append] at hi; omega)
    refine ⟨a, c, ?_⟩
    rw [List.getElem?_append_right (by have := h.1; omega), h.1, h1]
    simp [List.getD, List.getElem?_append_right (by omega : ls.length ≤ i)]

theorem HdOk.one {vs : List Value} {ls : List (List UInt8)} (h : HdOk vs ls) : ∀ u ∈ vs, u.oneCell' = true := by
  intro u hu
  obtain ⟨i, hi⟩ := List.getElem?_of_mem hu
  obtain ⟨a, c, h1⟩ := h.2 i (by have := (List.getElem?_eq_some_iff.1 hi).1; have := h.1; omega)
  rw [h1] at hi
  obtain rfl := Option.some.inj hi
  rfl

theorem Sx.St.fmt {w0 w : World} {X : List Nat} {A Y S : List Res} {t z : Res} (h : St w0 X w (((A ++ Y) ++ (t :: S)) ++ [z])) : St w0 X w ((A ++ [t, z]) ++ (Y ++ S)) := by
  refine h.perm ?_
  rw [List.append_assoc, List.append_assoc, List.append_assoc]
  refine List.Perm.append_left A ?_
  refine List.perm_middle.trans ?_
  refine List.Perm.cons t ?_
  show List.Perm (Y ++ (S ++ [z])) (z :: (Y ++ S))
  rw [← List.append_assoc]
  exact List.perm_append_singleton z _

/-- What the reference's Build holds. -/
def rM (K z : List UInt8) (g2 g5 : Nat) (oa : Option Addr) (on oc : Nat) (vs : List Value) (t cur : Res) : List Res :=
  [.arr g2 28 (bv K), .arr g5 33 (bv z), .row 23 1 (.slice oa on oc) on vs, t, cur]

theorem rlevel_len (lv : Nat) (ids : Ids) : (rlevelF lv ids).length = max 1 (numCh ids.length) := by simp [rlevelF]
theorem rlevel_get (lv : Nat) (ids : Ids) {i : Nat} (h : i < (rlevelF lv ids).length) : (rlevelF lv ids).getD i [] = nodeL lv (chunkL ids i) := by
  rw [rlevel_len] at h
  rw [rlevelF, List.getD, List.getElem?_map, List.getElem?_range h]
  rfl

set_option maxHeartbeats 1000000 in
theorem rbuild_spec (K : List UInt8) (a1 : Option Addr) (n1 c1 : Nat) (ids : Ids) (w : World) (hk : K.length = 96) (hr : RdI w a1 n1 c1 ids) (hn : n1 ≤ 65536) :
    Calls Tryd.prog 13 #[.agg (bv K).toArray, .slice a1 n1 c1] w fun e w' => ∃ a n c vs, e = .returned (.tuple #[.slice a n c, .agg (bv (buildF K 5 0 ids []).2).toArray, .int .i64 0]) ∧ OwnL w w' a n c vs (buildF K 5 0 ids []).1 := by
  have hnum := hr.num
  apply amphoraref15_Build_vc
  obtain ⟨g2, w1, r1, h1⟩ := (St.start w).boxA 28 (bv K)
  obtain ⟨g5, w2, r2, h2⟩ := h1.zeroA idZ
  refine ⟨g2, w1, r1, g5, w2, r2, fun h => by simp at h; omega, fun _ => ?_⟩
  have h2' : St w [] w2 (rM K (List.replicate 32 0) g2 g5 none 0 0 [] Res.emp Res.emp ++ rowsL [] []) := ((h2.addNil 23 1).addNil 0 0).addNil 0 0
  refine ⟨fun xa xn xc oa on oc x w' => ∃ f lv idsC out vs cur, x = ((lv : Nat) : Int) ∧ lv + f = 4 ∧ idsC.length ≤ capF f ∧ idsC.length = xn ∧ xn ≤ 65536 ∧ out.length ≤ 65536 * lv ∧ CurOk w xa xn xc idsC cur ∧ HdOk vs out ∧ (idsC = [] → out = []) ∧ buildF K (f + 1) lv idsC out = buildF K 5 0 ids [] ∧
      St w [] w' (rM K (List.replicate 32 0) g2 g5 oa on oc vs Res.emp cur ++ rowsL vs out),
    fun _ _ _ _ _ _ x _ => (5 - x).toNat, ⟨4, 0, ids, [], [], Res.emp, rfl, rfl, by simp only [capF]; omega, hnum, hn, by simp, .inl ⟨rfl, hr⟩, ⟨rfl, by simp⟩, fun _ => rfl, rfl, h2'⟩, ?_⟩
  rintro xa xn xc oa on oc x w4 ⟨f, lv, idsC, out, vs, cur, rfl, hlf, hcap, hxl, hx65, hout, hcur, hhd, hnil, hbf, h4⟩
  refine ⟨fun _ => ?_, fun h => by simp at h; omega⟩
  refine (rlevel_spec lv xa xn xc idsC w4 (hcur.rd h4 rfl) hx65).mono ?_
  rintro e w5 ⟨ta, tn, tc, us, rfl, hO⟩
  obtain ⟨ls, hls⟩ : ∃ ls, rlevelF lv idsC = ls := ⟨_, rfl⟩
  rw [hls] at hO
  have htn := hO.num
  have hll : ls.length = max 1 (numCh xn) := by rw [← hls, rlevel_len, hxl]
  have hll2 : ls.length ≤ 4097 := by rw [hll, numCh]; omega
  have hus : HdOk us ls := ⟨hO.len, hO.hd⟩
  have hon : on = out.length := by
    have := (h4.rd (i := 2) (xs := vs) rfl).len
    have := hhd.1
    omega
  have h5 : St w [] w5 ((rM K (List.replicate 32 0) g2 g5 oa on oc vs Res.emp cur ++ rowsL vs out) ++ (.row 23 1 (.slice ta tn tc) tn us :: rowsL us ls)) := St.callPart (N := []) (by rw [List.append_nil]; exact h4) hO.st
  obtain ⟨va, vc, w6, r6, h6, _, _⟩ := h5.append (i := 2) (ty := 32) bbT rfl hO.rd hus.one (by omega) (by simp only [maxLen]; omega)
  have h6' : St w [] w6 ((([.arr g2 28 (bv K), .arr g5 33 (bv (List.replicate 32 0)), .row 23 1 (.slice va (on + tn) vc) (on + tn) (vs ++ us)] ++ ([Res.emp, cur] ++ rowsL vs out)) ++ (.row 23 1 (.slice ta tn tc) tn us :: rowsL us ls)) ++ [.row 33 32 (.slice none 0 0) 0 []]) := St.addNil h6 _ _
  have h7 : St w [] w6 (rM K (List.replicate 32 0) g2 g5 va (on + tn) vc (vs ++ us) (.row 23 1 (.slice ta tn tc) tn us) (.row 33 32 (.slice none 0 0) 0 []) ++ rowsL (vs ++ us) (out ++ ls)) := by
    have := St.fmt h6'
    rw [rowsL_append hhd.1]
    refine this.sub (List.Sublist.append (List.Sublist.refl _) ?_)
    rw [List.append_assoc]
    exact List.sublist_append_right _ _
  refine ⟨_, _, _, rfl, _, _, _, _, r6, fun ya yn yc y w' => ∃ j : Nat, y = (j : Int) ∧ j ≤ tn ∧ yn = j ∧ St w [] w' (rM K (List.replicate 32 0) g2 g5 va (on + tn) vc (vs ++ us) (.row 23 1 (.slice ta tn tc) tn us) (.row 33 32 (.slice ya yn yc) yn (bv ((ls.take j).map (idF K)).flatten)) ++ rowsL (vs ++ us) (out ++ ls)), fun _ _ _ y _ => tn - y.toNat, ⟨0, rfl, by omega, rfl, by simpa using h7⟩, ?_⟩
  rintro ya yn yc y w7 ⟨j, rfl, hj, rfl, h7⟩
  have hO7 : OwnL w w7 ta tn tc us ls := by
    refine ⟨h7.sub ?_, hus.1, hus.2⟩
    rw [rowsL_append hhd.1]
    exact List.Sublist.cons _ (List.Sublist.cons _ (List.Sublist.cons _ (List.Sublist.cons_cons _ (List.Sublist.cons _ (List.sublist_append_right _ _)))))
  refine ⟨fun h => ?_, fun h => ?_⟩
  · have hj' : yn < tn := by simp at h; omega
    have hOd := hO7.same (Chg.drew [] w7)
    have h7d := h7.drew
    obtain ⟨b, o, a', n', c', hta, hv, hrd, q⟩ := ixS hOd.rd.cells hOd.row2 (i := yn) (by omega)
    have hnl : n' ≤ 600 := by
      have h1 := hrd.lenB
      rw [← hls, rlevel_get lv idsC (by rw [hls]; omega)] at h1
      have h2 := nodeL_len lv (chunkL idsC yn) ((hcur.rd h4 rfl).all.chunk yn) (by rw [chunk_len]; omega)
      have h3 := chunk_len idsC yn
      omega
    refine ⟨fun w' => ∃ N, St w [] w' N ∧ N[0]? = some (.arr g2 28 (bv K)) ∧ N[3]? = some (.row 23 1 (.slice ta tn tc) tn us), ⟨_, h7d, rfl, rfl⟩, b, o, hta, by omega, by omega, _, ?_, _, _, _, ?_, (rid_spec K a' n' c' _ w7.drew hk hrd (by omega)).mono ?_⟩
    · rintro w' ⟨N, hN, e0, _⟩
      exact hN.ldA e0 (kyA _) (kyS _) (by simp [hk])
    · rintro w' ⟨N, hN, _, e3⟩
      exact q w' (hN.rd e3).cells
    rintro e w8 ⟨rfl, c8⟩
    have h8 := h7d.same c8
    have hil : (idF K (ls.getD yn [])).length = 32 := macF_len _ _
    obtain ⟨g9, w9, vb, vd, w10, r9, r10, h10, h9⟩ := h8.pushA (i := 4) (ty := 30) idT rfl (bv (idF K (ls.getD yn []))) (by rw [bv_length]; exact hil) (by decide) (bv_one _) (by omega) (by simp only [maxLen]; omega)
    have e : bv ((ls.take (yn + 1)).map (idF K)).flatten = bv ((ls.take yn).map (idF K)).flatten ++ bv (idF K (ls.getD yn [])) := by
      rw [List.take_add_one, List.getElem?_eq_getElem (by omega), List.map_append, List.flatten_append, bv_append]
      simp [List.getD, show yn < ls.length by omega]
    refine ⟨_, rfl, _, fun _ h => h, ⟨_, h8, rfl, rfl⟩, _, _, _, _, r9, _, fun _ h => h, ⟨_, h9, rfl, rfl⟩, _, _, _, _, r10, _, fun _ h => h, ⟨_, h10, rfl, rfl⟩, ⟨yn + 1, wrap_succ hj' (by omega), by omega, rfl, ?_⟩, mu_succ hj' (by omega)⟩
    rw [e]
    exact h10
  · have hj' : yn = tn := by simp at h; omega
    subst hj'
    rw [List.take_of_length_le (by omega)] at h7
    have hra : RdI w7 ya yn yc (ls.map (idF K)) := ⟨h7.rd (i := 4) rfl, All32.mapId K _⟩
    have hyc := hra.rd.le
    refine ⟨fun h => ?_, fun h => ?_⟩
    · have hone : yn = 1 := by simp at h; omega
      have hl1 : ls.length = 1 := by omega
      have hroot : (ls.map (idF K)).getD 0 [] = idF K (ls.getD 0 []) := by
        match hm : ls, hl1 with
        | [x], _ => rfl
      have hfin : buildF K (f + 1) lv idsC out = (out ++ ls, idF K (ls.getD 0 [])) := by
        by_cases h0 : idsC = []
        · have := hnil h0
          subst h0 this
          rw [buildF_nil, ← hls, rlevel_nil]; rfl
        · rw [rlevel_of lv h0] at hls
          rw [buildF_one h0 (by rw [hls]; exact hl1), hls]
      obtain ⟨b, o, hya, q⟩ := (hra.keep0 (Chg.drew [] w7)).ld (i := 0) (by omega)
      have q0 := q w7.drew (hra.keep0 (Chg.drew [] w7))
      rw [hroot] at q0
      obtain ⟨w11, r11, h11⟩ := h7.drew.stA (i := 1) (v := bv (idF K (ls.getD 0 []))) rfl (idS _) (by simp) (by simp [idF]) (bv_one _)
      refine ⟨fun w' => w' = w7.drew, rfl, b, o, hya, by omega, by omega, _, fun w' h => by rw [h]; exact q0, w11, r11, _, h11.ldVarA (i := 1) (l := bv (idF K (ls.getD 0 []))) rfl (idA _) (idS _) (by simp [idF]), va, on + yn, vc, vs ++ us, ?_, ?_⟩
      · rw [← hbf, hfin]
      · rw [← hbf, hfin]
        refine ⟨h11.sub ?_, (hhd.app hus).1, (hhd.app hus).2⟩
        exact List.Sublist.cons _ (List.Sublist.cons _ (List.Sublist.cons_cons _ (List.Sublist.cons _ (List.Sublist.cons _ (List.Sublist.refl _)))))
    · have hne : yn ≠ 1 := by simp at h; omega
      have h0 : idsC ≠ [] := fun e => by
        rw [e, rlevel_nil] at hls
        rw [← hls] at htn
        exact hne htn.symm
      rw [rlevel_of lv h0] at hls
      have hnc : yn = numCh xn := by have := levelF_len lv idsC; rw [hls, hxl] at this; omega
      obtain ⟨f', rfl⟩ : ∃ f', f = f' + 1 := by
        cases f with
        | zero => exfalso; simp only [capF] at hcap; rw [numCh] at hnc; omega
        | succ f' => exact ⟨f', rfl⟩
      have hw : IntKind.wrap .i64 ((lv : Int) + 1) = ((lv + 1 : Nat) : Int) := by rw [wrap_i64 (by omega) (by omega)]; rfl
      rw [hw]
      refine ⟨⟨f', lv + 1, ls.map (idF K), out ++ ls, vs ++ us, .row 33 32 (.slice ya yn yc) yn (bv (ls.map (idF K)).flatten), rfl, by omega, ?_, by rw [List.length_map]; omega, by omega, ?_, .inr ⟨All32.mapId K _, rfl⟩, hhd.app hus, fun e => ?_, ?_, ?_⟩, (by show (5 - ((lv + 1 : Nat) : Int)).toNat < (5 - (lv : Int)).toNat; omega)⟩
      · rw [List.length_map, htn, hnc, numCh]; simp only [capF] at hcap; omega
      · rw [List.length_append]; omega
      · have := congrArg List.length e
        rw [List.length_map, htn] at this
        rw [numCh] at hnc
        have : 0 < idsC.length := List.length_pos_iff.2 h0
        simp only [List.length_nil] at *
        omega
      · rw [← hbf, buildF_more h0 (by rw [hls]; omega), hls]
      · have h7a : St w [] w7 (rM K (List.replicate 32 0) g2 g5 va (on + yn) vc (vs ++ us) Res.emp (.row 33 32 (.slice ya yn yc) yn (bv (ls.map (idF K)).flatten)) ++ rowsL (vs ++ us) (out ++ ls)) := h7.free 3 (by simp [rM])
        exact h7a

theorem same_spec (a : Option Addr) (n c : Nat) (vs : List Value) (a2 : Option Addr) (n2 c2 : Nat) (us : List Value) (ls : List (List UInt8)) (w : World) (hr : Rd w a n c 1 vs) (h2 : Row2 w vs ls) (hr2 : Rd w a2 n2 c2 1 us) (h22 : Row2 w us ls) (hb : n ≤ 4611686018427387904) :
    Calls Tryd.prog 14 #[.slice a n c, .slice a2 n2 c2] w fun e w' => e = .returned (.bool true) ∧ Chg [] w w' := by
  have e1 : ls.length = n := by have := hr.len; have := h2.len; omega
  have e2 : ls.length = n2 := by have := hr2.len; have := h22.len; omega
  apply amphoralaw15_same_vc
  refine ⟨fun h => by simp at h; omega, fun _ => ⟨fun x w' => ∃ i : Nat, x = (i : Int) ∧ i ≤ n ∧ Chg [] w w', fun x _ => n - x.toNat, ⟨0, rfl, by omega, Chg.refl _ _⟩, ?_⟩⟩
  rintro x w1 ⟨i, rfl, hi, hc⟩
  refine ⟨fun h => ?_, fun h => ⟨rfl, hc⟩⟩
  have hi' : i < n := by simp at h; omega
  have hd := hc.trans (Chg.drew [] w1)
  obtain ⟨b, o, a', n', c', ha, hv, hrd, q⟩ := ixS hr.cells h2 (i := i) (by omega)
  obtain ⟨b2, o2, a2', n2', c2', ha2, hv2, hrd2, q2⟩ := ixS hr2.cells h22 (i := i) (by omega)
  exact ⟨fun w' => Chg [] w w', hd, b, o, ha, by omega, by omega, b2, o2, ha2, by omega, by omega, _, _, _, fun w' h => q w' (hr.cells.keep0 h), _, fun w' h => toStr bS bE sS (hrd.cells.keep0 h) hrd.lenB, _, _, _, fun w' h => q2 w' (hr2.cells.keep0 h), _, fun w' h => toStr bS bE sS (hrd2.cells.keep0 h) hrd2.lenB,
    fun h => by simp at h, fun _ => ⟨⟨i + 1, wrap_succ hi' hb, by omega, hd⟩, mu_succ hi' hb⟩⟩

theorem neId (x y : Operand) (l m : List UInt8) (hl : l.length = 32) (hm : m.length = 32) (w : World) : (eqlS .neq 33 x y (.agg (bv l).toArray) (.agg (bv m).toArray)).run Tryd.prog w = .ok (.bool (!decide (l = m))) w := by
  rw [bv_ints, bv_ints]
  have := (eqlS_arrG (P := Tryd.prog) (T := 33) Tryd.underlying33 bE sB1 (fun w => Tryd.isAgg5 w) (by kernel_rfl) x y (l.map fun b => (b.toNat : Int)) (m.map fun b => (b.toNat : Int)) (by simp [hl]) (by simp [hm]) w).2
  simpa only [bvI_inj] using this

theorem rsame_spec (a : Option Addr) (n c : Nat) (ids : Ids) (a2 : Option Addr) (n2 c2 : Nat) (ids2 : Ids) (w : World) (hr : RdI w a n c ids) (hr2 : RdI w a2 n2 c2 ids2) (hb : n ≤ 4611686018427387904) :
    Calls Tryd.prog 16 #[.slice a n c, .slice a2 n2 c2] w fun e w' => e = .returned (.bool (decide (ids = ids2))) ∧ Chg [] w w' := by
  have e1 := hr.num
  have e2 := hr2.num
  apply amphoraref15_Same_vc
  refine ⟨fun h => ?_, fun h => ?_⟩
  · have hne : ids ≠ ids2 := fun e => by subst e; simp at h; omega
    rw [decide_eq_false hne]
    exact ⟨rfl, Chg.refl _ _⟩
  have hnn : n = n2 := by simp at h; omega
  refine ⟨fun x w' => ∃ i : Nat, x = (i : Int) ∧ i ≤ n ∧ Chg [] w w' ∧ ids.take i = ids2.take i, fun x _ => n - x.toNat, ⟨0, rfl, by omega, Chg.refl _ _, rfl⟩, ?_⟩
  rintro x w1 ⟨i, rfl, hi, hc, ht⟩
  refine ⟨fun h => ?_, fun h => ?_⟩
  · have hi' : i < n := by simp at h; omega
    have hd := hc.trans (Chg.drew [] w1)
    obtain ⟨b, o, ha, q⟩ := hr.ld hi'
    obtain ⟨b2, o2, ha2, q2⟩ := hr2.ld (i := i) (by omega)
    have l1 := hr.get32 hi'
    have l2 := hr2.get32 (i := i) (by omega)
    refine ⟨fun w' => Chg [] w w', hd, b, o, ha, by omega, by omega, b2, o2, ha2, by omega, by omega, _, fun w' h => q w' (hr.keep0 h), _, fun w' h => q2 w' (hr2.keep0 h), _, fun w' h => neId _ _ _ _ l1 l2 w', fun h => ?_, fun h => ?_⟩
    · have hne : ids ≠ ids2 := fun e => by subst e; simp at h
      rw [decide_eq_false hne]
      exact ⟨rfl, hd⟩
    · have he : ids.getD i [] = ids2.getD i [] := by simpa using h
      refine ⟨⟨i + 1, wrap_succ hi' hb, by omega, hd, ?_⟩, mu_succ hi' hb⟩
      rw [List.take_add_one, List.take_add_one, ht]
      rw [List.getD, List.getD, List.getElem?_eq_getElem (by omega), List.getElem?_eq_getElem (by omega)] at he
      simp only [Option.getD_some] at he
      rw [List.getElem?_eq_getElem (by omega), List.getElem?_eq_getElem (by omega), he]
  · have hi' : i = n := by simp at h; omega
    rw [hi', List.take_of_length_le (by omega), List.take_of_length_le (by omega)] at ht
    rw [decide_eq_true ht]
    exact ⟨rfl, hc⟩

end Go.Proofs.YtefnlbgkfingfaaDoor
