/- The contract of manifest.Build, whole (conditions: the table lies where the program laid it; at most 65536 identifiers). -/
import Derived.Test.YtefnlbgkfingfaaDoorManiC
namespace Go.Proofs.YtefnlbgkfingfaaDoor
open Go Sx
set_option maxRecDepth 8000

def capF : Nat → Nat
  | 0 => 1
  | f + 1 => 16 * capF f

theorem Sx.St.insL {w0 w : World} {X : List Nat} {A R N : List Res} (h : St w0 X w ((A ++ R) ++ N)) : St w0 X w ((A ++ N) ++ R) :=
  h.perm (by rw [List.append_assoc, List.append_assoc]; exact List.Perm.append_left A List.perm_append_comm)

theorem Sx.St.frontD {w0 w : World} {X : List Nat} {A D B : List Res} (h : St w0 X w (A ++ (D ++ B))) : St w0 X w (D ++ (A ++ B)) :=
  h.perm (by rw [← List.append_assoc, ← List.append_assoc]; exact List.Perm.append_right B List.perm_append_comm)

theorem buildF_nil (K : List UInt8) (f lv : Nat) (out : List (List UInt8)) : buildF K (f + 1) lv [] out = ([nodeL lv []], idF K (nodeL lv [])) := rfl
theorem buildF_one {K : List UInt8} {f lv : Nat} {ids : Ids} {out : List (List UInt8)} (h0 : ids ≠ []) (h : (levelF lv ids).length = 1) : buildF K (f + 1) lv ids out = (out ++ levelF lv ids, idF K ((levelF lv ids).getD 0 [])) := by rw [buildF, if_neg h0, if_pos h]
theorem buildF_more {K : List UInt8} {f lv : Nat} {ids : Ids} {out : List (List UInt8)} (h0 : ids ≠ []) (h : (levelF lv ids).length ≠ 1) : buildF K (f + 1) lv ids out = buildF K f (lv + 1) ((levelF lv ids).map (idF K)) (out ++ levelF lv ids) := by rw [buildF, if_neg h0, if_neg h]

set_option maxHeartbeats 1000000 in
theorem build_spec (K : List UInt8) (a1 : Option Addr) (n1 c1 : Nat) (ids : Ids) (w : World) (hk : K.length = 96) (hK : KTab w) (hr : RdI w a1 n1 c1 ids) (hn : n1 ≤ 65536) :
    Calls Tryd.prog 12 #[.agg (bv K).toArray, .slice a1 n1 c1] w fun e w' => ∃ a n c vs, e = .returned (.tuple #[.slice a n c, .agg (bv (buildF K 5 0 ids []).2).toArray, errV none]) ∧ OwnL w w' a n c vs (buildF K 5 0 ids []).1 := by
  have hnum := hr.num
  apply manifest_Build_vc
  obtain ⟨g2, w1, r1, h1⟩ := (St.start w).boxA 28 (bv K)
  obtain ⟨g5, w2, r2, h2⟩ := h1.zeroA idZ
  refine ⟨g2, w1, r1, g5, w2, r2, fun h => by simp at h; omega, fun _ => ?_⟩
  obtain ⟨g7, w5, r5, h5⟩ := h2.zero (P := Tryd.prog) (T := 32) (z := .slice none 0 0) Tryd.zeroValue32
  have h5b := (h5.addNil 23 1).addNil 0 0
  obtain ⟨g8, w6, r6, h6⟩ := h5b.zero (P := Tryd.prog) (T := 3) (z := .int .i64 0) Tryd.zeroValue3
  obtain ⟨w7, r7, h7⟩ := h6.stL (i := 5) (o := 0) (l := [.int .i64 0]) (T := 3) (v := .int .i64 0) rfl (iS _) rfl (by simp) rfl
  have h7' : St w [] w7 (bM1 K (List.replicate 32 0) g2 g5 g7 none 0 0 [] Res.emp g8 0 ++ (dmarks [] ++ rowsL [] [])) := h7
  refine ⟨g7, w5, r5, g8, w6, r6, w7, r7, fun ds xa xn xc x8b x8o w' => x8o = 0 ∧ ∃ f lv idsC out oa on oc vs cur, lv + f = 4 ∧ idsC.length ≤ capF f ∧ idsC.length = xn ∧ xn ≤ 65536 ∧ xn ≤ xc ∧ out.length ≤ 65536 * lv ∧ CurOk w xa xn xc idsC cur ∧ HdOk vs out ∧ buildF K (f + 1) lv idsC out = buildF K 5 0 ids [] ∧
      St w [] w' (bM1 K (List.replicate 32 0) g2 g5 g7 oa on oc vs cur x8b lv ++ (dmarks ds ++ rowsL vs out)), fun _ xn _ _ _ _ => xn, ⟨rfl, 4, 0, ids, [], none, 0, 0, [], Res.emp, rfl, by simp only [capF]; omega, hnum, hn, hr.rd.le, by simp, .inl ⟨rfl, hr⟩, ⟨rfl, by simp⟩, rfl, h7'⟩, ?_⟩
  rintro xa xn xc x8b x8o ds w8 ⟨rfl, f, lv, idsC, out, oa, on, oc, vs, cur, hlf, hcap, hxl, hx65, hxc, hout, hcur, hhd, hbf, h8⟩
  obtain ⟨g9, w9, r9, h9⟩ := h8.zero (P := Tryd.prog) (T := 30) (z := .slice none 0 0) Tryd.zeroValue30
  have h9 : St w [] w9 ((bM1 K (List.replicate 32 0) g2 g5 g7 oa on oc vs cur x8b lv ++ (dmarks ds ++ rowsL vs out)) ++ [.arr g9 30 [.slice none 0 0]]) := h9
  have h9b := (St.ins h9).addNil 33 32
  have h9c := St.ins h9b
  refine ⟨g9, w9, r9, (chunk_spec xa xn xc w9).mono ?_⟩
  rintro e w10 ⟨gs, gn, rfl, hgs⟩
  have h10 : St w [] w10 (bM1 K (List.replicate 32 0) g2 g5 g7 oa on oc vs cur x8b lv ++ bM2 g9 none 0 0 [] gs gn xa xn xc ++ (dmarks ds ++ rowsL vs out)) := by
    have := St.callPart (N := []) (by rw [List.append_nil]; exact h9c) hgs
    have h := St.insL this
    simpa [bM2, List.append_assoc] using h
  refine ⟨_, rfl, _, build_hole (ids := idsC) hk hK hcur hx65 hxc (by omega) hhd h10, ?_⟩
  rintro D w11 ⟨oa, on, oc, vs', aa, an, ac, hhd', h11⟩
  have hz11 := Chg.refl [] w11
  refine ⟨fun h => ?_, fun h => ?_⟩
  · -- no identifiers
    have hx0 : xn = 0 := by simp at h; omega
    have hi0 : idsC = [] := List.eq_nil_of_length_eq_zero (by omega)
    subst hi0
    have hl0 : levelF lv [] = [] := rfl
    rw [hl0, List.append_nil] at h11 hhd'
    refine ⟨(lv : Int), h11.ldL (i := 5) (l := [.int .i64 (lv : Int)]) rfl (iA _) rfl rfl, (node_spec lv none 0 0 [] w11 (RdI.nil w11) (by omega)).mono ?_⟩
    rintro e w12 ⟨a12, n12, c12, rfl, hf12⟩
    have h12 := hf12.add h11
    have en12 := hf12.2.1
    have hnl := nodeL_len lv [] All32.nil (by simp)
    obtain ⟨g13, w13, r13, h13⟩ := h12.lit bbT [.slice a12 n12 c12] (by simp [Value.oneCell']) (by simp)
    refine ⟨_, _, _, rfl, _, _, _, _, r13, _, h13.ldA (i := 0) (l := bv K) rfl (kyA _) (kyS _) (by simp [hk]), (id_spec K a12 n12 c12 (nodeL lv []) w13 hk (hK.keep0 h13.chg) (hf12.rdB.keep0 ?_) (by simp at hnl; omega)).mono ?_⟩
    · obtain ⟨g', w', r', h'⟩ := (St.start w12).lit bbT [.slice a12 n12 c12] (by simp [Value.oneCell']) (by simp)
      have e := r13.symm.trans r'
      simp only [Result.ok.injEq] at e
      rw [e.2]
      exact h'.chg
    rintro e w14 ⟨rfl, c14⟩
    obtain ⟨w15, r15, h15⟩ := (h13.same c14).stA (i := 1) (v := bv (idF K (nodeL lv []))) rfl (idS _) (by simp) (by simp [idF]) (bv_one _)
    have h15' : St w [] w15 ((bM1 K (idF K (nodeL lv [])) g2 g5 g7 oa on oc vs' cur x8b lv ++ bM2 g9 aa an ac (([] : List (List UInt8)).map (idF K)) gs gn xa xn xc) ++ (dmarks (D :: ds) ++ (rowsL vs' out ++ [.row 5 1 (.slice a12 n12 c12) n12 (bv (nodeL lv [])), .row 23 1 (.slice (some ⟨g13, 0, none⟩) 1 1) 1 [.slice a12 n12 c12]]))) := by
      have h := h15
      simp only [List.append_assoc] at h ⊢
      exact h
    refine ⟨_, rfl, w15, r15, St.downs (St.frontD h15') fun w16 h16 => ⟨_, h16.ldVarA (i := 1) (l := bv (idF K (nodeL lv []))) rfl (idA _) (idS _) (by simp [idF]), ⟨_, rfl⟩, some ⟨g13, 0, none⟩, 1, 1, [.slice a12 n12 c12], ?_, ?_⟩⟩
    · rw [← hbf, buildF_nil]; rfl
    · rw [← hbf, buildF_nil]
      have hs : St w [] w16 [.row 5 1 (.slice a12 n12 c12) n12 (bv (nodeL lv [])), .row 23 1 (.slice (some ⟨g13, 0, none⟩) 1 1) 1 [.slice a12 n12 c12]] := h16.sub ((List.sublist_append_right _ _).trans (List.sublist_append_right _ _))
      have hp := hs.perm (List.Perm.swap _ _ _)
      subst en12
      exact ⟨hp, rfl, fun i hi => ⟨a12, c12, (show i = 0 by simp at hi; omega) ▸ rfl⟩⟩
  · have hx0 : xn ≠ 0 := by simp at h; omega
    have hi0 : idsC ≠ [] := fun e => hx0 (by rw [← hxl, e]; rfl)
    have hll := levelF_len lv idsC
    have hra : RdI w11 aa an ac ((levelF lv idsC).map (idF K)) := ⟨h11.rd (i := 7) rfl, All32.mapId K _⟩
    have han : an = numCh xn := by have := hra.num; rw [List.length_map, hll, hxl] at this; exact this.symm
    have hac := hra.rd.le
    refine ⟨_, _, _, h11.ldL (i := 6) (l := [.slice aa an ac]) rfl (idsA _) rfl rfl, fun h => ?_, fun h => ?_⟩
    · -- the root
      have hone : an = 1 := by simp at h; omega
      have hl1 : (levelF lv idsC).length = 1 := by rw [hll, hxl, ← han]; exact hone
      have h11d := h11.drew
      obtain ⟨b, o, hba, q⟩ := (hra.keep0 (Chg.drew [] w11)).ld (i := 0) (by omega)
      have hroot : ((levelF lv idsC).map (idF K)).getD 0 [] = idF K ((levelF lv idsC).getD 0 []) := by
        match hm : levelF lv idsC, hl1 with
        | [x], _ => rfl
      have q0 := q w11.drew (hra.keep0 (Chg.drew [] w11))
      rw [hroot] at q0
      obtain ⟨w17, r17, h17⟩ := h11d.stA (i := 1) (v := bv (idF K ((levelF lv idsC).getD 0 []))) rfl (idS _) (by simp) (by simp [idF]) (bv_one _)
      have h17' : St w [] w17 ((bM1 K (idF K ((levelF lv idsC).getD 0 [])) g2 g5 g7 oa on oc vs' cur x8b lv ++ bM2 g9 aa an ac ((levelF lv idsC).map (idF K)) gs gn xa xn xc) ++ (dmarks (D :: ds) ++ rowsL vs' (out ++ levelF lv idsC))) := h17
      refine ⟨fun w' => w' = w11.drew, rfl, _, _, _, fun w' h => by rw [h]; exact h11d.ldL (i := 2) (l := [.slice oa on oc]) rfl (bbA _) rfl rfl, _, _, _, fun w' h => by rw [h]; exact h11d.ldL (i := 6) (l := [.slice aa an ac]) rfl (idsA _) rfl rfl, b, o, hba, by omega, by omega, _, fun w' h => by rw [h]; exact q0, w17, r17,
        St.downs (St.frontD h17') fun w18 h18 => ⟨_, h18.ldVarA (i := 1) (l := bv (idF K ((levelF lv idsC).getD 0 []))) rfl (idA _) (idS _) (by simp [idF]), ⟨_, rfl⟩, oa, on, oc, vs', ?_, ?_⟩⟩
      · rw [← hbf, buildF_one hi0 hl1]; rfl
      · rw [← hbf, buildF_one hi0 hl1]
        refine ⟨h18.sub ?_, hhd'.1, hhd'.2⟩
        have : List.Sublist [Res.row 23 1 (.slice oa on oc) on vs'] (bM1 K (idF K ((levelF lv idsC).getD 0 [])) g2 g5 g7 oa on oc vs' cur x8b lv ++ bM2 g9 aa an ac ((levelF lv idsC).map (idF K)) gs gn xa xn xc) := by
          rw [bM1]
          exact List.Sublist.cons _ (List.Sublist.cons _ (List.Sublist.cons _ (List.Sublist.cons_cons _ (List.nil_sublist _))))
        exact List.Sublist.append this (List.Sublist.refl _)
    · have hne : an ≠ 1 := by simp at h; omega
      have hl1 : (levelF lv idsC).length ≠ 1 := by rw [hll, hxl, ← han]; exact hne
      obtain ⟨f', rfl⟩ : ∃ f', f = f' + 1 := by
        cases f with
        | zero => exfalso; simp only [capF] at hcap; apply hne; rw [han, numCh]; omega
        | succ f' => exact ⟨f', rfl⟩
      obtain ⟨g8', w19, r19, h19⟩ := h11.zero (P := Tryd.prog) (T := 3) (z := .int .i64 0) Tryd.zeroValue3
      have h19b : St w [] w19 ((bM1 K (List.replicate 32 0) g2 g5 g7 oa on oc vs' cur x8b lv ++ bM2 g9 aa an ac ((levelF lv idsC).map (idF K)) gs gn xa xn xc ++ [.arr g8' 3 [.int .i64 0]]) ++ (dmarks (D :: ds) ++ rowsL vs' (out ++ levelF lv idsC))) := St.ins h19
      obtain ⟨w20, r20, h20⟩ := h19b.stL (i := 10) (o := 0) (l := [.int .i64 0]) (T := 3) (v := .int .i64 (lv : Int)) rfl (iS _) rfl (by simp) rfl
      obtain ⟨w21, r21, h21⟩ := h20.stL (i := 10) (o := 0) (l := [.int .i64 (lv : Int)]) (T := 3) (v := .int .i64 ((lv + 1 : Nat) : Int)) rfl (iS _) rfl (by simp) rfl
      have hw : IntKind.wrap .i64 ((lv : Int) + 1) = ((lv + 1 : Nat) : Int) := by rw [wrap_i64 (by omega) (by omega)]; rfl
      refine ⟨_, _, _, h11.ldL (i := 6) (l := [.slice aa an ac]) rfl (idsA _) rfl rfl, (lv : Int), h11.ldL (i := 5) (l := [.int .i64 (lv : Int)]) rfl (iA _) rfl rfl, g8', w19, r19, w20, r20, (lv : Int), h20.ldL (i := 10) (l := [.int .i64 (lv : Int)]) rfl (iA _) rfl rfl, w21, ?_, ?_, ?_⟩
      · rw [hw]; exact r21
      · refine ⟨rfl, f', lv + 1, (levelF lv idsC).map (idF K), out ++ levelF lv idsC, oa, on, oc, vs', .row 33 32 (.slice aa an ac) an (bv ((levelF lv idsC).map (idF K)).flatten), by omega, ?_, ?_, ?_, hac, ?_, .inr ⟨All32.mapId K _, rfl⟩, hhd', ?_, ?_⟩
        · rw [List.length_map, hll, hxl, numCh]; simp only [capF] at hcap; omega
        · rw [List.length_map, hll, hxl, han]
        · rw [han, numCh]; omega
        · rw [List.length_append, hll, hxl, numCh]; omega
        · rw [← hbf, buildF_more hi0 hl1]
        · have h21' : St w [] w21 ((bM1 K (List.replicate 32 0) g2 g5 g7 oa on oc vs' cur x8b lv ++ bM2 g9 aa an ac ((levelF lv idsC).map (idF K)) gs gn xa xn xc ++ [.arr g8' 3 [.int .i64 ((lv + 1 : Nat) : Int)]]) ++ (dmarks (D :: ds) ++ rowsL vs' (out ++ levelF lv idsC))) := h21
          refine h21'.sub (List.Sublist.append ?_ (List.Sublist.refl _))
          rw [bM1, bM1, bM2]
          exact List.Sublist.cons_cons _ (List.Sublist.cons_cons _ (List.Sublist.cons_cons _ (List.Sublist.cons_cons _ (List.Sublist.cons _ (List.Sublist.cons _ (List.Sublist.cons _ (List.Sublist.cons_cons _ (List.Sublist.cons _ (List.Sublist.cons _ (List.Sublist.cons_cons _ (List.Sublist.refl _)))))))))))
      · show an < xn
        have : xn ≠ 1 := fun e => hne (by rw [han, e]; rfl)
        rw [han, numCh]
        omega

end Go.Proofs.YtefnlbgkfingfaaDoor
