/- The law PruneTwice (conditions: none). -/
import Derived.Test.YtdcgapabphjgbaaPruG
namespace Go.Proofs.Ytdcgapabphjgbaa
open Go Sx
set_option maxRecDepth 8000

theorem left_step (ns : List Int) (l : List SnapD) (L : List Nat) (j : Nat) : leftS ns l L (j + 1) = leftS ns l L j ++ if keptB ns l L j then [atS l j] else [] := by
  unfold leftS keptI
  rw [List.range_succ, List.filter_append, List.map_append]
  cases h : keptB ns l L j <;> simp [h]
theorem left_le (ns : List Int) (l : List SnapD) (L : List Nat) (j : Nat) : (leftS ns l L j).length ≤ j := by
  rw [leftS, List.length_map, keptI]
  have := List.length_filter_le (keptB ns l L) (List.range j)
  simpa using this
theorem longT_spec (a : Option Addr) (n c : Nat) (w : World) : Calls Try.prog 8 #[.slice a n c] w fun e w' => e = .returned (.bool (decide ((n : Int) > 150))) ∧ w' = w := by
  apply amphoralaw20_long_vc
  exact ⟨rfl, rfl⟩

set_option maxHeartbeats 4000000 in
theorem pruneTwice_walk (ns : List Int) (hn : ns.length = 6) (a : Option Addr) (n c : Nat) (l : List SnapD) (w : World) (hr : RdS w a n c l) :
    Calls Try.prog 6 #[.agg (iv ns).toArray, .slice a n c] w fun e w' => e = .returned (.bool true) ∧ Chg [] w w' := by
  obtain ⟨mI, hI⟩ := eI
  have hln := hr.num (by decide)
  apply amphoralaw20_PruneTwice_vc
  obtain ⟨g2, w1, r1, k1⟩ := (St.start w).boxA (P := Try.prog) 23 (iv ns)
  have k1 : St w [] w1 [.arr g2 23 (iv ns)] := k1
  refine ⟨g2, w1, r1, (alive20_spec w1).mono ?_⟩
  rintro e w2 ⟨rfl, c2⟩
  refine ⟨_, rfl, fun h => (by cases h), fun _ => (longT_spec a n c w2).mono ?_⟩
  rintro e w3 ⟨rfl, rfl⟩
  have k3 := k1.same c2
  refine ⟨_, rfl, fun _ => ⟨rfl, k3.chg⟩, fun hlong => ?_⟩
  have hb : n ≤ 150 := by simp at hlong; omega
  have ldP : ∀ {w' M}, St w [] w' (.arr g2 23 (iv ns) :: M) → (Instr.loadAt 23 (.pointer (some ⟨g2, 0, none⟩))).run Try.prog w' = .ok (.agg (iv ns).toArray) w' := fun h => h.ldA (i := 0) (l := iv ns) rfl (poA _) (poS _) (by simp [hn])
  refine ⟨_, ldP k3, (keep_spec ns hn a n c l w3 (hr.keep0 k3.chg) (by omega)).mono ?_⟩
  rintro e w4 ⟨ra, rn, rc, v, rfl, c4, hv, hbad, hgood⟩
  have k4 := k3.same c4
  refine ⟨_, _, _, _, rfl, _, neqS_nil hI _ _ _, fun hs => ?_, fun hs => ?_⟩
  · have hne : errW ns l ≠ none := fun e => by rw [e] at hs; cases hs
    obtain ⟨_, rfl⟩ := hbad hne
    exact ⟨rfl, k4.chg⟩
  have herr : errW ns l = none := by cases h : errW ns l <;> rw [h] at hs <;> simp at hs ⊢
  obtain ⟨rfl, L, hL, rfl⟩ := hgood herr
  have hg4 : w4.heap[g2]? = some (.cells (iv ns).toArray 23 (0, 0)) := k4.holds 0 _ rfl
  have ldP4 : ∀ {w'}, Chg [] w4 w' → (Instr.loadAt 23 (.pointer (some ⟨g2, 0, none⟩))).run Try.prog w' = .ok (.agg (iv ns).toArray) w' := fun {w'} hc => by
    have h1 := hc.block g2 (Array.getElem?_eq_some_iff.1 hg4).1 (by simp)
    rw [hg4] at h1
    exact (St.ofBlk h1).ldA (i := 0) (l := iv ns) rfl (poA _) (poS _) (by simp [hn])
  have c04 := k4.chg
  obtain ⟨g29, w5, r5, k5⟩ := (St.start w4).litA0 snT
  refine ⟨_, _, _, w5, r5, fun xa xn xc i w' => ∃ j : Nat, i = (j : Int) ∧ j ≤ rn ∧ xn = (leftS ns l L j).length ∧ St w4 [] w' [.row 30 36 (.slice xa xn xc) xn ((leftS ns l L j).flatMap snapC)], fun _ _ _ i _ => rn - i.toNat, ⟨0, rfl, Nat.zero_le _, rfl, k5⟩, ?_⟩
  rintro xa xn xc i w6 ⟨j, rfl, hj, hxn, k6⟩
  have hxj : xn ≤ j := by rw [hxn]; exact left_le _ _ _ _
  refine ⟨fun hlt => ?_, fun hge => ?_⟩
  · have hj' : j < rn := by simp at hlt; omega
    have hs := atS_get (l := l) (i := j) (by omega)
    obtain ⟨s, hse⟩ : ∃ s, atS l j = s := ⟨_, rfl⟩
    rw [hse] at hs
    obtain ⟨b, o, hab, hld⟩ := hr.ld (P := Try.prog) (by decide) snAgg snS hs
    obtain ⟨g9, w7, r7, k7⟩ := k6.zeroA snZ
    obtain ⟨w8, r8, k8⟩ := k7.stA (i := 1) (v := snapC s) rfl (snS _) (snapC_len _) (snapC_len _) (snapC_one _)
    have k8 : St w4 [] w8 [.row 30 36 (.slice xa xn xc) xn ((leftS ns l L j).flatMap snapC), .arr g9 30 (snapC s)] := k8
    obtain ⟨b2, o2, hab2, hcell⟩ := (hv.keep0 k8.chg).cells.at_ (i := j) (v := .bool (keptB ns l L j)) (by rw [zb, List.getElem?_map, keepV_get _ _ _ (by omega)]; rfl)
    have hst := left_step ns l L j
    rw [hse] at hst
    refine ⟨b, o, hab, by omega, by omega, _, hld w6 (hr.keep0 (c04.trans k6.chg)), g9, w7, r7, w8, r8, b2, o2, hab2, by omega, by omega, _, by rw [Int.toNat_natCast, Nat.mul_one]; exact ld1 (blA _) hcell, fun ya yn yc w' => yn = (leftS ns l L (j + 1)).length ∧ St w4 [] w' [.row 30 36 (.slice ya yn yc) yn ((leftS ns l L (j + 1)).flatMap snapC)], ⟨fun hk => ?_, fun hk => ?_⟩, ?_⟩
    · rw [hst, hk]
      obtain ⟨g3, wa, va, vc, wb, ra1, rb1, kb, _⟩ := k8.pushA (i := 0) (ty := 24) snT rfl (snapC s) (snapC_len _) (by decide) (snapC_one _) (by omega) (by simp only [maxLen]; omega)
      refine ⟨_, k8.ldA (i := 1) (l := snapC s) rfl (snAgg _) (snS _) (snapC_len _), _, _, _, wa, ra1, _, _, _, wb, rb1, by simp [hxn], ?_⟩
      have kb : St w4 [] wb [.row 30 36 (.slice va (xn + 1) vc) (xn + 1) ((leftS ns l L j).flatMap snapC ++ snapC s), .arr g9 30 (snapC s)] := kb
      have := kb.sub (N := [.row 30 36 (.slice va (xn + 1) vc) (xn + 1) ((leftS ns l L j).flatMap snapC ++ snapC s)]) (by simp)
      simpa using this
    · rw [hst, hk]
      have := k8.sub (N := [.row 30 36 (.slice xa xn xc) xn ((leftS ns l L j).flatMap snapC)]) (by simp)
      exact ⟨by simpa using hxn, by simpa using this⟩
    · rintro ya yn yc w9 ⟨hyn, k9⟩
      exact ⟨⟨j + 1, wrap_succ hj' (by omega), by omega, hyn, k9⟩, mu_succ hj' (by omega)⟩
  · have hj' : j = rn := by simp at hge; omega
    subst hj'
    have hleft : RdS w6 xa xn xc (leftS ns l L j) := ⟨by have := k6.rd (i := 0) rfl; exact this, fun x _ => snapC_len x⟩
    have hl1 : l.length = j := hln
    have hlerr : errW ns (leftS ns l L j) = none := by rw [← hl1]; exact left_err herr
    refine ⟨_, ldP4 k6.chg, (gone_spec ns hn xa xn xc (leftS ns l L j) w6 hleft (by omega)).mono ?_⟩
    rintro e w12 ⟨sa, sn, sc, u, rfl, c12, hu, _, hg1⟩
    rw [hlerr] at hg1 ⊢
    obtain ⟨M, hM, hpM, _⟩ := hg1 rfl
    have hnone : u = [] := by
      rw [hxn] at hpM
      rw [← hl1] at hM hpM
      rw [left_none hL hM] at hpM
      exact List.perm_nil.1 hpM
    subst hnone
    have hsn : sn = 0 := by have := hu.len; simpa using this.symm
    subst hsn
    have c4_12 := k6.chg.trans c12
    refine ⟨_, _, _, _, rfl, _, ldP4 c4_12, (gone_spec ns hn a j c l w12 (hr.keep0 (c04.trans c4_12)) (by omega)).mono ?_⟩
    rintro e w13 ⟨ta, tn, tc, x, rfl, c13, hx, _, hg2⟩
    rw [herr] at hg2 ⊢
    obtain ⟨M2, hM2, hp2, hsrt⟩ := hg2 rfl
    obtain rfl := hL.uniq hM2
    have hxl : x.length = tn := by have := hx.len; simpa using this
    have hcnt := gone_count (ns := ns) (l := l) (L := L) j
    rw [← hp2.length_eq, hxl, ← hxn] at hcnt
    have c0_13 := c04.trans (c4_12.trans c13)
    refine ⟨_, _, _, _, rfl, fun y w' => y = false ∧ w' = w13, ⟨_, neqS_nil hI none _ _, fun h => by simp at h, fun _ => ⟨_, neqS_nil hI none _ _, ?_, rfl⟩⟩, ?_⟩
    · rw [wrap_i64 (by omega) (by omega)]
      simp
      omega
    rintro y w14 ⟨rfl, rfl⟩
    refine ⟨fun h => (by cases h), fun _ => ⟨fun i w' => ∃ k : Nat, i = ((k + 1 : Nat) : Int) ∧ Chg [] w14 w', fun i _ => tn - i.toNat, ⟨0, rfl, Chg.refl _ _⟩, ?_⟩⟩
    rintro i w15 ⟨k, rfl, c15⟩
    refine ⟨fun hlt => ?_, fun _ => ⟨rfl, c0_13.trans c15⟩⟩
    have hk : k + 1 < tn := by simp at hlt; omega
    have hw : IntKind.wrap .i64 (((k + 1 : Nat) : Int) - 1) = (k : Int) := by rw [wrap_i64 (by omega) (by omega)]; omega
    have e1 : x[k]? = some x[k] := List.getElem?_eq_getElem (by omega)
    have e2 : x[k + 1]? = some x[k + 1] := List.getElem?_eq_getElem (by omega)
    have hxx := hx.keep0 c15
    obtain ⟨b1, o1, hab1, hc1⟩ := hxx.cells.at_ (i := k) (v := strV x[k]) (by rw [List.getElem?_map, e1]; rfl)
    obtain ⟨b2, o2, hab2, hc2⟩ := hxx.cells.at_ (i := k + 1) (v := strV x[k + 1]) (by rw [List.getElem?_map, e2]; rfl)
    have hlex : lexLt x[k + 1] x[k] = false := List.pairwise_iff_getElem.1 hsrt k (k + 1) (by omega) (by omega) (by omega)
    have kc : ∀ {b o : Nat} {v : Value} {w'}, Chg [] w15 w' → w15.cell? ⟨b, o, none⟩ = some v → w'.cell? ⟨b, o, none⟩ = some v := fun {b o v w'} hc h => by
      have h1 : Cells w15 (some ⟨b, o, none⟩) [v] := .inr ⟨b, o, rfl, fun k x hk => by
        cases k with
        | zero => simp at hk; subst hk; exact h
        | succ k => simp at hk⟩
      obtain ⟨b', o', he, h3⟩ := (h1.keep0 hc).at_ (i := 0) rfl
      simp only [Option.some.injEq, Addr.mk.injEq] at he
      obtain ⟨rfl, rfl, _⟩ := he
      exact h3
    refine ⟨fun w' => Chg [] w15 w', Chg.drew _ _, b1, o1, hab1, by rw [hw]; omega, by rw [hw]; omega, b2, o2, hab2, by omega, by omega, _, fun w' hc => by rw [hw, Int.toNat_natCast, Nat.mul_one]; exact ld1 (stA_ _) (kc hc hc1), _, fun w' hc => by rw [Int.toNat_natCast, Nat.mul_one]; exact ld1 (stA_ _) (kc hc hc2), _, fun w' _ => gtrS x[k] x[k + 1] _ _ w', fun h => ?_, fun _ => ⟨⟨k + 1, wrap_succ hk (by omega), c15.trans (Chg.drew _ _)⟩, mu_succ hk (by omega)⟩⟩
    rw [hlex] at h; cases h

end Go.Proofs.Ytdcgapabphjgbaa
