/- The law PruneKeeps (conditions: none). -/
import Derived.Test.YtdcgapabphjgbaaPruK
namespace Go.Proofs.Ytdcgapabphjgbaa
open Go Sx
set_option maxRecDepth 8000

theorem ints_spec (a1 : Option Addr) (n c1 : Nat) (l : List Int) (a2 : Option Addr) (c2 : Nat) (w : World) (h1 : Rd w a1 n c1 1 (iv l)) (h2 : Rd w a2 n c2 1 (iv l)) (hb : n ≤ 4611686018427387904) :
    Calls Try.prog 15 #[.slice a1 n c1, .slice a2 n c2] w fun e w' => e = .returned (.bool true) ∧ Chg [] w w' := by
  have hl : l.length = n := by have := h1.len; simpa using this
  apply amphoranum_Ints_vc
  refine ⟨fun h => by simp at h, fun _ => ⟨fun x w' => ∃ i : Nat, x = (i : Int) ∧ i ≤ n ∧ Chg [] w w', fun x _ => n - x.toNat, ⟨0, rfl, by omega, Chg.refl _ _⟩, ?_⟩⟩
  rintro x w1 ⟨i, rfl, hi, k1⟩
  refine ⟨fun hlt => ?_, fun _ => ⟨rfl, k1⟩⟩
  have hi' : i < n := by simp at hlt; omega
  have hx : (iv l)[i]? = some (.int .i64 (l.getD i 0)) := by rw [iv_get]; simp [List.getD, show i < l.length by omega]
  have kd := k1.trans (Chg.drew [] w1)
  obtain ⟨b1, o1, e1, q1⟩ := rdU h1 hx
  obtain ⟨b2, o2, e2, q2⟩ := rdU h2 hx
  exact ⟨fun w' => Chg [] w w', kd, b1, o1, e1, by omega, by omega, b2, o2, e2, by omega, by omega, _, fun w' hw => by rw [Int.toNat_natCast, Nat.mul_one]; exact ld1 (iA _) (q1 _ (h1.keep0 hw)), _, fun w' hw => by rw [Int.toNat_natCast, Nat.mul_one]; exact ld1 (iA _) (q2 _ (h2.keep0 hw)), fun h => by simp at h, fun _ => ⟨⟨i + 1, wrap_succ hi' hb, by omega, kd⟩, mu_succ hi' hb⟩⟩

theorem textsEq20_spec (a1 : Option Addr) (n c1 : Nat) (l : List (List UInt8)) (a2 : Option Addr) (c2 : Nat) (w : World) (h1 : Rd w a1 n c1 1 (l.map strV)) (h2 : Rd w a2 n c2 1 (l.map strV)) (hb : n ≤ 4611686018427387904) :
    Calls Try.prog 17 #[.slice a1 n c1, .slice a2 n c2] w fun e w' => e = .returned (.bool true) ∧ Chg [] w w' := by
  have hl : l.length = n := by have := h1.len; simpa using this
  apply amphoranum_Texts_vc
  refine ⟨fun h => by simp at h, fun _ => ⟨fun x w' => ∃ i : Nat, x = (i : Int) ∧ i ≤ n ∧ Chg [] w w', fun x _ => n - x.toNat, ⟨0, rfl, by omega, Chg.refl _ _⟩, ?_⟩⟩
  rintro x w1 ⟨i, rfl, hi, k1⟩
  refine ⟨fun hlt => ?_, fun _ => ⟨rfl, k1⟩⟩
  have hi' : i < n := by simp at hlt; omega
  have hx : (l.map strV)[i]? = some (strV (l.getD i [])) := by simp [List.getD, show i < l.length by omega]
  have kd := k1.trans (Chg.drew [] w1)
  obtain ⟨b1, o1, e1, q1⟩ := rdU h1 hx
  obtain ⟨b2, o2, e2, q2⟩ := rdU h2 hx
  exact ⟨fun w' => Chg [] w w', kd, b1, o1, e1, by omega, by omega, b2, o2, e2, by omega, by omega, _, fun w' hw => by rw [Int.toNat_natCast, Nat.mul_one]; exact ld1 (stA_ _) (q1 _ (h1.keep0 hw)), _, fun w' hw => by rw [Int.toNat_natCast, Nat.mul_one]; exact ld1 (stA_ _) (q2 _ (h2.keep0 hw)), fun h => by simp at h, fun _ => ⟨⟨i + 1, wrap_succ hi' hb, by omega, kd⟩, mu_succ hi' hb⟩⟩

theorem cells_pre {w : World} {a : Option Addr} {xs ys : List Value} (h : Cells w a (xs ++ ys)) : Cells w a xs := by
  rcases h with h | ⟨b, o, ha, hr⟩
  · exact .inl (List.append_eq_nil_iff.1 h).1
  · exact .inr ⟨b, o, ha, fun j v hj => hr j v (by rw [List.getElem?_append_left (List.getElem?_eq_some_iff.1 hj).1]; exact hj)⟩
theorem errW_ne (ns : List Int) (l : List SnapD) : errW ns l ≠ some 0 := by
  unfold errW
  split
  · split <;> simp
  · rcases check_or ns with h | h <;> rw [h] <;> simp
theorem check_ne (ns : List Int) : checkP ns ≠ some 0 := by rcases check_or ns with h | h <;> rw [h] <;> simp

set_option maxHeartbeats 4000000 in
theorem pruneKeeps_walk (ns : List Int) (hn : ns.length = 6) (a : Option Addr) (n c : Nat) (l : List SnapD) (w : World) (hr : RdS w a n c l) :
    Calls Try.prog 3 #[.agg (iv ns).toArray, .slice a n c] w fun e w' => e = .returned (.bool true) ∧ Chg [] w w' := by
  have hln := hr.num (by decide)
  apply amphoralaw20_PruneKeeps_vc
  obtain ⟨g2, w1, r1, k1⟩ := (St.start w).boxA (P := Try.prog) 23 (iv ns)
  have k1 : St w [] w1 [.arr g2 23 (iv ns)] := k1
  refine ⟨g2, w1, r1, (alive20_spec w1).mono ?_⟩
  rintro e w2 ⟨rfl, c2⟩
  refine ⟨_, rfl, fun h => (by cases h), fun _ => (longT_spec a n c w2).mono ?_⟩
  rintro e w3 ⟨rfl, rfl⟩
  have k3 := k1.same c2
  refine ⟨_, rfl, fun _ => ⟨rfl, k3.chg⟩, fun hlong => ?_⟩
  have hb : n ≤ 150 := by simp at hlong; omega
  have hw1 : IntKind.wrap .i64 ((n : Int) + 1) = ((n + 1 : Nat) : Int) := by rw [wrap_i64 (by omega) (by omega)]; rfl
  rw [hw1]
  obtain ⟨g4, w4, r4, k4⟩ := k3.mk0n (kl := .i64) (kc := .i64) (c := n + 1) snT (by omega) (by omega)
  have k4 : St w [] w4 [.arr g2 23 (iv ns), .row 30 36 (.slice (some ⟨g4, 0, none⟩) 0 (n + 1)) 0 []] := k4
  have hlone : ∀ u ∈ l.flatMap snapC, u.oneCell' = true := fun u hu => by
    obtain ⟨s, _, hs⟩ := List.mem_flatMap.1 hu
    exact snapC_one s u hs
  obtain ⟨va, vc, w5, r5, k5, _, _⟩ := k4.append (i := 1) (ty := 24) snT rfl (hr.keep0 k4.chg).rd hlone (by omega) (by simp only [maxLen]; omega)
  rw [Nat.zero_add] at r5 k5
  have k5 : St w [] w5 [.arr g2 23 (iv ns), .row 30 36 (.slice va n vc) n (l.flatMap snapC)] := k5
  refine ⟨_, _, _, w4, r4, _, _, _, w5, r5, (at_spec [109, 97, 114, 107] 7 w5).mono ?_⟩
  rintro e w6 ⟨rfl, c6⟩
  obtain ⟨mk, hmk⟩ : ∃ mk, snapAt [109, 97, 114, 107] 7 = mk := ⟨_, rfl⟩
  rw [hmk]
  obtain ⟨g7, w7, ma, mc, w8, r7, r8, k8, _⟩ := (k5.same c6).pushA (i := 1) (ty := 24) snT rfl (snapC mk) (snapC_len _) (by decide) (snapC_one _) (by omega) (by simp only [maxLen]; omega)
  have k8 : St w [] w8 [.arr g2 23 (iv ns), .row 30 36 (.slice ma (n + 1) mc) (n + 1) (l.flatMap snapC ++ snapC mk)] := k8
  have hfull : Rd w8 ma (n + 1) mc 36 (l.flatMap snapC ++ snapC mk) := k8.rd (i := 1) rfl
  have hrm8 : RdS w8 ma n mc l := ⟨⟨cells_pre hfull.cells, by rw [flatMap_len fun s _ => snapC_len s, hln, Nat.mul_comm], by have := hfull.le; omega, hfull.nil⟩, fun s _ => snapC_len s⟩
  have hg8 : w8.heap[g2]? = some (.cells (iv ns).toArray 23 (0, 0)) := k8.holds 0 _ rfl
  have ldP : ∀ {w'}, Chg [] w8 w' → (Instr.loadAt 23 (.pointer (some ⟨g2, 0, none⟩))).run Try.prog w' = .ok (.agg (iv ns).toArray) w' := fun {w'} hc => by
    have h1 := hc.block g2 (Array.getElem?_eq_some_iff.1 hg8).1 (by simp)
    rw [hg8] at h1
    exact (St.ofBlk h1).ldA (i := 0) (l := iv ns) rfl (poA _) (poS _) (by simp [hn])
  have c08 := k8.chg
  have hr8 : ∀ {w'}, Chg [] w8 w' → RdS w' a n c l := fun hc => hr.keep0 (c08.trans hc)
  have hm8 : ∀ {w'}, Chg [] w8 w' → RdS w' ma n mc l := fun hc => hrm8.keep0 hc
  refine ⟨_, rfl, _, _, _, w7, r7, _, _, _, w8, r8, by omega, by have := hfull.le; omega, _, ldP (Chg.refl _ _), (why_spec ns hn ma n mc l w8 (hm8 (Chg.refl _ _)) (by omega)).mono ?_⟩
  rintro e w9 ⟨ra, rn, rc, v, rfl, c9, hv, hbad, hgood⟩
  obtain ⟨L, hL⟩ : ∃ L, errW ns l = none → NewOrd l L ∧ v = outV ns l L 6 := by
    by_cases h : errW ns l = none
    · obtain ⟨_, L, h1, h2⟩ := hgood h; exact ⟨L, fun _ => ⟨h1, h2⟩⟩
    · exact ⟨[], fun e => absurd e h⟩
  have hrn : errW ns l = none → rn = n := fun h => (hgood h).1
  clear hgood
  refine ⟨_, _, _, _, rfl, _, ldP c9, (rwhy_spec ns hn a n c l L w9 (hr8 c9) (by omega) fun h => (hL h).1).mono ?_⟩
  rintro e w10 ⟨sa, sn, sc, v2, rfl, c10, hv2, hbad2, hgood2⟩
  have d10 := c9.trans c10
  have hvv : v2 = v ∧ sn = rn := by
    by_cases h : errW ns l = none
    · obtain ⟨e1, e2⟩ := hgood2 h
      exact ⟨by rw [e2, (hL h).2], by rw [e1, hrn h]⟩
    · obtain ⟨e1, e2⟩ := hbad2 h
      obtain ⟨e3, e4⟩ := hbad h
      exact ⟨by rw [e1, e3], by rw [e2, e4]⟩
  obtain ⟨rfl, rfl⟩ := hvv
  refine ⟨_, _, _, _, rfl, _, ldP d10, (gone_spec ns hn ma n mc l w10 (hm8 d10) (by omega)).mono ?_⟩
  rintro e w11 ⟨ta, tn, tc, x, rfl, c11, hx, hbx, hgx⟩
  have d11 := d10.trans c11
  refine ⟨_, _, _, _, rfl, _, ldP d11, (rgone_spec ns hn a n c l L w11 (hr8 d11) (by omega) fun h => (hL h).1).mono ?_⟩
  rintro e w12 ⟨ua, un, uc, y, rfl, c12, hy, hby, hgy⟩
  have d12 := d11.trans c12
  have hxl : x.length = tn := by have := hx.len; simpa using this
  have hyl : y.length = un := by have := hy.len; simpa using this
  have hxy : y = x ∧ un = tn := by
    by_cases h : errW ns l = none
    · obtain ⟨M, hM, h1, h2⟩ := hgx h
      obtain ⟨h3, h4⟩ := hgy h
      obtain rfl := (hL h).1.uniq hM
      have : y = x := sorted_uniq (h3.trans h1.symm) h4 h2
      exact ⟨this, by rw [← hyl, ← hxl, this]⟩
    · obtain ⟨e1, e2⟩ := hbx h
      obtain ⟨e3, e4⟩ := hby h
      exact ⟨by rw [e1, e3], by rw [e2, e4]⟩
  obtain ⟨rfl, rfl⟩ := hxy
  refine ⟨_, _, _, _, rfl, _, ldP d12, (keep_spec ns hn ma n mc l w12 (hm8 d12) (by omega)).mono ?_⟩
  rintro e w13 ⟨ka, kn, kc, z, rfl, c13, hz, hbz, hgz⟩
  have d13 := d12.trans c13
  have hkk : kn = sn ∧ (errW ns l = none → z = keepV ns l L) := by
    by_cases h : errW ns l = none
    · obtain ⟨e1, M, hM, e2⟩ := hgz h
      obtain rfl := (hL h).1.uniq hM
      exact ⟨by rw [e1, hrn h], fun _ => e2⟩
    · exact ⟨by rw [(hbz h).2, (hbad h).2], fun e => absurd e h⟩
  obtain ⟨rfl, hzk⟩ := hkk
  have hknb : kn ≤ 150 := by
    by_cases h : errW ns l = none
    · rw [hrn h]; exact hb
    · rw [(hbz h).2]; omega
  have hunb : un ≤ 150 := by
    by_cases h : errW ns l = none
    · have h1 := (hgy h).1.length_eq
      have h2 := gone_count (ns := ns) (l := l) (L := L) n
      omega
    · rw [(hby h).2]; omega
  have hne := errW_ne ns l
  have d13d := d13.trans (Chg.drew [] w13)
  have after : ∀ {w' w''}, Chg [] w8 w' → Chg [] w' w'' → Chg [] w8 w'' := fun h k => h.trans k
  refine ⟨_, _, _, _, rfl, fun q w' => q = false ∧ Chg [] w13 w', ⟨fun w' => Chg [] w13 w', Chg.drew _ _, (ints_spec ra kn rc v2 sa sc w13.drew (hv.keep0 (((c10.trans c11).trans c12).trans (c13.trans (Chg.drew _ _)))) (hv2.keep0 ((c11.trans c12).trans (c13.trans (Chg.drew _ _)))) (by omega)).mono ?_⟩, ?_⟩
  · rintro e w14 ⟨rfl, c14⟩
    have f14 := (Chg.drew [] w13).trans c14
    refine ⟨_, rfl, fun w' => Chg [] w13 w', fun _ h => h, f14, fun h => (by cases h), fun _ => (num_spec (errW ns l) w14 hne).mono ?_⟩
    rintro e w15 ⟨rfl, rfl⟩
    refine ⟨_, rfl, fun w' => Chg [] w13 w', fun _ h => h, f14, fun h => by simp at h, fun _ => (textsEq20_spec ta un tc y ua uc w15 (hx.keep0 ((c12.trans c13).trans f14)) (hy.keep0 (c13.trans f14)) (by omega)).mono ?_⟩
    rintro e w16 ⟨rfl, c16⟩
    have f16 := f14.trans c16
    refine ⟨_, rfl, fun w' => Chg [] w13 w', fun _ h => h, f16, fun h => (by cases h), fun _ => (num_spec (errW ns l) w16 hne).mono ?_⟩
    rintro e w17 ⟨rfl, rfl⟩
    refine ⟨_, rfl, fun w' => Chg [] w13 w', fun _ h => h, f16, fun h => by simp at h, fun _ => (num_spec (errW ns l) w17 hne).mono ?_⟩
    rintro e w18 ⟨rfl, rfl⟩
    refine ⟨_, rfl, fun w' => Chg [] w13 w', fun _ h => h, f16, fun h => by simp at h, fun _ => ⟨fun h => by simp at h, fun _ => ⟨_, fun w' hw => ldP (d13.trans hw), _, fun w' hw => ldP (d13.trans hw), (check_spec ns hn w18).mono ?_⟩⟩⟩
    rintro e w19 ⟨rfl, c19⟩
    have f19 := f16.trans c19
    refine ⟨_, rfl, fun w' => Chg [] w13 w', fun _ h => h, f19, (num_spec (checkP ns) w19 (check_ne ns)).mono ?_⟩
    rintro e w20 ⟨rfl, rfl⟩
    refine ⟨_, rfl, fun w' => Chg [] w13 w', fun _ h => h, f19, (rcheck_spec ns hn w20).mono ?_⟩
    rintro e w21 ⟨rfl, c21⟩
    exact ⟨_, rfl, fun w' => Chg [] w13 w', fun _ h => h, f19.trans c21, by simp, f19.trans c21⟩
  rintro q w22 ⟨rfl, f22⟩
  refine ⟨fun h => (by cases h), fun _ => ⟨fun i w' => ∃ j : Nat, i = (j : Int) ∧ j ≤ kn ∧ Chg [] w13 w', fun i _ => kn - i.toNat, ⟨0, rfl, Nat.zero_le _, f22⟩, ?_⟩⟩
  rintro i w23 ⟨j, rfl, hj, f23⟩
  have d23 := d13.trans f23
  refine ⟨fun hlt => ?_, fun _ => ?_⟩
  · have hj' : j < kn := by simp at hlt; omega
    have herr : errW ns l = none := by
      by_cases h : errW ns l = none
      · exact h
      · have := (hbz h).2; omega
    have hknn := hrn herr
    have hs := atS_get (l := l) (i := j) (by omega)
    obtain ⟨s, hse⟩ : ∃ s, atS l j = s := ⟨_, rfl⟩
    rw [hse] at hs
    have hzg : (zb z)[j]? = some (.bool (keptB ns l L j)) := by rw [hzk herr, zb, List.getElem?_map, keepV_get _ _ _ (by omega)]; rfl
    have hvg : (iv v2)[j]? = some (.int .i64 ((whyN ns l L 6 j : Nat) : Int)) := by rw [(hL herr).2, iv_get, outV_get _ _ _ _ (by omega)]; rfl
    obtain ⟨b1, o1, e1, q1⟩ := rdU hz hzg
    obtain ⟨b2, o2, e2, q2⟩ := rdU hv2 hvg
    obtain ⟨b3, o3, e3, q3⟩ := hrm8.ld (P := Try.prog) (by decide) snAgg snS hs
    obtain ⟨b4, o4, e4, q4⟩ := hr.ld (P := Try.prog) (by decide) snAgg snS hs
    have f23d := f23.trans (Chg.drew [] w23)
    refine ⟨fun q w' => q = false ∧ Chg [] w13 w', ⟨fun w' => Chg [] w13 w', f23d, b1, o1, e1, by omega, by omega, b2, o2, e2, by omega, by omega, _, fun w' hw => by rw [Int.toNat_natCast, Nat.mul_one]; exact ld1 (blA _) (q1 _ (hz.keep0 hw)), _, fun w' hw => by rw [Int.toNat_natCast, Nat.mul_one]; exact ld1 (iA _) (q2 _ (hv2.keep0 ((c11.trans c12).trans (c13.trans hw)))), fun h => ?_, fun _ => ⟨b3, o3, e3, by omega, by omega, b4, o4, e4, by omega, by omega, _, fun w' hw => q3 w' (hm8 (d13.trans hw)), _, fun w' hw => q4 w' (hr8 (d13.trans hw)), _, fun w' _ => (eqSnaps _ _ s s w').2, ?_, f23d⟩⟩, ?_⟩
    · exfalso
      unfold keptB at h
      by_cases h0 : whyN ns l L 6 j = 0
      · simp [h0] at h
      · have : ¬ ((whyN ns l L 6 j : Nat) : Int) = 0 := by omega
        simp [h0] at h
    · rw [(snapEqB_iff s s).2 rfl]; rfl
    · rintro q w24 ⟨rfl, f24⟩
      exact ⟨fun h => (by cases h), fun _ => ⟨⟨j + 1, wrap_succ hj' (by omega), by omega, f24⟩, mu_succ hj' (by omega)⟩⟩
  · have hfl : (l.flatMap snapC).length = n * 36 := by rw [flatMap_len fun s _ => snapC_len s, hln, Nat.mul_comm]
    have hmk0 : (l.flatMap snapC ++ snapC mk)[n * 36]? = some (strV mk.name) := by
      rw [List.getElem?_append_right (by omega), hfl, Nat.sub_self]; rfl
    obtain ⟨b, o, hab, hc⟩ := (hfull.keep0 d23).cells.at_ hmk0
    refine ⟨by omega, by have := hfull.le; omega, b, o, hab, by omega, by rw [Int.toNat_natCast]; omega, _, by rw [Int.toNat_natCast]; exact ld1 (stA_ _) hc, ?_, c08.trans d23⟩
    rw [← hmk]
    have := strEq (snapAt [109, 97, 114, 107] 7).name [109, 97, 114, 107]
    rw [this]; rfl

end Go.Proofs.Ytdcgapabphjgbaa
