/- Chapter 14: IndexPlays (conditions: none). -/
import Derived.Test.YtoianikapjkekaaIndP
namespace Go.Proofs.Ytoianikapjkekaa
open Go Sx
set_option maxRecDepth 8000

/-- A call of an Index, by its slices. -/
structure OpH where
  kind : Int
  ra : Option Addr
  rn : Nat
  rc : Nat
  pa : Option Addr
  pn : Nat
  pc : Nat
def opC (o : OpH) : List Value := [.int .i64 o.kind, .slice o.ra o.rn o.rc, .slice o.pa o.pn o.pc]
theorem opC_len (o : OpH) : (opC o).length = 3 := rfl
theorem opC_one (o : OpH) : ∀ v ∈ opC o, v.oneCell' = true := fun v hv => by
  simp only [opC, List.mem_cons, List.not_mem_nil, or_false] at hv
  rcases hv with rfl | rfl | rfl <;> rfl
def op0 : OpH := ⟨0, none, 0, 0, none, 0, 0⟩
/-- Calls in memory. -/
structure RdOps (w : World) (a : Option Addr) (n c : Nat) (l : List OpH) : Prop where
  rd : RdE opC 3 w a n c l
  refs : ∀ o ∈ l, ∃ rs : Refs, RdR w o.ra o.rn o.rc rs
  packs : ∀ o ∈ l, ∃ ps : List Int, RdI w o.pa o.pn o.pc ps

theorem opA (w : World) : (isAgg 45).run Try.prog w = .ok true w := Try.isAgg45 w
theorem opS (w : World) : (sizeOf 45).run Try.prog w = .ok 3 w := Try.sizeOf45 w
theorem opZ (w : World) : (zeroValue 45).run Try.prog w = .ok (.agg (opC op0).toArray) w := Try.zeroValue45 w
theorem rsA (w : World) : (isAgg 24).run Try.prog w = .ok false w := Try.isAgg24 w
theorem isA (w : World) : (isAgg 43).run Try.prog w = .ok false w := Try.isAgg43 w

set_option maxHeartbeats 2000000 in
theorem indexPlays_walk (a : Option Addr) (n c : Nat) (l : List OpH) (id : List UInt8) (w : World) (hr : RdOps w a n c l) (hid : id.length = 32) :
    Calls Try.prog 5 #[.slice a n c, .agg (bv id).toArray] w fun e w' => e = .returned (.bool true) ∧ Chg [] w w' := by
  have hln := hr.rd.num (by decide)
  apply amphoralaw14_IndexPlays_vc
  obtain ⟨g3, w1, r1, h1⟩ := (St.start w).boxA (P := Try.prog) 40 (bv id)
  have h1 : St w [] w1 [.arr g3 40 (bv id)] := h1
  refine ⟨g3, w1, r1, (alive14_spec w1).mono ?_⟩
  rintro e w2 ⟨rfl, c2⟩
  have h2 := h1.same c2
  refine ⟨_, rfl, fun h => by simp at h, fun _ => ⟨fun _ => ⟨rfl, h2.chg⟩, fun hle => ?_⟩⟩
  have hn60 : n ≤ 60 := by simp at hle; omega
  refine (new_spec w2).mono ?_
  rintro e w3 ⟨gi, gm, rfl, hI3⟩
  have hI3 : IdxIn w [] w3 gi gm [] [.arr g3 40 (bv id)] := by
    obtain ⟨es, ck, M, hE, hM, hS⟩ := hI3
    refine ⟨es, ck, M, hE, hM, ?_⟩
    have := St.callPart (N := []) (by rw [List.append_nil]; exact h2) hS
    exact this.perm (List.perm_append_comm (l₁ := [_]))
  refine ⟨gi, 0, rfl, fun xa xn xc x w' => ∃ (i : Nat) (S : Refs), x = (i : Int) ∧ i ≤ n ∧ RdR w' xa xn xc S ∧ S.length ≤ 60 * i ∧ IdxIn w [] w' gi gm S [.arr g3 40 (bv id)], fun _ _ _ x _ => n - x.toNat, ⟨0, [], rfl, by omega, RdE.nil _, by simp, hI3⟩, ?_⟩
  rintro xa xn xc x w4 ⟨i, S, rfl, hi, hS4, hSl, hI4⟩
  refine ⟨fun h => ?_, fun h => ⟨rfl, hI4.chg⟩⟩
  have hi' : i < n := by simp at h; omega
  have hli : l[i]? = some l[i] := List.getElem?_eq_getElem (by omega)
  obtain ⟨o, ho⟩ : ∃ o, l[i] = o := ⟨_, rfl⟩
  rw [ho] at hli
  obtain ⟨rs, hrs⟩ := hr.refs o (List.mem_of_getElem? hli)
  obtain ⟨ps, hps⟩ := hr.packs o (List.mem_of_getElem? hli)
  obtain ⟨b, of, ha, q⟩ := hr.rd.ld (P := Try.prog) (by decide) opA opS hli
  have c4 := hI4.chg
  obtain ⟨es4, ck4, M4, hE4, hM4, hS4'⟩ := hI4
  obtain ⟨g8, w5, r5, h5⟩ := hS4'.zeroA opZ
  have h5 : St w [] w5 [.arr gi 77 [.map (some gm)], .blk gm (.map es4 ck4), .arr g3 40 (bv id), .arr g8 45 (opC op0)] := h5
  obtain ⟨w6, r6, h6⟩ := h5.stA (i := 3) (v := opC o) rfl (opS _) rfl rfl (opC_one o)
  have h6 : St w [] w6 [.arr gi 77 [.map (some gm)], .blk gm (.map es4 ck4), .arr g3 40 (bv id), .arr g8 45 (opC o)] := h6
  have c46 : Chg [] w4 w6 := by
    obtain ⟨g', w', r', h'⟩ := (St.start w4).zeroA (P := Try.prog) opZ
    have e1 := r5.symm.trans r'
    simp only [Result.ok.injEq, Value.pointer.injEq, Option.some.injEq, Addr.mk.injEq, and_true] at e1
    obtain ⟨e1, e2⟩ := e1
    subst e1 e2
    obtain ⟨w'', r'', h''⟩ := h'.stA (i := 0) (v := opC o) rfl (opS _) rfl rfl (opC_one o)
    have e3 := r6.symm.trans r''
    simp only [Result.ok.injEq, true_and] at e3
    rw [e3]
    exact h''.chg
  have hI6 : IdxIn w [] w6 gi gm S [.arr g3 40 (bv id), .arr g8 45 (opC o)] := ⟨es4, ck4, M4, hE4, hM4, h6⟩
  have hS6 := hS4.keep0 c46
  have LR : ∀ {w' : World}, IdxIn w [] w' gi gm S [.arr g3 40 (bv id), .arr g8 45 (opC o)] ∨ (∃ S', IdxIn w [] w' gi gm S' [.arr g3 40 (bv id), .arr g8 45 (opC o)]) → (Instr.loadAt 24 (.pointer (some ⟨g8, 1, none⟩))).run Try.prog w' = .ok (.slice o.ra o.rn o.rc) w' ∧ (Instr.loadAt 43 (.pointer (some ⟨g8, 2, none⟩))).run Try.prog w' = .ok (.slice o.pa o.pn o.pc) w' ∧ (Instr.loadAt 3 (.pointer (some ⟨g8, 0, none⟩))).run Try.prog w' = .ok (.int .i64 o.kind) w' := by
    intro w' hh
    have : ∃ S', IdxIn w [] w' gi gm S' [.arr g3 40 (bv id), .arr g8 45 (opC o)] := by
      rcases hh with hh | hh
      · exact ⟨_, hh⟩
      · exact hh
    obtain ⟨S', es, ck, M, _, _, hq⟩ := this
    exact ⟨hq.ldL (i := 3) (l := opC o) rfl (rsA _) rfl rfl, hq.ldL (i := 3) (l := opC o) rfl (isA _) rfl rfl, hq.ldL (i := 3) (l := opC o) rfl (inA _) rfl rfl⟩
  have L6 := LR (.inl hI6)
  refine ⟨b, of, ha, by omega, by omega, _, q w4 (RdE.keep0 hr.rd c4), g8, w5, r5, w6, r6, fun x w' => x = (decide ((o.rn : Int) > 60) || decide ((o.pn : Int) > 60)) ∧ w' = w6, ⟨_, _, _, L6.1, fun hgt => ⟨by rw [hgt]; rfl, rfl⟩, fun hgt => ⟨_, _, _, L6.2.1, by rw [hgt]; rfl, rfl⟩⟩, ?_⟩
  rintro x42 w7 ⟨rfl, rfl⟩
  refine ⟨fun _ => ⟨rfl, hI6.chg⟩, fun hle => ?_⟩
  have hrn : o.rn ≤ 60 ∧ o.pn ≤ 60 := by
    simp only [Bool.or_eq_false_iff, decide_eq_false_iff_not] at hle
    omega
  obtain ⟨hrn, hpn⟩ := hrn
  have c6 := hI6.chg
  have hSn := hS6.num (by decide)
  have hrsn := hrs.num (by decide)
  let S' : Refs := if o.kind == 0 then (if rs.all goodF then addF S rs else S) else withoutF S ps
  have hS'l : S'.length ≤ 60 * (i + 1) := by
    simp only [S']
    split
    · split
      · have := addF_len rs S; omega
      · omega
    · have := without_len S ps; omega
  refine ⟨_, L6.2.2, fun ya yn yc w' => RdR w' ya yn yc S' ∧ IdxIn w [] w' gi gm S' [.arr g3 40 (bv id)], ⟨fun hk => ?_, fun hk => ?_⟩, ?_⟩
  · have eS' : S' = if rs.all goodF then addF S rs else S := by simp only [S', hk]; rfl
    refine ⟨_, _, _, L6.1, (mine_spec o.ra o.rn o.rc rs w7 (hrs.keep0 c6) (by omega)).mono ?_⟩
    rintro e w8 ⟨gq, rfl, h8⟩
    have c78 := h8.chg
    have hI8 := hI6.same c78
    have hm8 : RdR w8 (some ⟨gq, 0, none⟩) (o.rn + 1) (o.rn + 1) (rs ++ [markR]) := ⟨h8.rd (i := 0) rfl, fun x _ => refC_len x⟩
    have hp8 : RdR w8 (some ⟨gq, 0, none⟩) o.rn (o.rn + 1) rs := by
      have := hm8.sub (lo := 0) (hh := o.rn) (m := o.rn + 1) (a' := some ⟨gq, 0, none⟩) ⟨fun e => by omega, fun _ => by simp [Addr.add]⟩ (by omega) (by omega) (by omega) (Nat.le_refl _)
      simpa [← hrsn] using this
    refine ⟨_, _, _, rfl, (iAdd_spec gi gm S _ _ _ rs hI8.self hp8 (by omega)).mono ?_⟩
    intro e9 w9 hpost
    obtain ⟨rfl, hA9⟩ : e9 = .returned (errV (if rs.all goodF then none else some 28)) ∧ IdxIn w8 [gi, gm] w9 gi gm (if rs.all goodF then addF S rs else S) [] := by
      obtain ⟨_, ⟨hg, rfl, h9⟩ | ⟨hg, rfl, h9⟩⟩ := hpost
      · rw [hg]; exact ⟨rfl, h9⟩
      · rw [hg]; exact ⟨rfl, h9⟩
    rw [← eS'] at hA9
    have hI9 : IdxIn w [] w9 gi gm S' [.arr g3 40 (bv id), .arr g8 45 (opC o)] := hI8.back hA9
    have hS9 : RdR w9 xa xn xc S := hI8.keepR (hS6.keep0 c78) hA9.chg
    have hm9 := hI8.keepR hm8 hA9.chg
    have c9 := hI9.chg
    refine ⟨_, rfl, _, _, _, (LR (.inr ⟨_, hI9⟩)).1, (rAdd_spec xa xn xc S o.ra o.rn o.rc rs w9 hS9 (hrs.keep0 c9) (by omega)).mono ?_⟩
    intro e10 w10 hp10
    obtain ⟨ta, tn, tc, rfl, ht10, d10⟩ : ∃ ta tn tc, e10 = .returned (.tuple #[.slice ta tn tc, .int .i64 (if rs.all goodF then 0 else 28)]) ∧ (rs.all goodF = true → RdR w10 ta tn tc (addF S rs)) ∧ Chg [] w9 w10 := by
      obtain ⟨d, ⟨hg, a', n', c', rfl, hq⟩ | ⟨hg, rfl⟩⟩ := hp10
      · rw [hg]; exact ⟨a', n', c', rfl, fun _ => hq, d⟩
      · rw [hg]; exact ⟨none, 0, 0, rfl, fun h => by simp at h, d⟩
    refine ⟨_, _, _, _, rfl, fun x w' => x = false ∧ Chg [] w10 w', (num_spec _ w10 (by split <;> simp)).mono ?_, ?_⟩
    · rintro e w11 ⟨rfl, rfl⟩
      refine ⟨_, rfl, fun hne => ?_, fun _ => ⟨_, _, _, (LR (.inr ⟨_, hI9.same d10⟩)).1, ?_⟩⟩
      · exfalso
        cases hg : rs.all goodF <;> simp [hg] at hne
      · have hm10 := hm9.keep0 d10
        rw [hrsn.symm] at hm10 ⊢
        refine (kept14_spec gq _ _ _ rs w11 hm10 (by rw [hrsn]; exact hrs.keep0 (c9.trans d10)) (by omega)).mono ?_
        rintro e w12 ⟨rfl, d12⟩
        exact ⟨_, rfl, rfl, d12⟩
    · rintro x69 w13 ⟨rfl, d13⟩
      have d913 := d10.trans d13
      refine ⟨fun h => by simp at h, fun _ => ⟨fun ya yn yc w' => RdR w' ya yn yc S' ∧ w' = w13, ⟨fun h0 => ⟨?_, rfl⟩, fun h0 => ⟨?_, rfl⟩⟩, ?_⟩⟩
      · have hg : rs.all goodF = true := by
          cases hg : rs.all goodF with
          | true => rfl
          | false => simp [hg] at h0
        rw [eS', hg]
        exact (ht10 hg).keep0 d13
      · have hg : rs.all goodF = false := by
          cases hg : rs.all goodF with
          | false => rfl
          | true => simp [hg] at h0
        rw [eS', hg]
        exact hS9.keep0 d913
      · rintro ya yn yc w14 ⟨hy, rfl⟩
        exact ⟨hy, (hI9.same d913).sub (List.Sublist.cons_cons _ (List.nil_sublist _))⟩
  · have eS' : S' = withoutF S ps := by simp only [S', hk]; rfl
    refine ⟨_, _, _, L6.2.1, (iDrop_spec o.pa o.pn o.pc ps hI6 (hps.keep0 c6) (by omega)).mono ?_⟩
    rintro e w15 ⟨rfl, hA15⟩
    rw [← eS'] at hA15
    have hI15 : IdxIn w [] w15 gi gm S' [.arr g3 40 (bv id), .arr g8 45 (opC o)] := hI6.back hA15
    refine ⟨rfl, _, _, _, (LR (.inr ⟨_, hI15⟩)).2.1, (rWithout_spec xa xn xc S o.pa o.pn o.pc ps w15 (hI6.keepR hS6 hA15.chg) (hps.keep0 hI15.chg) (by omega) (by omega)).mono ?_⟩
    rintro e w16 ⟨ta, tn, tc, rfl, ht, d16⟩
    rw [← eS'] at ht
    exact ⟨ta, tn, tc, rfl, ht, (hI15.same d16).sub (List.Sublist.cons_cons _ (List.nil_sublist _))⟩
  clear hI6 hS6 L6 LR
  generalize S' = T at hS'l ⊢
  rintro ya yn yc w17 ⟨hT17, hI17⟩
  have hTn := hT17.num (by decide)
  refine (iAll_spec gi gm T hI17.self (by omega)).mono ?_
  rintro e w18 ⟨aa, an, ac, rfl, hA18⟩
  have hI18 := hI17.back hA18
  have hall18 : RdR w18 aa an ac T := by
    obtain ⟨_, _, _, _, _, hq⟩ := hA18
    exact ⟨hq.rd (i := 2) rfl, fun x _ => refC_len x⟩
  have hTa := hall18.num (by decide)
  have LI : ∀ {w' : World}, Chg [] w18 w' → (Instr.loadAt 40 (.pointer (some ⟨g3, 0, none⟩))).run Try.prog w' = .ok (.agg (bv id).toArray) w' := by
    intro w' hc
    obtain ⟨_, _, _, _, _, hq⟩ := hI18.same hc
    exact hq.ldA (i := 3) (l := bv id) rfl (idA' _) (idS' _) (by simp [hid])
  refine ⟨_, _, _, rfl, _, LI (Chg.refl _ _), (iFind_spec gi gm T id hid hI18).mono ?_⟩
  rintro e w19 ⟨rfl, d19⟩
  obtain ⟨g14, w20, r20, h20⟩ := (St.start w19).zeroA (P := Try.prog) rfZ
  obtain ⟨w21, r21, h21⟩ := h20.stA (i := 0) (v := refC ((findF T id).getD ref0)) rfl (rfS _) (refC_len _) (refC_len _) (refC_one _)
  have h21 : St w19 [] w21 [.arr g14 52 (refC ((findF T id).getD ref0))] := h21
  have d21 := d19.trans h21.chg
  refine ⟨_, _, rfl, g14, w20, r20, w21, r21, _, LI d21, (rFind_spec ya yn yc T id hid w21 (hI17.keepR hT17 (hA18.same d21).chg) (by omega)).mono ?_⟩
  rintro e w22 ⟨rfl, d22⟩
  obtain ⟨g16, w23, r23, h23⟩ := (h21.same d22).zeroA (P := Try.prog) rfZ
  obtain ⟨w24, r24, h24⟩ := h23.stA (i := 1) (v := refC ((findF T id).getD ref0)) rfl (rfS _) (refC_len _) (refC_len _) (refC_one _)
  have h24 : St w19 [] w24 [.arr g14 52 (refC ((findF T id).getD ref0)), .arr g16 52 (refC ((findF T id).getD ref0))] := h24
  have d24 := d19.trans h24.chg
  refine ⟨_, _, rfl, g16, w23, r23, w24, r24, fun x w' => x = false ∧ Chg [] w18 w', (iLen_spec gi gm T (hI18.same d24)).mono ?_, ?_⟩
  · rintro e w25 ⟨rfl, rfl⟩
    refine ⟨_, rfl, fun hne => ?_, fun _ => (rsame13_spec aa an ac T ya yn yc T w25 (hall18.keep0 d24) (hI17.keepR hT17 (hA18.same d24).chg) (by omega)).mono ?_⟩
    · exfalso
      rw [hTn] at hne
      simp at hne
    · rintro e w26 ⟨⟨rfl, _⟩ | ⟨_, hne⟩, d26⟩
      · have h26 := h24.same d26
        refine ⟨_, rfl, fun h => by simp at h, fun _ => ⟨_, h26.ldA (i := 0) (l := refC ((findF T id).getD ref0)) rfl (rfA _) (rfS _) (refC_len _), _, h26.ldA (i := 1) (l := refC ((findF T id).getD ref0)) rfl (rfA _) (rfS _) (refC_len _), _, (eqRefs _ _ _ _ w26).2, ?_, d24.trans d26⟩⟩
        rw [(refEqB_iff _ _).2 rfl]
        cases (findF T id).isSome <;> rfl
      · exact absurd rfl hne
  · rintro x115 w27 ⟨rfl, d27⟩
    refine ⟨fun h => by simp at h, fun _ => ⟨fun y w' => ∃ (j : Nat) (cs : List Value), y = (j : Int) ∧ j ≤ an ∧ IdxIn w17 [gi, gm] w' gi gm T [.row 52 35 (.slice aa an ac) an cs], fun y _ => an - y.toNat, ⟨0, _, rfl, by omega, hA18.same d27⟩, ?_⟩⟩
    rintro y w28 ⟨j, cs, rfl, hj, hA28⟩
    refine ⟨fun h => ?_, fun h => ?_⟩
    · have hj' : j < an := by simp at h; omega
      obtain ⟨es, ck, M, hE, hM, hq⟩ := hA28
      have hown : w28.ownsRow 0 52 35 (.slice aa an ac) an cs := hq.holds 2 _ rfl
      obtain ⟨ga, rfl⟩ := ownsRow_head hown (by omega)
      obtain ⟨w29, r29, h29⟩ := hq.stRowA (i := 2) (vs := refC ref0) (j := j) rfl (rfS _) (refC_len _) (refC_one _) hj'
      refine ⟨_, ref0_build w28, ga, 0, rfl, by omega, by omega, w29, ?_, ⟨j + 1, _, wrap_succ hj' (by omega), by omega, es, ck, M, hE, hM, h29⟩, mu_succ hj' (by omega)⟩
      rw [Int.toNat_natCast, Nat.zero_add]
      exact r29
    · refine ⟨⟨i + 1, T, wrap_succ hi' (by omega), by omega, hI17.keepR hT17 hA28.chg, hS'l, (hI17.back hA28).sub (List.Sublist.cons _ (List.Sublist.refl _))⟩, mu_succ hi' (by omega)⟩

end Go.Proofs.Ytoianikapjkekaa
