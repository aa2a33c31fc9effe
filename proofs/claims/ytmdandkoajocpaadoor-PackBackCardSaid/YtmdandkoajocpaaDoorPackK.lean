/- The law PackBack (conditions: the table lies where the program laid it). -/
import Derived.Test.YtmdandkoajocpaaDoorPackL
namespace Go.Proofs.YtmdandkoajocpaaDoor
open Go Sx
set_option maxRecDepth 8000

section
variable {w0 w w' : World} {X : List Nat} {M N N' T : List Res}

theorem rdE_upto {α : Type} {enc : α → List Value} {k : Nat} {a : Option Addr} {n c m : Nat} {l : List α} (h : RdE enc k w a n c l) (hk : 0 < k) (hm : m ≤ n) : RdE enc k w a m c (l.take m) := by
  have h0 : SubA k a 0 c a := ⟨fun _ => rfl, fun _ => by cases a <;> simp [Addr.add]⟩
  have := h.sub h0 (hh := m) (by omega) hm (by have := h.rd.le; omega) (Nat.le_refl _)
  simpa using this

theorem case_ms {C : CaseD} (hm : C.ms.length = 32) (h : St w0 X w M) {i g : Nat} {T : TypeId} (hi : M[i]? = some (.arr g T (caseC C))) : (Instr.loadAt 23 (.pointer (some ⟨g, 0, none⟩))).run Tryd.prog w = .ok (.agg (bv C.ms).toArray) w := by
  have := h.ldPre (T := 23) (n := 32) hi (Tryd.isAgg23 _) (Tryd.sizeOf23 _) (by rw [caseC_len hm]; decide)
  rw [caseC, List.take_left' (by simp [hm])] at this
  exact this

theorem rgood13_spec (num : Int) (w : World) : Calls Tryd.prog 14 #[.int .i64 num] w fun e w' => e = .returned (.bool (goodP num)) ∧ w' = w := by
  apply amphoraref13_Good_vc
  exact ⟨by simp [goodP, ge_iff_le], rfl⟩

theorem same13 (a : Option Addr) (n c : Nat) (a2 : Option Addr) (n2 c2 : Nat) (l : Refs) (w : World) (h1 : RdR w a n c l) (h2 : RdR w a2 n2 c2 l) (hb : n ≤ 4611686018427387904) :
    Calls Tryd.prog 16 #[.slice a n c, .slice a2 n2 c2] w fun e w' => e = .returned (.bool true) ∧ Chg [] w w' := by
  refine (rsame13_spec a n c l a2 n2 c2 l w h1 h2 hb).mono ?_
  rintro e w' ⟨⟨rfl, _⟩ | ⟨_, hne⟩, hc⟩
  · exact ⟨rfl, hc⟩
  · exact absurd rfl hne

theorem itId {a : Option Addr} {n c : Nat} {l : List ItD} (h : RdE itC 33 w a n c l) {i : Nat} {x : ItD} (hx : l[i]? = some x) : ∃ b o, a = some ⟨b, o, none⟩ ∧ ∀ w', RdE itC 33 w' a n c l → (Instr.loadAt 24 (.pointer (some ⟨b, o + Int.toNat (i : Int) * 33, none⟩))).run Tryd.prog w' = .ok (.agg (bv x.id).toArray) w' := by
  obtain ⟨b, o, rfl, hr⟩ := h.at_ (by decide) hx
  refine ⟨b, o, rfl, fun w' h' => ?_⟩
  rw [Int.toNat_natCast]
  refine ldRange (fun j v hj => hr w' h' j v ?_) (idA' _) (idS' _) (by simp [x.idl])
  rw [itC, List.getElem?_append_left (List.getElem?_eq_some_iff.1 hj).1]; exact hj

end

theorem build_len2 (K : List UInt8) (num : Int) {w : World} {C : CaseD} (h : CaseR w C) (hl : largeP C = false) : (buildP K num (itemsT C)).length ≤ 100000 := by
  obtain ⟨hs, h1, h2⟩ := small_of_case h hl
  have hb := h.bnum
  have hf := frames_len (itemsT C) fun x hx => ⟨hs.idl x hx, by have := hs.blob hx; omega⟩
  have hsum : ((itemsT C).map fun x => x.2.length).sum = C.bls.flatten.length := by
    rw [← flat_sum]
    congr 1
    simp only [itemsT, List.map_map]
    refine List.ext_getElem (by simp) fun i h1 h2 => ?_
    have hi : i < C.bls.length := by simpa using h2
    simp only [List.getElem_map, List.getElem_range, Function.comp_apply, itemT]
    rw [List.getD_eq_getElem?_getD, List.getElem?_eq_getElem hi]; rfl
  rw [hsum, itemsT_len] at hf
  have hsl := sealF_len K 3 (numL (n64 num)) (footL (refsP num 16 (itemsT C))) (by rw [footL_len, refsP_len, itemsT_len]; omega)
  rw [footL_len, refsP_len, itemsT_len] at hsl
  have hv := varL_len 9 (sealF K 3 (numL (n64 num)) (footL (refsP num 16 (itemsT C)))).length (by omega) (by decide)
  rw [buildP_body]
  simp only [List.length_append, headP_len, footP, frameL, List.length_cons]
  omega

set_option maxHeartbeats 4000000 in
theorem packBack_walk (C : CaseD) (cut : Int) (w : World) (hK : KTab w) (h : CaseR w C) (hcut : -9223372036854775808 ≤ cut ∧ cut ≤ 9223372036854775807) :
    Calls Tryd.prog 4 #[.agg (caseC C).toArray, .int .i64 cut] w fun e w' => e = .returned (.bool true) ∧ Chg [] w w' := by
  obtain ⟨mI, hI⟩ := eI
  have hm := h.lm
  obtain ⟨q1, q2, q3⟩ := caseC_at hm
  have hbn := h.bnum
  apply amphoralaw13_PackBack_vc
  obtain ⟨g2, w1, r1, k1⟩ := (St.start w).boxA (P := Tryd.prog) 39 (caseC C)
  have k1 : St w [] w1 [.arr g2 39 (caseC C)] := k1
  have ldC : ∀ {w' L}, St w [] w' (.arr g2 39 (caseC C) :: L) → (Instr.loadAt 39 (.pointer (some ⟨g2, 0, none⟩))).run Tryd.prog w' = .ok (.agg (caseC C).toArray) w' := fun h => h.ldA (i := 0) (l := caseC C) rfl (caA _) (caS _) (caseC_len hm)
  have ldN : ∀ {w' L}, St w [] w' (.arr g2 39 (caseC C) :: L) → (Instr.loadAt 3 (.pointer (some ⟨g2, 32, none⟩))).run Tryd.prog w' = .ok (.int .i64 C.num) w' := fun h => h.ldL (i := 0) (o := 32) rfl (inA _) rfl q1
  refine ⟨g2, w1, r1, (alive13_spec w1 (hK.keep0 k1.chg)).mono ?_⟩
  rintro e w2 ⟨rfl, c2⟩
  have k2 := k1.same c2
  refine ⟨_, rfl, fun h => (by cases h), fun _ => ⟨_, ldC k2, (large13_spec C w2 (h.keep0 k2.chg)).mono ?_⟩⟩
  rintro e w3 ⟨rfl, c3⟩
  have k3 := k2.same c3
  refine ⟨_, rfl, fun _ => ⟨rfl, k3.chg⟩, fun hlg => ⟨_, case_ms hm k3 (i := 0) rfl, (rfromMaster_spec C.ms w3 hm).mono ?_⟩⟩
  rintro e w4 ⟨rfl, c4⟩
  obtain ⟨K, hKK⟩ : ∃ K, masterF C.ms = K := ⟨_, rfl⟩
  have hk : K.length = 96 := by rw [← hKK]; simp
  rw [hKK]
  obtain ⟨hs, hn100, htot⟩ := small_of_case h hlg
  have hbl2 := build_len2 K C.num h hlg
  have k4 := k3.same c4
  obtain ⟨g5, w5, r5, k5⟩ := k4.zeroA kyZ
  obtain ⟨w6, r6, k6⟩ := k5.stA (i := 1) (v := bv K) rfl (kyS _) (by simp) (by simp [hk]) (bv_one _)
  have k6 : St w [] w6 [.arr g2 39 (caseC C), .arr g5 41 (bv K)] := k6
  have ldK : ∀ {w'}, St w [] w' [.arr g2 39 (caseC C), .arr g5 41 (bv K)] → (Instr.loadAt 41 (.pointer (some ⟨g5, 0, none⟩))).run Tryd.prog w' = .ok (.agg (bv K).toArray) w' := fun h => h.ldA (i := 1) (l := bv K) rfl (kyA _) (kyS _) (by simp [hk])
  refine ⟨_, rfl, g5, w5, r5, w6, r6, _, ldC k6, (items_spec C w6 (h.keep0 k6.chg) hn100 htot).mono ?_⟩
  rintro e w7 ⟨oa, oc, ma, mc, O, G, rfl, hIt⟩
  have k7 := k6.same hIt.st.chg
  have hOt : O.map ItD.t = itemsT C := by rw [hIt.ot, List.take_of_length_le (by rw [itemsT_len]; omega)]
  have hOR : ItR w7 oa C.bn oc O := ⟨⟨hIt.st.rd (i := 0) rfl, fun x _ => itC_len x⟩, fun x hx => (hIt.ob x hx).keep0 hIt.st.chg⟩
  have hsO : SmallI (O.map ItD.t) := by rw [hOt]; exact hs
  have hK7 := hK.keep0 k7.chg
  cases hg : goodP C.num with
  | false =>
    refine ⟨_, _, _, _, _, _, rfl, _, ldK k7, _, ldN k7, (build_bad K hk C.num oa C.bn oc w7 hg).mono ?_⟩
    rintro e w8 ⟨rfl, c8⟩
    have k8 := k7.same c8
    refine ⟨_, _, _, _, _, _, _, rfl, _, neqS_nil hI (some 28) _ _, fun _ => ⟨_, ldN k8, (rgood13_spec C.num w8).mono ?_⟩, fun h => by cases h⟩
    rintro e w9 ⟨rfl, rfl⟩
    exact ⟨_, rfl, by rw [hg]; rfl, k8.chg⟩
  | true =>
    refine ⟨_, _, _, _, _, _, rfl, _, ldK k7, _, ldN k7, (build_spec13 K hk C.num oa C.bn oc O w7 hK7 hg hOR hsO).mono ?_⟩
    rintro e w8 ⟨ba, bn, bc, ra, rc, rfl, hbl, kb⟩
    rw [hOt] at hbl kb ⊢
    subst hbl
    have k8 := k7.same kb.chg
    obtain ⟨b, hb⟩ : ∃ b, buildP K C.num (itemsT C) = b := ⟨_, rfl⟩
    obtain ⟨rs, hrs⟩ : ∃ rs, refsP C.num 16 (itemsT C) = rs := ⟨_, rfl⟩
    have hob := open_build K hg hs
    rw [hb, hrs] at hob
    have hrl : rs.length = C.bn := by rw [← hrs, refsP_len, itemsT_len, hbn]
    have hbb : b.length ≤ 100000 := by rw [← hb]; exact hbl2
    rw [hb, hrs] at kb ⊢
    have hB : RdB w8 ba b.length bc b := kb.rd (i := 0) rfl
    have hRs : RdR w8 ra rs.length rc rs := rdRefs kb (i := 1) rfl
    refine ⟨_, _, _, _, _, _, _, rfl, _, neqS_nil hI none _ _, fun h => (by cases h), fun _ => ⟨_, ldK k8, _, ldN k8, (pkopen_spec K hk C.num ba b.length bc b w8 (hK.keep0 k8.chg) hB (by omega)).mono ?_⟩⟩
    rintro e w9 ⟨la, lc, rfl, hLR, c9⟩
    rw [hob] at hLR ⊢
    have k9 := k8.same c9
    refine ⟨_, _, _, _, rfl, fun x w' => x = false ∧ Chg [] w9 w', ⟨_, neqS_nil hI none _ _, fun h => (by cases h), fun _ => (same13 la rs.length lc ra rs.length rc rs w9 hLR (hRs.keep0 c9) (by omega)).mono ?_⟩, ?_⟩
    · rintro e w10 ⟨rfl, c10⟩
      exact ⟨_, rfl, by simp [hrl], c10⟩
    rintro x w10 ⟨rfl, c10⟩
    have k10 := k9.same c10
    have c810 := c9.trans c10
    refine ⟨fun h => (by cases h), fun _ => ⟨fun x w' => ∃ j : Nat, x = (j : Int) ∧ j ≤ rs.length ∧ Chg [] w10 w', fun x _ => rs.length - x.toNat, ⟨0, rfl, by omega, Chg.refl _ _⟩, ?_⟩⟩
    rintro x w11 ⟨j, rfl, hj, c11⟩
    have c811 := c810.trans c11
    have k11 := k10.same c11
    have hB11 := hB.keep0 c811
    have hR11 := hRs.keep0 c811
    refine ⟨fun hlt => ?_, fun hge => ?_⟩
    · have hj' : j < rs.length := by simp at hlt; omega
      have hr : rs[j]? = some rs[j] := List.getElem?_eq_getElem hj'
      obtain ⟨r, hrr⟩ : ∃ r, rs[j] = r := ⟨_, rfl⟩
      rw [hrr] at hr
      have hjt : j < (itemsT C).length := by rw [itemsT_len]; omega
      have hx : (itemsT C)[j]? = some (itemsT C)[j] := List.getElem?_eq_getElem hjt
      obtain ⟨it, hit⟩ : ∃ it, (itemsT C)[j] = it := ⟨_, rfl⟩
      rw [hit] at hx
      obtain ⟨i1, i2, i3, i4, i5⟩ := cut_item K hg hs hx (by rw [hrs]; exact hr)
      rw [hb] at i4 i5
      have hjo : j < O.length := by have := congrArg List.length hOt; rw [List.length_map, itemsT_len] at this; omega
      have hO : O[j]? = some O[j] := List.getElem?_eq_getElem hjo
      obtain ⟨y, hy⟩ : ∃ y, O[j] = y := ⟨_, rfl⟩
      rw [hy] at hO
      have hyt : y.t = it := by
        have h2 := congrArg (fun l => l[j]?) hOt
        simp only [List.getElem?_map, hO, hx, Option.map_some, Option.some.injEq] at h2
        exact h2
      have hyid : y.id = it.1 := by rw [← hyt]; rfl
      have hybl : y.blob = it.2 := by rw [← hyt]; rfl
      obtain ⟨b1, o1, hab, hld⟩ := hR11.ld (P := Tryd.prog) (by decide) rfA rfS hr
      obtain ⟨g14, w14, r14, k14⟩ := (St.start w11).zeroA rfZ
      obtain ⟨w15, r15, k15⟩ := k14.stA (i := 0) (v := refC r) rfl (rfS _) (refC_len _) (refC_len _) (refC_one _)
      have k15 : St w11 [] w15 [.arr g14 26 (refC r)] := k15
      refine ⟨b1, o1, hab, by omega, by omega, _, hld w11 hR11, g14, w14, r14, w15, r15, _, k15.ldA (i := 0) (l := refC r) rfl (rfA _) (rfS _) (refC_len r), (cut_spec13 ba b.length bc b r w15 (hB11.keep0 k15.chg) (by omega)).mono ?_⟩
      rintro e w16 ⟨a16, c16, rfl, hf16⟩
      rw [i4] at *
      rw [i5] at hf16 ⊢
      have k16 : St w11 [] w16.drew [.arr g14 26 (refC r), .row 5 1 (.slice a16 it.2.length c16) it.2.length (bv it.2)] := (hf16.add k15).drew
      let S : World → Prop := fun w' => St w11 [] w' [.arr g14 26 (refC r), .row 5 1 (.slice a16 it.2.length c16) it.2.length (bv it.2)]
      have fI : ∀ w', S w' → RdE itC 33 w' oa C.bn oc O := fun w' hw => ((hOR.rd.keep0 kb.chg).keep0 c811).keep0 (Sx.St.chg hw)
      have hbytes : ∀ w', S w' → RdB w' y.a y.n y.c it.2 := fun w' hw => by
        have := (hIt.ob y (List.mem_of_getElem? hO)).keep0 hIt.st.chg
        have := ((this.keep0 kb.chg).keep0 c811).keep0 (Sx.St.chg hw)
        rw [hybl] at this; exact this
      obtain ⟨b3, o3, hab3, ld3⟩ := itId (fI _ k16) hO
      obtain ⟨b4, o4, hab4, ld4⟩ := (fI _ k16).fld (P := Tryd.prog) (by decide) bsA' (j := 32) hO (itC_blob y)
      have hid1 : r.id = it.1 := i1
      refine ⟨_, _, _, _, rfl, fun x w' => x = false ∧ Chg [] w10 w', ⟨S, k16, _, fun w' _ => neqS_nil hI none _ _, fun h => (by cases h), fun _ => ⟨b3, o3, hab3, by omega, by omega, _, fun w' hw => by
        have := (Sx.St.ldPre hw (i := 0) (T := 24) (n := 32) rfl (idA' w') (idS' w') (by simp))
        rw [refC, List.take_left' (by simp [r.idl])] at this
        exact this, _, fun w' hw => ld3 w' (fI w' hw), _, fun w' _ => (eqIds _ _ r.id y.id r.idl y.idl w').2, fun h => ?_, fun _ => ⟨_, fun w' hw => (refFld hw (i := 0) rfl).1, _, fun w' hw => ldN (k11.same (Sx.St.chg hw)), fun h => ?_, fun _ => ⟨b4, o4, hab4, by omega, by omega, _, fun w' hw => toStr bS bE sS (Sx.St.rd hw (i := 1) (xs := bv it.2) rfl : RdB w' a16 it.2.length c16 it.2).cells rfl, _, _, _, fun w' hw => ld4 w' (fI w' hw), _, fun w' hw => toStr bS bE sS (hbytes w' hw).cells (hbytes w' hw).lenB, ?_, c11.trans k16.chg⟩⟩⟩⟩, ?_⟩
      · rw [hid1, hyid] at h; simp at h
      · rw [i2] at h; simp at h
      · simp
      rintro x w17 ⟨rfl, c17⟩
      exact ⟨fun h => (by cases h), fun _ => ⟨⟨j + 1, wrap_succ hj' (by omega), by omega, c17⟩, mu_succ hj' (by omega)⟩⟩
    refine ⟨fun _ => ⟨rfl, k11.chg⟩, fun hin => ?_⟩
    have hc0 : 16 ≤ cut ∧ cut < (b.length : Int) := by
      simp only [Bool.or_eq_false_iff, decide_eq_false_iff_not] at hin
      omega
    obtain ⟨c, rfl⟩ : ∃ c : Nat, cut = (c : Int) := ⟨cut.toNat, by omega⟩
    obtain ⟨i0, e0, z1, z2, z3, z4, z5, z6⟩ := back_cut K hg hs (c := c) (by omega) (by rw [hb]; omega)
    rw [hb] at z2 z3
    rw [refsP_take, hrs] at z3
    have hcap := hB11.le
    have k11d := k11.drew
    have hBc := rdB_upto (hB11.keep0 (Chg.drew [] w11)) (k := c) (by omega)
    let S : World → Prop := fun w' => St w [] w' [.arr g2 39 (caseC C), .arr g5 41 (bv K)]
    refine ⟨S, k11d, by omega, by omega, _, fun w' hw => ldK hw, _, fun w' hw => ldN hw, ?_⟩
    rw [Int.toNat_natCast]
    refine (pkopen_spec K hk C.num ba c bc (b.take c) w11.drew (hK.keep0 k11d.chg) hBc (by omega)).mono ?_
    rintro e w18 ⟨pa, pc, rfl, _, c18⟩
    rw [z2]
    have k18 : S w18 := Sx.St.same k11d c18
    refine ⟨_, _, _, _, rfl, S, fun _ h => h, k18, by omega, by omega, (scan_spec13 ba c bc (b.take c) w18 (hBc.keep0 c18) (by omega)).mono ?_⟩
    rintro e w19 ⟨sa, sc, rfl, hSR, c19⟩
    rw [z3] at hSR ⊢
    have k19 : S w19 := Sx.St.same k18 c19
    have c1119 : Chg [] w11 w19 := ((Chg.drew [] w11).trans c18).trans c19
    have hil : i0 ≤ rs.length := by rw [hrl, ← hbn, ← itemsT_len]; exact z1
    have hsl : (rs.take i0).length = i0 := by rw [List.length_take]; omega
    refine ⟨_, _, _, _, _, _, rfl, fun x w' => ∃ j : Nat, x = (j : Int) ∧ j ≤ i0 ∧ Chg [] w19 w', fun x _ => i0 - x.toNat, ⟨0, rfl, by omega, Chg.refl _ _⟩, ?_⟩
    rintro x w20 ⟨j, rfl, hj2, c20⟩
    have hR20 := (hR11.keep0 c1119).keep0 c20
    refine ⟨fun x w' => x = decide (j < i0) ∧ Chg [] w19 w', ⟨fun w' => Chg [] w20 w', Chg.drew _ _, fun hlt => ?_, fun hge => ?_⟩, ?_⟩
    · have hj' : j < rs.length := by simp at hlt; omega
      have hr : rs[j]? = some rs[j] := List.getElem?_eq_getElem hj'
      obtain ⟨r, hrr⟩ : ∃ r, rs[j] = r := ⟨_, rfl⟩
      rw [hrr] at hr
      have hjt : j < (itemsT C).length := by rw [itemsT_len]; omega
      have hx : (itemsT C)[j]? = some (itemsT C)[j] := List.getElem?_eq_getElem hjt
      obtain ⟨it, hit⟩ : ∃ it, (itemsT C)[j] = it := ⟨_, rfl⟩
      rw [hit] at hx
      obtain ⟨i1, i2, i3, i4, i5⟩ := cut_item K hg hs hx (by rw [hrs]; exact hr)
      have hib := (item_bounds (num := C.num) hs hx).2.2
      have hra : (refC r)[33]? = some (.int .i64 r.at_) ∧ (refC r)[34]? = some (.int .i64 r.len) := by
        constructor <;> rw [refC, List.getElem?_append_right (by simp [r.idl])] <;> simp [r.idl]
      obtain ⟨b1, o1, hab1, ld1⟩ := hR20.fld (P := Tryd.prog) (by decide) inA (j := 33) hr hra.1
      obtain ⟨b2, o2, hab2, ld2⟩ := hR20.fld (P := Tryd.prog) (by decide) inA (j := 34) hr hra.2
      refine ⟨b1, o1, hab1, by omega, by omega, b2, o2, hab2, by omega, by omega, _, fun w' hw => ld1 w' (hR20.keep0 hw), _, fun w' hw => ld2 w' (hR20.keep0 hw), ?_, c20.trans (Chg.drew _ _)⟩
      rw [i3, wrap_i64 (by omega) (by omega)]
      apply decide_eq_decide.2
      constructor
      · intro hle
        by_cases hji : j < i0
        · exact hji
        · have : j = i0 := by omega
          subst this
          have := z6 it hx
          omega
      · intro hji
        have := z5 j it hji hx
        omega
    · have hj' : ¬ j < i0 := by simp at hge; omega
      exact ⟨by rw [decide_eq_false hj'], c20.trans (Chg.drew _ _)⟩
    rintro x w21 ⟨rfl, c21⟩
    refine ⟨fun hlt => ?_, fun hge => ?_⟩
    · have hji : j < i0 := by simpa using hlt
      exact ⟨⟨j + 1, wrap_succ hji (by omega), by omega, c21⟩, mu_succ hji (by omega)⟩
    have hji : j = i0 := by simp at hge; omega
    subst hji
    have k21 : S w21 := Sx.St.same k19 c21
    have hcr := hR11.rd.le
    refine ⟨_, eqlS_err hI (some 17) 17 _ _ _, fun _ => ⟨_, eqlS_nil hI none _ _, fun _ => ⟨_, ldN k21, fun _ => ⟨by omega, by omega, ?_⟩, fun h => by simp at h⟩, fun h => by cases h⟩, fun h => by simp at h⟩
    rw [Int.toNat_natCast]
    refine (same13 sa (rs.take j).length sc ra j rc (rs.take j) w21 (hSR.keep0 c21) (rdE_upto ((hR11.keep0 c1119).keep0 c21) (by decide) hil) (by omega)).mono ?_
    rintro e w22 ⟨rfl, c22⟩
    exact ⟨_, rfl, by simp [z4], k21.chg.trans c22⟩

end Go.Proofs.YtmdandkoajocpaaDoor
