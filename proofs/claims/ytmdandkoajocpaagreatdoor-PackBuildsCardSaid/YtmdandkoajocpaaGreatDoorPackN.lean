/- The law PackBuilds (conditions: the table lies where the program laid it). -/
import Derived.Test.YtmdandkoajocpaaGreatDoorPackM
namespace Go.Proofs.YtmdandkoajocpaaGreatDoor
open Go Sx
set_option maxRecDepth 8000

section
variable {w0 w w' : World} {X : List Nat} {M N N' T : List Res}

theorem itIn {w0 w1 : World} {C : CaseD} {oa : Option Addr} {oc : Nat} {ma : Option Addr} {mc k : Nat} {O : List ItD} {G : List MD} (h : ItemsR w0 w1 C oa oc ma mc k O G []) : RdE itC 33 w1 oa k oc O ∧ RdE itC 33 w1 ma k mc (G.map MD.it) := by
  refine ⟨⟨h.st.rd (i := 0) rfl, fun x _ => itC_len x⟩, ⟨?_, fun x _ => itC_len x⟩⟩
  have := h.st.rd (i := 1) (e := 46) rfl
  rw [List.flatMap_map]; exact this
theorem mdAt {w0 w1 : World} {C : CaseD} {oa : Option Addr} {oc : Nat} {ma : Option Addr} {mc k : Nat} {O : List ItD} {G : List MD} (h : ItemsR w0 w1 C oa oc ma mc k O G []) {i : Nat} {m : MD} (hm : G[i]? = some m) : MarkB w1 m.g m.l.length m.c m.l m.cur := by
  refine MD.mark (h.mo m (List.mem_of_getElem? hm)) ?_
  exact h.st.holds (i + 2) m.res (by
    show (G.map MD.res)[i]? = _
    rw [List.getElem?_map, hm]; rfl)
end

set_option maxHeartbeats 4000000 in
theorem packBuilds_walk (C : CaseD) (w : World) (hK : KTab w) (h : CaseR w C) :
    Calls Tryz.prog 3 #[.agg (caseC C).toArray] w fun e w' => e = .returned (.bool true) ∧ Chg [] w w' := by
  obtain ⟨mI, hI⟩ := eI
  have hm := h.lm
  obtain ⟨q1, q2, q3⟩ := caseC_at hm
  have hbn := h.bnum
  apply amphoralaw13_PackBuilds_vc
  obtain ⟨g2, w1, r1, k1⟩ := (St.start w).boxA (P := Tryz.prog) 25 (caseC C)
  have k1 : St w [] w1 [.arr g2 25 (caseC C)] := k1
  have ldC : ∀ {w' L}, St w [] w' (.arr g2 25 (caseC C) :: L) → (Instr.loadAt 25 (.pointer (some ⟨g2, 0, none⟩))).run Tryz.prog w' = .ok (.agg (caseC C).toArray) w' := fun h => h.ldA (i := 0) (l := caseC C) rfl (caA _) (caS _) (caseC_len hm)
  have ldN : ∀ {w' L}, St w [] w' (.arr g2 25 (caseC C) :: L) → (Instr.loadAt 3 (.pointer (some ⟨g2, 32, none⟩))).run Tryz.prog w' = .ok (.int .i64 C.num) w' := fun h => h.ldL (i := 0) (o := 32) rfl (inA _) rfl q1
  refine ⟨g2, w1, r1, (alive13_spec w1 (hK.keep0 k1.chg)).mono ?_⟩
  rintro e w2 ⟨rfl, c2⟩
  have k2 := k1.same c2
  refine ⟨_, rfl, fun h => (by cases h), fun _ => ⟨_, ldC k2, (large13_spec C w2 (h.keep0 k2.chg)).mono ?_⟩⟩
  rintro e w3 ⟨rfl, c3⟩
  have k3 := k2.same c3
  refine ⟨_, rfl, fun _ => ⟨rfl, k3.chg⟩, fun hlg => ⟨_, case_ms hm k3 (i := 0) rfl, (rfromMaster_spec C.ms w3 hm).mono ?_⟩⟩
  rintro e w4 ⟨rfl, c4⟩
  obtain ⟨K, hKK⟩ : ∃ K, masterF C.ms = K := ⟨_, rfl⟩
  have hk : K.length = 96 := by rw [← hKK]; simp
  rw [hKK]
  obtain ⟨hs, hn100, htot⟩ := small_of_case h hlg
  have k4 := k3.same c4
  obtain ⟨g5, w5, r5, k5⟩ := k4.zeroA kyZ
  obtain ⟨w6, r6, k6⟩ := k5.stA (i := 1) (v := bv K) rfl (kyS _) (by simp) (by simp [hk]) (bv_one _)
  have k6 : St w [] w6 [.arr g2 25 (caseC C), .arr g5 28 (bv K)] := k6
  have ldK : ∀ {w'}, St w [] w' [.arr g2 25 (caseC C), .arr g5 28 (bv K)] → (Instr.loadAt 28 (.pointer (some ⟨g5, 0, none⟩))).run Tryz.prog w' = .ok (.agg (bv K).toArray) w' := fun h => h.ldA (i := 1) (l := bv K) rfl (kyA _) (kyS _) (by simp [hk])
  refine ⟨_, rfl, g5, w5, r5, w6, r6, _, ldC k6, (items_spec C w6 (h.keep0 k6.chg) hn100 htot).mono ?_⟩
  rintro e w7 ⟨oa, oc, ma, mc, O, G, rfl, hIt⟩
  have k7 := k6.same hIt.st.chg
  have hOt : O.map ItD.t = itemsT C := by rw [hIt.ot, List.take_of_length_le (by rw [itemsT_len]; omega)]
  have hMt : (G.map MD.it).map ItD.t = itemsT C := by
    rw [List.map_map]
    have := hIt.mt
    rw [List.take_of_length_le (by rw [itemsT_len]; omega)] at this
    exact this
  obtain ⟨hO1, hM1⟩ := itIn hIt
  have hOR : ItR w7 oa C.bn oc O := ⟨hO1, fun x hx => (hIt.ob x hx).keep0 hIt.st.chg⟩
  have hMR : ItR w7 ma C.bn mc (G.map MD.it) := ⟨hM1, fun x hx => by
    obtain ⟨m, hmm, rfl⟩ := List.mem_map.1 hx
    obtain ⟨i, hi, rfl⟩ := List.getElem_of_mem hmm
    exact (mdAt hIt (List.getElem?_eq_getElem hi)).rd⟩
  have hsO : SmallI (O.map ItD.t) := by rw [hOt]; exact hs
  have hsM : SmallI ((G.map MD.it).map ItD.t) := by rw [hMt]; exact hs
  have hK7 := hK.keep0 k7.chg
  have hOl : O.length = C.bn := by have := congrArg List.length hOt; rw [List.length_map, itemsT_len] at this; omega
  have hGl : G.length = C.bn := by have := congrArg List.length hMt; rw [List.length_map, List.length_map, itemsT_len] at this; omega
  have progB : Calls Tryz.prog 11 #[.agg (bv K).toArray, .int .i64 C.num, .slice ma C.bn mc] w7 fun e w' => ∃ ba bn bc ra rn rc, e = .returned (.tuple #[.slice ba bn bc, .slice ra rn rc, errV (if goodP C.num then none else some 28)]) ∧ Chg [] w7 w' ∧ RdB w' ba bn bc (if goodP C.num then buildP K C.num (itemsT C) else []) ∧ RdR w' ra rn rc (if goodP C.num then refsP C.num 16 (itemsT C) else []) := by
    cases hg : goodP C.num with
    | false =>
      refine (build_bad K hk C.num ma C.bn mc w7 hg).mono ?_
      rintro e w8 ⟨rfl, c8⟩
      exact ⟨none, 0, 0, none, 0, 0, rfl, c8, rdNil _, RdE.nil _⟩
    | true =>
      refine (build_spec13 K hk C.num ma C.bn mc (G.map MD.it) w7 hK7 hg hMR hsM).mono ?_
      rintro e w8 ⟨ba, bn, bc, ra, rc, rfl, hbl, kb⟩
      rw [hMt] at hbl kb ⊢
      subst hbl
      exact ⟨ba, _, bc, ra, _, rc, rfl, kb.chg, kb.rd (i := 0) rfl, rdRefs kb (i := 1) rfl⟩
  refine ⟨_, _, _, _, _, _, rfl, _, ldK k7, _, ldN k7, progB.mono ?_⟩
  rintro e w8 ⟨ba, bn, bc, ra, rn, rc, rfl, c8, hB8, hR8⟩
  have k8 := k7.same c8
  refine ⟨_, _, _, _, _, _, _, rfl, _, ldK k8, _, ldN k8, (rbuild_spec13 K hk C.num oa C.bn oc O w8 ⟨hO1.keep0 c8, fun x hx => (hOR.blobs x hx).keep0 c8⟩ hsO).mono ?_⟩
  rintro e w9 ⟨da, dn, dc, sa, sn, sc, rfl, c9, hB9, hR9⟩
  rw [hOt] at hB9 hR9
  have hB8' := hB8.keep0 c9
  have hR8' := hR8.keep0 c9
  obtain ⟨B, hBB⟩ : ∃ B, (if goodP C.num = true then buildP K C.num (itemsT C) else []) = B := ⟨_, rfl⟩
  obtain ⟨S, hSS⟩ : ∃ S, (if goodP C.num = true then refsP C.num 16 (itemsT C) else []) = S := ⟨_, rfl⟩
  rw [hBB] at hB9 hB8'
  rw [hSS] at hR9 hR8'
  have hrn : rn ≤ 4096 := by
    have h1 := hR8'.num (by decide)
    have h2 : S.length ≤ 4096 := by
      rw [← hSS]
      split
      · rw [refsP_len]; exact hs.num
      · simp
    omega
  have c79 := c8.trans c9
  refine ⟨_, _, _, _, _, _, _, rfl, fun x w' => x = false ∧ Chg [] w9 w', ⟨_, toStr bS bE sS hB8'.cells hB8'.lenB, _, toStr bS bE sS hB9.cells hB9.lenB, fun h => by simp at h, fun _ => (same13 ra rn rc sa sn sc S w9 hR8' hR9 (by omega)).mono ?_⟩, ?_⟩
  · rintro e w10 ⟨rfl, c10⟩
    refine ⟨_, rfl, fun h => (by cases h), fun _ => (num_spec _ _ (by split <;> simp)).mono ?_⟩
    rintro e w11 ⟨rfl, rfl⟩
    refine ⟨_, rfl, ?_, c10⟩
    cases goodP C.num <;> simp
  rintro x w10 ⟨rfl, c10⟩
  have c710 := c79.trans c10
  refine ⟨fun h => (by cases h), fun _ => ⟨fun x w' => ∃ j : Nat, x = (j : Int) ∧ j ≤ C.bn ∧ Chg [] w10 w', fun x _ => C.bn - x.toNat, ⟨0, rfl, by omega, Chg.refl _ _⟩, ?_⟩⟩
  rintro x w11 ⟨j, rfl, hj, c11⟩
  refine ⟨fun hlt => ?_, fun _ => ⟨rfl, (k7.same (c710.trans c11)).chg⟩⟩
  have hj' : j < C.bn := by simp at hlt; omega
  have hjo : j < O.length := by omega
  have hjg : j < G.length := by omega
  have hO : O[j]? = some O[j] := List.getElem?_eq_getElem hjo
  obtain ⟨y, hy⟩ : ∃ y, O[j] = y := ⟨_, rfl⟩
  rw [hy] at hO
  have hG : G[j]? = some G[j] := List.getElem?_eq_getElem hjg
  obtain ⟨m, hmm⟩ : ∃ m, G[j] = m := ⟨_, rfl⟩
  rw [hmm] at hG
  have hGi : (G.map MD.it)[j]? = some m.it := by rw [List.getElem?_map, hG]; rfl
  have hteq : y.t = m.it.t := by
    have e1 := congrArg (fun l => l[j]?) hOt
    have e2 := congrArg (fun l => l[j]?) hMt
    simp only [List.getElem?_map, hO, Option.map_some] at e1
    simp only [List.getElem?_map, hG, Option.map_some] at e2
    exact Option.some.inj (e1.trans e2.symm)
  have hid : y.id = m.id := congrArg Prod.fst hteq
  have hbl : y.blob = m.l := congrArg Prod.snd hteq
  have hyB := (hOR.blobs y (List.mem_of_getElem? hO))
  rw [hbl] at hyB
  have hyn : m.l.length = y.n := hyB.lenB
  have c711 := (c710.trans c11).trans (Chg.drew [] w11)
  have hMk := (mdAt hIt hG)
  have hMk11 : MarkB w11.drew m.g m.l.length m.c m.l m.cur := (MD.mark ⟨_, hMk⟩ ((hIt.st.same c711).holds (j + 2) m.res (by
    show (G.map MD.res)[j]? = _
    rw [List.getElem?_map, hG]; rfl)))
  have hmll : m.l.length ≤ 16777216 := by
    have h2 : m.it.blob.length ≤ 16777216 := hsM.blob (List.mem_map_of_mem (f := ItD.t) (List.mem_of_getElem? hGi))
    exact h2
  obtain ⟨b1, o1, hab1, ld1⟩ := hM1.fld (P := Tryz.prog) (by decide) bsA' (j := 32) hGi (itC_blob m.it)
  obtain ⟨b2, o2, hab2, ld2⟩ := hO1.fld (P := Tryz.prog) (by decide) bsA' (j := 32) hO (itC_blob y)
  obtain ⟨b3, o3, hab3, ld3⟩ := itId hM1 hGi
  obtain ⟨b4, o4, hab4, ld4⟩ := itId hO1 hO
  let S2 : World → Prop := fun w' => Chg [] w7 w'
  refine ⟨fun x w' => x = false ∧ Chg [] w10 w', ⟨S2, c711, b1, o1, hab1, by omega, by omega, b2, o2, hab2, by omega, by omega, _, _, _, fun w' hw => ld1 w' (hM1.keep0 hw), _, _, _, fun w' hw => ld2 w' (hO1.keep0 hw), ?_⟩, ?_⟩
  · show Calls _ _ #[.slice (some ⟨m.g, 0, none⟩) m.l.length m.c, .slice y.a y.n y.c] _ _
    rw [← hyn]
    refine (kept_spec m.g m.l.length m.c y.a m.l.length y.c m.l m.cur w11.drew hMk11 (by have := hyB.keep0 c711; rw [← hyn] at this; exact this) (by omega)).mono ?_
    rintro e w12 ⟨rfl, rfl⟩
    refine ⟨_, rfl, S2, fun _ h => h, c711, fun h => (by cases h), fun _ => ⟨b3, o3, hab3, by omega, by omega, b4, o4, hab4, by omega, by omega, _, fun w' hw => ld3 w' (hM1.keep0 hw), _, fun w' hw => ld4 w' (hO1.keep0 hw), _, fun w' _ => (eqIds _ _ m.it.id y.id m.it.idl y.idl w').2, ?_, c11.trans (Chg.drew _ _)⟩⟩
    have : m.it.id = y.id := hid.symm
    rw [this]; simp
  rintro x w12 ⟨rfl, c12⟩
  exact ⟨fun h => (by cases h), fun _ => ⟨⟨j + 1, wrap_succ hj' (by omega), by omega, c12⟩, mu_succ hj' (by omega)⟩⟩

end Go.Proofs.YtmdandkoajocpaaGreatDoor
