/- The proof of PackTearsCardSaid, part 7: what it rests on (conditions: those that each theorem names). -/
import Derived.Test.YtmdandkoajocpaaGreatDoorS6
section
section
section
namespace Go.Proofs.YtmdandkoajocpaaGreatDoor
open Go Sx
set_option maxRecDepth 8000

theorem scan_whole (K : List UInt8) {num : Int} (hg : goodP num = true) {xs : List Itm} (hs : SmallI xs) : ∃ e, scanP (buildP K num xs) = (num, refsP num 16 xs, e, none) := by
  have hob := open_build K hg hs
  have hh : headF (buildP K num xs) = some num := by rw [buildP_eq]; exact head_cut hg _
  unfold openP at hob
  rw [if_neg (by rw [hg]; simp), hh, if_neg (by simp)] at hob
  unfold scanP
  rw [hh]
  split at hob
  · simp at hob
  split at hob
  · simp at hob
  split at hob
  · simp at hob
  · split at hob
    · simp only [Prod.mk.injEq, true_and] at hob
      simp only [hob]; exact ⟨_, rfl⟩
    · simp at hob

theorem short_law (K : List UInt8) (num : Int) {b : List UInt8} (hg : goodP num = true) (h : b.length < 16) : openP K num b = (some 17, []) ∧ scanP b = (0, [], 0, some 17) := by
  have hh : headF b = none := by rw [headF, if_neg (fun h' => by omega)]
  constructor
  · unfold openP; rw [if_neg (by rw [hg]; simp), hh, if_pos (by simp)]
  · unfold scanP; rw [hh]

theorem tear_law (K : List UInt8) {num : Int} (hg : goodP num = true) {xs : List Itm} (hs : SmallI xs) {t : Nat} (ht : t ≤ (buildP K num xs).length) :
    (t = (buildP K num xs).length → openP K num ((buildP K num xs).take t) = (none, refsP num 16 xs)) ∧ (t < (buildP K num xs).length → openP K num ((buildP K num xs).take t) = (some 17, [])) ∧ (t < 16 → scanP ((buildP K num xs).take t) = (0, [], 0, some 17)) ∧
    (16 ≤ t → ∃ (i : Nat) (e : Int), i ≤ xs.length ∧ scanP ((buildP K num xs).take t) = (num, refsP num 16 (xs.take i), e, none) ∧ (∀ x, xs[i]? = some x → t < sizeP 16 (xs.take i) + (frmT x).length)) := by
  refine ⟨fun h => ?_, fun h => ?_, fun h => ?_, fun h => ?_⟩
  · rw [h, List.take_length]; exact open_build K hg hs
  · by_cases h16 : 16 ≤ t
    · obtain ⟨i, e, _, h2, _⟩ := back_cut K hg hs h16 h
      exact h2
    · exact (short_law K num hg (by rw [List.length_take]; omega)).1
  · exact (short_law K num hg (by rw [List.length_take]; omega)).2
  · by_cases hl : t < (buildP K num xs).length
    · obtain ⟨i, e, h1, _, h3, _, _, h6⟩ := back_cut K hg hs h hl
      exact ⟨i, e, h1, h3, h6⟩
    · obtain ⟨e, he⟩ := scan_whole K hg hs
      refine ⟨xs.length, e, Nat.le_refl _, ?_, fun x hx => ?_⟩
      · rw [List.take_of_length_le (by omega), List.take_length]; exact he
      · rw [List.getElem?_eq_none (Nat.le_refl _)] at hx; cases hx

structure TornD where
  C : CaseD
  arm : Int
  dirs : Int
  ca : Option Addr
  cn : Nat
  cc : Nat
  cuts : List Int
def tornC (x : TornD) : List Value := caseC x.C ++ [.int .i64 x.arm, .int .i64 x.dirs, .slice x.ca x.cn x.cc]
structure TornR (w : World) (x : TornD) : Prop where
  c : CaseR w x.C
  arm : OkI x.arm
  cuts : Rd w x.ca x.cn x.cc 1 (zv x.cuts)
theorem tornC_len {x : TornD} (h : x.C.ms.length = 32) : (tornC x).length = 38 := by simp [tornC, caseC_len h]


theorem len_cut {num : Int} {xs : List Itm} (hg : goodP num = true) (hs : SmallI xs) {i : Nat} {x : Itm} (hx : xs[i]? = some x) : ∃ r, (refsP num 16 xs)[i]? = some r ∧ r.at_ + r.len = ((sizeP 16 (xs.take i) + (frmT x).length : Nat) : Int) := by
  have hgi := goodP_iff.1 hg
  obtain ⟨h1, h2, h3⟩ := item_bounds (num := num) hs hx
  obtain ⟨e1, e2, e3, e4⟩ := mkRef_eq (p := num) (q := (((sizeP 16 (xs.take i) + (frmT x).length : Nat) : Int) - ((x.2.length : Nat) : Int))) (n := ((x.2.length : Nat) : Int)) h1 ⟨by omega, by omega⟩ ⟨by omega, by omega⟩ ⟨by omega, by omega⟩
  refine ⟨_, refsP_get num xs 16 i x hx, ?_⟩
  rw [e3, e4]
  omega

set_option maxHeartbeats 4000000 in
theorem packTears_walk (x : TornD) (w : World) (hK : KTab w) (hT : PTab w) (h : TornR w x) :
    Calls Tryz.prog 5 #[.agg (tornC x).toArray] w fun e w' => e = .returned (.bool true) ∧ Chg [] w w' := by
  obtain ⟨mI, hI⟩ := eI
  have hm := h.c.lm
  have hcl := caseC_len hm
  obtain ⟨q1, q2, q3⟩ := caseC_at hm
  have hbn := h.c.bnum
  have harm := h.arm
  apply amphoralaw13_PackTears_vc
  obtain ⟨g1, w1, r1, k1⟩ := (St.start w).boxA (P := Tryz.prog) 57 (tornC x)
  obtain ⟨R0, hR0⟩ : ∃ R0, Res.arr g1 57 (tornC x) = R0 := ⟨_, rfl⟩
  have k1 : St w [] w1 [R0] := by rw [← hR0]; exact k1
  have ldC : ∀ {w' L}, St w [] w' (R0 :: L) → (Instr.loadAt 25 (.pointer (some ⟨g1, 0, none⟩))).run Tryz.prog w' = .ok (.agg (caseC x.C).toArray) w' := fun h => by
    rw [← hR0] at h
    have := h.ldPre (i := 0) (T := 25) (n := 35) rfl (caA _) (caS _) (by rw [tornC_len hm]; decide)
    rw [tornC, List.take_left' hcl] at this
    exact this
  have ldM : ∀ {w' L}, St w [] w' (R0 :: L) → (Instr.loadAt 22 (.pointer (some ⟨g1, 0, none⟩))).run Tryz.prog w' = .ok (.agg (bv x.C.ms).toArray) w' := fun h => by
    rw [← hR0] at h
    have := h.ldPre (i := 0) (T := 22) (n := 32) rfl (Tryz.isAgg22 _) (Tryz.sizeOf22 _) (by rw [tornC_len hm]; decide)
    rw [tornC, caseC, List.append_assoc, List.take_left' (by simp [hm])] at this
    exact this
  have ldN : ∀ {w' L}, St w [] w' (R0 :: L) → (Instr.loadAt 3 (.pointer (some ⟨g1, 32, none⟩))).run Tryz.prog w' = .ok (.int .i64 x.C.num) w' := fun h => by
    rw [← hR0] at h
    exact h.ldL (i := 0) (o := 32) rfl (inA _) rfl (by rw [tornC, List.getElem?_append_left (by rw [hcl]; decide)]; exact q1)
  have ldA : ∀ {w' L}, St w [] w' (R0 :: L) → (Instr.loadAt 3 (.pointer (some ⟨g1, 35, none⟩))).run Tryz.prog w' = .ok (.int .i64 x.arm) w' := fun h => by
    rw [← hR0] at h
    exact h.ldL (i := 0) (o := 35) rfl (inA _) rfl (by rw [tornC, List.getElem?_append_right (by rw [hcl]; decide), hcl]; rfl)
  have ldS : ∀ {w' L}, St w [] w' (R0 :: L) → (Instr.loadAt 55 (.pointer (some ⟨g1, 36, none⟩))).run Tryz.prog w' = .ok (.agg #[.int .i64 x.dirs, .slice x.ca x.cn x.cc]) w' := fun h => by
    rw [← hR0] at h
    refine h.ldP (i := 0) (o := 36) (n := 2) (xs := [.int .i64 x.dirs, .slice x.ca x.cn x.cc]) rfl (survA _) (survS _) ?_ rfl
    rw [tornC, List.drop_append, List.drop_of_length_le (by rw [hcl]; decide), hcl]
    rfl
  refine ⟨g1, w1, r1, (alive13_spec w1 (hK.keep0 k1.chg)).mono ?_⟩
  rintro e w2 ⟨rfl, c2⟩
  have k2 := k1.same c2
  refine ⟨_, rfl, fun h => (by cases h), fun _ => ⟨fun b w' => b = (largeP x.C || !goodP x.C.num) ∧ St w [] w' [R0], ⟨_, ldC k2, (large13_spec x.C w2 (h.c.keep0 k2.chg)).mono ?_⟩, ?_⟩⟩
  · rintro e w3 ⟨rfl, c3⟩
    have k3 := k2.same c3
    refine ⟨_, rfl, fun hl => ⟨by rw [hl]; rfl, k3⟩, fun hl => ⟨_, ldN k3, (rgood13_spec _ w3).mono ?_⟩⟩
    rintro e w4 ⟨rfl, rfl⟩
    exact ⟨_, rfl, by rw [hl]; rfl, k3⟩
  rintro b w5 ⟨rfl, k5⟩
  refine ⟨fun _ => ⟨rfl, k5.chg⟩, fun hlg => ?_⟩
  obtain ⟨hlg, hg⟩ : largeP x.C = false ∧ goodP x.C.num = true := by
    rw [Bool.or_eq_false_iff, Bool.not_eq_false'] at hlg; exact hlg
  obtain ⟨hs, hn100, htot⟩ := small_of_case h.c hlg
  refine (newDisk_spec 1048576 w5).mono ?_
  rintro e w6 (⟨hbad, _⟩ | ⟨_, gd, rfl, h6⟩)
  · omega
  have h6 := DiskIn.under k5 h6
  refine ⟨_, _, rfl, fun b w' => b = false ∧ ∃ a, DiskIn w [] w' gd [] { newM 1048576 with arm := a } [R0], ⟨_, neqS_nil hI none _ _, fun h => (by cases h), fun _ => ⟨_, eqPtr .eql (.inl rfl) dkT _ _ _ _, fun h => (by cases h), fun _ => ⟨_, ldA h6.rest, fun hpos => ⟨_, ldA h6.rest, (arm_spec x.arm (by have := harm; unfold OkI at this; omega) h6).mono ?_⟩, fun _ => ⟨rfl, none, h6⟩⟩⟩⟩, ?_⟩
  · rintro e w7 ⟨rfl, h7⟩
    have ha : armM (newM 1048576) x.arm = ({ newM 1048576 with arm := some x.arm.toNat }, none) := by
      unfold armM; rw [if_neg (by simp at hpos; omega)]
    rw [ha] at h7 ⊢
    exact ⟨_, rfl, _, neqS_nil hI none _ _, rfl, _, h7⟩
  rintro b w8 ⟨rfl, arm, h8⟩
  obtain ⟨mA, hmA⟩ : ∃ mA, ({ newM 1048576 with arm := arm } : DiskM) = mA := ⟨_, rfl⟩
  rw [hmA] at h8
  have bare : Bare mA := by rw [← hmA]; exact ⟨rfl, rfl, rfl, rfl, rfl, rfl⟩
  have hdn : mA.down = false := by rw [← hmA]; rfl
  have hst : mA.steps ≤ 1000000 := by rw [← hmA]; exact Nat.zero_le _
  have hch : mA.chs.length < 1000000000 := by rw [← hmA]; show 0 < 1000000000; decide
  refine ⟨fun h => (by cases h), fun _ => ⟨_, ldM h8.rest, (rfromMaster_spec x.C.ms w8 hm).mono ?_⟩⟩
  rintro e w9 ⟨rfl, c9⟩
  obtain ⟨K, hKK⟩ : ∃ K, masterF x.C.ms = K := ⟨_, rfl⟩
  have hk : K.length = 96 := by rw [← hKK]; simp
  rw [hKK]
  have h9 := h8.same c9
  obtain ⟨g5, w10, r10, k10⟩ := (St.start w9).zeroA kyZ
  obtain ⟨w11, r11, k11⟩ := k10.stA (i := 0) (v := bv K) rfl (kyS _) (by simp) (by simp [hk]) (bv_one _)
  have k11 : St w9 [] w11 [.arr g5 28 (bv K)] := k11
  have h11 := h9.addSt k11
  have h11 : DiskIn w [] w11 gd [] mA [R0, .arr g5 28 (bv K)] := h11
  have ldK : ∀ {w' L}, St w [] w' (R0 :: .arr g5 28 (bv K) :: L) → (Instr.loadAt 28 (.pointer (some ⟨g5, 0, none⟩))).run Tryz.prog w' = .ok (.agg (bv K).toArray) w' := fun h => h.ldA (i := 1) (l := bv K) rfl (kyA _) (kyS _) (by simp [hk])
  refine ⟨_, rfl, g5, w10, r10, w11, r11, _, ldC h11.rest, (items_spec x.C w11 (h.c.keep0 h11.chg) hn100 htot).mono ?_⟩
  rintro e w12 ⟨oa, oc, ma, mc, O, G, rfl, hIt⟩
  have h12 := h11.same hIt.st.chg
  have hOt : O.map ItD.t = itemsT x.C := by rw [hIt.ot, List.take_of_length_le (by rw [itemsT_len]; omega)]
  have hO1 : RdE itC 33 w12 oa x.C.bn oc O := ⟨hIt.st.rd (i := 0) rfl, fun x _ => itC_len x⟩
  have hOR : ItR w12 oa x.C.bn oc O := ⟨hO1, fun x hx => (hIt.ob x hx).keep0 hIt.st.chg⟩
  have hsO : SmallI (O.map ItD.t) := by rw [hOt]; exact hs
  refine ⟨_, _, _, _, _, _, rfl, _, ldK h12.rest, _, ldN h12.rest, (build_spec13 K hk x.C.num oa x.C.bn oc O w12 (hK.keep0 h12.chg) hg hOR hsO).mono ?_⟩
  rintro e w13 ⟨ba, bn, bc, ra, rc, rfl, hbl, kb⟩
  rw [hOt] at hbl kb ⊢
  obtain ⟨B, hB⟩ : ∃ B, buildP K x.C.num (itemsT x.C) = B := ⟨_, rfl⟩
  obtain ⟨rs, hrs⟩ : ∃ rs, refsP x.C.num 16 (itemsT x.C) = rs := ⟨_, rfl⟩
  have hrl : rs.length = (itemsT x.C).length := by rw [← hrs, refsP_len]
  have hBl : B.length ≤ 1000000 := by rw [← hB]; have := build_len2 K x.C.num h.c hlg; omega
  rw [hB, hrs] at kb
  rw [hrs]
  rw [hB] at hbl
  subst hbl
  have h13 := h12.addSt kb
  have h13 : DiskIn w [] w13 gd [] mA [R0, .arr g5 28 (bv K), .row 5 1 (.slice ba B.length bc) B.length (bv B), .row 75 35 (.slice ra rs.length rc) rs.length (rs.flatMap refC)] := h13
  refine ⟨_, _, _, _, _, _, _, rfl, _, ldK h13.rest, _, ldN h13.rest, (pksave_spec K hk x.C.num oa x.C.bn oc O h13 (hK.keep0 h13.chg) (hT.keep0 h13.chg) hg (hOR.keep0 kb.chg) hsO hst hch).mono ?_⟩
  rintro e w14 ⟨za, zn, zc, pk, rfl, ps14, h14⟩
  rw [hOt] at h14 ⊢
  obtain ⟨P, hP⟩ : ∃ P, piecesP K x.C.num (itemsT x.C) = P := ⟨_, rfl⟩
  have hPB : P.flatten = B := by rw [← hP, ← hB]; rfl
  have hng := name_good hg
  obtain ⟨nm, hnm⟩ : ∃ nm, nameP x.C.num = nm := ⟨_, rfl⟩
  rw [hP, hnm] at h14 ⊢
  rw [hnm] at hng
  obtain ⟨t1, t2⟩ := torn bare hdn hng P (by rw [hPB]; omega) x.dirs x.cuts
  have hch14 : (saveM mA nm P).1.chs.length < 1000000000 := by
    rcases save_leaves bare hdn hng P (by rw [hPB]; omega) with ⟨_, hx | ⟨j, s, hx⟩⟩ | ⟨_, hx⟩
    · rw [hx.chs]; exact (by decide : (0 : Nat) < 1000000000)
    · rw [hx.chs]; exact (by decide : (1 : Nat) < 1000000000)
    · rw [hx.chs]; exact (by decide : (1 : Nat) < 1000000000)
  obtain ⟨mS, hmS⟩ : ∃ mS, (saveM mA nm P).1 = mS := ⟨_, rfl⟩
  obtain ⟨eS, heS⟩ : ∃ eS, (saveM mA nm P).2 = eS := ⟨_, rfl⟩
  rw [hmS] at h14 hch14 t2
  rw [heS] at t1 t2 ⊢
  refine ⟨_, _, _, _, _, rfl, _, ldS h14.rest, (crash_spec x.dirs x.ca x.cn x.cc x.cuts h14 (fun w' hw => h.cuts.keep0 hw.chg) hch14).mono ?_⟩
  rintro e w15 ⟨rfl, h15⟩
  obtain ⟨mC, hmC⟩ : ∃ mC, crashM mS x.dirs x.cuts = mC := ⟨_, rfl⟩
  rw [hmC] at h15 t2
  refine ⟨rfl, _, ldN h15.rest, (pkname_spec x.C.num w15 (hT.keep0 h15.chg) hg).mono ?_⟩
  rintro e w16 ⟨rfl, c16⟩
  rw [hnm]
  have h16 := h15.same c16
  refine ⟨_, rfl, (read_spec nm h16).mono ?_⟩
  rintro e w17 ⟨a, k, c, rfl, f17⟩
  have h17 := h16.same f17.1
  refine ⟨_, _, _, _, rfl, fun b w' => b = false ∧ w' = w17, ⟨_, neqS_nil hI none _ _, fun h => (by cases h), fun _ => ⟨_, neqS_nil hI eS _ _, fun h1 => ⟨_, neqS_errD hI eS 1 _ _ _, ?_, rfl⟩, fun _ => ⟨rfl, rfl⟩⟩⟩, ?_⟩
  · rcases t1 with rfl | rfl
    · simp at h1
    · rfl
  rintro b w18 ⟨rfl, rfl⟩
  refine ⟨fun h => (by cases h), fun _ => ⟨_, neqS_nil hI (foundE mC nm) _ _, fun h1 => ⟨_, eqlS_err hI (foundE mC nm) 5 _ _ _, ?_, h17.chg⟩, fun h1 => ?_⟩⟩
  · rcases t2 with hx | ⟨hx, _⟩
    · rw [hx]; rfl
    · rw [hx] at h1; simp at h1
  obtain ⟨hx, t, htl, hrd, hte⟩ : foundE mC nm = none ∧ ∃ t, t ≤ B.length ∧ readF mC nm = B.take t ∧ (eS = none → t = B.length) := by
    rcases t2 with hx | ⟨hx, t, u1, u2, u3⟩
    · rw [hx] at h1; simp at h1
    · rw [hPB] at u1 u2 u3; exact ⟨hx, t, u1, u2, u3⟩
  rw [hrd] at f17
  have hkt : k = t := by have := f17.2.1; rw [List.length_take] at this; omega
  subst hkt
  have hcap : B.length ≤ bc := (h17.rest.rd (i := 2) (e := 5) rfl).le
  have hb18 : RdB w18 a k c (B.take k) := f17.rdB
  let S : World → Prop := fun w' => Chg [] w18 w'
  have rB : ∀ w', S w' → RdB w' ba B.length bc B := fun w' hw => (h17.same hw).rest.rd (i := 2) rfl
  refine ⟨fun b w' => b = false ∧ Chg [] w18 w', ⟨S, Chg.drew [] w18, fun hbig => ?_, fun _ => ⟨by omega, by omega, _, fun w' hw => toStr bS bE sS (hb18.keep0 hw).cells (hb18.keep0 hw).lenB, _, fun w' hw => toStr bS bE sS (rdB_upto (rB w' hw) htl).cells (rdB_upto (rB w' hw) htl).lenB, fun hne => by simp at hne, fun _ => ⟨_, fun w' _ => eqlS_nil hI eS _ _, fun hn => ⟨?_, Chg.drew _ _⟩, fun _ => ⟨rfl, Chg.drew _ _⟩⟩⟩⟩, ?_⟩
  · simp at hbig; omega
  · have : eS = none := by cases eS <;> simp at hn ⊢
    rw [hte this]; simp
  rintro b w19 ⟨rfl, c19⟩
  have h19 := h17.same c19
  have hb19 := hb18.keep0 c19
  obtain ⟨l1, l2, l3, l4⟩ := tear_law K hg hs (t := k) (by rw [hB]; exact htl)
  rw [hB] at l1 l2 l3 l4
  rw [hrs] at l1
  refine ⟨fun h => (by cases h), fun _ => ⟨_, ldK h19.rest, _, ldN h19.rest, (pkopen_spec K hk x.C.num a k c (B.take k) w19 (hK.keep0 h19.chg) hb19 (by omega)).mono ?_⟩⟩
  rintro e w20 ⟨pa, pc, rfl, hp20, c20⟩
  have h20 := h19.same c20
  have rR : ∀ w', Chg [] w20 w' → RdR w' ra rs.length rc rs := fun w' hw => rdRefs (h20.same hw).rest (i := 3) rfl
  have hrcap := (rR w20 (Chg.refl _ _)).rd.le
  have hrs100 : rs.length ≤ 4096 := by rw [hrl]; exact hs.num
  refine ⟨_, _, _, _, rfl, fun b w' => b = false ∧ Chg [] w20 w', ⟨_, eqlS_nil hI _ _ _, ?_⟩, ?_⟩
  · by_cases hkB : k = B.length
    · rw [l1 hkB] at hp20 ⊢
      refine ⟨fun hne => ?_, fun _ => ⟨_, eqlS_nil hI _ _ _, fun _ => ?_, fun hn => by simp at hn⟩⟩
      · subst hkB; simp at hne
      · refine (same13 pa rs.length pc ra rs.length rc rs w20 hp20 (rR w20 (Chg.refl _ _)) (by omega)).mono ?_
        rintro e w21 ⟨rfl, c21⟩
        exact ⟨_, rfl, rfl, c21⟩
    · rw [l2 (by omega)]
      refine ⟨fun hne => ?_, fun _ => ⟨_, eqlS_nil hI _ _ _, fun hn => by simp at hn, fun _ => ⟨rfl, Chg.refl _ _⟩⟩⟩
      have : ¬ ((k : Int) = (B.length : Int)) := by omega
      simp [this] at hne
  rintro b w22 ⟨rfl, c22⟩
  have h22 := h20.same c22
  have hb22 := (hb19.keep0 c20).keep0 c22
  refine ⟨fun h => (by cases h), fun _ => (scan_spec13 a k c (B.take k) w22 hb22 (by omega)).mono ?_⟩
  rintro e w23 ⟨sa, sc, rfl, hSR, c23⟩
  have h23 := h22.same c23
  refine ⟨_, _, _, _, _, _, rfl, fun hlt => ?_, fun hge => ?_⟩
  · rw [l3 (by simp at hlt; omega)]
    exact ⟨_, eqlS_err hI (some 17) 17 _ _ _, rfl, h23.chg⟩
  obtain ⟨i, e, i1, i2, i3⟩ := l4 (by simp at hge; omega)
  rw [refsP_take, hrs] at i2
  rw [i2] at hSR ⊢
  dsimp only at hSR ⊢
  have hil : i ≤ rs.length := by omega
  have hsl : (rs.take i).length = i := by rw [List.length_take]; omega
  let S1 : World → Prop := fun w' => Chg [] w23 w'
  have c2023 : Chg [] w20 w23 := c22.trans c23
  refine ⟨S1, Chg.drew [] w23, _, fun w' _ => eqlS_nil hI none _ _, fun _ => ⟨_, fun w' hw => ldN (h23.same hw).rest, fun _ => ⟨fun hle => ⟨by omega, by omega, ?_⟩, fun hgt => ?_⟩, fun hne => ?_⟩, fun hn => by simp at hn⟩
  · rw [Int.toNat_natCast] at *
    rw [hsl] at hSR ⊢
    have hSR' := hSR.keep0 (Chg.drew [] w23)
    refine (same13 sa i sc ra i rc (rs.take i) w23.drew hSR' (rdE_upto (rR _ (c2023.trans (Chg.drew [] _))) (by decide) hil) (by omega)).mono ?_
    rintro e w24 ⟨rfl, c24⟩
    have c2324 : Chg [] w23 w24 := (Chg.drew [] w23).trans c24
    refine ⟨_, rfl, S1, fun _ h => h, c2324, fun _ => ⟨fun _ => ⟨rfl, (h23.same c2324).chg⟩, fun hne => ?_⟩, fun h => by cases h⟩
    have hi' : i < rs.length := by
      have : ¬ ((i : Int) = (rs.length : Int)) := by simpa using hne
      omega
    have hxi : (itemsT x.C)[i]? = some (itemsT x.C)[i] := List.getElem?_eq_getElem (by omega)
    obtain ⟨it, hit⟩ : ∃ it, (itemsT x.C)[i] = it := ⟨_, rfl⟩
    rw [hit] at hxi
    obtain ⟨r, hr, hr1⟩ := len_cut (num := x.C.num) hg hs hxi
    rw [hrs] at hr
    have hsz := i3 it hxi
    have hib := (item_bounds (num := x.C.num) hs hxi).2.2
    have hR23 := rR w23 c2023
    obtain ⟨b1, o1, hab1, ld1⟩ := hR23.fld (P := Tryz.prog) (by decide) inA (j := 33) hr (refAt3 r).1
    obtain ⟨b2, o2, hab2, ld2⟩ := hR23.fld (P := Tryz.prog) (by decide) inA (j := 34) hr (refAt3 r).2
    refine ⟨b1, o1, hab1, by omega, by omega, b2, o2, hab2, by omega, by omega, _, fun w' hw => ld1 w' (hR23.keep0 hw), _, fun w' hw => ld2 w' (hR23.keep0 hw), ?_, (h23.same c2324).chg⟩
    rw [hr1, wrap_i64 (by omega) (by omega)]
    have : ((sizeP 16 ((itemsT x.C).take i) + (frmT it).length : Nat) : Int) > (k : Int) := by omega
    simp only [decide_eq_true this]
  · exfalso
    rw [hsl] at hgt
    have : ¬ ((i : Int) ≤ (rs.length : Int)) := of_decide_eq_false hgt
    omega
  · simp at hne

end Go.Proofs.YtmdandkoajocpaaGreatDoor
end

section
namespace Go.Proofs.YtmdandkoajocpaaGreatDoor
open Go Sx Go.ChangeShapes Go.WideShapes Go.RowKit
set_option maxRecDepth 8000

theorem kcut13 {α : Type} (l : List α) (i a : Nat) : (l.drop i).take a ++ l.drop (i + a) = l.drop i := by
  have := List.take_append_drop a (l.drop i); rwa [List.drop_drop] at this

theorem trodBB {H : Type} {enc : TypeId × Value → H} {W : World} {m : Nat} {cs0 : List Value} {x : DataW H × List MemPlace} (h : DataW.trod enc Tryz.prog W 0 (fun _ => true) true m 23 cs0 = some x) :
    ∃ a n c vs ls, cs0 = [.slice a n c] ∧ Rd W a n c 1 vs ∧ Row2 W vs ls := by
  obtain ⟨a, n, c, cs, m, hcs, hrd, hel⟩ := trodRows Tryz.underlying23 (show Tryz.prog.cellsOf 33 = 1 by kernel_rfl) (by decide) h
  have hlen : cs.length = n := by have := hrd.len; omega
  have each : ∀ i, i < n → ∃ l : List UInt8, ∃ a k c, cs[i]? = some (.slice a k c) ∧ RdB W a k c l := by
    intro i hi
    obtain ⟨y, hy⟩ := hel i hi
    obtain ⟨a, k, c, l, e, hr, _⟩ := trodB hy
    refine ⟨l, a, k, c, ?_, hr⟩
    rw [Nat.one_mul] at e
    have := congrArg (fun l => l[0]?) e
    simpa [List.getElem?_take, List.getElem?_drop] using this
  refine ⟨a, n, c, cs, (List.range n).map fun i => if hi : i < n then (each i hi).choose else [], hcs, hrd, by simp [hlen], fun i hi => ?_⟩
  have hi' : i < n := by simpa using hi
  obtain ⟨a', k, c', h1, h2⟩ := (each i hi').choose_spec
  refine ⟨a', k, c', h1, ?_⟩
  have : ((List.range n).map fun i => if hi : i < n then (each i hi).choose else []).getD i [] = (each i hi').choose := by
    simp [List.getD, hi']
  rw [this]; exact h2

theorem trodCase13 {H : Type} {enc : TypeId × Value → H} {W : World} {fuel : Nat} {cs : List Value} {x : DataW H × List MemPlace} (hf : DataW.trod enc Tryz.prog W 0 (fun _ => true) true fuel 25 cs = some x) :
    ∃ (C : CaseD), cs = caseC C ∧ CaseR W C := by
  have hu := Tryz.underlying25
  obtain ⟨xs, m, _, hx, hlen, hxl, hel⟩ := DataW.trod_struct hu hf
  have c1 : Tryz.prog.cellsOf 22 = 32 := by kernel_rfl
  have c2 : Tryz.prog.cellsOf 23 = 1 := by kernel_rfl
  have c3 : Tryz.prog.cellsOf 3 = 1 := by kernel_rfl
  have cT : Tryz.prog.cellsOf 25 = 35 := by kernel_rfl
  have k0 : DataW.trod enc Tryz.prog W 0 (fun _ => true) true m 22 ((cs.drop 0).take (Tryz.prog.cellsOf 22)) = xs[0]? := hel 0 _ rfl
  have k1 : DataW.trod enc Tryz.prog W 0 (fun _ => true) true m 3 ((cs.drop 32).take (Tryz.prog.cellsOf 3)) = xs[1]? := hel 1 _ rfl
  have k2 : DataW.trod enc Tryz.prog W 0 (fun _ => true) true m 23 ((cs.drop 33).take (Tryz.prog.cellsOf 23)) = xs[2]? := hel 2 _ rfl
  have k3 : DataW.trod enc Tryz.prog W 0 (fun _ => true) true m 23 ((cs.drop 34).take (Tryz.prog.cellsOf 23)) = xs[3]? := hel 3 _ rfl
  have hx4 : xs.length = 4 := hxl
  rw [c1] at k0
  rw [c3] at k1
  rw [c2] at k2 k3
  have hlen : cs.length = 35 := by rw [← cT]; exact hlen
  rw [List.getElem?_eq_getElem (by omega)] at k0 k1 k2 k3
  obtain ⟨ms, e0, l0⟩ := trodArr Tryz.underlying22 (by kernel_rfl) c1 k0
  obtain ⟨z, e1, _, hz⟩ := DataW.trod_int Tryz.underlying3 k1
  obtain ⟨ia, i_n, ic, ivs, ids, e2, hr2, hq2⟩ := trodBB k2
  obtain ⟨ba, bn, bc, bvs, bls, e3, hr3, hq3⟩ := trodBB k3
  refine ⟨⟨ms, z, ia, i_n, ic, ivs, ids, ba, bn, bc, bvs, bls⟩, ?_, ⟨l0, hr2, hq2, hr3, hq3, ?_⟩⟩
  · have : cs = caseC ⟨ms, z, ia, i_n, ic, ivs, ids, ba, bn, bc, bvs, bls⟩ := by
      have t3 : (cs.drop 34).take 1 = cs.drop 34 := List.take_of_length_le (by simp; omega)
      have s0 := kcut13 cs 0 32
      have s1 := kcut13 cs 32 1
      have s2 := kcut13 cs 33 1
      rw [e0] at s0
      rw [e1] at s1
      rw [e2] at s2
      rw [e3] at t3
      simp only [Nat.zero_add, Nat.reduceAdd, List.drop_zero] at s0 s1 s2
      rw [caseC, ← s0, ← s1, ← s2, ← t3]
      rfl
    exact this
  · have b := bounds_i64 hz
    exact ⟨by show -9223372036854775808 ≤ z; omega, by show z ≤ 9223372036854775807; omega⟩

end Go.Proofs.YtmdandkoajocpaaGreatDoor
end

section
namespace Go.Proofs.YtmdandkoajocpaaGreatDoor
open Go Sx Go.ChangeShapes Go.WideShapes Go.RowKit
set_option maxRecDepth 8000

theorem zintsT_of : ∀ (cs : List Value), (∀ v ∈ cs, ∃ z : Int, v = .int .i64 z) → ∃ l, cs = zv l
  | [], _ => ⟨[], rfl⟩
  | v :: r, h => by
    obtain ⟨z, rfl⟩ := h v (by simp)
    obtain ⟨l, rfl⟩ := zintsT_of r fun v hv => h v (by simp [hv])
    exact ⟨z :: l, rfl⟩
theorem trodIntsT {H : Type} {enc : TypeId × Value → H} {W : World} {m : Nat} {cs0 : List Value} {x : DataW H × List MemPlace} (h : DataW.trod enc Tryz.prog W 0 (fun _ => true) true m 53 cs0 = some x) :
    ∃ a n c l, cs0 = [.slice a n c] ∧ Rd W a n c 1 (zv l) := by
  obtain ⟨a, n, c, cs, m, hcs, hrd, hel⟩ := trodRows Tryz.underlying53 (show Tryz.prog.cellsOf 3 = 1 by kernel_rfl) (by decide) h
  have hlen : cs.length = n := by have := hrd.len; omega
  obtain ⟨l, hl⟩ := zintsT_of cs fun v hv => by
    obtain ⟨i, hi, rfl⟩ := List.getElem_of_mem hv
    obtain ⟨y, hy⟩ := hel i (by omega)
    obtain ⟨z, e, _, _⟩ := DataW.trod_int Tryz.underlying3 hy
    refine ⟨z, ?_⟩
    rw [Nat.one_mul] at e
    have := congrArg (fun l => l[0]?) e
    simpa [List.getElem?_take, List.getElem?_drop, List.getElem?_eq_getElem hi] using this
  exact ⟨a, n, c, l, hcs, by rw [← hl]; exact hrd⟩
theorem trodSurvT {H : Type} {enc : TypeId × Value → H} {W : World} {fuel : Nat} {cs : List Value} {x : DataW H × List MemPlace} (hf : DataW.trod enc Tryz.prog W 0 (fun _ => true) true fuel 55 cs = some x) :
    ∃ d a n c l, cs = [.int .i64 d, .slice a n c] ∧ Rd W a n c 1 (zv l) := by
  have hu := Tryz.underlying55
  obtain ⟨xs, m, _, hx, hlen, hxl, hel⟩ := DataW.trod_struct hu hf
  have c1 : Tryz.prog.cellsOf 3 = 1 := by kernel_rfl
  have c3 : Tryz.prog.cellsOf 53 = 1 := by kernel_rfl
  have cT : Tryz.prog.cellsOf 55 = 2 := by kernel_rfl
  have k0 : DataW.trod enc Tryz.prog W 0 (fun _ => true) true m 3 ((cs.drop 0).take (Tryz.prog.cellsOf 3)) = xs[0]? := hel 0 _ rfl
  have k1 : DataW.trod enc Tryz.prog W 0 (fun _ => true) true m 53 ((cs.drop 1).take (Tryz.prog.cellsOf 53)) = xs[1]? := hel 1 _ rfl
  have hx2 : xs.length = 2 := hxl
  rw [c1] at k0
  rw [c3] at k1
  have hlen : cs.length = 2 := by rw [← cT]; exact hlen
  rw [List.getElem?_eq_getElem (by omega)] at k0 k1
  obtain ⟨z, e0, _, w0⟩ := DataW.trod_int Tryz.underlying3 k0
  obtain ⟨a, n, c, l, e1, hr⟩ := trodIntsT k1
  have s0 := kcut13 cs 0 1
  have s1 : (cs.drop 1).take 1 = cs.drop 1 := List.take_of_length_le (by simp; omega)
  rw [e0] at s0
  rw [e1] at s1
  simp only [Nat.zero_add, List.drop_zero] at s0 s1
  exact ⟨z, a, n, c, l, by rw [← s0, ← s1]; rfl, hr⟩

theorem openTorn {H : Type} {enc : TypeId × Value → H} {W : World} {base : Nat} {v : Value} {d : DataW H} {ps : List MemPlace} (hval : Value.okWide Tryz.prog W .any base 57 v)
    (h : DataW.Trod enc Tryz.prog W 0 (fun _ => true) true 57 v d ps) :
    ∃ (x : TornD), v = .agg (tornC x).toArray ∧ TornR W x := by
  have hu := Tryz.underlying57
  obtain ⟨cs, rfl, _⟩ := okWide_struct hu hval
  obtain ⟨fuel, hf⟩ := h
  obtain ⟨xs, m, _, hx, hlen, hxl, hel⟩ := DataW.trod_struct hu hf
  have c1 : Tryz.prog.cellsOf 25 = 35 := by kernel_rfl
  have c2 : Tryz.prog.cellsOf 3 = 1 := by kernel_rfl
  have c3 : Tryz.prog.cellsOf 55 = 2 := by kernel_rfl
  have cT : Tryz.prog.cellsOf 57 = 38 := by kernel_rfl
  have k0 : DataW.trod enc Tryz.prog W 0 (fun _ => true) true m 25 ((cs.toList.drop 0).take (Tryz.prog.cellsOf 25)) = xs[0]? := hel 0 _ rfl
  have k1 : DataW.trod enc Tryz.prog W 0 (fun _ => true) true m 3 ((cs.toList.drop 35).take (Tryz.prog.cellsOf 3)) = xs[1]? := hel 1 _ rfl
  have k2 : DataW.trod enc Tryz.prog W 0 (fun _ => true) true m 55 ((cs.toList.drop 36).take (Tryz.prog.cellsOf 55)) = xs[2]? := hel 2 _ rfl
  have hx3 : xs.length = 3 := hxl
  rw [c1] at k0
  rw [c2] at k1
  rw [c3] at k2
  have hlen : cs.toList.length = 38 := by rw [← cT]; exact hlen
  rw [List.getElem?_eq_getElem (by omega)] at k0 k1 k2
  obtain ⟨C, e0, hC⟩ := trodCase13 k0
  obtain ⟨z, e1, _, hz⟩ := DataW.trod_int Tryz.underlying3 k1
  obtain ⟨dirs, ca, cn, cc, cuts, e2, hc⟩ := trodSurvT k2
  refine ⟨⟨C, z, dirs, ca, cn, cc, cuts⟩, ?_, ⟨hC, ?_, hc⟩⟩
  · have : cs.toList = tornC ⟨C, z, dirs, ca, cn, cc, cuts⟩ := by
      have t2 : (cs.toList.drop 36).take 2 = cs.toList.drop 36 := List.take_of_length_le (by simp; omega)
      have s0 := kcut13 cs.toList 0 35
      have s1 := kcut13 cs.toList 35 1
      rw [e0] at s0
      rw [e1] at s1
      rw [e2] at t2
      simp only [Nat.zero_add, Nat.reduceAdd, List.drop_zero] at s0 s1
      rw [tornC, ← s0, ← s1, ← t2]
      rfl
    rw [← this]
  · have b := bounds_i64 hz
    exact ⟨by show -9223372036854775808 ≤ z; omega, by show z ≤ 9223372036854775807; omega⟩

end Go.Proofs.YtmdandkoajocpaaGreatDoor
end

section
namespace Go.Proofs.YtmdandkoajocpaaGreatDoor
open Go Sx
set_option maxRecDepth 8000

theorem laidP_eq : (Rows.laid_internal_strconv_uint64pow10 : DataW Unit) = Lib.tabData .u64 Lib.pow10Tab := by kernel_rfl
theorem pTab_of_laid {W : World} {rest : List (String × DataW Unit)} (hp : ∀ w, laidMetH Tryz.prog (("internal/strconv.uint64pow10", Rows.laid_internal_strconv_uint64pow10) :: rest) w = laidMet Tryz.prog (("internal/strconv.uint64pow10", Rows.laid_internal_strconv_uint64pow10) :: rest) w) (h : laidMetH Tryz.prog (("internal/strconv.uint64pow10", Rows.laid_internal_strconv_uint64pow10) :: rest) W) : PTab W := by
  rw [hp, laidP_eq] at h
  have hg : Tryz.prog.globalNamed "internal/strconv.uint64pow10" = some 2 := by kernel_rfl
  exact Lib.tabIs_of_head hg (by kernel_rfl) Tryz.underlying244 Tryz.underlying177 (by kernel_rfl) (by kernel_rfl) h

end Go.Proofs.YtmdandkoajocpaaGreatDoor
end
end
end
