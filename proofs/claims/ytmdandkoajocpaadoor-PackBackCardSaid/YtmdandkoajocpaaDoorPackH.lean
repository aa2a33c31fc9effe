/- The laws of chapter 13: alive; Cut; PackCuts (conditions: the table lies where the program laid it). -/
import Derived.Test.YtmdandkoajocpaaDoorPackS
import Derived.Test.YtmdandkoajocpaaDoorSealH
import Derived.Test.YtmdandkoajocpaaDoorNum
import Derived.Test.YtmdandkoajocpaaDoorApart
import Derived.Test.YtmdandkoajocpaaDoorVlaw13
namespace Go.Proofs.YtmdandkoajocpaaDoor
open Go Sx
set_option maxRecDepth 8000

section
variable {w0 w w' : World} {X : List Nat} {M N N' T : List Res}

theorem small5 (w : World) : Calls Tryd.prog 31 #[.int .i64 5] w fun e w' => e = .returned (.string ⟨#[53]⟩) ∧ w' = w := by
  apply strconv_Itoa_vc
  have h1 : Calls Tryd.prog 65 #[.int .i64 5] w fun e w' => e = .returned (.string ⟨#[53]⟩) ∧ w' = w := by
    apply internal_strconv_small_vc
    refine ⟨fun _ => ⟨by decide, by decide, by decide, ?_, rfl⟩, fun h => by simp at h⟩
    rfl
  have h2 : Calls Tryd.prog 54 #[.int .i64 5, .int .i64 10] w fun e w' => e = .returned (.string ⟨#[53]⟩) ∧ w' = w := by
    apply internal_strconv_FormatInt_vc
    refine ⟨fun _ => ⟨fun _ => h1.mono ?_, fun h => by simp at h⟩, fun h => by simp at h⟩
    rintro e w' ⟨rfl, rfl⟩
    exact ⟨_, rfl, rfl, rfl⟩
  have h3 : Calls Tryd.prog 44 #[.int .i64 5] w fun e w' => e = .returned (.string ⟨#[53]⟩) ∧ w' = w := by
    apply internal_strconv_Itoa_vc
    refine h2.mono ?_
    rintro e w' ⟨rfl, rfl⟩
    exact ⟨_, rfl, rfl, rfl⟩
  refine h3.mono ?_
  rintro e w' ⟨rfl, rfl⟩
  exact ⟨_, rfl, rfl, rfl⟩

theorem name5 (w : World) : Calls Tryd.prog 18 #[.int .i64 5] w fun e w' => e = .returned (.string ⟨#[112, 53]⟩) ∧ w' = w := by
  apply pack_Name_vc
  refine (pkgood_spec 5 w).mono ?_
  rintro e w1 ⟨rfl, rfl⟩
  refine ⟨_, rfl, fun h => by simp [goodP] at h, fun _ => (small5 w1).mono ?_⟩
  rintro e w2 ⟨rfl, rfl⟩
  exact ⟨_, rfl, _, rfl, rfl, rfl⟩

def mas9 : List UInt8 := 9 :: List.replicate 31 0
theorem build_mas9 (w : World) : (Instr.build 23 #[(0, .int .u8 9)]).run Tryd.prog w = .ok (.agg (bv mas9).toArray) w := by
  have := build_arr (P := Tryd.prog) (w := w) (T := 23) (d32Z w) Tryd.underlying23 (sB1 w) [.int .u8 9] (by simp [Value.oneCell']) (by simp)
  exact this
theorem small0 : SmallI [] := ⟨by simp, by simp, by simp⟩
theorem build5_len (K : List UInt8) : (buildP K 5 []).length = 63 := by
  rw [buildP_eq]
  have h1 : (footBody K 5 []).length = 45 := by rw [footBody, sealF_len _ _ _ _ (by simp [footL, refsP])]; rfl
  simp only [framesP, frsL, List.map_nil, List.nil_append, List.map_cons, List.flatten_cons, List.flatten_nil, List.append_nil, List.length_append, headP_len, frameL, List.length_cons, h1]
  rw [varL_small (by decide)]
  rfl

theorem alive13_spec (w : World) (hK : KTab w) : Calls Tryd.prog 5 #[] w fun e w' => e = .returned (.bool true) ∧ Chg [] w w' := by
  obtain ⟨mI, hI⟩ := eI
  apply amphoralaw13_alive_vc
  refine ⟨_, build_mas9 w, (rfromMaster_spec mas9 w (by decide)).mono ?_⟩
  rintro e w1 ⟨rfl, c1⟩
  obtain ⟨K, hKK⟩ : ∃ K, masterF mas9 = K := ⟨_, rfl⟩
  have hk : K.length = 96 := by rw [← hKK]; simp
  rw [hKK]
  obtain ⟨g1, w2, r2, h2⟩ := ((St.start w).same c1).zeroA kyZ
  obtain ⟨w3, r3, h3⟩ := h2.stA (i := 0) (v := bv K) rfl (kyS _) (by simp) (by simp [hk]) (bv_one _)
  have ld : ∀ w', Chg [] w3 w' → (Instr.loadAt 41 (.pointer (some ⟨g1, 0, none⟩))).run Tryd.prog w' = .ok (.agg (bv K).toArray) w' := fun w' hc => (h3.same hc).ldA (i := 0) (l := bv K) rfl (kyA _) (kyS _) (by simp [hk])
  have kK : ∀ w', Chg [] w3 w' → KTab w' := fun w' hc => hK.keep0 (h3.chg.trans hc)
  have hz := Chg.refl [] w3
  refine ⟨_, rfl, g1, w2, r2, w3, r3, _, ld _ hz, (build_spec13 K hk 5 none 0 0 [] w3 (kK _ hz) rfl ⟨RdE.nil _, by simp⟩ small0).mono ?_⟩
  rintro e w4 ⟨ba, bn, bc, ra, rc, rfl, hbn, k4⟩
  have k4 : St w3 [] w4 [.row 5 1 (.slice ba bn bc) bn (bv (buildP K 5 [])), .row 26 35 (.slice ra 0 rc) 0 []] := k4
  have hbn : bn = 63 := hbn.trans (build5_len K)
  subst hbn
  have hB : RdB w4 ba 63 bc (buildP K 5 []) := k4.rd (i := 0) rfl
  have d4 := k4.chg
  have o5 : openP K 5 (buildP K 5 []) = (none, []) := open_build K rfl small0
  have o6 : openP K 6 (buildP K 5 []) = (some 17, []) := open_other_num K rfl rfl (by decide) []
  refine ⟨_, _, _, _, _, _, _, rfl, _, neqS_nil hI none _ _, fun h => ?_, fun _ => ⟨_, ld _ d4, (pkopen_spec K hk 5 ba 63 bc _ w4 (kK _ d4) hB (by decide)).mono ?_⟩⟩
  · simp [refsP] at h
  rintro e w5 ⟨oa, oc, rfl, _, c5⟩
  rw [o5]
  have d5 := d4.trans c5
  refine ⟨_, _, _, _, rfl, _, ld _ d5, (pkopen_spec K hk 6 ba 63 bc _ w5 (kK _ d5) (hB.keep0 c5) (by decide)).mono ?_⟩
  rintro e w6 ⟨pa, pc, rfl, _, c6⟩
  rw [o6]
  have d6 := d5.trans c6
  refine ⟨_, _, _, _, rfl, _, eqlS_nil hI none _ _, fun _ => ⟨_, eqlS_err hI (some 17) 17 _ _ _, fun _ => (name5 w6).mono ?_, fun h => by simp at h⟩, fun h => by simp at h⟩
  rintro e w7 ⟨rfl, rfl⟩
  exact ⟨_, rfl, by simp, h3.chg.trans d6⟩

/-! ### Cut -/
def cutOk (b : List UInt8) (r : RefD) : Bool := decide (0 ≤ r.at_) && decide (0 ≤ r.len) && decide (r.at_ ≤ (b.length : Int)) && decide (r.len ≤ (b.length : Int) - r.at_)
def cutP (b : List UInt8) (r : RefD) : List UInt8 := if cutOk b r then (b.drop r.at_.toNat).take r.len.toNat else []

theorem cut_spec13 (a : Option Addr) (n c : Nat) (b : List UInt8) (r : RefD) (w : World) (hr : RdB w a n c b) (hb : n ≤ 140737488355000) :
    Calls Tryd.prog 7 #[.slice a n c, .agg (refC r).toArray] w fun e w' => ∃ a' c', e = .returned (.tuple #[.slice a' (cutP b r).length c', errV (if cutOk b r then none else some 7)]) ∧ FreshB w w' a' (cutP b r).length c' (cutP b r) := by
  have hl := hr.lenB
  subst hl
  have hcap := hr.le
  apply pack_Cut_vc
  obtain ⟨g3, w1, r1, k1⟩ := (St.start w).boxA (P := Tryd.prog) 26 (refC r)
  have k1 : St w [] w1 [.arr g3 26 (refC r)] := k1
  obtain ⟨f1, f2, f3⟩ := refFld k1 (i := 0) rfl
  have hak := r.ak
  have hlk := r.lk
  refine ⟨g3, w1, r1, fun x w' => x = !cutOk b r ∧ w' = w1, ⟨_, f2, fun h => ⟨?_, rfl⟩, fun h1 => ⟨_, f3, fun h => ⟨?_, rfl⟩, fun h2 => ⟨_, f2, fun h => ⟨?_, rfl⟩, fun h3 => ⟨_, f3, _, f2, ?_, rfl⟩⟩⟩⟩, ?_⟩
  · have : ¬ 0 ≤ r.at_ := by simp at h; omega
    simp [cutOk, this]
  · have : ¬ 0 ≤ r.len := by simp at h; omega
    simp [cutOk, this]
  · have : ¬ r.at_ ≤ (b.length : Int) := by simp at h; omega
    simp [cutOk, this]
  · have q1 : 0 ≤ r.at_ := by simp at h1; omega
    have q2 : 0 ≤ r.len := by simp at h2; omega
    have q3 : r.at_ ≤ (b.length : Int) := by simp at h3; omega
    rw [wrap_i64 (by omega) (by omega)]
    simp only [cutOk, decide_eq_true q1, decide_eq_true q2, decide_eq_true q3, Bool.true_and]
    by_cases h : r.len ≤ (b.length : Int) - r.at_
    · rw [decide_eq_true h, decide_eq_false (by omega)]; rfl
    · rw [decide_eq_false h, decide_eq_true (by omega)]; rfl
  rintro x w2 ⟨rfl, rfl⟩
  refine ⟨fun h => ?_, fun h => ?_⟩
  · have hc : cutOk b r = false := by simpa using h
    have hp : cutP b r = [] := by rw [cutP, if_neg (by rw [hc]; simp)]
    rw [hp, hc]
    exact ⟨none, 0, rfl, k1.chg, rfl, World.ownsRow_nil _ _ _ _⟩
  have hc : cutOk b r = true := by simpa using h
  have hp : cutP b r = (b.drop r.at_.toNat).take r.len.toNat := by rw [cutP, if_pos hc]
  have hc' := hc
  simp only [cutOk, Bool.and_eq_true, decide_eq_true_eq] at hc'
  obtain ⟨⟨⟨q1, q2⟩, q3⟩, q4⟩ := hc'
  have ew : IntKind.wrap .i64 (r.at_ + r.len) = r.at_ + r.len := wrap_i64 (by omega) (by omega)
  rw [hc]
  refine ⟨_, f2, _, f2, _, f3, ?_⟩
  rw [ew]
  refine ⟨q1, by omega, by omega, fun t hs => ?_⟩
  have e1 : (r.at_ + r.len).toNat = r.at_.toNat + r.len.toNat := by omega
  have hsub := Rd.sub (hr.keep0 k1.chg) hs (hh := r.at_.toNat + r.len.toNat) (by omega) (by omega) (by omega) (Nat.le_refl _)
  have e2 : ((bv b).drop (r.at_.toNat * 1)).take ((r.at_.toNat + r.len.toNat - r.at_.toNat) * 1) = bv ((b.drop r.at_.toNat).take r.len.toNat) := by
    rw [Nat.mul_one, Nat.mul_one, Nat.add_sub_cancel_left, bv_take, bv_drop]
  rw [e2, ← hp] at hsub
  rw [e1]
  have hcl : (cutP b r).length = r.at_.toNat + r.len.toNat - r.at_.toNat := by rw [hp]; simp; omega
  rw [← hcl] at hsub ⊢
  refine (clone_spec t (cutP b r).length (c - r.at_.toNat) (cutP b r) w2 hsub (by rw [hcl]; omega)).mono ?_
  rintro e w3 ⟨a', c', rfl, hf⟩
  exact ⟨_, _, _, rfl, a', c', rfl, k1.chg.trans hf.1, hf.2.1, ownsRow_base hf.2.2 k1.chg.size⟩

end

end Go.Proofs.YtmdandkoajocpaaDoor
