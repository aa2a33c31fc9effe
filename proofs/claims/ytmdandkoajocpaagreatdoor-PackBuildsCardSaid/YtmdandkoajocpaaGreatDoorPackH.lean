/- The laws of chapter 13: alive; Cut; PackCuts (conditions: the table lies where the program laid it). -/
import Derived.Test.YtmdandkoajocpaaGreatDoorPackS
import Derived.Test.YtmdandkoajocpaaGreatDoorSealH
import Derived.Test.YtmdandkoajocpaaGreatDoorNum
import Derived.Test.YtmdandkoajocpaaGreatDoorApart
import Derived.Test.YtmdandkoajocpaaGreatDoorVlaw13
namespace Go.Proofs.YtmdandkoajocpaaGreatDoor
open Go Sx
set_option maxRecDepth 8000

section
variable {w0 w w' : World} {X : List Nat} {M N N' T : List Res}

theorem small5 (w : World) : Calls Tryz.prog 44 #[.int .i64 5] w fun e w' => e = .returned (.string ⟨#[53]⟩) ∧ w' = w := by
  apply strconv_Itoa_vc
  have h1 : Calls Tryz.prog 131 #[.int .i64 5] w fun e w' => e = .returned (.string ⟨#[53]⟩) ∧ w' = w := by
    apply internal_strconv_small_vc
    refine ⟨fun _ => ⟨by decide, by decide, by decide, ?_, rfl⟩, fun h => by simp at h⟩
    rfl
  have h2 : Calls Tryz.prog 113 #[.int .i64 5, .int .i64 10] w fun e w' => e = .returned (.string ⟨#[53]⟩) ∧ w' = w := by
    apply internal_strconv_FormatInt_vc
    refine ⟨fun _ => ⟨fun _ => h1.mono ?_, fun h => by simp at h⟩, fun h => by simp at h⟩
    rintro e w' ⟨rfl, rfl⟩
    exact ⟨_, rfl, rfl, rfl⟩
  have h3 : Calls Tryz.prog 80 #[.int .i64 5] w fun e w' => e = .returned (.string ⟨#[53]⟩) ∧ w' = w := by
    apply internal_strconv_Itoa_vc
    refine h2.mono ?_
    rintro e w' ⟨rfl, rfl⟩
    exact ⟨_, rfl, rfl, rfl⟩
  refine h3.mono ?_
  rintro e w' ⟨rfl, rfl⟩
  exact ⟨_, rfl, rfl, rfl⟩

theorem name5 (w : World) : Calls Tryz.prog 19 #[.int .i64 5] w fun e w' => e = .returned (.string ⟨#[112, 53]⟩) ∧ w' = w := by
  apply pack_Name_vc
  refine (pkgood_spec 5 w).mono ?_
  rintro e w1 ⟨rfl, rfl⟩
  refine ⟨_, rfl, fun h => by simp [goodP] at h, fun _ => (small5 w1).mono ?_⟩
  rintro e w2 ⟨rfl, rfl⟩
  exact ⟨_, rfl, _, rfl, rfl, rfl⟩

def mas9 : List UInt8 := 9 :: List.replicate 31 0
theorem build_mas9 (w : World) : (Instr.build 22 #[(0, .int .u8 9)]).run Tryz.prog w = .ok (.agg (bv mas9).toArray) w := by
  have := build_arr (P := Tryz.prog) (w := w) (T := 22) (d32Z w) Tryz.underlying22 (sB1 w) [.int .u8 9] (by simp [Value.oneCell']) (by simp)
  exact this
theorem small0 : SmallI [] := ⟨by simp, by simp, by simp⟩
theorem build5_len (K : List UInt8) : (buildP K 5 []).length = 63 := by
  rw [buildP_eq]
  have h1 : (footBody K 5 []).length = 45 := by rw [footBody, sealF_len _ _ _ _ (by simp [footL, refsP])]; rfl
  simp only [framesP, frsL, List.map_nil, List.nil_append, List.map_cons, List.flatten_cons, List.flatten_nil, List.append_nil, List.length_append, headP_len, frameL, List.length_cons, h1]
  rw [varL_small (by decide)]
  rfl

theorem alive13_spec (w : World) (hK : KTab w) : Calls Tryz.prog 7 #[] w fun e w' => e = .returned (.bool true) ∧ Chg [] w w' := by
  obtain ⟨mI, hI⟩ := eI
  apply amphoralaw13_alive_vc
  refine ⟨_, build_mas9 w, (rfromMaster_spec mas9 w (by decide)).mono ?_⟩
  rintro e w1 ⟨rfl, c1⟩
  obtain ⟨K, hKK⟩ : ∃ K, masterF mas9 = K := ⟨_, rfl⟩
  have hk : K.length = 96 := by rw [← hKK]; simp
  rw [hKK]
  obtain ⟨g1, w2, r2, h2⟩ := ((St.start w).same c1).zeroA kyZ
  obtain ⟨w3, r3, h3⟩ := h2.stA (i := 0) (v := bv K) rfl (kyS _) (by simp) (by simp [hk]) (bv_one _)
  have ld : ∀ w', Chg [] w3 w' → (Instr.loadAt 28 (.pointer (some ⟨g1, 0, none⟩))).run Tryz.prog w' = .ok (.agg (bv K).toArray) w' := fun w' hc => (h3.same hc).ldA (i := 0) (l := bv K) rfl (kyA _) (kyS _) (by simp [hk])
  have kK : ∀ w', Chg [] w3 w' → KTab w' := fun w' hc => hK.keep0 (h3.chg.trans hc)
  have hz := Chg.refl [] w3
  refine ⟨_, rfl, g1, w2, r2, w3, r3, _, ld _ hz, (build_spec13 K hk 5 none 0 0 [] w3 (kK _ hz) rfl ⟨RdE.nil _, by simp⟩ small0).mono ?_⟩
  rintro e w4 ⟨ba, bn, bc, ra, rc, rfl, hbn, k4⟩
  have k4 : St w3 [] w4 [.row 5 1 (.slice ba bn bc) bn (bv (buildP K 5 [])), .row 75 35 (.slice ra 0 rc) 0 []] := k4
  have hbn : bn = 63 := hbn.trans (build5_len K)
  subst hbn
  have hB : RdB w4 ba 63 bc (buildP K 5 []) := k4.rd (i := 0) rfl
  have d4 := k4.chg
  have o5 : openP K 5 (buildP K 5 []) = (none, []) := open_build K rfl small0
  have o6 : openP K 6 (buildP K 5 []) = (some 17, []) := open_other_num K rfl rfl (by decide) []
  refine ⟨_, _, _, _, _, _, _, rfl, _, neqS_nil hI none _ _, fun h => ?_, fun _ => ⟨_, ld _ d4, (pkopen_spec K hk 5 ba 63 bc _ w4 (kK _ d4) hB (by decide)).mono ?_⟩⟩
  · simp [refsP] at h
  rintro e w5 ⟨oa, oc, rfl, _, c5⟩
  rw [o5]
  have d5 := d4.trans c5
  refine ⟨_, _, _, _, rfl, _, ld _ d5, (pkopen_spec K hk 6 ba 63 bc _ w5 (kK _ d5) (hB.keep0 c5) (by decide)).mono ?_⟩
  rintro e w6 ⟨pa, pc, rfl, _, c6⟩
  rw [o6]
  have d6 := d5.trans c6
  refine ⟨_, _, _, _, rfl, _, eqlS_nil hI none _ _, fun _ => ⟨_, eqlS_err hI (some 17) 17 _ _ _, fun _ => (name5 w6).mono ?_, fun h => by simp at h⟩, fun h => by simp at h⟩
  rintro e w7 ⟨rfl, rfl⟩
  exact ⟨_, rfl, by simp, h3.chg.trans d6⟩

/-! ### Cut -/
def cutOk (b : List UInt8) (r : RefD) : Bool := decide (0 ≤ r.at_) && decide (0 ≤ r.len) && decide (r.at_ ≤ (b.length : Int)) && decide (r.len ≤ (b.length : Int) - r.at_)
def cutP (b : List UInt8) (r : RefD) : List UInt8 := if cutOk b r then (b.drop r.at_.toNat).take r.len.toNat else []

end

end Go.Proofs.YtmdandkoajocpaaGreatDoor
