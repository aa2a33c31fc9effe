/- A nil disk (conditions: none). -/
import Derived.Test.YtoijbpkplegnkaaDiskL
namespace Go.Proofs.Ytoijbpkplegnkaa
open Go Sx
set_option maxRecDepth 8000

section
variable (n k : Nm) (w : World)

theorem nReady (a : Option Addr) (u c : Nat) (w : World) : Calls Try.prog 41 #[.pointer none, .slice a u c] w fun e w' => e = .returned (errV (some 28)) ∧ w' = w := by
  apply disk_Disk_ready_vc_nil
  exact ⟨rfl, rfl⟩
theorem nFound : Calls Try.prog 43 #[.pointer none, strV n] w fun e w' => e = .returned (.tuple #[.pointer none, errV (some 28)]) ∧ Chg [] w w' := by
  obtain ⟨mI, hI⟩ := eI
  apply disk_Disk_found_vc_nil
  obtain ⟨g, w1, r1, h1⟩ := (St.start w).lit strT [strV n] (by simp [Value.oneCell', strV]) (by simp)
  refine ⟨_, _, _, w1, r1, (nReady _ _ _ _).mono ?_⟩
  rintro e w2 ⟨rfl, rfl⟩
  exact ⟨_, rfl, _, neqS_nil hI (some 28) _ _, fun _ => ⟨rfl, h1.chg⟩, fun h => (by cases h)⟩
theorem nCreate : Calls Try.prog 10 #[.pointer none, strV n] w fun e w' => e = .returned (errV (some 28)) ∧ Chg [] w w' := by
  obtain ⟨mI, hI⟩ := eI
  apply disk_Disk_Create_vc_nil
  obtain ⟨g, w1, r1, h1⟩ := (St.start w).lit strT [strV n] (by simp [Value.oneCell', strV]) (by simp)
  refine ⟨_, _, _, w1, r1, (nReady _ _ _ _).mono ?_⟩
  rintro e w2 ⟨rfl, rfl⟩
  exact ⟨_, rfl, _, neqS_nil hI (some 28) _ _, fun _ => ⟨rfl, h1.chg⟩, fun h => (by cases h)⟩
theorem nAppend (a : Option Addr) (u c : Nat) : Calls Try.prog 12 #[.pointer none, strV n, .slice a u c] w fun e w' => e = .returned (errV (some 28)) ∧ Chg [] w w' := by
  obtain ⟨mI, hI⟩ := eI
  apply disk_Disk_Append_vc_nil
  refine (nFound n w).mono ?_
  rintro e w1 ⟨rfl, c1⟩
  exact ⟨_, _, rfl, _, neqS_nil hI (some 28) _ _, fun _ => ⟨rfl, c1⟩, fun h => (by cases h)⟩
theorem nSync : Calls Try.prog 31 #[.pointer none, strV n] w fun e w' => e = .returned (errV (some 28)) ∧ Chg [] w w' := by
  obtain ⟨mI, hI⟩ := eI
  apply disk_Disk_Sync_vc_nil
  refine (nFound n w).mono ?_
  rintro e w1 ⟨rfl, c1⟩
  exact ⟨_, _, rfl, _, neqS_nil hI (some 28) _ _, fun _ => ⟨rfl, c1⟩, fun h => (by cases h)⟩
theorem nSyncDir : Calls Try.prog 32 #[.pointer none] w fun e w' => e = .returned (errV (some 28)) ∧ Chg [] w w' := by
  obtain ⟨mI, hI⟩ := eI
  apply disk_Disk_SyncDir_vc_nil
  refine (nReady _ _ _ _).mono ?_
  rintro e w1 ⟨rfl, rfl⟩
  exact ⟨_, rfl, _, neqS_nil hI (some 28) _ _, fun _ => ⟨rfl, Chg.refl _ _⟩, fun h => (by cases h)⟩
theorem nRename : Calls Try.prog 33 #[.pointer none, strV n, strV k] w fun e w' => e = .returned (errV (some 28)) ∧ Chg [] w w' := by
  obtain ⟨mI, hI⟩ := eI
  apply disk_Disk_Rename_vc_nil
  obtain ⟨g, w1, r1, h1⟩ := (St.start w).lit strT [strV n, strV k] (by simp [Value.oneCell', strV]) (by simp)
  refine ⟨_, _, _, w1, r1, (nReady _ _ _ _).mono ?_⟩
  rintro e w2 ⟨rfl, rfl⟩
  exact ⟨_, rfl, _, neqS_nil hI (some 28) _ _, fun _ => ⟨rfl, h1.chg⟩, fun h => (by cases h)⟩
theorem nRemove : Calls Try.prog 34 #[.pointer none, strV n] w fun e w' => e = .returned (errV (some 28)) ∧ Chg [] w w' := by
  obtain ⟨mI, hI⟩ := eI
  apply disk_Disk_Remove_vc_nil
  refine (nFound n w).mono ?_
  rintro e w1 ⟨rfl, c1⟩
  exact ⟨_, _, rfl, _, neqS_nil hI (some 28) _ _, fun _ => ⟨rfl, c1⟩, fun h => (by cases h)⟩
theorem nRead : Calls Try.prog 15 #[.pointer none, strV n] w fun e w' => e = .returned (.tuple #[.slice none 0 0, errV (some 28)]) ∧ Chg [] w w' := by
  obtain ⟨mI, hI⟩ := eI
  apply disk_Disk_Read_vc_nil
  refine (nFound n w).mono ?_
  rintro e w1 ⟨rfl, c1⟩
  exact ⟨_, _, rfl, _, neqS_nil hI (some 28) _ _, fun _ => ⟨rfl, c1⟩, fun h => (by cases h)⟩
theorem nReadAt (i j : Int) : Calls Try.prog 16 #[.pointer none, strV n, .int .i64 i, .int .i64 j] w fun e w' => e = .returned (.tuple #[.slice none 0 0, errV (some 28)]) ∧ Chg [] w w' := by
  obtain ⟨mI, hI⟩ := eI
  apply disk_Disk_ReadAt_vc_nil
  refine (nFound n w).mono ?_
  rintro e w1 ⟨rfl, c1⟩
  exact ⟨_, _, rfl, _, neqS_nil hI (some 28) _ _, fun _ => ⟨rfl, c1⟩, fun h => (by cases h)⟩

set_option maxHeartbeats 1000000 in
theorem diskNone_walk (i : Int) : Calls Try.prog 7 #[strV n, .int .i64 i] w fun e w' => e = .returned (.bool true) ∧ Chg [] w w' := by
  apply amphoralaw01_DiskNone_vc
  have num : ∀ w : World, Calls Try.prog 28 #[errV (some 28)] w fun e w' => e = .returned (.int .i64 28) ∧ w' = w := fun w => num_spec (some 28) w (by simp)
  refine (alive01_spec w).mono ?_
  rintro e w1 ⟨rfl, c1⟩
  refine ⟨_, rfl, fun h => (by cases h), fun _ => ⟨_, surv1_build i w1, ?_⟩⟩
  apply disk_Disk_Crash_vc_nil
  obtain ⟨g, w2, r2, h2⟩ := (St.start w1).boxA (P := Try.prog) 50 [.int .i64 i, .slice none 0 0]
  refine ⟨g, w2, r2, rfl, (nRead n w2).mono ?_⟩
  rintro e w3 ⟨rfl, c3⟩
  refine ⟨_, _, _, _, rfl, (nReadAt n w3 i i).mono ?_⟩
  rintro e w4 ⟨rfl, c4⟩
  have d4 := c1.trans (h2.chg.trans (c3.trans c4))
  refine ⟨_, _, _, _, rfl, fun x w' => x = false ∧ Chg [] w w', (num w4).mono ?_, ?_⟩
  · rintro e w5 ⟨rfl, rfl⟩
    refine ⟨_, rfl, fun h => (by simp at h), fun _ => (num w5).mono ?_⟩
    rintro e w6 ⟨rfl, rfl⟩
    refine ⟨_, rfl, fun h => (by simp at h), fun _ => (nCreate n w6).mono ?_⟩
    rintro e w7 ⟨rfl, c7⟩
    refine ⟨_, rfl, (num w7).mono ?_⟩
    rintro e w8 ⟨rfl, rfl⟩
    refine ⟨_, rfl, fun h => (by simp at h), fun _ => (nAppend n w8 none 0 0).mono ?_⟩
    rintro e w9 ⟨rfl, c9⟩
    refine ⟨_, rfl, (num w9).mono ?_⟩
    rintro e w10 ⟨rfl, rfl⟩
    refine ⟨_, rfl, fun h => (by simp at h), fun _ => (nSync n w10).mono ?_⟩
    rintro e w11 ⟨rfl, c11⟩
    refine ⟨_, rfl, (num w11).mono ?_⟩
    rintro e w12 ⟨rfl, rfl⟩
    refine ⟨_, rfl, fun h => (by simp at h), fun _ => (nSyncDir w12).mono ?_⟩
    rintro e w13 ⟨rfl, c13⟩
    refine ⟨_, rfl, (num w13).mono ?_⟩
    rintro e w14 ⟨rfl, rfl⟩
    refine ⟨_, rfl, fun h => (by simp at h), fun _ => (nRename n n w14).mono ?_⟩
    rintro e w15 ⟨rfl, c15⟩
    refine ⟨_, rfl, (num w15).mono ?_⟩
    rintro e w16 ⟨rfl, rfl⟩
    refine ⟨_, rfl, fun h => (by simp at h), fun _ => (nRemove n w16).mono ?_⟩
    rintro e w17 ⟨rfl, c17⟩
    refine ⟨_, rfl, (num w17).mono ?_⟩
    rintro e w18 ⟨rfl, rfl⟩
    exact ⟨_, rfl, rfl, d4.trans (c7.trans (c9.trans (c11.trans (c13.trans (c15.trans c17)))))⟩
  · rintro x w19 ⟨rfl, c19⟩
    refine ⟨fun h => (by cases h), fun _ => ?_⟩
    apply disk_Disk_Arm_vc_nil
    refine ⟨errV (some 28), rfl, (num w19).mono ?_⟩
    rintro e w21 ⟨rfl, rfl⟩
    obtain ⟨g22, w22, r22, h22⟩ := (St.start w21).lit intT [.int .i64 i] (by simp [Value.oneCell']) (by simp)
    refine ⟨_, rfl, fun _ => ⟨_, _, _, w22, r22, ?_⟩, fun h => (by simp at h)⟩
    apply disk_Disk_Fail_vc_nil
    refine ⟨errV (some 28), rfl, (num w22).mono ?_⟩
    rintro e w24 ⟨rfl, rfl⟩
    refine ⟨_, rfl, fun _ => ?_, fun h => (by simp at h)⟩
    apply disk_Disk_Put_vc_nil
    refine ⟨errV (some 28), rfl, (num w24).mono ?_⟩
    rintro e w26 ⟨rfl, rfl⟩
    refine ⟨_, rfl, fun _ => ?_, fun h => (by simp at h)⟩
    apply disk_Disk_Drop_vc_nil
    refine ⟨errV (some 28), rfl, (num w26).mono ?_⟩
    rintro e w28 ⟨rfl, rfl⟩
    refine ⟨_, rfl, fun _ => ?_, fun h => (by simp at h)⟩
    apply disk_Disk_List_vc_nil
    refine ⟨_, _, _, rfl, fun _ => ?_, fun h => (by simp at h)⟩
    apply disk_Disk_Files_vc_nil
    apply disk_Disk_List_vc_nil
    refine ⟨_, _, _, rfl, fun xa xn xc x w' => xn = 0 ∧ x = 0 ∧ w' = w28, fun _ _ _ _ _ => 0, ⟨rfl, rfl, rfl⟩, ?_⟩
    rintro xa xn xc x w30 ⟨rfl, rfl, rfl⟩
    refine ⟨fun h => (by simp at h), fun _ => ⟨_, _, _, rfl, fun _ => ?_, fun h => (by simp at h)⟩⟩
    apply disk_Disk_Used_vc_nil
    refine ⟨_, rfl, fun _ => ?_, fun h => (by simp at h)⟩
    apply disk_Disk_Steps_vc_nil
    refine ⟨_, rfl, fun _ => ?_, fun h => (by simp at h)⟩
    apply disk_Disk_Down_vc_nil
    exact ⟨_, rfl, rfl, c19.trans h22.chg⟩

end

end Go.Proofs.Ytoijbpkplegnkaa
