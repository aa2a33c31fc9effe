/- The law WireNone answers true (conditions: none). -/
import Derived.Test.YtpfjakmbokkkoaaWireNumbers
import Derived.Test.YtpfjakmbokkkoaaWireG
namespace Go.Proofs.Ytpfjakmbokkkoaa
open Go Sx

theorem wireNone_walk (x : Int) (w : World) : Calls Try.prog 6 #[.int .i64 x] w fun e w' => e = .returned (.bool true) ∧ Chg [] w w' := by
  apply amphoralaw04_WireNone_vc
  refine (alive_spec w).mono ?_
  rintro e w1 ⟨rfl, hc1⟩
  refine ⟨_, rfl, fun h => by simp at h, fun _ => (rVar_nil w1).mono ?_⟩
  rintro e w2 ⟨rfl, rfl⟩
  refine ⟨_, rfl, fun _ => (rNum_nil w2).mono ?_, fun h => by simp at h⟩
  rintro e w3 ⟨rfl, rfl⟩
  refine ⟨_, rfl, fun _ => (rField_nil w3).mono ?_, fun h => by simp at h⟩
  rintro e w4 ⟨rfl, rfl⟩
  refine ⟨_, _, _, rfl, fun _ => (rRaw_nil x w4).mono ?_, fun h => by simp at h⟩
  rintro e w5 ⟨rfl, rfl⟩
  refine ⟨_, _, _, rfl, fun _ => (rLeft_nil w5).mono ?_, fun h => by simp at h⟩
  rintro e w6 ⟨rfl, rfl⟩
  refine ⟨_, rfl, fun _ => (rErr_nil w6).mono ?_, fun h => by simp at h⟩
  rintro e w7 ⟨rfl, rfl⟩
  refine ⟨_, rfl, (num_spec (some 9) w7 (by decide)).mono ?_⟩
  rintro e w8 ⟨rfl, rfl⟩
  refine ⟨_, rfl, fun _ => (rDone_nil w8).mono ?_, fun h => by simp at h⟩
  rintro e w9 ⟨rfl, rfl⟩
  refine ⟨_, rfl, (num_spec (some 9) w9 (by decide)).mono ?_⟩
  rintro e w10 ⟨rfl, rfl⟩
  exact ⟨_, rfl, by simp, hc1⟩

end Go.Proofs.Ytpfjakmbokkkoaa
