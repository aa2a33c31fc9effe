/- The statement SealLocksCardSaid, proved: a card, tied to the program's text (conditions: none of its own beside the card's; the walk: YtlhhmoljlmmnoaaDoorSealN,RowLocked). -/
import Derived.Test.YtlhhmoljlmmnoaaDoorRows
import Derived.Test.YtlhhmoljlmmnoaaDoorCards
import Derived.Test.YtlhhmoljlmmnoaaDoorTie
import Derived.Test.YtlhhmoljlmmnoaaDoorRowKit
import Derived.Test.YtlhhmoljlmmnoaaDoorShaRow
import Derived.SevenTiedAt
import Derived.LaidMore
import Derived.ProofKit
import Derived.Test.YtlhhmoljlmmnoaaDoorSealN
import Derived.Test.YtlhhmoljlmmnoaaDoorRowLocked
namespace Go.Proofs.YtlhhmoljlmmnoaaDoor.sealLocks
open Go Go.Proofs.YtlhhmoljlmmnoaaDoor.Sx Go.ChangeShapes Go.WideShapes Go.ChangeAt Go.WideMaps Go.WideElems Go.RowKit

theorem own : ownKnob Tryd.prog.godebug = none := by kernel_rfl
theorem laidOut : laidOutB Tryd.prog = true := by kernel_rfl

/-- The door's own heap meets the condition. -/
theorem door_met (os : Os) (args : Array Value) : laidMetH Tryd.prog [("amphora/sha.k", Rows.laid_amphora_sha_k)] ((World.doorLaid Tryd.prog 14 os).forCall (fun _ _ => 0) ⟨#[], args, []⟩).memory :=
  laidMetH_of_parts3 (fuel := 8) (laidMet_of_run' 8 (by kernel_rfl) (by kernel_rfl)) (by kernel_rfl) (by kernel_rfl)

set_option maxRecDepth 100000 in
theorem lifted (os : Os) (started : os.Started) (H : Type) (enc : TypeId × Value → H) :
    ReturnsInHanded {} Tryd.checked os 7 .any (fun w args => (Rows.sealLocksSpec.pre enc Tryd.prog Tryd.f7 [] false w args ∧ laidMetH Tryd.prog [("amphora/sha.k", Rows.laid_amphora_sha_k)] w) ∧ sizedMet enc Tryd.prog Tryd.f7 (OpenSpec.ofChange Rows.sealLocksSpec) false w args)
      (Rows.sealLocksSpec.post enc Tryd.prog Tryd.f7 false true false false) := by
  refine returnsInHanded_of_change_and (C := Tryd.checked) (X := fun w _ => laidMetH Tryd.prog [("amphora/sha.k", Rows.laid_amphora_sha_k)] w) (fun _ _ _ hh h => h.of_heap hh) own started (by kernel_rfl) Tryd.func7
    (ChangeSpec.witness_shaped (enc := enc) (C := Tryd.checked) (os := os) (X := fun w _ => laidMetH Tryd.prog [("amphora/sha.k", Rows.laid_amphora_sha_k)] w) false (World.doorLaid Tryd.prog 14 os) #[.agg (#[.string ByteArray.empty] ++ Array.replicate 48 (.int .u8 0) ++ #[.slice none 0 0])] 8 rfl (World.shaped_of_RefB (by kernel_rfl) (by kernel_rfl)) (by kernel_rfl) (by kernel_rfl) (by kernel_rfl) (door_met os _)) ?_
  intro W base args ds gs before hval0 hW hcnd hsz hL _
  have hval : ∀ (j : Nat) t v, Tryd.f7.params[j]? = some t → args[j]? = some v → Value.okWide Tryd.prog W .any base t v := hval0
  have hK := kTab_of_laid (fun _ => MakeChecks.laidMetH_plain _ _ _ (by kernel_rfl)) hL
  have hW' := hW
  obtain ⟨p, q, hA0, hV, rfl, hfz, hnd⟩ := hW
  have hA : DataW.TrodAll enc Tryd.prog W 0 (fun _ => true) true Tryd.f7.params.toList args.toList ds p := hA0
  rw [Tryd.params7] at hA hval
  obtain ⟨v0, vs0, d0, ds0, p0, q0, hargs, rfl, rfl, h0, r0⟩ := trodAll_cons hA
  obtain ⟨rfl, rfl, rfl⟩ := trodAll_nil r0
  obtain rfl : args = #[v0] := by cases args; simp_all
  obtain ⟨rfl, rfl⟩ := trodVars_none hV
  have k0 := h0
  have lt0 : ∀ x ∈ p0, x.block < W.heap.size := by obtain ⟨m, hm⟩ := k0; exact DataW.trod_lt m _ _ _ hm
  obtain ⟨s1, salt, ms, a1, n1, c1, l1, rfl, ls, lm, hra⟩ := openLocked (hval 0 51 v0 rfl rfl) h0
  clear hA0 hval0
  refine (sealLocks_walk s1 salt ms a1 n1 c1 l1 W hK ls lm hra).mono fun e W' ⟨he, chg⟩ => ?_
  subst he
  have bel := chg.below
  exact ⟨_, rfl, _, _, _, [], _, [], hW', trodAll_mk1 (shut_bool Tryd.underlying4 _), (trodAll_cons_mk (Below.trod laidOut (by kernel_rfl) (of_decide_eq_true (by kernel_rfl)) k0 bel lt0) trodAll_mk0), rfl, bel.frame _, fun h => (by cases h)⟩

theorem over : Rows.sealLocksRow.holds Tryd.pinned (OpenSpec.ofChange Rows.sealLocksSpec) :=
  OpenClaim.holds_of_wide 7 Tryd.f7 rfl rfl rfl rfl rfl rfl rfl ⟨rfl, rfl, rfl, rfl, rfl⟩ rfl rfl rfl rfl rfl (by kernel_rfl) Tryd.func7 (by kernel_rfl)
    (of_decide_eq_true (by kernel_rfl)) (by unfold Func.isWrapper; first | (rw [if_pos (by decide +kernel)]; kernel_rfl) | (rw [if_neg (by decide +kernel)]; exact ⟨rfl, rfl⟩))
    (fun os started H enc _ => lifted os started H enc)

/-- The card. -/
theorem card : Rows.SealLocksCardSaid :=
  Claim7.holds_tied_plain_at .later [] [.data] true (true, "b4bea3ed05056a8dd00f9484f4fcc64e2c6b85de0f8115ce0dc6e91a46a42dbd") true
    over (fun _ h => by cases h) (by kernel_rfl) (fun _ h => by cases h) sealLocks_row_tie rfl ⟨rfl, rfl⟩ (by kernel_rfl) rfl
    (fun f fn hf hfn => by
      obtain rfl : f = 7 := Option.some.inj ((show Tryd.prog.funcNamed "amphora/amphoralaw05.SealLocks" = some 7 by kernel_rfl).symm.trans hf) |>.symm
      obtain rfl : fn = Tryd.f7 := (Option.some.inj (Tryd.func7.symm.trans hfn)).symm
      exact ⟨by kernel_rfl, fun j t ht => by
        rw [Tryd.params7] at ht
        have hm : t ∈ [51] := by simpa using Array.mem_of_getElem? ht
        have hall : ([51].all fun u => !Tryd.prog.wantsStandIn u) = true := by kernel_rfl
        exact (show Tryd.prog.wantsStandIn t = false by simpa using List.all_eq_true.1 hall t hm)⟩)
    (by kernel_rfl)
end Go.Proofs.YtlhhmoljlmmnoaaDoor.sealLocks
namespace Go.Proofs.YtlhhmoljlmmnoaaDoor
theorem sealLocksProved : Rows.SealLocksCardSaid := sealLocks.card
end Go.Proofs.YtlhhmoljlmmnoaaDoor
