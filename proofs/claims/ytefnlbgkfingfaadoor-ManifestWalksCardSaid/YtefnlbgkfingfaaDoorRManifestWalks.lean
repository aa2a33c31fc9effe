/- The statement ManifestWalksCardSaid, proved: a card, tied to the program's text (conditions: none of its own beside the card's; the walk: YtefnlbgkfingfaaDoorManiW,RowMani). -/
import Derived.Test.YtefnlbgkfingfaaDoorRows
import Derived.Test.YtefnlbgkfingfaaDoorCards
import Derived.Test.YtefnlbgkfingfaaDoorTie
import Derived.Test.YtefnlbgkfingfaaDoorRowKit
import Derived.Test.YtefnlbgkfingfaaDoorShaRow
import Derived.SevenTiedAt
import Derived.LaidMore
import Derived.ProofKit
import Derived.Test.YtefnlbgkfingfaaDoorManiW
import Derived.Test.YtefnlbgkfingfaaDoorRowMani
namespace Go.Proofs.YtefnlbgkfingfaaDoor.manifestWalks
open Go Go.Proofs.YtefnlbgkfingfaaDoor.Sx Go.ChangeShapes Go.WideShapes Go.ChangeAt Go.WideMaps Go.WideElems Go.RowKit

theorem own : ownKnob Tryd.prog.godebug = none := by kernel_rfl
theorem laidOut : laidOutB Tryd.prog = true := by kernel_rfl

/-- The door's own heap meets the condition. -/
theorem door_met (os : Os) (args : Array Value) : laidMetH Tryd.prog [("amphora/sha.k", Rows.laid_amphora_sha_k)] ((World.doorLaid Tryd.prog 14 os).forCall (fun _ _ => 0) ⟨#[], args, []⟩).memory :=
  laidMetH_of_parts3 (fuel := 8) (laidMet_of_run' 8 (by kernel_rfl) (by kernel_rfl)) (by kernel_rfl) (by kernel_rfl)

set_option maxRecDepth 100000 in
theorem lifted (os : Os) (started : os.Started) (H : Type) (enc : TypeId × Value → H) :
    ReturnsInHanded {} Tryd.checked os 7 .any (fun w args => (Rows.manifestWalksSpec.pre enc Tryd.prog Tryd.f7 [] false w args ∧ laidMetH Tryd.prog [("amphora/sha.k", Rows.laid_amphora_sha_k)] w) ∧ sizedMet enc Tryd.prog Tryd.f7 (OpenSpec.ofChange Rows.manifestWalksSpec) false w args)
      (Rows.manifestWalksSpec.post enc Tryd.prog Tryd.f7 false true false false) := by
  refine returnsInHanded_of_change_and (C := Tryd.checked) (X := fun w _ => laidMetH Tryd.prog [("amphora/sha.k", Rows.laid_amphora_sha_k)] w) (fun _ _ _ hh h => h.of_heap hh) own started (by kernel_rfl) Tryd.func7
    (ChangeSpec.witness_shaped (enc := enc) (C := Tryd.checked) (os := os) (X := fun w _ => laidMetH Tryd.prog [("amphora/sha.k", Rows.laid_amphora_sha_k)] w) false (World.doorLaid Tryd.prog 14 os) #[.agg (Array.replicate 32 (.int .u8 0) ++ #[.slice none 0 0, .int .i64 0])] 8 rfl (World.shaped_of_RefB (by kernel_rfl) (by kernel_rfl)) (by kernel_rfl) (by kernel_rfl) (by kernel_rfl) (door_met os _)) ?_
  intro W base args ds gs before hval0 hW hcnd hsz hL _
  have hval : ∀ (j : Nat) t v, Tryd.f7.params[j]? = some t → args[j]? = some v → Value.okWide Tryd.prog W .any base t v := hval0
  have hK := kTab_of_laid (fun _ => MakeChecks.laidMetH_plain _ _ _ (by kernel_rfl)) hL
  have hW' := hW
  obtain ⟨p, q, hA0, hV, rfl, hfz, hnd⟩ := hW
  have hA : DataW.TrodAll enc Tryd.prog W 0 (fun _ => true) true Tryd.f7.params.toList args.toList ds p := hA0
  rw [Tryd.params7] at hA hval
  obtain ⟨v0, vs0, d0, ds0, p0, q0, hargs, rfl, rfl, h0, r0⟩ := trodAll_cons hA
  obtain ⟨rfl, rfl, rfl⟩ := trodAll_nil r0
  obtain rfl : args = #[v0] := by cases args; simp_all
  obtain ⟨rfl, rfl⟩ := trodVars_none hV
  have k0 := h0
  have lt0 : ∀ x ∈ p0, x.block < W.heap.size := by obtain ⟨m, hm⟩ := k0; exact DataW.trod_lt m _ _ _ hm
  obtain ⟨ms, ca, cn, cc, cx, cl, rfl, lm, hra, hz⟩ := openKase (hval 0 25 v0 rfl rfl) h0
  clear hA0 hval0
  refine (manifestWalks_walk ms ca cn cc cx cl W hK lm hra (hz _ _ 0 hsz (by kernel_rfl) rfl)).mono fun e W' ⟨he, chg⟩ => ?_
  subst he
  have bel := chg.below
  exact ⟨_, rfl, _, _, _, [], _, [], hW', trodAll_mk1 (shut_bool Tryd.underlying4 _), (trodAll_cons_mk (Below.trod laidOut (by kernel_rfl) (of_decide_eq_true (by kernel_rfl)) k0 bel lt0) trodAll_mk0), rfl, bel.frame _, fun h => (by cases h)⟩

theorem over : Rows.manifestWalksRow.holds Tryd.pinned (OpenSpec.ofChange Rows.manifestWalksSpec) :=
  OpenClaim.holds_of_wide 7 Tryd.f7 rfl rfl rfl rfl rfl rfl rfl ⟨rfl, rfl, rfl, rfl, rfl⟩ rfl rfl rfl rfl rfl (by kernel_rfl) Tryd.func7 (by kernel_rfl)
    (of_decide_eq_true (by kernel_rfl)) (by unfold Func.isWrapper; first | (rw [if_pos (by decide +kernel)]; kernel_rfl) | (rw [if_neg (by decide +kernel)]; exact ⟨rfl, rfl⟩))
    (fun os started H enc _ => lifted os started H enc)

/-- The card. -/
theorem card : Rows.ManifestWalksCardSaid :=
  Claim7.holds_tied_plain_at .later [] [.data] true (true, "e4455d904cacac463c2537ae87cb80b913aaef268b383272f4cc470cb53630e6") true
    over (fun _ h => by cases h) (by kernel_rfl) (fun _ h => by cases h) manifestWalks_row_tie rfl ⟨rfl, rfl⟩ (by kernel_rfl) rfl
    (fun f fn hf hfn => by
      obtain rfl : f = 7 := Option.some.inj ((show Tryd.prog.funcNamed "amphora/amphoralaw15.ManifestWalks" = some 7 by kernel_rfl).symm.trans hf) |>.symm
      obtain rfl : fn = Tryd.f7 := (Option.some.inj (Tryd.func7.symm.trans hfn)).symm
      exact ⟨by kernel_rfl, fun j t ht => by
        rw [Tryd.params7] at ht
        have hm : t ∈ [25] := by simpa using Array.mem_of_getElem? ht
        have hall : ([25].all fun u => !Tryd.prog.wantsStandIn u) = true := by kernel_rfl
        exact (show Tryd.prog.wantsStandIn t = false by simpa using List.all_eq_true.1 hall t hm)⟩)
    (by kernel_rfl)
end Go.Proofs.YtefnlbgkfingfaaDoor.manifestWalks
namespace Go.Proofs.YtefnlbgkfingfaaDoor
theorem manifestWalksProved : Rows.ManifestWalksCardSaid := manifestWalks.card
end Go.Proofs.YtefnlbgkfingfaaDoor
