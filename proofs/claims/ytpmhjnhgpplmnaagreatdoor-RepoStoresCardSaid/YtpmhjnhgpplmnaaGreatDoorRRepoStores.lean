/- The statement RepoStoresCardSaid, proved: a card, tied to the program's text (conditions: none of its own beside the card's; the walk: YtpmhjnhgpplmnaaGreatDoorRcD,RowCut,RowItoa,RowErr,ShaRow). -/
import Derived.Test.YtpmhjnhgpplmnaaGreatDoorRows
import Derived.Test.YtpmhjnhgpplmnaaGreatDoorCards
import Derived.Test.YtpmhjnhgpplmnaaGreatDoorTie
import Derived.SevenTiedAt
import Derived.LaidMore
import Derived.LaidSub
import Derived.ProofKit
import Derived.Test.YtpmhjnhgpplmnaaGreatDoorU8
namespace Go.Proofs.YtpmhjnhgpplmnaaGreatDoor.repoStores
open Go Go.Proofs.YtpmhjnhgpplmnaaGreatDoor.Sx Go.ChangeShapes Go.WideShapes Go.ChangeAt Go.WideMaps Go.WideElems Go.RowKit

theorem own : ownKnob Tryz.prog.godebug = none := by kernel_rfl
theorem laidOut : laidOutB Tryz.prog = true := by kernel_rfl

/-- The door's own heap meets the condition. -/
theorem IM (os : Os) (args : Array Value) : laidMetH Tryz.prog [("math/bits.deBruijn32tab", Rows.laid_math_bits_deBruijn32tab), ("math/bits.deBruijn64tab", Rows.laid_math_bits_deBruijn64tab), ("internal/strconv.uint64pow10", Rows.laid_internal_strconv_uint64pow10), ("amphora/sha.k", Rows.laid_amphora_sha_k), ("strconv.ErrRange", Rows.laid_strconv_ErrRange), ("strconv.ErrSyntax", Rows.laid_strconv_ErrSyntax)] ((World.doorLaid Tryz.prog 67 os).forCall (fun _ _ => 0) ⟨#[], args, []⟩).memory :=
  laidMetH_of_parts3 (fuel := 8) (laidMet_of_run' 8 (by kernel_rfl) (by kernel_rfl)) (by kernel_rfl) (by kernel_rfl)

set_option maxRecDepth 100000 in
theorem lifted (os : Os) (started : os.Started) (H : Type) (enc : TypeId × Value → H) :
    ReturnsInHanded {} Tryz.checked os 8 .any (fun w args => (Rows.repoStoresSpec.pre enc Tryz.prog Tryz.f8 [] false w args ∧ laidMetH Tryz.prog [("math/bits.deBruijn32tab", Rows.laid_math_bits_deBruijn32tab), ("math/bits.deBruijn64tab", Rows.laid_math_bits_deBruijn64tab), ("internal/strconv.uint64pow10", Rows.laid_internal_strconv_uint64pow10), ("amphora/sha.k", Rows.laid_amphora_sha_k), ("strconv.ErrRange", Rows.laid_strconv_ErrRange), ("strconv.ErrSyntax", Rows.laid_strconv_ErrSyntax)] w) ∧ sizedMet enc Tryz.prog Tryz.f8 (OpenSpec.ofChange Rows.repoStoresSpec) false w args)
      (Rows.repoStoresSpec.post enc Tryz.prog Tryz.f8 false true false false) := by
  refine returnsInHanded_of_change_and (C := Tryz.checked) (X := fun w _ => laidMetH Tryz.prog [("math/bits.deBruijn32tab", Rows.laid_math_bits_deBruijn32tab), ("math/bits.deBruijn64tab", Rows.laid_math_bits_deBruijn64tab), ("internal/strconv.uint64pow10", Rows.laid_internal_strconv_uint64pow10), ("amphora/sha.k", Rows.laid_amphora_sha_k), ("strconv.ErrRange", Rows.laid_strconv_ErrRange), ("strconv.ErrSyntax", Rows.laid_strconv_ErrSyntax)] w) (fun _ _ _ hh h => h.of_heap hh) own started (by kernel_rfl) Tryz.func8
    (ChangeSpec.witness_shaped (enc := enc) (C := Tryz.checked) (os := os) (X := fun w _ => laidMetH Tryz.prog [("math/bits.deBruijn32tab", Rows.laid_math_bits_deBruijn32tab), ("math/bits.deBruijn64tab", Rows.laid_math_bits_deBruijn64tab), ("internal/strconv.uint64pow10", Rows.laid_internal_strconv_uint64pow10), ("amphora/sha.k", Rows.laid_amphora_sha_k), ("strconv.ErrRange", Rows.laid_strconv_ErrRange), ("strconv.ErrSyntax", Rows.laid_strconv_ErrSyntax)] w) false (World.doorLaid Tryz.prog 67 os) #[.agg #[.slice none 0 0, .slice none 0 0, .slice none 0 0, .int .i64 0, .slice none 0 0, .int .i64 0, .slice none 0 0, .slice none 0 0]] 8 rfl (World.shaped_of_RefB (by kernel_rfl) (by kernel_rfl)) (by kernel_rfl) (by kernel_rfl) (by kernel_rfl) (IM os _)) ?_
  intro W base args ds gs before hval0 hW hcnd hsz hL _
  have hval : ∀ (j : Nat) t v, Tryz.f8.params[j]? = some t → args[j]? = some v → Value.okWide Tryz.prog W .any base t v := hval0
  have hK : cI W := BX (rest := []) (fun _ => MakeChecks.laidMetH_plain _ _ _ (by kernel_rfl)) (Eq.mp (by kernel_rfl) (laidMetH.filter (fun e => e.1 == "amphora/sha.k") hL) : laidMetH Tryz.prog [("amphora/sha.k", Rows.laid_amphora_sha_k)] W)
  have hT : iE W := BF (rest := []) (fun _ => MakeChecks.laidMetH_plain _ _ _ (by kernel_rfl)) (Eq.mp (by kernel_rfl) (laidMetH.filter (fun e => e.1 == "internal/strconv.uint64pow10") hL) : laidMetH Tryz.prog [("internal/strconv.uint64pow10", Rows.laid_internal_strconv_uint64pow10)] W)
  have hE : ql W := AU (Eq.mp (by kernel_rfl) (laidMetH.filter (fun e => e.1 == "strconv.ErrSyntax") hL) : laidMetH Tryz.prog [("strconv.ErrSyntax", Rows.laid_strconv_ErrSyntax)] W) (Eq.mp (by kernel_rfl) (laidMetH.filter (fun e => e.1 == "strconv.ErrRange") hL) : laidMetH Tryz.prog [("strconv.ErrRange", Rows.laid_strconv_ErrRange)] W)
  have hW' := hW
  obtain ⟨p, q, hA0, hV, rfl, hfz, hnd⟩ := hW
  have hA : DataW.TrodAll enc Tryz.prog W 0 (fun _ => true) true Tryz.f8.params.toList args.toList ds p := hA0
  rw [Tryz.params8] at hA hval
  obtain ⟨v0, vs0, d0, ds0, p0, q0, hargs, rfl, rfl, h0, r0⟩ := trodAll_cons hA
  obtain ⟨rfl, rfl, rfl⟩ := trodAll_nil r0
  obtain rfl : args = #[v0] := by cases args; simp_all
  obtain ⟨rfl, rfl⟩ := trodVars_none hV
  have k0 := h0
  have lt0 : ∀ x ∈ p0, x.block < W.heap.size := by obtain ⟨m, hm⟩ := k0; exact DataW.trod_lt m _ _ _ hm
  obtain ⟨x0, rfl, hx0⟩ := Lt (hval 0 106 v0 rfl rfl) h0
  clear hA0 hval0
  refine (vX x0 W hK hT hE hx0).mono fun e W' ⟨he, chg⟩ => ?_
  subst he
  have bel := chg.below
  exact ⟨_, rfl, _, _, _, [], _, [], hW', trodAll_mk1 (shut_bool Tryz.underlying4 _), (trodAll_cons_mk (Below.trod laidOut (by kernel_rfl) (of_decide_eq_true (by kernel_rfl)) k0 bel lt0) trodAll_mk0), rfl, bel.frame _, fun h => (by cases h)⟩

theorem bV {a b : Bool} (h : a = true) (k : b = true) : (a && b) = true := by rw [h, k]; rfl
theorem jf0 : (Rows.repoStoresRow.wf (OpenSpec.ofChange Rows.repoStoresSpec)) = true := by kernel_rfl
theorem jf1 : (laidOutB Tryz.prog) = true := by kernel_rfl
theorem jf2 : (mapsRowed Tryz.prog) = true := by kernel_rfl
theorem jf3 : (Tryz.f8.params.all (Tryz.prog.readableRec ·)) = true := by kernel_rfl
theorem jf4 : (namedTie Tryz.prog Rows.repoStoresRow.named Rows.repoStoresSpec.vars) = true := by kernel_rfl
theorem jf5 : ((Rows.repoStoresRow.stops == [])) = true := by kernel_rfl
theorem jf6 : ((Tryz.prog.stops == [])) = true := by kernel_rfl
theorem jf7 : ((Rows.repoStoresRow.knobs == [])) = true := by kernel_rfl
theorem jf8 : ((Tryz.prog.stopKnobs == [])) = true := by kernel_rfl
theorem jf9 : ((Rows.repoStoresRow.inPlace == Tryz.prog.inPlace 8)) = true := by kernel_rfl
theorem O2 : ((Rows.repoStoresRow.unfollowed == Tryz.prog.unfollowed 8)) = true := by kernel_rfl
theorem O7 : ((Rows.repoStoresRow.recurses == Tryz.prog.recurses 8)) = true := by kernel_rfl
theorem O1 : ((Rows.repoStoresRow.named == Tryz.prog.varsNamed 8)) = true := by kernel_rfl
theorem OL : ((Rows.repoStoresRow.maps == (Tryz.f8.params.toList ++ Rows.repoStoresSpec.plain.varTypes Tryz.prog).any (Tryz.prog.mapsRec ·))) = true := by kernel_rfl
theorem OU : ((Rows.repoStoresRow.ifaces == (Tryz.f8.params.toList ++ Rows.repoStoresSpec.plain.varTypes Tryz.prog).any (Tryz.prog.ifacesRec ·))) = true := by kernel_rfl
theorem Oj : ((Rows.repoStoresRow.mapsOut == Tryz.prog.mapsAmong Tryz.f8.resultTypes.toList)) = true := by kernel_rfl
theorem Om : ((Rows.repoStoresRow.loops == (Tryz.f8.params.toList ++ Rows.repoStoresSpec.plain.varTypes Tryz.prog).any (Tryz.prog.loopsFrom ·))) = true := by kernel_rfl
theorem Oe : ((Rows.repoStoresRow.wideKeys == (Tryz.f8.params.toList ++ Rows.repoStoresSpec.plain.varTypes Tryz.prog ++ Tryz.f8.resultTypes.toList).any (Tryz.prog.wideKeysFrom ·))) = true := by kernel_rfl
theorem OQ : (Rows.repoStoresSpec.vars.all (Tryz.prog.varReadable ·)) = true := by kernel_rfl
theorem On : (Tryz.f8.resultTypes.all (fun t => Tryz.prog.readableRec t && decide (t < Tryz.prog.types.size))) = true := by kernel_rfl
theorem Oo : ((Rows.repoStoresRow.ifacesOut == Tryz.f8.resultTypes.toList.any (Tryz.prog.ifacesRec ·))) = true := by kernel_rfl
theorem OO : ((Rows.repoStoresRow.loopsOut == Tryz.f8.resultTypes.toList.any (Tryz.prog.loopsFrom ·))) = true := by kernel_rfl
theorem OT : ((Rows.repoStoresRow.plainKeys == Tryz.prog.plainKeys)) = true := by kernel_rfl
theorem Ot : (Rows.repoStoresRow.shortTexts.isNone) = true := by kernel_rfl
theorem O6 : (Tryz.prog.stopsHeard) = true := by kernel_rfl
theorem OJ : (Tryz.prog.mayEnter) = true := by kernel_rfl
theorem OI : ((Rows.repoStoresRow.lifted == Tryz.prog.liftsFinal)) = true := by kernel_rfl
theorem O3 : ((Tryz.prog.make == some Rows.repoStoresRow.make)) = true := by kernel_rfl
theorem OY : ((Rows.repoStoresRow.kinds == (if Rows.repoStoresRow.domain.isEmpty then [] else Tryz.f8.params.toList.map fun t => match Tryz.prog.underlying t with | some (.int k) => some k | _ => none))) = true := by kernel_rfl
theorem O0 : ((Rows.repoStoresRow.pinned == Rows.repoStoresRow.pinnedBy)) = true := by kernel_rfl
theorem OH : ((Rows.repoStoresRow.veiled == (Tryz.f8.params.toList ++ Rows.repoStoresSpec.plain.varTypes Tryz.prog ++ Tryz.f8.resultTypes.toList).any (Tryz.prog.veiledRec ·))) = true := by kernel_rfl
theorem Og : (Rows.repoStoresRow.veiledFits Tryz.prog Tryz.f8.params.toList (Tryz.f8.params.toList ++ Rows.repoStoresSpec.plain.varTypes Tryz.prog ++ Tryz.f8.resultTypes.toList)) = true := by kernel_rfl
set_option maxRecDepth 100000 in
theorem closed : joinedFacts Tryz.prog 8 Tryz.f8 Rows.repoStoresSpec Rows.repoStoresRow = true := (bV (bV (bV (bV (bV (bV (bV (bV (bV (bV (bV (bV (bV (bV (bV (bV (bV (bV (bV (bV (bV (bV (bV (bV (bV (bV (bV (bV (bV (bV (bV jf0 jf1) jf2) jf3) jf4) jf5) jf6) jf7) jf8) jf9) O2) O7) O1) OL) OU) Oj) Om) Oe) OQ) On) Oo) OO) OT) Ot) O6) OJ) OI) O3) OY) O0) OH) Og)
theorem over : Rows.repoStoresRow.holds Tryz.pinned (OpenSpec.ofChange Rows.repoStoresSpec) :=
  OpenClaim.holds_of_wide 8 Tryz.f8 rfl rfl rfl rfl rfl rfl rfl ⟨rfl, rfl, rfl, rfl, rfl⟩ rfl rfl rfl rfl rfl (by kernel_rfl) Tryz.func8 closed
    (of_decide_eq_true (by kernel_rfl)) (by unfold Func.isWrapper; first | (rw [if_pos (by decide +kernel)]; kernel_rfl) | (rw [if_neg (by decide +kernel)]; exact ⟨rfl, rfl⟩))
    (fun os started H enc _ => lifted os started H enc)

theorem cf1 : Rows.repoStoresRow.wfByText (OpenSpec.ofChange Rows.repoStoresSpec) = true := by kernel_rfl
theorem cf2 : Tryz.prog.mainIs = some (true, "14bf6e51caa61d7352e71dbf4262201fa290bd05a248db6f663f0538488572c5".toList) := by kernel_rfl
theorem cf3 : true = Tryz.prog.looks [] := by kernel_rfl
theorem cf4 : false = Rows.repoStoresRow.goesBy Tryz.prog := by kernel_rfl
theorem cf5 : ([106].all fun u => !Tryz.prog.wantsStandIn u) = true := by kernel_rfl
theorem cf6 : Tryz.prog.funcNamed "amphora/amphoralaw17.RepoStores" = some 8 := by kernel_rfl
/-- The card. -/
theorem card : Rows.RepoStoresCardSaid :=
  Claim7.holds_tied_plain_at .later [] [.data, .data, .data, .data, .sentinel, .sentinel] true (true, "14bf6e51caa61d7352e71dbf4262201fa290bd05a248db6f663f0538488572c5") true
    over (fun _ h => by cases h) cf1 (fun _ h => by cases h) repoStores_row_tie rfl ⟨rfl, rfl⟩ cf2 rfl
    (fun f fn hf hfn => by
      obtain rfl : f = 8 := Option.some.inj (cf6.symm.trans hf) |>.symm
      obtain rfl : fn = Tryz.f8 := (Option.some.inj (Tryz.func8.symm.trans hfn)).symm
      exact ⟨cf3, fun j t ht => by
        rw [Tryz.params8] at ht
        have hm : t ∈ [106] := by simpa using Array.mem_of_getElem? ht
        have hall : ([106].all fun u => !Tryz.prog.wantsStandIn u) = true := cf5
        exact (show Tryz.prog.wantsStandIn t = false by simpa using List.all_eq_true.1 hall t hm)⟩)
    cf4
end Go.Proofs.YtpmhjnhgpplmnaaGreatDoor.repoStores
namespace Go.Proofs.YtpmhjnhgpplmnaaGreatDoor
theorem repoStoresProved : Rows.RepoStoresCardSaid := repoStores.card
end Go.Proofs.YtpmhjnhgpplmnaaGreatDoor
