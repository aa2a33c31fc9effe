/- The statement RepoNoneCardSaid, proved: a card, tied to the program's text (conditions: none of its own beside the card's; the walk: YtpmhjnhgpplmnaaGreatDoorRepY,RowItoa,RowErr,ShaRow,RowSet). -/
import Derived.Test.YtpmhjnhgpplmnaaGreatDoorRows
import Derived.Test.YtpmhjnhgpplmnaaGreatDoorCards
import Derived.Test.YtpmhjnhgpplmnaaGreatDoorTie
import Derived.SevenTiedAt
import Derived.LaidMore
import Derived.LaidSub
import Derived.ProofKit
import Derived.Test.YtpmhjnhgpplmnaaGreatDoorS8
namespace Go.Proofs.YtpmhjnhgpplmnaaGreatDoor.repoNone
open Go Go.Proofs.YtpmhjnhgpplmnaaGreatDoor.Sx Go.ChangeShapes Go.WideShapes Go.ChangeAt Go.WideMaps Go.WideElems Go.RowKit

theorem own : ownKnob Tryz.prog.godebug = none := by kernel_rfl
theorem laidOut : laidOutB Tryz.prog = true := by kernel_rfl

/-- The door's own heap meets the condition. -/
theorem JM (os : Os) (args : Array Value) : laidMetH Tryz.prog [("math/bits.deBruijn32tab", Rows.laid_math_bits_deBruijn32tab), ("math/bits.deBruijn64tab", Rows.laid_math_bits_deBruijn64tab), ("internal/strconv.uint64pow10", Rows.laid_internal_strconv_uint64pow10), ("amphora/sha.k", Rows.laid_amphora_sha_k), ("strconv.ErrRange", Rows.laid_strconv_ErrRange), ("strconv.ErrSyntax", Rows.laid_strconv_ErrSyntax)] ((World.doorLaid Tryz.prog 67 os).forCall (fun _ _ => 0) ⟨#[], args, []⟩).memory :=
  laidMetH_of_parts3 (fuel := 8) (laidMet_of_run' 8 (by kernel_rfl) (by kernel_rfl)) (by kernel_rfl) (by kernel_rfl)

set_option maxRecDepth 100000 in
theorem lifted (os : Os) (started : os.Started) (H : Type) (enc : TypeId × Value → H) :
    ReturnsInHanded {} Tryz.checked os 9 .any (fun w args => (Rows.repoNoneSpec.pre enc Tryz.prog Tryz.f9 [] false w args ∧ laidMetH Tryz.prog [("math/bits.deBruijn32tab", Rows.laid_math_bits_deBruijn32tab), ("math/bits.deBruijn64tab", Rows.laid_math_bits_deBruijn64tab), ("internal/strconv.uint64pow10", Rows.laid_internal_strconv_uint64pow10), ("amphora/sha.k", Rows.laid_amphora_sha_k), ("strconv.ErrRange", Rows.laid_strconv_ErrRange), ("strconv.ErrSyntax", Rows.laid_strconv_ErrSyntax)] w) ∧ sizedMet enc Tryz.prog Tryz.f9 (OpenSpec.ofChange Rows.repoNoneSpec) false w args)
      (Rows.repoNoneSpec.post enc Tryz.prog Tryz.f9 false true false false) := by
  refine returnsInHanded_of_change_and (C := Tryz.checked) (X := fun w _ => laidMetH Tryz.prog [("math/bits.deBruijn32tab", Rows.laid_math_bits_deBruijn32tab), ("math/bits.deBruijn64tab", Rows.laid_math_bits_deBruijn64tab), ("internal/strconv.uint64pow10", Rows.laid_internal_strconv_uint64pow10), ("amphora/sha.k", Rows.laid_amphora_sha_k), ("strconv.ErrRange", Rows.laid_strconv_ErrRange), ("strconv.ErrSyntax", Rows.laid_strconv_ErrSyntax)] w) (fun _ _ _ hh h => h.of_heap hh) own started (by kernel_rfl) Tryz.func9
    (ChangeSpec.witness_shaped (enc := enc) (C := Tryz.checked) (os := os) (X := fun w _ => laidMetH Tryz.prog [("math/bits.deBruijn32tab", Rows.laid_math_bits_deBruijn32tab), ("math/bits.deBruijn64tab", Rows.laid_math_bits_deBruijn64tab), ("internal/strconv.uint64pow10", Rows.laid_internal_strconv_uint64pow10), ("amphora/sha.k", Rows.laid_amphora_sha_k), ("strconv.ErrRange", Rows.laid_strconv_ErrRange), ("strconv.ErrSyntax", Rows.laid_strconv_ErrSyntax)] w) false (World.doorLaid Tryz.prog 67 os) #[.string ByteArray.empty, .slice none 0 0, .agg #[.int .u64 0, .int .i64 0, .int .i64 0, .int .i64 0, .int .i64 0]] 8 rfl (World.shaped_of_RefB (by kernel_rfl) (by kernel_rfl)) (by kernel_rfl) (by kernel_rfl) (by kernel_rfl) (JM os _)) ?_
  intro W base args ds gs before hval0 hW hcnd hsz hL _
  have hval : ∀ (j : Nat) t v, Tryz.f9.params[j]? = some t → args[j]? = some v → Value.okWide Tryz.prog W .any base t v := hval0
  have hK : cR W := A9 (rest := []) (fun _ => MakeChecks.laidMetH_plain _ _ _ (by kernel_rfl)) (Eq.mp (by kernel_rfl) (laidMetH.filter (fun e => e.1 == "amphora/sha.k") hL) : laidMetH Tryz.prog [("amphora/sha.k", Rows.laid_amphora_sha_k)] W)
  have hT : jr W := A4 (rest := []) (fun _ => MakeChecks.laidMetH_plain _ _ _ (by kernel_rfl)) (Eq.mp (by kernel_rfl) (laidMetH.filter (fun e => e.1 == "internal/strconv.uint64pow10") hL) : laidMetH Tryz.prog [("internal/strconv.uint64pow10", Rows.laid_internal_strconv_uint64pow10)] W)
  have hE : rV W := BW (Eq.mp (by kernel_rfl) (laidMetH.filter (fun e => e.1 == "strconv.ErrSyntax") hL) : laidMetH Tryz.prog [("strconv.ErrSyntax", Rows.laid_strconv_ErrSyntax)] W) (Eq.mp (by kernel_rfl) (laidMetH.filter (fun e => e.1 == "strconv.ErrRange") hL) : laidMetH Tryz.prog [("strconv.ErrRange", Rows.laid_strconv_ErrRange)] W)
  have hW' := hW
  obtain ⟨p, q, hA0, hV, rfl, hfz, hnd⟩ := hW
  have hA : DataW.TrodAll enc Tryz.prog W 0 (fun _ => true) true Tryz.f9.params.toList args.toList ds p := hA0
  rw [Tryz.params9] at hA hval
  obtain ⟨v0, vs0, d0, ds0, p0, q0, hargs, rfl, rfl, h0, r0⟩ := trodAll_cons hA
  obtain ⟨v1, vs1, d1, ds1, p1, q1, rfl, rfl, rfl, h1, r1⟩ := trodAll_cons r0
  obtain ⟨v2, vs2, d2, ds2, p2, q2, rfl, rfl, rfl, h2, r2⟩ := trodAll_cons r1
  obtain ⟨rfl, rfl, rfl⟩ := trodAll_nil r2
  obtain rfl : args = #[v0, v1, v2] := by cases args; simp_all
  obtain ⟨rfl, rfl⟩ := trodVars_none hV
  have k0 := h0
  have lt0 : ∀ x ∈ p0, x.block < W.heap.size := by obtain ⟨m, hm⟩ := k0; exact DataW.trod_lt m _ _ _ hm
  obtain ⟨s0, rfl, rfl, rfl, hs0⟩ := Go.ChangeMaps.open_string Tryz.underlying9 (hval 0 9 v0 rfl rfl) h0
  have k1 := h1
  have lt1 : ∀ x ∈ p1, x.block < W.heap.size := by obtain ⟨m, hm⟩ := k1; exact DataW.trod_lt m _ _ _ hm
  obtain ⟨a1, n1, c1, l1, rfl, rd1, sz1⟩ := Oi (hval 1 26 v1 rfl rfl) h1
  have bd1 := sizedB hsz (j := 1) (t := 26) (by kernel_rfl) rfl bS (by kernel_rfl) sz1 rd1.le
  have k2 := h2
  have lt2 : ∀ x ∈ p2, x.block < W.heap.size := by obtain ⟨m, hm⟩ := k2; exact DataW.trod_lt m _ _ _ hm
  obtain ⟨ss, rfl, hp⟩ := Lq (hval 2 44 v2 rfl rfl) h2
  clear hA0 hval0
  refine (zl s0 a1 n1 c1 l1 ss W hK hT hE hp rd1).mono fun e W' ⟨he, chg⟩ => ?_
  subst he
  have bel := chg.below
  exact ⟨_, rfl, _, _, _, [], _, [], hW', trodAll_mk1 (shut_bool Tryz.underlying4 _), (trodAll_cons_mk (Below.trod laidOut (by kernel_rfl) (of_decide_eq_true (by kernel_rfl)) k0 bel lt0) (trodAll_cons_mk (Below.trod laidOut (by kernel_rfl) (of_decide_eq_true (by kernel_rfl)) k1 bel lt1) (trodAll_cons_mk (Below.trod laidOut (by kernel_rfl) (of_decide_eq_true (by kernel_rfl)) k2 bel lt2) trodAll_mk0))), rfl, bel.frame _, fun h => (by cases h)⟩

theorem bY {a b : Bool} (h : a = true) (k : b = true) : (a && b) = true := by rw [h, k]; rfl
theorem jf0 : (Rows.repoNoneRow.wf (OpenSpec.ofChange Rows.repoNoneSpec)) = true := by kernel_rfl
theorem jf1 : (laidOutB Tryz.prog) = true := by kernel_rfl
theorem jf2 : (mapsRowed Tryz.prog) = true := by kernel_rfl
theorem jf3 : (Tryz.f9.params.all (Tryz.prog.readableRec ·)) = true := by kernel_rfl
theorem jf4 : (namedTie Tryz.prog Rows.repoNoneRow.named Rows.repoNoneSpec.vars) = true := by kernel_rfl
theorem jf5 : ((Rows.repoNoneRow.stops == [])) = true := by kernel_rfl
theorem jf6 : ((Tryz.prog.stops == [])) = true := by kernel_rfl
theorem jf7 : ((Rows.repoNoneRow.knobs == [])) = true := by kernel_rfl
theorem jf8 : ((Tryz.prog.stopKnobs == [])) = true := by kernel_rfl
theorem jf9 : ((Rows.repoNoneRow.inPlace == Tryz.prog.inPlace 9)) = true := by kernel_rfl
theorem ON : ((Rows.repoNoneRow.unfollowed == Tryz.prog.unfollowed 9)) = true := by kernel_rfl
theorem OG : ((Rows.repoNoneRow.recurses == Tryz.prog.recurses 9)) = true := by kernel_rfl
theorem OT : ((Rows.repoNoneRow.named == Tryz.prog.varsNamed 9)) = true := by kernel_rfl
theorem Pu : ((Rows.repoNoneRow.maps == (Tryz.f9.params.toList ++ Rows.repoNoneSpec.plain.varTypes Tryz.prog).any (Tryz.prog.mapsRec ·))) = true := by kernel_rfl
theorem O5 : ((Rows.repoNoneRow.ifaces == (Tryz.f9.params.toList ++ Rows.repoNoneSpec.plain.varTypes Tryz.prog).any (Tryz.prog.ifacesRec ·))) = true := by kernel_rfl
theorem Pd : ((Rows.repoNoneRow.mapsOut == Tryz.prog.mapsAmong Tryz.f9.resultTypes.toList)) = true := by kernel_rfl
theorem Pg : ((Rows.repoNoneRow.loops == (Tryz.f9.params.toList ++ Rows.repoNoneSpec.plain.varTypes Tryz.prog).any (Tryz.prog.loopsFrom ·))) = true := by kernel_rfl
theorem O7 : ((Rows.repoNoneRow.wideKeys == (Tryz.f9.params.toList ++ Rows.repoNoneSpec.plain.varTypes Tryz.prog ++ Tryz.f9.resultTypes.toList).any (Tryz.prog.wideKeysFrom ·))) = true := by kernel_rfl
theorem OW : (Rows.repoNoneSpec.vars.all (Tryz.prog.varReadable ·)) = true := by kernel_rfl
theorem Pf : (Tryz.f9.resultTypes.all (fun t => Tryz.prog.readableRec t && decide (t < Tryz.prog.types.size))) = true := by kernel_rfl
theorem Px : ((Rows.repoNoneRow.ifacesOut == Tryz.f9.resultTypes.toList.any (Tryz.prog.ifacesRec ·))) = true := by kernel_rfl
theorem Pk : ((Rows.repoNoneRow.loopsOut == Tryz.f9.resultTypes.toList.any (Tryz.prog.loopsFrom ·))) = true := by kernel_rfl
theorem O4 : ((Rows.repoNoneRow.plainKeys == Tryz.prog.plainKeys)) = true := by kernel_rfl
theorem OC : (Rows.repoNoneRow.shortTexts.isNone) = true := by kernel_rfl
theorem O2 : (Tryz.prog.stopsHeard) = true := by kernel_rfl
theorem OJ : (Tryz.prog.mayEnter) = true := by kernel_rfl
theorem O3 : ((Rows.repoNoneRow.lifted == Tryz.prog.liftsFinal)) = true := by kernel_rfl
theorem OE : ((Tryz.prog.make == some Rows.repoNoneRow.make)) = true := by kernel_rfl
theorem Pe : ((Rows.repoNoneRow.kinds == (if Rows.repoNoneRow.domain.isEmpty then [] else Tryz.f9.params.toList.map fun t => match Tryz.prog.underlying t with | some (.int k) => some k | _ => none))) = true := by kernel_rfl
theorem OV : ((Rows.repoNoneRow.pinned == Rows.repoNoneRow.pinnedBy)) = true := by kernel_rfl
theorem OS : ((Rows.repoNoneRow.veiled == (Tryz.f9.params.toList ++ Rows.repoNoneSpec.plain.varTypes Tryz.prog ++ Tryz.f9.resultTypes.toList).any (Tryz.prog.veiledRec ·))) = true := by kernel_rfl
theorem O8 : (Rows.repoNoneRow.veiledFits Tryz.prog Tryz.f9.params.toList (Tryz.f9.params.toList ++ Rows.repoNoneSpec.plain.varTypes Tryz.prog ++ Tryz.f9.resultTypes.toList)) = true := by kernel_rfl
set_option maxRecDepth 100000 in
theorem closed : joinedFacts Tryz.prog 9 Tryz.f9 Rows.repoNoneSpec Rows.repoNoneRow = true := (bY (bY (bY (bY (bY (bY (bY (bY (bY (bY (bY (bY (bY (bY (bY (bY (bY (bY (bY (bY (bY (bY (bY (bY (bY (bY (bY (bY (bY (bY (bY jf0 jf1) jf2) jf3) jf4) jf5) jf6) jf7) jf8) jf9) ON) OG) OT) Pu) O5) Pd) Pg) O7) OW) Pf) Px) Pk) O4) OC) O2) OJ) O3) OE) Pe) OV) OS) O8)
theorem over : Rows.repoNoneRow.holds Tryz.pinned (OpenSpec.ofChange Rows.repoNoneSpec) :=
  OpenClaim.holds_of_wide 9 Tryz.f9 rfl rfl rfl rfl rfl rfl rfl ⟨rfl, rfl, rfl, rfl, rfl⟩ rfl rfl rfl rfl rfl (by kernel_rfl) Tryz.func9 closed
    (of_decide_eq_true (by kernel_rfl)) (by unfold Func.isWrapper; first | (rw [if_pos (by decide +kernel)]; kernel_rfl) | (rw [if_neg (by decide +kernel)]; exact ⟨rfl, rfl⟩))
    (fun os started H enc _ => lifted os started H enc)

theorem cf1 : Rows.repoNoneRow.wfByText (OpenSpec.ofChange Rows.repoNoneSpec) = true := by kernel_rfl
theorem cf2 : Tryz.prog.mainIs = some (true, "14bf6e51caa61d7352e71dbf4262201fa290bd05a248db6f663f0538488572c5".toList) := by kernel_rfl
theorem cf3 : true = Tryz.prog.looks [] := by kernel_rfl
theorem cf4 : false = Rows.repoNoneRow.goesBy Tryz.prog := by kernel_rfl
theorem cf5 : ([9, 26, 44].all fun u => !Tryz.prog.wantsStandIn u) = true := by kernel_rfl
theorem cf6 : Tryz.prog.funcNamed "amphora/amphoralaw17.RepoNone" = some 9 := by kernel_rfl
/-- The card. -/
theorem card : Rows.RepoNoneCardSaid :=
  Claim7.holds_tied_plain_at .later [] [.data, .data, .data, .data, .sentinel, .sentinel] true (true, "14bf6e51caa61d7352e71dbf4262201fa290bd05a248db6f663f0538488572c5") true
    over (fun _ h => by cases h) cf1 (fun _ h => by cases h) repoNone_row_tie rfl ⟨rfl, rfl⟩ cf2 rfl
    (fun f fn hf hfn => by
      obtain rfl : f = 9 := Option.some.inj (cf6.symm.trans hf) |>.symm
      obtain rfl : fn = Tryz.f9 := (Option.some.inj (Tryz.func9.symm.trans hfn)).symm
      exact ⟨cf3, fun j t ht => by
        rw [Tryz.params9] at ht
        have hm : t ∈ [9, 26, 44] := by simpa using Array.mem_of_getElem? ht
        have hall : ([9, 26, 44].all fun u => !Tryz.prog.wantsStandIn u) = true := cf5
        exact (show Tryz.prog.wantsStandIn t = false by simpa using List.all_eq_true.1 hall t hm)⟩)
    cf4
end Go.Proofs.YtpmhjnhgpplmnaaGreatDoor.repoNone
namespace Go.Proofs.YtpmhjnhgpplmnaaGreatDoor
theorem repoNoneProved : Rows.RepoNoneCardSaid := repoNone.card
end Go.Proofs.YtpmhjnhgpplmnaaGreatDoor
