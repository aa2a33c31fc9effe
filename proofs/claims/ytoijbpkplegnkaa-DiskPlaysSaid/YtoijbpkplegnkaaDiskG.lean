/- A disk in memory: Remove, settle (conditions: those that each theorem names). -/
import Derived.Test.YtoijbpkplegnkaaDiskE
namespace Go.Proofs.Ytoijbpkplegnkaa
open Go Sx
set_option maxRecDepth 8000

section
variable {w0 w w' : World} {X : List Nat} {N N' : List Res} {gd : Nat} {ps : List Nat} {m : DiskM}

set_option maxHeartbeats 1000000 in
theorem remove_spec (a : Nm) (h : DiskIn w0 X w gd ps m N) (hb : m.steps < 4611686018427387904) (hc : m.chs.length < 1000000000) :
    Calls Try.prog 34 #[.pointer (some ⟨gd, 0, none⟩), strV a] w fun e w' => e = .returned (errV (removeM m a).2) ∧ DiskIn w0 X w' gd ps (removeM m a).1 N := by
  obtain ⟨mI, hI⟩ := eI
  apply disk_Disk_Remove_vc
  refine (found_spec a h).mono ?_
  rintro e w3 ⟨rfl, c3⟩
  have hD3 := h.same c3
  refine ⟨_, _, rfl, _, neqS_nil hI _ _ _, fun hne => ?_, fun hok => ?_⟩
  · obtain ⟨e, he⟩ := Option.isSome_iff_exists.1 hne
    have : removeM m a = (m, some e) := by simp only [removeM, he]
    rw [this, he]
    exact ⟨rfl, hD3⟩
  have hfn : foundE m a = none := by simpa using hok
  have hap : removeM m a = stepsM m fun m => doCh m ⟨none, a, []⟩ := by simp only [removeM, hfn]
  refine (step_spec hD3 hb).mono ?_
  rintro e w4 ⟨rfl, hD4⟩
  refine ⟨_, rfl, _, neqS_nil hI _ _ _, fun hne => ?_, fun hok => ?_⟩
  · obtain ⟨e, he⟩ := Option.isSome_iff_exists.1 hne
    rw [hap]
    unfold stepsM
    rw [he]
    exact ⟨rfl, hD4⟩
  have hst : (stepM m).2 = none := by simpa using hok
  have hres : removeM m a = (doCh (stepM m).1 ⟨none, a, []⟩, none) := by rw [hap]; unfold stepsM; rw [hst]
  rw [hres]
  obtain ⟨m1, hm1⟩ : ∃ m1, (stepM m).1 = m1 := ⟨_, rfl⟩
  obtain ⟨e1, e2, e3, e4, _⟩ := stepM_same m
  rw [hm1] at hD4 e1 e2 e3 e4 ⊢
  obtain ⟨p, hps, hp, hS⟩ := hD4
  obtain ⟨c, hcd⟩ : ∃ c : ChM, (⟨none, a, []⟩ : ChM) = c := ⟨_, rfl⟩
  have hcm : c.made = none := by rw [← hcd]
  have hcv : (chC p.ps c) = [.pointer none, strV a, strV []] := by rw [← hcd]; rfl
  obtain ⟨g11, w5, w6, r5, r6, h6⟩ := hS.varA (v := chC p.ps c) chZ chSz rfl (chC_len _ _) (chC_one _ _)
  rw [hcv] at r6
  refine ⟨_, ch_build1 a w4, g11, w5, r5, w6, r6, fun w' => ∃ Y, St w0 X w' ((.arr gd 82 (dskL m1 p) :: Y) ++ [.arr g11 89 (chC p.ps c)]), ⟨_, h6.drew⟩, .map (some p.gn), ?_, (chC p.ps c).toArray, ?_, (make_spec (i := 1) h6.drew rfl hp.mapn hp.isn c).mono ?_⟩
  · rintro w' ⟨Y, hY⟩
    exact hY.ldL (i := 0) (o := 6) rfl (dirA _) rfl rfl
  · rintro w' ⟨Y, hY⟩
    exact hY.ldA (l := chC p.ps c) getLast' (chAg _) (chSz _) (chC_len _ _)
  rintro e w7 ⟨rfl, es', ck', Mn', hE', hD', h7⟩
  have hp7 : ({ p with esn := es', ckn := ck', Mn := Mn' } : DP).ps = p.ps := rfl
  obtain ⟨q, hq⟩ : ∃ q, ({ p with esn := es', ckn := ck', Mn := Mn' } : DP) = q := ⟨_, rfl⟩
  have h7 : St w0 X w7 ((resD gd m1 q ++ DR q.FL N) ++ [.arr g11 89 (chC p.ps c)]) := by rw [← hq]; exact h7
  have hqps : q.ps = p.ps := by rw [← hq]; rfl
  have h7d := h7.drew
  obtain ⟨g8, w8, vb, vd, w9, r8, r9, h9, h8⟩ := h7d.pushA (i := 3) (ty := 80) chT rfl (chC p.ps c) (chC_len _ _) (by decide) (chC_one _ _) (by rw [e3]; omega) (by simp only [maxLen]; rw [e3]; omega)
  obtain ⟨w10, r10, h10⟩ := h9.stL (i := 0) (o := 8) (off := 8) (T := 80) (v := .slice vb (m1.chs.length + 1) vd) rfl (chsS _) rfl (by simp [dskL]) rfl
  have hlt : 3 < (resD gd m1 q ++ DR q.FL N).length := by simp only [resD, List.length_append, List.length_cons]; omega
  have h9' := h9
  rw [List.set_append_left _ _ hlt] at h9'
  refine ⟨rfl, fun w' => ∃ Y, St w0 X w' ((.arr gd 82 (dskL m1 p) :: Y) ++ [.arr g11 89 (chC p.ps c)]), fun _ h => h, ?_, fun w' => ∃ Y, St w0 X w' ((.arr gd 82 (dskL m1 q) :: Y) ++ [.arr g11 89 (chC p.ps c)]), ⟨_, h7d⟩, _, _, _, fun w' ⟨Y, hY⟩ => hY.ldL (i := 0) (o := 8) rfl (chsA _) rfl rfl, (chC p.ps c).toArray, fun w' ⟨Y, hY⟩ => hY.ldA (l := chC p.ps c) getLast' (chAg _) (chSz _) (chC_len _ _), _, _, _, w8, r8, fun w' => ∃ Y, St w0 X w' ((.arr gd 82 (dskL m1 q) :: Y) ++ [.arr g11 89 (chC p.ps c)]), fun _ h => h, ⟨_, h8⟩, vb, _, vd, w9, r9, fun w' => ∃ Y, St w0 X w' ((.arr gd 82 (dskL m1 q) :: Y) ++ [.arr g11 89 (chC p.ps c)]), fun _ h => h, ⟨_, h9'⟩, w10, r10, rfl, ?_⟩
  · rw [← hq] at h7
    exact ⟨_, h7⟩
  · have hok := hp.change c hcm (.inl (by rw [← hcd])) hE' hD' vb vd
    refine ⟨{ p with esn := es', ckn := ck', Mn := Mn', ca := vb, cc := vd }, hps, ?_, ?_⟩
    · rw [hcd]; exact hok
    · rw [hcd]
      have hX : St w0 X w10 ((((resD gd m1 q ++ DR q.FL N).set 3 (.row 89 3 (.slice vb (m1.chs.length + 1) vd) (m1.chs.length + 1) (m1.chs.flatMap (chC q.ps) ++ chC q.ps c))).set 0 (.arr gd 82 ((dskL m1 q).set 8 (.slice vb (m1.chs.length + 1) vd)))) ++ [.arr g11 89 (chC p.ps c)]) := by
        rw [hqps]
        rw [hqps] at h10
        exact h10
      have hY := St.noted (m := m1) (p := q) (c := c) (gd := gd) (N := N) (vb := vb) (vd := vd) (St.pop hX)
      rw [← hq] at hY
      exact hY

/-! ### settle -/
/-- What settling, Files and Crash need of a disk. -/
structure DMem (m : DiskM) (p : DP) : Prop where
  okn : OkDir m.files.length m.now
  fsyn : ∀ f ∈ m.files, f.syn ≤ f.data.length ∧ f.data.length ≤ 1099511627776
  size : 0 ≤ m.size ∧ m.size ≤ 67108864
  files : p.FL.map FR.m = m.files
  arm : ∀ k, m.arm = some k → p.av = (k : Int) ∧ k ≤ 9223372036854775807
  fails : FailsR m.fails p.fa p.fn p.fc p.F
  mapn : MapE kyE (vlE p.ps) p.esn p.ckn p.Mn
  isn : MapIsA Ent.name p.Mn m.now
theorem DOk.mem {p : DP} (hp : DOk m p) : DMem m p := ⟨hp.wf.okNow, hp.wf.syn, hp.wf.size, hp.files, hp.arm, hp.fails, hp.mapn, hp.isn⟩

def sync1 (f : FileM) : FileM := ⟨f.data, f.data.length⟩
theorem settled_snoc (fs : List FileM) (d : Dir) (e : Ent) : settled fs (d ++ [e]) = setF (settled fs d) e.file sync1 := by rw [settled, List.foldl_append]; rfl
theorem setF_comm (fs : List FileM) (i j : Nat) (f : FileM → FileM) : setF (setF fs i f) j f = setF (setF fs j f) i f := by
  by_cases h : i = j
  · rw [h]
  · have h1 : fileAt (setF fs i f) j = fileAt fs j := fileAt_setF_ne h
    have h2 : fileAt (setF fs j f) i = fileAt fs i := fileAt_setF_ne (Ne.symm h)
    have e : ∀ (l : List FileM) (k : Nat), setF l k f = l.set k (f (fileAt l k)) := fun _ _ => rfl
    rw [e (setF fs i f), e (setF fs j f), h1, h2, e, e]
    exact List.set_comm _ _ h
theorem settled_perm {fs : List FileM} {d d' : Dir} (h : d.Perm d') : settled fs d = settled fs d' :=
  h.foldl_eq' (fun x _ y _ z => setF_comm z x.file y.file sync1) fs
theorem settled_len (d : Dir) : ∀ fs : List FileM, (settled fs d).length = fs.length := by
  induction d with
  | nil => intro fs; rfl
  | cons e d ih => intro fs; show (settled (setF fs e.file sync1) d).length = _; rw [ih, setF_len]
theorem settled_ok (d : Dir) : ∀ fs : List FileM, (∀ f ∈ fs, f.syn ≤ f.data.length ∧ f.data.length ≤ 1099511627776) → ∀ f ∈ settled fs d, f.syn ≤ f.data.length ∧ f.data.length ≤ 1099511627776 := by
  induction d with
  | nil => intro fs h; exact h
  | cons e d ih =>
    intro fs h
    refine ih (setF fs e.file sync1) fun f hf => ?_
    rcases List.mem_or_eq_of_mem_set hf with h1 | h1
    · exact h f h1
    · rw [h1]
      refine ⟨Nat.le_refl _, ?_⟩
      show (fileAt fs e.file).data.length ≤ _
      by_cases hi : e.file < fs.length
      · rw [fileAt, List.getD, List.getElem?_eq_getElem hi]
        exact (h _ (List.getElem_mem hi)).2
      · rw [fileAt, List.getD, List.getElem?_eq_none (by omega)]
        simp [file0]

set_option maxHeartbeats 1000000 in
theorem settle_spec {p : DP} (hp : DMem m p) (hS : St w0 X w (resD gd m p ++ DR p.FL N)) :
    Calls Try.prog 49 #[.pointer (some ⟨gd, 0, none⟩)] w fun e w' => e = .returned (.tuple #[]) ∧ DiskIn w0 X w' gd p.ps (settleM m) N := by
  apply disk_Disk_settle_vc
  have hg : w.heap[p.gn]? = some (.map p.esn p.ckn) := hS.holds 1 _ rfl
  have hit := hS.add (r := .blk w.heap.size (.mapIter (some p.gn) p.ckn #[] p.ckn)) (Chg.alloc _ _) (heap_alloc_new w _) (by simp [Res.fp])
  obtain ⟨gr, hgr⟩ : ∃ gr, w.heap.size = gr := ⟨_, rfl⟩
  rw [hgr] at hit
  refine ⟨_, DiskIn.cell hS (i := 6) (dirA _) rfl, _, _, run_range_map w 77 9 84 p.gn p.esn p.ckn dirT hg, fun w' => ∃ (seen : Array Nat) (out : Dir) (FL : List FR), FL.map FR.g = p.ps ∧ FL.map FR.m = settled m.files out ∧ (out ++ (leftA p.esn p.Mn seen).map (·.2)).Perm p.Mn ∧ St w0 X w' ((resD gd m p ++ DR FL N) ++ [.blk gr (.mapIter (some p.gn) p.ckn seen p.ckn)]),
    fun w' => muR p.gn gr w', ⟨#[], [], p.FL, rfl, hp.files, by rw [leftA_all hp.mapn, List.nil_append], hit⟩, ?_⟩
  rw [hgr]
  rintro w2 ⟨seen, out, FL, hFg, hFm, hperm, h2⟩
  have hr2 : w2.heap[gr]? = some (.mapIter (some p.gn) p.ckn seen p.ckn) := h2.holds _ _ getLast'
  have hg2 : w2.heap[p.gn]? = some (.map p.esn p.ckn) := h2.holds 1 _ rfl
  rcases range_step (P := Try.prog) hp.mapn hr2 hg2 with ⟨hz, hrun⟩ | ⟨e, r, w3, hw3, hrun, hrM, hent, hleft, hlt⟩
  · refine ⟨false, [], w2, hrun, fun h => (by cases h), fun _ => ?_⟩
    rw [hz, List.map_nil, List.append_nil] at hperm
    rw [settled_perm (hperm.trans hp.isn.perm)] at hFm
    have hS2 := St.pop h2
    refine ⟨_, hS2.ldL (i := 0) (o := 6) rfl (dirA _) rfl rfl, (clone_map p.gn p.esn p.ckn w2 hg2).mono ?_⟩
    rintro e w3 ⟨g', rfl, hg', c3, hh⟩
    have h3 := hS2.upd (i := 2) (r' := .blk g' (.map p.esn p.ckn)) rfl (c3.mono (by simp)) hh (by simp [Res.fp]; exact .inr hg')
    obtain ⟨w4, r4, h4⟩ := h3.stL (i := 0) (o := 7) (off := 7) (T := 77) (v := .map (some g')) rfl (dirS _) rfl (by simp [dskL]) rfl
    obtain ⟨w5, r5, h5⟩ := h4.stL (i := 0) (o := 8) (off := 8) (T := 80) (v := .slice none 0 0) rfl (chsS _) rfl (by simp [dskL]) rfl
    have h6 := h5.upd (i := 3) (r' := .row 89 3 (.slice none 0 0) 0 []) rfl (Chg.refl _ _) (World.ownsRow_nil _ _ _ _) (by simp [Res.fp, Value.ownBlock])
    refine ⟨_, rfl, w4, r4, w5, r5, rfl, { p with FL := FL, gs := g', ess := p.esn, cks := p.ckn, Ms := p.Mn, ca := none, cc := 0 }, hFg, ?_, h6⟩
    have hmp : MapE kyE (vlE (FL.map FR.g)) p.esn p.ckn p.Mn := by rw [hFg]; exact hp.mapn
    refine ⟨⟨rfl, fun k => ?_, by simp [settleM], settled_ok _ _ hp.fsyn, hp.size⟩, hFm, hp.arm, hp.fails, hmp, hp.isn, hmp, hp.isn⟩
    show OkDir (settled m.files m.now).length (replay m.now (([] : List ChM).take k))
    rw [List.take_nil, settled_len]
    exact hp.okn
  · refine ⟨true, _, _, hrun, fun _ => ?_, fun h => (by cases h)⟩
    have h3 : St w0 X w3 ((resD gd m p ++ DR FL N) ++ [.blk gr (.mapIter (some p.gn) p.ckn seen p.ckn)]) := by
      rcases hw3 with rfl | rfl
      · exact h2
      · exact h2.drew
    have h4 := St.putBlk h3 (i := (resD gd m p ++ DR FL N).length) (o' := .mapIter (some p.gn) p.ckn (seen.push e.born) p.ckn) getLast'
    rw [List.set_append_right _ _ (Nat.le_refl _), Nat.sub_self] at h4
    have h4 : St w0 X (w3.putObj gr (.mapIter (some p.gn) p.ckn (seen.push e.born) p.ckn)) ((resD gd m p ++ DR FL N) ++ [.blk gr (.mapIter (some p.gn) p.ckn (seen.push e.born) p.ckn)]) := h4
    have hr4 := h4.holds _ _ getLast'
    have hg4 : (w3.putObj gr (.mapIter (some p.gn) p.ckn (seen.push e.born) p.ckn)).heap[p.gn]? = some (.map p.esn p.ckn) := h4.holds 1 _ rfl
    have hrn := hp.isn.perm.mem_iff.1 hrM
    have hil := (hp.okn.ent r hrn).1
    have hFl : FL.length = m.files.length := by have := congrArg List.length hFm; rw [settled_len] at this; simpa using this
    obtain ⟨f, hf⟩ : ∃ f, FL[r.file]? = some f := ⟨_, List.getElem?_eq_getElem (by omega)⟩
    have hfm : fileAt (settled m.files out) r.file = f.m := by
      rw [← hFm, fileAt, List.getD, List.getElem?_map, hf]; rfl
    have hpg : p.ps.getD r.file 0 = f.g := by
      rw [← hFg, List.getD, List.getElem?_map, hf]; rfl
    have hp2 : (out ++ [r] ++ (leftA p.esn p.Mn (seen.push e.born)).map (·.2)).Perm p.Mn := by
      refine List.Perm.trans ?_ hperm
      rw [List.append_assoc]
      exact List.Perm.append_left out hleft.symm
    have hent' := hent _ hr4 hg4
    have hvl : vlE p.ps r = .pointer (some ⟨f.g, 0, none⟩) := by show Value.pointer (some ⟨p.ps.getD r.file 0, 0, none⟩) = _; rw [hpg]
    rw [hvl] at hent'
    have h5 := h4.perm ((perm_DR hf (resD gd m p) N).append_right [_])
    obtain ⟨w6, r6, h6⟩ := h5.stL (i := 0) (o := 1) (off := 1) (T := 3) (v := .int .i64 (f.data.length : Int)) rfl (intS _) rfl (by simp) rfl
    let f' : FR := ⟨f.g, f.a, f.c, f.data, f.data.length⟩
    have h7 : St w0 X w6 ((f'.blk :: f'.row :: (resD gd m p ++ DR (FL.eraseIdx r.file) N)) ++ [.blk gr (.mapIter (some p.gn) p.ckn (seen.push e.born) p.ckn)]) := h6
    have hq := perm_DR (FL := FL.set r.file f') (i := r.file) (f := f') (by rw [List.getElem?_set_self (by omega)]) (resD gd m p) N
    rw [eraseIdx_set] at hq
    have h8 := h7.perm (hq.symm.append_right [_])
    have hr8 := h8.holds _ _ getLast'
    have hg8 : w6.heap[p.gn]? = some (.map p.esn p.ckn) := h8.holds 1 _ rfl
    refine ⟨_, f.g, 0, _, hent', _, _, _, (St.ldFile (St.pop h4) hf).1, w6, r6, ⟨seen.push e.born, out ++ [r], FL.set r.file f', ?_, ?_, hp2, h8⟩, ?_⟩
    · rw [List.map_set, ← hFg]
      have : (FL.map FR.g)[r.file]? = some f'.g := by rw [List.getElem?_map, hf]; rfl
      obtain ⟨h1, h2⟩ := List.getElem?_eq_some_iff.1 this
      rw [← h2, List.set_getElem_self]
    · rw [List.map_set, settled_snoc, hFm, setF, hfm]; rfl
    · show muR p.gn gr _ < muR p.gn gr _
      rw [muR_eq hg8 hr8, muR_eq hg2 hr2, leftA_size hp.mapn, leftA_size hp.mapn]
      exact hlt

end

end Go.Proofs.Ytoijbpkplegnkaa
