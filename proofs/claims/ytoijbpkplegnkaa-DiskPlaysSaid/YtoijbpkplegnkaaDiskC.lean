/- A disk in memory: Used, Create, Append, Sync (conditions: those that each theorem names). -/
import Derived.Test.YtoijbpkplegnkaaDiskB
namespace Go.Proofs.Ytoijbpkplegnkaa
open Go Sx
set_option maxRecDepth 8000

theorem sum_le_mul {B : Nat} : ∀ l : List Nat, (∀ x ∈ l, x ≤ B) → l.sum ≤ l.length * B
  | [], _ => by simp
  | x :: l, h => by
    have h1 := sum_le_mul l fun y hy => h y (by simp [hy])
    have h2 := h x (by simp)
    rw [List.sum_cons, List.length_cons, Nat.succ_mul]
    omega

section
variable {w0 w w' : World} {X : List Nat} {N N' : List Res} {gd : Nat} {ps : List Nat} {m : DiskM}

def lenE (fs : List FileM) (e : Ent) : Nat := (fileAt fs e.file).data.length
theorem lenE_le (hw : WFD m) (e : Ent) : lenE m.files e ≤ 1099511627776 := by
  unfold lenE fileAt
  by_cases hi : e.file < m.files.length
  · rw [List.getD, List.getElem?_eq_getElem hi]
    exact (hw.syn _ (List.getElem_mem hi)).2
  · rw [List.getD, List.getElem?_eq_none (by omega)]
    simp [file0]
theorem usedM_le (hw : WFD m) : usedM m ≤ 4503599627370496 := by
  have h1 := sum_le_mul (B := 1099511627776) (m.now.map (lenE m.files)) fun x hx => by
    obtain ⟨e, _, rfl⟩ := List.mem_map.1 hx
    exact lenE_le hw e
  rw [List.length_map] at h1
  have h2 := hw.okNow.len
  have h3 : m.now.length * 1099511627776 ≤ 4096 * 1099511627776 := Nat.mul_le_mul_right _ h2
  show (m.now.map (lenE m.files)).sum ≤ _
  omega

theorem used_spec (h : DiskIn w0 X w gd ps m N) :
    Calls Try.prog 39 #[.pointer (some ⟨gd, 0, none⟩)] w fun e w' => e = .returned (.int .i64 (usedM m : Int)) ∧ Chg [] w w' := by
  obtain ⟨p, hps, hp, hS⟩ := h
  have hw := hp.wf
  apply disk_Disk_Used_vc
  have hg : w.heap[p.gn]? = some (.map p.esn p.ckn) := hS.holds 1 _ rfl
  have hit : St w [] (w.alloc (.mapIter (some p.gn) p.ckn #[] p.ckn)) [.blk w.heap.size (.mapIter (some p.gn) p.ckn #[] p.ckn)] := (St.start w).add (Chg.alloc _ _) (heap_alloc_new w _) (by simp [Res.fp])
  obtain ⟨gr, hgr⟩ : ∃ gr, w.heap.size = gr := ⟨_, rfl⟩
  rw [hgr] at hit
  refine ⟨_, DiskIn.cell hS (i := 6) (dirA _) rfl, _, _, run_range_map w 77 9 84 p.gn p.esn p.ckn dirT hg, fun x w' => ∃ (seen : Array Nat) (out : Dir), x = ((out.map (lenE m.files)).sum : Int) ∧ (out ++ (leftA p.esn p.Mn seen).map (·.2)).Perm p.Mn ∧ St w [] w' [.blk gr (.mapIter (some p.gn) p.ckn seen p.ckn)],
    fun _ w' => muR p.gn gr w', ⟨#[], [], rfl, by rw [leftA_all hp.mapn, List.nil_append], hit⟩, ?_⟩
  rw [hgr]
  rintro x w2 ⟨seen, out, rfl, hperm, h2⟩
  have hS2 := hS.same h2.chg
  have hr2 : w2.heap[gr]? = some (.mapIter (some p.gn) p.ckn seen p.ckn) := h2.holds 0 _ rfl
  have hg2 : w2.heap[p.gn]? = some (.map p.esn p.ckn) := hS2.holds 1 _ rfl
  rcases range_step (P := Try.prog) hp.mapn hr2 hg2 with ⟨hz, hrun⟩ | ⟨e, r, w3, hw3, hrun, hrM, hent, hleft, hlt⟩
  · refine ⟨false, [], w2, hrun, fun h => (by cases h), fun _ => ⟨?_, h2.chg⟩⟩
    rw [hz, List.map_nil, List.append_nil] at hperm
    have hsum : (out.map (lenE m.files)).sum = usedM m := ((hperm.trans hp.isn.perm).map (lenE m.files)).sum_nat
    rw [hsum]
  · refine ⟨true, _, _, hrun, fun _ => ?_, fun h => (by cases h)⟩
    have h3 : St w [] w3 [.blk gr (.mapIter (some p.gn) p.ckn seen p.ckn)] := by
      rcases hw3 with rfl | rfl
      · exact h2
      · exact h2.drew
    have h4 := St.putBlk h3 (i := 0) (o' := .mapIter (some p.gn) p.ckn (seen.push e.born) p.ckn) rfl
    have h4 : St w [] (w3.putObj gr (.mapIter (some p.gn) p.ckn (seen.push e.born) p.ckn)) [.blk gr (.mapIter (some p.gn) p.ckn (seen.push e.born) p.ckn)] := h4
    have hS4 := hS.same h4.chg
    have hr4 := h4.holds 0 _ rfl
    have hg4 : (w3.putObj gr (.mapIter (some p.gn) p.ckn (seen.push e.born) p.ckn)).heap[p.gn]? = some (.map p.esn p.ckn) := hS4.holds 1 _ rfl
    have hrn := hp.isn.perm.mem_iff.1 hrM
    obtain ⟨f, hf, hpg, hfm⟩ := hp.file (hw.okNow.ent r hrn).1
    have hlr : lenE m.files r = f.data.length := by rw [lenE, hfm]
    have hp2 : (out ++ [r] ++ (leftA p.esn p.Mn (seen.push e.born)).map (·.2)).Perm p.Mn := by
      refine List.Perm.trans ?_ hperm
      rw [List.append_assoc]
      exact List.Perm.append_left out hleft.symm
    have hle : ((out ++ [r]).map (lenE m.files)).sum ≤ 4503599627370496 := by
      have h1 := sum_le_mul (B := 1099511627776) ((out ++ [r]).map (lenE m.files)) fun x hx => by
        obtain ⟨e, _, rfl⟩ := List.mem_map.1 hx
        exact lenE_le hw e
      rw [List.length_map] at h1
      have h2 : (out ++ [r]).length ≤ 4096 := by
        have := hp2.length_eq
        have h5 := hp.isn.perm.length_eq
        have h6 := hw.okNow.len
        rw [List.length_append] at this
        omega
      have h3 : (out ++ [r]).length * 1099511627776 ≤ 4096 * 1099511627776 := Nat.mul_le_mul_right _ h2
      omega
    have hsumr : ((out ++ [r]).map (lenE m.files)).sum = (out.map (lenE m.files)).sum + f.data.length := by rw [List.map_append, List.sum_append, List.map_singleton, List.sum_singleton, hlr]
    have hent' := hent _ hr4 hg4
    have hvl : vlE p.ps r = .pointer (some ⟨f.g, 0, none⟩) := by show Value.pointer (some ⟨p.ps.getD r.file 0, 0, none⟩) = _; rw [hpg]
    rw [hvl] at hent'
    refine ⟨_, f.g, 0, _, hent', _, _, _, (St.ldFile hS4 hf).1, ⟨seen.push e.born, out ++ [r], ?_, hp2, h4⟩, ?_⟩
    · rw [wrap_i64 (by omega) (by omega), hsumr]; omega
    · show muR p.gn gr _ < muR p.gn gr _
      rw [muR_eq hg4 hr4, muR_eq hg2 hr2, leftA_size hp.mapn, leftA_size hp.mapn]
      exact hlt

/-! ### Create -/
theorem ch_ext {ps : List Nat} {cs : List ChM} {k g : Nat} (hk : k = ps.length) (h : ∀ c ∈ cs, ∀ i, c.made = some i → i < k) : cs.flatMap (chC (ps ++ [g])) = cs.flatMap (chC ps) := by
  induction cs with
  | nil => rfl
  | cons c cs ih =>
    rw [List.flatMap_cons, List.flatMap_cons, ih fun c' hc' => h c' (by simp [hc'])]
    congr 1
    unfold chC
    cases hm : c.made with
    | none => rfl
    | some i =>
      have hi := h c (by simp) i hm
      have : (ps ++ [g]).getD i 0 = ps.getD i 0 := by simp [List.getD, List.getElem?_append_left (show i < ps.length by omega)]
      simp only [ptrV, this]
theorem ptr_ext {ps : List Nat} {i g : Nat} (hi : i < ps.length) : ptrV (ps ++ [g]) i = ptrV ps i := by
  have : (ps ++ [g]).getD i 0 = ps.getD i 0 := by simp [List.getD, List.getElem?_append_left hi]
  simp only [ptrV, this]
theorem ptr_new (ps : List Nat) (g : Nat) : ptrV (ps ++ [g]) ps.length = .pointer (some ⟨g, 0, none⟩) := by simp [ptrV, List.getD]

theorem DOk.psl {p : DP} (hp : DOk m p) : p.ps.length = m.files.length := by have := congrArg List.length hp.files; simpa [DP.ps] using this

/-- A file more, that no name has. -/
theorem WFD.addFile (h : WFD m) {f : FileM} (hf : f.syn ≤ f.data.length ∧ f.data.length ≤ 1099511627776) : WFD { m with files := m.files ++ [f] } :=
  ⟨h.now, fun k => (h.dirs k).mono (by simp), fun c hc i hi => by have := h.made c hc i hi; simp; omega, fun g hg => by
    rcases List.mem_append.1 hg with hg | hg
    · exact h.syn g hg
    · simp at hg; rw [hg]; exact hf, h.size⟩
theorem DOk.addFile {p : DP} (hp : DOk m p) (f : FR) (hf : f.syn ≤ f.data.length ∧ f.data.length ≤ 1099511627776) : DOk { m with files := m.files ++ [f.m] } { p with FL := p.FL ++ [f] } := by
  have hl := hp.psl
  have hps : ({ p with FL := p.FL ++ [f] } : DP).ps = p.ps ++ [f.g] := by simp [DP.ps]
  refine ⟨hp.wf.addFile hf, by simp [hp.files], hp.arm, hp.fails, ?_, hp.isn, ?_, hp.iss⟩
  · rw [hps]
    refine MapE.congr hp.mapn fun r hr => ?_
    have := (hp.wf.okNow.ent r (hp.isn.perm.mem_iff.1 hr)).1
    exact (ptr_ext (by omega)).symm
  · rw [hps]
    refine MapE.congr hp.maps fun r hr => ?_
    have := (hp.wf.okSyn.ent r (hp.iss.perm.mem_iff.1 hr)).1
    exact (ptr_ext (by omega)).symm
theorem St.addFile {p : DP} (hp : DOk m p) {f : FR} (h : St w0 X w ((resD gd m p ++ DR p.FL N) ++ [f.blk] ++ [f.row])) : St w0 X w (resD gd { m with files := m.files ++ [f.m] } { p with FL := p.FL ++ [f] } ++ DR (p.FL ++ [f]) N) := by
  have hps : ({ p with FL := p.FL ++ [f] } : DP).ps = p.ps ++ [f.g] := by simp [DP.ps]
  have e : resD gd { m with files := m.files ++ [f.m] } { p with FL := p.FL ++ [f] } = resD gd m p := by
    unfold resD
    rw [hps]
    have := ch_ext (g := f.g) hp.psl.symm hp.wf.made
    simp only [this]
    rfl
  rw [e]
  refine h.perm ?_
  have h1 := perm_DR (FL := p.FL ++ [f]) (i := p.FL.length) (f := f) (by simp) (resD gd m p) N
  have h2 : (p.FL ++ [f]).eraseIdx p.FL.length = p.FL := by simp [List.eraseIdx_append_of_length_le]
  rw [h2] at h1
  refine List.Perm.trans ?_ h1.symm
  rw [List.append_assoc]
  exact List.perm_append_comm

theorem fileZ (w : World) : (Instr.build 87 #[]).run Try.prog w = .ok (.agg #[.slice none 0 0, .int .i64 0]) w := by
  apply run_build
  kernel_rfl
theorem chT : ElemT Try.prog 80 89 3 40 (.agg #[.pointer none, .string ByteArray.empty, .string ByteArray.empty]) := ⟨by kernel_rfl, ⟨Try.t89, by kernel_rfl, by kernel_rfl, by kernel_rfl, by kernel_rfl⟩, rfl, by decide⟩
theorem built_ch : Try.prog.built 89 = fun parts => Instr.fill (fun i => (#[(0, 1), (1, 1), (2, 1)] : Array (Nat × Nat))[i]?) #[.pointer none, .string ⟨#[]⟩, .string ⟨#[]⟩] parts := by kernel_rfl
theorem ch_build02 (g : Nat) (n : Nm) (w : World) : (Instr.build 89 #[(0, .pointer (some ⟨g, 0, none⟩)), (2, strV n)]).run Try.prog w = .ok (.agg #[.pointer (some ⟨g, 0, none⟩), .string ⟨#[]⟩, strV n]) w := by
  apply run_build
  rw [built_ch]
  show Instr.fill _ _ [(0, _), (2, strV n)] = _
  rw [fill_step (off := 0) (sz := 1) rfl rfl (by simp), fill_step (off := 2) (sz := 1) rfl rfl (by simp [Value.cells, strV])]
  rfl
theorem ch_build12 (a b : Nm) (w : World) : (Instr.build 89 #[(1, strV a), (2, strV b)]).run Try.prog w = .ok (.agg #[.pointer none, strV a, strV b]) w := by
  apply run_build
  rw [built_ch]
  show Instr.fill _ _ [(1, strV a), (2, strV b)] = _
  rw [fill_step (off := 1) (sz := 1) rfl rfl (by simp), fill_step (off := 2) (sz := 1) rfl rfl (by simp [Value.cells, strV])]
  rfl
theorem ch_build1 (a : Nm) (w : World) : (Instr.build 89 #[(1, strV a)]).run Try.prog w = .ok (.agg #[.pointer none, strV a, .string ⟨#[]⟩]) w := by
  apply run_build
  rw [built_ch]
  show Instr.fill _ _ [(1, strV a)] = _
  rw [fill_step (off := 1) (sz := 1) rfl rfl (by simp)]
  rfl

theorem stepM_same (m : DiskM) : (stepM m).1.files = m.files ∧ (stepM m).1.now = m.now ∧ (stepM m).1.chs = m.chs ∧ (stepM m).1.syn = m.syn ∧ (stepM m).1.size = m.size := by
  obtain ⟨s, d, a, f, e⟩ := stepM_cases m
  rw [e]; exact ⟨rfl, rfl, rfl, rfl, rfl⟩

set_option maxHeartbeats 1000000 in
theorem create_spec (n : Nm) (h : DiskIn w0 X w gd ps m N) (hb : m.steps < 4611686018427387904) (hc : m.chs.length < 1000000000) :
    Calls Try.prog 10 #[.pointer (some ⟨gd, 0, none⟩), strV n] w fun e w' => e = .returned (errV (createM m n).2) ∧ ∃ ps', DiskIn w0 X w' gd ps' (createM m n).1 N := by
  obtain ⟨mI, hI⟩ := eI
  apply disk_Disk_Create_vc
  obtain ⟨g, w1, r1, h1⟩ := (St.start w).lit strT [strV n] (by simp [Value.oneCell', strV]) (by simp)
  have hD1 := h.same h1.chg
  refine ⟨_, _, _, w1, r1, (ready_spec _ _ _ [n] hD1 (h1.rd (i := 0) rfl) (by simp)).mono ?_⟩
  rintro e w2 ⟨rfl, rfl⟩
  obtain ⟨p, hps, hp, hS⟩ := hD1
  have hw := hp.wf
  refine ⟨_, rfl, _, neqS_nil hI _ _ _, fun hne => ?_, fun hok => ?_⟩
  · obtain ⟨e, he⟩ := Option.isSome_iff_exists.1 hne
    have : createM m n = (m, some e) := by unfold createM; rw [he]
    rw [this, he]
    exact ⟨rfl, ps, p, hps, hp, hS⟩
  have hrn : readyM m [n] = none := by simpa using hok
  have hgood : goodN n = true := by
    unfold readyM at hrn
    cases hg : goodN n with
    | true => rfl
    | false => simp [hg] at hrn; split at hrn <;> cases hrn
  have hcr : createM m n = if (findD m.now n).isSome then (m, some 4) else if 4096 ≤ m.now.length then (m, some 19) else stepsM m fun m => createF m n := by unfold createM; rw [hrn]
  have hlk := look_spec hp (w := w2) (hS.holds 1 _ rfl) n
  refine ⟨_, DiskIn.cell hS (i := 6) (dirA _) rfl, _, _, w2, hlk, fun hyes => ?_, fun hno => ?_⟩
  · rw [hcr, if_pos hyes]
    exact ⟨rfl, ps, p, hps, hp, hS⟩
  have hno' : ¬ (findD m.now n).isSome = true := by rw [hno]; simp
  rw [if_neg hno'] at hcr
  have hfn : findD m.now n = none := by simpa using hno
  refine ⟨_, DiskIn.cell hS (i := 6) (dirA _) rfl, _, w2, hp.mapn.lenOf (P := Try.prog) dirT (hS.holds 1 _ rfl) _, fun hge => ?_, fun hlt => ?_⟩
  · have : 4096 ≤ m.now.length := by have := hp.isn.perm.length_eq; simp at hge; omega
    rw [hcr, if_pos this]
    exact ⟨rfl, ps, p, hps, hp, hS⟩
  have hlen : ¬ 4096 ≤ m.now.length := by have := hp.isn.perm.length_eq; simp at hlt; omega
  rw [if_neg hlen] at hcr
  refine (step_spec ⟨p, hps, hp, hS⟩ hb).mono ?_
  rintro e w5 ⟨rfl, hD5⟩
  refine ⟨_, rfl, _, neqS_nil hI _ _ _, fun hne => ?_, fun hok => ?_⟩
  · obtain ⟨e, he⟩ := Option.isSome_iff_exists.1 hne
    rw [hcr]
    unfold stepsM
    rw [he]
    exact ⟨rfl, ps, hD5⟩
  have hst : (stepM m).2 = none := by simpa using hok
  have hres : createM m n = (createF (stepM m).1 n, none) := by rw [hcr]; unfold stepsM; rw [hst]
  rw [hres]
  obtain ⟨m1, hm1⟩ : ∃ m1, (stepM m).1 = m1 := ⟨_, rfl⟩
  obtain ⟨e1, e2, e3, e4, _⟩ := stepM_same m
  rw [hm1] at hD5 e1 e2 e3 e4 ⊢
  clear hS hp hps hlk hlt
  clear p
  obtain ⟨p, hps, hp, hS⟩ := hD5
  obtain ⟨g, w6, r6, h6⟩ := hS.box (P := Try.prog) 87 (.agg #[.slice none 0 0, .int .i64 0])
  have h6' := h6.addNil 5 1
  let f : FR := ⟨g, none, 0, [], 0⟩
  have h6' : St w0 X w6 ((resD gd m1 p ++ DR p.FL N) ++ [f.blk] ++ [f.row]) := h6'
  have h7 := St.addFile hp h6'
  have hp7 := hp.addFile f ⟨Nat.le_refl _, by simp [f]⟩
  have hfz : f.m = file0 := rfl
  rw [hfz] at h7 hp7
  obtain ⟨m2, hm2⟩ : ∃ m2, ({ m1 with files := m1.files ++ [file0] } : DiskM) = m2 := ⟨_, rfl⟩
  obtain ⟨p2, hp2⟩ : ∃ p2, ({ p with FL := p.FL ++ [f] } : DP) = p2 := ⟨_, rfl⟩
  have hps2 : p2.ps = ps ++ [g] := by rw [← hp2, ← hps]; simp [DP.ps, f]
  have hpsl : ps.length = m1.files.length := by rw [← hps]; exact hp.psl
  have hFL : p.FL ++ [f] = p2.FL := by rw [← hp2]
  rw [hm2, hp2] at hp7
  rw [hm2, hp2, hFL] at h7
  have hm2n : m2.now = m1.now := by rw [← hm2]
  have hm2c : m2.chs = m1.chs := by rw [← hm2]
  have hm2f : m2.files = m1.files ++ [file0] := by rw [← hm2]
  have hgn : w6.heap[p2.gn]? = some (.map p2.esn p2.ckn) := h7.holds 1 _ rfl
  obtain ⟨es', ck', rU, hE'⟩ := hp7.mapn.updateK (P := Try.prog) (keyD p2.Mn) dirT hgn (⟨n, m1.files.length⟩ : Ent) trivial
  have hval : vlE p2.ps (⟨n, m1.files.length⟩ : Ent) = .pointer (some ⟨g, 0, none⟩) := by
    show ptrV p2.ps m1.files.length = _
    rw [hps2, ← hpsl]
    exact ptr_new ps g
  rw [hval] at rU
  have h8 := St.putBlk h7 (i := 1) (o' := .map es' ck') rfl
  have h8 : St w0 X (w6.putObj p2.gn (.map es' ck')) (resD gd m2 { p2 with esn := es', ckn := ck' } ++ DR p2.FL N) := h8
  have hl8 : m2.chs.length < 1000000000 := by rw [hm2c, e3]; exact hc
  obtain ⟨g9, w9, vb, vd, w10, r9, r10, h10, _⟩ := h8.pushA (i := 3) (ty := 80) chT rfl (chC p2.ps (chMade m1 n)) (chC_len _ _) (by decide) (chC_one _ _) (by omega) (by simp only [maxLen]; omega)
  have hcc : (chC p2.ps (chMade m1 n)).toArray = #[.pointer (some ⟨g, 0, none⟩), .string ⟨#[]⟩, strV n] := by
    show ([ptrV p2.ps m1.files.length, strV [], strV n] : List Value).toArray = _
    have : ptrV p2.ps m1.files.length = .pointer (some ⟨g, 0, none⟩) := hval
    rw [this]; rfl
  rw [hcc] at r9
  obtain ⟨w11, r11, h11⟩ := h10.stL (i := 0) (o := 8) (off := 8) (T := 80) (v := .slice vb (m2.chs.length + 1) vd) rfl (chsS _) rfl (by simp [dskL]) rfl
  have hfin : createF m1 n = { doCh m2 (chMade m1 n) with files := m2.files } := by
    rw [← hm2]; rfl
  refine ⟨_, fileZ w5, g, w6, r6, _, DiskIn.cell h7 (i := 6) (dirA _) rfl, _, rU, _, _, _, DiskIn.cell h8 (i := 8) (chsA _) rfl, _, ch_build02 g n _, _, _, _, w9, r9, vb, _, vd, w10, r10, w11, r11, rfl, p2.ps, { p2 with esn := es', ckn := ck', ca := vb, cc := vd, Mn := updM Ent.name p2.Mn ⟨n, m1.files.length⟩ }, rfl, ?_, ?_⟩
  · rw [hfin]
    have hno1 : findD m1.now n = none := by rw [e2]; exact hfn
    have hmk : mkD m2.now (chMade m1 n) = insA Ent.name m2.now ⟨n, m1.files.length⟩ := rfl
    refine ⟨hp7.wf.snoc (Nat.le_refl _) hp7.wf.syn (fun i hi => ?_) ?_, hp7.files, hp7.arm, hp7.fails, hE', hp7.isn.upd _, hp7.maps, hp7.iss⟩
    · have : i = m1.files.length := by
        have : some m1.files.length = some i := hi
        exact (Option.some.inj this).symm
      rw [hm2f, this]; simp
    · rw [hmk]
      refine hp7.wf.okNow.ins (by rw [hm2f]; simp) hgood (.inl ?_) fun x hx _ => ?_
      · rw [hm2n, e2]; omega
      · rw [hm2n] at hx
        have := (hp.wf.okNow.ent x hx).1
        omega
  · rw [hfin]
    show St w0 X w11 (resD gd { doCh m2 (chMade m1 n) with files := m2.files } { p2 with esn := es', ckn := ck', ca := vb, cc := vd, Mn := updM Ent.name p2.Mn ⟨n, m1.files.length⟩ } ++ DR p2.FL N)
    have el : (m2.chs ++ [chMade m1 n]).length = m2.chs.length + 1 := by simp
    have ef : (m2.chs ++ [chMade m1 n]).flatMap (chC p2.ps) = m2.chs.flatMap (chC p2.ps) ++ chC p2.ps (chMade m1 n) := by simp
    unfold resD dskL doCh
    show St w0 X w11 (.arr gd 82 _ :: .blk _ _ :: .blk _ _ :: .row _ _ (.slice vb (m2.chs ++ [chMade m1 n]).length vd) (m2.chs ++ [chMade m1 n]).length ((m2.chs ++ [chMade m1 n]).flatMap (chC p2.ps)) :: _ :: _)
    simp only [el, ef]
    exact h11

end

end Go.Proofs.Ytoijbpkplegnkaa
