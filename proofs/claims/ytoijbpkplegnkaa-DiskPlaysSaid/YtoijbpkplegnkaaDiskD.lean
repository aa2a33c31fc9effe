/- A disk in memory: Append, Sync, SyncDir, make, Rename, Remove (conditions: those that each theorem names). -/
import Derived.Test.YtoijbpkplegnkaaDiskC
namespace Go.Proofs.Ytoijbpkplegnkaa
open Go Sx
set_option maxRecDepth 8000

section
variable {w0 w w' : World} {X : List Nat} {N N' : List Res} {gd : Nat} {ps : List Nat} {m : DiskM}

theorem fileAt_setF {fs : List FileM} {i : Nat} {f : FileM → FileM} (hi : i < fs.length) : fileAt (setF fs i f) i = f (fileAt fs i) := by
  simp [fileAt, setF, List.getD, hi]
theorem fileAt_setF_ne {fs : List FileM} {i j : Nat} {f : FileM → FileM} (h : i ≠ j) : fileAt (setF fs i f) j = fileAt fs j := by
  simp [fileAt, setF, List.getD, List.getElem?_set_ne h]
theorem setF_len (fs : List FileM) (i : Nat) (f : FileM → FileM) : (setF fs i f).length = fs.length := by simp [setF]
theorem setF_same {fs : List FileM} {i : Nat} {f : FileM → FileM} (h : f (fileAt fs i) = fileAt fs i) : setF fs i f = fs := by
  unfold setF
  rw [h]
  by_cases hi : i < fs.length
  · have : fileAt fs i = fs[i] := by simp [fileAt, List.getD, hi]
    rw [this, List.set_getElem_self]
  · rw [List.set_eq_of_length_le (by omega)]
theorem setF_setF {fs : List FileM} {i : Nat} {f g : FileM → FileM} (hi : i < fs.length) : setF (setF fs i f) i g = setF fs i fun x => g (f x) := by
  unfold setF
  have : fileAt (fs.set i (f (fileAt fs i))) i = f (fileAt fs i) := by simp [fileAt, List.getD, hi]
  rw [this, List.set_set]

/-- The same disk, its files told anew. -/
theorem WFD.files (h : WFD m) {fs : List FileM} (hl : fs.length = m.files.length) (hs : ∀ f ∈ fs, f.syn ≤ f.data.length ∧ f.data.length ≤ 1099511627776) : WFD { m with files := fs } :=
  ⟨h.now, fun k => by show OkDir fs.length _; rw [hl]; exact h.dirs k, fun c hc i hi => by show i < fs.length; rw [hl]; exact h.made c hc i hi, hs, h.size⟩
theorem syn_setF (h : ∀ f ∈ m.files, f.syn ≤ f.data.length ∧ f.data.length ≤ 1099511627776) {i : Nat} {g : FileM} (hg : g.syn ≤ g.data.length ∧ g.data.length ≤ 1099511627776) : ∀ f ∈ setF m.files i (fun _ => g), f.syn ≤ f.data.length ∧ f.data.length ≤ 1099511627776 := by
  intro f hf
  rcases List.mem_or_eq_of_mem_set hf with h1 | h1
  · exact h f h1
  · rw [h1]; exact hg

theorem DOk.updFile {p : DP} (hp : DOk m p) {i : Nat} {f f' : FR} (hf : p.FL[i]? = some f) (hg : f'.g = f.g) (hs : f'.syn ≤ f'.data.length ∧ f'.data.length ≤ 1099511627776) : DOk { m with files := setF m.files i fun _ => f'.m } { p with FL := p.FL.set i f' } ∧ ({ p with FL := p.FL.set i f' } : DP).ps = p.ps := by
  have hps : ({ p with FL := p.FL.set i f' } : DP).ps = p.ps := by
    unfold DP.ps
    rw [List.map_set, hg]
    have : (p.FL.map FR.g)[i]? = some f.g := by rw [List.getElem?_map, hf]; rfl
    obtain ⟨h1, h2⟩ := List.getElem?_eq_some_iff.1 this
    rw [← h2, List.set_getElem_self]
  refine ⟨⟨hp.wf.files (setF_len _ _ _) (syn_setF hp.wf.syn hs), ?_, hp.arm, hp.fails, ?_, hp.isn, ?_, hp.iss⟩, hps⟩
  · show (p.FL.set i f').map FR.m = setF m.files i fun _ => f'.m
    rw [List.map_set, hp.files]; rfl
  · rw [hps]; exact hp.mapn
  · rw [hps]; exact hp.maps

theorem St.updFile {p : DP} {i : Nat} {f f' : FR} (hf : p.FL[i]? = some f) (hps : ({ p with FL := p.FL.set i f' } : DP).ps = p.ps) (h : St w0 X w' (f'.blk :: f'.row :: (resD gd m p ++ DR (p.FL.eraseIdx i) N))) : St w0 X w' (resD gd { m with files := setF m.files i fun _ => f'.m } { p with FL := p.FL.set i f' } ++ DR (p.FL.set i f') N) := by
  have hl := (List.getElem?_eq_some_iff.1 hf).1
  have e : resD gd { m with files := setF m.files i fun _ => f'.m } { p with FL := p.FL.set i f' } = resD gd m p := by
    unfold resD
    rw [hps]
    rfl
  rw [e]
  have h1 := perm_DR (FL := p.FL.set i f') (i := i) (f := f') (by simp [hl]) (resD gd m p) N
  rw [eraseIdx_set] at h1
  exact h.perm h1.symm

theorem le_sum_of_mem : ∀ (l : List Nat) (x : Nat), x ∈ l → x ≤ l.sum
  | [], x, h => by simp at h
  | y :: l, x, h => by
    rw [List.sum_cons]
    rcases List.mem_cons.1 h with rfl | h
    · omega
    · have := le_sum_of_mem l x h; omega
theorem fits_le : ∀ (qs : List (List UInt8)) (r : Int), fits r qs = true → qs = [] ∨ (qs.flatten.length : Int) ≤ r
  | [], r, _ => .inl rfl
  | p :: qs, r, h => by
    simp only [fits, Bool.and_eq_true, decide_eq_true_eq] at h
    right
    rcases fits_le qs _ h.2 with rfl | h2
    · simpa using h.1
    · rw [List.flatten_cons, List.length_append]; omega

theorem appendF_files (m : DiskM) (i : Nat) (qs : List (List UInt8)) : (appendF m i qs).files = setF m.files i fun f => ⟨f.data ++ qs.flatten, f.syn⟩ := rfl

set_option maxHeartbeats 1000000 in
theorem append_spec (n : Nm) (a : Option Addr) (k c : Nat) (vs : List Value) (qs : List (List UInt8)) (h : DiskIn w0 X w gd ps m N) (hq : ∀ {w' ps' m'}, DiskIn w0 X w' gd ps' m' N → Rd w' a k c 1 vs ∧ Row2 w' vs qs) (hb : m.steps < 4611686018427387904) (hk : k ≤ 1000000000) :
    Calls Try.prog 12 #[.pointer (some ⟨gd, 0, none⟩), strV n, .slice a k c] w fun e w' => e = .returned (errV (appendM m n qs).2) ∧ DiskIn w0 X w' gd ps (appendM m n qs).1 N := by
  obtain ⟨mI, hI⟩ := eI
  have hw := h.wf
  have hqk : qs.length = k := by
    obtain ⟨h1, h2⟩ := hq h
    have := h1.len
    have := h2.len
    omega
  apply disk_Disk_Append_vc
  refine (found_spec n h).mono ?_
  rintro e w1 ⟨rfl, c1⟩
  have hD1 := h.same c1
  refine ⟨_, _, rfl, _, neqS_nil hI _ _ _, fun hne => ?_, fun hok => ?_⟩
  · obtain ⟨e, he⟩ := Option.isSome_iff_exists.1 hne
    have : appendM m n qs = (m, some e) := by unfold appendM; rw [he]
    rw [this, he]
    exact ⟨rfl, hD1⟩
  have hfn : foundE m n = none := by simpa using hok
  rw [if_pos hfn]
  obtain ⟨hil, e0, he0, hen, hef, _⟩ := foundI_lt hw hfn
  have hap : appendM m n qs = if fits (m.size - usedM m) qs then stepsM m fun m' => appendF m' (foundI m n) qs else (m, some 3) := by simp only [appendM, hfn]
  have hsz := hw.size
  have hus := usedM_le hw
  refine ⟨fun w' => DiskIn w0 X w' gd ps m N, hD1.same (Chg.drew [] w1), m.size, fun w' h' => ?_, (used_spec (hD1.same (Chg.drew [] w1))).mono ?_⟩
  · obtain ⟨p, _, _, hS⟩ := h'
    exact DiskIn.cell hS (i := 5) (intA _) rfl
  rintro e w2 ⟨rfl, c2⟩
  have hD2 := (hD1.same (Chg.drew [] w1)).same c2
  have wr : IntKind.wrap .i64 (m.size - (usedM m : Int)) = m.size - (usedM m : Int) := wrap_i64 (by omega) (by omega)
  refine ⟨_, rfl, fun w' => DiskIn w0 X w' gd ps m N, fun _ h => h, hD2, ?_⟩
  rw [wr]
  refine ⟨fun x y w' => ∃ i : Nat, y = (i : Int) ∧ i ≤ k ∧ x ≤ 67108864 ∧ -9007199254740992 ≤ x ∧ fits (m.size - usedM m) qs = fits x (qs.drop i) ∧ w' = w2, fun _ y _ => k - y.toNat, ⟨0, rfl, by omega, by omega, by omega, by simp, rfl⟩, ?_⟩
  rintro x y w3 ⟨i, rfl, hi, hx1, hx2, hfit, rfl⟩
  obtain ⟨hr, h2⟩ := hq hD2
  refine ⟨fun hlt => ?_, fun hge => ?_⟩
  · have hi' : i < k := by simp at hlt; omega
    obtain ⟨b, o, a', n', c', ha, hv, hrd, q⟩ := ixS hr.cells h2 (i := i) (by omega)
    have hln := hrd.lenB
    have hdr : qs.drop i = qs.getD i [] :: qs.drop (i + 1) := by rw [List.drop_eq_getElem_cons (by omega)]; simp [List.getD, show i < qs.length by omega]
    rw [hdr, fits, hln] at hfit
    refine ⟨b, o, ha, by omega, by omega, _, _, _, q w3 hr.cells, fun hgt => ?_, fun hle => ?_⟩
    · have : ¬ ((n' : Int) ≤ x) := by simp at hgt; omega
      rw [hap, hfit]
      simp only [this, decide_false, Bool.false_and, Bool.false_eq_true, if_false]
      exact ⟨rfl, hD2⟩
    · have hle : (n' : Int) ≤ x := by simp at hle; omega
      refine ⟨⟨i + 1, wrap_succ hi' (by omega), by omega, ?_, ?_, ?_, rfl⟩, mu_succ hi' (by omega)⟩
      · rw [wrap_i64 (by omega) (by omega)]; omega
      · rw [wrap_i64 (by omega) (by omega)]; omega
      · rw [wrap_i64 (by omega) (by omega), hfit, decide_eq_true hle, Bool.true_and]
  have hi' : i = k := by simp at hge; omega
  have hft : fits (m.size - usedM m) qs = true := by rw [hfit, hi', List.drop_of_length_le (by omega)]; rfl
  rw [hft, if_pos rfl] at hap
  refine (step_spec hD2 hb).mono ?_
  rintro e w4 ⟨rfl, hD4⟩
  refine ⟨_, rfl, _, neqS_nil hI _ _ _, fun hne => ?_, fun hok => ?_⟩
  · obtain ⟨e, he⟩ := Option.isSome_iff_exists.1 hne
    rw [hap]
    unfold stepsM
    rw [he]
    exact ⟨rfl, hD4⟩
  have hst : (stepM m).2 = none := by simpa using hok
  have hres : appendM m n qs = (appendF (stepM m).1 (foundI m n) qs, none) := by rw [hap]; unfold stepsM; rw [hst]
  rw [hres]
  obtain ⟨m1, hm1⟩ : ∃ m1, (stepM m).1 = m1 := ⟨_, rfl⟩
  obtain ⟨e1, e2, e3, e4, _⟩ := stepM_same m
  rw [hm1] at hD4 e1 e2 e3 e4 ⊢
  obtain ⟨j, hj⟩ : ∃ j, foundI m n = j := ⟨_, rfl⟩
  rw [hj] at hil hef ⊢
  -- how long the file may grow
  have hbound : ∀ t, (fileAt m1.files j).data.length + (qs.take t).flatten.length ≤ 1099511627776 := by
    intro t
    have hdl := (hw.syn (fileAt m.files j) (by simp [fileAt, List.getD, hil])).2
    rcases fits_le qs _ hft with rfl | hle
    · rw [e1]; simpa using hdl
    · have h1 : (fileAt m.files j).data.length ≤ usedM m := le_sum_of_mem _ _ (List.mem_map.2 ⟨e0, he0, by rw [hef]⟩)
      have h2 := flat_take_le qs t
      rw [e1]; omega
  have happ0 : appendF m1 j ([] : List (List UInt8)) = m1 := by
    unfold appendF
    rw [setF_same (by simp)]
  refine ⟨fun y w' => ∃ i : Nat, y = (i : Int) ∧ i ≤ k ∧ DiskIn w0 X w' gd ps (appendF m1 j (qs.take i)) N, fun y _ => k - y.toNat, ⟨0, rfl, by omega, by rw [List.take_zero, happ0]; exact hD4⟩, ?_⟩
  rintro y w5 ⟨i, rfl, hi, hD5⟩
  refine ⟨fun hlt => ?_, fun hge => ?_⟩
  · have hi' : i < k := by simp at hlt; omega
    obtain ⟨hr, h2⟩ := hq hD5
    obtain ⟨b, o, a', n', c', ha, hv, hrd, q⟩ := ixS hr.cells h2 (i := i) (by omega)
    have hln := hrd.lenB
    obtain ⟨p, hps, hp, hS⟩ := hD5
    have hjl : j < (appendF m1 j (qs.take i)).files.length := by rw [appendF_files, setF_len, e1]; exact hil
    obtain ⟨f, hf, hpg, hfm⟩ := hp.file hjl
    have hfm2 : fileAt (appendF m1 j (qs.take i)).files j = ⟨(fileAt m1.files j).data ++ (qs.take i).flatten, (fileAt m1.files j).syn⟩ := by rw [appendF_files, fileAt_setF (by rw [e1]; exact hil)]
    have hfd : f.data = (fileAt m1.files j).data ++ (qs.take i).flatten := by rw [hfm2] at hfm; exact (congrArg FileM.data hfm).symm
    have hfs : f.syn = (fileAt m1.files j).syn := by rw [hfm2] at hfm; exact (congrArg FileM.syn hfm).symm
    have hptr : ptrV ps j = .pointer (some ⟨f.g, 0, none⟩) := by rw [← hps]; show Value.pointer (some ⟨p.ps.getD j 0, 0, none⟩) = _; rw [hpg]
    have hfo := hS.perm (perm_DR hf (resD gd _ p) N)
    have htk := flat_take (ls := qs) (i := i) (by omega)
    have hb1 := hbound (i + 1)
    rw [htk, List.length_append] at hb1
    have hfl : f.data.length = (fileAt m1.files j).data.length + (qs.take i).flatten.length := by rw [hfd, List.length_append]
    obtain ⟨va, vc, w6, r6, h6⟩ := hfo.appendB (i := 1) rfl hrd (by omega)
    obtain ⟨w7, r7, h7⟩ := h6.stL (i := 0) (o := 0) (off := 0) (T := 22) (v := .slice va (f.data.length + n') vc) rfl (bsS _) rfl (by simp) rfl
    let f' : FR := ⟨f.g, va, vc, f.data ++ qs.getD i [], f.syn⟩
    have hf'l : f'.data.length = f.data.length + n' := by show (f.data ++ qs.getD i []).length = _; rw [List.length_append, hln]
    have h8 : St w0 X w7 (f'.blk :: f'.row :: (resD gd (appendF m1 j (qs.take i)) p ++ DR (p.FL.eraseIdx j) N)) := by
      unfold FR.blk FR.row FR.val
      rw [hf'l]
      exact h7
    have hsyn : f.syn ≤ f.data.length := by
      have := hp.wf.syn (fileAt (appendF m1 j (qs.take i)).files j) (by simp [fileAt, List.getD, hjl])
      rw [hfm] at this
      exact this.1
    obtain ⟨hp', hps'⟩ := hp.updFile (f' := f') hf rfl ⟨by rw [hf'l]; show f.syn ≤ _; omega, by rw [hf'l]; omega⟩
    have h9 := St.updFile hf hps' h8
    refine ⟨b, o, ha, by omega, by omega, _, _, _, q w5 hr.cells, f.g, 0, hptr, _, _, _, (St.ldFile hS hf).1, va, _, vc, w6, r6, f.g, 0, hptr, w7, r7, ⟨i + 1, wrap_succ hi' (by omega), by omega, ?_⟩, mu_succ hi' (by omega)⟩
    have hmm : appendF m1 j (qs.take (i + 1)) = { appendF m1 j (qs.take i) with files := setF (appendF m1 j (qs.take i)).files j fun _ => f'.m } := by
      have e0 : appendF m1 j (qs.take (i + 1)) = { m1 with files := setF m1.files j fun f => ⟨f.data ++ (qs.take (i + 1)).flatten, f.syn⟩ } := rfl
      have e1' : ({ appendF m1 j (qs.take i) with files := setF (appendF m1 j (qs.take i)).files j fun _ => f'.m } : DiskM) = { m1 with files := setF (appendF m1 j (qs.take i)).files j fun _ => f'.m } := rfl
      rw [e0, e1', appendF_files, setF_setF (by rw [e1]; exact hil), htk]
      have e2' : setF m1.files j (fun f => ⟨f.data ++ ((qs.take i).flatten ++ qs.getD i []), f.syn⟩) = setF m1.files j fun _ => f'.m := by
        unfold setF
        have : (⟨(fileAt m1.files j).data ++ ((qs.take i).flatten ++ qs.getD i []), (fileAt m1.files j).syn⟩ : FileM) = f'.m := by
          show _ = (⟨f.data ++ qs.getD i [], f.syn⟩ : FileM)
          rw [hfd, hfs, List.append_assoc]
        simp only [this]
      rw [e2']
    rw [hmm]
    exact ⟨_, hps'.trans hps, hp', h9⟩
  · have hi' : i = k := by simp at hge; omega
    rw [hi', List.take_of_length_le (by omega)] at hD5
    exact ⟨rfl, hD5⟩

theorem sync_spec (n : Nm) (h : DiskIn w0 X w gd ps m N) (hb : m.steps < 4611686018427387904) :
    Calls Try.prog 31 #[.pointer (some ⟨gd, 0, none⟩), strV n] w fun e w' => e = .returned (errV (syncM m n).2) ∧ DiskIn w0 X w' gd ps (syncM m n).1 N := by
  obtain ⟨mI, hI⟩ := eI
  have hw := h.wf
  apply disk_Disk_Sync_vc
  refine (found_spec n h).mono ?_
  rintro e w1 ⟨rfl, c1⟩
  have hD1 := h.same c1
  refine ⟨_, _, rfl, _, neqS_nil hI _ _ _, fun hne => ?_, fun hok => ?_⟩
  · obtain ⟨e, he⟩ := Option.isSome_iff_exists.1 hne
    have : syncM m n = (m, some e) := by unfold syncM; rw [he]
    rw [this, he]
    exact ⟨rfl, hD1⟩
  have hfn : foundE m n = none := by simpa using hok
  rw [if_pos hfn]
  obtain ⟨hil, _⟩ := foundI_lt hw hfn
  have hap : syncM m n = stepsM m fun m' => syncF m' (foundI m n) := by simp only [syncM, hfn]
  refine (step_spec hD1 hb).mono ?_
  rintro e w4 ⟨rfl, hD4⟩
  refine ⟨_, rfl, _, neqS_nil hI _ _ _, fun hne => ?_, fun hok => ?_⟩
  · obtain ⟨e, he⟩ := Option.isSome_iff_exists.1 hne
    rw [hap]
    unfold stepsM
    rw [he]
    exact ⟨rfl, hD4⟩
  have hst : (stepM m).2 = none := by simpa using hok
  have hres : syncM m n = (syncF (stepM m).1 (foundI m n), none) := by rw [hap]; unfold stepsM; rw [hst]
  rw [hres]
  obtain ⟨m1, hm1⟩ : ∃ m1, (stepM m).1 = m1 := ⟨_, rfl⟩
  obtain ⟨e1, e2, e3, e4, _⟩ := stepM_same m
  rw [hm1] at hD4 e1 e2 e3 e4 ⊢
  obtain ⟨j, hj⟩ : ∃ j, foundI m n = j := ⟨_, rfl⟩
  rw [hj] at hil ⊢
  obtain ⟨p, hps, hp, hS⟩ := hD4
  obtain ⟨f, hf, hpg, hfm⟩ := hp.file (i := j) (by rw [e1]; exact hil)
  have hptr : ptrV ps j = .pointer (some ⟨f.g, 0, none⟩) := by rw [← hps]; show Value.pointer (some ⟨p.ps.getD j 0, 0, none⟩) = _; rw [hpg]
  have hfo := hS.perm (perm_DR hf (resD gd _ p) N)
  obtain ⟨w7, r7, h7⟩ := hfo.stL (i := 0) (o := 1) (off := 1) (T := 3) (v := .int .i64 (f.data.length : Int)) rfl (intS _) rfl (by simp) rfl
  let f' : FR := ⟨f.g, f.a, f.c, f.data, f.data.length⟩
  have h8 : St w0 X w7 (f'.blk :: f'.row :: (resD gd m1 p ++ DR (p.FL.eraseIdx j) N)) := h7
  have hdl : f.data.length ≤ 1099511627776 := by
    have := hp.wf.syn (fileAt m1.files j) (by simp [fileAt, List.getD, show j < m1.files.length by rw [e1]; exact hil])
    rw [hfm] at this
    exact this.2
  obtain ⟨hp', hps'⟩ := hp.updFile (f' := f') hf rfl ⟨Nat.le_refl _, hdl⟩
  have h9 := St.updFile hf hps' h8
  refine ⟨f.g, 0, hptr, _, _, _, (St.ldFile hS hf).1, f.g, 0, hptr, w7, r7, rfl, ?_⟩
  have hmm : syncF m1 j = { m1 with files := setF m1.files j fun _ => f'.m } := by
    unfold syncF setF
    rw [hfm]; rfl
  rw [hmm]
  exact ⟨_, hps'.trans hps, hp', h9⟩

/-! ### maps.Clone, SyncDir -/
theorem eqMap (op : BinOp) (hop : op = .eql ∨ op = .neq) (x y : Operand) (g : Nat) (w : World) : (eqlS op 77 x y (.map (some g)) (.map none)).run Try.prog w = .ok (.bool (op == .neq)) w := by
  have h1 : ∀ d, (Op.equalIn (d + 1) 77 (.map (some g)) (.map none)).run Try.prog w = .ok false w := fun d => by simp [Op.equalIn, run_underlying dirT]
  have h2 : (eqGuard op 77 x y (.map (some g)) (.map none)).run Try.prog w = .ok () w := by rcases hop with rfl | rfl <;> rfl
  rcases hop with rfl | rfl <;> simp [eqlS, h2, binOp, Op.equal, show Op.maxDepth = 9999 + 1 from rfl, h1 9999]

theorem clone_map (g : Nat) (es : Array MapEntry) (ck : Nat) (w : World) (hg : w.heap[g]? = some (.map es ck)) :
    Calls Try.prog 47 #[.map (some g)] w fun e w' => ∃ g', e = .returned (.map (some g')) ∧ w.heap.size ≤ g' ∧ Chg [] w w' ∧ w'.heap[g']? = some (.map es ck) := by
  apply maps_Clone_disk_dir_string_disk_file_vc
  refine ⟨_, eqMap .eql (.inl rfl) _ _ g w, fun h => by simp at h, fun _ => ⟨.iface 77 (.map (some w.heap.size)), w.alloc (.map es ck), ?_, _, ?_, w.heap.size, rfl, Nat.le_refl _, Chg.alloc _ _, heap_alloc_new w _⟩⟩
  · rw [run_callFunc_extern Try.func72 (by kernel_rfl) (by kernel_rfl) (by kernel_rfl) (e := Extern.MapsClone.clone) (by kernel_rfl)]
    have e : Extern.MapsClone.clone #[.iface 77 (.map (some g))] = (do
        match ← getObj g with
        | .map entries clock => do pure (.iface 77 (.map (some (← newObj (.map entries clock)))))
        | _ => stuck "maps.clone: a map expected" : Sem Value) := rfl
    rw [e]
    have e2 : (getObj g).run Try.prog w = .ok (.map es ck) w := by simp [getObj, Sem.run, hg]
    simp only [Sem.run_bind, e2, Result.andThen_ok, run_newObj_alloc]
    rfl
  · simp [Instr.typeAssert, run_underlying dirT]

theorem syncDir_spec (h : DiskIn w0 X w gd ps m N) (hb : m.steps < 4611686018427387904) :
    Calls Try.prog 32 #[.pointer (some ⟨gd, 0, none⟩)] w fun e w' => e = .returned (errV (syncDirM m).2) ∧ DiskIn w0 X w' gd ps (syncDirM m).1 N := by
  obtain ⟨mI, hI⟩ := eI
  have hw := h.wf
  apply disk_Disk_SyncDir_vc
  refine (ready_spec none 0 0 [] h ⟨Cells.nil _ _, rfl, Nat.le_refl _, fun _ => rfl⟩ (by omega)).mono ?_
  rintro e w1 ⟨rfl, rfl⟩
  refine ⟨_, rfl, _, neqS_nil hI _ _ _, fun hne => ?_, fun hok => ?_⟩
  · obtain ⟨e, he⟩ := Option.isSome_iff_exists.1 hne
    have : syncDirM m = (m, some e) := by unfold syncDirM; rw [he]
    rw [this, he]
    exact ⟨rfl, h⟩
  have hfn : readyM m [] = none := by simpa using hok
  have hap : syncDirM m = stepsM m syncDirF := by unfold syncDirM; rw [hfn]
  refine (step_spec h hb).mono ?_
  rintro e w2 ⟨rfl, hD2⟩
  refine ⟨_, rfl, _, neqS_nil hI _ _ _, fun hne => ?_, fun hok => ?_⟩
  · obtain ⟨e, he⟩ := Option.isSome_iff_exists.1 hne
    rw [hap]
    unfold stepsM
    rw [he]
    exact ⟨rfl, hD2⟩
  have hst : (stepM m).2 = none := by simpa using hok
  have hres : syncDirM m = (syncDirF (stepM m).1, none) := by rw [hap]; unfold stepsM; rw [hst]
  rw [hres]
  obtain ⟨m1, hm1⟩ : ∃ m1, (stepM m).1 = m1 := ⟨_, rfl⟩
  rw [hm1] at hD2 ⊢
  obtain ⟨p, hps, hp, hS⟩ := hD2
  have hg : w2.heap[p.gn]? = some (.map p.esn p.ckn) := hS.holds 1 _ rfl
  refine ⟨_, DiskIn.cell hS (i := 6) (dirA _) rfl, (clone_map p.gn p.esn p.ckn w2 hg).mono ?_⟩
  rintro e w3 ⟨g', rfl, hg', c3, hh⟩
  have h3 := hS.upd (i := 2) (r' := .blk g' (.map p.esn p.ckn)) rfl (c3.mono (by simp)) hh (by simp [Res.fp]; exact .inr hg')
  obtain ⟨w4, r4, h4⟩ := h3.stL (i := 0) (o := 7) (off := 7) (T := 77) (v := .map (some g')) rfl (dirS _) rfl (by simp [dskL]) rfl
  obtain ⟨w5, r5, h5⟩ := h4.stL (i := 0) (o := 8) (off := 8) (T := 80) (v := .slice none 0 0) rfl (chsS _) rfl (by simp [dskL]) rfl
  have h6 := h5.upd (i := 3) (r' := .row 89 3 (.slice none 0 0) 0 []) rfl (Chg.refl _ _) (World.ownsRow_nil _ _ _ _) (by simp [Res.fp, Value.ownBlock])
  refine ⟨_, rfl, w4, r4, w5, r5, rfl, { p with gs := g', ess := p.esn, cks := p.ckn, Ms := p.Mn, ca := none, cc := 0 }, hps, ?_, h6⟩
  exact ⟨⟨rfl, fun k => by show OkDir _ (replay m1.now (([] : List ChM).take k)); rw [List.take_nil]; exact hp.wf.okNow, by simp [syncDirF], hp.wf.syn, hp.wf.size⟩, hp.files, hp.arm, hp.fails, hp.mapn, hp.isn, hp.mapn, hp.isn⟩

end

end Go.Proofs.Ytoijbpkplegnkaa
