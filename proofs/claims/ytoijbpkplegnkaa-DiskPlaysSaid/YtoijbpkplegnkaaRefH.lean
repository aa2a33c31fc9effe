/- Contracts, several texts in one (conditions: those that each theorem names). -/
import Derived.Test.YtoijbpkplegnkaaRefD
namespace Go.Proofs.Ytoijbpkplegnkaa
open Go Sx
set_option maxRecDepth 8000

theorem flatMap_set {α : Type} {enc : α → List Value} {k : Nat} : ∀ {l : List α} {i j : Nat} {x y : α} {v : Value}, (∀ z ∈ l, (enc z).length = k) → l[i]? = some x → j < k → enc y = (enc x).set j v → (l.flatMap enc).set (i * k + j) v = (l.set i y).flatMap enc
  | [], i, j, x, y, v, _, hx, _, _ => by simp at hx
  | z :: l, 0, j, x, y, v, h, hx, hj, hy => by
    have : z = x := by simpa using hx
    subst this
    have hz := h z (by simp)
    rw [List.flatMap_cons, Nat.zero_mul, Nat.zero_add, List.set_append_left _ _ (by omega), List.set_cons_zero, List.flatMap_cons, hy]
  | z :: l, i + 1, j, x, y, v, h, hx, hj, hy => by
    have hz := h z (by simp)
    have hx' : l[i]? = some x := by simpa using hx
    have ih := flatMap_set (fun q hq => h q (by simp [hq])) hx' hj hy
    rw [List.flatMap_cons, List.set_append_right _ _ (by rw [hz, Nat.succ_mul]; omega), hz, show (i + 1) * k + j - k = i * k + j by rw [Nat.succ_mul]; omega, ih, List.set_cons_succ, List.flatMap_cons]

theorem Sx.St.stRowK {P : Program} {w0 w : World} {X : List Nat} {M : List Res} (h : St w0 X w M) {i g n c j sz : Nat} {e T : TypeId} {xs : List Value} {v : Value} (hi : M[i]? = some (.row e sz (.slice (some ⟨g, 0, none⟩) n c) n xs)) (hT : (sizeOf T).run P w = .ok 1 w) (hj : j < n * sz) (hv : v.oneCell' = true) :
    ∃ w', (Instr.storeAt T (.pointer (some ⟨g, j, none⟩)) v).run P w = .ok () w' ∧ St w0 X w' (M.set i (.row e sz (.slice (some ⟨g, 0, none⟩) n c) n (xs.set j v))) := by
  have hown : w.ownsRow 0 e sz (.slice (some ⟨g, 0, none⟩) n c) n xs := h.holds i _ hi
  obtain ⟨hlen, hrow⟩ := hown
  rcases hrow with ⟨hv0, _⟩ | ⟨g', cap, cur, hv0, hb, hg, hnc, hcm, hcs, ht⟩
  · simp at hv0
  · simp only [Value.slice.injEq, Option.some.injEq, Addr.mk.injEq, and_true, true_and] at hv0
    obtain ⟨rfl, rfl⟩ := hv0
    have hle : n * sz ≤ c * sz := Nat.mul_le_mul_right _ hnc
    have hcs' : v.cells = #[v] := by cases v <;> first | rfl | (simp [Value.oneCell'] at hv)
    have hst := run_storeCells_at P g j e [v] 0 cur w hg (by simp; omega) (by simpa using hv)
    have hset : (cur.toList.take j ++ [v] ++ cur.toList.drop (j + 1)).toArray = cur.setIfInBounds j v := by
      apply Array.ext'
      rw [Array.toList_setIfInBounds, List.set_eq_take_append_cons_drop]
      simp [show j < cur.size by omega]
    simp only [Nat.add_zero, List.length_singleton] at hst
    rw [hset] at hst
    refine ⟨_, ?_, h.upd hi (w' := w.setRow g (cur.setIfInBounds j v)) ⟨rfl, rfl, rfl, by simp, fun k _ hk => setRow_other w g k _ (fun e => hk (by simp [Res.fp, Value.ownBlock, e]))⟩ ?_ (by simp [Res.fp, Value.ownBlock])⟩
    · simp [Instr.storeAt, Instr.sureAddr, storeVar, hT, hcs', hst]
    · refine ⟨by simpa using hlen, .inr ⟨g, c, _, rfl, hb, setRow_heap w g cur _ e _ hg, hnc, hcm, by simpa using hcs, ?_⟩⟩
      rw [Array.toList_setIfInBounds, ← ht, List.take_set]

theorem eraseIdx_setD (l : List FD) (i : Nat) (x : FD) : (l.set i x).eraseIdx i = l.eraseIdx i := by
  rw [List.eraseIdx_eq_take_drop_succ, List.eraseIdx_eq_take_drop_succ, List.take_set_of_le (Nat.le_refl i), List.drop_set_of_lt (by omega)]

theorem perm_FD {FL : List FD} {i : Nat} {f : FD} (hi : FL[i]? = some f) (R T : List Res) : (R ++ (FL.map FD.row ++ T)).Perm (f.row :: (R ++ ((FL.eraseIdx i).map FD.row ++ T))) := by
  obtain ⟨h1, _, h3⟩ := split_at hi
  rw [h3]
  conv => lhs; rw [h1]
  simp only [List.map_append, List.map_cons]
  have e1 : R ++ ((FL.take i).map FD.row ++ f.row :: (FL.drop (i + 1)).map FD.row ++ T) = (R ++ (FL.take i).map FD.row) ++ f.row :: ((FL.drop (i + 1)).map FD.row ++ T) := by simp [List.append_assoc]
  rw [e1]
  refine List.perm_middle.trans (List.Perm.cons _ (List.Perm.of_eq ?_))
  simp [List.append_assoc]

section
variable {w0 w w' : World} {X : List Nat} {N N' T : List Res} {gr : Nat} {m : DiskM}

theorem ROk.file {p : RP} (hp : ROk m p) {i : Nat} (hi : i < m.files.length) : ∃ f, p.FL[i]? = some f ∧ fileAt m.files i = f.m ∧ f.syn ≤ f.data.length ∧ f.data.length ≤ 1099511627776 := by
  have hl : p.FL.length = m.files.length := by have := congrArg List.length hp.files; simpa using this
  have hf : p.FL[i]? = some p.FL[i] := List.getElem?_eq_getElem (by omega)
  have hfm : fileAt m.files i = p.FL[i].m := by
    rw [← hp.files]
    simp [fileAt, List.getD, show i < p.FL.length by omega]
  have := fileAt_ok hp.wf.syn i
  rw [hfm] at this
  exact ⟨_, hf, hfm, this.1, this.2⟩

theorem filesHead {p : RP} (hS : St w0 X w (resR gr m p ++ T)) {i : Nat} (hi : i < p.FL.length) : ∃ g, p.Fa = some ⟨g, 0, none⟩ := by
  have hown : w.ownsRow 0 122 2 (.slice p.Fa p.FL.length p.Fc) p.FL.length (p.FL.flatMap FD.cells) := hS.holds 1 _ rfl
  rcases hown.2 with ⟨_, h1⟩ | ⟨g, cap, cur, h0, _⟩
  · omega
  · simp only [Value.slice.injEq] at h0
    exact ⟨g, h0.1⟩

/-- What a file tells. -/
theorem St.ldF {p : RP} {g : Nat} (hg : p.Fa = some ⟨g, 0, none⟩) {i : Nat} {f : FD} (hf : p.FL[i]? = some f) (hS : St w0 X w (resR gr m p ++ (p.FL.map FD.row ++ T))) :
    (Instr.loadAt 22 (.pointer (some ⟨g, 0 + Int.toNat (i : Int) * 2, none⟩))).run Try.prog w = .ok (.slice f.a f.data.length f.c) w ∧ (Instr.loadAt 3 (.pointer (some ⟨g, 0 + Int.toNat (i : Int) * 2 + 1, none⟩))).run Try.prog w = .ok (.int .i64 (f.syn : Int)) w ∧ RdB w f.a f.data.length f.c f.data := by
  have hc : Cells w p.Fa (p.FL.flatMap FD.cells) := hS.cells (i := 1) rfl
  have h0 : (p.FL.flatMap FD.cells)[i * 2 + 0]? = some (.slice f.a f.data.length f.c) := by rw [flatMap_at (fun x _ => FD.cells_len x) hf (by decide)]; rfl
  have h1 : (p.FL.flatMap FD.cells)[i * 2 + 1]? = some (.int .i64 (f.syn : Int)) := by rw [flatMap_at (fun x _ => FD.cells_len x) hf (by decide)]; rfl
  obtain ⟨b0, o0, e0, c0⟩ := hc.at_ h0
  obtain ⟨b1, o1, e1, c1⟩ := hc.at_ h1
  rw [hg] at e0 e1
  simp only [Option.some.injEq, Addr.mk.injEq, and_true] at e0 e1
  obtain ⟨rfl, rfl⟩ := e0
  obtain ⟨rfl, rfl⟩ := e1
  rw [Int.toNat_natCast]
  exact ⟨ld1 (bsA _) c0, ld1 (intA _) c1, (hS.perm (perm_FD hf (resR gr m p) T)).rd (i := 0) rfl⟩

theorem rused_spec (h : RefIn w0 X w gr m N) :
    Calls Try.prog 64 #[.pointer (some ⟨gr, 0, none⟩)] w fun e w' => e = .returned (.int .i64 (usedM m : Int)) ∧ Chg [] w w' := by
  obtain ⟨p, hp, hS⟩ := h
  have hw := hp.wf
  have hnl := hw.okNow.len
  apply amphoraref01_Disk_Used_vc
  refine ⟨fun x y w' => ∃ i : Nat, y = (i : Int) ∧ i ≤ m.now.length ∧ x = (((m.now.take i).map (lenE m.files)).sum : Int) ∧ Chg [] w w', fun _ y _ => m.now.length - y.toNat, ⟨0, rfl, by omega, by simp, Chg.refl _ _⟩, ?_⟩
  rintro x y w1 ⟨i, rfl, hi, rfl, c1⟩
  have hS1 := hS.same c1
  refine ⟨_, _, _, RefIn.cell hS1 (i := 2) (nsA _) rfl, fun hlt => ?_, fun hge => ?_⟩
  · have hi' : i < m.now.length := by simp at hlt; omega
    have he : m.now[i]? = some m.now[i] := List.getElem?_eq_getElem hi'
    obtain ⟨e, hed⟩ : ∃ e, m.now[i] = e := ⟨_, rfl⟩
    rw [hed] at he
    obtain ⟨f, hf, hfm, _, hfl⟩ := hp.file (hw.okNow.ent e (List.mem_of_getElem? he)).1
    obtain ⟨g, hg⟩ := filesHead hS (List.getElem?_eq_some_iff.1 hf).1
    have hfi := (List.getElem?_eq_some_iff.1 hf).1
    have hrn := poolRd hS hp.now
    obtain ⟨b, o, hab, q⟩ := hrn.fld he
    have kd := c1.trans (Chg.drew [] w1)
    have hsum : ((m.now.take (i + 1)).map (lenE m.files)).sum = ((m.now.take i).map (lenE m.files)).sum + f.data.length := by
      rw [List.take_add_one, he]
      simp only [Option.toList_some, List.map_append, List.sum_append, List.map_cons, List.map_nil, List.sum_cons, List.sum_nil, Nat.add_zero]
      rw [lenE, hfm]; rfl
    have hbd : ((m.now.take i).map (lenE m.files)).sum ≤ 4503599627370496 := by
      have h1 := sum_le_mul (B := 1099511627776) ((m.now.take i).map (lenE m.files)) fun x hx => by
        obtain ⟨e, _, rfl⟩ := List.mem_map.1 hx
        exact lenE_le hw e
      rw [List.length_map, List.length_take] at h1
      have h3 : min i m.now.length * 1099511627776 ≤ 4096 * 1099511627776 := Nat.mul_le_mul_right _ (by omega)
      omega
    refine ⟨fun w' => Chg [] w w', kd, _, _, _, fun w' hw' => RefIn.cell (hS.same hw') (i := 1) (fsA _) rfl, _, _, _, fun w' hw' => RefIn.cell (hS.same hw') (i := 2) (nsA _) rfl, b, o, hab, by omega, by omega, _, fun w' hw' => (q w' (hrn.keep0 hw')).2.1, g, 0, hg, by omega, by omega, _, _, _, fun w' hw' => (St.ldF hg hf (hS.same hw')).1, ⟨i + 1, wrap_succ hi' (by omega), by omega, ?_, kd⟩, mu_succ hi' (by omega)⟩
    rw [wrap_i64 (by omega) (by omega), hsum]; omega
  · have hi' : i = m.now.length := by simp at hge; omega
    rw [hi', List.take_of_length_le (Nat.le_refl _)]
    exact ⟨rfl, c1⟩

end

open Go Sx
set_option maxRecDepth 8000

theorem foundE_pos {m : DiskM} {n : Nm} {e : Int} (h : foundE m n = some e) : e ≠ 0 ∧ e ≠ 2 := by
  unfold foundE at h
  split at h
  · cases h; decide
  · split at h
    · cases h; decide
    · split at h
      · cases h; decide
      · cases h
theorem stepM_pos {m : DiskM} {e : Int} (h : (stepM m).2 = some e) : e ≠ 0 := by
  unfold stepM at h
  split at h
  · cases h; decide
  · split at h
    · cases h
    · cases h; decide
    · cases h

section
variable {w0 w w' : World} {X : List Nat} {N N' T : List Res} {gr : Nat} {m : DiskM}

theorem RefIn.addSt (h : RefIn w0 X w gr m N) (h' : St w [] w' T) : RefIn w0 X w' gr m (N ++ T) := by
  obtain ⟨p, hp, hS⟩ := h
  refine ⟨p, hp, ?_⟩
  have h1 := Sx.St.callPart (N := []) (by rw [List.append_nil]; exact hS) h'
  have e : resR gr m p ++ (p.FL.map FD.row ++ (p.P ++ N)) ++ T = resR gr m p ++ (p.FL.map FD.row ++ (p.P ++ (N ++ T))) := by simp [List.append_assoc]
  rw [← e]; exact h1
theorem RefIn.subN (h : RefIn w0 X w gr m N) (hn : N'.Sublist N) : RefIn w0 X w gr m N' := by
  obtain ⟨p, hp, hS⟩ := h
  exact ⟨p, hp, hS.sub (List.Sublist.append_left (List.Sublist.append_left (List.Sublist.append_left hn _) _) _)⟩

theorem ROk.updFile {p : RP} (hp : ROk m p) {i : Nat} {f' : FD} (hs : f'.syn ≤ f'.data.length ∧ f'.data.length ≤ 1099511627776) : ROk { m with files := setF m.files i fun _ => f'.m } { p with FL := p.FL.set i f' } := by
  refine ⟨hp.wf.files (setF_len _ _ _) (syn_setF hp.wf.syn hs), hp.live.same rfl rfl, ?_, hp.now, hp.syn, hp.arm, hp.fails, hp.flen⟩
  show (p.FL.set i f').map FD.m = setF m.files i fun _ => f'.m
  rw [List.map_set, hp.files]; rfl

/-- A file's count of synced bytes is written. -/
theorem St.putSyn {p : RP} {g : Nat} (hg : p.Fa = some ⟨g, 0, none⟩) {i : Nat} {f : FD} (hf : p.FL[i]? = some f) (hS : St w0 X w (resR gr m p ++ (p.FL.map FD.row ++ T))) (n : Nat) :
    ∃ w', (Instr.storeAt 3 (.pointer (some ⟨g, 0 + Int.toNat (i : Int) * 2 + 1, none⟩)) (.int .i64 (n : Int))).run Try.prog w = .ok () w' ∧ St w0 X w' (resR gr { m with files := setF m.files i fun _ => (⟨f.a, f.c, f.data, n⟩ : FD).m } { p with FL := p.FL.set i ⟨f.a, f.c, f.data, n⟩ } ++ ((p.FL.set i ⟨f.a, f.c, f.data, n⟩).map FD.row ++ T)) := by
  have hil := (List.getElem?_eq_some_iff.1 hf).1
  have hi1 : (resR gr m p ++ (p.FL.map FD.row ++ T))[1]? = some (.row 122 2 (.slice (some ⟨g, 0, none⟩) p.FL.length p.Fc) p.FL.length (p.FL.flatMap FD.cells)) := by rw [← hg]; rfl
  obtain ⟨w1, r1, h1⟩ := hS.stRowK hi1 (T := 3) (intS _) (j := i * 2 + 1) (by omega) (v := .int .i64 (n : Int)) rfl
  refine ⟨w1, by rw [Int.toNat_natCast, Nat.zero_add]; exact r1, ?_⟩
  have e1 : (p.FL.flatMap FD.cells).set (i * 2 + 1) (.int .i64 (n : Int)) = (p.FL.set i ⟨f.a, f.c, f.data, n⟩).flatMap FD.cells := flatMap_set (fun z _ => FD.cells_len z) hf (by decide) rfl
  have e2 : (p.FL.set i ⟨f.a, f.c, f.data, n⟩).map FD.row = p.FL.map FD.row := by
    rw [List.map_set]
    have : (p.FL.map FD.row)[i]? = some (FD.row ⟨f.a, f.c, f.data, n⟩) := by rw [List.getElem?_map, hf]; rfl
    obtain ⟨h1, h2⟩ := List.getElem?_eq_some_iff.1 this
    rw [← h2, List.set_getElem_self]
  rw [e1] at h1
  rw [e2]
  have e3 : (p.FL.set i ⟨f.a, f.c, f.data, n⟩).length = p.FL.length := by simp
  unfold resR rdL
  simp only [e3, hg]
  unfold resR rdL at h1
  simp only [hg] at h1
  exact h1

theorem rsync_spec (n : Nm) (h : RefIn w0 X w gr m N) (hb : m.steps < 4611686018427387904) :
    Calls Try.prog 53 #[.pointer (some ⟨gr, 0, none⟩), strV n] w fun e w' => e = .returned (.int .i64 ((syncM m n).2.getD 0)) ∧ RefIn w0 X w' gr (syncM m n).1 N := by
  have hw := h.wf
  apply amphoraref01_Disk_Sync_vc
  refine (rfound_spec n h).mono ?_
  rintro e w1 ⟨rfl, rfl⟩
  refine ⟨_, _, rfl, fun hne => ?_, fun hok => ?_⟩
  · cases hf : foundE m n with
    | none => rw [hf] at hne; simp at hne
    | some e =>
      have : syncM m n = (m, some e) := by unfold syncM; rw [hf]
      rw [this]; exact ⟨rfl, h⟩
  have hfn : foundE m n = none := by
    cases hf : foundE m n with
    | none => rfl
    | some e => rw [hf] at hok; simp at hok; exact absurd hok (foundE_pos hf).1
  rw [if_pos hfn]
  obtain ⟨hil, _⟩ := foundI_lt hw hfn
  have hap : syncM m n = stepsM m fun m' => syncF m' (foundI m n) := by simp only [syncM, hfn]
  refine (rstep_spec h hb).mono ?_
  rintro e w2 ⟨rfl, h2⟩
  obtain ⟨e1, e2, e3, e4, _⟩ := stepM_same m
  refine ⟨_, rfl, fun w' => RefIn w0 X w' gr (syncM m n).1 N, ⟨fun hz => ?_, fun hz => ?_⟩, ?_⟩
  · have hst : (stepM m).2 = none := by
      cases hq : (stepM m).2 with
      | none => rfl
      | some e => rw [hq] at hz; simp at hz; exact absurd hz (stepM_pos hq)
    have hres : syncM m n = (syncF (stepM m).1 (foundI m n), none) := by rw [hap]; unfold stepsM; rw [hst]
    rw [hres]
    obtain ⟨m1, hm1⟩ : ∃ m1, (stepM m).1 = m1 := ⟨_, rfl⟩
    rw [hm1] at h2 e1 ⊢
    obtain ⟨j, hj⟩ : ∃ j, foundI m n = j := ⟨_, rfl⟩
    rw [hj] at hil ⊢
    obtain ⟨p, hp, hS⟩ := h2
    obtain ⟨f, hf, hfm, hfs, hfl⟩ := hp.file (i := j) (by rw [e1]; exact hil)
    have hfi := (List.getElem?_eq_some_iff.1 hf).1
    obtain ⟨g, hg⟩ := filesHead hS hfi
    have hSd := hS.drew
    obtain ⟨w3, r3, h3⟩ := St.putSyn hg hf hSd f.data.length
    have hok' := hp.updFile (i := j) (f' := ⟨f.a, f.c, f.data, f.data.length⟩) ⟨Nat.le_refl _, hfl⟩
    refine ⟨fun w' => Chg [] w2 w', Chg.drew _ _, _, _, _, fun w' hw' => RefIn.cell (hS.same hw') (i := 1) (fsA _) rfl, _, _, _, fun w' hw' => RefIn.cell (hS.same hw') (i := 1) (fsA _) rfl, g, 0, hg, by omega, by omega, _, _, _, fun w' hw' => (St.ldF hg hf (hS.same hw')).1, g, 0, hg, by omega, by omega, w3, r3, ?_⟩
    have hmm : syncF m1 j = { m1 with files := setF m1.files j fun _ => (⟨f.a, f.c, f.data, f.data.length⟩ : FD).m } := by
      unfold syncF setF
      rw [hfm]; rfl
    rw [hmm]
    exact ⟨_, hok', h3⟩
  · cases hq : (stepM m).2 with
    | none => rw [hq] at hz; simp at hz
    | some e =>
      have : syncM m n = ((stepM m).1, some e) := by rw [hap]; unfold stepsM; rw [hq]
      rw [this]; exact h2
  · rintro w4 h4
    refine ⟨?_, h4⟩
    rw [hap]
    unfold stepsM
    cases hq : (stepM m).2 <;> rfl

theorem rsyncDir_spec (h : RefIn w0 X w gr m N) (hb : m.steps < 4611686018427387904) :
    Calls Try.prog 54 #[.pointer (some ⟨gr, 0, none⟩)] w fun e w' => e = .returned (.int .i64 ((syncDirM m).2.getD 0)) ∧ RefIn w0 X w' gr (syncDirM m).1 N := by
  apply amphoraref01_Disk_SyncDir_vc
  have hcell : (Instr.loadAt 4 (.pointer (some ⟨gr, 6, none⟩))).run Try.prog w = .ok (.bool m.down) w := by
    obtain ⟨p, hp, hS⟩ := h
    exact RefIn.cell hS (i := 6) (boolA _) rfl
  refine ⟨_, hcell, fun hd => ?_, fun hd => (rstep_spec h hb).mono ?_⟩
  · have : syncDirM m = (m, some 1) := by
      unfold syncDirM readyM
      rw [if_pos hd]
    rw [this]; exact ⟨rfl, h⟩
  · rintro e w1 ⟨rfl, h1⟩
    have hap : syncDirM m = stepsM m syncDirF := by
      have : readyM m [] = none := by unfold readyM; rw [if_neg (by rw [hd]; simp)]; rfl
      unfold syncDirM; rw [this]
    refine ⟨_, rfl, fun w' => RefIn w0 X w' gr (syncDirM m).1 N, ⟨fun hz => ?_, fun hz => ?_⟩, ?_⟩
    · have hst : (stepM m).2 = none := by
        cases hq : (stepM m).2 with
        | none => rfl
        | some e => rw [hq] at hz; simp at hz; exact absurd hz (stepM_pos hq)
      have hres : syncDirM m = (syncDirF (stepM m).1, none) := by rw [hap]; unfold stepsM; rw [hst]
      rw [hres]
      obtain ⟨m1, hm1⟩ : ∃ m1, (stepM m).1 = m1 := ⟨_, rfl⟩
      rw [hm1] at h1 ⊢
      obtain ⟨p, hp, hS⟩ := h1
      obtain ⟨w4, r4, h4⟩ := hS.stL (i := 0) (o := 3) (off := 3) (T := 99) (v := .slice p.na m1.now.length p.nc) rfl (nsS _) rfl (by simp [rdL]) rfl
      obtain ⟨w5, r5, h5⟩ := h4.stL (i := 0) (o := 4) (off := 4) (T := 100) (v := .slice none 0 0) rfl (csS _) rfl (by simp [rdL]) rfl
      have h6 := h5.upd (i := 2) (r' := .row 124 3 (.slice none 0 0) 0 []) rfl (Chg.refl _ _) (World.ownsRow_nil _ _ _ _) (by simp [Res.fp, Value.ownBlock])
      refine ⟨_, _, _, RefIn.cell hS (i := 2) (nsA _) rfl, w4, r4, w5, r5, { p with sa := p.na, sc := p.nc, ca := none, cc := 0 }, ?_, h6⟩
      exact ⟨⟨rfl, fun k => by show OkDir _ (replay m1.now (([] : List ChM).take k)); rw [List.take_nil]; exact hp.wf.okNow, by simp [syncDirF], hp.wf.syn, hp.wf.size⟩, Live.none rfl, hp.files, hp.now, hp.now, hp.arm, hp.fails, hp.flen⟩
    · cases hq : (stepM m).2 with
      | none => rw [hq] at hz; simp at hz
      | some e =>
        have : syncDirM m = ((stepM m).1, some e) := by rw [hap]; unfold stepsM; rw [hq]
        rw [this]; exact h1
    · rintro w4 h4
      refine ⟨?_, h4⟩
      rw [hap]
      unfold stepsM
      cases hq : (stepM m).2 <;> rfl

end

open Go Sx
set_option maxRecDepth 8000

section
variable {w0 w w' : World} {X : List Nat} {N N' T : List Res} {gr : Nat} {m : DiskM}

/-- A file's bytes are told anew, by a row that is held. -/
theorem St.putData {p : RP} {g : Nat} (hg : p.Fa = some ⟨g, 0, none⟩) {i : Nat} {f : FD} (hf : p.FL[i]? = some f) {va : Option Addr} {vc : Nat} {data : List UInt8}
    (hS : St w0 X w (resR gr m p ++ (p.FL.map FD.row ++ (T ++ [.row 5 1 (.slice va data.length vc) data.length (bv data)])))) :
    ∃ w', (Instr.storeAt 22 (.pointer (some ⟨g, 0 + Int.toNat (i : Int) * 2, none⟩)) (.slice va data.length vc)).run Try.prog w = .ok () w' ∧ St w0 X w' (resR gr { m with files := setF m.files i fun _ => (⟨va, vc, data, f.syn⟩ : FD).m } { p with FL := p.FL.set i ⟨va, vc, data, f.syn⟩ } ++ ((p.FL.set i ⟨va, vc, data, f.syn⟩).map FD.row ++ T)) := by
  have hil := (List.getElem?_eq_some_iff.1 hf).1
  have hi1 : (resR gr m p ++ (p.FL.map FD.row ++ (T ++ [.row 5 1 (.slice va data.length vc) data.length (bv data)])))[1]? = some (.row 122 2 (.slice (some ⟨g, 0, none⟩) p.FL.length p.Fc) p.FL.length (p.FL.flatMap FD.cells)) := by rw [← hg]; rfl
  obtain ⟨w1, r1, h1⟩ := hS.stRowK hi1 (T := 22) (bsS _) (j := i * 2 + 0) (by omega) (v := .slice va data.length vc) rfl
  refine ⟨w1, by rw [Int.toNat_natCast, Nat.zero_add]; exact r1, ?_⟩
  have e1 : (p.FL.flatMap FD.cells).set (i * 2 + 0) (.slice va data.length vc) = (p.FL.set i ⟨va, vc, data, f.syn⟩).flatMap FD.cells := flatMap_set (fun z _ => FD.cells_len z) hf (by decide) rfl
  rw [e1] at h1
  have e3 : (p.FL.set i ⟨va, vc, data, f.syn⟩).length = p.FL.length := by simp
  have h2 : St w0 X w1 (resR gr { m with files := setF m.files i fun _ => (⟨va, vc, data, f.syn⟩ : FD).m } { p with FL := p.FL.set i ⟨va, vc, data, f.syn⟩ } ++ (p.FL.map FD.row ++ (T ++ [.row 5 1 (.slice va data.length vc) data.length (bv data)]))) := by
    unfold resR rdL
    simp only [e3, hg]
    unfold resR rdL at h1
    simp only [hg] at h1
    exact h1
  have h3 := (h2.perm (perm_FD hf _ _)).tail
  have hq := perm_FD (FL := p.FL.set i ⟨va, vc, data, f.syn⟩) (i := i) (f := ⟨va, vc, data, f.syn⟩) (by rw [List.getElem?_set_self hil]) (resR gr { m with files := setF m.files i fun _ => (⟨va, vc, data, f.syn⟩ : FD).m } { p with FL := p.FL.set i ⟨va, vc, data, f.syn⟩ }) T
  rw [eraseIdx_setD] at hq
  refine (h3.perm ?_).perm hq.symm
  rw [← List.append_assoc, ← List.append_assoc]
  refine List.Perm.trans (List.Perm.of_eq ?_) (List.perm_append_comm (l₁ := resR gr { m with files := setF m.files i fun _ => (⟨va, vc, data, f.syn⟩ : FD).m } { p with FL := p.FL.set i ⟨va, vc, data, f.syn⟩ } ++ ((p.FL.eraseIdx i).map FD.row ++ T)) (l₂ := [.row 5 1 (.slice va data.length vc) data.length (bv data)]))
  simp [List.append_assoc]

set_option maxHeartbeats 1000000 in
theorem rappend_spec (n : Nm) (a : Option Addr) (k c : Nat) (vs : List Value) (qs : List (List UInt8)) (h : RefIn w0 X w gr m N) (hr : Rd w a k c 1 vs) (h2 : Row2 w vs qs) (hb : m.steps < 4611686018427387904) (hk : k ≤ 1000000000) :
    Calls Try.prog 52 #[.pointer (some ⟨gr, 0, none⟩), strV n, .slice a k c] w fun e w' => e = .returned (.int .i64 ((appendM m n qs).2.getD 0)) ∧ RefIn w0 X w' gr (appendM m n qs).1 N := by
  have hw := h.wf
  have hqk : qs.length = k := by
    have := hr.len
    have := h2.len
    omega
  apply amphoraref01_Disk_Append_vc
  refine (rfound_spec n h).mono ?_
  rintro e w1 ⟨rfl, rfl⟩
  refine ⟨_, _, rfl, fun hne => ?_, fun hok => ?_⟩
  · cases hf : foundE m n with
    | none => rw [hf] at hne; simp at hne
    | some e =>
      have : appendM m n qs = (m, some e) := by unfold appendM; rw [hf]
      rw [this]; exact ⟨rfl, h⟩
  have hfn : foundE m n = none := by
    cases hf : foundE m n with
    | none => rfl
    | some e => rw [hf] at hok; simp at hok; exact absurd hok (foundE_pos hf).1
  rw [if_pos hfn]
  obtain ⟨hil, e0, he0, hen, hef, _⟩ := foundI_lt hw hfn
  have hap : appendM m n qs = if fits (m.size - usedM m) qs then stepsM m fun m' => appendF m' (foundI m n) qs else (m, some 3) := by simp only [appendM, hfn]
  have hsz := hw.size
  have hus := usedM_le hw
  obtain ⟨j, hj⟩ : ∃ j, foundI m n = j := ⟨_, rfl⟩
  rw [hj] at hil hef hap ⊢
  obtain ⟨p, hp, hS⟩ := h
  obtain ⟨f, hf, hfm, hfs, hfl⟩ := hp.file hil
  obtain ⟨g, hg⟩ := filesHead hS (List.getElem?_eq_some_iff.1 hf).1
  have hdu : f.data.length ≤ usedM m := by
    refine le_sum_of_mem _ _ (List.mem_map.2 ⟨e0, he0, ?_⟩)
    rw [hef, hfm]; rfl
  obtain ⟨g2, w2, r2, k2⟩ := (St.start w1).lit bT [] (by simp) (by simp)
  have hS2 := hS.same k2.chg
  obtain ⟨l1, _, l3⟩ := St.ldF hg hf hS2
  obtain ⟨va, vc, w3, r3, k3⟩ := k2.appendB (i := 0) (xs := []) rfl l3 (by simp; omega)
  simp only [List.length_nil, Nat.zero_add, List.nil_append] at r3 k3
  have k3 : St w1 [] w3 [.row 5 1 (.slice va f.data.length vc) f.data.length (bv f.data)] := k3
  have hR3 : RefIn w0 X w3 gr m N := RefIn.same ⟨p, hp, hS⟩ k3.chg
  have k3d := k3.drew
  have wr : IntKind.wrap .i64 (m.size - (usedM m : Int)) = m.size - (usedM m : Int) := wrap_i64 (by omega) (by omega)
  refine ⟨_, _, _, w2, r2, _, _, _, RefIn.cell hS2 (i := 1) (fsA _) rfl, g, 0, hg, by omega, by have := (List.getElem?_eq_some_iff.1 hf).1; omega, _, _, _, l1, _, _, _, w3, r3, fun w' => Chg [] w1 w', k3d.chg, _, fun w' hw' => RefIn.cell (hS.same hw') (i := 0) (intA _) rfl, (rused_spec (hR3.same (Chg.drew _ _))).mono ?_⟩
  rintro e w4 ⟨rfl, c4⟩
  have k4 := k3d.same c4
  refine ⟨_, rfl, fun w' => Chg [] w1 w', fun _ h => h, k4.chg, ?_⟩
  rw [wr]
  refine ⟨fun xa xn xc x y w' => ∃ i : Nat, y = (i : Int) ∧ i ≤ k ∧ xn = (f.data ++ (qs.take i).flatten).length ∧ x = m.size - (usedM m : Int) - ((qs.take i).flatten.length : Int) ∧ (i = 0 ∨ 0 ≤ x) ∧ fits (m.size - usedM m) qs = fits x (qs.drop i) ∧ St w1 [] w' [.row 5 1 (.slice xa xn xc) xn (bv (f.data ++ (qs.take i).flatten))], fun _ _ _ _ y _ => k - y.toNat, ⟨0, rfl, by omega, by simp, by simp, .inl rfl, by simp, by simpa using k4⟩, ?_⟩
  rintro xa xn xc x y w5 ⟨i, rfl, hi, rfl, rfl, hpos, hfit, k5⟩
  have hS5 := hS.same k5.chg
  have hfl0 : (qs.take i).flatten.length ≤ 67108864 := by
    rcases hpos with rfl | h
    · simp
    · omega
  refine ⟨fun hlt => ?_, fun hge => ?_⟩
  · have hi' : i < k := by simp at hlt; omega
    obtain ⟨b, o, a', n', c', ha, hv, hrd, q⟩ := ixS hr.cells h2 (i := i) (by omega)
    have hln := hrd.lenB
    have hdr : qs.drop i = qs.getD i [] :: qs.drop (i + 1) := by rw [List.drop_eq_getElem_cons (by omega)]; simp [List.getD, show i < qs.length by omega]
    rw [hdr, fits, hln] at hfit
    have htk := flat_take (ls := qs) (i := i) (by omega)
    refine ⟨b, o, ha, by omega, by omega, _, _, _, q w5 (hr.keep0 k5.chg).cells, fun hgt => ?_, fun hle => ?_⟩
    · have : ¬ ((n' : Int) ≤ m.size - (usedM m : Int) - ((qs.take i).flatten.length : Int)) := by simp only [decide_eq_true_eq] at hgt; omega
      rw [hap, hfit]
      simp only [this, decide_false, Bool.false_and, Bool.false_eq_true, if_false]
      exact ⟨rfl, p, hp, hS5⟩
    · have hle : (n' : Int) ≤ m.size - (usedM m : Int) - ((qs.take i).flatten.length : Int) := by simp only [decide_eq_false_iff_not] at hle; omega
      rw [decide_eq_true hle, Bool.true_and] at hfit
      obtain ⟨ua, uc, w6, r6, k6⟩ := k5.appendB (i := 0) (xs := f.data ++ (qs.take i).flatten) rfl (hrd.keep0 k5.chg) (by simp only [List.length_append]; omega)
      have e2 : f.data ++ (qs.take (i + 1)).flatten = f.data ++ (qs.take i).flatten ++ qs.getD i [] := by rw [htk, List.append_assoc]
      have e3 : (f.data ++ (qs.take (i + 1)).flatten).length = (f.data ++ (qs.take i).flatten).length + n' := by rw [e2, List.length_append, hln]
      have e4 : ((qs.take (i + 1)).flatten.length : Int) = ((qs.take i).flatten.length : Int) + (n' : Int) := by rw [htk, List.length_append, hln]; omega
      have wx : IntKind.wrap .i64 (m.size - (usedM m : Int) - ((qs.take i).flatten.length : Int) - (n' : Int)) = m.size - (usedM m : Int) - ((qs.take i).flatten.length : Int) - (n' : Int) := wrap_i64 (by omega) (by omega)
      refine ⟨b, o, ha, by omega, by omega, _, _, _, q w5 (hr.keep0 k5.chg).cells, b, o, ha, by omega, by omega, _, _, _, q w5 (hr.keep0 k5.chg).cells, ua, _, uc, w6, r6, ?_⟩
      rw [wx]
      refine ⟨⟨i + 1, wrap_succ hi' (by omega), by omega, by rw [e3], by rw [e4]; omega, .inr (by omega), hfit, ?_⟩, mu_succ hi' (by omega)⟩
      rw [e2]
      exact k6
  · have hi' : i = k := by simp at hge; omega
    subst hi'
    have hft : fits (m.size - usedM m) qs = true := by rw [hfit, List.drop_of_length_le (by omega)]; rfl
    have hall : qs.take i = qs := List.take_of_length_le (by omega)
    rw [hall] at k5 hfl0
    rw [hft, if_pos rfl] at hap
    have hRef : RefIn w0 X w5 gr m (N ++ [.row 5 1 (.slice xa (f.data ++ qs.flatten).length xc) (f.data ++ qs.flatten).length (bv (f.data ++ qs.flatten))]) := RefIn.addSt ⟨p, hp, hS⟩ k5
    have hdl : (f.data ++ qs.flatten).length ≤ 1099511627776 := by
      rcases fits_le qs _ hft with rfl | hle
      · simpa using hfl
      · rw [List.length_append]; omega
    clear hS2 l1 l3
    refine (rstep_spec hRef hb).mono ?_
    rintro e w7 ⟨rfl, h7⟩
    obtain ⟨e1, _, e3, e4, _⟩ := stepM_same m
    refine ⟨_, rfl, fun w' => RefIn w0 X w' gr (appendM m n qs).1 N, ⟨fun hz => ?_, fun hz => ?_⟩, ?_⟩
    · have hst : (stepM m).2 = none := by
        cases hq : (stepM m).2 with
        | none => rfl
        | some e => rw [hq] at hz; simp at hz; exact absurd hz (stepM_pos hq)
      have hres : appendM m n qs = (appendF (stepM m).1 j qs, none) := by rw [hap]; unfold stepsM; rw [hst]
      rw [hres]
      obtain ⟨m1, hm1⟩ : ∃ m1, (stepM m).1 = m1 := ⟨_, rfl⟩
      rw [hm1] at h7 e1 ⊢
      obtain ⟨q, hq, hSq⟩ := h7
      obtain ⟨f1, hf1, hfm1, hfs1, _⟩ := hq.file (i := j) (by rw [e1]; exact hil)
      have hsame : f1.data = f.data ∧ f1.syn = f.syn := by
        rw [e1, hfm] at hfm1
        exact ⟨(congrArg FileM.data hfm1).symm, (congrArg FileM.syn hfm1).symm⟩
      obtain ⟨g1, hg1⟩ := filesHead hSq (List.getElem?_eq_some_iff.1 hf1).1
      have hSq' : St w0 X w7 (resR gr m1 q ++ (q.FL.map FD.row ++ ((q.P ++ N) ++ [.row 5 1 (.slice xa (f.data ++ qs.flatten).length xc) (f.data ++ qs.flatten).length (bv (f.data ++ qs.flatten))]))) := by rw [List.append_assoc]; exact hSq
      obtain ⟨w8, r8, h8⟩ := St.putData hg1 hf1 hSq'
      have hok' := hq.updFile (i := j) (f' := ⟨xa, xc, f.data ++ qs.flatten, f1.syn⟩) ⟨by show f1.syn ≤ (f.data ++ qs.flatten).length; rw [List.length_append, ← hsame.1]; omega, hdl⟩
      have e9 : (f.data ++ (qs.take i).flatten).length = (f.data ++ qs.flatten).length := by rw [hall]
      refine ⟨_, _, _, RefIn.cell hSq (i := 1) (fsA _) rfl, g1, 0, hg1, by omega, by have := (List.getElem?_eq_some_iff.1 hf1).1; omega, w8, by rw [e9]; exact r8, ?_⟩
      have hmm : appendF m1 j qs = { m1 with files := setF m1.files j fun _ => (⟨xa, xc, f.data ++ qs.flatten, f1.syn⟩ : FD).m } := by
        unfold appendF setF
        have : (⟨(fileAt m1.files j).data ++ qs.flatten, (fileAt m1.files j).syn⟩ : FileM) = (⟨xa, xc, f.data ++ qs.flatten, f1.syn⟩ : FD).m := by
          rw [hfm1]
          show (⟨f1.data ++ qs.flatten, f1.syn⟩ : FileM) = ⟨f.data ++ qs.flatten, f1.syn⟩
          rw [hsame.1]
        simp only [this]
      rw [hmm]
      exact ⟨_, hok', h8⟩
    · cases hq : (stepM m).2 with
      | none => rw [hq] at hz; simp at hz
      | some e =>
        have : appendM m n qs = ((stepM m).1, some e) := by rw [hap]; unfold stepsM; rw [hq]
        rw [this]; exact h7.subN (List.sublist_append_left _ _)
    · rintro w9 h9
      refine ⟨?_, h9⟩
      rw [hap]
      unfold stepsM
      cases hq : (stepM m).2 <;> rfl

end

open Go Sx
set_option maxRecDepth 8000

theorem last2 {α : Type} (B : List α) (x y : α) : ((B ++ [x]) ++ [y]).Perm ((B ++ [y]) ++ [x]) := by
  rw [List.append_assoc, List.append_assoc]
  exact List.Perm.append_left B (.swap _ _ _)

theorem okdir_change {k : Nat} {d : Dir} (hn : OkDir k d) {c : ChM} (hc : c.made = none) (hto : c.to = [] ∨ goodN c.to = true) : OkDir k (mkD d c) := by
  unfold mkD
  rw [hc]
  cases hf : findD d c.fr with
  | none => exact hn
  | some e =>
    obtain ⟨h1, h2⟩ := findA_mem hf
    simp only
    split
    · exact hn.del _
    · rename_i hne
      refine (hn.del c.fr).ins (hn.ent e h1).1 (hto.resolve_left hne) (.inl ?_) fun x hx hxn hfe => ?_
      · have := delA_len_in hf; have := hn.len; omega
      · obtain ⟨h3, h4⟩ := mem_delA.1 hx
        have := hn.inj' h3 h1 hfe
        rw [this] at h4
        exact h4 h2

theorem cT : ElemT Try.prog 100 124 3 40 (.agg #[.int .i64 0, .string ByteArray.empty, .string ByteArray.empty]) := ⟨by kernel_rfl, ⟨Try.t124, by kernel_rfl, by kernel_rfl, by kernel_rfl, by kernel_rfl⟩, rfl, by decide⟩
theorem cZ (w : World) : (zeroValue 124).run Try.prog w = .ok (.agg [Value.int .i64 0, strV [], strV []].toArray) w := Try.zeroValue124 w
theorem cSz (w : World) : (sizeOf 124).run Try.prog w = .ok 3 w := Try.sizeOf124 w
theorem cAg (w : World) : (isAgg 124).run Try.prog w = .ok true w := Try.isAgg124 w
theorem built_c : Try.prog.built 124 = fun parts => Instr.fill (fun i => (#[(0, 1), (1, 1), (2, 1)] : Array (Nat × Nat))[i]?) #[.int .i64 0, .string ⟨#[]⟩, .string ⟨#[]⟩] parts := by kernel_rfl
theorem c_build012 (n : Int) (a b : Nm) (w : World) : (Instr.build 124 #[(0, .int .i64 n), (1, strV a), (2, strV b)]).run Try.prog w = .ok (.agg #[.int .i64 n, strV a, strV b]) w := by
  apply run_build
  rw [built_c]
  show Instr.fill _ _ [(0, _), (1, strV a), (2, strV b)] = _
  rw [fill_step (off := 0) (sz := 1) rfl rfl (by simp), fill_step (off := 1) (sz := 1) rfl rfl (by simp [Value.cells, strV]), fill_step (off := 2) (sz := 1) rfl rfl (by simp [Value.cells, strV])]
  rfl
theorem c_build01 (n : Int) (a : Nm) (w : World) : (Instr.build 124 #[(0, .int .i64 n), (1, strV a)]).run Try.prog w = .ok (.agg #[.int .i64 n, strV a, strV []]) w := by
  apply run_build
  rw [built_c]
  show Instr.fill _ _ [(0, _), (1, strV a)] = _
  rw [fill_step (off := 0) (sz := 1) rfl rfl (by simp), fill_step (off := 1) (sz := 1) rfl rfl (by simp [Value.cells, strV])]
  rfl
theorem c_build02 (n : Int) (b : Nm) (w : World) : (Instr.build 124 #[(0, .int .i64 n), (2, strV b)]).run Try.prog w = .ok (.agg #[.int .i64 n, strV [], strV b]) w := by
  apply run_build
  rw [built_c]
  show Instr.fill _ _ [(0, _), (2, strV b)] = _
  rw [fill_step (off := 0) (sz := 1) rfl rfl (by simp), fill_step (off := 2) (sz := 1) rfl rfl (by simp [Value.cells, strV])]
  rfl

section
variable {w0 w w' : World} {X : List Nat} {N N' T : List Res} {gr : Nat} {m : DiskM}

/-- A row goes to the pool. -/
theorem poolAdd {R F P : List Res} {r : Res} (h : St w0 X w ((R ++ (F ++ (P ++ N))) ++ [r])) : St w0 X w (R ++ (F ++ ((P ++ [r]) ++ N))) := by
  refine h.perm ?_
  have e : (R ++ (F ++ (P ++ N))) ++ [r] = R ++ (F ++ (P ++ (N ++ [r]))) := by simp [List.append_assoc]
  rw [e, List.append_assoc]
  exact List.Perm.append_left _ (List.Perm.append_left _ (List.Perm.append_left _ List.perm_append_comm))

set_option maxHeartbeats 1000000 in
/-- The directory changes, and the change is noted. -/
theorem noteR {p : RP} (hp : ROk m p) (c : ChM) (hlive : c.made = none → (findD m.now c.fr).isSome = true) (hmade : ∀ i, c.made = some i → i < m.files.length) (hokd : OkDir m.files.length (mkD m.now c)) {g : Nat} (hS : St w0 X w ((resR gr m p ++ (p.FL.map FD.row ++ (p.P ++ N))) ++ [.arr g 124 (chR c)])) (hc : m.chs.length < 1000000000) {R' : World → Prop} (hend : ∀ w12, RefIn w0 X w12 gr (doCh m c) N → R' w12) :
    ∃ S : World → Prop, S w.drew ∧
      (∃ (t42a : Option Addr) (t42n : Nat) (t42c : Nat), (∀ w' : World, S w' → (Instr.loadAt 99 (.pointer (some ⟨gr, 0 + 2, none⟩))).run Try.prog w' = .ok (.slice t42a t42n t42c) w') ∧
        (∃ (t43 : Array Value), (∀ w' : World, S w' → (Instr.loadAt 124 (.pointer (some ⟨g, 0, none⟩))).run Try.prog w' = .ok (.agg t43) w') ∧
          (Calls Try.prog 75 #[(.slice t42a t42n t42c), (.agg t43)] w.drew fun (e44 : Ending) (w8 : World) => ∃ (t44a : Option Addr) (t44n : Nat) (t44c : Nat), e44 = .returned (.slice t44a t44n t44c) ∧
            (∃ S_1 : World → Prop, (∀ w' : World, S_1 w' → S w') ∧ S_1 w8 ∧
              (∃ w9 : World, (Instr.storeAt 99 (.pointer (some ⟨gr, 0 + 2, none⟩)) (.slice t44a t44n t44c)).run Try.prog w8 = .ok () w9 ∧
                (∃ S_2 : World → Prop, S_2 w9.drew ∧
                  (∃ (t51a : Option Addr) (t51n : Nat) (t51c : Nat), (∀ w' : World, S_2 w' → (Instr.loadAt 100 (.pointer (some ⟨gr, 0 + 4, none⟩))).run Try.prog w' = .ok (.slice t51a t51n t51c) w') ∧
                    (∃ (t52 : Array Value), (∀ w' : World, S_2 w' → (Instr.loadAt 124 (.pointer (some ⟨g, 0, none⟩))).run Try.prog w' = .ok (.agg t52) w') ∧
                      (∃ (t53a : Option Addr) (t53n : Nat) (t53c : Nat) (w10 : World), (Instr.buildSlice 100 1 #[(0, (.agg t52))]).run Try.prog w9.drew = .ok (.slice t53a t53n t53c) w10 ∧
                        (∃ S_3 : World → Prop, (∀ w' : World, S_3 w' → S_2 w') ∧ S_3 w10 ∧
                          (∃ (t54a : Option Addr) (t54n : Nat) (t54c : Nat) (w11 : World), (Builtin.append_ #[100, 100] 100 #[(.slice t51a t51n t51c), (.slice t53a t53n t53c)]).run Try.prog w10 = .ok (.slice t54a t54n t54c) w11 ∧
                            (∃ S_4 : World → Prop, (∀ w' : World, S_4 w' → S_3 w') ∧ S_4 w11 ∧
                              (∃ w12 : World, (Instr.storeAt 100 (.pointer (some ⟨gr, 0 + 4, none⟩)) (.slice t54a t54n t54c)).run Try.prog w11 = .ok () w12 ∧
                                (R' w12)))))))))))))) := by
  have hw := hp.wf
  have hnl := hw.okNow.len
  have hSb := St.pop hS
  have hrn : RdN w.drew p.na m.now.length p.nc m.now := (poolRd hSb hp.now).keep0 (Chg.drew _ _)
  refine ⟨fun w' => Chg [] w w', Chg.drew _ _, _, _, _, fun w' hw' => RefIn.cell (hSb.same hw') (i := 2) (nsA _) rfl, (chR c).toArray, fun w' hw' => (hS.same hw').ldA (l := chR c) getLast' (cAg _) (cSz _) (chR_len _), (made_spec _ _ _ m.now c w.drew hrn hw.okNow.asc (fun h _ => hlive h) (by omega)).mono ?_⟩
  rintro e w8 ⟨a8, c8, rfl, k8⟩
  have c8' : Chg [] w w8 := (Chg.drew [] w).trans k8.chg
  have h8 : St w0 X w8 (((resR gr m p ++ (p.FL.map FD.row ++ (p.P ++ N))) ++ [.arr g 124 (chR c)]) ++ [rowN a8 c8 (mkD m.now c)]) := Sx.St.callPart (N := []) (by rw [List.append_nil]; exact hS.drew) k8
  obtain ⟨w9, r9, h9⟩ := h8.stL (i := 0) (o := 2) (off := 0 + 2) (T := 99) (v := .slice a8 (mkD m.now c).length c8) rfl (nsS _) rfl (by simp [rdL]) rfl
  have h9a : St w0 X w9 (((resR gr { m with now := mkD m.now c } { p with na := a8, nc := c8 } ++ (p.FL.map FD.row ++ (p.P ++ N))) ++ [.arr g 124 (chR c)]) ++ [rowN a8 c8 (mkD m.now c)]) := h9
  have h9b : St w0 X w9 (((resR gr { m with now := mkD m.now c } { p with na := a8, nc := c8 } ++ (p.FL.map FD.row ++ (p.P ++ N))) ++ [rowN a8 c8 (mkD m.now c)]) ++ [.arr g 124 (chR c)]) := by
    exact h9a.perm (last2 _ _ _)
  have h9d := h9b.drew
  obtain ⟨g10, w10, vb, vd, w11, r10, r11, h11, h10⟩ := h9d.pushA (i := 2) (ty := 100) cT rfl (chR c) (chR_len _) (by decide) (chR_one _) (by show (m.chs.length + 1) * 40 ≤ _; omega) (by show m.chs.length + 1 ≤ _; simp only [maxLen]; omega)
  have r11 : (Builtin.append_ #[100, 100] 100 #[.slice p.ca m.chs.length p.cc, .slice (some ⟨g10, 0, none⟩) 1 1]).run Try.prog w10 = .ok (.slice vb (m.chs.length + 1) vd) w11 := r11
  obtain ⟨w12, r12, h12⟩ := h11.stL (i := 0) (o := 4) (off := 0 + 4) (T := 100) (v := .slice vb (m.chs.length + 1) vd) rfl (csS _) rfl (by simp [rdL]) rfl
  have hlt2 : 2 < ((resR gr { m with now := mkD m.now c } { p with na := a8, nc := c8 } ++ (p.FL.map FD.row ++ (p.P ++ N))) ++ [rowN a8 c8 (mkD m.now c)]).length := by simp only [resR, List.length_append, List.length_cons]; omega
  have h11' := h11
  rw [List.set_append_left _ _ hlt2] at h11'
  refine ⟨a8, _, c8, rfl, fun w' => Chg [] w w', fun _ h => h, c8', w9, r9, fun w' => ∃ Y, St w0 X w' ((.arr gr 102 (rdL { m with now := mkD m.now c } { p with na := a8, nc := c8 }) :: Y) ++ [.arr g 124 (chR c)]), ⟨_, h9d⟩, p.ca, m.chs.length, p.cc, fun w' ⟨Y, hY⟩ => hY.ldL (i := 0) (o := 4) rfl (csA _) rfl rfl, (chR c).toArray, fun w' ⟨Y, hY⟩ => hY.ldA (l := chR c) getLast' (cAg _) (cSz _) (chR_len _), _, _, _, w10, r10, fun w' => ∃ Y, St w0 X w' ((.arr gr 102 (rdL { m with now := mkD m.now c } { p with na := a8, nc := c8 }) :: Y) ++ [.arr g 124 (chR c)]), fun _ h => h, ⟨_, h10⟩, vb, _, vd, w11, r11, fun w' => ∃ Y, St w0 X w' ((.arr gr 102 (rdL { m with now := mkD m.now c } { p with na := a8, nc := c8 }) :: Y) ++ [.arr g 124 (chR c)]), fun _ h => h, ⟨_, h11'⟩, w12, r12, hend w12 ?_⟩
  have el : (m.chs ++ [c]).length = m.chs.length + 1 := by simp
  have ef : (m.chs ++ [c]).flatMap chR = m.chs.flatMap chR ++ chR c := by simp
  refine ⟨{ p with na := a8, nc := c8, ca := vb, cc := vd, P := p.P ++ [rowN a8 c8 (mkD m.now c)] }, ⟨hw.snoc (Nat.le_refl _) hw.syn hmade hokd, hp.live.note hw hlive, hp.files, by simp [doCh], List.mem_append_left _ hp.syn, hp.arm, hp.fails, hp.flen⟩, poolAdd ?_⟩
  have h13 : St w0 X w12 (((resR gr (doCh m c) { p with na := a8, nc := c8, ca := vb, cc := vd } ++ (p.FL.map FD.row ++ (p.P ++ N))) ++ [rowN a8 c8 (mkD m.now c)]) ++ [.arr g 124 (chR c)]) := by
    unfold resR rdL doCh
    show St w0 X w12 (((.arr gr 102 [_, _, _, _, .slice vb (m.chs ++ [c]).length vd, _, _, _, _] :: .row _ _ _ _ _ :: .row _ _ (.slice vb (m.chs ++ [c]).length vd) (m.chs ++ [c]).length ((m.chs ++ [c]).flatMap chR) :: .row _ _ _ _ _ :: _) ++ _) ++ _)
    simp only [el, ef]
    exact h12
  exact St.pop h13

end

end Go.Proofs.Ytoijbpkplegnkaa
