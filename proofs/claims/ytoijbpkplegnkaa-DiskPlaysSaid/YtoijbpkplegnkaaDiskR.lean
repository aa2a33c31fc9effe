/- DiskSynced in plain words: what was synced stays (conditions: none). -/
import Derived.Test.YtoijbpkplegnkaaDiskO
namespace Go.Proofs.Ytoijbpkplegnkaa
open Go Sx
set_option maxRecDepth 8000

def keptN : Nm := [107, 101, 112, 116]
def keptE : Ent := ⟨keptN, 0⟩
structure PreF (D : List UInt8) (L : Nat) (f : FileM) : Prop where
  pre : f.data.take D.length = D
  sy : D.length ≤ f.syn
  le : f.data.length ≤ L
structure KeepI (D : List UInt8) (L : Nat) (m : DiskM) : Prop where
  chs : ∀ c ∈ m.chs, c.fr ≠ keptN ∧ c.to ≠ keptN
  syn : findD m.syn keptN = some keptE
  file : PreF D L (fileAt m.files 0)

theorem asc_mkD {d : Dir} (h : AscBy Ent.name d) (c : ChM) : AscBy Ent.name (mkD d c) := by
  unfold mkD
  split
  · exact asc_insA h _
  · split
    · exact h
    · split
      · exact asc_delA h _
      · exact asc_insA (asc_delA h _) _
theorem mkD_keep {d : Dir} (h : AscBy Ent.name d) {c : ChM} {n : Nm} (hf : c.fr ≠ n) (ht : c.to ≠ n) : findD (mkD d c) n = findD d n := by
  unfold mkD
  split
  · show findA Ent.name (insA Ent.name d _) n = _
    rw [findA_insA h, if_neg ht]
  · split
    · rfl
    · split
      · show findA Ent.name (delA Ent.name d _) n = _
        rw [findA_delA, if_neg hf]
      · show findA Ent.name (insA Ent.name (delA Ent.name d _) _) n = _
        rw [findA_insA (asc_delA h _), if_neg ht, findA_delA, if_neg hf]
theorem replay_keep {n : Nm} : ∀ (cs : List ChM) (d : Dir), AscBy Ent.name d → (∀ c ∈ cs, c.fr ≠ n ∧ c.to ≠ n) → findD (replay d cs) n = findD d n
  | [], _, _, _ => rfl
  | c :: cs, d, h, hc => by
    show findD (replay (mkD d c) cs) n = _
    rw [replay_keep cs _ (asc_mkD h c) fun x hx => hc x (by simp [hx]), mkD_keep h (hc c (by simp)).1 (hc c (by simp)).2]

theorem KeepI.now {D : List UInt8} {L : Nat} {m : DiskM} (h : KeepI D L m) (hw : WFD m) : findD m.now keptN = some keptE := by
  rw [hw.now, replay_keep _ _ hw.okSyn.asc h.chs]
  exact h.syn
theorem KeepI.same {D : List UInt8} {L : Nat} {m m' : DiskM} (h : KeepI D L m) (e1 : m'.files = m.files) (e2 : m'.syn = m.syn) (e3 : m'.chs = m.chs) : KeepI D L m' := ⟨by rw [e3]; exact h.chs, by rw [e2]; exact h.syn, by rw [e1]; exact h.file⟩
theorem KeepI.step {D : List UInt8} {L : Nat} {m : DiskM} (h : KeepI D L m) : KeepI D L (stepM m).1 := by
  obtain ⟨e1, _, e3, e4, _⟩ := stepM_same m
  exact h.same e1 e4 e3
theorem KeepI.steps {D : List UInt8} {L : Nat} {m : DiskM} {f : DiskM → DiskM} (h : KeepI D L m) (hf : KeepI D L (f (stepM m).1)) : KeepI D L (stepsM m f).1 := by
  unfold stepsM
  split
  · exact h.step
  · exact hf
theorem KeepI.note {D : List UInt8} {L : Nat} {m : DiskM} (h : KeepI D L m) {c : ChM} (h1 : c.fr ≠ keptN) (h2 : c.to ≠ keptN) : KeepI D L (doCh m c) := by
  refine ⟨fun x hx => ?_, h.syn, h.file⟩
  rcases List.mem_append.1 hx with hx | hx
  · exact h.chs x hx
  · simp at hx; subst hx; exact ⟨h1, h2⟩

theorem other_file {m : DiskM} (hw : WFD m) (hk : findD m.now keptN = some keptE) {n : Nm} (hn : n ≠ keptN) (hf : foundE m n = none) : foundI m n ≠ 0 := by
  obtain ⟨_, e, he, hen, hef, _⟩ := foundI_lt hw hf
  intro h0
  obtain ⟨k1, k2⟩ := findA_mem hk
  have := hw.okNow.inj' he k1 (by rw [hef, h0]; rfl)
  apply hn
  rw [← hen, this]; rfl

theorem play_keep {D : List UInt8} {L : Nat} {m : DiskM} (h : KeepI D L m) (hw : WFD m) (hpos : 0 < m.files.length) (o : OpD) (hn : o.name ≠ keptN) (ht : o.to ≠ keptN) : KeepI D L (playM m o).1 := by
  have hnow := h.now hw
  obtain ⟨e1, e2, e3, e4, _⟩ := stepM_same m
  unfold playM
  split
  · unfold createM
    split
    · exact h
    · split
      · exact h
      · split
        · exact h
        · refine h.steps ?_
          have h1 := h.step.note (c := chMade (stepM m).1 o.name) (by show ([] : Nm) ≠ keptN; decide) hn
          refine ⟨h1.chs, h1.syn, ?_⟩
          show PreF D L (fileAt ((stepM m).1.files ++ [file0]) 0)
          rw [e1]
          have : fileAt (m.files ++ [file0]) 0 = fileAt m.files 0 := by unfold fileAt List.getD; rw [List.getElem?_append_left hpos]
          rw [this]
          exact h.file
  split
  · unfold appendM
    split
    · exact h
    · rename_i hf
      split
      · refine h.steps ⟨h.step.chs, h.step.syn, ?_⟩
        show PreF D L (fileAt (appendF (stepM m).1 (foundI m o.name) [o.data]).files 0)
        rw [appendF_files, fileAt_setF_ne (other_file hw hnow hn hf)]
        exact h.step.file
      · exact h
  split
  · unfold syncM
    split
    · exact h
    · rename_i hf
      refine h.steps ⟨h.step.chs, h.step.syn, ?_⟩
      have e : (syncF (stepM m).1 (foundI m o.name)).files = setF (stepM m).1.files (foundI m o.name) fun f => ⟨f.data, f.data.length⟩ := rfl
      show PreF D L (fileAt (syncF (stepM m).1 (foundI m o.name)).files 0)
      rw [e, fileAt_setF_ne (other_file hw hnow hn hf)]
      exact h.step.file
  split
  · unfold syncDirM
    split
    · exact h
    · refine h.steps ⟨by simp [syncDirF], ?_, h.step.file⟩
      show findD (stepM m).1.now keptN = _
      rw [e2]; exact hnow
  split
  · unfold renameM
    split
    · exact h
    · split
      · exact h
      · exact h.steps (h.step.note hn ht)
  split
  · unfold removeM
    split
    · exact h
    · exact h.steps (h.step.note hn (by show ([] : Nm) ≠ keptN; decide))
  split
  · unfold armM
    split
    · exact h
    · exact h.same rfl rfl rfl
  split
  · unfold failM
    split
    · exact h
    · exact h.same rfl rfl rfl
  · exact h

theorem more_keep {D more : List UInt8} {m : DiskM} (h : KeepI D D.length m) (hw : WFD m) (hpos : 0 < m.files.length) : KeepI D (D.length + more.length) (appendM m keptN [more]).1 := by
  have hnow := h.now hw
  have h' : KeepI D (D.length + more.length) m := ⟨h.chs, h.syn, h.file.pre, h.file.sy, by have := h.file.le; omega⟩
  unfold appendM
  split
  · exact h'
  · split
    · refine h'.steps ⟨h'.step.chs, h'.step.syn, ?_⟩
      have hfi : foundI m keptN = 0 := by unfold foundI; rw [hnow]; rfl
      obtain ⟨e1, _⟩ := stepM_same m
      show PreF D _ (fileAt (appendF (stepM m).1 (foundI m keptN) [more]).files 0)
      rw [appendF_files, hfi, fileAt_setF (by rw [e1]; exact hpos), e1]
      refine ⟨?_, h.file.sy, ?_⟩
      · show ((fileAt m.files 0).data ++ [more].flatten).take D.length = D
        rw [List.take_append_of_le_length ?_]
        · exact h.file.pre
        · have := congrArg List.length h.file.pre
          simp only [List.length_take] at this
          omega
      · have := h.file.le
        show ((fileAt m.files 0).data ++ [more].flatten).length ≤ _
        simp only [List.flatten_cons, List.flatten_nil, List.append_nil, List.length_append]
        omega
    · exact h'

theorem preF_cut {D : List UInt8} {L k : Nat} {f : FileM} (h : PreF D L f) : PreF D L (cutF k f) := by
  refine ⟨?_, h.sy, ?_⟩
  · show (f.data.take _).take D.length = D
    rw [List.take_take, Nat.min_eq_left (by have := h.sy; omega)]
    exact h.pre
  · have := h.le
    show (f.data.take _).length ≤ L
    rw [List.length_take]; omega
theorem preF_setF {D : List UInt8} {L : Nat} {fs : List FileM} {i : Nat} {g : FileM → FileM} (hg : ∀ f, PreF D L f → PreF D L (g f)) (h : PreF D L (fileAt fs 0)) : PreF D L (fileAt (setF fs i g) 0) := by
  by_cases hi : i = 0
  · subst hi
    by_cases hl : 0 < fs.length
    · rw [fileAt_setF hl]; exact hg _ h
    · have : setF fs 0 g = fs := by unfold setF; rw [List.set_eq_of_length_le (by omega)]
      rw [this]; exact h
  · rw [fileAt_setF_ne hi]; exact h
theorem preF_cutAll {D : List UInt8} {L : Nat} (cuts : List Int) : ∀ (d : Dir) (i : Nat) (fs : List FileM), PreF D L (fileAt fs 0) → PreF D L (fileAt (cutAll cuts i d fs) 0)
  | [], _, _, h => h
  | _ :: d, i, _, h => preF_cutAll cuts d (i + 1) _ (preF_setF (fun _ hf => preF_cut hf) h)
theorem settled_data (d : Dir) : ∀ (fs : List FileM), (fileAt (settled fs d) 0).data = (fileAt fs 0).data := by
  induction d with
  | nil => intro fs; rfl
  | cons e d ih =>
    intro fs
    show (fileAt (settled (setF fs e.file sync1) d) 0).data = _
    rw [ih]
    by_cases hi : e.file = 0
    · rw [hi]
      by_cases hl : 0 < fs.length
      · rw [fileAt_setF hl]; rfl
      · have : setF fs 0 sync1 = fs := by unfold setF; rw [List.set_eq_of_length_le (by omega)]
        rw [this]
    · rw [fileAt_setF_ne hi]

theorem crash_keep {D : List UInt8} {L : Nat} {m : DiskM} (h : KeepI D L m) (hw : WFD m) (dirs : Int) (cuts : List Int) : foundE (crashM m dirs cuts) keptN = none ∧ (readF (crashM m dirs cuts) keptN).take D.length = D ∧ (readF (crashM m dirs cuts) keptN).length ≤ L := by
  have hf : findD (crashD m dirs) keptN = some keptE := by
    unfold crashD
    rw [replay_keep _ _ hw.okSyn.asc fun c hc => h.chs c (List.mem_of_mem_take hc)]
    exact h.syn
  have hE : foundE (crashM m dirs cuts) keptN = none := by
    unfold foundE
    have h1 : (crashM m dirs cuts).down = false := rfl
    have h2 : goodN keptN = true := by decide
    have h3 : findD (crashM m dirs cuts).now keptN = some keptE := hf
    rw [h1, h2, h3]; rfl
  have hI : foundI (crashM m dirs cuts) keptN = 0 := by
    unfold foundI
    have h3 : findD (crashM m dirs cuts).now keptN = some keptE := hf
    rw [h3]; rfl
  have hr : readF (crashM m dirs cuts) keptN = (fileAt (cutAll cuts 0 (crashD m dirs) m.files) 0).data := by
    unfold readF
    rw [hE, hI]
    exact settled_data _ _
  have hp := preF_cutAll cuts (crashD m dirs) 0 m.files h.file
  rw [hr]
  exact ⟨hE, hp.pre, hp.le⟩

/-! ### the file as it is made -/
def km1 : DiskM := ⟨1048576, [⟨[], 0⟩], [keptE], [], [⟨some 0, [], keptN⟩], 1, false, none, []⟩
def km2 (d : List UInt8) : DiskM := ⟨1048576, [⟨[] ++ [d].flatten, 0⟩], [keptE], [], [⟨some 0, [], keptN⟩], 2, false, none, []⟩
def km3 (d : List UInt8) : DiskM := ⟨1048576, [⟨[] ++ [d].flatten, ([] ++ [d].flatten : List UInt8).length⟩], [keptE], [], [⟨some 0, [], keptN⟩], 3, false, none, []⟩
def km4 (d : List UInt8) : DiskM := ⟨1048576, [⟨[] ++ [d].flatten, ([] ++ [d].flatten : List UInt8).length⟩], [keptE], [keptE], [], 4, false, none, []⟩
theorem kl1 : createM (newM 1048576) keptN = (km1, none) := by kernel_rfl
theorem kl2 (d : List UInt8) (h : d.length ≤ 65536) : appendM km1 keptN [d] = (km2 d, none) := by
  have h1 : foundE km1 keptN = none := by kernel_rfl
  have h2 : fits (km1.size - usedM km1) [d] = true := by
    have : km1.size - usedM km1 = 1048576 := by decide
    rw [this]
    simp only [fits, Bool.and_true, decide_eq_true_eq]
    omega
  unfold appendM
  rw [h1]
  simp only [h2, if_true]
  rfl
theorem kl3 (d : List UInt8) : syncM (km2 d) keptN = (km3 d, none) := by kernel_rfl
theorem kl4 (d : List UInt8) : syncDirM (km3 d) = (km4 d, none) := by kernel_rfl
theorem kl5 (d : List UInt8) : KeepI d d.length (km4 d) := by
  have e : ([] ++ [d].flatten : List UInt8) = d := by simp
  refine ⟨by simp [km4], by kernel_rfl, ?_⟩
  show PreF d d.length ⟨[] ++ [d].flatten, ([] ++ [d].flatten : List UInt8).length⟩
  rw [e]
  exact ⟨List.take_length, Nat.le_refl _, Nat.le_refl _⟩

theorem files_grow (m : DiskM) (o : OpD) : m.files.length ≤ (playM m o).1.files.length := by
  have hs : ∀ (f : DiskM → DiskM), (∀ m, m.files.length ≤ (f m).files.length) → m.files.length ≤ (stepsM m f).1.files.length := fun f hf => by
    obtain ⟨e1, _⟩ := stepM_same m
    unfold stepsM
    split
    · show _ ≤ (stepM m).1.files.length; rw [e1]; exact Nat.le_refl _
    · have := hf (stepM m).1; rw [e1] at this; exact this
  unfold playM createM appendM syncM syncDirM renameM removeM armM failM
  repeat' split
  all_goals first
    | exact Nat.le_refl _
    | exact hs _ fun m => by simp [createF, doCh, appendF, syncF, syncDirF, setF]

end Go.Proofs.Ytoijbpkplegnkaa
