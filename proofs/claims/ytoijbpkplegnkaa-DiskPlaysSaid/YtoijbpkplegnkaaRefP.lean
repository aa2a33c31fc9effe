/- Contracts, several texts in one (conditions: those that each theorem names). -/
import Derived.Test.YtoijbpkplegnkaaRefH
namespace Go.Proofs.Ytoijbpkplegnkaa
open Go Sx
set_option maxRecDepth 8000

theorem fT : ElemT Try.prog 98 122 2 32 (.agg #[.slice none 0 0, .int .i64 0]) := ⟨by kernel_rfl, ⟨Try.t122, by kernel_rfl, by kernel_rfl, by kernel_rfl, by kernel_rfl⟩, rfl, by decide⟩
theorem built_f : Try.prog.built 122 = fun parts => Instr.fill (fun i => (#[(0, 1), (1, 1)] : Array (Nat × Nat))[i]?) #[.slice none 0 0, .int .i64 0] parts := by kernel_rfl
theorem f_build (w : World) : (Instr.build 122 #[]).run Try.prog w = .ok (.agg #[.slice none 0 0, .int .i64 0]) w := by
  apply run_build
  rw [built_f]
  rfl
theorem f_build0 (a : Option Addr) (k c : Nat) (w : World) : (Instr.build 122 #[(0, .slice a k c)]).run Try.prog w = .ok (.agg #[.slice a k c, .int .i64 0]) w := by
  apply run_build
  rw [built_f]
  show Instr.fill _ _ [(0, _)] = _
  rw [fill_step (off := 0) (sz := 1) rfl rfl (by simp)]
  rfl

section
variable {w0 w w' : World} {X : List Nat} {N N' T : List Res} {gr : Nat} {m : DiskM}

theorem steps_none {m : DiskM} (hz : ((((stepM m).2.getD 0) == (0 : Int)) = true)) : (stepM m).2 = none := by
  cases hq : (stepM m).2 with
  | none => rfl
  | some e => rw [hq] at hz; simp at hz; exact absurd hz (stepM_pos hq)
theorem steps_some {m : DiskM} (hz : ((((stepM m).2.getD 0) == (0 : Int)) = false)) : ∃ e, (stepM m).2 = some e := by
  cases hq : (stepM m).2 with
  | none => rw [hq] at hz; simp at hz
  | some e => exact ⟨e, rfl⟩
theorem stepsM_err (m : DiskM) (f : DiskM → DiskM) : (stepsM m f).2 = (stepM m).2 := by
  unfold stepsM
  cases hq : (stepM m).2 <;> rfl

theorem rremove_spec (n : Nm) (h : RefIn w0 X w gr m N) (hb : m.steps < 4611686018427387904) (hc : m.chs.length < 1000000000) :
    Calls Try.prog 56 #[.pointer (some ⟨gr, 0, none⟩), strV n] w fun e w' => e = .returned (.int .i64 ((removeM m n).2.getD 0)) ∧ RefIn w0 X w' gr (removeM m n).1 N := by
  have hw := h.wf
  apply amphoraref01_Disk_Remove_vc
  refine (rfound_spec n h).mono ?_
  rintro e w1 ⟨rfl, rfl⟩
  refine ⟨_, _, rfl, fun hne => ?_, fun hok => ?_⟩
  · cases hf : foundE m n with
    | none => rw [hf] at hne; simp at hne
    | some e =>
      have : removeM m n = (m, some e) := by unfold removeM; rw [hf]
      rw [this]; exact ⟨rfl, h⟩
  have hfn : foundE m n = none := by
    cases hf : foundE m n with
    | none => rfl
    | some e => rw [hf] at hok; simp at hok; exact absurd hok (foundE_pos hf).1
  obtain ⟨_, e0, he0, _, _, hfd⟩ := foundI_lt hw hfn
  have hap : removeM m n = stepsM m fun m => doCh m ⟨none, n, []⟩ := by simp only [removeM, hfn]
  refine (rstep_spec h hb).mono ?_
  rintro e w2 ⟨rfl, h2⟩
  obtain ⟨e1, e2, e3, e4, _⟩ := stepM_same m
  refine ⟨_, rfl, fun w' => RefIn w0 X w' gr (removeM m n).1 N, ⟨fun hz => ?_, fun hz => ?_⟩, ?_⟩
  · have hst := steps_none hz
    have hres : removeM m n = (doCh (stepM m).1 ⟨none, n, []⟩, none) := by rw [hap]; unfold stepsM; rw [hst]
    rw [hres]
    obtain ⟨m1, hm1⟩ : ∃ m1, (stepM m).1 = m1 := ⟨_, rfl⟩
    rw [hm1] at h2 e1 e2 e3 ⊢
    obtain ⟨p, hp, hS⟩ := h2
    obtain ⟨c, hcd⟩ : ∃ c : ChM, (⟨none, n, []⟩ : ChM) = c := ⟨_, rfl⟩
    have hcm : c.made = none := by rw [← hcd]
    have hcv : chR c = [.int .i64 (-1), strV n, strV []] := by rw [← hcd]; rfl
    obtain ⟨g, w6, w7, r6, r7, h7⟩ := hS.varA (v := chR c) cZ cSz rfl (chR_len _) (chR_one _)
    rw [hcv] at r7
    refine ⟨_, c_build01 (-1) n w2, g, w6, r6, w7, r7, ?_⟩
    rw [hcd]
    exact noteR hp c (fun _ => by rw [← hcd, e2, hfd]; rfl) (fun i hi => by rw [hcm] at hi; cases hi) (okdir_change hp.wf.okNow hcm (.inl (by rw [← hcd]))) h7 (by rw [e3]; exact hc) (fun _ h => h)
  · obtain ⟨e, hq⟩ := steps_some hz
    have : removeM m n = ((stepM m).1, some e) := by rw [hap]; unfold stepsM; rw [hq]
    rw [this]; exact h2
  · rintro w4 h4
    exact ⟨by rw [hap, stepsM_err], h4⟩

theorem rrename_spec (a b : Nm) (h : RefIn w0 X w gr m N) (hb : m.steps < 4611686018427387904) (hc : m.chs.length < 1000000000) :
    Calls Try.prog 55 #[.pointer (some ⟨gr, 0, none⟩), strV a, strV b] w fun e w' => e = .returned (.int .i64 ((renameM m a b).2.getD 0)) ∧ RefIn w0 X w' gr (renameM m a b).1 N := by
  have hw := h.wf
  apply amphoraref01_Disk_Rename_vc
  have hcell : (Instr.loadAt 4 (.pointer (some ⟨gr, 6, none⟩))).run Try.prog w = .ok (.bool m.down) w := by
    obtain ⟨p, hp, hS⟩ := h
    exact RefIn.cell hS (i := 6) (boolA _) rfl
  refine ⟨_, hcell, fun hd => ?_, fun hd => ⟨fun x w' => x = !(goodN a && goodN b) ∧ w' = w, (name_spec a w).mono ?_, ?_⟩⟩
  · have : renameM m a b = (m, some 1) := by
      have : readyM m [a, b] = some 1 := by unfold readyM; rw [if_pos hd]
      unfold renameM; rw [this]
    rw [this]; exact ⟨rfl, h⟩
  · rintro e w1 ⟨rfl, rfl⟩
    refine ⟨_, rfl, fun hg => ⟨?_, rfl⟩, fun hg => (name_spec b w1).mono ?_⟩
    · have : goodN a = false := by simpa using hg
      rw [this]; rfl
    · rintro e w2 ⟨rfl, rfl⟩
      have : goodN a = true := by simpa using hg
      exact ⟨_, rfl, by rw [this]; simp, rfl⟩
  rintro x w3 ⟨rfl, rfl⟩
  have hrd : readyM m [a, b] = if goodN a && goodN b then none else some 6 := by
    unfold readyM
    rw [if_neg (by rw [hd]; simp)]
    simp
  refine ⟨fun hbad => ?_, fun hgd => (rfound_spec a h).mono ?_⟩
  · have h0 : (goodN a && goodN b) = false := by cases hq : (goodN a && goodN b) with | false => rfl | true => rw [hq] at hbad; cases hbad
    rw [h0] at hrd
    have : renameM m a b = (m, some 6) := by unfold renameM; rw [hrd]; rfl
    rw [this]; exact ⟨rfl, h⟩
  rintro e w4 ⟨rfl, rfl⟩
  have hg2 : (goodN a && goodN b) = true := by simpa using hgd
  rw [hg2] at hrd
  have hrd : readyM m [a, b] = none := hrd
  have hgb : goodN b = true := by simp at hg2; exact hg2.2
  refine ⟨_, _, rfl, fun hne => ?_, fun hok => ?_⟩
  · cases hf : foundE m a with
    | none => rw [hf] at hne; simp at hne
    | some e =>
      have : renameM m a b = (m, some e) := by unfold renameM; rw [hrd]; simp only [hf]
      rw [this]; exact ⟨rfl, h⟩
  have hfn : foundE m a = none := by
    cases hf : foundE m a with
    | none => rfl
    | some e => rw [hf] at hok; simp at hok; exact absurd hok (foundE_pos hf).1
  obtain ⟨_, e0, he0, _, _, hfd⟩ := foundI_lt hw hfn
  have hap : renameM m a b = stepsM m fun m => doCh m ⟨none, a, b⟩ := by simp only [renameM, hrd, hfn]
  refine (rstep_spec h hb).mono ?_
  rintro e w2 ⟨rfl, h2⟩
  obtain ⟨e1, e2, e3, e4, _⟩ := stepM_same m
  refine ⟨_, rfl, fun w' => RefIn w0 X w' gr (renameM m a b).1 N, ⟨fun hz => ?_, fun hz => ?_⟩, ?_⟩
  · have hst := steps_none hz
    have hres : renameM m a b = (doCh (stepM m).1 ⟨none, a, b⟩, none) := by rw [hap]; unfold stepsM; rw [hst]
    rw [hres]
    obtain ⟨m1, hm1⟩ : ∃ m1, (stepM m).1 = m1 := ⟨_, rfl⟩
    rw [hm1] at h2 e1 e2 e3 ⊢
    obtain ⟨p, hp, hS⟩ := h2
    obtain ⟨c, hcd⟩ : ∃ c : ChM, (⟨none, a, b⟩ : ChM) = c := ⟨_, rfl⟩
    have hcm : c.made = none := by rw [← hcd]
    have hcv : chR c = [.int .i64 (-1), strV a, strV b] := by rw [← hcd]; rfl
    obtain ⟨g, w6, w7, r6, r7, h7⟩ := hS.varA (v := chR c) cZ cSz rfl (chR_len _) (chR_one _)
    rw [hcv] at r7
    refine ⟨_, c_build012 (-1) a b w2, g, w6, r6, w7, r7, ?_⟩
    rw [hcd]
    exact noteR hp c (fun _ => by rw [← hcd, e2, hfd]; rfl) (fun i hi => by rw [hcm] at hi; cases hi) (okdir_change hp.wf.okNow hcm (.inr (by rw [← hcd]; exact hgb))) h7 (by rw [e3]; exact hc) (fun _ h => h)
  · obtain ⟨e, hq⟩ := steps_some hz
    have : renameM m a b = ((stepM m).1, some e) := by rw [hap]; unfold stepsM; rw [hq]
    rw [this]; exact h2
  · rintro w4 h4
    exact ⟨by rw [hap, stepsM_err], h4⟩

end

open Go Sx
set_option maxRecDepth 8000

section
variable {w0 w w' : World} {X : List Nat} {N N' T : List Res} {gr : Nat} {m : DiskM}

theorem ROk.addFile {p : RP} (hp : ROk m p) (f : FD) (hf : f.syn ≤ f.data.length ∧ f.data.length ≤ 1099511627776) {va : Option Addr} {vc : Nat} : ROk { m with files := m.files ++ [f.m] } { p with Fa := va, Fc := vc, FL := p.FL ++ [f] } :=
  ⟨hp.wf.addFile hf, hp.live.same rfl rfl, by simp [hp.files], hp.now, hp.syn, hp.arm, hp.fails, hp.flen⟩

/-- A file more. -/
theorem St.newFile {p : RP} {f : FD} (hS : St w0 X w ((resR gr m p ++ (p.FL.map FD.row ++ (p.P ++ N))) ++ [f.row])) (hl : p.FL.length < 1000000000) :
    ∃ g2 w2 va vc w3 w4, (Instr.buildSlice 98 1 #[(0, .agg f.cells.toArray)]).run Try.prog w = .ok (.slice (some ⟨g2, 0, none⟩) 1 1) w2 ∧ (Builtin.append_ #[98, 98] 98 #[.slice p.Fa p.FL.length p.Fc, .slice (some ⟨g2, 0, none⟩) 1 1]).run Try.prog w2 = .ok (.slice va (p.FL.length + 1) vc) w3 ∧
      St w0 X w2 ((resR gr m p ++ (p.FL.map FD.row ++ (p.P ++ N))) ++ [f.row]) ∧ (∃ Y, St w0 X w3 (.arr gr 102 (rdL m p) :: Y)) ∧ (Instr.storeAt 98 (.pointer (some ⟨gr, 1, none⟩)) (.slice va (p.FL.length + 1) vc)).run Try.prog w3 = .ok () w4 ∧
      St w0 X w4 (resR gr { m with files := m.files ++ [f.m] } { p with Fa := va, Fc := vc, FL := p.FL ++ [f] } ++ ((p.FL ++ [f]).map FD.row ++ (p.P ++ N))) := by
  obtain ⟨g2, w2, va, vc, w3, r2, r3, h3, h2⟩ := hS.pushA (i := 1) (ty := 98) fT rfl f.cells (FD.cells_len _) (by decide) (FD.cells_one _) (by omega) (by simp only [maxLen]; omega)
  obtain ⟨w4, r4, h4⟩ := h3.stL (i := 0) (o := 1) (off := 1) (T := 98) (v := .slice va (p.FL.length + 1) vc) rfl (fsS _) rfl (by simp [rdL]) rfl
  refine ⟨g2, w2, va, vc, w3, w4, r2, r3, h2, ⟨_, h3⟩, r4, ?_⟩
  have e1 : (p.FL ++ [f]).length = p.FL.length + 1 := by simp
  have e2 : (p.FL ++ [f]).flatMap FD.cells = p.FL.flatMap FD.cells ++ f.cells := by simp
  have h5 : St w0 X w4 ((resR gr { m with files := m.files ++ [f.m] } { p with Fa := va, Fc := vc, FL := p.FL ++ [f] } ++ (p.FL.map FD.row ++ (p.P ++ N))) ++ [f.row]) := by
    unfold resR rdL
    simp only [e1, e2]
    exact h4
  refine h5.perm ?_
  have e3 : (p.FL ++ [f]).map FD.row = p.FL.map FD.row ++ [f.row] := by simp
  rw [e3, List.append_assoc, List.append_assoc (p.FL.map FD.row), List.append_assoc (p.FL.map FD.row)]
  exact List.Perm.append_left _ (List.Perm.append_left _ List.perm_append_comm)

set_option maxHeartbeats 1000000 in
theorem rcreate_spec (n : Nm) (h : RefIn w0 X w gr m N) (hb : m.steps < 4611686018427387904) (hc : m.chs.length < 1000000000) (hfl : m.files.length < 1000000000) :
    Calls Try.prog 50 #[.pointer (some ⟨gr, 0, none⟩), strV n] w fun e w' => e = .returned (.int .i64 ((createM m n).2.getD 0)) ∧ RefIn w0 X w' gr (createM m n).1 N := by
  have hw := h.wf
  apply amphoraref01_Disk_Create_vc
  refine (rfound_spec n h).mono ?_
  rintro e w1 ⟨rfl, rfl⟩
  refine ⟨_, _, rfl, fun h0 => ?_, fun h0 => ⟨fun h5 => ?_, fun h5 => ?_⟩⟩
  · have hfn : foundE m n = none := by
      cases hf : foundE m n with
      | none => rfl
      | some e => rw [hf] at h0; simp at h0; exact absurd h0 (foundE_pos hf).1
    obtain ⟨_, e0, _, _, _, hfd⟩ := foundI_lt hw hfn
    have hrd : readyM m [n] = none := by
      unfold foundE at hfn
      unfold readyM
      by_cases hd : m.down = true
      · rw [if_pos hd] at hfn; cases hfn
      · rw [if_neg hd] at hfn ⊢
        by_cases hg : goodN n = true
        · simp [hg]
        · rw [if_pos (by simpa using hg)] at hfn; cases hfn
    have : createM m n = (m, some 4) := by unfold createM; rw [hrd]; simp only [hfd, Option.isSome_some, if_true]
    rw [this]; exact ⟨rfl, h⟩
  · obtain ⟨e, hf⟩ : ∃ e, foundE m n = some e := by
      cases hf : foundE m n with
      | none => rw [hf] at h0; simp at h0
      | some e => exact ⟨e, rfl⟩
    rw [hf] at h5 ⊢
    have he5 : e ≠ 5 := by simpa using h5
    have hrd : readyM m [n] = some e := by
      unfold foundE at hf
      unfold readyM
      by_cases hd : m.down = true
      · rw [if_pos hd] at hf ⊢; exact hf
      · rw [if_neg hd] at hf ⊢
        by_cases hg : goodN n = true
        · rw [if_neg (by simp [hg])] at hf
          split at hf
          · cases hf; exact absurd rfl he5
          · cases hf
        · rw [if_pos (by simpa using hg)] at hf
          have hg' : goodN n = false := by simpa using hg
          simp only [List.all_cons, List.all_nil, hg', Bool.false_and, Bool.false_eq_true, if_false]
          exact hf
    have : createM m n = (m, some e) := by unfold createM; rw [hrd]
    rw [this]; exact ⟨rfl, h⟩
  have hf5 : foundE m n = some 5 := by
    cases hf : foundE m n with
    | none => rw [hf] at h0; simp at h0
    | some e =>
      rw [hf] at h5
      have : e = 5 := by simpa using h5
      rw [this]
  have hall : readyM m [n] = none ∧ findD m.now n = none ∧ goodN n = true := by
    unfold foundE at hf5
    unfold readyM
    by_cases hd : m.down = true
    · rw [if_pos hd] at hf5; cases hf5
    · rw [if_neg hd] at hf5 ⊢
      by_cases hg : goodN n = true
      · rw [if_neg (by simp [hg])] at hf5
        split at hf5
        · rename_i hq
          exact ⟨by simp [hg], by simpa using hq, hg⟩
        · cases hf5
      · rw [if_pos (by simpa using hg)] at hf5; cases hf5
  obtain ⟨hrd, hfd, hgood⟩ := hall
  have hcr : createM m n = if 4096 ≤ m.now.length then (m, some 19) else stepsM m fun m => createF m n := by unfold createM; rw [hrd]; simp [hfd]
  have hcell : (Instr.loadAt 99 (.pointer (some ⟨gr, 0 + 2, none⟩))).run Try.prog w1 = .ok (.slice (Classical.choose h).na m.now.length (Classical.choose h).nc) w1 := by
    obtain ⟨hp, hS⟩ := Classical.choose_spec h
    exact RefIn.cell hS (i := 2) (nsA _) rfl
  refine ⟨_, _, _, hcell, fun hge => ?_, fun hlt => (rstep_spec h hb).mono ?_⟩
  · have : 4096 ≤ m.now.length := by simp at hge; omega
    rw [hcr, if_pos this]
    exact ⟨rfl, h⟩
  have hlen : ¬ 4096 ≤ m.now.length := by simp at hlt; omega
  rw [if_neg hlen] at hcr
  rintro e w2 ⟨rfl, h2⟩
  obtain ⟨e1, e2, e3, e4, _⟩ := stepM_same m
  refine ⟨_, rfl, fun hne => ?_, fun hok => ?_⟩
  · obtain ⟨e, hq⟩ : ∃ e, (stepM m).2 = some e := by
      cases hq : (stepM m).2 with
      | none => rw [hq] at hne; simp at hne
      | some e => exact ⟨e, rfl⟩
    have : createM m n = ((stepM m).1, some e) := by rw [hcr]; unfold stepsM; rw [hq]
    rw [this, hq]; exact ⟨rfl, h2⟩
  have hst : (stepM m).2 = none := by
    cases hq : (stepM m).2 with
    | none => rfl
    | some e => rw [hq] at hok; simp at hok; exact absurd hok (stepM_pos hq)
  have hres : createM m n = (createF (stepM m).1 n, none) := by rw [hcr]; unfold stepsM; rw [hst]
  rw [hres]
  obtain ⟨m1, hm1⟩ : ∃ m1, (stepM m).1 = m1 := ⟨_, rfl⟩
  rw [hm1] at h2 e1 e2 e3 ⊢
  obtain ⟨p, hp, hS⟩ := h2
  have hFLl : p.FL.length = m1.files.length := by have := congrArg List.length hp.files; simpa using this
  let f : FD := ⟨none, 0, [], 0⟩
  have hS' : St w0 X w2 ((resR gr m1 p ++ (p.FL.map FD.row ++ (p.P ++ N))) ++ [f.row]) := hS.addNil _ _
  obtain ⟨g3, w3, va, vc, w4, w5, r3, r4, h3, _, r5, h5⟩ := St.newFile hS' (by rw [hFLl, e1]; exact hfl)
  have hp5 := hp.addFile f ⟨Nat.le_refl _, by simp [f]⟩ (va := va) (vc := vc)
  have hfm : f.m = file0 := rfl
  rw [hfm] at h5 hp5
  obtain ⟨m2, hm2⟩ : ∃ m2, ({ m1 with files := m1.files ++ [file0] } : DiskM) = m2 := ⟨_, rfl⟩
  obtain ⟨p2, hp2⟩ : ∃ p2, ({ p with Fa := va, Fc := vc, FL := p.FL ++ [f] } : RP) = p2 := ⟨_, rfl⟩
  have hFL2 : p.FL ++ [f] = p2.FL := by rw [← hp2]
  have hP2 : p.P = p2.P := by rw [← hp2]
  have hFa : va = p2.Fa := by rw [← hp2]
  rw [hm2, hp2] at hp5
  rw [hm2, hp2, hFL2, hP2] at h5
  have hm2n : m2.now = m1.now := by rw [← hm2]
  have hm2c : m2.chs = m1.chs := by rw [← hm2]
  have hm2f : m2.files = m1.files ++ [file0] := by rw [← hm2]
  have hF2l : p2.FL.length = p.FL.length + 1 := by rw [← hFL2]; simp
  obtain ⟨c, hcd⟩ : ∃ c : ChM, chMade m1 n = c := ⟨_, rfl⟩
  have hcv : chR c = [.int .i64 (m1.files.length : Int), strV [], strV n] := by rw [← hcd]; rfl
  obtain ⟨g, w6, w7, r6, r7, h7⟩ := h5.varA (v := chR c) cZ cSz rfl (chR_len _) (chR_one _)
  rw [hcv] at r7
  have hl1 : m1.files.length = m.files.length := by rw [e1]
  have hwl : IntKind.wrap .i64 (((p2.FL.length : Nat) : Int) - 1) = (m1.files.length : Int) := by rw [hF2l, hFLl, wrap_i64 (by omega) (by omega)]; omega
  have hmk : mkD m2.now c = insA Ent.name m2.now ⟨n, m1.files.length⟩ := by rw [← hcd]; rfl
  refine ⟨_, _, _, RefIn.cell hS (i := 1) (fsA _) rfl, _, f_build w2, _, _, _, w3, r3, va, _, vc, w4, r4, w5, r5, _, _, _, RefIn.cell h5 (i := 1) (fsA _) rfl, _, by rw [hwl]; exact c_build02 _ n w5, g, w6, r6, w7, r7, ?_⟩
  refine noteR hp5 c (fun h => by rw [← hcd] at h; cases h) (fun i hi => ?_) ?_ h7 (by rw [hm2c, e3]; exact hc) (fun w12 h12 => ⟨rfl, ?_⟩)
  · have : some m1.files.length = some i := by rw [← hcd] at hi; exact hi
    rw [hm2f, ← Option.some.inj this]; simp
  · rw [hmk]
    refine hp5.wf.okNow.ins (by rw [hm2f]; simp) hgood (.inl ?_) fun x hx _ => ?_
    · rw [hm2n, e2]; omega
    · rw [hm2n] at hx
      have := (hp.wf.okNow.ent x hx).1
      omega
  · have hfin : createF m1 n = doCh m2 c := by rw [← hm2, ← hcd]; rfl
    rw [hfin]; exact h12

end

open Go Sx
set_option maxRecDepth 8000

section
variable {w0 w w' : World} {X : List Nat} {N N' T : List Res} {gr : Nat} {m : DiskM}

/-- What settling needs of the document's disk. -/
structure RMem (m : DiskM) (p : RP) : Prop where
  okn : OkDir m.files.length m.now
  fsyn : ∀ f ∈ m.files, f.syn ≤ f.data.length ∧ f.data.length ≤ 1099511627776
  size : 0 ≤ m.size ∧ m.size ≤ 67108864
  files : p.FL.map FD.m = m.files
  now : rowN p.na p.nc m.now ∈ p.P
  arm : ∀ k, m.arm = some k → k ≤ 9223372036854775807
  fails : ∀ x ∈ m.fails, x ≤ 9223372036854775807
  flen : m.fails.length * 8 ≤ 140737488355328
theorem ROk.mem {p : RP} (hp : ROk m p) : RMem m p := ⟨hp.wf.okNow, hp.wf.syn, hp.wf.size, hp.files, hp.now, hp.arm, hp.fails, hp.flen⟩

set_option maxHeartbeats 1000000 in
theorem rsettle_spec {p : RP} (hp : RMem m p) (hS : St w0 X w (resR gr m p ++ (p.FL.map FD.row ++ (p.P ++ N)))) :
    Calls Try.prog 77 #[.pointer (some ⟨gr, 0, none⟩)] w fun e w' => e = .returned (.tuple #[]) ∧ RefIn w0 X w' gr (settleM m) N := by
  have hnl := hp.okn.len
  apply amphoraref01_Disk_settle_vc
  refine ⟨fun x w' => ∃ (i : Nat) (FL : List FD), x = (i : Int) ∧ i ≤ m.now.length ∧ FL.map FD.m = settled m.files (m.now.take i) ∧ St w0 X w' (resR gr m { p with FL := FL } ++ (FL.map FD.row ++ (p.P ++ N))), fun x _ => m.now.length - x.toNat, ⟨0, p.FL, rfl, by omega, hp.files, hS⟩, ?_⟩
  rintro x w1 ⟨i, FL, rfl, hi, hFm, h1⟩
  have c2 : (Instr.loadAt 99 (.pointer (some ⟨gr, 0 + 2, none⟩))).run Try.prog w1 = .ok (.slice p.na m.now.length p.nc) w1 := h1.ldL (i := 0) (o := 2) rfl (nsA _) rfl rfl
  refine ⟨_, _, _, c2, fun hlt => ?_, fun hge => ?_⟩
  · have hi' : i < m.now.length := by simp at hlt; omega
    have he : m.now[i]? = some m.now[i] := List.getElem?_eq_getElem hi'
    obtain ⟨e, hed⟩ : ∃ e, m.now[i] = e := ⟨_, rfl⟩
    rw [hed] at he
    have hil := (hp.okn.ent e (List.mem_of_getElem? he)).1
    have hFl : FL.length = m.files.length := by have := congrArg List.length hFm; rw [settled_len] at this; simpa using this
    obtain ⟨f, hf⟩ : ∃ f, FL[e.file]? = some f := ⟨_, List.getElem?_eq_getElem (by omega)⟩
    have hfm : fileAt (settled m.files (m.now.take i)) e.file = f.m := by
      rw [← hFm, fileAt, List.getD, List.getElem?_map, hf]; rfl
    have hrn : RdN w1 p.na m.now.length p.nc m.now := poolRd (p := { p with FL := FL }) h1 hp.now
    obtain ⟨b, o, hab, q⟩ := hrn.fld he
    obtain ⟨g, hg⟩ := filesHead (p := { p with FL := FL }) h1 (i := e.file) (by show e.file < FL.length; omega)
    have h1d := h1.drew
    obtain ⟨w2, r2, h2⟩ := St.putSyn (p := { p with FL := FL }) hg hf h1d f.data.length
    refine ⟨_, _, _, c2, b, o, hab, by omega, by omega, _, (q w1 hrn).2.1, fun w' => Chg [] w1 w', Chg.drew _ _, p.Fa, FL.length, p.Fc, fun w' hw' => (h1.same hw').ldL (i := 0) (o := 1) rfl (fsA _) rfl rfl, p.Fa, FL.length, p.Fc, fun w' hw' => (h1.same hw').ldL (i := 0) (o := 1) rfl (fsA _) rfl rfl, g, 0, hg, by omega, by omega, _, _, _, fun w' hw' => (St.ldF (p := { p with FL := FL }) hg hf (h1.same hw')).1, g, 0, hg, by omega, by omega, w2, r2, ⟨i + 1, FL.set e.file ⟨f.a, f.c, f.data, f.data.length⟩, wrap_succ hi' (by omega), by omega, ?_, h2⟩, mu_succ hi' (by omega)⟩
    rw [List.map_set, List.take_add_one, he]
    simp only [Option.toList_some]
    rw [settled_snoc, hFm, setF, hfm]; rfl
  · have hi' : i = m.now.length := by simp at hge; omega
    rw [hi', List.take_of_length_le (Nat.le_refl _)] at hFm
    obtain ⟨w4, r4, h4⟩ := h1.stL (i := 0) (o := 3) (off := 0 + 3) (T := 99) (v := .slice p.na m.now.length p.nc) rfl (nsS _) rfl (by simp [rdL]) rfl
    obtain ⟨w5, r5, h5⟩ := h4.stL (i := 0) (o := 4) (off := 0 + 4) (T := 100) (v := .slice none 0 0) rfl (csS _) rfl (by simp [rdL]) rfl
    have h6 := h5.upd (i := 2) (r' := .row 124 3 (.slice none 0 0) 0 []) rfl (Chg.refl _ _) (World.ownsRow_nil _ _ _ _) (by simp [Res.fp, Value.ownBlock])
    refine ⟨_, _, _, c2, w4, r4, w5, r5, rfl, { p with FL := FL, sa := p.na, sc := p.nc, ca := none, cc := 0 }, ?_, h6⟩
    refine ⟨⟨rfl, fun k => ?_, by simp [settleM], settled_ok _ _ hp.fsyn, hp.size⟩, Live.none rfl, hFm, hp.now, hp.now, hp.arm, hp.fails, hp.flen⟩
    show OkDir (settled m.files m.now).length (replay m.now (([] : List ChM).take k))
    rw [List.take_nil, settled_len]
    exact hp.okn

theorem rdrop_spec (n : Nm) (h : RefIn w0 X w gr m N) :
    Calls Try.prog 61 #[.pointer (some ⟨gr, 0, none⟩), strV n] w fun e w' => e = .returned (.int .i64 ((dropM m n).2.getD 0)) ∧ RefIn w0 X w' gr (dropM m n).1 N := by
  have hw := h.wf
  have hnl := hw.okNow.len
  apply amphoraref01_Disk_Drop_vc
  refine (name_spec n w).mono ?_
  rintro e w1 ⟨rfl, rfl⟩
  refine ⟨_, rfl, fun hb => ?_, fun hg => ?_⟩
  · have : dropM m n = (m, some 6) := by unfold dropM; rw [if_pos hb]
    rw [this]; exact ⟨rfl, h⟩
  have hdm : dropM m n = if (findD m.now n).isNone then (m, some 5) else (settleM { m with now := delA Ent.name m.now n }, none) := by unfold dropM; rw [if_neg (by rw [hg]; simp)]
  obtain ⟨p, hp, hS⟩ := h
  have hrn := poolRd hS hp.now
  refine ⟨_, _, _, RefIn.cell hS (i := 2) (nsA _) rfl, (find_spec _ _ _ m.now n w1 hrn (by omega)).mono ?_⟩
  rintro e w2 ⟨rfl, rfl⟩
  refine ⟨_, rfl, fun hneg => ?_, fun hpos => ?_⟩
  · have : (findD m.now n).isNone = true := by
      cases hf : findD m.now n with
      | none => rfl
      | some e => rw [findV, hf] at hneg; simp at hneg; omega
    rw [hdm, if_pos this]; exact ⟨rfl, p, hp, hS⟩
  · have : ¬ (findD m.now n).isNone = true := by
      cases hf : findD m.now n with
      | none => rw [findV, hf] at hpos; simp at hpos
      | some e => simp
    have hres : dropM m n = (settleM { m with now := delA Ent.name m.now n }, none) := by rw [hdm, if_neg this]
    rw [hres]
    refine ⟨_, _, _, RefIn.cell hS (i := 2) (nsA _) rfl, (without_spec _ _ _ m.now n w2 hrn (by omega)).mono ?_⟩
    rintro e w3 ⟨a3, c3, rfl, k3⟩
    have h3 : St w0 X w3 ((resR gr m p ++ (p.FL.map FD.row ++ (p.P ++ N))) ++ [rowN a3 c3 (delA Ent.name m.now n)]) := Sx.St.callPart (N := []) (by rw [List.append_nil]; exact hS) k3
    obtain ⟨w4, r4, h4⟩ := h3.stL (i := 0) (o := 2) (off := 0 + 2) (T := 99) (v := .slice a3 (delA Ent.name m.now n).length c3) rfl (nsS _) rfl (by simp [rdL]) rfl
    have h4 : St w0 X w4 ((resR gr { m with now := delA Ent.name m.now n } { p with na := a3, nc := c3 } ++ (p.FL.map FD.row ++ (p.P ++ N))) ++ [rowN a3 c3 (delA Ent.name m.now n)]) := h4
    have h5 := poolAdd h4
    have hmem : RMem { m with now := delA Ent.name m.now n } { p with na := a3, nc := c3, P := p.P ++ [rowN a3 c3 (delA Ent.name m.now n)] } := ⟨hw.okNow.del n, hw.syn, hw.size, hp.files, by simp, hp.arm, hp.fails, hp.flen⟩
    refine ⟨a3, _, c3, rfl, w4, r4, (rsettle_spec hmem h5).mono ?_⟩
    rintro e w5 ⟨rfl, h6⟩
    exact ⟨rfl, rfl, h6⟩

theorem rread_spec (n : Nm) (h : RefIn w0 X w gr m N) :
    Calls Try.prog 57 #[.pointer (some ⟨gr, 0, none⟩), strV n] w fun e w' => ∃ a k c, e = .returned (.tuple #[.slice a k c, .int .i64 ((foundE m n).getD 0)]) ∧ FreshB w w' a k c (readF m n) := by
  have hw := h.wf
  apply amphoraref01_Disk_Read_vc
  refine (rfound_spec n h).mono ?_
  rintro e w1 ⟨rfl, rfl⟩
  refine ⟨_, _, rfl, fun hne => ?_, fun hok => ?_⟩
  · cases hf : foundE m n with
    | none => rw [hf] at hne; simp at hne
    | some e =>
      refine ⟨none, 0, 0, rfl, ?_⟩
      have : readF m n = [] := by unfold readF; rw [if_pos (by rw [hf]; rfl)]
      rw [this]
      exact FreshB.nil _
  have hfn : foundE m n = none := by
    cases hf : foundE m n with
    | none => rfl
    | some e => rw [hf] at hok; simp at hok; exact absurd hok (foundE_pos hf).1
  rw [if_pos hfn]
  obtain ⟨hil, _⟩ := foundI_lt hw hfn
  obtain ⟨p, hp, hS⟩ := h
  obtain ⟨f, hf, hfm, hfs, hfl⟩ := hp.file hil
  have hfi := (List.getElem?_eq_some_iff.1 hf).1
  obtain ⟨g, hg⟩ := filesHead hS hfi
  obtain ⟨g2, w2, r2, k2⟩ := (St.start w1).lit bT [] (by simp) (by simp)
  have hS2 := hS.same k2.chg
  obtain ⟨l1, _, l3⟩ := St.ldF hg hf hS2
  obtain ⟨va, vc, w3, r3, k3⟩ := k2.appendB (i := 0) (xs := []) rfl l3 (by simp; omega)
  simp only [List.length_nil, Nat.zero_add, List.nil_append] at r3 k3
  refine ⟨_, _, _, w2, r2, _, _, _, RefIn.cell hS2 (i := 1) (fsA _) rfl, g, 0, hg, by omega, by omega, _, _, _, l1, va, _, vc, w3, r3, va, _, vc, by rw [hfn]; rfl, ?_⟩
  have : readF m n = f.data := by unfold readF; rw [if_neg (by rw [hfn]; simp), hfm]; rfl
  rw [this]
  exact k3.freshB (i := 0) rfl

end

open Go Sx
set_option maxRecDepth 8000

theorem built_rdisk : Try.prog.built 102 = fun parts => Instr.fill (fun i => (#[(0, 1), (1, 1), (2, 1), (3, 1), (4, 1), (5, 1), (6, 1), (7, 1), (8, 1)] : Array (Nat × Nat))[i]?) #[.int .i64 0, .slice none 0 0, .slice none 0 0, .slice none 0 0, .slice none 0 0, .int .i64 0, .bool false, .int .i64 0, .slice none 0 0] parts := by kernel_rfl
theorem rdisk_build (s : Int) (w : World) : (Instr.build 102 #[(0, .int .i64 s), (7, .int .i64 (-1))]).run Try.prog w = .ok (.agg [.int .i64 s, .slice none 0 0, .slice none 0 0, .slice none 0 0, .slice none 0 0, .int .i64 0, .bool false, .int .i64 (-1), .slice none 0 0].toArray) w := by
  apply run_build
  rw [built_rdisk]
  show Instr.fill _ _ [(0, _), (7, _)] = _
  rw [fill_step (off := 0) (sz := 1) rfl rfl (by simp), fill_step (off := 7) (sz := 1) rfl rfl (by simp [Value.cells])]
  rfl

section
variable {w0 w w' : World} {X : List Nat} {N N' T : List Res} {gr : Nat} {m : DiskM}

theorem rnew_spec (s : Int) (w : World) : Calls Try.prog 27 #[.int .i64 s] w fun e w' => (s < 0 ∨ 67108864 < s) ∧ e = .returned (.tuple #[.pointer none, .int .i64 7]) ∧ w' = w ∨ ¬ (s < 0 ∨ 67108864 < s) ∧ ∃ gr, e = .returned (.tuple #[.pointer (some ⟨gr, 0, none⟩), .int .i64 0]) ∧ RefIn w [] w' gr (newM s) [] := by
  apply amphoraref01_New_vc
  refine ⟨fun h => .inl ⟨by simpa using h, rfl, rfl⟩, fun h => ?_⟩
  have hs : ¬ (s < 0 ∨ 67108864 < s) := by simp at h; omega
  obtain ⟨g, w1, r1, h1⟩ := (St.start w).boxA (P := Try.prog) 102 [.int .i64 s, .slice none 0 0, .slice none 0 0, .slice none 0 0, .slice none 0 0, .int .i64 0, .bool false, .int .i64 (-1), .slice none 0 0]
  refine ⟨_, rdisk_build s w, g, w1, r1, .inr ⟨hs, g, rfl, ?_⟩⟩
  have h2 := (((h1.addNil 122 2).addNil 124 3).addNil 3 1).addNil 127 2
  exact ⟨{ Fa := none, Fc := 0, FL := [], na := none, nc := 0, sa := none, sc := 0, ca := none, cc := 0, fa := none, fc := 0, P := [rowN none 0 []] }, ⟨wfd_new (by omega), Live.none rfl, rfl, by simp [newM], by simp [newM], fun k hk => (by cases hk), by simp [newM], by simp [newM]⟩, h2⟩

theorem rreadAt_spec (n : Nm) (i k : Int) (hi : -9223372036854775808 ≤ i ∧ i ≤ 9223372036854775807) (hk : -9223372036854775808 ≤ k ∧ k ≤ 9223372036854775807) (h : RefIn w0 X w gr m N) :
    Calls Try.prog 58 #[.pointer (some ⟨gr, 0, none⟩), strV n, .int .i64 i, .int .i64 k] w fun e w' => ∃ a u c, e = .returned (.tuple #[.slice a u c, .int .i64 ((readAtE m n i k).getD 0)]) ∧ Chg [] w w' ∧ RdB w' a u c (readAtF m n i k) := by
  have hw := h.wf
  apply amphoraref01_Disk_ReadAt_vc
  refine (rread_spec n h).mono ?_
  rintro e w1 ⟨a, u, c, rfl, f1⟩
  have nilR : RdB w1 none 0 0 [] := ⟨Cells.nil _ _, rfl, Nat.le_refl _, fun _ => rfl⟩
  refine ⟨_, _, _, _, rfl, fun hne => ?_, fun hok => ?_⟩
  · cases hf : foundE m n with
    | none => rw [hf] at hne; simp at hne
    | some e =>
      have h1 : readAtE m n i k = some e := by unfold readAtE; rw [hf]
      have h2 : readAtF m n i k = [] := by unfold readAtF; rw [if_pos (by rw [h1]; rfl)]
      rw [h1, h2]
      exact ⟨none, 0, 0, rfl, f1.1, nilR⟩
  have hfn : foundE m n = none := by
    cases hf : foundE m n with
    | none => rfl
    | some e => rw [hf] at hok; simp at hok; exact absurd hok (foundE_pos hf).1
  obtain ⟨hil, _⟩ := foundI_lt hw hfn
  obtain ⟨D, hD⟩ : ∃ D, (fileAt m.files (foundI m n)).data = D := ⟨_, rfl⟩
  have hrf : readF m n = D := by unfold readF; rw [if_neg (by rw [hfn]; simp), hD]
  rw [hrf] at f1
  have hul : D.length = u := f1.2.1
  subst hul
  have hDl : D.length ≤ 1099511627776 := by have := (fileAt_ok hw.syn (foundI m n)).2; rw [hD] at this; exact this
  have hrE : readAtE m n i k = if rangeE D i k then some 7 else none := by unfold readAtE; rw [hfn]; simp only [hD]
  have hcond : (((decide (i < (0 : Int)) || decide (k < (0 : Int))) || decide (i > ((D.length : Nat) : Int))) || decide (k > IntKind.wrap .i64 (((D.length : Nat) : Int) - i))) = rangeE D i k := by
    unfold rangeE
    by_cases h1 : i < 0
    · simp [h1]
    · by_cases h2 : i > (D.length : Int)
      · simp [h2]
      · rw [wrap_i64 (by omega) (by omega)]
  rw [hcond]
  refine ⟨fun hbad => ?_, fun hgd => ?_⟩
  · have h1 : readAtE m n i k = some 7 := by rw [hrE, if_pos hbad]
    have h2 : readAtF m n i k = [] := by unfold readAtF; rw [if_pos (by rw [h1]; rfl)]
    rw [h1, h2]
    exact ⟨none, 0, 0, rfl, f1.1, nilR⟩
  · have h1 : readAtE m n i k = none := by rw [hrE, if_neg (by rw [hgd]; simp)]
    have h2 : readAtF m n i k = (D.drop i.toNat).take k.toNat := by unfold readAtF; rw [if_neg (by rw [h1]; simp), hD]
    rw [h1, h2]
    unfold rangeE at hgd
    simp only [Bool.or_eq_false_iff, decide_eq_false_iff_not] at hgd
    obtain ⟨⟨⟨g1, g2⟩, g3⟩, g4⟩ := hgd
    have wr : IntKind.wrap .i64 (i + k) = i + k := wrap_i64 (by omega) (by omega)
    have hle := f1.rdB.le
    refine ⟨by omega, by rw [wr]; omega, by rw [wr]; omega, fun a' hsub => ?_⟩
    have hlt : (IntKind.wrap .i64 (i + k)).toNat = i.toNat + k.toNat := by rw [wr]; omega
    have hs := Rd.sub f1.rdB hsub (hh := i.toNat + k.toNat) (by omega) (by omega) (by omega) (Nat.le_refl _)
    have e2 : ((bv D).drop (i.toNat * 1)).take ((i.toNat + k.toNat - i.toNat) * 1) = bv ((D.drop i.toNat).take k.toNat) := by simp [bv_take, bv_drop]
    rw [e2] at hs
    rw [hlt]
    exact ⟨_, _, _, rfl, f1.1, hs⟩

theorem rlist_spec (h : RefIn w0 X w gr m N) : Calls Try.prog 63 #[.pointer (some ⟨gr, 0, none⟩)] w fun e w' => ∃ a c, e = .returned (.slice a (namesM m).length c) ∧ St w [] w' [.row 9 1 (.slice a (namesM m).length c) (namesM m).length ((namesM m).map strV)] := by
  obtain ⟨p, hp, hS⟩ := h
  have hnl := hp.wf.okNow.len
  have hrn := poolRd hS hp.now
  have hnm : (namesM m).length = m.now.length := by simp [namesM]
  apply amphoraref01_Disk_List_vc
  refine ⟨fun xa xn xc x w' => ∃ i : Nat, x = (i : Int) ∧ i ≤ m.now.length ∧ xn = ((namesM m).take i).length ∧ St w [] w' [.row 9 1 (.slice xa ((namesM m).take i).length xc) ((namesM m).take i).length (((namesM m).take i).map strV)], fun _ _ _ x _ => m.now.length - x.toNat, ⟨0, rfl, by omega, rfl, (St.start w).addNil _ _⟩, ?_⟩
  rintro xa xn xc x w1 ⟨i, rfl, hi, rfl, k1⟩
  have hS1 := hS.same k1.chg
  refine ⟨_, _, _, RefIn.cell hS1 (i := 2) (nsA _) rfl, fun hlt => ?_, fun hge => ?_⟩
  · have hi' : i < m.now.length := by simp at hlt; omega
    have he : m.now[i]? = some m.now[i] := List.getElem?_eq_getElem hi'
    obtain ⟨e, hed⟩ : ∃ e, m.now[i] = e := ⟨_, rfl⟩
    rw [hed] at he
    obtain ⟨b, o, hab, q⟩ := hrn.fld he
    have htk : (namesM m).take (i + 1) = (namesM m).take i ++ [e.name] := by rw [List.take_add_one, namesM, List.getElem?_map, he]; rfl
    have hl1 : ((namesM m).take i).length ≤ 4096 := by rw [List.length_take]; omega
    obtain ⟨g2, w2, va, vc, w3, r2, r3, k3, _⟩ := k1.pushV (i := 0) (ty := 39) strT rfl (strV e.name) rfl (by omega) (by simp only [maxLen]; omega)
    have e1 : ((namesM m).take i ++ [e.name]).length = ((namesM m).take i).length + 1 := by simp
    have e2 : ((namesM m).take i ++ [e.name]).map strV = ((namesM m).take i).map strV ++ [strV e.name] := by simp
    refine ⟨_, _, _, RefIn.cell hS1 (i := 2) (nsA _) rfl, b, o, hab, by omega, by omega, _, (q w1 (hrn.keep0 k1.chg)).1, _, _, _, w2, r2, va, _, vc, w3, r3, ⟨i + 1, wrap_succ hi' (by omega), by omega, by rw [htk, e1], ?_⟩, mu_succ hi' (by omega)⟩
    rw [htk, e1, e2]
    exact k3
  · have hi' : i = (namesM m).length := by simp at hge; omega
    rw [hi', List.take_of_length_le (Nat.le_refl _)] at k1 ⊢
    exact ⟨xa, xc, rfl, k1⟩

end

open Go Sx
set_option maxRecDepth 8000

section
variable {w0 w w' : World} {X : List Nat} {N N' T : List Res} {gr : Nat} {m : DiskM}

set_option maxHeartbeats 1000000 in
theorem rall_spec (h : RefIn w0 X w gr m N) : Calls Try.prog 62 #[.pointer (some ⟨gr, 0, none⟩)] w fun e w' => ∃ (a : Option Addr) (c : Nat) (L : List FV), e = .returned (.slice a L.length c) ∧ L.map FV.t = filesM m ∧ St w [] w' (.row 42 2 (.slice a L.length c) L.length (L.flatMap FV.cells) :: L.map FV.row) := by
  obtain ⟨p, hp, hS⟩ := h
  have hw := hp.wf
  have hnl := hw.okNow.len
  have hrn := poolRd hS hp.now
  apply amphoraref01_Disk_All_vc
  refine ⟨fun xa xn xc x w' => ∃ (i : Nat) (L : List FV), x = (i : Int) ∧ i ≤ m.now.length ∧ xn = L.length ∧ L.map FV.t = (filesM m).take i ∧ St w [] w' (.row 42 2 (.slice xa L.length xc) L.length (L.flatMap FV.cells) :: L.map FV.row), fun _ _ _ x _ => m.now.length - x.toNat, ⟨0, [], rfl, by omega, rfl, rfl, (St.start w).addNil _ _⟩, ?_⟩
  rintro xa xn xc x w1 ⟨i, L, rfl, hi, rfl, hL, k1⟩
  have hS1 := hS.same k1.chg
  have hLl : L.length = i := by have := congrArg List.length hL; simp [filesM] at this; omega
  refine ⟨_, _, _, RefIn.cell hS1 (i := 2) (nsA _) rfl, fun hlt => ?_, fun hge => ?_⟩
  · have hi' : i < m.now.length := by simp at hlt; omega
    have he : m.now[i]? = some m.now[i] := List.getElem?_eq_getElem hi'
    obtain ⟨e, hed⟩ : ∃ e, m.now[i] = e := ⟨_, rfl⟩
    rw [hed] at he
    obtain ⟨b, o, hab, q⟩ := hrn.fld he
    obtain ⟨f, hf, hfm, _, hfl⟩ := hp.file (hw.okNow.ent e (List.mem_of_getElem? he)).1
    have hfi := (List.getElem?_eq_some_iff.1 hf).1
    obtain ⟨g, hg⟩ := filesHead hS hfi
    have k1d := k1.drew
    obtain ⟨g2, w2, r2, k2⟩ := k1d.lit bT [] (by simp) (by simp)
    have hl3 : RdB w2 f.a f.data.length f.c f.data := (St.ldF hg hf (hS.same k2.chg)).2.2
    obtain ⟨va, vc, w3, r3, k3⟩ := k2.appendB (i := (.row 42 2 (.slice xa L.length xc) L.length (L.flatMap FV.cells) :: L.map FV.row : List Res).length) (xs := []) getLast' hl3 (by simp; omega)
    simp only [List.length_nil, Nat.zero_add, List.nil_append] at r3 k3
    rw [List.set_append_right _ _ (Nat.le_refl _), Nat.sub_self] at k3
    let v : FV := ⟨e.name, va, vc, f.data⟩
    have k3 : St w [] w3 ((.row 42 2 (.slice xa L.length xc) L.length (L.flatMap FV.cells) :: L.map FV.row) ++ [v.row]) := k3
    obtain ⟨g4, w4, ua, uc, w5, r4, r5, k5, k4⟩ := k3.pushA (i := 0) (ty := 37) fileT rfl v.cells rfl (by decide) (fun u hu => by simp only [v, FV.cells, List.mem_cons, List.not_mem_nil, or_false] at hu; rcases hu with rfl | rfl <;> rfl) (by omega) (by simp only [maxLen]; omega)
    refine ⟨fun w' => Chg [] w w', k1d.chg, _, _, _, fun w' hw' => RefIn.cell (hS.same hw') (i := 2) (nsA _) rfl, b, o, hab, by omega, by omega, _, fun w' hw' => (q w' (hrn.keep0 hw')).1, _, _, _, fun w' hw' => RefIn.cell (hS.same hw') (i := 1) (fsA _) rfl, _, _, _, fun w' hw' => RefIn.cell (hS.same hw') (i := 2) (nsA _) rfl, b, o, hab, by omega, by omega, _, fun w' hw' => (q w' (hrn.keep0 hw')).2.1, g, 0, hg, by omega, by omega, _, _, _, fun w' hw' => (St.ldF hg hf (hS.same hw')).1, _, _, _, w2, r2, fun w' => Chg [] w w', fun _ h => h, k2.chg, va, _, vc, w3, r3, fun w' => Chg [] w w', fun _ h => h, k3.chg, _, fun w' _ => file_build e.name va _ vc w', _, _, _, w4, r4, fun w' => Chg [] w w', fun _ h => h, k4.chg, ua, _, uc, w5, r5, fun w' => Chg [] w w', fun _ h => h, k5.chg, ⟨i + 1, L ++ [v], wrap_succ hi' (by omega), by omega, by simp, ?_, ?_⟩, mu_succ hi' (by omega)⟩
    · rw [List.map_append, hL, List.take_add_one, filesM, List.getElem?_map, he]
      simp only [Option.map_some, Option.toList_some, hfm]
      rfl
    · have e1 : (L ++ [v]).flatMap FV.cells = L.flatMap FV.cells ++ v.cells := by simp
      have e2 : (L ++ [v]).length = L.length + 1 := by simp
      have e3 : (L ++ [v]).map FV.row = L.map FV.row ++ [v.row] := by simp
      rw [e1, e2, e3]
      exact k5
  · have hi' : i = m.now.length := by simp at hge; omega
    refine ⟨xa, xc, L, rfl, ?_, k1⟩
    rw [hL, hi', List.take_of_length_le (by simp [filesM])]

set_option maxHeartbeats 1000000 in
theorem rput_spec (n : Nm) (a : Option Addr) (k c : Nat) (data : List UInt8) (h : RefIn w0 X w gr m N) (hr : RdB w a k c data) (hk : k ≤ 1099511627776) (hfl : m.files.length < 1000000000) :
    Calls Try.prog 60 #[.pointer (some ⟨gr, 0, none⟩), strV n, .slice a k c] w fun e w' => e = .returned (.int .i64 ((putM m n data).2.getD 0)) ∧ RefIn w0 X w' gr (putM m n data).1 N := by
  have hdl := hr.lenB
  have hw := h.wf
  have hnl := hw.okNow.len
  apply amphoraref01_Disk_Put_vc
  refine (name_spec n w).mono ?_
  rintro e w1 ⟨rfl, rfl⟩
  refine ⟨_, rfl, fun hb => ?_, fun hg => ?_⟩
  · have : putM m n data = (m, some 6) := by unfold putM; rw [if_pos hb]
    rw [this]; exact ⟨rfl, h⟩
  have hgood : goodN n = true := by simpa using hg
  have hpm : putM m n data = if (findD m.now n).isNone && decide (4096 ≤ m.now.length) then (m, some 19) else (putF m n data, none) := by unfold putM; rw [if_neg (by rw [hg]; simp)]
  obtain ⟨p, hp, hS⟩ := h
  have hrn := poolRd hS hp.now
  refine ⟨fun x w' => x = ((findD m.now n).isNone && decide (4096 ≤ m.now.length)) ∧ w' = w1, ⟨_, _, _, RefIn.cell hS (i := 2) (nsA _) rfl, (find_spec _ _ _ m.now n w1 hrn (by omega)).mono ?_⟩, ?_⟩
  · rintro e w2 ⟨rfl, rfl⟩
    refine ⟨_, rfl, fun hneg => ⟨_, _, _, RefIn.cell hS (i := 2) (nsA _) rfl, ?_, rfl⟩, fun hpos => ⟨?_, rfl⟩⟩
    · have : (findD m.now n).isNone = true := by
        cases hf : findD m.now n with
        | none => rfl
        | some e => rw [findV, hf] at hneg; simp at hneg; omega
      rw [this]
      have : decide ((m.now.length : Int) ≥ 4096) = decide (4096 ≤ m.now.length) := by
        by_cases h : 4096 ≤ m.now.length
        · rw [decide_eq_true h, decide_eq_true (by omega)]
        · rw [decide_eq_false h, decide_eq_false (by omega)]
      rw [this]; rfl
    · have : (findD m.now n).isNone = false := by
        cases hf : findD m.now n with
        | none => rw [findV, hf] at hpos; simp at hpos
        | some e => rfl
      rw [this]; rfl
  rintro x w3 ⟨rfl, rfl⟩
  refine ⟨fun hmany => ?_, fun hok => ?_⟩
  · rw [hpm, if_pos hmany]
    exact ⟨rfl, p, hp, hS⟩
  have hres : putM m n data = (putF m n data, none) := by rw [hpm, if_neg (by rw [hok]; simp)]
  rw [hres]
  have hFLl : p.FL.length = m.files.length := by have := congrArg List.length hp.files; simpa using this
  obtain ⟨g4, w4, r4, k4⟩ := (St.start w3.drew).lit bT [] (by simp) (by simp)
  obtain ⟨va, vc, w5, r5, k5⟩ := k4.appendB (i := 0) (xs := []) rfl ((hr.keep0 (Chg.drew [] w3)).keep0 k4.chg) (by simp; omega)
  simp only [List.length_nil, Nat.zero_add, List.nil_append] at r5 k5
  let f : FD := ⟨va, vc, data, 0⟩
  have hfc : f.cells = [.slice va k vc, .int .i64 0] := by show [Value.slice va data.length vc, Value.int .i64 ((0 : Nat) : Int)] = _; rw [hdl]; rfl
  have k5 : St w3.drew [] w5 [f.row] := by
    have : f.row = .row 5 1 (.slice va k vc) k (bv data) := by show Res.row _ _ (.slice va data.length vc) data.length _ = _; rw [hdl]
    rw [this]; exact k5
  have hS5 : St w0 X w5 ((resR gr m p ++ (p.FL.map FD.row ++ (p.P ++ N))) ++ [f.row]) := Sx.St.callPart (N := []) (by rw [List.append_nil]; exact hS.drew) k5
  obtain ⟨g6, w6, ua, uc, w7, w8, r6, r7, h6, h7, r8, h8⟩ := St.newFile hS5 (by rw [hFLl]; exact hfl)
  rw [hfc] at r6
  have hp8 := hp.addFile f ⟨Nat.zero_le _, by show data.length ≤ _; omega⟩ (va := ua) (vc := uc)
  have hfm : f.m = ⟨data, 0⟩ := rfl
  rw [hfm] at h8 hp8
  obtain ⟨m2, hm2⟩ : ∃ m2, ({ m with files := m.files ++ [⟨data, 0⟩] } : DiskM) = m2 := ⟨_, rfl⟩
  obtain ⟨p2, hp2⟩ : ∃ p2, ({ p with Fa := ua, Fc := uc, FL := p.FL ++ [f] } : RP) = p2 := ⟨_, rfl⟩
  have hFL2 : p.FL ++ [f] = p2.FL := by rw [← hp2]
  have hP2 : p.P = p2.P := by rw [← hp2]
  rw [hm2, hp2] at hp8
  rw [hm2, hp2, hFL2, hP2] at h8
  have hm2n : m2.now = m.now := by rw [← hm2]
  have hm2f : m2.files = m.files ++ [⟨data, 0⟩] := by rw [← hm2]
  have hF2l : p2.FL.length = m.files.length + 1 := by rw [← hFL2]; simp [hFLl]
  have hwl : IntKind.wrap .i64 (((p2.FL.length : Nat) : Int) - 1) = (m.files.length : Int) := by rw [hF2l, wrap_i64 (by omega) (by omega)]; omega
  have h8d := h8.drew
  have hrn8 := poolRd h8d hp8.now
  refine ⟨fun w' => ∃ Y, St w0 X w' (.arr gr 102 (rdL m p) :: Y), ⟨_, hS.drew⟩, _, _, _, fun w' ⟨Y, hY⟩ => hY.ldL (i := 0) (o := 1) rfl (fsA _) rfl rfl, _, _, _, w4, r4, fun w' => ∃ Y, St w0 X w' (.arr gr 102 (rdL m p) :: Y), fun _ h => h, ⟨_, hS.drew.same k4.chg⟩, va, _, vc, w5, r5, fun w' => ∃ Y, St w0 X w' (.arr gr 102 (rdL m p) :: Y), fun _ h => h, ⟨_, hS5⟩, _, fun w' _ => f_build0 va k vc w', _, _, _, w6, r6, fun w' => ∃ Y, St w0 X w' (.arr gr 102 (rdL m p) :: Y), fun _ h => h, ⟨_, h6⟩, ua, _, uc, w7, r7, fun w' => ∃ Y, St w0 X w' (.arr gr 102 (rdL m p) :: Y), fun _ h => h, h7, w8, r8, fun w' => Chg [] w8 w', Chg.drew _ _, _, _, _, fun w' hw' => RefIn.cell (h8.same hw') (i := 2) (nsA _) rfl, _, _, _, fun w' hw' => RefIn.cell (h8.same hw') (i := 1) (fsA _) rfl, ?_⟩
  rw [hwl]
  refine (with_spec _ _ _ m2.now n m.files.length w8.drew hrn8 hp8.wf.okNow.asc (by rw [hm2n]; omega)).mono ?_
  rintro e w9 ⟨a9, c9, rfl, k9⟩
  have h9 : St w0 X w9 ((resR gr m2 p2 ++ (p2.FL.map FD.row ++ (p2.P ++ N))) ++ [rowN a9 c9 (insA Ent.name m2.now ⟨n, m.files.length⟩)]) := Sx.St.callPart (N := []) (by rw [List.append_nil]; exact h8d) k9
  obtain ⟨w10, r10, h10⟩ := h9.stL (i := 0) (o := 2) (off := 0 + 2) (T := 99) (v := .slice a9 (insA Ent.name m2.now ⟨n, m.files.length⟩).length c9) rfl (nsS _) rfl (by simp [rdL]) rfl
  have h10 : St w0 X w10 ((resR gr { m2 with now := insA Ent.name m2.now ⟨n, m.files.length⟩ } { p2 with na := a9, nc := c9 } ++ (p2.FL.map FD.row ++ (p2.P ++ N))) ++ [rowN a9 c9 (insA Ent.name m2.now ⟨n, m.files.length⟩)]) := h10
  have h11 := poolAdd h10
  have hmem : RMem { m2 with now := insA Ent.name m2.now ⟨n, m.files.length⟩ } { p2 with na := a9, nc := c9, P := p2.P ++ [rowN a9 c9 (insA Ent.name m2.now ⟨n, m.files.length⟩)] } := by
    refine ⟨?_, hp8.wf.syn, hp8.wf.size, hp8.files, by simp, hp8.arm, hp8.fails, hp8.flen⟩
    refine hp8.wf.okNow.ins (by rw [hm2f]; simp) hgood ?_ fun x hx _ => ?_
    · rw [hm2n]
      cases hq : findD m.now n with
      | none =>
        left
        rw [hq] at hok
        simp at hok
        omega
      | some e => right; simp
    · rw [hm2n] at hx
      have := (hp.wf.okNow.ent x hx).1
      omega
  refine ⟨a9, _, c9, rfl, fun w' => Chg [] w8 w', fun _ h => h, (Chg.drew [] w8).trans k9.chg, w10, r10, (rsettle_spec hmem h11).mono ?_⟩
  rintro e w11 ⟨rfl, h12⟩
  refine ⟨rfl, rfl, ?_⟩
  have : putF m n data = settleM { m2 with now := insA Ent.name m2.now ⟨n, m.files.length⟩ } := by rw [← hm2]; rfl
  rw [this]
  exact h12

end

open Go Sx
set_option maxRecDepth 8000

theorem fZ (w : World) : (zeroValue 122).run Try.prog w = .ok (.agg [Value.slice none 0 0, Value.int .i64 0].toArray) w := Try.zeroValue122 w
theorem fSz (w : World) : (sizeOf 122).run Try.prog w = .ok 2 w := Try.sizeOf122 w
theorem fAg (w : World) : (isAgg 122).run Try.prog w = .ok true w := Try.isAgg122 w

theorem Sx.St.stRowA' {P : Program} {w0 w : World} {X : List Nat} {M : List Res} (h : St w0 X w M) {i g n c j k : Nat} {e T : TypeId} {xs vs : List Value} (hi : M[i]? = some (.row e k (.slice (some ⟨g, 0, none⟩) n c) n xs)) (hT : (sizeOf T).run P w = .ok k w) (hl : vs.length = k) (h1 : ∀ v ∈ vs, v.oneCell' = true) (hj : j < n) :
    ∃ w', (Instr.storeAt T (.pointer (some ⟨g, j * k, none⟩)) (.agg vs.toArray)).run P w = .ok () w' ∧ St w0 X w' (M.set i (.row e k (.slice (some ⟨g, 0, none⟩) n c) n (xs.take (j * k) ++ vs ++ xs.drop (j * k + k)))) := by
  have hown : w.ownsRow 0 e k (.slice (some ⟨g, 0, none⟩) n c) n xs := h.holds i _ hi
  obtain ⟨hlen, hrow⟩ := hown
  rcases hrow with ⟨hv0, _⟩ | ⟨g', cap, cur, hv0, hb, hg, hnc, hcm, hcs, ht⟩
  · simp at hv0
  · simp only [Value.slice.injEq, Option.some.injEq, Addr.mk.injEq, and_true, true_and] at hv0
    obtain ⟨rfl, rfl⟩ := hv0
    have hjk : j * k + k ≤ n * k := by rw [← Nat.succ_mul]; exact Nat.mul_le_mul_right k hj
    have hck : n * k ≤ c * k := Nat.mul_le_mul_right k hnc
    have hst := run_storeCells_at P g (j * k) e vs 0 cur w hg (by omega) h1
    simp only [Nat.add_zero, hl] at hst
    have hcl : cur.toList.length = c * k := by rw [Array.length_toList, hcs]
    refine ⟨_, ?_, h.upd hi (w' := w.setRow g (cur.toList.take (j * k) ++ vs ++ cur.toList.drop (j * k + k)).toArray) ⟨rfl, rfl, rfl, by simp, fun q _ hk => setRow_other w g q _ (fun e => hk (by simp [Res.fp, Value.ownBlock, e]))⟩ ?_ (by simp [Res.fp, Value.ownBlock])⟩
    · simp [Instr.storeAt, Instr.sureAddr, storeVar, hT, Value.cells, hl, hst]
    · have hxl : xs.length = n * k := hlen
      refine ⟨?_, .inr ⟨g, c, _, rfl, hb, setRow_heap w g cur _ e _ hg, hnc, hcm, ?_, ?_⟩⟩
      · simp only [List.length_append, List.length_take, List.length_drop, hxl, hl]; omega
      · simp only [List.size_toArray, List.length_append, List.length_take, List.length_drop, hcl, hl]; omega
      · rw [List.toList_toArray]
        have hx : xs = cur.toList.take (n * k) := ht.symm
        apply List.ext_getElem?
        intro q
        rw [hx]
        by_cases hq : q < n * k
        · rw [List.getElem?_take, if_pos hq]
          by_cases h2 : q < j * k
          · have la : (cur.toList.take (j * k)).length = j * k := by simp only [List.length_take, hcl]; omega
            have lb : ((cur.toList.take (n * k)).take (j * k)).length = j * k := by simp only [List.length_take, hcl]; omega
            have e1 : ∀ B : List Value, (cur.toList.take (j * k) ++ vs ++ B)[q]? = cur.toList[q]? := fun B => by rw [List.append_assoc, List.getElem?_append_left (by omega), List.getElem?_take, if_pos h2]
            have e2 : ∀ B : List Value, ((cur.toList.take (n * k)).take (j * k) ++ vs ++ B)[q]? = cur.toList[q]? := fun B => by rw [List.append_assoc, List.getElem?_append_left (by omega), List.getElem?_take, if_pos h2, List.getElem?_take, if_pos hq]
            rw [e1, e2]
          · by_cases h3 : q < j * k + k
            · have la : (cur.toList.take (j * k)).length = j * k := by simp only [List.length_take, hcl]; omega
              have lb : ((cur.toList.take (n * k)).take (j * k)).length = j * k := by simp only [List.length_take, hcl]; omega
              have e1 : ∀ A B : List Value, A.length = j * k → (A ++ vs ++ B)[q]? = vs[q - j * k]? := fun A B hA => by rw [List.append_assoc, List.getElem?_append_right (by omega), hA, List.getElem?_append_left (by omega)]
              rw [e1 _ _ la, e1 _ _ lb]
            · have la : (cur.toList.take (j * k) ++ vs).length = j * k + k := by simp only [List.length_append, List.length_take, hcl, hl]; omega
              have lb : ((cur.toList.take (n * k)).take (j * k) ++ vs).length = j * k + k := by simp only [List.length_append, List.length_take, hcl, hl]; omega
              have e1 : ∀ A B : List Value, A.length = j * k + k → (A ++ B)[q]? = B[q - (j * k + k)]? := fun A B hA => by rw [List.getElem?_append_right (by omega), hA]
              rw [e1 _ _ la, e1 _ _ lb, List.getElem?_drop, List.getElem?_drop, List.getElem?_take, if_pos (by omega)]
        · rw [List.getElem?_take, if_neg hq, List.getElem?_eq_none]
          simp only [List.length_append, List.length_take, List.length_drop, hcl, hl]; omega

theorem flatMap_setA {α : Type} {enc : α → List Value} {k : Nat} : ∀ {l : List α} {i : Nat} {x y : α}, (∀ z ∈ l, (enc z).length = k) → l[i]? = some x → (l.flatMap enc).take (i * k) ++ enc y ++ (l.flatMap enc).drop (i * k + k) = (l.set i y).flatMap enc
  | [], i, x, y, _, hx => by simp at hx
  | z :: l, 0, x, y, h, hx => by
    have hz := h z (by simp)
    rw [Nat.zero_mul, List.take_zero, List.nil_append, Nat.zero_add, List.flatMap_cons, List.set_cons_zero, List.flatMap_cons, List.drop_left' hz]
  | z :: l, i + 1, x, y, h, hx => by
    have hz := h z (by simp)
    have hx' : l[i]? = some x := by simpa using hx
    have ih := flatMap_setA (y := y) (fun q hq => h q (by simp [hq])) hx'
    have e1 : (i + 1) * k = k + i * k := by rw [Nat.succ_mul]; omega
    rw [List.flatMap_cons, List.set_cons_succ, List.flatMap_cons, ← ih, e1]
    rw [List.take_append, List.drop_append, List.take_of_length_le (by omega), List.drop_of_length_le (by omega), hz, List.nil_append]
    have e2 : k + i * k - k = i * k := by omega
    have e3 : k + i * k + k - k = i * k + k := by omega
    rw [e2, e3]
    simp [List.append_assoc]

open Go Sx
set_option maxRecDepth 8000

section
variable {w0 w w' : World} {X : List Nat} {N N' T : List Res} {gr : Nat} {m : DiskM}

/-- A file's struct is stored back, its row cut. -/
theorem St.cutFile {p : RP} {g : Nat} (hg : p.Fa = some ⟨g, 0, none⟩) {i Z : Nat} {f : FD} (hf : p.FL[i]? = some f) (hZ : Z ≤ f.data.length) (hS : St w0 X w (resR gr m p ++ (p.FL.map FD.row ++ T))) :
    ∃ w', (Instr.storeAt 122 (.pointer (some ⟨g, 0 + Int.toNat (i : Int) * 2, none⟩)) (.agg (FD.cells ⟨f.a, f.c, f.data.take Z, f.syn⟩).toArray)).run Try.prog w = .ok () w' ∧ St w0 X w' (resR gr m { p with FL := p.FL.set i ⟨f.a, f.c, f.data.take Z, f.syn⟩ } ++ ((p.FL.set i ⟨f.a, f.c, f.data.take Z, f.syn⟩).map FD.row ++ T)) := by
  have hil := (List.getElem?_eq_some_iff.1 hf).1
  have hi1 : (resR gr m p ++ (p.FL.map FD.row ++ T))[1]? = some (.row 122 2 (.slice (some ⟨g, 0, none⟩) p.FL.length p.Fc) p.FL.length (p.FL.flatMap FD.cells)) := by rw [← hg]; rfl
  obtain ⟨w1, r1, h1⟩ := hS.stRowA' hi1 (T := 122) (fSz _) (FD.cells_len ⟨f.a, f.c, f.data.take Z, f.syn⟩) (FD.cells_one _) hil
  refine ⟨w1, by rw [Int.toNat_natCast, Nat.zero_add]; exact r1, ?_⟩
  rw [flatMap_setA (fun z _ => FD.cells_len z) hf] at h1
  have e3 : (p.FL.set i ⟨f.a, f.c, f.data.take Z, f.syn⟩).length = p.FL.length := by simp
  have h2 : St w0 X w1 (resR gr m { p with FL := p.FL.set i ⟨f.a, f.c, f.data.take Z, f.syn⟩ } ++ (p.FL.map FD.row ++ T)) := by
    unfold resR rdL
    simp only [e3, hg]
    unfold resR rdL at h1
    simp only [hg] at h1
    exact h1
  have h3 := h2.perm (perm_FD hf _ _)
  have hzl : (f.data.take Z).length = Z := by rw [List.length_take]; omega
  have h4 := h3.upd (i := 0) (r' := FD.row ⟨f.a, f.c, f.data.take Z, f.syn⟩) rfl (Chg.refl _ _) (by have := rowTake (h3.holds 0 _ rfl) hZ; show w1.ownsRow 0 _ 1 (.slice f.a (f.data.take Z).length f.c) (f.data.take Z).length _; rw [hzl]; exact this) (fun k hk => .inl (by revert hk; unfold FD.row Res.fp; cases f.a <;> exact id))
  have hq := perm_FD (FL := p.FL.set i ⟨f.a, f.c, f.data.take Z, f.syn⟩) (i := i) (f := ⟨f.a, f.c, f.data.take Z, f.syn⟩) (by rw [List.getElem?_set_self hil]) (resR gr m { p with FL := p.FL.set i ⟨f.a, f.c, f.data.take Z, f.syn⟩ }) T
  rw [eraseIdx_setD] at hq
  exact h4.perm hq.symm

end

open Go Sx
set_option maxRecDepth 8000

section
variable {w0 w w' : World} {X : List Nat} {N N' T : List Res} {gr : Nat} {m : DiskM}

set_option maxHeartbeats 4000000 in
theorem rcrash_spec (dirs : Int) (ca : Option Addr) (cn cc : Nat) (cuts : List Int) (h : RefIn w0 X w gr m N) (hq : ∀ w', St w0 X w' N → Rd w' ca cn cc 1 (zv cuts)) (hb : m.chs.length < 1000000000) :
    Calls Try.prog 59 #[.pointer (some ⟨gr, 0, none⟩), .agg #[.int .i64 dirs, .slice ca cn cc]] w fun e w' => e = .returned (.tuple #[]) ∧ RefIn w0 X w' gr (crashM m dirs cuts) N := by
  have hcl : cuts.length = cn := by have := (hq w h.rest).len; simpa using this
  apply amphoraref01_Disk_Crash_vc
  obtain ⟨p, hp, hS⟩ := h
  have hw := hp.wf
  obtain ⟨g3, w1, r1, k1⟩ := (St.start w).boxA (P := Try.prog) 50 [.int .i64 dirs, .slice ca cn cc]
  have k1 : St w [] w1 [.arr g3 50 [.int .i64 dirs, .slice ca cn cc]] := k1
  obtain ⟨sv, hsv⟩ : ∃ sv : Res, (.arr g3 50 [.int .i64 dirs, .slice ca cn cc] : Res) = sv := ⟨_, rfl⟩
  rw [hsv] at k1
  have h1 : St w0 X w1 (resR gr m p ++ (p.FL.map FD.row ++ (p.P ++ (N ++ [sv])))) := by
    have := Sx.St.callPart (N := []) (by rw [List.append_nil]; exact hS) k1
    have e : resR gr m p ++ (p.FL.map FD.row ++ (p.P ++ N)) ++ [sv] = resR gr m p ++ (p.FL.map FD.row ++ (p.P ++ (N ++ [sv]))) := by simp [List.append_assoc]
    rw [← e]; exact this
  have hsvS : ∀ {w' : World} {R F P : List Res}, St w0 X w' (R ++ (F ++ (P ++ (N ++ [sv])))) → St w0 X w' [sv] ∧ St w0 X w' N := fun h => by
    have h2 := h.sub (((List.sublist_append_right _ _).trans (List.sublist_append_right _ _)).trans (List.sublist_append_right _ _))
    exact ⟨h2.sub (List.sublist_append_right _ _), h2.sub (List.sublist_append_left _ _)⟩
  have hd0 : ∀ {w' : World}, St w0 X w' [sv] → (Instr.loadAt 3 (.pointer (some ⟨g3, 0, none⟩))).run Try.prog w' = .ok (.int .i64 dirs) w' ∧ (Instr.loadAt 48 (.pointer (some ⟨g3, 1, none⟩))).run Try.prog w' = .ok (.slice ca cn cc) w' := fun h => by
    rw [← hsv] at h
    exact ⟨h.ldL (i := 0) (o := 0) rfl (intA _) rfl rfl, h.ldL (i := 0) (o := 1) rfl (insA' _) rfl rfl⟩
  obtain ⟨K, hKd⟩ : ∃ K : Nat, min dirs.toNat m.chs.length = K := ⟨_, rfl⟩
  have hKle : K ≤ m.chs.length := by omega
  refine ⟨g3, w1, r1, p.sa, m.syn.length, p.sc, h1.ldL (i := 0) (o := 3) rfl (nsA _) rfl rfl, fun xa xn xc x w' => ∃ (i : Nat) (P' : List Res), x = (i : Int) ∧ i ≤ K ∧ xn = (replay m.syn (m.chs.take i)).length ∧ rowN xa xc (replay m.syn (m.chs.take i)) ∈ P' ∧ St w0 X w' (resR gr m p ++ (p.FL.map FD.row ++ (P' ++ (N ++ [sv])))), fun _ _ _ x _ => K - x.toNat, ⟨0, p.P, rfl, by omega, rfl, hp.syn, h1⟩, ?_⟩
  rintro xa xn xc x w2 ⟨i, P', rfl, hi, rfl, hrow, h2⟩
  have hdi := hw.dirs i
  have hchl : (Instr.loadAt 100 (.pointer (some ⟨gr, 0 + 4, none⟩))).run Try.prog w2 = .ok (.slice p.ca m.chs.length p.cc) w2 := h2.ldL (i := 0) (o := 4) rfl (csA _) rfl rfl
  refine ⟨fun x w' => x = decide (i < K) ∧ w' = w2, ⟨_, _, _, hchl, fun hlt => ⟨_, (hd0 (hsvS h2).1).1, ?_, rfl⟩, fun hge => ⟨?_, rfl⟩⟩, ?_⟩
  · have : i < m.chs.length := by simp at hlt; omega
    by_cases hk : i < K
    · rw [decide_eq_true hk, decide_eq_true (by omega)]
    · rw [decide_eq_false hk, decide_eq_false (by omega)]
  · have : ¬ i < m.chs.length := by simp at hge; omega
    rw [decide_eq_false (by omega)]
  rintro x w3 ⟨rfl, rfl⟩
  have hrn : RdN w3 xa (replay m.syn (m.chs.take i)).length xc (replay m.syn (m.chs.take i)) := poolRd (p := { p with P := P' }) h2 hrow
  refine ⟨fun hlt => ?_, fun hge => ?_⟩
  · have hi' : i < K := by simpa using hlt
    have hx : m.chs[i]? = some m.chs[i] := List.getElem?_eq_getElem (by omega)
    obtain ⟨c, hc⟩ : ∃ c, m.chs[i] = c := ⟨_, rfl⟩
    rw [hc] at hx
    have hrc : RdE chR 3 w3 p.ca m.chs.length p.cc m.chs := ⟨h2.rd (i := 2) rfl, fun y _ => chR_len y⟩
    obtain ⟨b, o, hab, q⟩ := hrc.ld (P := Try.prog) (by decide) cAg cSz hx
    refine ⟨_, _, _, hchl, b, o, hab, by omega, by omega, _, q w3 hrc, (made_spec xa _ xc _ c w3 hrn hdi.asc (fun hm _ => hp.live i c hx hm) (by have := hdi.len; omega)).mono ?_⟩
    rintro e w4 ⟨a4, c4, rfl, k4⟩
    have h4 := poolAdd (Sx.St.callPart (N := []) (by rw [List.append_nil]; exact h2) k4)
    have hstep : replay m.syn (m.chs.take (i + 1)) = mkD (replay m.syn (m.chs.take i)) c := by
      rw [List.take_add_one, hx]
      simp only [Option.toList_some, replay_snoc]
    exact ⟨a4, _, c4, rfl, ⟨i + 1, P' ++ [rowN a4 c4 (mkD (replay m.syn (m.chs.take i)) c)], wrap_succ hi' (by omega), by omega, by rw [hstep], by rw [hstep]; simp, h4⟩, mu_succ hi' (by omega)⟩
  have hi' : i = K := by
    have : ¬ i < K := by simpa using hge
    omega
  subst hi'
  obtain ⟨d, hd⟩ : ∃ d, crashD m dirs = d := ⟨_, rfl⟩
  have hrd : replay m.syn (m.chs.take i) = d := by
    rw [← hd, crashD]
    congr 1
    rw [← hKd]
    by_cases hle : dirs.toNat ≤ m.chs.length
    · rw [Nat.min_eq_left hle]
    · rw [Nat.min_eq_right (by omega), List.take_of_length_le (Nat.le_refl _), List.take_of_length_le (by omega)]
  rw [hrd] at hdi hrn hrow ⊢
  have hdl := hdi.len
  obtain ⟨w5, r5, h5⟩ := h2.stL (i := 0) (o := 2) (off := 0 + 2) (T := 99) (v := .slice xa d.length xc) rfl (nsS _) rfl (by simp [rdL]) rfl
  have h5 : St w0 X w5 (resR gr { m with now := d } { p with na := xa, nc := xc } ++ (p.FL.map FD.row ++ (P' ++ (N ++ [sv])))) := h5
  refine ⟨w5, r5, fun x w' => ∃ (i : Nat) (FL : List FD), x = (i : Int) ∧ i ≤ d.length ∧ FL.map FD.m = cutAll cuts 0 (d.take i) m.files ∧ St w0 X w' (resR gr { m with now := d } { p with na := xa, nc := xc, FL := FL } ++ (FL.map FD.row ++ (P' ++ (N ++ [sv])))), fun x _ => d.length - x.toNat, ⟨0, p.FL, rfl, by omega, hp.files, h5⟩, ?_⟩
  clear hge
  rintro x w6 ⟨i, FL, rfl, hi, hFm, h6⟩
  obtain ⟨p6, hp6⟩ : ∃ p6 : RP, { p with na := xa, nc := xc, FL := FL } = p6 := ⟨_, rfl⟩
  have hFL6 : FL = p6.FL := by rw [← hp6]
  rw [hp6, hFL6] at h6
  rw [hFL6] at hFm
  have hFl : p6.FL.length = m.files.length := by have := congrArg List.length hFm; rw [cutAll_len] at this; simpa using this
  refine ⟨fun hlt => ?_, fun hge => ?_⟩
  · have hi' : i < d.length := by simp at hlt; omega
    have he : d[i]? = some d[i] := List.getElem?_eq_getElem hi'
    obtain ⟨e, hed⟩ : ∃ e, d[i] = e := ⟨_, rfl⟩
    rw [hed] at he
    have hem : e ∈ d := List.mem_of_getElem? he
    have hil := (hdi.ent e hem).1
    obtain ⟨f, hf⟩ : ∃ f, p6.FL[e.file]? = some f := ⟨_, List.getElem?_eq_getElem (by omega)⟩
    have hfm : fileAt (cutAll cuts 0 (d.take i) m.files) e.file = f.m := by
      rw [← hFm, fileAt, List.getD, List.getElem?_map, hf]; rfl
    have hfok := fileAt_ok (cutAll_ok cuts (d.take i) 0 m.files hw.syn) e.file
    rw [hfm] at hfok
    have hfok : f.syn ≤ f.data.length ∧ f.data.length ≤ 1099511627776 := hfok
    have hrn6 : ∀ {w'}, St w0 X w' (resR gr { m with now := d } p6 ++ (p6.FL.map FD.row ++ (P' ++ (N ++ [sv])))) → RdN w' xa d.length xc d := fun h => poolRd (p := { p6 with P := P' }) h hrow
    obtain ⟨b, o, hab, q⟩ := (hrn6 h6).fld he
    obtain ⟨g, hg⟩ := filesHead h6 (i := e.file) (by omega)
    have hFld : ∀ {w'}, St w0 X w' (resR gr { m with now := d } p6 ++ (p6.FL.map FD.row ++ (P' ++ (N ++ [sv])))) → (Instr.loadAt 122 (.pointer (some ⟨g, 0 + Int.toNat ((e.file : Nat) : Int) * 2, none⟩))).run Try.prog w' = .ok (.agg f.cells.toArray) w' := fun {w'} h => by
      have hrf : RdE FD.cells 2 w' p6.Fa p6.FL.length p6.Fc p6.FL := ⟨h.rd (i := 1) rfl, fun y _ => FD.cells_len y⟩
      obtain ⟨b2, o2, ha2, q2⟩ := hrf.ld (P := Try.prog) (by decide) fAg fSz hf
      rw [hg] at ha2
      simp only [Option.some.injEq, Addr.mk.injEq, and_true] at ha2
      obtain ⟨rfl, rfl⟩ := ha2
      exact q2 w' hrf
    have h6d := h6.drew
    obtain ⟨g7, w7, r7, k7⟩ := (St.start w6.drew).zeroA fZ
    obtain ⟨w8, r8, k8⟩ := k7.stA (i := 0) (v := f.cells) rfl (fSz _) rfl rfl f.cells_one
    have k8 : St w6.drew [] w8 [.arr g7 122 f.cells] := k8
    have h8 : St w0 X w8 ((resR gr { m with now := d } p6 ++ (p6.FL.map FD.row ++ (P' ++ (N ++ [sv])))) ++ [.arr g7 122 f.cells]) := Sx.St.callPart (N := []) (by rw [List.append_nil]; exact h6d) k8
    obtain ⟨hs8, hN8⟩ := hsvS (St.pop h8)
    have hcr8 := hq w8 hN8
    obtain ⟨more, hmore⟩ : ∃ more, cutAt cuts i = more := ⟨_, rfl⟩
    have hmoreV : more = (cuts.getD i 0).toNat := by rw [← hmore]; rfl
    refine ⟨fun w' => Chg [] w6 w', Chg.drew _ _, b, o, hab, by omega, by omega, _, _, _, fun w' hw' => (h6.same hw').ldL (i := 0) (o := 1) rfl (fsA _) rfl rfl, _, fun w' hw' => (q w' (hrn6 (h6.same hw'))).2.1, g, 0, hg, by omega, by omega, _, fun w' hw' => hFld (h6.same hw'), g7, w7, r7, fun w' => Chg [] w6 w', fun _ h => h, (Chg.drew [] w6).trans k7.chg, w8, r8, fun x w' => x = (decide (i < cn) && decide (cuts.getD i 0 > 0)) ∧ w' = w8, ⟨_, _, _, (hd0 hs8).2, fun hic => ?_, fun hic => ⟨?_, rfl⟩⟩, ?_⟩
    · have hic' : i < cn := by simp at hic; omega
      have hcx : cuts[i]? = some (cuts.getD i 0) := by simp [List.getD, show i < cuts.length by omega]
      have hcv : (zv cuts)[i]? = some (.int .i64 (cuts.getD i 0)) := by rw [List.getElem?_map, hcx]; rfl
      obtain ⟨b2, o2, ha2, hcell2⟩ := hcr8.cells.at_ hcv
      exact ⟨_, _, _, (hd0 hs8).2, b2, o2, ha2, by omega, by omega, _, by rw [Int.toNat_natCast, Nat.mul_one]; exact ld1 (intA _) hcell2, by rw [decide_eq_true hic', Bool.true_and], rfl⟩
    · have hic' : ¬ i < cn := by simp at hic; omega
      rw [decide_eq_false hic', Bool.false_and]
    rintro x w9 ⟨rfl, rfl⟩
    have hwl : IntKind.wrap .i64 ((f.data.length : Int) - (f.syn : Int)) = ((f.data.length - f.syn : Nat) : Int) := by rw [wrap_i64 (by omega) (by omega)]; omega
    refine ⟨fun x w' => x = ((min more (f.data.length - f.syn) : Nat) : Int) ∧ St w0 X w' ((resR gr { m with now := d } p6 ++ (p6.FL.map FD.row ++ (P' ++ (N ++ [sv])))) ++ [.arr g7 122 f.cells]), ⟨fun hy => ?_, fun hn => ⟨?_, h8⟩⟩, ?_⟩
    · simp only [Bool.and_eq_true, decide_eq_true_eq] at hy
      obtain ⟨hic', hpos⟩ := hy
      have hcx : cuts[i]? = some (cuts.getD i 0) := by simp [List.getD, show i < cuts.length by omega]
      have hcv : (zv cuts)[i]? = some (.int .i64 (cuts.getD i 0)) := by rw [List.getElem?_map, hcx]; rfl
      obtain ⟨b2, o2, ha2, _⟩ := hcr8.cells.at_ hcv
      have hcell2 : ∀ w', Chg [] w9 w' → (Instr.loadAt 3 (.pointer (some ⟨b2, o2 + Int.toNat ((i : Nat) : Int) * 1, none⟩))).run Try.prog w' = .ok (.int .i64 (cuts.getD i 0)) w' := fun w' hc => by
        obtain ⟨b3, o3, ha3, hc3⟩ := (hcr8.keep0 hc).cells.at_ hcv
        rw [ha2] at ha3
        simp only [Option.some.injEq, Addr.mk.injEq, and_true] at ha3
        obtain ⟨rfl, rfl⟩ := ha3
        rw [Int.toNat_natCast, Nat.mul_one]; exact ld1 (intA _) hc3
      refine ⟨fun w' => Chg [] w9 w', Chg.drew _ _, _, _, _, fun w' hw' => (hd0 (hs8.same hw')).2, b2, o2, ha2, by omega, by omega, _, hcell2, _, _, _, fun w' hw' => (h8.same hw').ldL (o := 0) getLast' (bsA _) rfl rfl, _, fun w' hw' => (h8.same hw').ldL (o := 1) getLast' (intA _) rfl rfl, ?_, h8.drew⟩
      rw [hwl, hmoreV]
      split <;> omega
    · have : more = 0 := by
        rw [hmoreV]
        by_cases hic' : i < cn
        · rw [decide_eq_true hic', Bool.true_and] at hn
          simp only [decide_eq_false_iff_not] at hn
          omega
        · rw [List.getD, List.getElem?_eq_none (by omega)]; rfl
      rw [this, Nat.zero_min]; rfl
    rintro x w10 ⟨rfl, h10⟩
    obtain ⟨Z, hZ⟩ : ∃ Z, f.syn + min more (f.data.length - f.syn) = Z := ⟨_, rfl⟩
    have hZl : Z ≤ f.data.length := by omega
    have hWW : IntKind.wrap .i64 ((f.syn : Int) + ((min more (f.data.length - f.syn) : Nat) : Int)) = (Z : Int) := by rw [wrap_i64 (by omega) (by omega)]; omega
    have hcap2 : f.data.length ≤ f.c := (((St.pop h10).perm (perm_FD hf _ _)).rd (i := 0) rfl).le
    refine ⟨_, _, _, h10.ldL (o := 0) getLast' (bsA _) rfl rfl, _, h10.ldL (o := 1) getLast' (intA _) rfl rfl, ?_⟩
    rw [hWW, Int.toNat_natCast]
    obtain ⟨w11, r11, h11⟩ := h10.stL (o := 0) (off := 0) (T := 22) (v := .slice f.a Z f.c) getLast' (bsS _) rfl (by simp [FD.cells]) rfl
    rw [List.set_append_right _ _ (Nat.le_refl _), Nat.sub_self] at h11
    have hzl : (f.data.take Z).length = Z := by rw [List.length_take]; omega
    have hce : f.cells.set 0 (.slice f.a Z f.c) = FD.cells ⟨f.a, f.c, f.data.take Z, f.syn⟩ := by
      show [Value.slice f.a Z f.c, _] = [Value.slice f.a (f.data.take Z).length f.c, _]
      rw [hzl]
    have h11 : St w0 X w11 ((resR gr { m with now := d } p6 ++ (p6.FL.map FD.row ++ (P' ++ (N ++ [sv])))) ++ [.arr g7 122 (FD.cells ⟨f.a, f.c, f.data.take Z, f.syn⟩)]) := by rw [← hce]; exact h11
    have h11b := St.pop h11
    obtain ⟨w12, r12, h12⟩ := St.cutFile hg hf hZl h11b.drew
    refine ⟨by omega, by omega, w11, r11, fun w' => Chg [] w11 w', Chg.drew _ _, b, o, hab, by omega, by omega, _, _, _, fun w' hw' => (h11b.same hw').ldL (i := 0) (o := 1) rfl (fsA _) rfl rfl, _, fun w' hw' => (q w' (hrn6 (h11b.same hw'))).2.1, _, fun w' hw' => (h11.same hw').ldA (l := FD.cells ⟨f.a, f.c, f.data.take Z, f.syn⟩) getLast' (fAg _) (fSz _) (FD.cells_len _), g, 0, hg, by omega, by omega, w12, r12, ⟨i + 1, p6.FL.set e.file ⟨f.a, f.c, f.data.take Z, f.syn⟩, wrap_succ hi' (by omega), by omega, ?_, ?_⟩, mu_succ hi' (by omega)⟩
    · rw [List.map_set, List.take_add_one, he]
      simp only [Option.toList_some]
      rw [cutAll_snoc, hFm, setF, hfm, List.length_take, Nat.min_eq_left hi, Nat.zero_add, hmore]
      show _ = List.set _ _ (⟨f.data.take (f.syn + min more (f.data.length - f.syn)), f.syn⟩ : FileM)
      rw [hZ]; rfl
    · rw [← hp6]
      rw [← hp6] at h12
      exact h12
  · have hi' : i = d.length := by simp at hge; omega
    rw [hi', List.take_of_length_le (Nat.le_refl _)] at hFm
    have hmem2 : RMem { m with now := d, files := cutAll cuts 0 d m.files } { p6 with P := P' } := ⟨by show OkDir (cutAll cuts 0 d m.files).length d; rw [cutAll_len]; exact hdi, cutAll_ok _ _ _ _ hw.syn, hw.size, hFm, by rw [← hp6]; exact hrow, hp.arm, hp.fails, hp.flen⟩
    refine (rsettle_spec (m := { m with now := d, files := cutAll cuts 0 d m.files }) hmem2 h6).mono ?_
    rintro e w13 ⟨rfl, h13⟩
    have h14 := h13.subN (N' := N) (List.sublist_append_left _ _)
    obtain ⟨p4, hp4, h15⟩ := h14
    obtain ⟨w14, r14, h16⟩ := h15.stL (i := 0) (o := 6) (off := 0 + 6) (T := 4) (v := .bool false) rfl (boolS _) rfl (by simp [rdL]) rfl
    obtain ⟨w15, r15, h17⟩ := h16.stL (i := 0) (o := 7) (off := 0 + 7) (T := 3) (v := .int .i64 (-1)) rfl (intS _) rfl (by simp [rdL]) rfl
    obtain ⟨w16, r16, h18⟩ := h17.stL (i := 0) (o := 8) (off := 0 + 8) (T := 48) (v := .slice none 0 0) rfl (insS _) rfl (by simp [rdL]) rfl
    have h19 := h18.upd (i := 3) (r' := .row 3 1 (.slice none 0 0) 0 []) rfl (Chg.refl _ _) (World.ownsRow_nil _ _ _ _) (by simp [Res.fp, Value.ownBlock])
    refine ⟨rfl, w14, r14, w15, r15, w16, r16, rfl, { p4 with fa := none, fc := 0 }, ?_, ?_⟩
    · have := hp4.upd m.steps false none [] (fa := none) (fc := 0) (fun k hk => by cases hk) (by simp) (by simp)
      rw [crashM, hd]
      exact this
    · rw [crashM, hd]
      exact h19

end

end Go.Proofs.Ytoijbpkplegnkaa
