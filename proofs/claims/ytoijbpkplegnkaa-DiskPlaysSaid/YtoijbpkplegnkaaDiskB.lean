/- A disk in memory: step, Used, Create, Append, Sync (conditions: those that each theorem names). -/
import Derived.Test.YtoijbpkplegnkaaDiskA
import Derived.Test.YtoijbpkplegnkaaRange
namespace Go.Proofs.Ytoijbpkplegnkaa
open Go Sx
set_option maxRecDepth 8000

section
variable {w0 w w' : World} {X : List Nat} {N N' : List Res} {gd : Nat} {ps : List Nat} {m : DiskM}

theorem DOk.upd {p : DP} (hp : DOk m p) (s : Nat) (d : Bool) (a : Option Nat) (f : List Nat) {av : Int} {fa : Option Addr} {fn fc : Nat} {F : Res} (ha : ∀ k, a = some k → av = (k : Int) ∧ k ≤ 9223372036854775807) (hf : FailsR f fa fn fc F) :
    DOk { m with steps := s, down := d, arm := a, fails := f } { p with av := av, fa := fa, fn := fn, fc := fc, F := F } :=
  ⟨hp.wf.upd s d a f, hp.files, ha, hf, hp.mapn, hp.isn, hp.maps, hp.iss⟩

theorem niv_cons (x : Nat) (l : List Nat) : niv (x :: l) = .int .i64 (x : Int) :: niv l := rfl

set_option maxHeartbeats 1000000 in
theorem step_spec (h : DiskIn w0 X w gd ps m N) (hb : m.steps < 4611686018427387904) :
    Calls Try.prog 42 #[.pointer (some ⟨gd, 0, none⟩)] w fun e w' => e = .returned (errV (stepM m).2) ∧ DiskIn w0 X w' gd ps (stepM m).1 N := by
  obtain ⟨p, hps, hp, hS⟩ := h
  apply disk_meter_step_vc
  refine ⟨fun x w' => x = decide (m.arm = some 0) ∧ w' = w, ⟨_, DiskIn.cell hS (i := 2) (boolA _) rfl, fun ha => ⟨_, DiskIn.cell hS (i := 3) (intA _) rfl, ?_, rfl⟩, fun ha => ⟨?_, rfl⟩⟩, ?_⟩
  · obtain ⟨k, hk⟩ := Option.isSome_iff_exists.1 ha
    rw [(hp.arm k hk).1, hk]
    by_cases h0 : k = 0
    · subst h0; rfl
    · have : ¬ ((k : Int) = 0) := by omega
      simp [h0, this]
  · have : m.arm = none := by simpa using ha
    rw [this]; rfl
  rintro x w1 ⟨rfl, rfl⟩
  refine ⟨fun h0 => ?_, fun h0 => ?_⟩
  · have h0 : m.arm = some 0 := by simpa using h0
    obtain ⟨w2, r2, h2⟩ := hS.stL (i := 0) (o := 1) (off := 1) (T := 4) (v := .bool true) rfl (boolS _) rfl (by simp [dskL]) rfl
    refine ⟨w2, r2, ?_, ?_⟩
    · rw [stepM, if_pos h0]; rfl
    · rw [stepM, if_pos h0]
      exact ⟨p, hps, hp.upd m.steps true m.arm m.fails hp.arm hp.fails, h2⟩
  have h0 : ¬ m.arm = some 0 := by simpa using h0
  have w1s : IntKind.wrap .i64 ((m.steps : Int) + 1) = ((m.steps + 1 : Nat) : Int) := by rw [wrap_i64 (by omega) (by omega)]; omega
  obtain ⟨w3, r3, h3⟩ := hS.stL (i := 0) (o := 0) (off := 0) (T := 3) (v := .int .i64 ((m.steps + 1 : Nat) : Int)) rfl (intS _) rfl (by simp [dskL]) rfl
  obtain ⟨av', hav⟩ : ∃ av', IntKind.wrap .i64 (p.av - 1) = av' := ⟨_, rfl⟩
  have ha' : ∀ k : Nat, m.arm.map (fun x : Nat => x - 1) = some k → av' = (k : Int) ∧ k ≤ 9223372036854775807 := by
    intro k hk
    obtain ⟨j, hj, rfl⟩ := Option.map_eq_some_iff.1 hk
    obtain ⟨e1, e2⟩ := hp.arm j hj
    have : j ≠ 0 := fun e => h0 (by rw [hj, e])
    rw [← hav, e1, wrap_i64 (by omega) (by omega)]
    omega
  have h3 : St w0 X w3 (resD gd { m with steps := m.steps + 1 } p ++ DR p.FL N) := h3
  obtain ⟨w4, r4, h4⟩ := h3.stL (i := 0) (o := 3) (off := 3) (T := 3) (v := .int .i64 av') rfl (intS _) rfl (by simp [dskL]) rfl
  have hsome : (m.arm.map (fun x : Nat => x - 1)).isSome = m.arm.isSome := by cases m.arm <;> rfl
  have h4 : St w0 X w4 (resD gd { m with steps := m.steps + 1, arm := m.arm.map (fun x : Nat => x - 1) } { p with av := av' } ++ DR p.FL N) := by
    unfold resD dskL
    simp only [hsome]
    exact h4
  have C4 := fun {i v T} (hT : (isAgg T).run Try.prog w4 = .ok false w4) hv => DiskIn.cell h4 (i := i) (v := v) (T := T) hT hv
  refine ⟨_, DiskIn.cell hS (i := 0) (intA _) rfl, w3, by rw [w1s]; exact r3, _, DiskIn.cell h3 (i := 3) (intA _) rfl, w4, by show (Instr.storeAt _ _ (.int .i64 (IntKind.wrap .i64 (p.av - 1)))).run _ _ = _; rw [hav]; exact r4, _, _, _, C4 (i := 4) (insA' _) rfl, fun hz => ?_, fun hz => ?_⟩
  · have hfn : m.fails = [] := List.eq_nil_of_length_eq_zero (by have := hp.fails.len; simp at hz; omega)
    have e : stepM m = ({ m with steps := m.steps + 1, arm := m.arm.map (fun x : Nat => x - 1) }, none) := by rw [stepM, if_neg h0, hfn]
    rw [e]
    exact ⟨rfl, { p with av := av' }, hps, hp.upd (m.steps + 1) m.down _ m.fails ha' hp.fails, h4⟩
  · have hfn : p.fn ≠ 0 := by simpa using hz
    obtain ⟨gf, k, L, hfa, hF, hL⟩ := hp.fails.at_.resolve_left hfn
    have hlen := hp.fails.len
    have hle := hp.fails.le
    obtain ⟨x, r, hxr⟩ : ∃ x r, m.fails = x :: r := by
      cases hq : m.fails with
      | nil => rw [hq] at hlen; simp at hlen; omega
      | cons x r => exact ⟨x, r, rfl⟩
    have hx63 : x ≤ 9223372036854775807 := hp.fails.bd x (by rw [hxr]; simp)
    rw [hxr, niv_cons] at hL
    have hLk : L[k]? = some (.int .i64 (x : Int)) := by
      have := congrArg (fun l => l[0]?) hL
      simp only [List.getElem?_take, List.getElem?_drop, Nat.add_zero, List.getElem?_cons_zero] at this
      rwa [if_pos (by omega)] at this
    have hkl : k < L.length := (List.getElem?_eq_some_iff.1 hLk).1
    have hLr : (L.drop (k + 1)).take (p.fn - 1) = niv r := by
      have := congrArg (List.drop 1) hL
      rw [List.drop_take, List.drop_drop] at this
      simpa using this
    have h4F : (resD gd { m with steps := m.steps + 1, arm := m.arm.map (fun x : Nat => x - 1) } { p with av := av' } ++ DR p.FL N)[4]? = some (.arr gf 3 L) := by
      show some p.F = _
      rw [hF]
    have hld : (Instr.loadAt 3 (.pointer (some ⟨gf, k + Int.toNat (0 : Int) * 1, none⟩))).run Try.prog w4 = .ok (.int .i64 (x : Int)) w4 := h4.ldL h4F (intA _) rfl hLk
    refine ⟨_, _, _, C4 (i := 4) (insA' _) rfl, gf, k, hfa, by omega, by show (0 : Int) < ((p.fn : Nat) : Int); omega, _, hld, fun hx0 => ?_, fun hx0 => ?_⟩
    · have hx0 : x = 0 := by simp at hx0; omega
      subst hx0
      refine ⟨_, _, _, C4 (i := 4) (insA' _) rfl, by omega, by show (1 : Int) ≤ ((p.fn : Nat) : Int); omega, by show ((p.fn : Nat) : Int) ≤ ((p.fc : Nat) : Int); omega, fun a' hsub => ?_⟩
      obtain ⟨w5, r5, h5⟩ := h4.stL (i := 0) (o := 4) (off := 4) (T := 48) (v := .slice a' (p.fn - 1) (p.fc - 1)) rfl (insS _) rfl (by simp [dskL]) rfl
      have e : stepM m = ({ m with steps := m.steps + 1, arm := m.arm.map (fun x : Nat => x - 1), fails := r }, some 2) := by rw [stepM, if_neg h0, hxr]
      rw [e]
      refine ⟨w5, r5, rfl, { p with av := av', fa := a', fn := p.fn - 1, fc := p.fc - 1 }, hps, hp.upd (m.steps + 1) m.down _ r ha' ⟨?_, by omega, ?_, ?_⟩, h5⟩
      · rw [hxr] at hlen; simp at hlen; omega
      · by_cases h1 : p.fn - 1 = 0
        · exact .inl h1
        · right
          refine ⟨gf, k + 1, L, ?_, hF, hLr⟩
          have hne : p.fc ≠ 1 := by omega
          have h2 := hsub.2 hne
          show a' = _
          rw [h2]
          show p.fa.map _ = _
          rw [hfa]
          simp [Addr.add]
      · exact fun y hy => hp.fails.bd y (by rw [hxr]; simp [hy])
    · obtain ⟨y, rfl⟩ : ∃ y, x = y + 1 := ⟨x - 1, by simp at hx0; omega⟩
      have wy : IntKind.wrap .i64 (((y + 1 : Nat) : Int) - 1) = (y : Int) := by rw [wrap_i64 (by omega) (by omega)]; omega
      obtain ⟨w6, r6, h6⟩ := h4.stL (i := 4) (o := k) (off := k + Int.toNat (0 : Int) * 1) (T := 3) (v := .int .i64 (y : Int)) h4F (intS _) rfl hkl rfl
      have e : stepM m = ({ m with steps := m.steps + 1, arm := m.arm.map (fun x : Nat => x - 1), fails := y :: r }, none) := by rw [stepM, if_neg h0, hxr]
      rw [e]
      refine ⟨_, _, _, C4 (i := 4) (insA' _) rfl, gf, k, hfa, by omega, by show (0 : Int) < ((p.fn : Nat) : Int); omega, _, hld, gf, k, hfa, by omega, by show (0 : Int) < ((p.fn : Nat) : Int); omega, w6, by rw [wy]; exact r6, rfl, { p with av := av', F := .arr gf 3 (L.set k (.int .i64 (y : Int))) }, hps, hp.upd (m.steps + 1) m.down _ (y :: r) ha' ⟨?_, hle, ?_, ?_⟩, h6⟩
      · rw [hxr] at hlen; exact hlen
      · right
        refine ⟨gf, k, _, hfa, rfl, ?_⟩
        rw [niv_cons, ← hLr]
        have e1 : (L.set k (.int .i64 (y : Int))).drop k = .int .i64 (y : Int) :: L.drop (k + 1) := by
          rw [List.drop_eq_getElem_cons (by simpa using hkl), List.getElem_set_self, List.drop_set_of_lt (by omega)]
        rw [e1]
        obtain ⟨q, hq⟩ : ∃ q, p.fn = q + 1 := ⟨p.fn - 1, by omega⟩
        rw [hq, List.take_succ_cons]
        rfl
      · intro z hz
        rcases List.mem_cons.1 hz with rfl | hz
        · omega
        · exact hp.fails.bd z (by rw [hxr]; simp [hz])

end

end Go.Proofs.Ytoijbpkplegnkaa
