/- The other calls of a Reader, and the reference's Reader (conditions: those that each theorem names). -/
import Derived.Test.YtpfjakmbokkkoaaWireB
import Derived.Test.YtpfjakmbokkkoaaRef04B
namespace Go.Proofs.Ytpfjakmbokkkoaa
open Go Sx

theorem rVar_nil (w : World) : Calls Try.prog 30 #[.pointer none] w fun e w' => e = .returned (.int .i64 0) ∧ w' = w := by
  apply wire_Reader_Var_vc_nil
  exact ⟨rfl, rfl⟩
theorem rNum_nil (w : World) : Calls Try.prog 31 #[.pointer none] w fun e w' => e = .returned (.int .i64 0) ∧ w' = w := by
  apply wire_Reader_Num_vc_nil
  exact ⟨rfl, rfl⟩
theorem rField_nil (w : World) : Calls Try.prog 32 #[.pointer none] w fun e w' => e = .returned (.slice none 0 0) ∧ w' = w := by
  apply wire_Reader_Field_vc_nil
  refine (rVar_nil w).mono ?_
  rintro e w1 ⟨rfl, rfl⟩
  exact ⟨_, rfl, rfl, rfl⟩
theorem rRaw_nil (x : Int) (w : World) : Calls Try.prog 33 #[.pointer none, .int .i64 x] w fun e w' => e = .returned (.slice none 0 0) ∧ w' = w := by
  apply wire_Reader_Raw_vc_nil
  exact ⟨rfl, rfl⟩
theorem rLeft_nil (w : World) : Calls Try.prog 34 #[.pointer none] w fun e w' => e = .returned (.int .i64 0) ∧ w' = w := by
  apply wire_Reader_Left_vc_nil
  exact ⟨rfl, rfl⟩
theorem rErr_nil (w : World) : Calls Try.prog 35 #[.pointer none] w fun e w' => e = .returned (errV (some 9)) ∧ w' = w := by
  apply wire_Reader_Err_vc_nil
  exact ⟨rfl, rfl⟩
theorem rDone_nil (w : World) : Calls Try.prog 36 #[.pointer none] w fun e w' => e = .returned (errV (some 9)) ∧ w' = w := by
  apply wire_Reader_Done_vc_nil
  refine (rLeft_nil w).mono ?_
  rintro e w1 ⟨rfl, rfl⟩
  refine ⟨_, rfl, fun h => by simp at h, fun _ => (rErr_nil w1).mono ?_⟩
  rintro e w2 ⟨rfl, rfl⟩
  exact ⟨_, rfl, rfl, rfl⟩

theorem rLeft_spec (g T : Nat) (st : Option (List UInt8)) (a : Option Addr) (n c : Nat) (w : World) (hg : RdrA g T a n c st w) :
    Calls Try.prog 34 #[.pointer (some ⟨g, 0, none⟩)] w fun e w' => e = .returned (.int .i64 (n : Int)) ∧ w' = w := by
  apply wire_Reader_Left_vc
  exact ⟨_, _, _, (St.ofBlk hg).ld (i := 0) (o := 0) rfl (bsA _) rfl, rfl, rfl⟩

/-- The error of a Reader. -/
def brE (st : Option (List UInt8)) : Option Int := if st.isNone then some 9 else none

theorem rErr_spec (g T : Nat) (st : Option (List UInt8)) (a : Option Addr) (n c : Nat) (w : World) (hg : RdrA g T a n c st w) :
    Calls Try.prog 35 #[.pointer (some ⟨g, 0, none⟩)] w fun e w' => e = .returned (errV (brE st)) ∧ w' = w := by
  have iB : ∀ w, (isAgg 4).run Try.prog w = .ok false w := fun w => Try.isAgg4 w
  apply wire_Reader_Err_vc
  exact ⟨_, (St.ofBlk hg).ld (i := 0) (o := 1) (v := .bool st.isNone) rfl (iB _) rfl, fun h => ⟨by simp [brE, h, errV], rfl⟩, fun h => ⟨by simp [brE, h, errV], rfl⟩⟩

theorem rDone_spec (g T : Nat) (st : Option (List UInt8)) (a : Option Addr) (n c : Nat) (w : World) (hg : RdrA g T a n c st w) :
    Calls Try.prog 36 #[.pointer (some ⟨g, 0, none⟩)] w fun e w' => e = .returned (errV (if 0 < n then some 9 else brE st)) ∧ w' = w := by
  apply wire_Reader_Done_vc
  refine (rLeft_spec g T st a n c w hg).mono ?_
  rintro e w1 ⟨rfl, rfl⟩
  refine ⟨_, rfl, fun h => ?_, fun h => (rErr_spec g T st a n c w1 hg).mono ?_⟩
  · have : 0 < n := by simp at h; omega
    exact ⟨by simp [this, errV], rfl⟩
  · rintro e w2 ⟨rfl, rfl⟩
    have : ¬ 0 < n := by simp at h; omega
    exact ⟨_, rfl, by rw [if_neg this], rfl⟩

/-- What Num says. -/
def numF (st : Option (List UInt8)) : Int := (readNumF (((rawF st 8).map (·.1)).getD [])).getD 0

theorem rNum_spec (g T : Nat) (st : Option (List UInt8)) (a : Option Addr) (n c : Nat) (w : World) (hg : RdrA g T a n c st w) (hr : RdB w a n c (st.getD [])) :
    Calls Try.prog 31 #[.pointer (some ⟨g, 0, none⟩)] w fun e w' => e = .returned (.int .i64 (numF st)) ∧ Chg [g] w w' ∧ RdrP g T a n c st ((rawF st 8).map (·.2)) w' := by
  obtain ⟨m, hI⟩ := eI
  apply wire_Reader_Num_vc
  refine (raw_spec g T st 8 a n c w hg hr).mono ?_
  rintro e w1 ⟨a1, n1, c1, rfl, hc1, hv1, hr1⟩
  refine ⟨_, _, _, rfl, (readNum_spec _ _ _ _ w1 hr1).mono ?_⟩
  rintro e w2 ⟨rfl, rfl⟩
  unfold numF
  cases h : readNumF (((rawF st 8).map (·.1)).getD []) with
  | none => exact ⟨_, _, rfl, _, neqS_nil hI (some 9) _ _, fun _ => ⟨rfl, hc1, hv1⟩, fun h => by simp at h⟩
  | some y => exact ⟨_, _, rfl, _, neqS_nil hI none _ _, fun h => by simp at h, fun _ => ⟨rfl, hc1, hv1⟩⟩

theorem newReader_spec (a : Option Addr) (n c : Nat) (l : List UInt8) (w : World) (hr : RdB w a n c l) (hb : n ≤ 140737488355000) :
    Calls Try.prog 37 #[.slice a n c] w fun e w' => ∃ g a' c', e = .returned (.pointer (some ⟨g, 0, none⟩)) ∧ St w [] w' [.row 5 1 (.slice a' n c') n (bv l), .blk g (.cells #[.slice a' n c', .bool false] 80)] := by
  apply wire_NewReader_vc
  refine (clone_spec a n c l w hr hb).mono ?_
  rintro e w1 ⟨a1, c1, rfl, hf⟩
  obtain ⟨g, w2, r2, h2⟩ := (hf.add (St.start w)).box (P := Try.prog) 80 (.agg #[.slice a1 n c1, .bool false])
  exact ⟨_, _, _, rfl, _, reader_build a1 n c1 w1, g, w2, r2, g, a1, c1, rfl, h2⟩

/-! ### The reference's Reader -/

theorem take_spec (g T : Nat) (st : Option (List UInt8)) (x : Int) (a : Option Addr) (n c : Nat) (w : World) (hg : RdrA g T a n c st w) (hr : RdB w a n c (st.getD [])) :
    Calls Try.prog 52 #[.pointer (some ⟨g, 0, none⟩), .int .i64 x] w fun e w' => ∃ a' n' c', e = .returned (.slice a' n' c') ∧ Chg [g] w w' ∧ RdrP g T a n c st ((rawF st x).map (·.2)) w' ∧ SubB a n c (st.getD []) a' n' c' (((rawF st x).map (·.1)).getD []) := by
  unfold RdrA at hg
  have iB : ∀ w, (isAgg 4).run Try.prog w = .ok false w := fun w => Try.isAgg4 w
  have s1 : ∀ w, (sizeOf 4).run Try.prog w = .ok 1 w := fun w => Try.sizeOf4 w
  have s2 : ∀ w, (sizeOf 22).run Try.prog w = .ok 1 w := fun w => Try.sizeOf22 w
  have hl := hr.lenB
  have hle := hr.le
  have hS := St.ofBlk hg
  have ld0 := hS.ld (i := 0) (o := 0) (P := Try.prog) (v := .slice a n c) rfl (bsA _) rfl
  have ld1' := hS.ld (i := 0) (o := 1) (P := Try.prog) (v := .bool st.isNone) rfl (iB _) rfl
  apply amphoraref04_Reader_take_vc
  refine ⟨fun b w' => b = (rawF st x).isNone ∧ w' = w, ⟨_, ld1', fun h => ⟨?_, rfl⟩, fun h => ⟨_, _, _, ld0, ?_, rfl⟩⟩, ?_⟩
  · cases st with
    | none => rfl
    | some l =>
      simp at h
      simp [rawF]; omega
  · cases st with
    | none => simp at h
    | some l =>
      simp at h hl
      by_cases hx : x ≤ (n : Int)
      · have : rawF (some l) x = some (l.take x.toNat, l.drop x.toNat) := by simp [rawF]; omega
        rw [this]; simp; omega
      · have : rawF (some l) x = none := by simp [rawF]; omega
        rw [this]; simp; omega
  rintro b w1 ⟨rfl, rfl⟩
  refine ⟨fun h => ?_, fun h => ?_⟩
  · have hrf : rawF st x = none := by simpa using h
    obtain ⟨w2, r2, h2⟩ := hS.st (i := 0) (o := 1) (v := .bool true) rfl (s1 _) (by simp) rfl
    obtain ⟨w3, r3, h3⟩ := h2.st (i := 0) (o := 0) (v := .slice none 0 0) rfl (s2 _) (by simp) rfl
    rw [hrf]
    exact ⟨w2, r2, w3, r3, _, _, _, rfl, h3.chg, ⟨none, 0, 0, h3.holds 0 _ rfl, fun v _ => rdNil v⟩, fun v _ => rdNil v⟩
  · cases st with
    | none => simp [rawF] at h
    | some l =>
      simp only [Option.getD_some] at hr hl
      have hxn : 0 ≤ x ∧ x ≤ (n : Int) := by
        simp only [rawF, Option.bind_some] at h
        split at h
        · omega
        · simp at h
      obtain ⟨m, rfl⟩ := Int.eq_ofNat_of_zero_le hxn.1
      refine ⟨_, _, _, ld0, by omega, by omega, _, _, _, ld0, by omega, by omega, by omega, fun a2 hs2 => ?_⟩
      simp only [Int.toNat_natCast] at hs2 ⊢
      obtain ⟨w3, r3, h3⟩ := hS.st (i := 0) (o := 0) (P := Try.prog) (v := .slice a2 (n - m) (c - m)) rfl (s2 _) (by simp) rfl
      have hrf : rawF (some l) (m : Int) = some (l.take m, l.drop m) := by simp [rawF]; omega
      rw [hrf]
      have e1 : ((bv l).drop (m * 1)).take ((n - m) * 1) = bv (l.drop m) := by
        rw [Nat.mul_one, Nat.mul_one, List.take_of_length_le (by simp; omega), bv_drop]
      refine ⟨w3, r3, _, _, _, rfl, h3.chg, ⟨a2, n - m, c - m, h3.holds 0 _ rfl, fun v hv => ?_⟩, fun v hv => ?_⟩
      · have hsub := (show RdB v a n c l from hv).sub hs2 (hh := n) (by omega) (Nat.le_refl _) hle (Nat.le_refl _)
        rw [e1] at hsub
        exact hsub
      · have h0 : SubA 1 a 0 c a := ⟨fun _ => rfl, fun _ => by cases a <;> simp [Addr.add]⟩
        have := (show RdB v a n c l from hv).sub h0 (hh := m) (by omega) (by omega) (by omega) (Nat.le_refl _)
        have e2 : ((bv l).drop (0 * 1)).take ((m - 0) * 1) = bv (l.take m) := by simp [bv_take]
        rw [e2] at this
        exact this

theorem rdr_flag {g T : Nat} {a : Option Addr} {n c : Nat} {st : Option (List UInt8)} {w : World} (hg : RdrA g T a n c st w) : (Instr.loadAt 4 (.pointer (some ⟨g, 1, none⟩))).run Try.prog w = .ok (.bool st.isNone) w :=
  (St.ofBlk hg).ld (i := 0) (o := 1) (v := .bool st.isNone) rfl (Try.isAgg4 _) rfl
theorem rdr_rest {g T : Nat} {a : Option Addr} {n c : Nat} {st : Option (List UInt8)} {w : World} (hg : RdrA g T a n c st w) : (Instr.loadAt 22 (.pointer (some ⟨g, 0, none⟩))).run Try.prog w = .ok (.slice a n c) w :=
  (St.ofBlk hg).ld (i := 0) (o := 0) rfl (bsA _) rfl

theorem raw_neg (st : Option (List UInt8)) : rawF st (-1) = none := by cases st <;> simp [rawF]
theorem raw_nat {l : List UInt8} {m : Nat} (h : m ≤ l.length) : rawF (some l) (m : Int) = some (l.take m, l.drop m) := by simp [rawF]; omega

theorem mVar_spec (g T : Nat) (st : Option (List UInt8)) (a : Option Addr) (n c : Nat) (w : World) (hg : RdrA g T a n c st w) (hr : RdB w a n c (st.getD [])) :
    Calls Try.prog 39 #[.pointer (some ⟨g, 0, none⟩)] w fun e w' => e = .returned (.int .i64 ((((varF st).map (·.1)).getD 0 : Nat) : Int)) ∧ Chg [g] w w' ∧ RdrP g T a n c st ((varF st).map (·.2)) w' := by
  apply amphoraref04_Reader_Var_vc
  refine ⟨_, _, _, rdr_rest hg, (rreadVar_spec a n c _ w hr).mono ?_⟩
  rintro e w1 ⟨rfl, hc1⟩
  have hg1 : RdrA g T a n c st w1 := by
    unfold RdrA at hg ⊢; rw [hc1.block g (Array.getElem?_eq_some_iff.1 hg).1 (by simp)]; exact hg
  -- the size that is taken
  obtain ⟨x, k, o, hx, hrv⟩ : ∃ (x : Int) (k : Int) (o : Int), (rvOutR (readVarF (st.getD []))) = .tuple #[.int .i64 k, .int .i64 x, .int .i64 o] ∧ ((o ≠ 0 ∧ varF st = none) ∨ (o = 0 ∧ ∃ s : Nat, x = (s : Int) ∧ rawF st x = (varF st).map (fun p => (((st.getD []).take s), p.2)) ∧ k = (((varF st).map (·.1)).getD 0 : Nat) ∧ (varF st).isSome)) := by
    cases h : readVarF (st.getD []) with
    | none =>
      refine ⟨0, 0, 9, rfl, .inl ⟨by decide, ?_⟩⟩
      cases st with
      | none => rfl
      | some l => simp at h; simp [varF, h]
    | some p =>
      obtain ⟨k, s⟩ := p
      obtain ⟨_, h2, _, _⟩ := readVarF_some h
      refine ⟨s, k, 0, rfl, .inr ⟨rfl, s, rfl, ?_⟩⟩
      cases st with
      | none => simp [readVarF, rdVar] at h
      | some l =>
        simp only [Option.getD_some] at h h2 ⊢
        have hv : varF (some l) = some (k, l.drop s) := by simp [varF, h]
        rw [hv, raw_nat h2]
        exact ⟨rfl, rfl, rfl⟩
  rw [hx]
  refine ⟨_, _, _, rfl, fun y w' => w' = w1 ∧ ((y = -1 ∧ varF st = none) ∨ (y = x ∧ o = 0)), ⟨fun h => ⟨rfl, ?_⟩, fun h => ⟨rfl, .inr ⟨rfl, by simpa using h⟩⟩⟩, ?_⟩
  · have : o ≠ 0 := by simpa using h
    refine .inl ⟨rfl, ?_⟩
    rcases hrv with h1 | h1
    · exact h1.2
    · exact absurd h1.1 this
  rintro y w2 ⟨rfl, hy⟩
  refine (take_spec g T st y a n c w2 hg1 (hr.keep0 hc1)).mono ?_
  rintro e w3 ⟨a3, n3, c3, rfl, hc3, ⟨a4, n4, c4, hg4, hs4⟩, _⟩
  refine ⟨_, _, _, rfl, _, rdr_flag hg4, ?_⟩
  rcases hy with ⟨rfl, hvn⟩ | ⟨rfl, ho⟩
  · rw [raw_neg] at hg4 hs4 ⊢
    rw [hvn]
    exact ⟨fun _ => ⟨rfl, (hc1.mono (by simp)).trans hc3, a4, n4, c4, hg4, hs4⟩, fun h => by simp at h⟩
  · rcases hrv with h1 | ⟨_, s, rfl, h1, rfl, h3⟩
    · exact absurd ho h1.1
    · rw [h1] at hg4 hs4 ⊢
      have e1 : ((varF st).map (fun p => (((st.getD []).take s), p.2))).map (·.2) = (varF st).map (·.2) := by cases varF st <;> rfl
      rw [e1] at hg4 hs4 ⊢
      refine ⟨fun h => ?_, fun _ => ⟨rfl, (hc1.mono (by simp)).trans hc3, a4, n4, c4, hg4, hs4⟩⟩
      cases hv : varF st with
      | none => rw [hv] at h3; simp at h3
      | some p => rw [hv] at h; simp at h

theorem mNum_spec (g T : Nat) (st : Option (List UInt8)) (a : Option Addr) (n c : Nat) (w : World) (hg : RdrA g T a n c st w) (hr : RdB w a n c (st.getD [])) :
    Calls Try.prog 40 #[.pointer (some ⟨g, 0, none⟩)] w fun e w' => e = .returned (.int .i64 (numF st)) ∧ Chg [g] w w' ∧ RdrP g T a n c st ((rawF st 8).map (·.2)) w' := by
  apply amphoraref04_Reader_Num_vc
  refine (take_spec g T st 8 a n c w hg hr).mono ?_
  rintro e w1 ⟨a1, n1, c1, rfl, hc1, hv1, hs1⟩
  refine ⟨_, _, _, rfl, (rreadNum_spec _ _ _ _ w1 ((hs1 w hr).keepG hg (rdr_ne _ _ _ _ _) hc1)).mono ?_⟩
  rintro e w2 ⟨rfl, rfl⟩
  unfold numF
  cases h : readNumF (((rawF st 8).map (·.1)).getD []) with
  | none => exact ⟨_, _, rfl, rfl, hc1, hv1⟩
  | some y => exact ⟨_, _, rfl, rfl, hc1, hv1⟩

theorem mRaw_spec (g T : Nat) (st : Option (List UInt8)) (x : Int) (a : Option Addr) (n c : Nat) (w : World) (hg : RdrA g T a n c st w) (hr : RdB w a n c (st.getD [])) :
    Calls Try.prog 42 #[.pointer (some ⟨g, 0, none⟩), .int .i64 x] w fun e w' => ∃ a' n' c', e = .returned (.slice a' n' c') ∧ Chg [g] w w' ∧ RdrP g T a n c st ((rawF st x).map (·.2)) w' ∧ RdB w' a' n' c' (((rawF st x).map (·.1)).getD []) := by
  apply amphoraref04_Reader_Raw_vc
  refine (take_spec g T st x a n c w hg hr).mono ?_
  rintro e w1 ⟨a1, n1, c1, rfl, hc1, hv1, hs1⟩
  exact ⟨_, _, _, rfl, _, _, _, rfl, hc1, hv1, (hs1 w hr).keepG hg (rdr_ne _ _ _ _ _) hc1⟩

theorem mField_spec (g T : Nat) (st : Option (List UInt8)) (a : Option Addr) (n c : Nat) (w : World) (hg : RdrA g T a n c st w) (hr : RdB w a n c (st.getD [])) (hb : n ≤ 140737488355000) :
    Calls Try.prog 41 #[.pointer (some ⟨g, 0, none⟩)] w fun e w' => ∃ a' n' c', e = .returned (.slice a' n' c') ∧ Chg [g] w w' ∧ RdrP g T a n c st ((st.bind fieldF).map (·.2)) w' ∧ RdB w' a' n' c' (((st.bind fieldF).map (·.1)).getD []) := by
  apply amphoraref04_Reader_Field_vc
  refine ⟨_, _, _, rdr_rest hg, (rfield_spec a n c _ w hr hb).mono ?_⟩
  intro e w1 hpost
  have keep : ∀ {w1 : World}, Chg [] w w1 → RdrA g T a n c st w1 := fun {w1} hc1 => by
    unfold RdrA at hg ⊢; rw [hc1.block g (Array.getElem?_eq_some_iff.1 hg).1 (by simp)]; exact hg
  have hst : st.bind fieldF = fieldF (st.getD []) := by
    cases st with
    | none => simp [fieldF, readVarF, rdVar]
    | some l => rfl
  cases hf : fieldF (st.getD []) with
  | none =>
    rw [hf] at hpost
    obtain ⟨rfl, hc1⟩ := hpost
    refine ⟨_, _, _, _, rfl, (take_spec g T st (-1) a n c w1 (keep hc1) (hr.keep0 hc1)).mono ?_⟩
    rintro e w2 ⟨a2, n2, c2, rfl, hc2, ⟨a3, n3, c3, hg3, hs3⟩, _⟩
    rw [raw_neg] at hg3 hs3
    rw [hst, hf]
    exact ⟨_, _, _, rfl, _, rdr_flag hg3, fun _ => ⟨_, _, _, rfl, (hc1.mono (by simp)).trans hc2, ⟨a3, n3, c3, hg3, hs3⟩, rdNil _⟩, fun h => by simp at h⟩
  | some p =>
    obtain ⟨f, r⟩ := p
    rw [hf] at hpost
    obtain ⟨a1, n1, c1, rfl, hf1⟩ := hpost
    obtain ⟨s, _, _, hrr, _, hlen, _⟩ := fieldF_some hf
    have hc1 := hf1.1
    refine ⟨_, _, _, _, rfl, (take_spec g T st _ a n c w1 (keep hc1) (hr.keep0 hc1)).mono ?_⟩
    rintro e w2 ⟨a2, n2, c2, rfl, hc2, ⟨a3, n3, c3, hg3, hs3⟩, _⟩
    cases st with
    | none => simp [fieldF, readVarF, rdVar] at hf
    | some l =>
      simp only [Option.getD_some] at hf hlen hrr hg3 hs3
      have e1 : rawF (some l) ((l.length - r.length : Nat) : Int) = some (l.take (s + f.length), r) := by
        rw [raw_nat (by omega), show l.length - r.length = s + f.length by omega, ← hrr]
      rw [e1] at hg3 hs3
      rw [hst, Option.getD_some, hf]
      have hrow := hf1.add (St.start w)
      refine ⟨_, _, _, rfl, _, rdr_flag hg3, fun h => by simp at h, fun _ => ⟨_, _, _, rfl, (hc1.mono (by simp)).trans hc2, ⟨a3, n3, c3, hg3, hs3⟩, ?_⟩⟩
      have hrd : RdB w1 a1 n1 c1 f := hrow.rd (i := 0) rfl
      exact hrd.keepG (keep hc1) (rdr_ne _ _ _ _ _) hc2

end Go.Proofs.Ytpfjakmbokkkoaa
