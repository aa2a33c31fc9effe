/- Chapter 14: a segment's bytes, in plain words (conditions: none). -/
import Derived.Test.YtoianikapjkekaaIndT
import Derived.Test.YtoianikapjkekaaHold
namespace Go.Proofs.Ytoianikapjkekaa
open Go Sx
set_option maxRecDepth 8000

/-- A ref's bytes, a segment's bytes. -/
def encR (r : RefD) : List UInt8 := r.id ++ varL r.pack.toNat ++ varL r.at_.toNat ++ varL r.len.toNat
def encF (l : Refs) : List UInt8 := l.flatMap encR
theorem encF_cons (r : RefD) (l : Refs) : encF (r :: l) = encR r ++ encF l := by simp [encF]
theorem encF_snoc (l : Refs) (r : RefD) : encF (l ++ [r]) = encF l ++ encR r := by simp [encF]
theorem good_bounds {r : RefD} (h : goodF r = true) : 0 ≤ r.pack ∧ 0 ≤ r.at_ ∧ 0 ≤ r.len := by
  simp only [goodF, Bool.and_eq_true, decide_eq_true_eq] at h
  exact ⟨h.1.1.1, h.1.2, h.2⟩
theorem toNat_lt63 {x : Int} (h : x ≤ 9223372036854775807) : x.toNat < 9223372036854775808 := by omega
theorem varL_le9 {n : Nat} (h : n < 9223372036854775808) : (varL n).length ≤ 9 := varL_len 9 n (by omega) (by decide)
theorem encR_len (r : RefD) : (encR r).length ≤ 59 := by
  have h1 := varL_le9 (toNat_lt63 r.pk.2)
  have h2 := varL_le9 (toNat_lt63 r.ak.2)
  have h3 := varL_le9 (toNat_lt63 r.lk.2)
  simp only [encR, List.length_append, r.idl]
  omega
theorem encF_len : ∀ l : Refs, (encF l).length ≤ 59 * l.length
  | [] => by simp [encF]
  | r :: l => by
    have h1 := encF_len l
    have h2 := encR_len r
    rw [encF_cons, List.length_append, List.length_cons]
    omega

/-- What Var says of what is left. -/
def varV (st : Option (List UInt8)) : Nat := ((varF st).map (·.1)).getD 0
def varS (st : Option (List UInt8)) : Option (List UInt8) := (varF st).map (·.2)
theorem varV_lt (st : Option (List UInt8)) : varV st < 9223372036854775808 := by
  unfold varV
  cases st with
  | none => simp [varF]
  | some l =>
    simp only [varF, Option.bind_some]
    cases h : readVarF l with
    | none => simp
    | some p => obtain ⟨m, s⟩ := p; exact (readVarF_some h).2.2.2
def rawS (st : Option (List UInt8)) : Option (List UInt8) := (rawF st 32).map (·.2)
def stepS (st : Option (List UInt8)) : Option (List UInt8) := varS (varS (varS (rawS st)))
def stepR (st : Option (List UInt8)) : RefD := ⟨padI (rawF st 32), (varV (rawS st) : Int), (varV (varS (rawS st)) : Int), (varV (varS (varS (rawS st))) : Int), pad_len st,
  by have := varV_lt (rawS st); omega, by have := varV_lt (varS (rawS st)); omega, by have := varV_lt (varS (varS (rawS st))); omega⟩
def leftN (st : Option (List UInt8)) : Nat := (st.getD []).length

theorem varS_le (st : Option (List UInt8)) : leftN (varS st) ≤ leftN st := by
  cases st with
  | none => simp [varS, varF, leftN]
  | some l =>
    simp only [varS, varF, Option.bind_some, leftN]
    cases readVarF l with
    | none => simp
    | some p => simp
theorem rawS_lt {st : Option (List UInt8)} (h : 0 < leftN st) : leftN (rawS st) < leftN st := by
  cases st with
  | none => simp [leftN] at h
  | some l =>
    simp only [leftN, Option.getD_some] at h
    simp only [rawS, rawF, Option.bind_some, leftN]
    split
    · simp; omega
    · simpa using h
theorem stepS_lt {st : Option (List UInt8)} (h : 0 < leftN st) : leftN (stepS st) < leftN st := by
  have h1 := rawS_lt h
  have h2 := varS_le (rawS st)
  have h3 := varS_le (varS (rawS st))
  have h4 := varS_le (varS (varS (rawS st)))
  unfold stepS
  omega

/-- What Decode's loop leaves. -/
def decG : Nat → Option (List UInt8) → Refs → Option (List UInt8) × Refs
  | 0, st, out => (st, out)
  | f + 1, st, out => if leftN st = 0 then (st, out) else decG f (stepS st) (out ++ [stepR st])
theorem decG_fuel : ∀ (f : Nat) (st : Option (List UInt8)) (out : Refs), leftN st ≤ f → decG f st out = decG (leftN st) st out
  | 0, st, out, h => by have : leftN st = 0 := by omega
                        rw [this]
  | f + 1, st, out, h => by
    cases hm : leftN st with
    | zero =>
      show decG (f + 1) st out = (st, out)
      rw [decG, if_pos hm]
    | succ m =>
      rw [decG, decG, if_neg (by omega), if_neg (by omega)]
      have hlt := stepS_lt (st := st) (by omega)
      rw [decG_fuel f _ _ (by omega), decG_fuel m _ _ (by omega)]
termination_by f => f
def decH (st : Option (List UInt8)) (out : Refs) : Option (List UInt8) × Refs := decG (leftN st) st out
theorem decH_step {st : Option (List UInt8)} (h : 0 < leftN st) (out : Refs) : decH st out = decH (stepS st) (out ++ [stepR st]) := by
  unfold decH
  have hlt := stepS_lt h
  obtain ⟨m, hm⟩ : ∃ m, leftN st = m + 1 := ⟨leftN st - 1, by omega⟩
  rw [hm, decG, if_neg (by omega), decG_fuel m _ _ (by omega)]
theorem decH_end {st : Option (List UInt8)} (h : leftN st = 0) (out : Refs) : decH st out = (st, out) := by
  unfold decH
  rw [h, decG]
def decF (b : List UInt8) : Option Refs := if (decH (some b) []).1.isSome && isSeg (decH (some b) []).2 then some (decH (some b) []).2 else none

theorem rawS_app {r : List UInt8} (id : List UInt8) (h : id.length = 32) : rawF (some (id ++ r)) 32 = some (id, r) := by
  have := raw_nat (l := id ++ r) (m := 32) (by simp; omega)
  rw [show ((32 : Nat) : Int) = 32 from rfl] at this
  rw [this, List.take_left' h, List.drop_left' h]
theorem varF_app {m : Nat} (h : m < 9223372036854775808) (r : List UInt8) : varF (some (varL m ++ r)) = some (m, r) := by
  simp only [varF, Option.bind_some, readVar_varL h, Option.map_some, List.drop_left]
theorem step_enc {r : RefD} (h : goodF r = true) (t : List UInt8) : stepS (some (encR r ++ t)) = some t ∧ stepR (some (encR r ++ t)) = r := by
  obtain ⟨g1, g2, g3⟩ := good_bounds h
  have e0 : encR r ++ t = r.id ++ (varL r.pack.toNat ++ (varL r.at_.toNat ++ (varL r.len.toNat ++ t))) := by simp [encR, List.append_assoc]
  have h0 := rawS_app (r := varL r.pack.toNat ++ (varL r.at_.toNat ++ (varL r.len.toNat ++ t))) r.id r.idl
  have s0 : rawS (some (encR r ++ t)) = some (varL r.pack.toNat ++ (varL r.at_.toNat ++ (varL r.len.toNat ++ t))) := by rw [e0, rawS, h0]; rfl
  have h1 := varF_app (toNat_lt63 r.pk.2) (varL r.at_.toNat ++ (varL r.len.toNat ++ t))
  have h2 := varF_app (toNat_lt63 r.ak.2) (varL r.len.toNat ++ t)
  have h3 := varF_app (toNat_lt63 r.lk.2) t
  have s1 : varS (rawS (some (encR r ++ t))) = some (varL r.at_.toNat ++ (varL r.len.toNat ++ t)) := by rw [s0, varS, h1]; rfl
  have s2 : varS (varS (rawS (some (encR r ++ t)))) = some (varL r.len.toNat ++ t) := by rw [s1, varS, h2]; rfl
  refine ⟨?_, RefD.ext ?_ ?_ ?_ ?_⟩
  · rw [stepS, s2, varS, h3]; rfl
  · show padI (rawF (some (encR r ++ t)) 32) = _
    rw [e0, h0]; rfl
  · show ((varV (rawS (some (encR r ++ t))) : Nat) : Int) = _
    rw [s0, varV, h1]; simp; omega
  · show ((varV (varS (rawS (some (encR r ++ t)))) : Nat) : Int) = _
    rw [s1, varV, h2]; simp; omega
  · show ((varV (varS (varS (rawS (some (encR r ++ t))))) : Nat) : Int) = _
    rw [s2, varV, h3]; simp; omega

theorem dec_enc : ∀ (l out : Refs), l.all goodF = true → decH (some (encF l)) out = (some [], out ++ l)
  | [], out, _ => by rw [decH_end (by simp [encF, leftN])]; simp [encF]
  | r :: l, out, h => by
    simp only [List.all_cons, Bool.and_eq_true] at h
    obtain ⟨h1, h2⟩ := step_enc h.1 (encF l)
    have hpos : 0 < leftN (some (encR r ++ encF l)) := by simp only [leftN, Option.getD_some, encR, List.length_append, r.idl]; omega
    rw [encF_cons, decH_step hpos, h1, h2, dec_enc l _ h.2]
    simp
theorem decF_enc {l : Refs} (h : isSeg l = true) : decF (encF l) = some l := by
  unfold decF
  rw [dec_enc l [] (seg_good h)]
  simp [h]

theorem var_back {st : Option (List UInt8)} {t : List UInt8} (h : varS st = some t) : ∃ q, st = some (varL (varV st) ++ t) ∧ q = 0 := by
  cases st with
  | none => simp [varS, varF] at h
  | some l =>
    simp only [varS, varF, Option.bind_some, Option.map_eq_some_iff] at h
    obtain ⟨p, ⟨q, hq, rfl⟩, h2⟩ := h
    obtain ⟨m, s⟩ := q
    have hb := readVar_back hq
    have hv : varV (some l) = m := by simp [varV, varF, hq]
    refine ⟨0, ?_, rfl⟩
    simp only at h2
    rw [hv, hb, ← h2, List.take_append_drop]
theorem step_back {st : Option (List UInt8)} {t : List UInt8} (h : stepS st = some t) : st = some (encR (stepR st) ++ t) := by
  unfold stepS at h
  obtain ⟨_, h3, _⟩ := var_back h
  obtain ⟨_, h2, _⟩ := var_back h3
  obtain ⟨_, h1, _⟩ := var_back h2
  have hraw : ∃ p, rawF st 32 = some p := by
    cases hq : rawF st 32 with
    | none => rw [rawS, hq] at h1; cases h1
    | some p => exact ⟨p, rfl⟩
  obtain ⟨p, hp⟩ := hraw
  obtain ⟨_, l, rfl, _, e⟩ := raw_len (x := 32) hp
  have h0 : rawS (some l) = some (l.drop 32) := by rw [rawS, hp, e]; rfl
  have hid : padI (rawF (some l) 32) = l.take 32 := by rw [hp, e]; rfl
  rw [h0, Option.some.injEq] at h1
  have e1 : encR (stepR (some l)) = l.take 32 ++ varL (varV (rawS (some l))) ++ varL (varV (varS (rawS (some l)))) ++ varL (varV (varS (varS (rawS (some l))))) := by
    simp only [encR, stepR, hid, Int.toNat_natCast]
  have e2 := (List.take_append_drop 32 l).symm.trans (congrArg (l.take 32 ++ ·) h1)
  rw [e1, h0]
  exact congrArg some (e2.trans (by simp [List.append_assoc]))

theorem dec_back : ∀ (f : Nat) (st : Option (List UInt8)) (out : Refs), leftN st ≤ f → (decH st out).1.isSome = true → ∃ l, (decH st out).2 = out ++ l ∧ st = some (encF l)
  | f, st, out, hf, hs => by
    by_cases h0 : leftN st = 0
    · rw [decH_end h0] at hs ⊢
      cases st with
      | none => simp at hs
      | some l =>
        have : l = [] := List.eq_nil_of_length_eq_zero h0
        subst this
        exact ⟨[], by simp, by simp [encF]⟩
    · have hlt := stepS_lt (st := st) (by omega)
      rw [decH_step (by omega)] at hs ⊢
      cases f with
      | zero => omega
      | succ f =>
        obtain ⟨l, h1, h2⟩ := dec_back f (stepS st) (out ++ [stepR st]) (by omega) hs
        refine ⟨stepR st :: l, by rw [h1]; simp, ?_⟩
        rw [encF_cons]
        exact step_back h2
theorem decF_back {b : List UInt8} {l : Refs} (h : decF b = some l) : isSeg l = true ∧ encF l = b := by
  unfold decF at h
  split at h
  · rename_i hc
    simp only [Bool.and_eq_true] at hc
    simp only [Option.some.injEq] at h
    obtain ⟨l', h1, h2⟩ := dec_back _ (some b) [] (Nat.le_refl _) hc.1
    rw [List.nil_append] at h1
    rw [h1] at h
    subst h
    rw [h1] at hc
    simp only [Option.some.injEq] at h2
    exact ⟨hc.2, h2.symm⟩
  · cases h
theorem decH_len : ∀ (f : Nat) (st : Option (List UInt8)) (out : Refs), leftN st ≤ f → (decH st out).2.length ≤ out.length + leftN st
  | f, st, out, hf => by
    by_cases h0 : leftN st = 0
    · rw [decH_end h0]; simp
    · have hlt := stepS_lt (st := st) (by omega)
      rw [decH_step (by omega)]
      cases f with
      | zero => omega
      | succ f =>
        have := decH_len f (stepS st) (out ++ [stepR st]) (by omega)
        simp only [List.length_append, List.length_singleton] at this
        omega

end Go.Proofs.Ytoianikapjkekaa
