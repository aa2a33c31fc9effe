/- A wire.Reader that is held (conditions: those that each theorem names). -/
import Derived.Test.YtoianikapjkekaaWireB
namespace Go.Proofs.Ytoianikapjkekaa
open Go Sx
set_option maxRecDepth 8000

def padI (o : Option (List UInt8 × List UInt8)) : List UInt8 := match o with
  | some p => p.1
  | none => List.replicate 32 0
theorem raw_len {st : Option (List UInt8)} {x : Nat} {p : List UInt8 × List UInt8} (h : rawF st (x : Int) = some p) : p.1.length = x ∧ ∃ l, st = some l ∧ x ≤ l.length ∧ p = (l.take x, l.drop x) := by
  cases st with
  | none => simp [rawF] at h
  | some l =>
    simp only [rawF, Option.bind_some] at h
    split at h
    · simp only [Option.some.injEq, Int.toNat_natCast] at h
      subst h
      exact ⟨by simp; omega, l, rfl, by omega, rfl⟩
    · simp at h

theorem pad_len (st : Option (List UInt8)) : (padI (rawF st 32)).length = 32 := by
  cases h : rawF st 32 with
  | none => simp [padI]
  | some p => exact (raw_len (x := 32) h).1

/-- A Reader that is held, on the row of a copy of l. -/
def HoldsR (w w' : World) (g : Nat) (a0 : Option Addr) (n0 c0 : Nat) (l : List UInt8) (st : Option (List UInt8)) (N : List Res) : Prop :=
  ∃ a n c, SubB a0 n0 c0 l a n c (st.getD []) ∧ (st.getD []).length ≤ l.length ∧ St w [] w' (.row 5 1 (.slice a0 n0 c0) n0 (bv l) :: .blk g (.cells #[.slice a n c, .bool st.isNone] 103) :: N)

section
variable {w w1 : World} {g : Nat} {a0 : Option Addr} {n0 c0 : Nat} {l : List UInt8} {st : Option (List UInt8)} {N : List Res}

theorem HoldsR.chg (h : HoldsR w w1 g a0 n0 c0 l st N) : Chg [] w w1 := by obtain ⟨_, _, _, _, _, hS⟩ := h; exact hS.chg

theorem HoldsR.raw (h : HoldsR w w1 g a0 n0 c0 l st N) (x : Int) (hb : l.length ≤ 140737488355000) :
    Calls Try.prog 51 #[.pointer (some ⟨g, 0, none⟩), .int .i64 x] w1 fun e w2 => ∃ a' n' c', e = .returned (.slice a' n' c') ∧ HoldsR w w2 g a0 n0 c0 l ((rawF st x).map (·.2)) (N ++ [.row 5 1 (.slice a' n' c') n' (bv (((rawF st x).map (·.1)).getD []))]) := by
  obtain ⟨a, n, c, hs, hlen, hS⟩ := h
  have h0 : RdB w1 a0 n0 c0 l := hS.rd (i := 0) rfl
  refine (rRaw_spec g _ st x a n c w1 (hS.holds 1 _ rfl) (hs w1 h0) (by omega)).mono ?_
  rintro e w2 ⟨a', n', c', rfl, hf, a2, n2, c2, hg2, hs2⟩
  refine ⟨a', n', c', rfl, a2, n2, c2, fun v hv => hs2 v (hs v hv), ?_, hf.addBlk hS (i := 1) rfl hg2⟩
  cases st with
  | none => simp [rawF]
  | some q =>
    simp only [Option.getD_some] at hlen
    simp only [rawF, Option.bind_some]
    split
    · simp; omega
    · simp

theorem HoldsR.var (h : HoldsR w w1 g a0 n0 c0 l st N) :
    Calls Try.prog 52 #[.pointer (some ⟨g, 0, none⟩)] w1 fun e w2 => e = .returned (.int .i64 ((((varF st).map (·.1)).getD 0 : Nat) : Int)) ∧ HoldsR w w2 g a0 n0 c0 l ((varF st).map (·.2)) N := by
  obtain ⟨a, n, c, hs, hlen, hS⟩ := h
  have h0 : RdB w1 a0 n0 c0 l := hS.rd (i := 0) rfl
  refine (rVar_spec g _ st a n c w1 (hS.holds 1 _ rfl) (hs w1 h0)).mono ?_
  rintro e w2 ⟨rfl, hc, a2, n2, c2, hg2, hs2⟩
  refine ⟨rfl, a2, n2, c2, fun v hv => hs2 v (hs v hv), ?_, hS.upd (i := 1) (r' := .blk g (.cells #[.slice a2 n2 c2, .bool ((varF st).map fun p : Nat × List UInt8 => p.2).isNone] 103)) rfl hc hg2 (by simp [Res.fp])⟩
  cases st with
  | none => simp [varF]
  | some q =>
    simp only [Option.getD_some] at hlen
    simp only [varF, Option.bind_some]
    cases readVarF q with
    | none => simp
    | some p => simp; omega

theorem HoldsR.err (h : HoldsR w w1 g a0 n0 c0 l st N) :
    Calls Try.prog 53 #[.pointer (some ⟨g, 0, none⟩)] w1 fun e w2 => e = .returned (errV (brE st)) ∧ w2 = w1 := by
  obtain ⟨a, n, c, hs, hlen, hS⟩ := h
  exact rErr_spec g _ st a n c w1 (hS.holds 1 _ rfl)

end

end Go.Proofs.Ytoianikapjkekaa
