/- Contracts of the reference's Pack, field and Unpack (conditions: those that each theorem names). -/
import Derived.Test.YtpfjakmbokkkoaaRef04A
import Derived.Test.YtpfjakmbokkkoaaWireC
namespace Go.Proofs.Ytpfjakmbokkkoaa
open Go Sx

theorem rpack_spec (a : Option Addr) (n c : Nat) (vs : List Value) (ls : List (List UInt8)) (w : World) (hr : Rd w a n c 1 vs) (h2 : Row2 w vs ls) (hb : ls.flatten.length ≤ 67108864) (hn : ls.length ≤ 1048576) :
    Calls Try.prog 24 #[.slice a n c] w fun e w' => ∃ a' n' c', e = .returned (.slice a' n' c') ∧ FreshB w w' a' n' c' (packL ls) := by
  have hln : ls.length = n := by have := hr.len; have := h2.len; omega
  apply amphoraref04_Pack_vc
  refine ⟨fun xa xn xc x w' => ∃ i : Nat, x = (i : Int) ∧ i ≤ n ∧ xn = (packL (ls.take i)).length ∧ St w [] w' [.row 5 1 (.slice xa xn xc) xn (bv (packL (ls.take i)))], fun _ _ _ x _ => n - x.toNat,
    ⟨0, rfl, by omega, by simp [packL], (St.start w).addNil _ _⟩, ?_⟩
  rintro xa xn xc x w1 ⟨i, rfl, hi, hxn, hS⟩
  have hpb := packL_bound hb i
  refine ⟨fun h => ?_, fun h => ?_⟩
  · have hi' : i < n := by simp at h; omega
    obtain ⟨b, o, a', n', c', ha, hv, hrd, hld⟩ := ixS hr.cells h2 (i := i) (by omega)
    have hl' := hrd.lenB
    have hle := getD_le_flat (ls := ls) (i := i) (by omega)
    refine ⟨b, o, ha, by omega, by omega, _, _, _, hld w1 (hr.cells.keep0 hS.chg), fun h => ?_, fun _ => ?_⟩
    · simp at h; omega
    · have h9 := varL_len 9 n' (by simp; omega) (by decide)
      have hSd := hS.drew
      refine ⟨fun w' => Chg [] w w', hSd.chg, b, o, ha, by omega, by omega, b, o, ha, by omega, by omega, a', n', c', fun w' h => hld w' (hr.cells.keep0 h), a', n', c', fun w' h => hld w' (hr.cells.keep0 h), thenC (rvar_spec n' w1.drew (by omega)) ?_⟩
      rintro e w2 ⟨a2, n2, c2, rfl, hf2⟩
      have hS2 := hf2.add hSd
      have hn2 := hf2.2.1
      obtain ⟨va, vc, w3, hr3, hS3⟩ := hS2.appendB (i := 0) rfl (hS2.rd (i := 1) rfl) (by omega)
      obtain ⟨vb, vd, w4, hr4, hS4⟩ := hS3.appendB (i := 0) rfl (hS3.rd1 hrd) (by omega)
      have hpt := packL_take (ls := ls) (i := i) (by omega)
      rw [hl'] at hpt
      refine ⟨_, _, _, rfl, fun w' => Chg [] w w', fun _ h => h, hS2.chg, _, _, _, _, hr3, fun w' => Chg [] w w', fun _ h => h, hS3.chg, _, _, _, _, hr4, fun w' => Chg [] w w', fun _ h => h, hS4.chg, ⟨i + 1, ?_, by omega, ?_, ?_⟩, ?_⟩
      · rw [wrap_i64 (by omega) (by omega)]; rfl
      · rw [hpt]; simp only [List.length_append]; omega
      · rw [hpt]; exact St.pop (M := [_]) hS4
      · show n - (IntKind.wrap .i64 ((i : Int) + 1)).toNat < n - ((i : Int)).toNat
        rw [wrap_i64 (by omega) (by omega)]; omega
  · have hi' : i = n := by simp at h; omega
    rw [hi', ← hln, List.take_length] at hS
    exact ⟨_, _, _, rfl, hS.freshB (i := 0) rfl⟩

theorem rfield_spec (a : Option Addr) (n c : Nat) (l : List UInt8) (w : World) (hr : RdB w a n c l) (hb : n ≤ 140737488355000) :
    Calls Try.prog 45 #[.slice a n c] w fun e w' => match fieldF l with
      | none => e = .returned (.tuple #[.slice none 0 0, .int .i64 (-1)]) ∧ Chg [] w w'
      | some p => ∃ a' n' c', e = .returned (.tuple #[.slice a' n' c', .int .i64 ((l.length - p.2.length : Nat) : Int)]) ∧ FreshB w w' a' n' c' p.1 := by
  have hl := hr.lenB
  have hle := hr.le
  apply amphoraref04_field_vc
  refine (rreadVar_spec a n c l w hr).mono ?_
  rintro e w1 ⟨rfl, hc1⟩
  cases hv : readVarF l with
  | none =>
    refine ⟨_, _, _, rfl, fun _ => ?_, fun h => by simp at h⟩
    have : fieldF l = none := by simp [fieldF, hv]
    rw [this]
    exact ⟨rfl, hc1⟩
  | some p =>
    obtain ⟨k, s⟩ := p
    obtain ⟨h1, h2, _, h4⟩ := readVarF_some hv
    have hw : IntKind.wrap .i64 ((n : Int) - (s : Int)) = ((n - s : Nat) : Int) := by rw [wrap_i64 (by omega) (by omega)]; omega
    refine ⟨_, _, _, rfl, fun h => ?_, fun h => ?_⟩
    · rw [hw] at h
      have hfn : fieldF l = none := by
        simp only [fieldF, hv, Option.bind_some]
        rw [if_neg]
        simp at h; omega
      rw [hfn]
      exact ⟨rfl, hc1⟩
    · rw [hw] at h
      have hk : k ≤ 67108864 ∧ k + s ≤ l.length := by simp at h; omega
      have hfs : fieldF l = some ((l.drop s).take k, l.drop (s + k)) := by
        simp only [fieldF, hv, Option.bind_some]
        rw [if_pos hk]
      have hw2 : IntKind.wrap .i64 ((s : Int) + (k : Int)) = ((s + k : Nat) : Int) := by rw [wrap_i64 (by omega) (by omega)]; omega
      obtain ⟨g, w2, r2, h2'⟩ := ((St.start w).same hc1).lit bT [] (by simp) (by simp)
      rw [hw2]
      refine ⟨_, _, _, _, r2, by omega, by omega, by omega, fun a2 hs2 => ?_⟩
      simp only [Int.toNat_natCast] at hs2 ⊢
      have hsub := hr.sub hs2 (hh := s + k) (by omega) (by omega) (by omega) (Nat.le_refl _)
      have e1 : ((bv l).drop (s * 1)).take ((s + k - s) * 1) = bv ((l.drop s).take k) := by
        rw [Nat.mul_one, Nat.mul_one, Nat.add_sub_cancel_left, bv_take, bv_drop]
      rw [e1] at hsub
      obtain ⟨va, vc, w3, r3, h3⟩ := h2'.appendB (i := 0) (xs := []) rfl (h2'.rd1 hsub) (by simp; omega)
      refine ⟨_, _, _, _, r3, ?_⟩
      rw [hfs]
      refine ⟨_, _, _, ?_, h3.freshB (i := 0) rfl⟩
      have : l.length - (l.drop (s + k)).length = s + k := by simp; omega
      rw [this]

theorem runpack_spec (a : Option Addr) (n c : Nat) (l : List UInt8) (x : Int) (w : World) (hr : RdB w a n c l) (hb : n ≤ 1048576) (hx : -9223372036854775808 ≤ x ∧ x ≤ 9223372036854775807) :
    Calls Try.prog 27 #[.slice a n c, .int .i64 x] w fun e w' => match unpackZ x l with
      | none => e = .returned (.tuple #[.slice none 0 0, .int .i64 9]) ∧ Chg [] w w'
      | some fs => ∃ a n c vs, e = .returned (.tuple #[.slice a n c, .int .i64 0]) ∧ OwnL w w' a n c vs fs := by
  have hl := hr.lenB
  apply amphoraref04_Unpack_vc
  have h1' := (St.start w).addNil 22 1
  refine ⟨fun a2 n2 c2 xa xn xc w' => ∃ (fs : List (List UInt8)) (rest : List UInt8) (vs : List Value), xn = fs.length ∧ (0 ≤ x → (fs.length : Int) ≤ x) ∧ (x < 0 → fs = []) ∧
      (∀ k : Nat, x = (fs.length : Int) + k → unpackF x.toNat l = (unpackF k rest).map (fs ++ ·)) ∧ fs.length + rest.length ≤ n ∧
      St w [] w' ([.row 22 1 (.slice xa xn xc) xn vs] ++ rowsL vs fs) ∧ RdB w a2 n2 c2 rest ∧ vs.length = fs.length ∧ (∀ i, i < fs.length → ∃ a c, vs[i]? = some (.slice a (fs.getD i []).length c)),
    fun _ n2 _ _ _ _ _ => n2, ⟨[], l, [], rfl, id, fun _ => rfl, fun k hk => ?_, by simp; omega, h1', hr, rfl, by simp⟩, ?_⟩
  · rw [hk]; simp
  rintro a2 n2 c2 xa xn xc w2 ⟨fs, rest, vs, rfl, hyx, hx0, hun, hlen, hS, hrd, hvs, hhd⟩
  have hrl := hrd.lenB
  have hrle := hrd.le
  refine ⟨fun h => ?_, fun h => ?_⟩
  · have hlt : (fs.length : Int) < x := by simpa using h
    refine (rfield_spec a2 n2 c2 rest w2 (hS.rd1 hrd) (by omega)).mono ?_
    obtain ⟨k, hk⟩ : ∃ k : Nat, x = (fs.length : Int) + ((k + 1 : Nat) : Int) := ⟨(x - fs.length - 1).toNat, by omega⟩
    have hun' := hun (k + 1) hk
    rw [unpackF] at hun'
    intro e w3 hpost
    cases hv : fieldF rest with
    | none =>
      rw [hv] at hpost hun'
      obtain ⟨rfl, hc3⟩ := hpost
      refine ⟨_, _, _, _, rfl, fun _ => ?_, fun h => by simp at h⟩
      have : unpackZ x l = none := by rw [unpackZ, if_neg (by omega), hun']; rfl
      rw [this]
      exact ⟨rfl, hS.chg.trans hc3⟩
    | some p =>
      obtain ⟨f, r⟩ := p
      rw [hv] at hpost hun'
      obtain ⟨a3, n3, c3, rfl, hf3⟩ := hpost
      simp only [Option.bind_some] at hun' hf3
      obtain ⟨s, _, _, hrr, hs1, hs2, _⟩ := fieldF_some hv
      have h4 := hf3.add hS
      have hfl := hf3.2.1
      subst hfl
      have h5 : St w [] w3 ([.row 22 1 (.slice xa fs.length xc) fs.length vs] ++ rowsL (vs ++ [Value.slice a3 f.length c3]) (fs ++ [f])) := by
        rw [rowsL_snoc hvs, ← List.append_assoc]; exact h4
      obtain ⟨g6, w6, va, vc, w7, r6, r7, h7, h6, hc6⟩ := h5.pushV (i := 0) (ty := 39) bbT rfl (.slice a3 f.length c3) rfl (by omega) (by simp only [maxLen]; omega)
      refine ⟨_, _, _, _, rfl, fun h => by simp at h; omega, fun _ => ⟨_, _, _, _, r6, _, _, _, _, r7, by omega, by omega, by omega, fun a4 hs4 => ?_⟩⟩
      simp only [Int.toNat_natCast] at hs4 ⊢
      have hsz : rest.length - r.length = s + f.length := by omega
      rw [hsz] at hs4 ⊢
      have hsub := hrd.sub hs4 (hh := n2) (by omega) (Nat.le_refl _) hrle (Nat.le_refl _)
      have e1 : ((bv rest).drop ((s + f.length) * 1)).take ((n2 - (s + f.length)) * 1) = bv r := by
        rw [Nat.mul_one, Nat.mul_one, List.take_of_length_le (by simp; omega), ← bv_drop, hrr]
      rw [e1] at hsub
      refine ⟨⟨fs ++ [f], r, vs ++ [Value.slice a3 f.length c3], by simp, fun _ => by simp; omega, fun h => by omega, fun j hj => ?_, by simp; omega, h7, hsub, by simp [hvs], hd_snoc hvs hhd _ _ _⟩, ?_⟩
      · have : j = k := by simp at hj; omega
        subst this
        rw [hun']; cases unpackF j r <;> simp
      · show n2 - (s + f.length) < n2
        omega
  · have hge : x ≤ (fs.length : Int) := by simpa using h
    refine ⟨fun h => ?_, fun h => ?_⟩
    · have hz : unpackZ x l = none := by
        unfold unpackZ
        by_cases hx1 : x < 0
        · rw [if_pos hx1]
        · rw [if_neg hx1, hun 0 (by omega), unpackF]
          have : rest ≠ [] := by rintro rfl; simp at h hrl; omega
          rw [if_neg this]; rfl
      rw [hz]
      exact ⟨rfl, hS.chg⟩
    · have hx1 : ¬ x < 0 ∧ n2 = 0 := by simp at h; omega
      have hre : rest = [] := List.eq_nil_of_length_eq_zero (by omega)
      have hz : unpackZ x l = some fs := by
        unfold unpackZ
        rw [if_neg hx1.1, hun 0 (by omega), unpackF, if_pos hre]; simp
      rw [hz]
      exact ⟨_, _, _, _, rfl, hS, hvs, hhd⟩

end Go.Proofs.Ytpfjakmbokkkoaa
