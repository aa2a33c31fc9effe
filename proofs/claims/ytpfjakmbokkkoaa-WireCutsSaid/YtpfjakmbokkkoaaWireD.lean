/- Frames on the wire: wire.Frame and wire.Frames (conditions: those that each theorem names). -/
import Derived.Test.YtpfjakmbokkkoaaWireC
namespace Go.Proofs.Ytpfjakmbokkkoaa
open Go Sx

/-- A frame's bytes. -/
def frameL (k : UInt8) (b : List UInt8) : List UInt8 := k :: (varL b.length ++ b)

theorem frame_spec (k : UInt8) (a : Option Addr) (n c : Nat) (vs : List Value) (ls : List (List UInt8)) (w : World) (hr : Rd w a n c 1 vs) (h2 : Row2 w vs ls) (hb : ls.flatten.length ≤ 67108864) (hn : ls.length ≤ 1048576) :
    Calls Try.prog 43 #[.int .u8 (k.toNat : Int), .slice a n c] w fun e w' => ∃ a' n' c', e = .returned (.slice a' n' c') ∧ FreshB w w' a' n' c' (frameL k ls.flatten) := by
  have hln : ls.length = n := by have := hr.len; have := h2.len; omega
  apply wire_Frame_vc
  refine ⟨fun x y w' => ∃ i : Nat, y = (i : Int) ∧ i ≤ n ∧ x = (((ls.take i).flatten.length : Nat) : Int) ∧ w' = w, fun _ y _ => n - y.toNat, ⟨0, rfl, by omega, by simp, rfl⟩, ?_⟩
  rintro x y w1 ⟨i, rfl, hi, rfl, rfl⟩
  have hft := flat_take_le ls i
  refine ⟨fun h => ?_, fun h => ?_⟩
  · have hi' : i < n := by simp at h; omega
    obtain ⟨b, o, a', n', c', ha, hv, hrd, hld⟩ := ixS hr.cells h2 (i := i) (by omega)
    have hl' := hrd.lenB
    have hf1 := flat_take (ls := ls) (i := i) (by omega)
    have hf2 := flat_take_le ls (i + 1)
    rw [hf1, List.length_append, hl'] at hf2
    refine ⟨b, o, ha, by omega, by omega, _, _, _, hld w1 hr.cells, fun h => ?_, fun _ => ⟨⟨i + 1, wrap_succ hi' (by omega), by omega, ?_, rfl⟩, mu_succ hi' (by omega)⟩⟩
    · rw [wrap_i64 (by omega) (by omega)] at h; simp only [gt_iff_lt, decide_eq_true_eq] at h; omega
    · rw [wrap_i64 (by omega) (by omega), hf1, List.length_append, hl']; omega
  · have hi' : i = n := by simp at h; omega
    rw [hi', ← hln, List.take_length]
    rw [hln]
    obtain ⟨g, w2, r2, h2'⟩ := (St.start w1).lit bT [.int .u8 (k.toNat : Int)] (by simp [Value.oneCell']) (by simp)
    refine ⟨_, _, _, _, r2, (var_spec ls.flatten.length w2 (by omega)).mono ?_⟩
    rintro e w3 ⟨a3, n3, c3, rfl, hf3⟩
    have h3 := hf3.add h2'
    have h9 := varL_len 9 ls.flatten.length (by omega) (by decide)
    have hn3 := hf3.2.1
    obtain ⟨va, vc, w4, r4, h4⟩ := h3.appendB (i := 0) (xs := [k]) rfl (h3.rd (i := 1) rfl) (by simp; omega)
    have h4' := St.pop (M := [_]) h4
    refine ⟨_, _, _, rfl, _, _, _, _, r4, fun xa xn xc y w' => ∃ i : Nat, y = (i : Int) ∧ i ≤ n ∧ xn = 1 + n3 + (ls.take i).flatten.length ∧ St w1 [] w' [.row 5 1 (.slice xa xn xc) xn (bv (k :: (varL ls.flatten.length ++ (ls.take i).flatten)))], fun _ _ _ y _ => n - y.toNat, ⟨0, rfl, by omega, by simp, by simpa using h4'⟩, ?_⟩
    rintro xa xn xc y w5 ⟨i, rfl, hi, rfl, hS⟩
    have hft := flat_take_le ls i
    refine ⟨fun h => ?_, fun h => ?_⟩
    · have hi' : i < n := by simp at h; omega
      obtain ⟨b, o, a', n', c', ha, hv, hrd, hld⟩ := ixS hr.cells h2 (i := i) (by omega)
      have hl' := hrd.lenB
      have hf1 := flat_take (ls := ls) (i := i) (by omega)
      have hf2 := flat_take_le ls (i + 1)
      rw [hf1, List.length_append, hl'] at hf2
      obtain ⟨va, vc, w6, r6, h6⟩ := hS.appendB (i := 0) rfl (hS.rd1 hrd) (by omega)
      refine ⟨b, o, ha, by omega, by omega, _, _, _, hld w5 (hr.cells.keep0 hS.chg), _, _, _, _, r6, ⟨i + 1, wrap_succ hi' (by omega), by omega, ?_, ?_⟩, mu_succ hi' (by omega)⟩
      · rw [hf1, List.length_append, hl']; omega
      · rw [hf1]
        have e : k :: (varL ls.flatten.length ++ ((ls.take i).flatten ++ ls.getD i [])) = k :: (varL ls.flatten.length ++ (ls.take i).flatten) ++ ls.getD i [] := by simp
        rw [e]; exact h6
    · have hi' : i = n := by simp at h; omega
      subst hi'
      rw [← hln, List.take_length] at hS ⊢
      exact ⟨_, _, _, rfl, hS.freshB (i := 0) rfl⟩

/-- The frame with which bytes begin: its kind, its body, the rest. -/
def frameF : List UInt8 → Option (UInt8 × List UInt8 × List UInt8)
  | [] => none
  | k :: r => (fieldF r).map fun p => (k, p.1, p.2)

theorem frameF_some {l b r : List UInt8} {k : UInt8} (h : frameF l = some (k, b, r)) : ∃ t, l = k :: t ∧ fieldF t = some (b, r) ∧ b.length + r.length + 2 ≤ l.length := by
  cases l with
  | nil => cases h
  | cons x t =>
    simp only [frameF, Option.map_eq_some_iff, Prod.mk.injEq] at h
    obtain ⟨⟨b', r'⟩, h1, rfl, rfl, rfl⟩ := h
    obtain ⟨s, _, _, _, h3, h4, _⟩ := fieldF_some h1
    exact ⟨t, rfl, h1, by simp only [List.length_cons] at *; omega⟩

/-- The whole frames, and the place behind them. -/
def framesF : Nat → List UInt8 → Nat → List (UInt8 × List UInt8 × Nat) × Nat
  | 0, _, p => ([], p)
  | f + 1, l, p => match frameF l with
    | none => ([], p)
    | some (k, b, r) => ((k, b, p) :: (framesF f r (p + (l.length - r.length))).1, (framesF f r (p + (l.length - r.length))).2)

/-- The cells of frames. -/
def frCells (vs : List Value) (fs : List (UInt8 × List UInt8 × Nat)) : List Value := (List.zipWith (fun v f => [.int .i64 (f.1.toNat : Int), v, .int .i64 (f.2.2 : Int)]) vs fs).flatten

theorem frCells_snoc {vs : List Value} {fs : List (UInt8 × List UInt8 × Nat)} (h : vs.length = fs.length) (v : Value) (f : UInt8 × List UInt8 × Nat) : frCells (vs ++ [v]) (fs ++ [f]) = frCells vs fs ++ [.int .i64 (f.1.toNat : Int), v, .int .i64 (f.2.2 : Int)] := by
  rw [frCells, List.zipWith_append h]; simp [frCells]

theorem frT : ElemT Try.prog 68 73 3 40 (.agg #[.int .i64 0, .slice none 0 0, .int .i64 0]) := ⟨by kernel_rfl, ⟨Try.t73, by kernel_rfl, by kernel_rfl, by kernel_rfl, by kernel_rfl⟩, rfl, by decide⟩

theorem built_frame : Try.prog.built 73 = fun parts => Instr.fill (fun i => (#[(0, 1), (1, 1), (2, 1)] : Array (Nat × Nat))[i]?) #[.int .i64 0, .slice none 0 0, .int .i64 0] parts := by kernel_rfl

theorem frame_build (k p : Int) (a : Option Addr) (n c : Nat) (w : World) : (Instr.build 73 #[(0, .int .i64 k), (1, .slice a n c), (2, .int .i64 p)]).run Try.prog w = .ok (.agg #[.int .i64 k, .slice a n c, .int .i64 p]) w := by
  apply run_build
  rw [built_frame]
  show Instr.fill _ _ [(0, .int .i64 k), (1, .slice a n c), (2, .int .i64 p)] = _
  rw [fill_step (off := 0) (sz := 1) rfl (by simp [Value.cells]) (by simp), fill_step (off := 1) (sz := 1) rfl (by simp [Value.cells]) (by simp [Value.cells]), fill_step (off := 2) (sz := 1) rfl (by simp [Value.cells]) (by simp [Value.cells])]
  simp [Instr.fill, Value.cells]

/-- Frames in a row of their own, their bodies in rows of their own. -/
structure OwnF (w w' : World) (a : Option Addr) (n c : Nat) (vs : List Value) (fs : List (UInt8 × List UInt8 × Nat)) : Prop where
  st : St w [] w' (.row 73 3 (.slice a n c) n (frCells vs fs) :: rowsL vs (fs.map fun f => f.2.1))
  len : vs.length = fs.length
  num : fs.length = n
  hd : ∀ i, i < (fs.map fun f => f.2.1).length → ∃ a c, vs[i]? = some (.slice a ((fs.map fun f => f.2.1).getD i []).length c)

theorem frames_spec (a : Option Addr) (n c : Nat) (l : List UInt8) (w : World) (hr : RdB w a n c l) (hb : n ≤ 1048576) :
    Calls Try.prog 44 #[.slice a n c] w fun e w' => ∃ a' n' c' vs, e = .returned (.tuple #[.slice a' n' c', .int .i64 (((framesF (l.length + 1) l 0).2 : Nat) : Int)]) ∧ OwnF w w' a' n' c' vs (framesF (l.length + 1) l 0).1 := by
  have iB : ∀ w, (isAgg 4).run Try.prog w = .ok false w := fun w => Try.isAgg4 w
  have hl := hr.lenB
  apply wire_Frames_vc
  obtain ⟨g, w1, r1, h1⟩ := (St.start w).box (P := Try.prog) 80 (.agg #[.slice a n c, .bool false])
  have h1' := h1.addNil 73 3
  refine ⟨_, reader_build a n c w, g, w1, r1, fun xa xn xc y w' => ∃ (fs : List (UInt8 × List UInt8 × Nat)) (rest : List UInt8) (vs : List Value) (a2 : Option Addr) (n2 c2 p f : Nat), y = (p : Int) ∧ xn = fs.length ∧ rest.length < f ∧
      framesF (l.length + 1) l 0 = (fs ++ (framesF f rest p).1, (framesF f rest p).2) ∧ fs.length + rest.length ≤ n ∧ p + rest.length = n ∧
      St w [] w' ([.blk g (.cells #[.slice a2 n2 c2, .bool false] 80), .row 73 3 (.slice xa xn xc) xn (frCells vs fs)] ++ rowsL vs (fs.map fun f => f.2.1)) ∧ RdB w a2 n2 c2 rest ∧ vs.length = fs.length ∧ (∀ i, i < (fs.map fun f => f.2.1).length → ∃ a c, vs[i]? = some (.slice a ((fs.map fun f => f.2.1).getD i []).length c)),
    fun _ xn _ _ _ => n - xn, ⟨[], l, [], a, n, c, 0, l.length + 1, rfl, rfl, by omega, by simp, by simp; omega, by omega, h1', hr, rfl, by simp⟩, ?_⟩
  rintro xa xn xc y w2 ⟨fs, rest, vs, a2, n2, c2, p, f, rfl, rfl, hfr, hff, hlen, hp, hS, hrd, hvs, hhd⟩
  obtain ⟨f, rfl⟩ : ∃ f', f = f' + 1 := ⟨f - 1, by omega⟩
  have hrl := hrd.lenB
  have hg : w2.heap[g]? = some (.cells #[.slice a2 n2 c2, .bool false] 80) := hS.holds 0 _ rfl
  refine (raw_spec g _ (some rest) 1 a2 n2 c2 w2 hg (hS.rd1 hrd)).mono ?_
  rintro e w3 ⟨a3, n3, c3, rfl, hc3, ⟨a4, n4, c4, hg4, hs4⟩, hr3⟩
  have hr4 := hs4 w hrd
  have hr43 := (hs4 w2 (hS.rd1 hrd)).keepG hg (rdr_ne _ _ _ _ _) hc3
  have hl4 : (((rawF (some rest) 1).map (·.2)).getD []).length ≤ 1048576 := by
    simp only [rawF, Option.bind_some]
    split <;> simp
    omega
  refine ⟨_, _, _, rfl, (rField_spec g _ _ a4 n4 c4 w3 hg4 hr43 (by omega)).mono ?_⟩
  rintro e w4 ⟨a5, n5, c5, rfl, hf5, a6, n6, c6, hg6, hs6⟩
  have hr6 := hs6 w hr4
  have hr35 := hr3.keepG hg4 (rdr_ne _ _ _ _ _) hf5.1
  -- what the two calls say
  have key : ((rawF (some rest) 1).map (·.2)).bind fieldF = (frameF rest).map (·.2) := by
    cases rest with
    | nil => rfl
    | cons k t =>
      have : rawF (some (k :: t)) 1 = some ([k], t) := by simp [rawF]; omega
      rw [this]
      simp only [Option.map_some, Option.bind_some, frameF]
      cases fieldF t <;> rfl
  have hst : ((((rawF (some rest) 1).map (·.2)).bind fieldF).map (·.2)).isNone = (frameF rest).isNone := by rw [key]; cases frameF rest <;> rfl
  have hf5' : FreshX [g] w2 w4 a5 n5 c5 (((frameF rest).map (·.2.1)).getD []) := by
    rw [key] at hf5
    refine ⟨hc3.trans hf5.1, ?_, ?_⟩
    · have := hf5.2.1; cases h : frameF rest <;> rw [h] at this <;> exact this
    · have := ownsRow_base hf5.2.2 hc3.size; cases h : frameF rest <;> rw [h] at this <;> exact this
  refine ⟨_, _, _, rfl, _, ld1 (iB _) (by rw [cell_of_row w4 g _ _ _ _ hg6]; rfl), fun hbr => ?_, fun hbr => ?_⟩
  · rw [hst] at hbr
    have hfn : frameF rest = none := by simpa using hbr
    have hz : framesF (l.length + 1) l 0 = (fs, p) := by rw [hff]; simp [framesF, hfn]
    rw [hz]
    have h4 := hf5'.addBlk hS (i := 0) rfl hg6
    exact ⟨_, _, _, vs, rfl, (St.pop h4).tail, hvs, rfl, hhd⟩
  · rw [hst] at hbr
    obtain ⟨q, hq⟩ : ∃ q, frameF rest = some q := by cases h : frameF rest with
      | none => rw [h] at hbr; simp at hbr
      | some q => exact ⟨q, rfl⟩
    obtain ⟨k, b, r⟩ := q
    obtain ⟨t, rfl, hft, hlt⟩ := frameF_some hq
    have hra : rawF (some (k :: t)) 1 = some ([k], t) := by simp [rawF]; omega
    rw [hra] at hr35 hr6 hg6
    rw [hq] at hf5'
    simp only [Option.map_some, Option.getD_some, Option.bind_some, hft] at hr35 hr6 hg6 hf5'
    have h4 := hf5'.addBlk hS (i := 0) rfl hg6
    have hbl := hf5'.2.1
    subst hbl
    have hl35 := hr35.lenB
    refine ixB (bA _) hr35.cells hl35 (by omega) (by simp at hl35; omega) fun _ _ _ => ?_
    have hk : IntKind.wrap .i64 ((([k].getD (0 : Int).toNat 0).toNat : Int)) = (k.toNat : Int) := by
      have := k.toNat_lt
      simp only [Int.toNat_zero]
      rw [show [k].getD 0 0 = k from rfl, wrap_i64 (by omega) (by omega)]
    rw [hk]
    have h5 : St w [] w4 ([.blk g (.cells #[.slice a6 n6 c6, .bool false] 80), .row 73 3 (.slice xa fs.length xc) fs.length (frCells vs fs)] ++ rowsL (vs ++ [Value.slice a5 b.length c5]) ((fs ++ [(k, b, p)]).map fun f => f.2.1)) := by
      rw [List.map_append, List.map_cons, List.map_nil, rowsL_snoc (by simp [hvs]), ← List.append_assoc]; exact h4
    obtain ⟨g6, w6, va, vc, w7, r6, r7, h7, h6⟩ := h5.pushA (i := 1) (ty := 68) frT rfl [.int .i64 (k.toNat : Int), .slice a5 b.length c5, .int .i64 (p : Int)] rfl (by omega) (by simp [Value.oneCell']) (by omega) (by simp only [maxLen]; omega)
    have h7b : w7.heap[g]? = some (.cells #[.slice a6 n6 c6, .bool false] 80) := h7.holds 0 _ rfl
    have hl6 := hr6.lenB
    simp only [List.length_cons] at hlen hp hlt hfr hrl
    refine ⟨_, frame_build _ _ _ _ _ _, _, _, _, _, r6, _, _, _, _, r7, _, _, _, ld1 (bsA _) (by rw [cell_of_row w7 g _ _ _ _ h7b]; rfl), ⟨fs ++ [(k, b, p)], r, vs ++ [Value.slice a5 b.length c5], a6, n6, c6, n - r.length, f, ?_, by simp, by omega, ?_, by simp; omega, by omega, ?_, hr6, by simp [hvs], ?_⟩, ?_⟩
    · rw [wrap_i64 (by omega) (by omega)]; omega
    · rw [hff]
      have hpp : p + ((k :: t).length - r.length) = n - r.length := by simp; omega
      simp only [framesF, hq, hpp]
      simp
    · rw [frCells_snoc hvs]; exact h7
    · rw [List.map_append, List.map_cons, List.map_nil]
      exact hd_snoc (by simp [hvs]) hhd _ _ _
    · show n - (fs.length + 1) < n - fs.length
      omega

end Go.Proofs.Ytpfjakmbokkkoaa
