/- Frames read side by side; the reference's Frame and Frames (conditions: those that each theorem names). -/
import Derived.Test.YtpfjakmbokkkoaaWireD
import Derived.Test.YtpfjakmbokkkoaaRef04B
namespace Go.Proofs.Ytpfjakmbokkkoaa
open Go Sx

/-- Cells of things of one size. -/
theorem flat_get {α : Type} {sz : Nat} : ∀ {L : List (List α)}, (∀ x ∈ L, x.length = sz) → ∀ (i k : Nat), k < sz → L.flatten[i * sz + k]? = (L[i]?).bind fun x => x[k]?
  | [], _, i, k, _ => by simp
  | x :: L, h, 0, k, hk => by
    have hx := h x (by simp)
    rw [List.flatten_cons, Nat.zero_mul, Nat.zero_add, List.getElem?_append_left (by omega)]; rfl
  | x :: L, h, i + 1, k, hk => by
    have hx := h x (by simp)
    have ih := flat_get (L := L) (fun y hy => h y (by simp [hy])) i k hk
    rw [List.flatten_cons, List.getElem?_append_right (by rw [hx, Nat.add_mul]; omega), hx, List.getElem?_cons_succ, ← ih]
    congr 1
    rw [Nat.add_mul]; omega

theorem frCells_get {vs : List Value} {fs : List (UInt8 × List UInt8 × Nat)} (h : vs.length = fs.length) {i : Nat} (hi : i < fs.length) (k : Nat) (hk : k < 3) :
    (frCells vs fs)[i * 3 + k]? = [Value.int .i64 ((fs.getD i (0, [], 0)).1.toNat : Int), vs.getD i .nilIface, .int .i64 ((fs.getD i (0, [], 0)).2.2 : Int)][k]? := by
  rw [frCells, flat_get (sz := 3) _ _ _ hk]
  · have : (List.zipWith (fun v (f : UInt8 × List UInt8 × Nat) => [Value.int .i64 (f.1.toNat : Int), v, .int .i64 (f.2.2 : Int)]) vs fs)[i]? = some [Value.int .i64 ((fs.getD i (0, [], 0)).1.toNat : Int), vs.getD i .nilIface, .int .i64 ((fs.getD i (0, [], 0)).2.2 : Int)] := by
      rw [List.getElem?_zipWith, List.getElem?_eq_getElem hi, List.getElem?_eq_getElem (by omega : i < vs.length)]
      simp [List.getD, hi, show i < vs.length by omega]
    rw [this]; rfl
  · intro x hx
    obtain ⟨j, hj, rfl⟩ := List.getElem_of_mem hx
    simp

/-- Things read by their places. -/
theorem rdAt {w : World} {a : Option Addr} {cs : List Value} (hc : Cells w a cs) (hne : 0 < cs.length) : ∃ b o, a = some ⟨b, o, none⟩ ∧ ∀ {w' : World}, Cells w' a cs → ∀ {j : Nat} {v : Value}, cs[j]? = some v → w'.cell? ⟨b, o + j, none⟩ = some v := by
  obtain ⟨b, o, ha, _⟩ := hc.at_ (i := 0) (v := cs[0]) (by simp [hne])
  refine ⟨b, o, ha, fun {w'} hc' {j v} hv => ?_⟩
  obtain ⟨b', o', ha', hcell⟩ := hc'.at_ hv
  rw [ha] at ha'
  simp only [Option.some.injEq, Addr.mk.injEq, and_true] at ha'
  obtain ⟨rfl, rfl⟩ := ha'
  exact hcell

theorem ldO {P : Program} {w : World} {T : TypeId} {b o off : Nat} {v : Value} (hT : (isAgg T).run P w = .ok false w) (hc : w.cell? ⟨b, o, none⟩ = some v) (he : off = o) : (Instr.loadAt T (.pointer (some ⟨b, off, none⟩))).run P w = .ok v w := by
  subst he; exact ld1 hT hc

/-- Frames in memory, to be read. -/
structure RdF (w : World) (a : Option Addr) (n c : Nat) (vs : List Value) (fs : List (UInt8 × List UInt8 × Nat)) : Prop where
  rd : Rd w a n c 3 (frCells vs fs)
  row : Row2 w vs (fs.map fun f => f.2.1)
  num : fs.length = n

theorem RdF.keep0 {w w' : World} {a : Option Addr} {n c : Nat} {vs : List Value} {fs : List (UInt8 × List UInt8 × Nat)} (h : RdF w a n c vs fs) (hc : Chg [] w w') : RdF w' a n c vs fs := ⟨h.rd.keep0 hc, h.row.keep0 hc, h.num⟩

theorem OwnF.rdF {w w' : World} {a : Option Addr} {n c : Nat} {vs : List Value} {fs : List (UInt8 × List UInt8 × Nat)} (h : OwnF w w' a n c vs fs) : RdF w' a n c vs fs := by
  refine ⟨h.st.rd (i := 0) rfl, ⟨by rw [List.length_map]; exact h.len, fun i hi => ?_⟩, h.num⟩
  obtain ⟨a', c', h1⟩ := h.hd i hi
  refine ⟨a', _, c', h1, h.st.rd (i := i + 1) (e := 5) ?_⟩
  rw [List.getElem?_cons_succ, rowsL_get (by rw [List.length_map]; exact h.len) hi]
  simp only [List.getD, h1, Option.getD_some]

theorem OwnF.same {w0 w w' : World} {a : Option Addr} {n c : Nat} {vs : List Value} {fs : List (UInt8 × List UInt8 × Nat)} (h : OwnF w0 w a n c vs fs) (hc : Chg [] w w') : OwnF w0 w' a n c vs fs := ⟨h.st.same hc, h.len, h.num, h.hd⟩

theorem RdF.vlen {w : World} {a : Option Addr} {n c : Nat} {vs : List Value} {fs : List (UInt8 × List UInt8 × Nat)} (h : RdF w a n c vs fs) : vs.length = fs.length := by have := h.row.len; rwa [List.length_map] at this

theorem fsame_spec (a : Option Addr) (n c : Nat) (vs : List Value) (a2 : Option Addr) (n2 c2 : Nat) (vs2 : List Value) (fs : List (UInt8 × List UInt8 × Nat)) (w : World) (h1 : RdF w a n c vs fs) (h2 : RdF w a2 n2 c2 vs2 fs) (hb : n ≤ 4611686018427387904) :
    Calls Try.prog 48 #[.slice a n c, .slice a2 n2 c2] w fun e w' => e = .returned (.bool true) ∧ Chg [] w w' := by
  have hn1 := h1.num
  have hn2 := h2.num
  have iI : ∀ w, (isAgg 3).run Try.prog w = .ok false w := fun w => Try.isAgg3 w
  apply amphoraref04_Same_vc
  refine ⟨fun h => by simp at h; omega, fun _ => ?_⟩
  refine ⟨fun x w' => ∃ i : Nat, x = (i : Int) ∧ i ≤ n ∧ Chg [] w w', fun x _ => n - x.toNat, ⟨0, rfl, by omega, Chg.refl _ _⟩, ?_⟩
  rintro x w1 ⟨i, rfl, hi, hc1⟩
  refine ⟨fun h => ?_, fun h => ⟨rfl, hc1⟩⟩
  have hi' : i < n := by simp at h; omega
  have l1 := h1.rd.len
  have l2 := h2.rd.len
  obtain ⟨b, o, ha, hr⟩ := rdAt h1.rd.cells (by omega)
  obtain ⟨b2, o2, ha2, hr2⟩ := rdAt h2.rd.cells (by omega)
  have g1 := fun k hk => frCells_get h1.vlen (i := i) (by omega) k hk
  have g2 := fun k hk => frCells_get h2.vlen (i := i) (by omega) k hk
  obtain ⟨a', n', c', hv, hrd⟩ := h1.row.rd i (by simp; omega)
  obtain ⟨a2', n2', c2', hv2, hrd2⟩ := h2.row.rd i (by simp; omega)
  have e1 : vs.getD i .nilIface = .slice a' n' c' := by simp [List.getD, hv]
  have e2 : vs2.getD i .nilIface = .slice a2' n2' c2' := by simp [List.getD, hv2]
  have hcd := hc1.trans (Chg.drew _ w1)
  have C1 := fun w' (h : Chg [] w w') => (h1.rd.keep0 h).cells
  have C2 := fun w' (h : Chg [] w w') => (h2.rd.keep0 h).cells
  refine ⟨fun b w' => b = false ∧ Chg [] w w', ⟨fun w' => Chg [] w w', hcd, b, o, ha, by omega, by omega, b2, o2, ha2, by omega, by omega, _, fun w' h => ldO (iI _) (hr (C1 w' h) (g1 0 (by decide))) (by omega), _, fun w' h => ldO (iI _) (hr2 (C2 w' h) (g2 0 (by decide))) (by omega),
    fun h => by simp at h, fun _ => ⟨b, o, ha, by omega, by omega, b2, o2, ha2, by omega, by omega, _, fun w' h => ldO (iI _) (hr (C1 w' h) (g1 2 (by decide))) (by omega), _, fun w' h => ldO (iI _) (hr2 (C2 w' h) (g2 2 (by decide))) (by omega),
    fun h => by simp at h, fun _ => ⟨b, o, ha, by omega, by omega, b2, o2, ha2, by omega, by omega, a', n', c', fun w' h => ldO (bsA _) (hr (C1 w' h) (by rw [g1 1 (by decide), e1]; rfl)) (by omega), _, fun w' h => toStr bS bE sS (hrd.keep0 h).cells hrd.lenB,
    a2', n2', c2', fun w' h => ldO (bsA _) (hr2 (C2 w' h) (by rw [g2 1 (by decide), e2]; rfl)) (by omega), _, fun w' h => toStr bS bE sS (hrd2.keep0 h).cells hrd2.lenB, by simp, hcd⟩⟩⟩, ?_⟩
  rintro b w2 ⟨rfl, hc2⟩
  exact ⟨fun h => (by cases h), fun _ => ⟨⟨i + 1, wrap_succ hi' hb, by omega, hc2⟩, mu_succ hi' hb⟩⟩

theorem Row2.nil (w : World) : Row2 w [] [] := ⟨rfl, by simp⟩
theorem Row2.cons {w : World} {vs : List Value} {ls : List (List UInt8)} {a : Option Addr} {n c : Nat} {l : List UInt8} (h : RdB w a n c l) (h2 : Row2 w vs ls) : Row2 w (.slice a n c :: vs) (l :: ls) := by
  refine ⟨by simp [h2.len], fun i hi => ?_⟩
  cases i with
  | zero => exact ⟨a, n, c, rfl, h⟩
  | succ i => exact h2.rd i (by simpa using hi)

theorem rframe_spec (k : UInt8) (a : Option Addr) (n c : Nat) (l : List UInt8) (w : World) (hr : RdB w a n c l) (hb : n ≤ 67108864) :
    Calls Try.prog 46 #[.int .u8 (k.toNat : Int), .slice a n c] w fun e w' => ∃ a' n' c', e = .returned (.slice a' n' c') ∧ FreshB w w' a' n' c' (frameL k l) := by
  have hl := hr.lenB
  apply amphoraref04_Frame_vc
  refine ⟨fun h => by simp at h; omega, fun _ => ?_⟩
  obtain ⟨g, w2, r2, h2'⟩ := (St.start w).lit bT [.int .u8 (k.toNat : Int)] (by simp [Value.oneCell']) (by simp)
  obtain ⟨g3, w3, r3, h3⟩ := h2'.lit bbT [.slice a n c] (by simp [Value.oneCell']) (by simp)
  refine ⟨_, _, _, _, r2, _, _, _, _, r3, (rpack_spec _ 1 1 [.slice a n c] [l] w3 (h3.rd (i := 1) rfl) ((Row2.nil _).cons (h3.rd1 hr)) (by simp; omega) (by simp)).mono ?_⟩
  rintro e w4 ⟨a4, n4, c4, rfl, hf4⟩
  have h4 := hf4.add h3
  have hn4 := hf4.2.1
  have h9 := varL_len 9 n (by simp; omega) (by decide)
  have hp : packL [l] = varL l.length ++ l := by simp [packL]
  rw [hp] at hn4
  rw [hl] at hn4 hp
  simp only [List.length_append] at hn4
  obtain ⟨va, vc, w5, r5, h5⟩ := h4.appendB (i := 0) (xs := [k]) rfl (h4.rd (i := 2) rfl) (by simp; omega)
  refine ⟨_, _, _, rfl, _, _, _, _, r5, _, _, _, rfl, ?_⟩
  have := h5.freshB (i := 0) rfl
  rw [hp] at this
  rw [frameL, hl]; exact this

theorem rframes_spec (a : Option Addr) (n c : Nat) (l : List UInt8) (w : World) (hr : RdB w a n c l) (hb : n ≤ 1048576) :
    Calls Try.prog 47 #[.slice a n c] w fun e w' => ∃ a' n' c' vs, e = .returned (.tuple #[.slice a' n' c', .int .i64 (((framesF (l.length + 1) l 0).2 : Nat) : Int)]) ∧ OwnF w w' a' n' c' vs (framesF (l.length + 1) l 0).1 := by
  have hl := hr.lenB
  have hle := hr.le
  apply amphoraref04_Frames_vc
  refine ⟨fun xa xn xc y w' => ∃ (fs : List (UInt8 × List UInt8 × Nat)) (vs : List Value) (p f : Nat), y = (p : Int) ∧ xn = fs.length ∧ p ≤ n ∧ (l.drop p).length < f ∧
      framesF (l.length + 1) l 0 = (fs ++ (framesF f (l.drop p) p).1, (framesF f (l.drop p) p).2) ∧ fs.length ≤ p ∧
      St w [] w' ([.row 73 3 (.slice xa xn xc) xn (frCells vs fs)] ++ rowsL vs (fs.map fun f => f.2.1)) ∧ vs.length = fs.length ∧ (∀ i, i < (fs.map fun f => f.2.1).length → ∃ a c, vs[i]? = some (.slice a ((fs.map fun f => f.2.1).getD i []).length c)),
    fun _ _ _ y _ => n - y.toNat, ⟨[], [], 0, l.length + 1, rfl, rfl, by omega, by simp, by simp, by simp, (St.start w).addNil _ _, rfl, by simp⟩, ?_⟩
  rintro xa xn xc y w2 ⟨fs, vs, p, f, rfl, rfl, hpn, hfr, hff, hlen, hS, hvs, hhd⟩
  obtain ⟨f, rfl⟩ : ∃ f', f = f' + 1 := ⟨f - 1, by omega⟩
  refine ⟨fun h => ?_, fun h => ?_⟩
  · have hp : p < n := by simp at h; omega
    have hw1 : IntKind.wrap .i64 ((p : Int) + 1) = ((p + 1 : Nat) : Int) := wrap_succ hp (by omega)
    rw [hw1]
    refine ⟨by omega, by omega, by omega, fun a2 hs2 => ?_⟩
    simp only [Int.toNat_natCast] at hs2 ⊢
    have hsub := hr.sub hs2 (hh := n) (by omega) (Nat.le_refl _) hle (Nat.le_refl _)
    have e1 : ((bv l).drop ((p + 1) * 1)).take ((n - (p + 1)) * 1) = bv (l.drop (p + 1)) := by
      rw [Nat.mul_one, Nat.mul_one, List.take_of_length_le (by simp; omega), bv_drop]
    rw [e1] at hsub
    have hdrop : l.drop p = l.getD p 0 :: l.drop (p + 1) := by
      rw [List.drop_eq_getElem_cons (by omega)]; simp [List.getD, show p < l.length by omega]
    refine thenC (rfield_spec a2 _ _ (l.drop (p + 1)) w2 (hS.rd1 hsub) (by omega)) ?_
    intro e w3 hpost
    cases hv : fieldF (l.drop (p + 1)) with
    | none =>
      rw [hv] at hpost
      obtain ⟨rfl, hc3⟩ := hpost
      have hfn : frameF (l.drop p) = none := by rw [hdrop]; simp [frameF, hv]
      have hz : framesF (l.length + 1) l 0 = (fs, p) := by rw [hff]; simp [framesF, hfn]
      rw [hz]
      exact ⟨_, _, _, _, rfl, fun _ => ⟨_, _, _, vs, rfl, hS.same hc3, hvs, rfl, hhd⟩, fun h => by simp at h⟩
    | some q =>
      obtain ⟨b, r⟩ := q
      rw [hv] at hpost
      obtain ⟨a3, n3, c3, rfl, hf3⟩ := hpost
      obtain ⟨s, _, _, hrr, hs1, hs3, _⟩ := fieldF_some hv
      have hbl := hf3.2.1
      subst hbl
      have h4 := hf3.add hS
      refine ⟨_, _, _, _, rfl, fun h => by simp at h; omega, fun _ => ?_⟩
      refine ixB (bA _) (hr.keep0 h4.chg).cells hl (by omega) (by omega) fun _ _ _ => ?_
      obtain ⟨k, hk⟩ : ∃ k, l.getD p 0 = k := ⟨_, rfl⟩
      have hkl := k.toNat_lt
      rw [Int.toNat_natCast, hk, wrap_i64 (by omega) (by omega)]
      rw [hk] at hdrop
      have hq : frameF (l.drop p) = some (k, b, r) := by rw [hdrop]; simp [frameF, hv]
      have h5 : St w [] w3 ([.row 73 3 (.slice xa fs.length xc) fs.length (frCells vs fs)] ++ rowsL (vs ++ [Value.slice a3 b.length c3]) ((fs ++ [(k, b, p)]).map fun f => f.2.1)) := by
        rw [List.map_append, List.map_cons, List.map_nil, rowsL_snoc (by simp [hvs]), ← List.append_assoc]; exact h4
      obtain ⟨g6, w6, va, vc, w7, r6, r7, h7, h6⟩ := h5.pushA (i := 0) (ty := 68) frT rfl [.int .i64 (k.toNat : Int), .slice a3 b.length c3, .int .i64 (p : Int)] rfl (by omega) (by simp [Value.oneCell']) (by omega) (by simp only [maxLen]; omega)
      have hld : (l.drop (p + 1)).length = n - (p + 1) := by simp [hl]
      have hrl : r.length ≤ n - (p + 1) := by omega
      have hr2 : r = l.drop (n - r.length) := by
        rw [hrr, List.drop_drop]
        congr 1
        rw [hrr] at hs3 hrl
        simp only [List.length_drop] at hs3 ⊢
        omega
      have hwp : IntKind.wrap .i64 (((p + 1 : Nat) : Int) + (((l.drop (p + 1)).length - r.length : Nat) : Int)) = ((n - r.length : Nat) : Int) := by
        rw [hld, wrap_i64 (by omega) (by omega)]; omega
      rw [hwp]
      refine ⟨_, frame_build _ _ _ _ _ _, _, _, _, _, r6, _, _, _, _, r7, ⟨fs ++ [(k, b, p)], vs ++ [Value.slice a3 b.length c3], n - r.length, f, rfl, by simp, by omega, ?_, ?_, by simp; omega, ?_, by simp [hvs], ?_⟩, ?_⟩
      · rw [← hr2]; rw [hdrop] at hfr; simp only [List.length_cons] at hfr; omega
      · rw [← hr2, hff]
        have hpp : p + ((l.drop p).length - r.length) = n - r.length := by rw [hdrop]; simp only [List.length_cons]; omega
        simp only [framesF, hq, hpp]
        simp
      · rw [frCells_snoc hvs]; exact h7
      · rw [List.map_append, List.map_cons, List.map_nil]
        exact hd_snoc (by simp [hvs]) hhd _ _ _
      · show n - (((n - r.length : Nat) : Int)).toNat < n - ((p : Int)).toNat
        omega
  · have hp : p = n := by simp at h; omega
    have hz : framesF (l.length + 1) l 0 = (fs, p) := by
      rw [hff, hp, List.drop_of_length_le (by omega)]; simp [framesF, frameF]
    rw [hz]
    exact ⟨_, _, _, vs, rfl, hS, hvs, rfl, hhd⟩

end Go.Proofs.Ytpfjakmbokkkoaa
