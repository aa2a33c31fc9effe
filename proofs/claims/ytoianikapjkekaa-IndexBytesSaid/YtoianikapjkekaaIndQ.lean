/- Chapter 14: Merge, the code's and the reference's (conditions: none). -/
import Derived.Test.YtoianikapjkekaaIndM
namespace Go.Proofs.Ytoianikapjkekaa
open Go Sx
set_option maxRecDepth 8000

/-- Rows of refs in memory, by their slices. -/
structure RowR (w : World) (vs : List Value) (ls : List Refs) : Prop where
  len : vs.length = ls.length
  rd : ∀ (i : Nat) (l : Refs), ls[i]? = some l → ∃ a n c, vs[i]? = some (.slice a n c) ∧ RdR w a n c l
theorem RowR.keep0 {w w' : World} {vs : List Value} {ls : List Refs} (h : RowR w vs ls) (hc : Chg [] w w') : RowR w' vs ls := ⟨h.len, fun i l hi => by obtain ⟨a, n, c, h1, h2⟩ := h.rd i l hi; exact ⟨a, n, c, h1, h2.keep0 hc⟩⟩
theorem rrA (w : World) : (isAgg 24).run Try.prog w = .ok false w := Try.isAgg24 w
theorem ixR {w : World} {a : Option Addr} {vs : List Value} {ls : List Refs} (hc : Cells w a vs) (h2 : RowR w vs ls) {i : Nat} {l : Refs} (hi : ls[i]? = some l) :
    ∃ b o a' n' c', a = some ⟨b, o, none⟩ ∧ vs[i]? = some (.slice a' n' c') ∧ RdR w a' n' c' l ∧ ∀ w', Cells w' a vs → (Instr.loadAt 24 (.pointer (some ⟨b, o + Int.toNat (i : Int) * 1, none⟩))).run Try.prog w' = .ok (.slice a' n' c') w' := by
  obtain ⟨a', n', c', hv, hrd⟩ := h2.rd i l hi
  obtain ⟨b, o, ha, hcell⟩ := hc.at_ hv
  refine ⟨b, o, a', n', c', ha, hv, hrd, fun w' hc' => ?_⟩
  obtain ⟨b', o', ha', hcell'⟩ := hc'.at_ hv
  rw [ha] at ha'
  simp only [Option.some.injEq, Addr.mk.injEq, and_true] at ha'
  obtain ⟨rfl, rfl⟩ := ha'
  rw [show o + Int.toNat (i : Int) * 1 = o + i by omega]
  exact ld1 (rrA _) hcell'

theorem seg_good {l : Refs} (h : isSeg l = true) : l.all goodF = true := by
  rw [List.all_eq_true]
  intro r hr
  obtain ⟨i, hi⟩ := List.getElem?_of_mem hr
  have hl := (List.getElem?_eq_some_iff.1 hi).1
  have := List.all_eq_true.1 h i (List.mem_range.2 hl)
  simp only [okAt, Bool.and_eq_true] at this
  have e : l.getD i ref0 = r := by rw [List.getD, hi]; rfl
  rw [e] at this
  exact this.1

def mrgF (ls : List Refs) : Refs := ls.foldl addF []
theorem mrg_len : ∀ (ls : List Refs) (S : Refs), (ls.foldl addF S).length ≤ S.length + (ls.map List.length).sum
  | [], S => by simp
  | l :: ls, S => by
    have h1 := mrg_len ls (addF S l)
    have h2 := addF_len l S
    simp only [List.foldl_cons, List.map_cons, List.sum_cons]
    omega

theorem iMerge_spec (a : Option Addr) (n c : Nat) (vs : List Value) (ls : List Refs) (w : World) (hr : Rd w a n c 1 vs) (h2 : RowR w vs ls) (hb : (ls.map List.length).sum ≤ 100000) (hn : n ≤ 1000000) :
    Calls Try.prog 11 #[.slice a n c] w fun e w' => (ls.all isSeg = true ∧ ∃ a' n' c', e = .returned (.tuple #[.slice a' n' c', errV none]) ∧ St w [] w' [.row 52 35 (.slice a' n' c') n' ((mrgF ls).flatMap refC)]) ∨
      (ls.all isSeg = false ∧ e = .returned (.tuple #[.slice none 0 0, errV (some 28)]) ∧ Chg [] w w') := by
  have hln : ls.length = n := by have := hr.len; have := h2.len; omega
  obtain ⟨mI, hI⟩ := eI
  have hsum : ∀ (i : Nat) (l : Refs), ls[i]? = some l → l.length ≤ 100000 := fun i l hi => by
    have h1 : l.length ∈ ls.map List.length := List.mem_map.2 ⟨l, List.mem_of_getElem? hi, rfl⟩
    have h3 : ∀ (q : List Nat) (x : Nat), x ∈ q → x ≤ q.sum := by
      intro q
      induction q with
      | nil => intro x h; simp at h
      | cons y q ih =>
        intro x h
        rw [List.sum_cons]
        rcases List.mem_cons.1 h with rfl | h
        · omega
        · have := ih x h; omega
    have := h3 _ _ h1
    omega
  apply index_Merge_vc
  refine (new_spec w).mono ?_
  rintro e w1 ⟨gi, gm, rfl, h1⟩
  refine ⟨gi, 0, rfl, fun x w' => ∃ i : Nat, x = (i : Int) ∧ i ≤ n ∧ (ls.take i).all isSeg = true ∧ IdxIn w [] w' gi gm (mrgF (ls.take i)) [], fun x _ => n - x.toNat, ⟨0, rfl, by omega, by simp, h1⟩, ?_⟩
  rintro x w2 ⟨i, rfl, hi, hall, hI2⟩
  have c2 : Chg [] w w2 := by obtain ⟨_, _, _, _, _, hS⟩ := hI2; exact hS.chg
  refine ⟨fun h => ?_, fun h => ?_⟩
  · have hi' : i < n := by simp at h; omega
    have hli : ls[i]? = some ls[i] := List.getElem?_eq_getElem (by omega)
    obtain ⟨l, hl⟩ : ∃ l, ls[i] = l := ⟨_, rfl⟩
    rw [hl] at hli
    have hll := hsum i l hli
    obtain ⟨b, o, a', n', c', ha, hv, hrd, q⟩ := ixR hr.cells h2 hli
    have hnl := hrd.num (by decide)
    refine ⟨b, o, ha, by omega, by omega, _, _, _, q w2 (hr.cells.keep0 c2), (iCheck_spec a' n' c' l w2 (hrd.keep0 c2) (by omega)).mono ?_⟩
    rintro e w3 ⟨rfl, c3⟩
    cases hseg : isSeg l with
    | false =>
      have hbad : ls.all isSeg = false := by
        rw [List.all_eq_false]
        exact ⟨l, List.mem_of_getElem? hli, by simp [hseg]⟩
      exact ⟨_, rfl, _, neqS_nil hI (some 28) _ _, fun _ => .inr ⟨hbad, rfl, c2.trans c3⟩, fun h => by simp at h⟩
    | true =>
      have hI3 : IdxIn w [] w3 gi gm (mrgF (ls.take i)) [] := by
        obtain ⟨es, ck, M, hE, hM, hS⟩ := hI2
        exact ⟨es, ck, M, hE, hM, hS.same c3⟩
      refine ⟨_, rfl, _, neqS_nil hI none _ _, fun h => by simp at h, fun _ => (iAdd_spec gi gm _ a' n' c' l hI3 (hrd.keep0 (c2.trans c3)) (by omega)).mono ?_⟩
      rintro e w4 ⟨_, ⟨_, rfl, h4⟩ | ⟨hg, _⟩⟩
      · refine ⟨_, rfl, _, neqS_nil hI none _ _, fun h => by simp at h, fun _ => ⟨⟨i + 1, wrap_succ hi' (by omega), by omega, ?_, ?_⟩, mu_succ hi' (by omega)⟩⟩
        · rw [List.take_add_one, hli, List.all_append, hall]; simp [hseg]
        · have e : mrgF (ls.take i ++ [l]) = addF (mrgF (ls.take i)) l := by rw [mrgF, List.foldl_append]; rfl
          rw [List.take_add_one, hli]
          show IdxIn w [] w4 gi gm (mrgF (ls.take i ++ [l])) []
          rw [e]
          exact h4
      · rw [seg_good hseg] at hg; cases hg
  · have hi' : i = n := by simp at h; omega
    rw [hi', List.take_of_length_le (by omega)] at hall hI2
    have hlen := mrg_len ls []
    simp only [List.length_nil, Nat.zero_add] at hlen
    refine (iAll_spec gi gm _ hI2 (by unfold mrgF; omega)).mono ?_
    rintro e w5 ⟨a', n', c', rfl, es, ck, M, _, _, h5⟩
    exact ⟨_, _, _, rfl, .inl ⟨hall, a', n', c', rfl, h5.sub (List.Sublist.cons _ (List.Sublist.cons _ (List.Sublist.refl _)))⟩⟩

theorem rMerge_spec (a : Option Addr) (n c : Nat) (vs : List Value) (ls : List Refs) (w : World) (hr : Rd w a n c 1 vs) (h2 : RowR w vs ls) (hb : (ls.map List.length).sum ≤ 100000) (hn : n ≤ 1000000) :
    Calls Try.prog 12 #[.slice a n c] w fun e w' => Chg [] w w' ∧ ((ls.all isSeg = true ∧ ∃ a' n' c', e = .returned (.tuple #[.slice a' n' c', .int .i64 0]) ∧ RdR w' a' n' c' (mrgF ls)) ∨ (ls.all isSeg = false ∧ e = .returned (.tuple #[.slice none 0 0, .int .i64 28]))) := by
  have hln : ls.length = n := by have := hr.len; have := h2.len; omega
  have hsum : ∀ (i : Nat) (l : Refs), ls[i]? = some l → l.length ≤ 100000 := fun i l hi => by
    have h1 : l.length ∈ ls.map List.length := List.mem_map.2 ⟨l, List.mem_of_getElem? hi, rfl⟩
    have h3 : ∀ (q : List Nat) (x : Nat), x ∈ q → x ≤ q.sum := by
      intro q
      induction q with
      | nil => intro x h; simp at h
      | cons y q ih =>
        intro x h
        rw [List.sum_cons]
        rcases List.mem_cons.1 h with rfl | h
        · omega
        · have := ih x h; omega
    have := h3 _ _ h1
    omega
  have htk : ∀ i, ((ls.take i).map List.length).sum ≤ 100000 := fun i => by
    have h3 : ls.map List.length = (ls.take i).map List.length ++ (ls.drop i).map List.length := by rw [← List.map_append, List.take_append_drop]
    rw [h3, List.sum_append] at hb
    omega
  apply amphoraref14_Merge_vc
  refine ⟨fun xa xn xc y w' => ∃ i : Nat, y = (i : Int) ∧ i ≤ n ∧ (ls.take i).all isSeg = true ∧ RdR w' xa xn xc (mrgF (ls.take i)) ∧ Chg [] w w', fun _ _ _ y _ => n - y.toNat, ⟨0, rfl, by omega, by simp, RdE.nil _, Chg.refl _ _⟩, ?_⟩
  rintro xa xn xc y w1 ⟨i, rfl, hi, hall, hr1, c1⟩
  have hn1 := hr1.num (by decide)
  have hm1 := mrg_len (ls.take i) []
  have hm2 := htk i
  simp only [List.length_nil, Nat.zero_add] at hm1
  have hm3 : xn ≤ 100000 := by unfold mrgF at hn1; omega
  refine ⟨fun h => ?_, fun h => ?_⟩
  · have hi' : i < n := by simp at h; omega
    have hli : ls[i]? = some ls[i] := List.getElem?_eq_getElem (by omega)
    obtain ⟨l, hl⟩ : ∃ l, ls[i] = l := ⟨_, rfl⟩
    rw [hl] at hli
    have hll := hsum i l hli
    obtain ⟨b, o, a', n', c', ha, hv, hrd, q⟩ := ixR hr.cells h2 hli
    have hnl := hrd.num (by decide)
    refine ⟨b, o, ha, by omega, by omega, _, _, _, q w1 (hr.cells.keep0 c1), (rCheck_spec a' n' c' l w1 (hrd.keep0 c1) (by omega)).mono ?_⟩
    rintro e w2 ⟨rfl, c2⟩
    have d2 := c1.trans c2
    cases hseg : isSeg l with
    | false =>
      have hbad : ls.all isSeg = false := by
        rw [List.all_eq_false]
        exact ⟨l, List.mem_of_getElem? hli, by simp [hseg]⟩
      exact ⟨_, rfl, fun _ => ⟨d2, .inr ⟨hbad, rfl⟩⟩, fun h => by simp at h⟩
    | true =>
      refine ⟨_, rfl, fun h => by simp at h, fun _ => ⟨b, o, ha, by omega, by omega, _, _, _, q w2 (hr.cells.keep0 d2), (rAdd_spec xa xn xc _ a' n' c' l w2 (hr1.keep0 c2) (hrd.keep0 d2) (by omega)).mono ?_⟩⟩
      rintro e w3 ⟨c3, ⟨_, a3, n3, c3', rfl, hr3⟩ | ⟨hg, _⟩⟩
      · refine ⟨_, _, _, _, rfl, ⟨i + 1, wrap_succ hi' (by omega), by omega, ?_, ?_, d2.trans c3⟩, mu_succ hi' (by omega)⟩
        · rw [List.take_add_one, hli, List.all_append, hall]; simp [hseg]
        · have e : mrgF (ls.take i ++ [l]) = addF (mrgF (ls.take i)) l := by rw [mrgF, List.foldl_append]; rfl
          rw [List.take_add_one, hli]
          show RdR w3 a3 n3 c3' (mrgF (ls.take i ++ [l]))
          rw [e]
          exact hr3
      · rw [seg_good hseg] at hg; cases hg
  · have hi' : i = n := by simp at h; omega
    rw [hi', List.take_of_length_le (by omega)] at hall hr1
    exact ⟨c1, .inl ⟨hall, xa, xn, xc, rfl, hr1⟩⟩

end Go.Proofs.Ytoianikapjkekaa
