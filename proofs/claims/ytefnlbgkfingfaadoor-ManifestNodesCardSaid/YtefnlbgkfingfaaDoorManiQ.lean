/- Chapter 15: ManifestParses (conditions: the table lies where the program laid it). -/
import Derived.Test.YtefnlbgkfingfaaDoorManiP
namespace Go.Proofs.YtefnlbgkfingfaaDoor
open Go Sx
set_option maxRecDepth 8000

theorem copyB_spec (a : Option Addr) (n c : Nat) (l : List UInt8) (w : World) (hr : RdB w a n c l) (hb : n ≤ 140737488355000) :
    Calls Tryd.prog 21 #[.slice a n c] w fun e w' => ∃ a' c', e = .returned (.slice a' n c') ∧ FreshB w w' a' n c' l := by
  refine (copy_spec a n c l w hr hb).mono ?_
  rintro e w' ⟨g, c', cur, rfl, hc, hg, hm⟩
  exact ⟨_, _, rfl, hc, hr.lenB, hm.row hg⟩

theorem OwnL.last {w w' : World} {a : Option Addr} {n c : Nat} {vs : List Value} {ls : List (List UInt8)} {a3 : Option Addr} {n3 c3 : Nat} {f : List UInt8} (h : OwnL w w' a n c (vs ++ [Value.slice a3 n3 c3]) (ls ++ [f])) : RdB w' a3 n3 c3 f := by
  have hl : vs.length = ls.length := by have := h.len; simpa using this
  obtain ⟨a', n', c', h1, h2⟩ := h.row2.rd ls.length (by simp)
  rw [← hl, List.getElem?_append_right (Nat.le_refl _), Nat.sub_self] at h1
  simp only [List.getElem?_cons_zero, Option.some.injEq, Value.slice.injEq] at h1
  obtain ⟨rfl, rfl, rfl⟩ := h1
  simpa [List.getD] using h2

theorem errO_ne {α : Type} (o : Option α) : errO o ≠ some 0 := by unfold errO; split <;> simp

theorem joinF_len (x : Int) : ∀ ls : List (List UInt8), (idsJ (joinF x ls)).length ≤ 16 * ls.length
  | [] => by simp [joinF, idsJ]
  | b :: r => by
    have ih := joinF_len x r
    by_cases h : parseF b ≠ none ∧ ((lvO (parseF b) : Nat) : Int) = x
    · rw [join_ok h.1 h.2]
      have := idsO_len b
      cases hj : joinF x r with
      | none => simp [idsJ]
      | some q =>
        rw [hj] at ih
        simp only [idsJ, Option.map_some, Option.getD_some, List.length_append, List.length_cons] at ih ⊢
        omega
    · rw [join_snoc_no (by by_cases h1 : parseF b = none; · exact .inl h1
                           · exact .inr fun h2 => h ⟨h1, h2⟩)]
      simp [idsJ]

theorem take_snoc {ls : List (List UInt8)} {i : Nat} (h : i < ls.length) : ls.take (i + 1) = ls.take i ++ [ls.getD i []] := by
  rw [List.take_add_one, List.getElem?_eq_getElem h]; simp [List.getD, h]

set_option maxHeartbeats 1000000 in
theorem manifestParses_walk (x : Int) (a : Option Addr) (n c : Nat) (vs : List Value) (ls : List (List UInt8)) (w : World) (hK : KTab w) (hr : Rd w a n c 1 vs) (h2 : Row2 w vs ls) :
    Calls Tryd.prog 6 #[.int .i64 x, .slice a n c] w fun e w' => e = .returned (.bool true) ∧ Chg [] w w' := by
  have hln : ls.length = n := by have := hr.len; have := h2.len; omega
  apply amphoralaw15_ManifestParses_vc
  refine (alive15_spec w hK).mono ?_
  rintro e w1 ⟨rfl, c1⟩
  refine ⟨_, rfl, fun h => by simp at h, fun _ => ⟨fun y w' => w' = w1 ∧ (y = false → n ≤ 300 ∧ ls.flatten.length ≤ 65536), ⟨fun h => ⟨rfl, fun h => by simp at h⟩, fun h => (sum_spec a n c vs ls 1048576 w1 (hr.keep0 c1) (h2.keep0 c1) (by omega) (by simp at h; omega)).mono ?_⟩, ?_⟩⟩
  · rintro e w2 ⟨rfl, rfl⟩
    refine ⟨_, rfl, rfl, fun h' => ⟨by simp at h; omega, ?_⟩⟩
    simp only [gt_iff_lt, decide_eq_false_iff_not] at h'
    split at h' <;> omega
  rintro y w3 ⟨rfl, hy⟩
  refine ⟨fun _ => ⟨rfl, c1⟩, fun hf => ?_⟩
  obtain ⟨h300, hfl⟩ := hy hf
  have hbd : ∀ i, i < ls.length → (ls.getD i []).length ≤ 140737488355000 := fun i hi => by have := getD_le_flat hi; omega
  obtain ⟨g4, w4, r4, h4⟩ := (St.start w3).lit bbT [] (by simp) (by simp)
  refine ⟨_, _, _, _, r4, fun xa xn xc z w' => ∃ (i : Nat) (us : List Value), z = (i : Int) ∧ i ≤ n ∧ xn = i ∧ OwnL w3 w' xa xn xc us (ls.take i), fun _ _ _ z _ => n - z.toNat, ⟨0, [], rfl, by omega, rfl, h4, rfl, by simp⟩, ?_⟩
  rintro xa xn xc z w5 ⟨i, us, rfl, hi, rfl, hO⟩
  have c5 := c1.trans hO.st.chg
  refine ⟨fun h => ?_, fun h => ?_⟩
  · have hi' : xn < n := by simp at h; omega
    obtain ⟨b, o, a', n', c', ha, hv, hrd, q⟩ := ixS hr.cells h2 (i := xn) (by omega)
    have hb' : n' ≤ 65536 := by have h1 := getD_le_flat (ls := ls) (i := xn) (by omega); have h2 := hrd.lenB; omega
    refine ⟨b, o, ha, by omega, by omega, _, _, _, q w5 (hr.cells.keep0 c5), (copyB_spec a' n' c' _ w5 (hrd.keep0 c5) (by omega)).mono ?_⟩
    rintro e w6 ⟨a6, c6, rfl, hf6⟩
    obtain ⟨g7, w7, va, vc, w8, r7, r8, hO8⟩ := hO.push hf6 (by omega)
    have c8 := c1.trans hO8.st.chg
    refine ⟨_, _, _, rfl, _, _, _, _, r7, _, _, _, _, r8, (parse_spec a6 n' c6 _ w8 hO8.last (by omega)).mono ?_⟩
    rintro e w9 ⟨a9, n9, c9, rfl, hr9, d9⟩
    refine ⟨_, _, _, _, _, rfl, (rparse_spec a' n' c' _ w9 (hrd.keep0 (c8.trans d9))).mono ?_⟩
    rintro e w10 ⟨a10, n10, c10, rfl, hr10, d10⟩
    have h9n := hr9.num
    have h9b := idsO_len (ls.getD xn [])
    refine ⟨_, _, _, _, _, rfl, fun y w' => y = false ∧ Chg [] w8 w', ⟨fun h => by simp at h, fun _ => (rsame_spec _ _ _ _ _ _ _ _ w10 (hr9.keep0 d10) hr10 (by omega)).mono ?_⟩, ?_⟩
    · rintro e w11 ⟨rfl, d11⟩
      refine ⟨_, rfl, fun h => by simp at h, fun _ => (num_spec _ w11 (errO_ne _)).mono ?_⟩
      rintro e w12 ⟨rfl, rfl⟩
      exact ⟨_, rfl, by simp, (d9.trans d10).trans d11⟩
    · rintro y w13 ⟨rfl, c13⟩
      refine ⟨fun h => (by cases h), fun _ => ⟨⟨xn + 1, us ++ [.slice a6 n' c6], wrap_succ hi' (by omega), by omega, rfl, ?_⟩, mu_succ hi' (by omega)⟩⟩
      rw [take_snoc (by omega)]
      exact hO8.same c13
  · have hi' : xn = n := by simp at h; omega
    subst hi'
    rw [List.take_of_length_le (by omega)] at hO
    refine (join_spec x xa xn xc us ls w5 hO.rd hO.row2 (by omega) hbd).mono ?_
    rintro e w14 ⟨a14, n14, c14, rfl, hr14, d14⟩
    have c14' := c5.trans d14
    refine ⟨_, _, _, _, rfl, (rjoin_spec x a xn c vs ls w14 (hr.keep0 c14') (h2.keep0 c14') (by omega)).mono ?_⟩
    rintro e w15 ⟨a15, n15, c15, rfl, hr15, d15⟩
    have h14n := hr14.num
    have h14b := joinF_len x ls
    refine ⟨_, _, _, _, rfl, (rsame_spec _ _ _ _ _ _ _ _ w15 (hr14.keep0 d15) hr15 (by omega)).mono ?_⟩
    rintro e w16 ⟨rfl, d16⟩
    refine ⟨_, rfl, fun _ => (num_spec _ w16 (errO_ne _)).mono ?_, fun h => by simp at h⟩
    rintro e w17 ⟨rfl, rfl⟩
    have d17 := (d14.trans d15).trans d16
    have c17 := c5.trans d17
    have hO17 := hO.same d17
    refine ⟨_, rfl, fun _ => (same_spec _ _ _ us _ _ _ vs ls w17 hO17.rd hO17.row2 (hr.keep0 c17) (h2.keep0 c17) (by omega)).mono ?_, fun h => by simp at h⟩
    rintro e w18 ⟨rfl, d18⟩
    exact ⟨_, rfl, rfl, c17.trans d18⟩

end Go.Proofs.YtefnlbgkfingfaaDoor
