/- Chapter 14: IndexMerges (conditions: none). -/
import Derived.Test.YtoianikapjkekaaIndQ
namespace Go.Proofs.Ytoianikapjkekaa
open Go Sx
set_option maxRecDepth 8000

theorem rrT : ElemT Try.prog 22 24 1 24 (.slice none 0 0) := ⟨by kernel_rfl, ⟨Try.t24, by kernel_rfl, by kernel_rfl, by kernel_rfl, by kernel_rfl⟩, rfl, by decide⟩

/-- Copies with marks: their headers; their rows. -/
def hdM (gs : List Nat) (ls : List Refs) : List Value := List.zipWith (fun g (l : Refs) => Value.slice (some ⟨g, 0, none⟩) l.length (l.length + 1)) gs ls
def rowM (gs : List Nat) (ls : List Refs) : List Res := List.zipWith (fun g (l : Refs) => Res.row 52 35 (.slice (some ⟨g, 0, none⟩) (l.length + 1) (l.length + 1)) (l.length + 1) ((l ++ [markR]).flatMap refC)) gs ls
theorem hdM_snoc {gs : List Nat} {ls : List Refs} (h : gs.length = ls.length) (g : Nat) (l : Refs) : hdM (gs ++ [g]) (ls ++ [l]) = hdM gs ls ++ [.slice (some ⟨g, 0, none⟩) l.length (l.length + 1)] := by rw [hdM, List.zipWith_append h]; rfl
theorem rowM_snoc {gs : List Nat} {ls : List Refs} (h : gs.length = ls.length) (g : Nat) (l : Refs) : rowM (gs ++ [g]) (ls ++ [l]) = rowM gs ls ++ [.row 52 35 (.slice (some ⟨g, 0, none⟩) (l.length + 1) (l.length + 1)) (l.length + 1) ((l ++ [markR]).flatMap refC)] := by rw [rowM, List.zipWith_append h]; rfl

structure OwnM (w w' : World) (a : Option Addr) (n c : Nat) (gs : List Nat) (ls : List Refs) : Prop where
  st : St w [] w' (.row 24 1 (.slice a n c) n (hdM gs ls) :: rowM gs ls)
  len : gs.length = ls.length
theorem OwnM.same {w w1 w2 : World} {a : Option Addr} {n c : Nat} {gs : List Nat} {ls : List Refs} (h : OwnM w w1 a n c gs ls) (hc : Chg [] w1 w2) : OwnM w w2 a n c gs ls := ⟨h.st.same hc, h.len⟩
theorem OwnM.at_ {w w' : World} {a : Option Addr} {n c : Nat} {gs : List Nat} {ls : List Refs} (h : OwnM w w' a n c gs ls) {i : Nat} {l : Refs} (hl : ls[i]? = some l) : ∃ g, (hdM gs ls)[i]? = some (.slice (some ⟨g, 0, none⟩) l.length (l.length + 1)) ∧ RdR w' (some ⟨g, 0, none⟩) (l.length + 1) (l.length + 1) (l ++ [markR]) := by
  have hi := (List.getElem?_eq_some_iff.1 hl).1
  obtain ⟨g, hg⟩ : ∃ g, gs[i]? = some g := ⟨gs[i]'(by have := h.len; omega), List.getElem?_eq_getElem _⟩
  refine ⟨g, by rw [hdM, List.getElem?_zipWith, hg, hl], ⟨h.st.rd (i := i + 1) (e := 52) ?_, fun x _ => refC_len x⟩⟩
  rw [List.getElem?_cons_succ, rowM, List.getElem?_zipWith, hg, hl]
theorem OwnM.rowR {w w' : World} {a : Option Addr} {n c : Nat} {gs : List Nat} {ls : List Refs} (h : OwnM w w' a n c gs ls) : RowR w' (hdM gs ls) ls := by
  refine ⟨by rw [hdM, List.length_zipWith, h.len, Nat.min_self], fun i l hi => ?_⟩
  obtain ⟨g, h1, h2⟩ := h.at_ hi
  refine ⟨_, _, _, h1, ?_⟩
  have := h2.sub (lo := 0) (hh := l.length) (m := l.length + 1) (a' := some ⟨g, 0, none⟩) ⟨fun e => by omega, fun _ => by simp [Addr.add]⟩ (by omega) (by omega) (by omega) (Nat.le_refl _)
  simpa using this

theorem sum_le : ∀ (ls : List Refs), (∀ l ∈ ls, l.length ≤ 100) → (ls.map List.length).sum ≤ 100 * ls.length
  | [], _ => by simp
  | l :: ls, h => by
    have h1 := sum_le ls fun x hx => h x (by simp [hx])
    have h2 := h l (by simp)
    simp only [List.map_cons, List.sum_cons, List.length_cons]
    omega

set_option maxHeartbeats 1000000 in
theorem indexMerges_walk (a : Option Addr) (n c : Nat) (vs : List Value) (ls : List Refs) (w : World) (hr : Rd w a n c 1 vs) (h2 : RowR w vs ls) :
    Calls Try.prog 3 #[.slice a n c] w fun e w' => e = .returned (.bool true) ∧ Chg [] w w' := by
  have hln : ls.length = n := by have := hr.len; have := h2.len; omega
  apply amphoralaw14_IndexMerges_vc
  refine (alive14_spec w).mono ?_
  rintro e w1 ⟨rfl, c1⟩
  refine ⟨_, rfl, fun h => by simp at h, fun _ => ⟨fun _ => ⟨rfl, c1⟩, fun hle => ?_⟩⟩
  have hn30 : n ≤ 30 := by simp at hle; omega
  obtain ⟨g2, w2, r2, h2'⟩ := (St.start w1).lit rrT [] (by simp) (by simp)
  refine ⟨_, _, _, w2, r2, fun xa xn xc y w' => ∃ (i : Nat) (gs : List Nat), y = (i : Int) ∧ i ≤ n ∧ xn = i ∧ (∀ l ∈ ls.take i, l.length ≤ 100) ∧ OwnM w1 w' xa xn xc gs (ls.take i), fun _ _ _ y _ => n - y.toNat, ⟨0, [], rfl, by omega, rfl, by simp, h2', rfl⟩, ?_⟩
  rintro xa xn xc y w3 ⟨i, gs, rfl, hi, rfl, h100, hO⟩
  have c3 := c1.trans hO.st.chg
  refine ⟨fun h => ?_, fun h => ?_⟩
  · have hi' : xn < n := by simp at h; omega
    obtain ⟨l, hl⟩ : ∃ l, ls[xn]? = some l := ⟨ls[xn], List.getElem?_eq_getElem (by omega)⟩
    obtain ⟨b, o, a', n', c', ha, hv, hrd, q⟩ := ixR hr.cells h2 hl
    have hnl := hrd.num (by decide)
    refine ⟨b, o, ha, by omega, by omega, _, _, _, q w3 (hr.cells.keep0 c3), fun _ => ⟨rfl, c3⟩, fun hle2 => (mine_spec a' n' c' l w3 (hrd.keep0 c3) (by simp at hle2; omega)).mono ?_⟩
    have hl100 : l.length ≤ 100 := by simp at hle2; omega
    rintro e w4 ⟨g4, rfl, h4⟩
    subst hnl
    have h5 := St.callPart (N := []) (by rw [List.append_nil]; exact hO.st) h4
    have hlen := hO.len
    have hsz : (ls.take xn).length = xn := by rw [List.length_take]; omega
    obtain ⟨g6, w6, va, vc, w7, r6, r7, h7, _, _⟩ := h5.pushV (i := 0) (ty := 22) rrT rfl (.slice (some ⟨g4, 0, none⟩) l.length (l.length + 1)) rfl (by omega) (by simp only [maxLen]; omega)
    refine ⟨_, _, _, rfl, _, _, _, w6, r6, _, _, _, w7, r7, ⟨xn + 1, gs ++ [g4], wrap_succ hi' (by omega), by omega, rfl, ?_, ?_⟩, mu_succ hi' (by omega)⟩
    · intro x hx
      rw [List.take_add_one, hl] at hx
      rcases List.mem_append.1 hx with hx | hx
      · exact h100 x hx
      · simp at hx; rw [hx]; exact hl100
    · have e : ls.take (xn + 1) = ls.take xn ++ [l] := by rw [List.take_add_one, hl]; rfl
      rw [e]
      refine ⟨?_, by simp [hlen]⟩
      rw [hdM_snoc hlen, rowM_snoc hlen]
      exact h7
  · have hi' : xn = n := by simp at h; omega
    subst hi'
    rw [List.take_of_length_le (by omega)] at hO h100
    have hsum := sum_le ls h100
    have hrow := hO.rowR
    have hrdO : Rd w3 xa xn xc 1 (hdM gs ls) := hO.st.rd (i := 0) rfl
    refine (iMerge_spec xa xn xc _ ls w3 hrdO hrow (by omega) (by omega)).mono ?_
    intro e7 w7 hpost
    obtain ⟨ga, gn, gc, rfl, hg7, d7⟩ : ∃ ga gn gc, e7 = .returned (.tuple #[.slice ga gn gc, errV (if ls.all isSeg then none else some 28)]) ∧ RdR w7 ga gn gc (if ls.all isSeg then mrgF ls else []) ∧ Chg [] w3 w7 := by
      rcases hpost with ⟨hs, a', n', c', rfl, h7⟩ | ⟨hs, rfl, hc⟩
      · rw [hs]; exact ⟨a', n', c', rfl, ⟨h7.rd (i := 0) rfl, fun x _ => refC_len x⟩, h7.chg⟩
      · rw [hs]; exact ⟨none, 0, 0, rfl, RdE.nil _, hc⟩
    have c7 := c3.trans d7
    refine ⟨_, _, _, _, rfl, (rMerge_spec a xn c vs ls w7 (hr.keep0 c7) (h2.keep0 c7) (by omega) (by omega)).mono ?_⟩
    rintro e8 w8 ⟨d8, hpost8⟩
    obtain ⟨ra, rn, rc, rfl, hg8⟩ : ∃ ra rn rc, e8 = .returned (.tuple #[.slice ra rn rc, .int .i64 (if ls.all isSeg then 0 else 28)]) ∧ RdR w8 ra rn rc (if ls.all isSeg then mrgF ls else []) := by
      rcases hpost8 with ⟨hs, a', n', c', rfl, h8⟩ | ⟨hs, rfl⟩
      · rw [hs]; exact ⟨a', n', c', rfl, h8⟩
      · rw [hs]; exact ⟨none, 0, 0, rfl, RdE.nil _⟩
    have d38 := d7.trans d8
    refine ⟨_, _, _, _, rfl, fun y w' => ∃ j : Nat, y = (j : Int) ∧ j ≤ xn ∧ Chg [] w8 w', fun y _ => xn - y.toNat, ⟨0, rfl, by omega, Chg.refl _ _⟩, ?_⟩
    rintro y w9 ⟨j, rfl, hj, d9⟩
    have d39 := d38.trans d9
    have c9 := c3.trans d39
    refine ⟨fun h => ?_, fun h => ?_⟩
    · have hj' : j < xn := by simp at h; omega
      obtain ⟨l, hl⟩ : ∃ l, ls[j]? = some l := ⟨ls[j], List.getElem?_eq_getElem (by omega)⟩
      obtain ⟨b, o, a', n', c', ha, hv, hrd, q⟩ := ixR hr.cells h2 hl
      obtain ⟨g, hv2, hrd2⟩ := hO.at_ hl
      obtain ⟨b2, o2, a2', n2', c2', ha2, hv3, hrd3, q2⟩ := ixR hrdO.cells hrow hl
      rw [hv2] at hv3
      simp only [Option.some.injEq, Value.slice.injEq] at hv3
      obtain ⟨rfl, rfl, rfl⟩ := hv3
      have hnl := hrd.num (by decide)
      subst hnl
      have hl100 := h100 l (List.mem_of_getElem? hl)
      have d9d := d39.trans (Chg.drew [] w9)
      refine ⟨fun w' => Chg [] w3 w', d9d, b2, o2, ha2, by omega, by omega, b, o, ha, by omega, by omega, _, _, _, fun w' h => q2 w' (hrdO.cells.keep0 h), _, _, _, fun w' h => q w' (hr.cells.keep0 (c3.trans h)), (kept14_spec g _ _ _ l w9.drew (hrd2.keep0 d9d) (hrd.keep0 (c3.trans d9d)) (by omega)).mono ?_⟩
      rintro e w10 ⟨rfl, d10⟩
      exact ⟨_, rfl, fun w' => Chg [] w3 w', fun _ h => h, d9d.trans d10, fun h => by simp at h, fun _ => ⟨⟨j + 1, wrap_succ hj' (by omega), by omega, (d9.trans (Chg.drew [] w9)).trans d10⟩, mu_succ hj' (by omega)⟩⟩
    · have hg9 := hg7.keep0 (d8.trans d9)
      have hgn := hg9.num (by decide)
      have hml := mrg_len ls []
      simp only [List.length_nil, Nat.zero_add] at hml
      refine (rsame13_spec _ _ _ _ _ _ _ _ w9 hg9 (hg8.keep0 d9) (by rw [← hgn]; split <;> simp [mrgF] <;> omega)).mono ?_
      rintro e w11 ⟨hcase, d11⟩
      rcases hcase with ⟨rfl, _⟩ | ⟨_, hne⟩
      · refine ⟨_, rfl, fun _ => (num_spec _ w11 (by split <;> simp)).mono ?_, fun h => by simp at h⟩
        rintro e w12 ⟨rfl, rfl⟩
        refine ⟨_, rfl, ?_, c9.trans d11⟩
        split <;> rfl
      · exact absurd rfl hne

end Go.Proofs.Ytoianikapjkekaa
