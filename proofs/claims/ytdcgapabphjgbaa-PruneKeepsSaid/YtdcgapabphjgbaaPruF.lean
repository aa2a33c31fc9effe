/- Snapshots and policies in plain words (conditions: none). -/
import Derived.Test.YtdcgapabphjgbaaLex
import Derived.Test.YtdcgapabphjgbaaRdE
namespace Go.Proofs.Ytdcgapabphjgbaa
open Go Sx
set_option maxRecDepth 8000

/-! ### snapshots -/
structure SnapD where
  name : List UInt8
  time : Int
  size : Int
  chunks : Int
  root : List UInt8
  rl : root.length = 32
def snapC (s : SnapD) : List Value := [strV s.name, .int .i64 s.time, .int .i64 s.size, .int .i64 s.chunks] ++ bv s.root
theorem snapC_len (s : SnapD) : (snapC s).length = 36 := by simp [snapC, s.rl]
theorem snapC_one (s : SnapD) : ∀ v ∈ snapC s, v.oneCell' = true := fun v hv => by
  simp only [snapC, List.mem_append, List.mem_cons, List.not_mem_nil, or_false] at hv
  rcases hv with (rfl | rfl | rfl | rfl) | h
  · rfl
  · rfl
  · rfl
  · rfl
  · exact bv_one _ v h
abbrev RdS (w : World) (a : Option Addr) (n c : Nat) (l : List SnapD) : Prop := RdE snapC 36 w a n c l
def iv (l : List Int) : List Value := l.map fun z => .int .i64 z
@[simp] theorem iv_len (l : List Int) : (iv l).length = l.length := by simp [iv]
theorem iv_get (l : List Int) (i : Nat) : (iv l)[i]? = l[i]?.map fun z => .int .i64 z := by simp [iv]
theorem iv_one (l : List Int) : ∀ v ∈ iv l, v.oneCell' = true := fun v hv => by
  simp only [iv, List.mem_map] at hv
  obtain ⟨z, _, rfl⟩ := hv
  rfl

/-! ### which is newer -/
def nwB (s t : SnapD) (i j : Nat) : Bool := decide (t.time < s.time) || (decide (s.time = t.time) && (lexLt t.name s.name || (decide (s.name = t.name) && decide (j < i))))
/-- The places from the newest on. -/
def Newer (l : List SnapD) (i j : Nat) : Prop := ∃ s t, l[i]? = some s ∧ l[j]? = some t ∧ nwB s t i j = true
theorem nwB_iff {s t : SnapD} {i j : Nat} : nwB s t i j = true ↔ t.time < s.time ∨ (s.time = t.time ∧ (lexLt t.name s.name = true ∨ (s.name = t.name ∧ j < i))) := by simp [nwB]
theorem nwB_asymm {s t : SnapD} {i j : Nat} (h : nwB s t i j = true) : nwB t s j i = false := by
  cases h2 : nwB t s j i with
  | false => rfl
  | true =>
    rw [nwB_iff] at h h2
    rcases h with h | ⟨h1, h | ⟨h3, h4⟩⟩
    · rcases h2 with h2 | ⟨h2, _⟩ <;> omega
    · rcases h2 with h2 | ⟨_, h2 | ⟨h2, _⟩⟩
      · omega
      · rw [lex_asymm h] at h2; cases h2
      · rw [h2, lex_irrefl] at h; cases h
    · rcases h2 with h2 | ⟨_, h2 | ⟨_, h2⟩⟩
      · omega
      · rw [h3, lex_irrefl] at h2; cases h2
      · omega
theorem nwB_trans {s t u : SnapD} {i j k : Nat} (h : nwB s t i j = true) (h2 : nwB t u j k = true) : nwB s u i k = true := by
  rw [nwB_iff] at *
  rcases h with h | ⟨h1, h⟩
  · rcases h2 with h2 | ⟨h2, _⟩
    · exact .inl (by omega)
    · exact .inl (by omega)
  · rcases h2 with h2 | ⟨h3, h2⟩
    · exact .inl (by omega)
    · refine .inr ⟨by omega, ?_⟩
      rcases h with h | ⟨h, h4⟩
      · rcases h2 with h2 | ⟨h2, _⟩
        · exact .inl (lex_trans _ _ _ h2 h)
        · rw [← h2]; exact .inl h
      · rcases h2 with h2 | ⟨h2, h5⟩
        · rw [h]; exact .inl h2
        · exact .inr ⟨h.trans h2, by omega⟩
theorem nwB_total {s t : SnapD} {i j : Nat} (hne : i ≠ j) : nwB s t i j = true ∨ nwB t s j i = true := by
  rw [nwB_iff, nwB_iff]
  by_cases h1 : t.time < s.time
  · exact .inl (.inl h1)
  by_cases h2 : s.time < t.time
  · exact .inr (.inl h2)
  have h3 : s.time = t.time := by omega
  cases h4 : lexLt t.name s.name with
  | true => exact .inl (.inr ⟨h3, .inl rfl⟩)
  | false =>
    cases h5 : lexLt s.name t.name with
    | true => exact .inr (.inr ⟨h3.symm, .inl rfl⟩)
    | false =>
      have h6 := lex_tri _ _ h5 h4
      by_cases h7 : j < i
      · exact .inl (.inr ⟨h3, .inr ⟨h6, h7⟩⟩)
      · exact .inr (.inr ⟨h3.symm, .inr ⟨h6.symm, by omega⟩⟩)
theorem Newer.asymm {l : List SnapD} {i j : Nat} (h : Newer l i j) : ¬ Newer l j i := by
  rintro ⟨s, t, h1, h2, h3⟩
  obtain ⟨s', t', g1, g2, g3⟩ := h
  rw [h1] at g2; rw [h2] at g1
  obtain rfl := Option.some.inj g1
  obtain rfl := Option.some.inj g2
  rw [nwB_asymm g3] at h3
  cases h3

structure NewOrd (l : List SnapD) (L : List Nat) : Prop where
  perm : L.Perm (List.range l.length)
  pw : L.Pairwise (Newer l)
theorem NewOrd.lt {l : List SnapD} {L : List Nat} (h : NewOrd l L) {i : Nat} (hi : i ∈ L) : i < l.length := by have := h.perm.mem_iff.1 hi; simpa using this
theorem NewOrd.mem {l : List SnapD} {L : List Nat} (h : NewOrd l L) {i : Nat} (hi : i < l.length) : i ∈ L := h.perm.mem_iff.2 (by simpa using hi)
theorem NewOrd.nodup {l : List SnapD} {L : List Nat} (h : NewOrd l L) : L.Nodup := h.perm.nodup_iff.2 List.nodup_range
theorem NewOrd.len {l : List SnapD} {L : List Nat} (h : NewOrd l L) : L.length = l.length := by have := h.perm.length_eq; simpa using this
theorem pw_uniq {α : Type} {r : α → α → Prop} (hr : ∀ a b, r a b → ¬ r b a) : ∀ {l m : List α}, l.Perm m → l.Pairwise r → m.Pairwise r → l = m
  | [], m, hp, _, _ => (List.nil_perm.1 hp).symm
  | x :: l, [], hp, _, _ => by have := hp.length_eq; simp at this
  | x :: l, y :: m, hp, h1, h2 => by
    rw [List.pairwise_cons] at h1 h2
    have hxy : x = y := by
      have hx : x ∈ y :: m := hp.mem_iff.1 List.mem_cons_self
      have hy : y ∈ x :: l := hp.mem_iff.2 List.mem_cons_self
      rcases List.mem_cons.1 hx with rfl | hx
      · rfl
      · rcases List.mem_cons.1 hy with rfl | hy
        · rfl
        · exact absurd (h1.1 y hy) (hr _ _ (h2.1 x hx))
    subst hxy
    rw [pw_uniq hr ((List.perm_cons x).1 hp) h1.2 h2.2]
theorem NewOrd.uniq {l : List SnapD} {L M : List Nat} (h : NewOrd l L) (k : NewOrd l M) : L = M := pw_uniq (fun _ _ h => h.asymm) (h.perm.trans k.perm.symm) h.pw k.pw

/-! ### the comparison that the code makes -/
def icmp (a b : Int) : Int := if a < b then -1 else if a > b then 1 else 0
def or3 (x y z : Int) : Int := if x ≠ 0 then x else if y ≠ 0 then y else z
def cmpB (s t : SnapD) (i j : Nat) : Int := or3 (icmp t.time s.time) (lexCmp t.name s.name) (icmp (j : Int) (i : Int))
theorem cmpB_lt (s t : SnapD) (i j : Nat) : decide (cmpB s t i j < 0) = nwB s t i j := by
  unfold cmpB nwB icmp or3 lexCmp
  by_cases h1 : t.time < s.time
  · simp [h1]
  by_cases h2 : s.time < t.time
  · have h3 : ¬ s.time = t.time := by omega
    simp [h1, h2, h3]
  have h3 : s.time = t.time := by omega
  cases h4 : lexLt t.name s.name with
  | true => simp [h3]
  | false =>
    cases h5 : lexLt s.name t.name with
    | true =>
      have h6 : ¬ s.name = t.name := lex_ne h5
      simp [h3, h6]
    | false =>
      have h6 := lex_tri _ _ h5 h4
      by_cases h7 : j < i
      · simp [h3, h6, h7]
      · by_cases h8 : i < j
        · simp [h3, h6, h7, h8]
        · simp [h3, h6, h7, h8]

/-! ### a rule at work -/
def pickP (bk : Nat → Int) : Nat → Option Int → List Nat → List Nat
  | _, _, [] => []
  | n, o, i :: r => if n = 0 ∨ o = some (bk i) then pickP bk n o r else i :: pickP bk (n - 1) (some (bk i)) r
theorem pick_sub (bk : Nat → Int) : ∀ (L : List Nat) (n : Nat) (o : Option Int), (pickP bk n o L).Sublist L
  | [], _, _ => List.Sublist.slnil
  | i :: r, n, o => by
    rw [pickP]
    split
    · exact (pick_sub bk r n o).cons _
    · exact (pick_sub bk r (n - 1) _).cons_cons _
theorem pick_zero (bk : Nat → Int) : ∀ (L : List Nat) (o : Option Int), pickP bk 0 o L = []
  | [], _ => rfl
  | i :: r, o => by rw [pickP, if_pos (.inl rfl), pick_zero bk r o]
theorem pick_more (bk : Nat → Int) : ∀ (L : List Nat) (n m : Nat) (o : Option Int), n ≤ m → ∀ i ∈ pickP bk n o L, i ∈ pickP bk m o L
  | [], _, _, _, _, i, hi => by cases hi
  | j :: r, n, m, o, hnm, i, hi => by
    by_cases h0 : n = 0
    · subst h0; rw [pick_zero] at hi; cases hi
    rw [pickP] at hi ⊢
    by_cases ho : o = some (bk j)
    · rw [if_pos (.inr ho)] at hi ⊢
      exact pick_more bk r n m o hnm i hi
    · rw [if_neg (by rintro (h | h); exact h0 h; exact ho h)] at hi
      rw [if_neg (by rintro (h | h); omega; exact ho h)]
      rcases List.mem_cons.1 hi with rfl | hi
      · exact List.mem_cons_self
      · exact List.mem_cons_of_mem _ (pick_more bk r (n - 1) (m - 1) _ (by omega) i hi)
/-- What is not taken need not be there. -/
theorem pick_filter (bk : Nat → Int) (p : Nat → Bool) : ∀ (L : List Nat) (n : Nat) (o : Option Int), (∀ i ∈ pickP bk n o L, p i = true) → pickP bk n o (L.filter p) = pickP bk n o L
  | [], _, _, _ => rfl
  | j :: r, n, o, h => by
    rw [pickP] at h ⊢
    by_cases hc : n = 0 ∨ o = some (bk j)
    · rw [if_pos hc] at h ⊢
      rw [← pick_filter bk p r n o h, List.filter_cons]
      split
      · rw [pickP, if_pos hc]
      · rfl
    · rw [if_neg hc] at h ⊢
      rw [List.filter_cons, if_pos (h j List.mem_cons_self), pickP, if_neg hc, pick_filter bk p r _ _ fun i hi => h i (List.mem_cons_of_mem _ hi)]
theorem pick_map (bk : Nat → Int) (f : Nat → Nat) : ∀ (L : List Nat) (n : Nat) (o : Option Int), pickP bk n o (L.map f) = (pickP (fun i => bk (f i)) n o L).map f
  | [], _, _ => rfl
  | j :: r, n, o => by
    rw [List.map_cons, pickP, pickP]
    split
    · exact pick_map bk f r n o
    · rw [List.map_cons, pick_map bk f r]
theorem pick_congr {bk bk' : Nat → Int} : ∀ (L : List Nat) (n : Nat) (o : Option Int), (∀ i ∈ L, bk i = bk' i) → pickP bk n o L = pickP bk' n o L
  | [], _, _, _ => rfl
  | j :: r, n, o, h => by
    rw [pickP, pickP, h j List.mem_cons_self]
    split
    · exact pick_congr r n o fun i hi => h i (List.mem_cons_of_mem _ hi)
    · rw [pick_congr r _ _ fun i hi => h i (List.mem_cons_of_mem _ hi)]

end Go.Proofs.Ytdcgapabphjgbaa
