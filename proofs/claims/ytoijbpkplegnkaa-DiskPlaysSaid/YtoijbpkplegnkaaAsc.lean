/- Lists in strict order by a key of bytes, and maps that hold them (conditions: none). -/
import Derived.Test.YtoijbpkplegnkaaLex
import Derived.Test.YtoijbpkplegnkaaMapK
namespace Go.Proofs.Ytoijbpkplegnkaa
open Go Sx
set_option maxRecDepth 8000

section
variable {α : Type} (kid : α → List UInt8)
def insA (S : List α) (r : α) : List α := S.filter (fun s => lexLt (kid s) (kid r)) ++ r :: S.filter (fun s => lexLt (kid r) (kid s))
def delA (S : List α) (id : List UInt8) : List α := S.filter fun s => !decide (kid s = id)
def findA (S : List α) (id : List UInt8) : Option α := S.find? fun r => kid r == id
end

section
variable {α : Type} {kid : α → List UInt8} {S M : List α}

theorem lex_total {l m : List UInt8} (h : l ≠ m) : lexLt l m = true ∨ lexLt m l = true := by
  cases h1 : lexLt l m with
  | true => exact .inl rfl
  | false =>
    cases h2 : lexLt m l with
    | true => exact .inr rfl
    | false => exact absurd (lex_tri _ _ h1 h2) h

theorem mem_insA {x r : α} : x ∈ insA kid S r ↔ x = r ∨ (x ∈ S ∧ kid x ≠ kid r) := by
  unfold insA
  simp only [List.mem_append, List.mem_cons, List.mem_filter]
  constructor
  · rintro (⟨h1, h2⟩ | rfl | ⟨h1, h2⟩)
    · exact .inr ⟨h1, lex_ne h2⟩
    · exact .inl rfl
    · exact .inr ⟨h1, (lex_ne h2).symm⟩
  · rintro (rfl | ⟨h1, h2⟩)
    · exact .inr (.inl rfl)
    · rcases lex_total h2 with h | h
      · exact .inl ⟨h1, h⟩
      · exact .inr (.inr ⟨h1, h⟩)
theorem mem_delA {x : α} {id : List UInt8} : x ∈ delA kid S id ↔ x ∈ S ∧ kid x ≠ id := by simp [delA]
theorem asc_insA (h : AscBy kid S) (r : α) : AscBy kid (insA kid S r) := by
  unfold insA AscBy
  refine List.pairwise_append.2 ⟨h.sublist List.filter_sublist, List.pairwise_cons.2 ⟨fun x hx => (List.mem_filter.1 hx).2, h.sublist List.filter_sublist⟩, fun x hx y hy => ?_⟩
  have h1 := (List.mem_filter.1 hx).2
  rcases List.mem_cons.1 hy with rfl | hy
  · exact h1
  · exact lex_trans _ _ _ h1 (List.mem_filter.1 hy).2
theorem asc_delA (h : AscBy kid S) (id : List UInt8) : AscBy kid (delA kid S id) := h.sublist List.filter_sublist
theorem asc_ne (h : AscBy kid S) : S.Pairwise fun x y => kid x ≠ kid y := h.imp fun h => lex_ne h

theorem findA_mem {id : List UInt8} {r : α} (h : findA kid S id = some r) : r ∈ S ∧ kid r = id := ⟨List.mem_of_find?_eq_some h, by simpa using List.find?_some h⟩
theorem findA_none {id : List UInt8} (h : findA kid S id = none) : ∀ r ∈ S, kid r ≠ id := by
  intro r hr
  rw [findA, List.find?_eq_none] at h
  simpa using h r hr
theorem findA_iff (h : AscBy kid S) {r : α} : findA kid S (kid r) = some r ↔ r ∈ S := by
  constructor
  · exact fun hf => (findA_mem hf).1
  · intro hr
    cases hq : findA kid S (kid r) with
    | none => exact absurd rfl (findA_none hq r hr)
    | some z =>
      obtain ⟨h1, h2⟩ := findA_mem hq
      rw [asc_nodup h h1 hr h2]
theorem findA_ext {T : List α} (hS : AscBy kid S) (hT : AscBy kid T) (h : ∀ id, findA kid S id = findA kid T id) : S = T := asc_uniq hS hT fun r => by rw [← findA_iff hS, ← findA_iff hT, h]
theorem findA_insA (h : AscBy kid S) (r : α) (id : List UInt8) : findA kid (insA kid S r) id = if kid r = id then some r else findA kid S id := by
  by_cases e : kid r = id
  · rw [if_pos e, ← e]
    exact (findA_iff (asc_insA h r)).2 (mem_insA.2 (.inl rfl))
  · rw [if_neg e]
    cases hq : findA kid S id with
    | some z =>
      obtain ⟨h1, h2⟩ := findA_mem hq
      rw [← h2]
      exact (findA_iff (asc_insA h r)).2 (mem_insA.2 (.inr ⟨h1, fun e2 => e (e2.symm.trans h2)⟩))
    | none =>
      cases hz : findA kid (insA kid S r) id with
      | none => rfl
      | some z =>
        obtain ⟨h1, h2⟩ := findA_mem hz
        rcases mem_insA.1 h1 with rfl | ⟨h3, _⟩
        · exact absurd h2 e
        · exact absurd h2 (findA_none hq z h3)
theorem findA_delA (id id2 : List UInt8) : findA kid (delA kid S id) id2 = if id = id2 then none else findA kid S id2 := by
  unfold findA delA
  rw [List.find?_filter]
  by_cases e : id = id2
  · rw [if_pos e, List.find?_eq_none]
    intro x _
    subst e
    by_cases h : kid x = id <;> simp [h]
  · rw [if_neg e]
    congr 1
    funext x
    by_cases h : kid x = id2
    · have : ¬ kid x = id := fun e2 => e (e2.symm.trans h)
      have e' : ¬ id2 = id := fun e2 => e e2.symm
      simp [h, e']
    · simp [h]
theorem delA_none {id : List UInt8} (h : findA kid S id = none) : delA kid S id = S := by
  refine List.filter_eq_self.2 fun x hx => ?_
  have := findA_none h x hx
  simpa using this
theorem insA_len (S : List α) (r : α) : (insA kid S r).length ≤ S.length + 1 := by
  have key : ∀ T : List α, (T.filter fun s => lexLt (kid s) (kid r)).length + (T.filter fun s => lexLt (kid r) (kid s)).length ≤ T.length := by
    intro T
    induction T with
    | nil => simp
    | cons x T ih =>
      cases h1 : lexLt (kid x) (kid r) with
      | true =>
        have h2 := lex_asymm h1
        simp [List.filter_cons, h1, h2]; omega
      | false => cases h2 : lexLt (kid r) (kid x) <;> simp [List.filter_cons, h1, h2] <;> omega
  have := key S
  simp only [insA, List.length_append, List.length_cons]
  omega
theorem insA_len_in {S : List α} (hS : AscBy kid S) {r : α} (h : findA kid S (kid r) ≠ none) : (insA kid S r).length ≤ S.length := by
  obtain ⟨y, hy⟩ : ∃ y, findA kid S (kid r) = some y := by
    cases hq : findA kid S (kid r) with
    | none => exact absurd hq h
    | some y => exact ⟨y, rfl⟩
  obtain ⟨h1, h2⟩ := findA_mem hy
  obtain ⟨A, B, rfl⟩ := List.append_of_mem h1
  have hp := List.pairwise_append.1 hS
  have hA : A.filter (fun s => lexLt (kid r) (kid s)) = [] := List.filter_eq_nil_iff.2 fun x hx => by
    have := hp.2.2 x hx y (by simp)
    rw [h2] at this
    rw [lex_asymm this]; simp
  have hB : B.filter (fun s => lexLt (kid s) (kid r)) = [] := List.filter_eq_nil_iff.2 fun x hx => by
    have := (List.pairwise_cons.1 hp.2.1).1 x hx
    rw [h2] at this
    rw [lex_asymm this]; simp
  have l1 := List.length_filter_le (fun s => lexLt (kid s) (kid r)) A
  have l2 := List.length_filter_le (fun s => lexLt (kid r) (kid s)) B
  simp only [insA, List.filter_append, List.filter_cons, hA, hB, h2, lex_irrefl, List.length_append, List.length_cons, List.nil_append, List.append_nil, Bool.false_eq_true, if_false]
  omega
theorem delA_len (S : List α) (id : List UInt8) : (delA kid S id).length ≤ S.length := List.length_filter_le _ _
theorem delA_len_in {S : List α} {id : List UInt8} {y : α} (h : findA kid S id = some y) : (delA kid S id).length + 1 ≤ S.length := by
  obtain ⟨h1, h2⟩ := findA_mem h
  obtain ⟨A, B, rfl⟩ := List.append_of_mem h1
  have l1 := List.length_filter_le (fun s => !decide (kid s = id)) A
  have l2 := List.length_filter_le (fun s => !decide (kid s = id)) B
  simp only [delA, List.filter_append, List.filter_cons, h2, List.length_append, List.length_cons, decide_true, Bool.not_true, Bool.false_eq_true, if_false]
  omega

/-- What a map holds, in order. -/
structure MapIsA (kid : α → List UInt8) (M S : List α) : Prop where
  perm : M.Perm S
  asc : AscBy kid S
theorem MapIsA.nil : MapIsA kid [] [] := ⟨List.Perm.refl _, List.Pairwise.nil⟩

theorem ascA_perm {T : List α} (hS : AscBy kid S) (hT : AscBy kid T) (h : ∀ x, x ∈ S ↔ x ∈ T) : S = T := asc_uniq hS hT h

theorem fnd_find (hp : M.Perm S) (hS : AscBy kid S) (id : List UInt8) : (fndM kid M id).map (·.2) = findA kid S id := by
  cases hf : fndM kid M id with
  | none =>
    have hn := fnd_none hf
    symm
    rw [Option.map_none, findA, List.find?_eq_none]
    intro r hr
    have := hn r (hp.mem_iff.2 hr)
    simpa using this
  | some p =>
    obtain ⟨j, y⟩ := p
    obtain ⟨hj, hy⟩ := fnd_some hf
    have hyS : y ∈ S := hp.mem_iff.1 (List.mem_of_getElem? hj)
    rw [Option.map_some, ← hy]
    exact ((findA_iff hS).2 hyS).symm
theorem MapIsA.find (h : MapIsA kid M S) (id : List UInt8) : (fndM kid M id).map (·.2) = findA kid S id := fnd_find h.perm h.asc id

theorem split_at {M : List α} {j : Nat} {y : α} (hj : M[j]? = some y) : M = M.take j ++ y :: M.drop (j + 1) ∧ (∀ r, M.set j r = M.take j ++ r :: M.drop (j + 1)) ∧ M.eraseIdx j = M.take j ++ M.drop (j + 1) := by
  obtain ⟨hl, e⟩ := List.getElem?_eq_some_iff.1 hj
  refine ⟨?_, fun r => ?_, List.eraseIdx_eq_take_drop_succ ..⟩
  · rw [← e, ← List.drop_eq_getElem_cons hl, List.take_append_drop]
  · rw [List.set_eq_take_append_cons_drop, if_pos hl]

theorem MapIsA.nd (h : MapIsA kid M S) : M.Pairwise fun x y => kid x ≠ kid y := (asc_ne h.asc).perm h.perm.symm fun h => h.symm

theorem nodup_of_ne {M : List α} (h : M.Pairwise fun x y => kid x ≠ kid y) : M.Nodup := h.imp fun h e => h (by rw [e])

theorem MapIsA.upd (h : MapIsA kid M S) (r : α) : MapIsA kid (updM kid M r) (insA kid S r) := by
  refine ⟨?_, asc_insA h.asc r⟩
  have hnd : (updM kid M r).Pairwise fun x y => kid x ≠ kid y := by
    unfold updM
    cases hf : fndM kid M (kid r) with
    | none =>
      have hn := fnd_none hf
      exact List.pairwise_append.2 ⟨h.nd, by simp, fun x hx y hy => by simp at hy; rw [hy]; exact hn x hx⟩
    | some p =>
      obtain ⟨j, y⟩ := p
      obtain ⟨hj, hy⟩ := fnd_some hf
      obtain ⟨h1, h2, _⟩ := split_at hj
      have hM := h.nd
      rw [h1] at hM
      show (M.set j r).Pairwise _
      rw [h2]
      have hp := List.pairwise_append.1 hM
      have hc := List.pairwise_cons.1 hp.2.1
      refine List.pairwise_append.2 ⟨hp.1, List.pairwise_cons.2 ⟨fun x hx => by rw [← hy]; exact hc.1 x hx, hc.2⟩, fun x hx z hz => ?_⟩
      rcases List.mem_cons.1 hz with rfl | hz
      · rw [← hy]; exact hp.2.2 x hx y (by simp)
      · exact hp.2.2 x hx z (by simp [hz])
  refine (List.perm_ext_iff_of_nodup (nodup_of_ne hnd) (nodup_of_ne (asc_ne (asc_insA h.asc r)))).2 fun x => ?_
  rw [mem_insA, ← h.perm.mem_iff]
  unfold updM
  cases hf : fndM kid M (kid r) with
  | none =>
    have hn := fnd_none hf
    show x ∈ M ++ [r] ↔ _
    rw [List.mem_append, List.mem_singleton]
    constructor
    · rintro (h1 | rfl)
      · exact .inr ⟨h1, hn x h1⟩
      · exact .inl rfl
    · rintro (rfl | ⟨h1, _⟩)
      · exact .inr rfl
      · exact .inl h1
  | some p =>
    obtain ⟨j, y⟩ := p
    obtain ⟨hj, hy⟩ := fnd_some hf
    obtain ⟨h1, h2, _⟩ := split_at hj
    show x ∈ M.set j r ↔ _
    rw [h2]
    have hM := h.nd
    rw [h1] at hM
    have hp := List.pairwise_append.1 hM
    have hc := List.pairwise_cons.1 hp.2.1
    constructor
    · intro hx
      rcases List.mem_append.1 hx with hx | hx
      · refine .inr ⟨by rw [h1]; simp [hx], ?_⟩
        rw [← hy]; exact hp.2.2 x hx y (by simp)
      · rcases List.mem_cons.1 hx with rfl | hx
        · exact .inl rfl
        · refine .inr ⟨by rw [h1]; simp [hx], ?_⟩
          rw [← hy]; exact (hc.1 x hx).symm
    · rintro (rfl | ⟨hx, hne⟩)
      · simp
      · rw [h1] at hx
        rcases List.mem_append.1 hx with hx | hx
        · simp [hx]
        · rcases List.mem_cons.1 hx with rfl | hx
          · exact absurd hy hne
          · simp [hx]

theorem MapIsA.del (h : MapIsA kid M S) {id : List UInt8} {j : Nat} {y : α} (hf : fndM kid M id = some (j, y)) : MapIsA kid (M.eraseIdx j) (delA kid S id) := by
  obtain ⟨hj, hy⟩ := fnd_some hf
  obtain ⟨h1, _, h3⟩ := split_at hj
  refine ⟨?_, asc_delA h.asc id⟩
  have hM := h.nd
  refine (List.perm_ext_iff_of_nodup (nodup_of_ne (hM.sublist (List.eraseIdx_sublist _ _))) (nodup_of_ne (asc_ne (asc_delA h.asc id)))).2 fun x => ?_
  rw [mem_delA, ← h.perm.mem_iff, h3]
  rw [h1] at hM
  have hp := List.pairwise_append.1 hM
  have hc := List.pairwise_cons.1 hp.2.1
  constructor
  · intro hx
    rcases List.mem_append.1 hx with hx | hx
    · refine ⟨by rw [h1]; simp [hx], ?_⟩
      rw [← hy]; exact hp.2.2 x hx y (by simp)
    · refine ⟨by rw [h1]; simp [hx], ?_⟩
      rw [← hy]; exact (hc.1 x hx).symm
  · rintro ⟨hx, hne⟩
    rw [h1] at hx
    rcases List.mem_append.1 hx with hx | hx
    · simp [hx]
    · rcases List.mem_cons.1 hx with rfl | hx
      · exact absurd hy hne
      · simp [hx]
theorem MapIsA.del_none (h : MapIsA kid M S) {id : List UInt8} (hf : fndM kid M id = none) : MapIsA kid M (delA kid S id) := by
  rw [delA_none]
  · exact h
  · have := h.find id
    rw [hf] at this
    exact this.symm

theorem MapE.congr {key val val' : α → Value} {es : Array MapEntry} {ck : Nat} (h : MapE key val es ck M) (hv : ∀ r ∈ M, val r = val' r) : MapE key val' es ck M := by
  refine ⟨?_, h.born, h.old⟩
  rw [h.ents]
  exact List.map_congr_left fun r hr => by rw [hv r hr]
end

end Go.Proofs.Ytoijbpkplegnkaa
