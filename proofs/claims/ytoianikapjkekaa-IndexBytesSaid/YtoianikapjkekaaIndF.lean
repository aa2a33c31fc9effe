/- Segments in plain words (conditions: none). -/
import Derived.Test.YtoianikapjkekaaIndA
import Derived.Test.YtoianikapjkekaaMapA
namespace Go.Proofs.Ytoianikapjkekaa
open Go Sx
set_option maxRecDepth 8000

abbrev Refs := List RefD
def goodF (r : RefD) : Bool := decide (0 ≤ r.pack) && decide (r.pack ≤ 1099511627776) && decide (0 ≤ r.at_) && decide (0 ≤ r.len)
def withG : Refs → RefD → Bool → Refs
  | [], r, done => if done then [] else [r]
  | s :: seg, r, done => (if !done && !lexLt s.id r.id then [r] else []) ++ (if s.id = r.id then [] else [s]) ++ withG seg r (done || !lexLt s.id r.id)
def withF (seg : Refs) (r : RefD) : Refs := withG seg r false
def addF (seg refs : Refs) : Refs := refs.foldl withF seg
abbrev Asc (S : Refs) : Prop := AscBy RefD.id S

theorem withG_done : ∀ (S : Refs) (r : RefD), (∀ x ∈ S, x.id ≠ r.id) → withG S r true = S
  | [], _, _ => rfl
  | s :: S, r, h => by
    rw [withG, Bool.true_or, withG_done S r fun x hx => h x (by simp [hx])]
    simp [h s (by simp)]

theorem with_asc : ∀ {S : Refs}, Asc S → ∀ r : RefD, ∃ A B, withF S r = A ++ r :: B ∧ (S = A ++ B ∨ ∃ y, y.id = r.id ∧ S = A ++ y :: B) ∧ (∀ x ∈ A, lexLt x.id r.id = true) ∧ (∀ x ∈ B, lexLt r.id x.id = true)
  | [], _, r => ⟨[], [], rfl, .inl rfl, by simp, by simp⟩
  | s :: S, h, r => by
    have a := List.pairwise_cons.1 h
    unfold withF
    rw [withG]
    cases hlt : lexLt s.id r.id with
    | true =>
      obtain ⟨A, B, h1, h2, h3, h4⟩ := with_asc a.2 r
      unfold withF at h1
      have hne : s.id ≠ r.id := lex_ne hlt
      refine ⟨s :: A, B, by simp [hne, h1], ?_, ?_, h4⟩
      · rcases h2 with h2 | ⟨y, hy, h2⟩
        · left; rw [h2]; rfl
        · right; exact ⟨y, hy, by rw [h2]; rfl⟩
      · intro x hx
        rcases List.mem_cons.1 hx with rfl | hx
        · exact hlt
        · exact h3 x hx
    | false =>
      by_cases he : s.id = r.id
      · have hS : ∀ x ∈ S, lexLt r.id x.id = true := fun x hx => by rw [← he]; exact a.1 x hx
        refine ⟨[], S, ?_, .inr ⟨s, he, rfl⟩, by simp, hS⟩
        simp only [Bool.not_false, Bool.true_and, Bool.false_or, if_true, he]
        rw [withG_done S r fun x hx => (lex_ne (hS x hx)).symm]
        simp
      · have hrs : lexLt r.id s.id = true := by
          cases h2 : lexLt r.id s.id with
          | true => rfl
          | false => exact absurd (lex_tri _ _ hlt h2) he
        have hS : ∀ x ∈ S, lexLt r.id x.id = true := fun x hx => lex_trans _ _ _ hrs (a.1 x hx)
        refine ⟨[], s :: S, ?_, .inl rfl, by simp, ?_⟩
        · simp only [Bool.not_false, Bool.true_and, Bool.false_or, if_true, if_neg he]
          rw [withG_done S r fun x hx => (lex_ne (hS x hx)).symm]
          simp
        · intro x hx
          rcases List.mem_cons.1 hx with rfl | hx
          · exact hrs
          · exact hS x hx

theorem asc_parts {A B : Refs} {r : RefD} (hA : Asc A) (hB : Asc B) (h1 : ∀ x ∈ A, lexLt x.id r.id = true) (h2 : ∀ x ∈ B, lexLt r.id x.id = true) : Asc (A ++ r :: B) := by
  refine List.pairwise_append.2 ⟨hA, List.pairwise_cons.2 ⟨h2, hB⟩, fun x hx y hy => ?_⟩
  rcases List.mem_cons.1 hy with rfl | hy
  · exact h1 x hx
  · exact lex_trans _ _ _ (h1 x hx) (h2 y hy)

theorem asc_with {S : Refs} (h : Asc S) (r : RefD) : Asc (withF S r) := by
  obtain ⟨A, B, h1, h2, h3, h4⟩ := with_asc h r
  rw [h1]
  rcases h2 with h2 | ⟨y, hy, h2⟩
  · rw [h2] at h
    have := List.pairwise_append.1 h
    exact asc_parts this.1 this.2.1 h3 h4
  · rw [h2] at h
    have := List.pairwise_append.1 h
    exact asc_parts this.1 (List.pairwise_cons.1 this.2.1).2 h3 h4

theorem asc_add : ∀ {refs S : Refs}, Asc S → Asc (addF S refs)
  | [], _, h => h
  | r :: refs, S, h => by rw [addF, List.foldl_cons]; exact asc_add (refs := refs) (asc_with h r)

/-- What a map of refs holds, in order. -/
structure MapIs (M S : Refs) : Prop where
  perm : M.Perm S
  asc : Asc S

theorem MapIs.nil : MapIs [] [] := ⟨List.Perm.refl _, List.Pairwise.nil⟩

theorem MapIs.upd {M S : Refs} (h : MapIs M S) (r : RefD) : MapIs (updM RefD.id M r) (withF S r) := by
  refine ⟨?_, asc_with h.asc r⟩
  obtain ⟨A, B, h1, h2, h3, h4⟩ := with_asc h.asc r
  rw [h1]
  unfold updM
  cases hf : fndM RefD.id M r.id with
  | none =>
    have hn := fnd_none hf
    rcases h2 with h2 | ⟨y, hy, h2⟩
    · have hp := h.perm
      rw [h2] at hp
      exact (List.perm_append_singleton r M).trans ((hp.cons r).trans List.perm_middle.symm)
    · have : y ∈ M := h.perm.mem_iff.2 (by rw [h2]; simp)
      exact absurd hy (hn y this)
  | some p =>
    obtain ⟨j, y⟩ := p
    obtain ⟨hj, hy⟩ := fnd_some hf
    have hyS : y ∈ S := h.perm.mem_iff.1 (List.mem_of_getElem? hj)
    have hjl := (List.getElem?_eq_some_iff.1 hj).1
    have hM : M = M.take j ++ y :: M.drop (j + 1) := by
      have e : M[j] = y := (List.getElem?_eq_some_iff.1 hj).2
      rw [← e, ← List.drop_eq_getElem_cons hjl, List.take_append_drop]
    have hset : M.set j r = M.take j ++ r :: M.drop (j + 1) := List.set_eq_take_append_cons_drop .. |>.trans (by rw [if_pos hjl])
    have key : S = A ++ y :: B := by
      rcases h2 with h2 | ⟨y', hy', h2⟩
      · exfalso
        rw [h2] at hyS
        rcases List.mem_append.1 hyS with hq | hq
        · exact lex_ne (h3 y hq) hy
        · exact lex_ne (h4 y hq) hy.symm
      · have : y = y' := asc_nodup h.asc hyS (by rw [h2]; simp) (hy.trans hy'.symm)
        rw [this]; exact h2
    have hp := h.perm
    rw [hM, key] at hp
    have h5 : (M.take j ++ M.drop (j + 1)).Perm (A ++ B) := (List.perm_middle.symm.trans (hp.trans List.perm_middle)).cons_inv
    show (M.set j r).Perm (A ++ r :: B)
    rw [hset]
    exact List.perm_middle.trans ((h5.cons r).trans List.perm_middle.symm)

theorem MapIs.sorted {M S l : Refs} (h : MapIs M S) (hp : l.Perm M) (hs : l.Pairwise fun x y => lexLt y.id x.id = false) : l = S := by
  have hpS := hp.trans h.perm
  have hnS : S.Pairwise fun x y => x.id ≠ y.id := h.asc.imp fun h => lex_ne h
  have hnl : l.Pairwise fun x y => x.id ≠ y.id := hnS.perm hpS.symm fun h => h.symm
  have ha : Asc l := by
    have := List.pairwise_and_iff.2 ⟨hs, hnl⟩
    refine this.imp ?_
    rintro x y ⟨h1, h2⟩
    cases h3 : lexLt x.id y.id with
    | true => rfl
    | false => exact absurd (lex_tri _ _ h3 h1) h2
  exact asc_uniq ha h.asc fun x => hpS.mem_iff

def findF (S : Refs) (id : List UInt8) : Option RefD := S.find? fun r => r.id == id
theorem MapIs.find {M S : Refs} (h : MapIs M S) (id : List UInt8) : (fndM RefD.id M id).map (·.2) = findF S id := by
  cases hf : fndM RefD.id M id with
  | none =>
    have hn := fnd_none hf
    symm
    rw [Option.map_none, findF, List.find?_eq_none]
    intro r hr
    have := hn r (h.perm.mem_iff.2 hr)
    simpa using this
  | some p =>
    obtain ⟨j, y⟩ := p
    obtain ⟨hj, hy⟩ := fnd_some hf
    have hyS : y ∈ S := h.perm.mem_iff.1 (List.mem_of_getElem? hj)
    rw [Option.map_some]
    cases hq : findF S id with
    | none =>
      rw [findF, List.find?_eq_none] at hq
      exact absurd (by simpa using hy) (hq y hyS)
    | some z =>
      have h1 := List.find?_some hq
      have h2 := List.mem_of_find?_eq_some hq
      simp only [beq_iff_eq] at h1
      rw [asc_nodup h.asc hyS h2 (hy.trans h1.symm)]

/-- The entries that a range over a map has not handed out, as things. -/
theorem left_step {es : Array MapEntry} {seen : Array Nat} {e : MapEntry} (hn : (es.toList.map (·.born)).Nodup) (he : e ∈ (leftOf es seen).toList) : (leftOf es seen).toList.Perm (e :: (leftOf es (seen.push e.born)).toList) := by
  have key : ∀ (L : List MapEntry), (L.map (·.born)).Nodup → e ∈ L → L.Perm (e :: L.filter fun x => x.born ≠ e.born) := by
    intro L
    induction L with
    | nil => intro _ h; simp at h
    | cons x L ih =>
      intro hn hm
      rw [List.map_cons, List.nodup_cons] at hn
      rcases List.mem_cons.1 hm with rfl | hm
      · have hL : L.filter (fun x => decide (x.born ≠ e.born)) = L := List.filter_eq_self.2 fun y hy => by
          simp only [ne_eq, decide_eq_true_eq]
          exact fun h => hn.1 (List.mem_map.2 ⟨y, hy, h⟩)
        rw [List.filter_cons, if_neg (by simp), hL]
      · have hx : x.born ≠ e.born := fun h => hn.1 (List.mem_map.2 ⟨e, hm, h.symm⟩)
        rw [List.filter_cons, if_pos (by simpa using hx)]
        exact ((ih hn.2 hm).cons x).trans (List.Perm.swap _ _ _)
  have hsub : ((leftOf es seen).toList.map (·.born)).Nodup := by
    rw [leftOf, Array.toList_filter]
    exact hn.sublist ((List.filter_sublist).map _)
  have := key _ hsub he
  refine this.trans (List.Perm.of_eq ?_)
  congr 1
  rw [leftOf, leftOf, Array.toList_filter, Array.toList_filter, List.filter_filter]
  apply List.filter_congr
  intro x _
  simp only [Array.contains_push, ne_eq]
  by_cases h2 : x.born = e.born <;> cases h1 : seen.contains x.born <;> simp [h1, h2]

end Go.Proofs.Ytoianikapjkekaa
