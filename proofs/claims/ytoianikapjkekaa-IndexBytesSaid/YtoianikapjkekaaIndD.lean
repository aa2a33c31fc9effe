/- An Index in memory: All, Find, Len (conditions: those that each theorem names). -/
import Derived.Test.YtoianikapjkekaaIndB
import Derived.Test.YtoianikapjkekaaIndC
namespace Go.Proofs.Ytoianikapjkekaa
open Go Sx
set_option maxRecDepth 8000

theorem filt_step {β : Type} (bn : β → Nat) {L : List β} (hn : (L.map bn).Nodup) (seen : Array Nat) {p : β} (hp : p ∈ L.filter fun x => !seen.contains (bn x)) :
    (L.filter fun x => !seen.contains (bn x)).Perm (p :: L.filter fun x => !(seen.push (bn p)).contains (bn x)) := by
  have key : ∀ (L : List β), (L.map bn).Nodup → p ∈ L → L.Perm (p :: L.filter fun x => bn x ≠ bn p) := by
    intro L
    induction L with
    | nil => intro _ h; simp at h
    | cons x L ih =>
      intro hn hm
      rw [List.map_cons, List.nodup_cons] at hn
      rcases List.mem_cons.1 hm with rfl | hm
      · have hL : L.filter (fun x => decide (bn x ≠ bn p)) = L := List.filter_eq_self.2 fun y hy => by
          simp only [ne_eq, decide_eq_true_eq]
          exact fun h => hn.1 (List.mem_map.2 ⟨y, hy, h⟩)
        rw [List.filter_cons, if_neg (by simp), hL]
      · have hx : bn x ≠ bn p := fun h => hn.1 (List.mem_map.2 ⟨p, hm, h.symm⟩)
        rw [List.filter_cons, if_pos (by simpa using hx)]
        exact ((ih hn.2 hm).cons x).trans (List.Perm.swap _ _ _)
  have hsub : ((L.filter fun x => !seen.contains (bn x)).map bn).Nodup := hn.sublist ((List.filter_sublist).map _)
  refine (key _ hsub hp).trans (List.Perm.of_eq ?_)
  congr 1
  rw [List.filter_filter]
  apply List.filter_congr
  intro x _
  simp only [Array.contains_push, ne_eq]
  by_cases h2 : bn x = bn p <;> cases h1 : seen.contains (bn x) <;> simp [h1, h2]

/-- Entries with what they are. -/
def zipE (es : Array MapEntry) (M : Refs) : List (MapEntry × RefD) := es.toList.zip M
def leftZ (es : Array MapEntry) (M : Refs) (seen : Array Nat) : List (MapEntry × RefD) := (zipE es M).filter fun p => !seen.contains p.1.born

section
variable {es : Array MapEntry} {clock : Nat} {M : Refs}
theorem zip_fst (hE : MapE kyV vlV es clock M) : (zipE es M).map (·.1) = es.toList := by
  rw [zipE, List.map_fst_zip]
  have := hE.len; simp; omega
theorem zip_snd (hE : MapE kyV vlV es clock M) : (zipE es M).map (·.2) = M := by
  rw [zipE, List.map_snd_zip]
  have := hE.len; simp; omega
theorem zip_born (hE : MapE kyV vlV es clock M) : ((zipE es M).map fun p => p.1.born).Nodup := by
  have := hE.born
  rw [← zip_fst hE, List.map_map] at this
  exact this
theorem zip_mem (hE : MapE kyV vlV es clock M) {p : MapEntry × RefD} (hp : p ∈ zipE es M) : p.1 ∈ es.toList ∧ p.1.key = kyV p.2 ∧ p.1.val = vlV p.2 := by
  obtain ⟨i, hi⟩ := List.getElem?_of_mem hp
  rw [zipE, List.getElem?_zip_eq_some] at hi
  obtain ⟨r, h1, h2, h3⟩ := hE.at_ hi.1
  rw [hi.2, Option.some.injEq] at h1
  subst h1
  exact ⟨List.mem_of_getElem? hi.1, h2, h3⟩
theorem left_fst (hE : MapE kyV vlV es clock M) (seen : Array Nat) : (leftZ es M seen).map (·.1) = (leftOf es seen).toList := by
  rw [leftOf, Array.toList_filter, ← zip_fst hE, List.filter_map, leftZ]
  rfl
theorem left_mem (hE : MapE kyV vlV es clock M) {seen : Array Nat} {e : MapEntry} (he : e ∈ (leftOf es seen).toList) : ∃ r, (e, r) ∈ leftZ es M seen := by
  rw [← left_fst hE, List.mem_map] at he
  obtain ⟨p, hp, rfl⟩ := he
  exact ⟨p.2, hp⟩
end

section
variable {w0 w : World} {X : List Nat} {N : List Res}

theorem rfT : ElemT Try.prog 24 52 35 56 (.agg (refC ref0).toArray) := ⟨by kernel_rfl, ⟨Try.t52, by kernel_rfl, by kernel_rfl, by kernel_rfl, by kernel_rfl⟩, rfl, by decide⟩

set_option maxHeartbeats 1000000 in
theorem iAll_spec (gi gm : Nat) (S : Refs) (h : IdxIn w0 X w gi gm S N) (hb : S.length ≤ 1000000) :
    Calls Try.prog 23 #[.pointer (some ⟨gi, 0, none⟩)] w fun e w' => ∃ a n c, e = .returned (.slice a n c) ∧ IdxIn w0 X w' gi gm S (.row 52 35 (.slice a n c) n (S.flatMap refC) :: N) := by
  obtain ⟨es, clock, M, hE, hM, hS⟩ := h
  have hml : M.length ≤ 1000000 := by have := hM.perm.length_eq; omega
  apply index_Index_All_vc
  have hg : w.heap[gm]? = some (.map es clock) := hS.holds 1 _ rfl
  have hit : St w0 X (w.alloc (.mapIter (some gm) clock #[] clock)) ((.arr gi 77 [.map (some gm)] :: .blk gm (.map es clock) :: N) ++ [.blk w.heap.size (.mapIter (some gm) clock #[] clock)]) := hS.add (Chg.alloc _ _) (heap_alloc_new w _) (by simp [Res.fp])
  have h1 : St w0 X (w.alloc (.mapIter (some gm) clock #[] clock)) (.arr gi 77 [.map (some gm)] :: .blk gm (.map es clock) :: .blk w.heap.size (.mapIter (some gm) clock #[] clock) :: .row 52 35 (.slice none 0 0) 0 (([] : Refs).flatMap refC) :: N) := by
    have := (hit.addNil 52 35).perm (N := .arr gi 77 [.map (some gm)] :: .blk gm (.map es clock) :: ([.blk w.heap.size (.mapIter (some gm) clock #[] clock), .row 52 35 (.slice none 0 0) 0 []] ++ N)) (by
      rw [List.append_assoc]
      exact List.Perm.cons _ (List.Perm.cons _ List.perm_append_comm))
    exact this
  obtain ⟨gr, hgr⟩ : ∃ gr, w.heap.size = gr := ⟨_, rfl⟩
  rw [hgr] at h1
  refine ⟨_, hS.ldL (i := 0) (l := [.map (some gm)]) rfl (mpA _) rfl rfl, _, _, run_range_map w 75 40 52 gm es clock mapT hg,
    fun xa xn xc w' => ∃ (seen : Array Nat) (out : Refs), xn = out.length ∧ (out ++ (leftZ es M seen).map (·.2)).Perm M ∧ St w0 X w' (.arr gi 77 [.map (some gm)] :: .blk gm (.map es clock) :: .blk gr (.mapIter (some gm) clock seen clock) :: .row 52 35 (.slice xa xn xc) xn (out.flatMap refC) :: N),
    fun _ xn _ _ => M.length - xn, ⟨#[], [], rfl, ?_, h1⟩, ?_⟩
  · have : leftZ es M #[] = zipE es M := List.filter_eq_self.2 fun p _ => by simp
    rw [this, zip_snd hE, List.nil_append]
  rintro xa xn xc w2 ⟨seen, out, rfl, hperm, h2⟩
  rw [hgr]
  have hr2 : w2.heap[gr]? = some (.mapIter (some gm) clock seen clock) := h2.holds 2 _ rfl
  have hg2 : w2.heap[gm]? = some (.map es clock) := h2.holds 1 _ rfl
  rcases run_next_at (P := Try.prog) w2 0 gr gm clock clock seen es clock hr2 hg2 hE.old (Nat.le_refl _) with ⟨hz, hrun⟩ | ⟨e, he, w3, hw3, hrun⟩
  · refine ⟨false, [], w2, hrun, fun h => (by cases h), fun _ => ?_⟩
    have hl0 : leftZ es M seen = [] := by
      have := left_fst hE seen
      have h0 : (leftOf es seen).toList = [] := List.eq_nil_of_length_eq_zero (by simpa using hz)
      rw [h0] at this
      exact List.map_eq_nil_iff.1 this
    rw [hl0, List.map_nil, List.append_nil] at hperm
    have hol : out.length ≤ 1000000 := by have := hperm.length_eq; omega
    refine (sort_spec h2 (i := 3) (l := out) rfl (by omega)).mono ?_
    rintro e w4 ⟨rfl, l', hp', hs', h4⟩
    have hlS := hM.sorted (hp'.trans hperm) hs'
    subst hlS
    refine ⟨rfl, xa, _, xc, rfl, es, clock, M, hE, hM, h4.sub ?_⟩
    exact List.Sublist.cons_cons _ (List.Sublist.cons_cons _ (List.Sublist.cons _ (List.Sublist.refl _)))
  · refine ⟨true, [e.key, e.val], _, hrun, fun _ => ?_, fun h => (by cases h)⟩
    obtain ⟨r, hr⟩ := left_mem hE he
    have hmem := (List.mem_filter.1 hr).1
    obtain ⟨he1, hk, hv⟩ := zip_mem hE hmem
    have h3 : St w0 X w3 (.arr gi 77 [.map (some gm)] :: .blk gm (.map es clock) :: .blk gr (.mapIter (some gm) clock seen clock) :: .row 52 35 (.slice xa out.length xc) out.length (out.flatMap refC) :: N) := by
      rcases hw3 with rfl | rfl
      · exact h2
      · exact h2.drew
    have h3' := St.putMap h3 (i := 2) (o' := .mapIter (some gm) clock (seen.push e.born) clock) rfl
    have h3' : St w0 X (w3.putObj gr (.mapIter (some gm) clock (seen.push e.born) clock)) (.arr gi 77 [.map (some gm)] :: .blk gm (.map es clock) :: .blk gr (.mapIter (some gm) clock (seen.push e.born) clock) :: .row 52 35 (.slice xa out.length xc) out.length (out.flatMap refC) :: N) := h3'
    have hent := run_entry_at (P := Try.prog) _ gr gm clock seen es clock e (h3'.holds 2 _ rfl) (h3'.holds 1 _ rfl) he1 hE.born
    have hv' : e.val = .agg (refC r).toArray := hv
    rw [hv'] at hent
    have hstep := filt_step (fun p : MapEntry × RefD => p.1.born) (zip_born hE) seen hr
    have hp2 : (out ++ [r] ++ (leftZ es M (seen.push e.born)).map (·.2)).Perm M := by
      refine List.Perm.trans ?_ hperm
      rw [List.append_assoc]
      exact (List.Perm.append_left out (hstep.map fun p : MapEntry × RefD => p.2).symm)
    have hlt : out.length < M.length := by have := hp2.length_eq; simp at this; omega
    obtain ⟨g5, w5, r5, h5⟩ := h3'.zeroA rfZ
    have e5 : ∀ v, (.arr gi 77 [.map (some gm)] :: .blk gm (.map es clock) :: .blk gr (.mapIter (some gm) clock (seen.push e.born) clock) :: .row 52 35 (.slice xa out.length xc) out.length (out.flatMap refC) :: N ++ [Res.arr g5 52 v] : List Res)[N.length + 4]? = some (.arr g5 52 v) := by
      intro v
      rw [List.getElem?_append_right (by simp)]; simp
    obtain ⟨w6, r6, h6⟩ := h5.stA (i := N.length + 4) (v := refC r) (e5 _) (rfS _) (refC_len _) (refC_len _) (refC_one r)
    have hset : (.arr gi 77 [.map (some gm)] :: .blk gm (.map es clock) :: .blk gr (.mapIter (some gm) clock (seen.push e.born) clock) :: .row 52 35 (.slice xa out.length xc) out.length (out.flatMap refC) :: N ++ [Res.arr g5 52 (refC ref0)] : List Res).set (N.length + 4) (.arr g5 52 (refC r)) = .arr gi 77 [.map (some gm)] :: .blk gm (.map es clock) :: .blk gr (.mapIter (some gm) clock (seen.push e.born) clock) :: .row 52 35 (.slice xa out.length xc) out.length (out.flatMap refC) :: N ++ [Res.arr g5 52 (refC r)] := by simp
    rw [hset] at h6
    obtain ⟨g7, w7, vb, vd, w8, r7, r8, h8, _⟩ := h6.pushA (i := 3) (ty := 24) rfT rfl (refC r) (refC_len r) (by decide) (refC_one r) (by omega) (by simp only [maxLen]; omega)
    refine ⟨_, _, _, hent, g5, w5, r5, w6, r6, _, h6.ldA (i := N.length + 4) (l := refC r) (T' := 52) (g := g5) (e5 _) (rfA _) (rfS _) (refC_len r), _, _, _, _, r7, _, _, _, _, r8, ⟨seen.push e.born, out ++ [r], by simp, hp2, ?_⟩, (by show M.length - (out.length + 1) < M.length - out.length; omega)⟩
    have e9 : (out ++ [r]).flatMap refC = out.flatMap refC ++ refC r := by simp
    rw [e9]
    exact h8.sub (List.Sublist.cons_cons _ (List.Sublist.cons_cons _ (List.Sublist.cons_cons _ (List.Sublist.cons_cons _ (List.sublist_append_left _ _)))))
end

end Go.Proofs.Ytoianikapjkekaa
