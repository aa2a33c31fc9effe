/- A range over a map, told by what its entries are (conditions: none; any program). -/
import Derived.Test.YtoijbpkplegnkaaMapK
namespace Go.Proofs.Ytoijbpkplegnkaa.Sx
open Go
set_option maxRecDepth 8000

section
variable {P : Program} {α : Type} {key val : α → Value} {es : Array MapEntry} {clock : Nat} {M : List α}

def zipA (es : Array MapEntry) (M : List α) : List (MapEntry × α) := es.toList.zip M
def leftA (es : Array MapEntry) (M : List α) (seen : Array Nat) : List (MapEntry × α) := (zipA es M).filter fun p => !seen.contains p.1.born
theorem zipA_fst (hE : MapE key val es clock M) : (zipA es M).map (·.1) = es.toList := by
  rw [zipA, List.map_fst_zip]
  have := hE.len; simp; omega
theorem zipA_snd (hE : MapE key val es clock M) : (zipA es M).map (·.2) = M := by
  rw [zipA, List.map_snd_zip]
  have := hE.len; simp; omega
theorem zipA_mem (hE : MapE key val es clock M) {p : MapEntry × α} (hp : p ∈ zipA es M) : p.1 ∈ es.toList ∧ p.1.key = key p.2 ∧ p.1.val = val p.2 := by
  obtain ⟨i, hi⟩ := List.getElem?_of_mem hp
  rw [zipA, List.getElem?_zip_eq_some] at hi
  obtain ⟨r, h1, h2, h3⟩ := hE.at_ hi.1
  rw [hi.2, Option.some.injEq] at h1
  subst h1
  exact ⟨List.mem_of_getElem? hi.1, h2, h3⟩
theorem leftA_fst (hE : MapE key val es clock M) (seen : Array Nat) : (leftA es M seen).map (·.1) = (leftOf es seen).toList := by
  rw [leftOf, Array.toList_filter, ← zipA_fst hE, List.filter_map, leftA]
  rfl
theorem leftA_size (hE : MapE key val es clock M) (seen : Array Nat) : (leftOf es seen).size = (leftA es M seen).length := by
  rw [← Array.length_toList, ← leftA_fst hE, List.length_map]
theorem leftA_all (hE : MapE key val es clock M) : (leftA es M #[]).map (·.2) = M := by
  have : leftA es M #[] = zipA es M := List.filter_eq_self.2 fun p _ => by simp
  rw [this, zipA_snd hE]

theorem filtA_step {β : Type} (bn : β → Nat) {L : List β} (hn : (L.map bn).Nodup) (seen : Array Nat) {p : β} (hp : p ∈ L.filter fun x => !seen.contains (bn x)) :
    (L.filter fun x => !seen.contains (bn x)).Perm (p :: L.filter fun x => !(seen.push (bn p)).contains (bn x)) := by
  have key : ∀ (L : List β), (L.map bn).Nodup → p ∈ L → L.Perm (p :: L.filter fun x => bn x ≠ bn p) := by
    intro L
    induction L with
    | nil => intro _ h; simp at h
    | cons x L ih =>
      intro hn hm
      rw [List.map_cons, List.nodup_cons] at hn
      rcases List.mem_cons.1 hm with rfl | hm
      · have hL : L.filter (fun x => decide (bn x ≠ bn p)) = L := List.filter_eq_self.2 fun y hy => by
          simp only [ne_eq, decide_eq_true_eq]
          exact fun h => hn.1 (List.mem_map.2 ⟨y, hy, h⟩)
        rw [List.filter_cons, if_neg (by simp), hL]
      · have hx : bn x ≠ bn p := fun h => hn.1 (List.mem_map.2 ⟨p, hm, h.symm⟩)
        rw [List.filter_cons, if_pos (by simpa using hx)]
        exact ((ih hn.2 hm).cons x).trans (List.Perm.swap _ _ _)
  have hsub : ((L.filter fun x => !seen.contains (bn x)).map bn).Nodup := hn.sublist ((List.filter_sublist).map _)
  refine (key _ hsub hp).trans (List.Perm.of_eq ?_)
  congr 1
  rw [List.filter_filter]
  apply List.filter_congr
  intro x _
  simp only [Array.contains_push, ne_eq]
  by_cases h2 : bn x = bn p <;> cases h1 : seen.contains (bn x) <;> simp [h1, h2]

/-- How many entries are left, by the world. -/
def muR (gm gr : Nat) (w : World) : Nat := match w.heap[gm]?, w.heap[gr]? with
  | some (.map es _), some (.mapIter _ _ seen _) => (leftOf es seen).size
  | _, _ => 0
theorem muR_eq {gm gr : Nat} {w : World} {seen : Array Nat} {c0 c1 : Nat} {o : Option Nat} (hg : w.heap[gm]? = some (.map es clock)) (hr : w.heap[gr]? = some (.mapIter o c0 seen c1)) : muR gm gr w = (leftOf es seen).size := by simp only [muR, hg, hr]

theorem range_step {w : World} {gr gm : Nat} {seen : Array Nat} (hE : MapE key val es clock M) (hr : w.heap[gr]? = some (.mapIter (some gm) clock seen clock)) (hg : w.heap[gm]? = some (.map es clock)) :
    ((leftA es M seen) = [] ∧ (Instr.next (.pointer (some ⟨gr, 0, none⟩)) false 0).run P w = .ok (.tuple #[.bool false]) w) ∨
    ∃ (e : MapEntry) (r : α) (w1 : World), (w1 = w ∨ w1 = w.drew) ∧ (Instr.next (.pointer (some ⟨gr, 0, none⟩)) false 0).run P w = .ok (.tuple #[.bool true, key r, val r]) (w1.putObj gr (.mapIter (some gm) clock (seen.push e.born) clock)) ∧ r ∈ M ∧
      (∀ w2 : World, w2.heap[gr]? = some (.mapIter (some gm) clock (seen.push e.born) clock) → w2.heap[gm]? = some (.map es clock) → (Instr.entry (.pointer (some ⟨gr, 0, none⟩))).run P w2 = .ok (.tuple #[key r, val r]) w2) ∧
      ((leftA es M seen).map (·.2)).Perm (r :: (leftA es M (seen.push e.born)).map (·.2)) ∧ (leftA es M (seen.push e.born)).length < (leftA es M seen).length := by
  rcases run_next_at (P := P) w 0 gr gm clock clock seen es clock hr hg hE.old (Nat.le_refl _) with ⟨hz, hrun⟩ | ⟨e, he, w3, hw3, hrun⟩
  · left
    refine ⟨?_, hrun⟩
    rw [leftA_size hE] at hz
    exact List.eq_nil_of_length_eq_zero hz
  · right
    have hml : ∃ r, (e, r) ∈ leftA es M seen := by
      rw [← leftA_fst hE, List.mem_map] at he
      obtain ⟨p, hp, rfl⟩ := he
      exact ⟨p.2, hp⟩
    obtain ⟨r, hr'⟩ := hml
    have hmem := (List.mem_filter.1 hr').1
    obtain ⟨he1, hk, hv⟩ := zipA_mem hE hmem
    have hborn : ((zipA es M).map fun p => p.1.born).Nodup := by
      have := hE.born
      rw [← zipA_fst hE, List.map_map] at this
      exact this
    have hstep := filtA_step (fun p : MapEntry × α => p.1.born) hborn seen hr'
    have hrM : r ∈ M := by
      have := (List.mem_map (f := fun p : MapEntry × α => p.2)).2 ⟨_, hmem, rfl⟩
      rw [zipA_snd hE] at this
      exact this
    refine ⟨e, r, w3, hw3, ?_, hrM, fun w2 h1 h2 => ?_, hstep.map fun p : MapEntry × α => p.2, ?_⟩
    · simp only at hk hv
      rw [hk, hv] at hrun
      exact hrun
    · have := run_entry_at (P := P) w2 gr gm clock seen es clock e h1 h2 he1 hE.born
      simp only at hk hv
      rw [hk, hv] at this
      exact this
    · have := hstep.length_eq
      simp only [List.length_cons] at this
      show (leftA es M (seen.push e.born)).length < (leftA es M seen).length
      unfold leftA
      omega
end

end Go.Proofs.Ytoijbpkplegnkaa.Sx
