/- Refs sorted: slices.SortFunc over a row that is held (conditions: none). -/
import Derived.Test.YtoianikapjkekaaIndA
import Derived.Test.YtoianikapjkekaaSortL
import Derived.Shelf.SlSortCmp.NoneTotal
import Derived.Test.YtoianikapjkekaaLists
namespace Go.Proofs.Ytoianikapjkekaa
open Go Sx
set_option maxRecDepth 8000

def refCf (x y : RefD) : Int := lexCmp x.id y.id
theorem refLt (x y : RefD) : ltOf refCf x y = lexLt x.id y.id := by unfold ltOf refCf; exact lexCmp_lt _ _
theorem refSwo : Sort.SWO (ltOf refCf) where
  irrefl x := by rw [refLt]; exact lex_irrefl _
  trans x y z h1 h2 := by rw [refLt] at *; exact lex_trans _ _ _ h1 h2
  ntrans x y z h1 h2 := by
    rw [refLt] at *
    cases h : lexLt x.id z.id with
    | false => rfl
    | true =>
      cases h3 : lexLt z.id y.id with
      | true => rw [lex_trans _ _ _ h h3] at h1; cases h1
      | false => have e := lex_tri _ _ h2 h3; rw [e] at h1; rw [h1] at h; cases h

theorem refLays (blk off size : Nat) (w : World) : CmpLays Try.prog 44 #[] refC 35 refCf blk off size w := fun _ _ _ _ x y => (all1G x y _).mono fun _ _ ⟨h1, h2⟩ => ⟨h1, h2⟩

theorem flatK_list (d : Array RefD) : (Sort.flatK refC 35 d).toList = d.toList.flatMap refC := by
  have hl : ∀ x ∈ d.toList, (refC x).length = 35 := fun x _ => refC_len x
  apply List.ext_getElem?
  intro t
  have hs := flatMap_len hl
  by_cases ht : t < d.size * 35
  · have h1 : t / 35 < d.size := by omega
    have h2 := flatMap_at hl (i := t / 35) (j := t % 35) (x := d[t / 35]) (by simp [h1]) (by omega)
    rw [show t / 35 * 35 + t % 35 = t by omega] at h2
    rw [h2]
    have h3 : t % 35 < (refC d[t / 35]).length := by rw [refC_len]; omega
    have hz : t < (Sort.flatK refC 35 d).size := by simpa using ht
    rw [Array.getElem?_toList, Array.getElem?_eq_getElem hz, List.getElem?_eq_getElem h3]
    have := Sort.get_flatK refC 35 d t ht
    rw [getElem!_pos _ t hz, getElem!_pos d (t / 35) h1, getElem!_pos (refC d[t / 35]) (t % 35) h3] at this
    rw [this]
  · rw [List.getElem?_eq_none (by simp; omega), List.getElem?_eq_none (by rw [hs]; simp; omega)]

theorem put_list (F cur : Array Value) (h : F.size ≤ cur.size) : (Sort.putCells id 0 F cur).size = cur.size ∧ (Sort.putCells id 0 F cur).toList.take F.size = F.toList := by
  refine ⟨by simp [Sort.putCells], ?_⟩
  apply List.ext_getElem?
  intro i
  rw [List.getElem?_take]
  by_cases hi : i < F.size
  · rw [if_pos hi]
    simp only [Sort.putCells, Array.getElem?_toList, Array.getElem?_mapIdx]
    rw [Array.getElem?_eq_getElem (by omega), Array.getElem?_eq_getElem hi]
    simp [hi, getElem!_pos F i hi]
  · rw [if_neg hi, List.getElem?_eq_none (by simp; omega)]

theorem sort_spec {w0 w : World} {X : List Nat} {M : List Res} (hS : St w0 X w M) {i : Nat} {a : Option Addr} {n c : Nat} {l : List RefD} (hi : M[i]? = some (.row 52 35 (.slice a n c) n (l.flatMap refC))) (hb : n < 4611686018427387904) :
    Calls Try.prog 43 #[.slice a n c, .func (.func 44) #[] #[]] w fun e w' => e = .returned (.tuple #[]) ∧
      ∃ l' : List RefD, l'.Perm l ∧ l'.Pairwise (fun x y => lexLt y.id x.id = false) ∧ St w0 X w' (M.set i (.row 52 35 (.slice a n c) n (l'.flatMap refC))) := by
  have hh : w.ownsRow 0 52 35 (.slice a n c) n (l.flatMap refC) := hS.holds i _ hi
  have hln : l.length = n := by
    have h1 := hh.1
    rw [flatMap_len fun x _ => refC_len x] at h1
    omega
  rcases hh.2 with ⟨h0, rfl⟩ | ⟨g, cap, cur, h0, _, hg, hnc, hcm, hcs, htk⟩
  · have h := AnyF.slices_SortFunc_none sortRefs a c (.func (.func 44) #[] #[]) w
    refine Calls.mono h ?_
    rintro e w' ⟨rfl, rfl⟩
    have hl : l = [] := List.eq_nil_of_length_eq_zero hln
    subst hl
    refine ⟨rfl, [], List.Perm.refl _, List.Pairwise.nil, ?_⟩
    have hset : M.set i (.row 52 35 (.slice a 0 c) 0 (([] : List RefD).flatMap refC)) = M := by
      apply List.ext_getElem?
      intro j
      rw [List.getElem?_set]
      by_cases e : i = j
      · subst e; rw [if_pos rfl, if_pos (List.getElem?_eq_some_iff.1 hi).1, hi]
      · rw [if_neg e]
    rw [hset]
    exact hS
  · simp only [Value.slice.injEq] at h0
    obtain ⟨rfl, _, rfl⟩ := h0
    have hsz : l.toArray.size = n := by simpa using hln
    have hlt : g < w.heap.size := (Array.getElem?_eq_some_iff.1 hg).1
    have hH : Sort.HoldsK refC 35 w g 0 l.toArray := by
      intro j hj
      have hj' : j < n * 35 := by simpa [hln] using hj
      refine ⟨?_, by simp [World.frozen?, hg]⟩
      have h1 : (Sort.flatK refC 35 l.toArray)[j]! = cur[j]'(by rw [hcs]; have := Nat.mul_le_mul_right 35 hnc; omega) := by
        have e := flatK_list l.toArray
        rw [List.toList_toArray, ← htk] at e
        have e2 := congrArg (fun q => q[j]?) e
        simp only [Array.getElem?_toList, List.getElem?_take, if_pos hj'] at e2
        rw [Array.getElem?_eq_getElem hj, Array.getElem?_eq_getElem (by rw [hcs]; have := Nat.mul_le_mul_right 35 hnc; omega)] at e2
        rw [getElem!_pos _ j hj]
        exact Option.some.inj e2
      rw [id, h1, cell_of_row w g (0 + j) cur _ _ hg, Nat.zero_add]
      exact Array.getElem?_eq_getElem _
    have eg : ∀ args w, (callFunc 44 args).run Try.prog w = .ok (.enter 44 args) w := fun args w => goesIn_run (by kernel_rfl) args w
    have h := AnyQ.slices_SortFunc sortRefs 35 Try.isAgg52 Try.sizeOf52 refC refC_len refC_one refCf refSwo 44 #[] g 0 c l.toArray w eg (refLays g 0 l.toArray.size w) hH hlt (by omega)
    rw [hsz] at h
    refine Calls.mono h ?_
    rintro e w' ⟨rfl, d', q, os, hp, hs, rfl⟩
    obtain ⟨hp1, hp2, hp3⟩ := hp
    have hd : d'.size = n := by omega
    have hperm : d'.toList.Perm l := by
      have e1 : (d'.extract 0 n).toList = d'.toList := by rw [← hd]; simp
      have e2 : (l.toArray.extract 0 n).toList = l := by rw [← hsz]; simp
      rw [e1, e2] at hp3
      exact hp3
    have hsrt : d'.toList.Pairwise fun x y => lexLt y.id x.id = false := by
      rw [List.pairwise_iff_getElem]
      intro j k hj hk hjk
      have hj2 : j < d'.size := by simpa using hj
      have hk2 : k < d'.size := by simpa using hk
      have := hs j k (Nat.zero_le _) hjk (by omega)
      rw [refLt, getElem!_pos d' k hk2, getElem!_pos d' j hj2] at this
      simpa using this
    have hF : (Sort.flatK refC 35 d').size ≤ cur.size := by rw [Sort.size_flatK, hd, hcs]; exact Nat.mul_le_mul_right 35 hnc
    obtain ⟨p1, p2⟩ := put_list (Sort.flatK refC 35 d') cur hF
    have hheap : (sortWorldK refC 35 w g 0 q d' os).heap = (w.heap.modify g (Sort.onCells (Sort.putCells id 0 (Sort.flatK refC 35 d')))) ++ os := rfl
    have hgz : (sortWorldK refC 35 w g 0 q d' os).heap[g]? = some (.cells (Sort.putCells id 0 (Sort.flatK refC 35 d') cur) 52 (0, 0)) := by
      rw [hheap, Array.getElem?_append_left (by simpa using hlt), Array.getElem?_modify, if_pos rfl, hg]
      rfl
    refine ⟨rfl, d'.toList, hperm, hsrt, hS.upd hi ⟨rfl, rfl, rfl, by rw [hheap]; simp, fun k hk hx => ?_⟩ ⟨?_, .inr ⟨g, c, _, rfl, Nat.zero_le _, hgz, hnc, hcm, by rw [p1, hcs], ?_⟩⟩ fun k hk => .inl hk⟩
    · have hne : g ≠ k := fun e => hx (by simp [Res.fp, Value.ownBlock, e])
      rw [hheap, Array.getElem?_append_left (by simpa using hk), Array.getElem?_modify, if_neg hne]
    · rw [flatMap_len fun x _ => refC_len x]
      simp [hd, Nat.mul_comm]
    · rw [← flatK_list, ← p2, Sort.size_flatK, hd]

end Go.Proofs.Ytoianikapjkekaa
