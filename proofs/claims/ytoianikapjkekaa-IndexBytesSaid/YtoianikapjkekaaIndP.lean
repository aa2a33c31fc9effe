/- Chapter 14: Drop of an Index; IndexPlays (conditions: none). -/
import Derived.Test.YtoianikapjkekaaIndU
namespace Go.Proofs.Ytoianikapjkekaa
open Go Sx
set_option maxRecDepth 8000

section
variable {w0 w w' : World} {X : List Nat} {N N' : List Res} {gi gm : Nat} {S S' : Refs}

theorem IdxIn.same (h : IdxIn w0 X w gi gm S N) (hc : Chg [] w w') : IdxIn w0 X w' gi gm S N := by
  obtain ⟨es, ck, M, hE, hM, hS⟩ := h
  exact ⟨es, ck, M, hE, hM, hS.same hc⟩
theorem IdxIn.chg (h : IdxIn w0 X w gi gm S N) : Chg X w0 w := by
  obtain ⟨es, ck, M, hE, hM, hS⟩ := h
  exact hS.chg
theorem IdxIn.asc (h : IdxIn w0 X w gi gm S N) : Asc S := by
  obtain ⟨es, ck, M, hE, hM, hS⟩ := h
  exact hM.asc
theorem IdxIn.sub (h : IdxIn w0 X w gi gm S N) (hs : N'.Sublist N) : IdxIn w0 X w gi gm S N' := by
  obtain ⟨es, ck, M, hE, hM, hS⟩ := h
  exact ⟨es, ck, M, hE, hM, hS.sub (List.Sublist.cons_cons _ (List.Sublist.cons_cons _ hs))⟩
theorem IdxIn.self (h : IdxIn w0 X w gi gm S N) : IdxIn w [gi, gm] w gi gm S [] := by
  obtain ⟨es, ck, M, hE, hM, hS⟩ := h
  refine ⟨es, ck, M, hE, hM, ?_⟩
  exact (hS.sub (N := [.arr gi 77 [.map (some gm)], .blk gm (.map es ck)]) (List.Sublist.cons_cons _ (List.Sublist.cons_cons _ (List.nil_sublist _)))).self
theorem IdxIn.back (h : IdxIn w0 X w gi gm S N) (h' : IdxIn w [gi, gm] w' gi gm S' N') : IdxIn w0 X w' gi gm S' (N' ++ N) := by
  obtain ⟨es, ck, M, hE, hM, hS⟩ := h
  obtain ⟨es', ck', M', hE', hM', hS'⟩ := h'
  refine ⟨es', ck', M', hE', hM', ?_⟩
  have h1 : St w0 X w (N ++ [.arr gi 77 [.map (some gm)], .blk gm (.map es ck)]) := hS.perm (List.perm_append_comm (l₁ := [_, _]))
  have h2 := St.callPart h1 (N' := .arr gi 77 [.map (some gm)] :: .blk gm (.map es' ck') :: N') hS'
  exact h2.perm List.perm_append_comm

/-- What is neither a map nor an Index abides the Index's changes. -/
theorem IdxIn.keepG (h : IdxIn w0 X w gi gm S N) {a : Option Addr} {n c sz : Nat} {cs : List Value} (hr : Rd w a n c sz cs) (hne : ∀ v ∈ cs, ∀ m, v ≠ .map m) (hc : Chg [gi, gm] w w') : Rd w' a n c sz cs := by
  obtain ⟨es, ck, M, hE, hM, hS⟩ := h
  have h1 : w.heap[gi]? = some (.cells #[.map (some gm)] 77 (0, 0)) := hS.holds 0 _ rfl
  have h2 : w.heap[gm]? = some (.map es ck) := hS.holds 1 _ rfl
  refine ⟨?_, hr.len, hr.le, hr.nil⟩
  rcases hr.cells with h0 | ⟨b, f, ha, hq⟩
  · exact .inl h0
  · refine .inr ⟨b, f, ha, fun j v hv => ?_⟩
    have h3 := hq j v hv
    have n1 : b ≠ gi := fun e => by
      subst e
      rw [cell_of_row w b _ _ _ _ h1] at h3
      have := Array.mem_of_getElem? h3
      simp at this
      exact hne v (List.mem_of_getElem? hv) _ this
    have n2 : b ≠ gm := fun e => by
      subst e
      unfold World.cell? at h3
      simp [h2] at h3
    rw [← h3]
    exact World.cell?_of_block (hc.block b (World.block_lt_of_cell? w _ h3) (by simp [n1, n2]))
theorem refs_nomap (l : Refs) : ∀ v ∈ l.flatMap refC, ∀ m, v ≠ .map m := fun v hv m => by
  obtain ⟨x, _, hx⟩ := List.mem_flatMap.1 hv
  simp only [refC, List.mem_append, List.mem_cons, List.not_mem_nil, or_false, bv, List.mem_map] at hx
  rcases hx with ⟨b, _, rfl⟩ | rfl | rfl | rfl <;> simp
theorem iv_nomap (l : List Int) : ∀ v ∈ iv l, ∀ m, v ≠ .map m := fun v hv m => by
  obtain ⟨x, _, rfl⟩ := List.mem_map.1 hv
  simp
theorem IdxIn.keepR (h : IdxIn w0 X w gi gm S N) {a : Option Addr} {n c : Nat} {l : Refs} (hr : RdR w a n c l) (hc : Chg [gi, gm] w w') : RdR w' a n c l := ⟨h.keepG hr.rd (refs_nomap l) hc, hr.len⟩
theorem IdxIn.keepI (h : IdxIn w0 X w gi gm S N) {a : Option Addr} {n c : Nat} {l : List Int} (hr : RdI w a n c l) (hc : Chg [gi, gm] w w') : RdI w' a n c l := h.keepG hr (iv_nomap l) hc

theorem zip_eraseIdx {α β : Type} : ∀ (l : List α) (m : List β) (j : Nat), (l.eraseIdx j).zip (m.eraseIdx j) = (l.zip m).eraseIdx j
  | [], m, j => by simp
  | a :: l, [], j => by simp
  | a :: l, b :: m, 0 => rfl
  | a :: l, b :: m, j + 1 => by simp [zip_eraseIdx l m j]

theorem nodup_at {α : Type} {L : List α} (h : L.Nodup) {i j : Nat} {x : α} (hi : L[i]? = some x) (hj : L[j]? = some x) : i = j := by
  obtain ⟨h1, e1⟩ := List.getElem?_eq_some_iff.1 hi
  obtain ⟨h2, e2⟩ := List.getElem?_eq_some_iff.1 hj
  have hp := List.pairwise_iff_getElem.1 h
  rcases Nat.lt_trichotomy i j with hlt | rfl | hlt
  · exact absurd (e1.trans e2.symm) (hp i j h1 h2 hlt)
  · rfl
  · exact absurd (e2.trans e1.symm) (hp j i h2 h1 hlt)

theorem ids_uniq {M : Refs} (h : M.Pairwise fun x y => x.id ≠ y.id) {x y : RefD} (hx : x ∈ M) (hy : y ∈ M) (he : x.id = y.id) : x = y := by
  induction M with
  | nil => simp at hx
  | cons z M ih =>
    have a := List.pairwise_cons.1 h
    rcases List.mem_cons.1 hx with e1 | h1 <;> rcases List.mem_cons.1 hy with e2 | h2
    · rw [e1, e2]
    · rw [e1] at he; exact absurd he (a.1 y h2)
    · rw [e2] at he; exact absurd he.symm (a.1 x h1)
    · exact ih a.2 h1 h2

theorem erase_split {M : Refs} {j : Nat} {r : RefD} (hj : M[j]? = some r) : M = M.take j ++ r :: M.drop (j + 1) ∧ M.eraseIdx j = M.take j ++ M.drop (j + 1) := by
  obtain ⟨hl, e⟩ := List.getElem?_eq_some_iff.1 hj
  refine ⟨?_, List.eraseIdx_eq_take_drop_succ ..⟩
  rw [← e, ← List.drop_eq_getElem_cons hl, List.take_append_drop]

set_option maxHeartbeats 1000000 in
theorem iDrop_spec (a : Option Addr) (n c : Nat) (ps : List Int) (h : IdxIn w0 X w gi gm S N) (hr : RdI w a n c ps) (hb : n ≤ 1000000) :
    Calls Try.prog 21 #[.pointer (some ⟨gi, 0, none⟩), .slice a n c] w fun e w' => e = .returned (.tuple #[]) ∧ IdxIn w [gi, gm] w' gi gm (withoutF S ps) [] := by
  have h0 := h
  replace h := h.self
  obtain ⟨es, clock, M, hE, hM, hS⟩ := h
  apply index_Index_Drop_vc
  have hg : w.heap[gm]? = some (.map es clock) := hS.holds 1 _ rfl
  have hit : St w [gi, gm] (w.alloc (.mapIter (some gm) clock #[] clock)) [.arr gi 77 [.map (some gm)], .blk gm (.map es clock), .blk w.heap.size (.mapIter (some gm) clock #[] clock)] := hS.add (Chg.alloc _ _) (heap_alloc_new w _) (by simp [Res.fp])
  obtain ⟨gr, hgr⟩ : ∃ gr, w.heap.size = gr := ⟨_, rfl⟩
  let keep : RefD → Bool := fun r => !ps.contains r.pack
  let I : World → Prop := fun w' => ∃ es M seen, MapE kyV vlV es clock M ∧ (M.filter keep).Perm (S.filter keep) ∧ (M.Pairwise fun x y => x.id ≠ y.id) ∧ (∀ p ∈ zipE es M, seen.contains p.1.born = true → keep p.2 = true) ∧
    St w [gi, gm] w' [.arr gi 77 [.map (some gm)], .blk gm (.map es clock), .blk gr (.mapIter (some gm) clock seen clock)]
  let μ : World → Nat := fun w' => match w'.heap[gm]?, w'.heap[gr]? with
    | some (.map es _), some (.mapIter _ _ seen _) => (leftOf es seen).size
    | _, _ => 0
  refine ⟨_, hS.ldL (i := 0) (l := [.map (some gm)]) rfl (mpA _) rfl rfl, _, _, run_range_map w 75 40 52 gm es clock mapT hg, I, μ, ⟨es, M, #[], hE, hM.perm.filter _, ?_, by simp, by rw [hgr] at hit; exact hit⟩, ?_⟩
  · have hnS : S.Pairwise fun x y => x.id ≠ y.id := hM.asc.imp fun h => lex_ne h
    exact hnS.perm hM.perm.symm fun h => h.symm
  rw [hgr]
  clear hE hM hS hg hit
  rintro w2 ⟨es, M, seen, hE, hperm, hdist, hseen, h2⟩
  have hr2 : w2.heap[gr]? = some (.mapIter (some gm) clock seen clock) := h2.holds 2 _ rfl
  have hg2 : w2.heap[gm]? = some (.map es clock) := h2.holds 1 _ rfl
  have hmu : μ w2 = (leftOf es seen).size := by simp only [μ, hr2, hg2]
  rcases run_next_at (P := Try.prog) w2 0 gr gm clock clock seen es clock hr2 hg2 hE.old (Nat.le_refl _) with ⟨hz, hrun⟩ | ⟨e, he, w3, hw3, hrun⟩
  · refine ⟨false, [], w2, hrun, fun h => (by cases h), fun _ => ⟨rfl, es, clock, M, hE, ⟨?_, asc_without h0.asc ps⟩, h2.sub (List.Sublist.cons_cons _ (List.Sublist.cons_cons _ (List.nil_sublist _)))⟩⟩
    have hl0 : leftZ es M seen = [] := by
      have := left_fst hE seen
      have h0 : (leftOf es seen).toList = [] := List.eq_nil_of_length_eq_zero (by simpa using hz)
      rw [h0] at this
      exact List.map_eq_nil_iff.1 this
    have hall : M.filter keep = M := by
      refine List.filter_eq_self.2 fun r hr => ?_
      rw [← zip_snd hE] at hr
      obtain ⟨p, hp, rfl⟩ := List.mem_map.1 hr
      refine hseen p hp ?_
      cases hq : seen.contains p.1.born with
      | true => rfl
      | false =>
        have : p ∈ leftZ es M seen := List.mem_filter.2 ⟨hp, by rw [hq]; rfl⟩
        rw [hl0] at this
        simp at this
    rw [hall] at hperm
    exact hperm
  · refine ⟨true, [e.key, e.val], _, hrun, fun _ => ?_, fun h => (by cases h)⟩
    obtain ⟨r, hrr⟩ := left_mem hE he
    have hmem := (List.mem_filter.1 hrr).1
    obtain ⟨he1, hk, hv⟩ := zip_mem hE hmem
    have hrM : r ∈ M := by
      have := (List.mem_map (f := fun p : MapEntry × RefD => p.2)).2 ⟨_, hmem, rfl⟩
      rw [zip_snd hE] at this
      exact this
    have h3 : St w [gi, gm] w3 [.arr gi 77 [.map (some gm)], .blk gm (.map es clock), .blk gr (.mapIter (some gm) clock seen clock)] := by
      rcases hw3 with rfl | rfl
      · exact h2
      · exact h2.drew
    have h3' := St.putMap h3 (i := 2) (o' := .mapIter (some gm) clock (seen.push e.born) clock) rfl
    have h3' : St w [gi, gm] (w3.putObj gr (.mapIter (some gm) clock (seen.push e.born) clock)) [.arr gi 77 [.map (some gm)], .blk gm (.map es clock), .blk gr (.mapIter (some gm) clock (seen.push e.born) clock)] := h3'
    have hent := run_entry_at (P := Try.prog) _ gr gm clock seen es clock e (h3'.holds 2 _ rfl) (h3'.holds 1 _ rfl) he1 hE.born
    have hk' : e.key = .agg (bv r.id).toArray := hk
    have hv' : e.val = .agg (refC r).toArray := hv
    rw [hk', hv'] at hent
    have hleft := (left_step hE.born he).length_eq
    simp only [List.length_cons, Array.length_toList] at hleft
    obtain ⟨g4, w5, r5, h5⟩ := h3'.zeroA rfZ'
    obtain ⟨g5, w6, r6, h6⟩ := h5.zeroA rfZ
    obtain ⟨w7, r7, h7⟩ := h6.stA (i := 3) (v := bv r.id) rfl (idS' _) (by simp) (by simp [r.idl]) (bv_one _)
    obtain ⟨w8, r8, h8⟩ := h7.stA (i := 4) (v := refC r) rfl (rfS _) (refC_len _) (refC_len _) (refC_one r)
    have h8 : St w [gi, gm] w8 [.arr gi 77 [.map (some gm)], .blk gm (.map es clock), .blk gr (.mapIter (some gm) clock (seen.push e.born) clock), .arr g4 40 (bv r.id), .arr g5 52 (refC r)] := h8
    have hsub : ∀ {A B C : Res} {L : List Res}, [A, B, C].Sublist (A :: B :: C :: L) := fun {A B C L} => List.Sublist.cons_cons _ (List.Sublist.cons_cons _ (List.Sublist.cons_cons _ (List.nil_sublist _)))
    refine ⟨_, _, _, hent, g4, w5, r5, g5, w6, r6, w7, r7, w8, r8, _, (refFld h8 (i := 4) rfl).1, (containsI_spec a n c ps r.pack w8 (h0.keepI hr h8.chg) (by omega)).mono ?_⟩
    rintro e9 w9 ⟨rfl, rfl⟩
    refine ⟨_, rfl, fun w' => I w' ∧ μ w' < μ w2, ⟨fun hin => ?_, fun hin => ?_⟩, fun _ h => h⟩
    · have h8d := h8.drew
      have hg8 : w9.drew.heap[gm]? = some (.map es clock) := h8d.holds 1 _ rfl
      obtain ⟨es', rD, hD1, hD2⟩ := hE.delete (P := Try.prog) (w := w9.drew) (g := gm) (keyL M) mapT hg8 r.idl #[75, 40] rfl 0
      have hfnd : ∃ j, fndM RefD.id M r.id = some (j, r) := by
        cases hf : fndM RefD.id M r.id with
        | none => exact absurd rfl (fnd_none hf r hrM)
        | some p =>
          obtain ⟨j, y⟩ := p
          obtain ⟨hj, hy⟩ := fnd_some hf
          have := ids_uniq hdist (List.mem_of_getElem? hj) hrM hy
          subst this
          exact ⟨j, rfl⟩
      obtain ⟨j, hj⟩ := hfnd
      obtain ⟨hes', hE'⟩ := hD1 j r hj
      obtain ⟨hMj, _⟩ := fnd_some hj
      obtain ⟨hsp, her⟩ := erase_split hMj
      have hnk : keep r = false := by simp only [keep, hin]; rfl
      have h10 := St.putMap h8d (i := 1) (o' := .map es' clock) rfl
      have h10 : St w [gi, gm] (w9.drew.putObj gm (.map es' clock)) [.arr gi 77 [.map (some gm)], .blk gm (.map es' clock), .blk gr (.mapIter (some gm) clock (seen.push e.born) clock), .arr g4 40 (bv r.id), .arr g5 52 (refC r)] := h10
      have hjl : j < es.size := by have := hE.len; have := (List.getElem?_eq_some_iff.1 hMj).1; omega
      have hle : es'.toList = es.toList.eraseIdx j := by rw [hes']; simp [Array.eraseIdxIfInBounds, hjl]
      have hzip : zipE es' (M.eraseIdx j) = (zipE es M).eraseIdx j := by rw [zipE, hle, zip_eraseIdx]; rfl
      have hdist' := hdist
      rw [hsp] at hdist'
      have hp3 := List.pairwise_append.1 hdist'
      have hrn : r ∉ M.eraseIdx j := by
        rw [her]
        intro hm
        rcases List.mem_append.1 hm with hm | hm
        · exact hp3.2.2 r hm r (by simp) rfl
        · exact (List.pairwise_cons.1 hp3.2.1).1 r hm rfl
      refine ⟨fun w' => ∃ o L, St w [gi, gm] w' (.arr gi 77 [.map (some gm)] :: .blk gm o :: .blk gr (.mapIter (some gm) clock (seen.push e.born) clock) :: .arr g4 40 (bv r.id) :: L), ⟨_, _, h8d⟩, .map (some gm), ?_, (bv r.id).toArray, ?_, _, _, rD, _, fun _ h => h, ⟨_, _, h10⟩, ⟨es', M.eraseIdx j, seen.push e.born, hE', ?_, ?_, ?_, h10.sub hsub⟩, ?_⟩
      · rintro w' ⟨_, _, h'⟩
        exact h'.ldL (i := 0) (l := [.map (some gm)]) rfl (mpA _) rfl rfl
      · rintro w' ⟨_, _, h'⟩
        exact h'.ldA (i := 3) (l := bv r.id) rfl (idA' _) (idS' _) (by simp [r.idl])
      · have : (M.eraseIdx j).filter keep = M.filter keep := by
          rw [her]
          conv => rhs; rw [hsp]
          rw [List.filter_append, List.filter_append, List.filter_cons, hnk]
          simp
        rw [this]
        exact hperm
      · exact hdist.sublist (List.eraseIdx_sublist _ _)
      · intro p hp hc
        have hp2 : p.2 ∈ M.eraseIdx j := by
          have := (List.mem_map (f := fun p : MapEntry × RefD => p.2)).2 ⟨_, hp, rfl⟩
          rw [zip_snd hE'] at this
          exact this
        rw [hzip] at hp
        have hp1 := (List.eraseIdx_sublist _ _).subset hp
        simp only [Array.contains_push, Bool.or_eq_true, beq_iff_eq] at hc
        have hb2 : p.1.born ≠ e.born := by
          intro hb2
          have hnd := zip_born hE
          have : p = (e, r) := by
            obtain ⟨i1, h1⟩ := List.getElem?_of_mem hp1
            obtain ⟨i2, h2⟩ := List.getElem?_of_mem hmem
            have q1 : ((zipE es M).map fun p => p.1.born)[i1]? = some p.1.born := by rw [List.getElem?_map, h1]; rfl
            have q2 : ((zipE es M).map fun p => p.1.born)[i2]? = some e.born := by rw [List.getElem?_map, h2]; rfl
            rw [hb2] at q1
            have : i1 = i2 := nodup_at hnd q1 q2
            subst this
            rw [h1] at h2
            exact Option.some.inj h2
          rw [this] at hp2
          exact hrn hp2
        rcases hc with hc | hc
        · first
            | exact absurd hc hb2
            | exact hseen p hp1 hc
        · first
            | exact hseen p hp1 hc
            | exact absurd hc hb2
      · have hgm' : (w9.drew.putObj gm (.map es' clock)).heap[gm]? = some (.map es' clock) := h10.holds 1 _ rfl
        have hgr' : (w9.drew.putObj gm (.map es' clock)).heap[gr]? = some (.mapIter (some gm) clock (seen.push e.born) clock) := h10.holds 2 _ rfl
        have e1 : μ (w9.drew.putObj gm (.map es' clock)) = (leftOf es' (seen.push e.born)).size := by simp only [μ, hgm', hgr']
        rw [e1, hmu]
        have : (leftOf es' (seen.push e.born)).size ≤ (leftOf es (seen.push e.born)).size := by
          rw [← Array.length_toList, ← Array.length_toList, leftOf, leftOf, Array.toList_filter, Array.toList_filter, hle]
          exact ((List.eraseIdx_sublist es.toList j).filter _).length_le
        omega
    · have hk2 : keep r = true := by simp only [keep, hin]; rfl
      refine ⟨⟨es, M, seen.push e.born, hE, hperm, hdist, fun p hp hc => ?_, h8.sub hsub⟩, ?_⟩
      · by_cases hb2 : p.1.born = e.born
        · have hnd := zip_born hE
          have : p = (e, r) := by
            obtain ⟨i1, h1⟩ := List.getElem?_of_mem hp
            obtain ⟨i2, h2⟩ := List.getElem?_of_mem hmem
            have q1 : ((zipE es M).map fun p => p.1.born)[i1]? = some p.1.born := by rw [List.getElem?_map, h1]; rfl
            have q2 : ((zipE es M).map fun p => p.1.born)[i2]? = some e.born := by rw [List.getElem?_map, h2]; rfl
            rw [hb2] at q1
            have : i1 = i2 := nodup_at hnd q1 q2
            subst this
            rw [h1] at h2
            exact Option.some.inj h2
          rw [this]
          exact hk2
        · simp only [Array.contains_push, Bool.or_eq_true, beq_iff_eq] at hc
          rcases hc with hc | hc
          · first
              | exact absurd hc hb2
              | exact hseen p hp hc
          · first
              | exact hseen p hp hc
              | exact absurd hc hb2
      · have hgm' : w9.heap[gm]? = some (.map es clock) := h8.holds 1 _ rfl
        have hgr' : w9.heap[gr]? = some (.mapIter (some gm) clock (seen.push e.born) clock) := h8.holds 2 _ rfl
        have e1 : μ w9 = (leftOf es (seen.push e.born)).size := by simp only [μ, hgm', hgr']
        rw [e1, hmu]
        omega
end

/-- A thing of several cells is stored into a row that is held. -/
theorem Sx.St.stRowA {P : Program} {w0 w : World} {X : List Nat} {M : List Res} (h : St w0 X w M) {i g n c j k : Nat} {e T : TypeId} {xs vs : List Value} (hi : M[i]? = some (.row e k (.slice (some ⟨g, 0, none⟩) n c) n xs)) (hT : (sizeOf T).run P w = .ok k w) (hl : vs.length = k) (h1 : ∀ v ∈ vs, v.oneCell' = true) (hj : j < n) :
    ∃ w', (Instr.storeAt T (.pointer (some ⟨g, j * k, none⟩)) (.agg vs.toArray)).run P w = .ok () w' ∧ St w0 X w' (M.set i (.row e k (.slice (some ⟨g, 0, none⟩) n c) n (xs.take (j * k) ++ vs ++ xs.drop (j * k + k)))) := by
  have hown : w.ownsRow 0 e k (.slice (some ⟨g, 0, none⟩) n c) n xs := h.holds i _ hi
  obtain ⟨hlen, hrow⟩ := hown
  rcases hrow with ⟨hv0, _⟩ | ⟨g', cap, cur, hv0, hb, hg, hnc, hcm, hcs, ht⟩
  · simp at hv0
  · simp only [Value.slice.injEq, Option.some.injEq, Addr.mk.injEq, and_true, true_and] at hv0
    obtain ⟨rfl, rfl⟩ := hv0
    have hjk : j * k + k ≤ n * k := by rw [← Nat.succ_mul]; exact Nat.mul_le_mul_right k hj
    have hck : n * k ≤ c * k := Nat.mul_le_mul_right k hnc
    have hst := run_storeCells_at P g (j * k) e vs 0 cur w hg (by omega) h1
    simp only [Nat.add_zero, hl] at hst
    have hcl : cur.toList.length = c * k := by rw [Array.length_toList, hcs]
    refine ⟨_, ?_, h.upd hi (w' := w.setRow g (cur.toList.take (j * k) ++ vs ++ cur.toList.drop (j * k + k)).toArray) ⟨rfl, rfl, rfl, by simp, fun q _ hk => setRow_other w g q _ (fun e => hk (by simp [Res.fp, Value.ownBlock, e]))⟩ ?_ (by simp [Res.fp, Value.ownBlock])⟩
    · simp [Instr.storeAt, Instr.sureAddr, storeVar, hT, Value.cells, hl, hst]
    · have hxl : xs.length = n * k := hlen
      refine ⟨?_, .inr ⟨g, c, _, rfl, hb, setRow_heap w g cur _ e _ hg, hnc, hcm, ?_, ?_⟩⟩
      · simp only [List.length_append, List.length_take, List.length_drop, hxl, hl]; omega
      · simp only [List.size_toArray, List.length_append, List.length_take, List.length_drop, hcl, hl]; omega
      · rw [List.toList_toArray]
        have hx : xs = cur.toList.take (n * k) := ht.symm
        apply List.ext_getElem?
        intro q
        rw [hx]
        by_cases hq : q < n * k
        · rw [List.getElem?_take, if_pos hq]
          by_cases h2 : q < j * k
          · have la : (cur.toList.take (j * k)).length = j * k := by simp only [List.length_take, hcl]; omega
            have lb : ((cur.toList.take (n * k)).take (j * k)).length = j * k := by simp only [List.length_take, hcl]; omega
            have e1 : ∀ B : List Value, (cur.toList.take (j * k) ++ vs ++ B)[q]? = cur.toList[q]? := fun B => by rw [List.append_assoc, List.getElem?_append_left (by omega), List.getElem?_take, if_pos h2]
            have e2 : ∀ B : List Value, ((cur.toList.take (n * k)).take (j * k) ++ vs ++ B)[q]? = cur.toList[q]? := fun B => by rw [List.append_assoc, List.getElem?_append_left (by omega), List.getElem?_take, if_pos h2, List.getElem?_take, if_pos hq]
            rw [e1, e2]
          · by_cases h3 : q < j * k + k
            · have la : (cur.toList.take (j * k)).length = j * k := by simp only [List.length_take, hcl]; omega
              have lb : ((cur.toList.take (n * k)).take (j * k)).length = j * k := by simp only [List.length_take, hcl]; omega
              have e1 : ∀ A B : List Value, A.length = j * k → (A ++ vs ++ B)[q]? = vs[q - j * k]? := fun A B hA => by rw [List.append_assoc, List.getElem?_append_right (by omega), hA, List.getElem?_append_left (by omega)]
              rw [e1 _ _ la, e1 _ _ lb]
            · have la : (cur.toList.take (j * k) ++ vs).length = j * k + k := by simp only [List.length_append, List.length_take, hcl, hl]; omega
              have lb : ((cur.toList.take (n * k)).take (j * k) ++ vs).length = j * k + k := by simp only [List.length_append, List.length_take, hcl, hl]; omega
              have e1 : ∀ A B : List Value, A.length = j * k + k → (A ++ B)[q]? = B[q - (j * k + k)]? := fun A B hA => by rw [List.getElem?_append_right (by omega), hA]
              rw [e1 _ _ la, e1 _ _ lb, List.getElem?_drop, List.getElem?_drop, List.getElem?_take, if_pos (by omega)]
        · rw [List.getElem?_take, if_neg hq, List.getElem?_eq_none]
          simp only [List.length_append, List.length_take, List.length_drop, hcl, hl]; omega

/-- A row that is held and not empty lies at a block's head. -/
theorem ownsRow_head {w : World} {e : TypeId} {sz : Nat} {a : Option Addr} {n c m : Nat} {xs : List Value} (h : w.ownsRow 0 e sz (.slice a n c) m xs) (hn : 0 < m) : ∃ g, a = some ⟨g, 0, none⟩ := by
  rcases h.2 with ⟨_, h0⟩ | ⟨g, cap, cur, hv, _⟩
  · omega
  · simp only [Value.slice.injEq] at hv
    exact ⟨g, hv.1⟩

end Go.Proofs.Ytoianikapjkekaa
