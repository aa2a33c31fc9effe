/- Prune's laws in plain words: what is kept is kept again; how many are kept (conditions: none). -/
import Derived.Test.YtdcgapabphjgbaaPruD
namespace Go.Proofs.Ytdcgapabphjgbaa
open Go Sx
set_option maxRecDepth 8000

theorem pick_inj (bk : Nat → Int) : ∀ (L : List Nat) (n : Nat) (o : Option Int), L.Nodup → (∀ i ∈ L, ∀ j ∈ L, bk i = bk j → i = j) → (∀ i ∈ L, o ≠ some (bk i)) → pickP bk n o L = L.take n
  | [], n, _, _, _, _ => by simp [pickP]
  | i :: r, 0, o, _, _, _ => by rw [pick_zero]; rfl
  | i :: r, n + 1, o, hn, hi, ho => by
    rw [pickP, if_neg (by rintro (h | h); omega; exact ho i (by simp) h), List.take_succ_cons, Nat.add_sub_cancel]
    rw [List.nodup_cons] at hn
    rw [pick_inj bk r n _ hn.2 (fun a ha b hb => hi a (by simp [ha]) b (by simp [hb])) fun j hj e => ?_]
    have := hi i (by simp) j (by simp [hj]) (Option.some.inj e)
    subst this
    exact hn.1 hj

/-! ### what is kept is kept again -/
def atS (l : List SnapD) (i : Nat) : SnapD := (l[i]?).getD sn0
def keptI (ns : List Int) (l : List SnapD) (L : List Nat) (k : Nat) : List Nat := (List.range k).filter (keptB ns l L)
def leftS (ns : List Int) (l : List SnapD) (L : List Nat) (k : Nat) : List SnapD := (keptI ns l L k).map (atS l)
theorem atS_get {l : List SnapD} {i : Nat} (h : i < l.length) : l[i]? = some (atS l i) := by simp [atS, List.getElem?_eq_getElem h]
theorem keptI_lt {ns : List Int} {l : List SnapD} {L : List Nat} {k i : Nat} (h : i ∈ keptI ns l L k) : i < k := by
  have := (List.mem_filter.1 h).1; simpa using this
theorem keptI_pw (ns : List Int) (l : List SnapD) (L : List Nat) (k : Nat) : (keptI ns l L k).Pairwise (· < ·) := List.Pairwise.filter _ List.pairwise_lt_range

theorem why_pos {ns : List Int} {l : List SnapD} {L : List Nat} {i : Nat} : ∀ {k : Nat}, whyN ns l L k i ≠ 0 ↔ ∃ j, j < k ∧ i ∈ pickK ns l L j
  | 0 => by simp [whyN]
  | k + 1 => by
    have ih := why_pos (ns := ns) (l := l) (L := L) (i := i) (k := k)
    rw [whyN]
    have h2 : 0 < 2 ^ k := Nat.pos_of_ne_zero (by simp)
    by_cases h : i ∈ pickK ns l L k
    · rw [if_pos h]
      exact ⟨fun _ => ⟨k, by omega, h⟩, fun _ => by omega⟩
    · rw [if_neg h, Nat.add_zero]
      rw [ih]
      constructor
      · rintro ⟨j, hj, hm⟩; exact ⟨j, by omega, hm⟩
      · rintro ⟨j, hj, hm⟩
        have : j ≠ k := fun e => h (e ▸ hm)
        exact ⟨j, by omega, hm⟩
theorem pickK_sub (ns : List Int) (l : List SnapD) (L : List Nat) (k : Nat) : ∀ i ∈ pickK ns l L k, i ∈ L := fun _ h => (pick_sub _ _ _ _).subset h

section
variable {ns : List Int} {l : List SnapD} {L M : List Nat}
/-- The place in the old list of what is left. -/
def plc (ns : List Int) (l : List SnapD) (L : List Nat) (j : Nat) : Nat := (keptI ns l L l.length).getD j 0
theorem left_len : (leftS ns l L l.length).length = (keptI ns l L l.length).length := by simp [leftS]
theorem plc_get {j : Nat} (h : j < (keptI ns l L l.length).length) : (keptI ns l L l.length)[j]? = some (plc ns l L j) := by simp [plc, List.getD, h]
theorem plc_mem {j : Nat} (h : j < (keptI ns l L l.length).length) : plc ns l L j ∈ keptI ns l L l.length := List.mem_of_getElem? (plc_get h)
theorem plc_lt {i j : Nat} (h : i < j) (hj : j < (keptI ns l L l.length).length) : plc ns l L i < plc ns l L j := by
  have hi : i < (keptI ns l L l.length).length := by omega
  have h1 := List.pairwise_iff_getElem.1 (keptI_pw ns l L l.length) i j hi hj h
  have e1 := plc_get (ns := ns) (l := l) (L := L) hi
  have e2 := plc_get (ns := ns) (l := l) (L := L) hj
  rw [List.getElem?_eq_getElem hi] at e1
  rw [List.getElem?_eq_getElem hj] at e2
  rw [← Option.some.inj e1, ← Option.some.inj e2]
  exact h1
theorem plc_inj {i j : Nat} (hi : i < (keptI ns l L l.length).length) (hj : j < (keptI ns l L l.length).length) (h : plc ns l L i = plc ns l L j) : i = j := by
  rcases Nat.lt_trichotomy i j with hl | hl | hl
  · have := plc_lt (ns := ns) (l := l) (L := L) hl hj; omega
  · exact hl
  · have := plc_lt (ns := ns) (l := l) (L := L) hl hi; omega
theorem left_get {j : Nat} (h : j < (keptI ns l L l.length).length) : (leftS ns l L l.length)[j]? = l[plc ns l L j]? := by
  rw [leftS, List.getElem?_map, plc_get h, atS_get (keptI_lt (plc_mem h))]
  rfl
theorem left_newer {i j : Nat} (h : Newer (leftS ns l L l.length) i j) : Newer l (plc ns l L i) (plc ns l L j) := by
  obtain ⟨s, t, h1, h2, h3⟩ := h
  have hi := (List.getElem?_eq_some_iff.1 h1).1
  have hj := (List.getElem?_eq_some_iff.1 h2).1
  rw [left_len] at hi hj
  rw [left_get hi] at h1
  rw [left_get hj] at h2
  refine ⟨s, t, h1, h2, ?_⟩
  rw [nwB_iff] at h3 ⊢
  rcases h3 with h3 | ⟨h4, h3 | ⟨h5, h6⟩⟩
  · exact .inl h3
  · exact .inr ⟨h4, .inl h3⟩
  · exact .inr ⟨h4, .inr ⟨h5, plc_lt h6 hi⟩⟩
theorem left_order (hL : NewOrd l L) (hM : NewOrd (leftS ns l L l.length) M) : M.map (plc ns l L) = L.filter (keptB ns l L) := by
  have hmap : (List.range (keptI ns l L l.length).length).map (plc ns l L) = keptI ns l L l.length := by
    apply List.ext_getElem?
    intro j
    by_cases hj : j < (keptI ns l L l.length).length
    · rw [List.getElem?_map, List.getElem?_range hj, plc_get hj]; rfl
    · rw [List.getElem?_eq_none (by simp; omega), List.getElem?_eq_none (by omega)]
  have h1 : (M.map (plc ns l L)).Perm (keptI ns l L l.length) := by
    have := hM.perm.map (plc ns l L)
    rw [left_len, hmap] at this
    exact this
  have h2 : (L.filter (keptB ns l L)).Perm (keptI ns l L l.length) := hL.perm.filter _
  refine pw_uniq (fun _ _ h => h.asymm) (h1.trans h2.symm) ?_ (hL.pw.filter _)
  rw [List.pairwise_map]
  exact hM.pw.imp left_newer
theorem left_pick (hL : NewOrd l L) (hM : NewOrd (leftS ns l L l.length) M) {k : Nat} (hk : k < 6) : (pickK ns (leftS ns l L l.length) M k).map (plc ns l L) = pickK ns l L k := by
  have hkeep : ∀ i ∈ pickK ns l L k, keptB ns l L i = true := fun i hi => by
    simp only [keptB, decide_eq_true_eq]
    exact why_pos.2 ⟨k, hk, hi⟩
  have hMm : ∀ i ∈ M, i < (keptI ns l L l.length).length := fun i hi => by rw [← left_len]; exact hM.lt hi
  have hf : pickP (bktW l k) (ns.getD k 0).toNat none (M.map (plc ns l L)) = pickK ns l L k := by
    rw [left_order hL hM]
    exact pick_filter _ _ _ _ _ hkeep
  by_cases h0 : k = 0
  · subst h0
    rw [pickK, pick_inj _ _ _ _ hM.nodup (fun i _ j _ e => by simp [bktW] at e; omega) (by simp), List.map_take, ← hf, pick_inj _ _ _ _ ?_ (fun i _ j _ e => by simp [bktW] at e; omega) (by simp)]
    rw [left_order hL hM]
    exact hL.nodup.filter _
  · rw [← hf, pick_map, pickK]
    congr 1
    refine pick_congr _ _ _ fun i hi => ?_
    have := hMm i hi
    simp only [bktW, if_neg h0, left_get this]
/-- Nothing of what is left is gone. -/
theorem left_none (hL : NewOrd l L) (hM : NewOrd (leftS ns l L l.length) M) : goneN ns (leftS ns l L l.length) M (leftS ns l L l.length).length = [] := by
  rw [goneN, List.map_eq_nil_iff, List.filter_eq_nil_iff]
  intro j hj
  have hj' : j < (keptI ns l L l.length).length := by rw [← left_len]; simpa using hj
  have h1 := (List.mem_filter.1 (plc_mem hj')).2
  simp only [keptB, decide_eq_true_eq] at h1
  obtain ⟨k, hk, hm⟩ := why_pos.1 h1
  rw [← left_pick hL hM hk] at hm
  obtain ⟨i, hi, he⟩ := List.mem_map.1 hm
  have hi' : i < (keptI ns l L l.length).length := by rw [← left_len]; exact hM.lt (pickK_sub _ _ _ _ i hi)
  have := plc_inj hi' hj' he
  subst this
  have h2 : keptB ns (leftS ns l L l.length) M i = true := by
    simp only [keptB, decide_eq_true_eq]
    exact why_pos.2 ⟨k, hk, hi⟩
  simp [h2]
theorem left_err (h : errW ns l = none) : errW ns (leftS ns l L l.length) = none := by
  unfold errW at h ⊢
  split at h
  · rename_i hc
    rw [if_pos hc]
    split at h
    · cases h
    · rename_i ha
      rw [if_neg]
      rw [List.any_eq_true] at ha ⊢
      rintro ⟨s, hs, ho⟩
      obtain ⟨i, hi, rfl⟩ := List.mem_map.1 hs
      exact ha ⟨_, List.mem_of_getElem? (atS_get (keptI_lt hi)), ho⟩
  · rename_i hc; exact absurd h hc
theorem gone_count (k : Nat) : (goneN ns l L k).length + (leftS ns l L k).length = k := by
  rw [goneN, leftS, List.length_map, List.length_map, keptI]
  induction k with
  | zero => rfl
  | succ k ih =>
    rw [List.range_succ, List.filter_append, List.filter_append, List.length_append, List.length_append]
    cases h : keptB ns l L k <;> simp [h] <;> omega
end

/-! ### how many a rule keeps -/
def pickA (bk : Nat → Int) : Option Int → List Nat → List Nat
  | _, [] => []
  | o, i :: r => if o = some (bk i) then pickA bk o r else i :: pickA bk (some (bk i)) r
theorem pick_take (bk : Nat → Int) : ∀ (L : List Nat) (n : Nat) (o : Option Int), pickP bk n o L = (pickA bk o L).take n
  | [], n, _ => by simp [pickP, pickA]
  | i :: r, 0, o => by rw [pick_zero]; rfl
  | i :: r, n + 1, o => by
    rw [pickP, pickA]
    by_cases ho : o = some (bk i)
    · rw [if_pos (.inr ho), if_pos ho, pick_take bk r (n + 1) o]
    · rw [if_neg (by rintro (h | h); omega; exact ho h), if_neg ho, List.take_succ_cons, Nat.add_sub_cancel, pick_take bk r n]
theorem pickA_sub (bk : Nat → Int) : ∀ (L : List Nat) (o : Option Int), (pickA bk o L).Sublist L
  | [], _ => List.Sublist.slnil
  | i :: r, o => by
    rw [pickA]
    split
    · exact (pickA_sub bk r o).cons _
    · exact (pickA_sub bk r _).cons_cons _
theorem pickA_dec (bk : Nat → Int) : ∀ (L : List Nat) (o : Option Int), L.Pairwise (fun i j => bk j ≤ bk i) → (∀ b, o = some b → ∀ i ∈ L, bk i ≤ b) → ((pickA bk o L).map bk).Pairwise (· > ·) ∧ ∀ b, o = some b → ∀ i ∈ pickA bk o L, bk i < b
  | [], _, _, _ => ⟨List.Pairwise.nil, by simp [pickA]⟩
  | i :: r, o, hp, ho => by
    rw [List.pairwise_cons] at hp
    rw [pickA]
    split
    · exact pickA_dec bk r o hp.2 fun b hb j hj => ho b hb j (by simp [hj])
    · rename_i hne
      obtain ⟨h1, h2⟩ := pickA_dec bk r (some (bk i)) hp.2 fun b hb j hj => by rw [← Option.some.inj hb]; exact hp.1 j hj
      refine ⟨?_, fun b hb j hj => ?_⟩
      · rw [List.map_cons, List.pairwise_cons]
        refine ⟨fun x hx => ?_, h1⟩
        obtain ⟨j, hj, rfl⟩ := List.mem_map.1 hx
        exact h2 _ rfl j hj
      · have hi : bk i < b := by
          have a1 := ho b hb i (by simp)
          have a2 : bk i ≠ b := fun e => hne (by rw [hb, e])
          omega
        rcases List.mem_cons.1 hj with rfl | hj
        · exact hi
        · have := h2 _ rfl j hj; omega
theorem pickA_cov {R : Nat → Nat → Prop} (bk : Nat → Int) : ∀ (L : List Nat) (o : Option Int), L.Pairwise R → ∀ i ∈ L, (∃ p ∈ pickA bk o L, bk p = bk i ∧ (p = i ∨ R p i)) ∨ o = some (bk i)
  | [], _, _, i, hi => by cases hi
  | j :: r, o, hp, i, hi => by
    rw [List.pairwise_cons] at hp
    rw [pickA]
    by_cases ho : o = some (bk j)
    · rw [if_pos ho]
      rcases List.mem_cons.1 hi with rfl | hi
      · exact .inr ho
      · exact pickA_cov bk r o hp.2 i hi
    · rw [if_neg ho]
      rcases List.mem_cons.1 hi with rfl | hi
      · exact .inl ⟨i, by simp, rfl, .inl rfl⟩
      · rcases pickA_cov bk r (some (bk j)) hp.2 i hi with ⟨p, h1, h2, h3⟩ | h
        · exact .inl ⟨p, by simp [h1], h2, h3⟩
        · exact .inl ⟨j, by simp, Option.some.inj h, .inr (hp.1 i hi)⟩

/-- The first ones of each bucket, in the list's order. -/
def firstB (bk : Nat → Int) (i : Nat) : Bool := (List.range i).all fun j => !decide (bk i = bk j)
def firsts (bk : Nat → Int) (k : Nat) : List Nat := (List.range k).filter (firstB bk)
theorem firsts_nodup (bk : Nat → Int) (k : Nat) : ((firsts bk k).map bk).Nodup := by
  rw [List.Nodup, List.pairwise_map]
  have h : (firsts bk k).Pairwise fun i j => i < j ∧ firstB bk j = true := by
    have h1 : (firsts bk k).Pairwise (· < ·) := List.Pairwise.filter _ List.pairwise_lt_range
    refine List.Pairwise.imp_of_mem (fun {a b} _ hb hab => ⟨hab, (List.mem_filter.1 hb).2⟩) h1
  refine h.imp fun {i j} ⟨hij, hj⟩ => ?_
  rw [firstB, List.all_eq_true] at hj
  have := hj i (by simpa using hij)
  simpa using fun e => by simp [e] at this
theorem firsts_cov (bk : Nat → Int) (k : Nat) : ∀ i, i < k → ∃ p ∈ firsts bk k, bk p = bk i := by
  intro i
  induction i using Nat.strongRecOn with
  | _ i ih =>
    intro hi
    cases h : firstB bk i with
    | true => exact ⟨i, List.mem_filter.2 ⟨by simpa using hi, h⟩, rfl⟩
    | false =>
      rw [firstB, List.all_eq_false] at h
      obtain ⟨j, hj, he⟩ := h
      have hj' : j < i := by simpa using hj
      have he' : bk i = bk j := by simpa using he
      obtain ⟨p, h1, h2⟩ := ih j hj' (by omega)
      exact ⟨p, h1, by rw [h2, he']⟩
theorem pickA_count (bk : Nat → Int) {L : List Nat} {k : Nat} (hp : L.Perm (List.range k)) (hd : L.Pairwise fun i j => bk j ≤ bk i) : (pickA bk none L).length = (firsts bk k).length := by
  have h1 : ((pickA bk none L).map bk).Nodup := by
    have := (pickA_dec bk L none hd (by simp)).1
    exact this.imp fun {a b} h => by omega
  have h2 := firsts_nodup bk k
  have h3 : ((pickA bk none L).map bk).Perm ((firsts bk k).map bk) := by
    rw [List.perm_ext_iff_of_nodup h1 h2]
    intro b
    rw [List.mem_map, List.mem_map]
    constructor
    · rintro ⟨i, hi, rfl⟩
      have := hp.mem_iff.1 ((pickA_sub bk L none).subset hi)
      obtain ⟨p, q1, q2⟩ := firsts_cov bk k i (by simpa using this)
      exact ⟨p, q1, q2⟩
    · rintro ⟨i, hi, rfl⟩
      have hi' : i ∈ L := hp.mem_iff.2 ((List.mem_filter.1 hi).1)
      rcases pickA_cov (R := fun i j => bk j ≤ bk i) bk L none hd i hi' with ⟨p, q1, q2, _⟩ | h
      · exact ⟨p, q1, q2⟩
      · cases h
  simpa using h3.length_eq

/-! ### bits -/
theorem why_bit (ns : List Int) (l : List SnapD) (L : List Nat) (i k : Nat) : ∀ m, k < m → whyN ns l L m i / 2 ^ k % 2 = if i ∈ pickK ns l L k then 1 else 0
  | 0, h => by omega
  | m + 1, h => by
    by_cases hkm : k = m
    · subst hkm
      rw [whyN]
      have h1 := whyN_lt ns l L k i
      have h2 : 0 < 2 ^ k := Nat.pos_of_ne_zero (by simp)
      split
      · rw [Nat.add_div_right _ h2, Nat.div_eq_of_lt h1]
      · rw [Nat.add_zero, Nat.div_eq_of_lt h1]
    · have ih := why_bit ns l L i k m (by omega)
      rw [whyN]
      split
      · have h2 : 0 < 2 ^ k := Nat.pos_of_ne_zero (by simp)
        have e : (2 : Nat) ^ m = 2 ^ k * (2 * 2 ^ (m - k - 1)) := by
          rw [← Nat.pow_succ', ← Nat.pow_add]; congr 1; omega
        rw [e, Nat.add_mul_div_left _ _ h2, ← ih]
        omega
      · rw [Nat.add_zero]; exact ih
theorem bitK : ∀ k : Fin 6, ∀ u : Fin 64, band .i64 (shrI .i64 (u.1 : Int) (k.1 : Int)) 1 = ((u.1 / 2 ^ k.1 % 2 : Nat) : Int) := by decide +kernel

/-! ### the newest one -/
theorem head_kept {ns : List Int} {l : List SnapD} {L : List Nat} {i : Nat} {r : List Nat} (hL : L = i :: r) {k : Nat} (hk : k < 6) (hn : 0 < (ns.getD k 0).toNat) : whyN ns l L 6 i ≠ 0 := by
  refine why_pos.2 ⟨k, hk, ?_⟩
  rw [pickK, hL, pickP, if_neg (by rintro (h | h); omega; cases h)]
  exact List.mem_cons_self

end Go.Proofs.Ytdcgapabphjgbaa
