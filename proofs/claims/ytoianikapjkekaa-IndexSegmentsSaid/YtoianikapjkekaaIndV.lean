/- Chapter 14: Find and Without of a segment; IndexSegments (conditions: none). -/
import Derived.Test.YtoianikapjkekaaIndP
namespace Go.Proofs.Ytoianikapjkekaa
open Go Sx
set_option maxRecDepth 8000

theorem Gr.chg {w w' : World} (h : Gr w w') : Chg [] w w' := by
  obtain ⟨q, os, rfl⟩ := h
  exact ⟨rfl, rfl, rfl, by simp [Sort.grow, World.drewN], fun k hk _ => by simp [Sort.grow, World.drewN, Array.getElem?_append_left hk]⟩

theorem place1_spec (r : RefD) (id : List UInt8) (hid : id.length = 32) (w : World) : Calls Try.prog 62 #[.agg (refC r).toArray, .agg (bv id).toArray] w fun e w' => e = .returned (.int .i64 (lexCmp r.id id)) ∧ Chg [] w w' := by
  apply index_place_1_vc
  obtain ⟨g1, w1, r1, h1⟩ := (St.start w).boxA (P := Try.prog) 52 (refC r)
  obtain ⟨g2, w2, r2, h2⟩ := h1.boxA (P := Try.prog) 40 (bv id)
  refine ⟨g1, w1, r1, g2, w2, r2, _, refId h2 (i := 0) rfl, _, h2.ldA (i := 1) (l := bv id) rfl (idA' _) (idS' _) (by simp [hid]), Calls.mono (compareG r.id id w2 r.idl hid) ?_⟩
  rintro e w3 ⟨rfl, hg⟩
  exact ⟨_, rfl, rfl, h2.chg.trans (Gr.chg hg)⟩

theorem mid_eq (i j : Nat) (h : i + j ≤ 4000000000) : IntKind.wrap .i64 (shrI .u64 (IntKind.wrap .u64 (IntKind.wrap .i64 ((i : Int) + (j : Int)))) (1 : Int)) = (((i + j) / 2 : Nat) : Int) := by
  have e1 : IntKind.wrap .i64 ((i : Int) + (j : Int)) = ((i + j : Nat) : Int) := by rw [wrap_i64 (by omega) (by omega)]; omega
  have e2 : IntKind.wrap .u64 ((i + j : Nat) : Int) = ((i + j : Nat) : Int) := by
    rw [wrap_u64]
    omega
  have e3 : shrI .u64 ((i + j : Nat) : Int) (1 : Int) = (((i + j) / 2 : Nat) : Int) := by
    show Int.fdiv ((i + j : Nat) : Int) (2 ^ 1) = _
    rw [Int.fdiv_eq_ediv_of_nonneg _ (by decide)]
    omega
  rw [e1, e2, e3, wrap_i64 (by omega) (by omega)]

theorem asc_lt {S : Refs} (h : Asc S) {i j : Nat} {x y : RefD} (hi : S[i]? = some x) (hj : S[j]? = some y) (hij : i < j) : lexLt x.id y.id = true := by
  obtain ⟨h1, e1⟩ := List.getElem?_eq_some_iff.1 hi
  obtain ⟨h2, e2⟩ := List.getElem?_eq_some_iff.1 hj
  have := List.pairwise_iff_getElem.1 h i j h1 h2 hij
  rw [e1, e2] at this
  exact this

theorem find_none_of {S : Refs} {id : List UInt8} (h : ∀ (k : Nat) (r : RefD), S[k]? = some r → r.id ≠ id) : findF S id = none := by
  rw [findF, List.find?_eq_none]
  intro r hr
  obtain ⟨k, hk⟩ := List.getElem?_of_mem hr
  simpa using h k r hk

theorem search_spec (a : Option Addr) (n c : Nat) (S : Refs) (id : List UInt8) (hid : id.length = 32) (w : World) (hr : RdR w a n c S) (hS : Asc S) (hb : n ≤ 1000000) :
    Calls Try.prog 61 #[.slice a n c, .agg (bv id).toArray, .func (.func 62) #[] #[]] w fun e w' => ∃ i : Nat, e = .returned (.tuple #[.int .i64 (i : Int), .bool (findF S id).isSome]) ∧ (∀ r, findF S id = some r → S[i]? = some r) ∧ Chg [] w w' := by
  have hln := hr.num (by decide)
  apply slices_BinarySearchFunc_api_Ref_api_Ref_api_Id_vc
  obtain ⟨g4, w1, r1, h1⟩ := (St.start w).boxA (P := Try.prog) 40 (bv id)
  have h1 : St w [] w1 [.arr g4 40 (bv id)] := h1
  refine ⟨g4, w1, r1, fun x y w' => ∃ i j : Nat, x = (i : Int) ∧ y = (j : Int) ∧ i ≤ j ∧ j ≤ n ∧ (∀ (k : Nat) (r : RefD), k < i → S[k]? = some r → lexLt r.id id = true) ∧ (∀ (k : Nat) (r : RefD), j ≤ k → S[k]? = some r → lexLt r.id id = false) ∧ St w [] w' [.arr g4 40 (bv id)],
    fun x y _ => y.toNat - x.toNat, ⟨0, n, rfl, rfl, by omega, Nat.le_refl _, fun k r hk => by omega, fun k r hk hkr => ?_, h1⟩, ?_⟩
  · have := (List.getElem?_eq_some_iff.1 hkr).1; omega
  rintro x y w2 ⟨i, j, rfl, rfl, hij, hj, hlo, hhi, h2⟩
  refine ⟨fun h => ?_, fun h => ?_⟩
  · have hlt : i < j := by simp at h; omega
    obtain ⟨m, hm⟩ : ∃ m, (i + j) / 2 = m := ⟨_, rfl⟩
    have em := mid_eq i j (by omega)
    rw [hm] at em
    rw [em]
    have hmn : m < S.length := by omega
    have hmr : S[m]? = some S[m] := List.getElem?_eq_getElem hmn
    obtain ⟨b, o, ha, q⟩ := hr.ld (P := Try.prog) (by decide) rfA rfS hmr
    have w1m : IntKind.wrap .i64 ((m : Int) + 1) = ((m + 1 : Nat) : Int) := by rw [wrap_i64 (by omega) (by omega)]; omega
    refine ⟨fun w' => St w [] w' [.arr g4 40 (bv id)], h2.drew, b, o, ha, by omega, by omega, _, fun w' h' => q w' (hr.keep0 (St.chg h')), _, fun w' h' => h'.ldA (i := 0) (l := bv id) rfl (idA' _) (idS' _) (by simp [hid]), 62, [], rfl, by kernel_rfl, (place1_spec S[m] id hid w2.drew).mono ?_⟩
    rintro e w3 ⟨rfl, c3⟩
    have h3 := h2.drew.same c3
    refine ⟨_, rfl, fun w' => St w [] w' [.arr g4 40 (bv id)], fun _ h => h, h3, fun x' y' w' => ∃ i' j' : Nat, x' = (i' : Int) ∧ y' = (j' : Int) ∧ i' ≤ j' ∧ j' ≤ n ∧ j' - i' < j - i ∧ (∀ (k : Nat) (r : RefD), k < i' → S[k]? = some r → lexLt r.id id = true) ∧ (∀ (k : Nat) (r : RefD), j' ≤ k → S[k]? = some r → lexLt r.id id = false) ∧ St w [] w' [.arr g4 40 (bv id)], ⟨fun hc => ?_, fun hc => ?_⟩, ?_⟩
    · rw [lexCmp_lt] at hc
      refine ⟨m + 1, j, w1m, rfl, by omega, hj, by omega, fun k r hk hkr => ?_, hhi, h3⟩
      by_cases e : k = m
      · subst e
        rw [hmr, Option.some.injEq] at hkr
        rw [← hkr]
        exact hc
      · exact lex_trans _ _ _ (asc_lt hS hkr hmr (by omega)) hc
    · rw [lexCmp_lt] at hc
      refine ⟨i, m, rfl, rfl, by omega, by omega, by omega, hlo, fun k r hk hkr => ?_, h3⟩
      by_cases e : k = m
      · subst e
        rw [hmr, Option.some.injEq] at hkr
        rw [← hkr]
        exact hc
      · cases hq : lexLt r.id id with
        | false => rfl
        | true =>
          have := lex_trans _ _ _ (asc_lt hS hmr hkr (by omega)) hq
          rw [this] at hc
          cases hc
    · rintro x' y' w4 ⟨i', j', rfl, rfl, h1', h2', h3', h4', h5', h6'⟩
      refine ⟨⟨i', j', rfl, rfl, h1', h2', h4', h5', h6'⟩, ?_⟩
      show (j' : Int).toNat - (i' : Int).toNat < (j : Int).toNat - (i : Int).toNat
      simp only [Int.toNat_natCast]
      exact h3'
  · have hji : j = i := by simp at h; omega
    subst hji
    refine ⟨fun w' => St w [] w' [.arr g4 40 (bv id)], h2.drew, fun hlt => ?_, fun hge => ?_⟩
    · have hmn : j < S.length := by simp at hlt; omega
      have hmr : S[j]? = some S[j] := List.getElem?_eq_getElem hmn
      obtain ⟨b, o, ha, q⟩ := hr.ld (P := Try.prog) (by decide) rfA rfS hmr
      refine ⟨b, o, ha, by omega, by omega, _, fun w' h' => q w' (hr.keep0 (St.chg h')), _, fun w' h' => h'.ldA (i := 0) (l := bv id) rfl (idA' _) (idS' _) (by simp [hid]), 62, [], rfl, by kernel_rfl, (place1_spec S[j] id hid w2.drew).mono ?_⟩
      rintro e w3 ⟨rfl, c3⟩
      have h3 := h2.drew.same c3
      refine ⟨_, rfl, fun w' => St w [] w' [.arr g4 40 (bv id)], fun _ h => h, h3, j, ?_, ?_, h3.chg⟩
      · by_cases he : S[j].id = id
        · have hf := (find_iff hS (r := S[j])).2 (List.getElem_mem _)
          rw [he] at hf
          rw [hf, (lexCmp_eq _ _).2 he]
          rfl
        · have hne : ¬ lexCmp S[j].id id = 0 := fun h => he ((lexCmp_eq _ _).1 h)
          have hf : findF S id = none := find_none_of fun k r hkr e => by
            rcases Nat.lt_trichotomy k j with h | h | h
            · exact lex_ne (hlo k r h hkr) e
            · subst h
              rw [hmr, Option.some.injEq] at hkr
              rw [hkr] at he
              exact he e
            · have h1 := asc_lt hS hmr hkr h
              rw [e, hhi j _ (Nat.le_refl _) hmr] at h1
              cases h1
          have hb : (lexCmp S[j].id id == 0) = false := by simpa using hne
          rw [hf, hb]
          rfl
      · intro r hf
        by_cases he : S[j].id = id
        · have hf' := (find_iff hS (r := S[j])).2 (List.getElem_mem _)
          rw [he, hf, Option.some.injEq] at hf'
          rw [hf']
          exact hmr
        · exfalso
          have h1 := List.find?_some hf
          simp only [beq_iff_eq] at h1
          obtain ⟨k, hkr⟩ := List.getElem?_of_mem (List.mem_of_find?_eq_some hf)
          rcases Nat.lt_trichotomy k j with h | h | h
          · exact lex_ne (hlo k r h hkr) h1
          · subst h
            rw [hmr, Option.some.injEq] at hkr
            rw [hkr] at he
            exact he h1
          · have h2 := asc_lt hS hmr hkr h
            rw [h1, hhi j _ (Nat.le_refl _) hmr] at h2
            cases h2
    · have hjn : j = n := by simp at hge; omega
      have hf : findF S id = none := find_none_of fun k r hkr e => by
        have hk := (List.getElem?_eq_some_iff.1 hkr).1
        exact lex_ne (hlo k r (by omega) hkr) e
      refine ⟨h2.drew, j, ?_, ?_, h2.drew.chg⟩
      · rw [hf]; rfl
      · intro r hr'; rw [hf] at hr'; cases hr'

theorem segFind_spec (a : Option Addr) (n c : Nat) (S : Refs) (id : List UInt8) (hid : id.length = 32) (w : World) (hr : RdR w a n c S) (hS : Asc S) (hb : n ≤ 1000000) :
    Calls Try.prog 29 #[.slice a n c, .agg (bv id).toArray] w fun e w' => e = .returned (.tuple #[.agg (refC ((findF S id).getD ref0)).toArray, .bool (findF S id).isSome]) ∧ Chg [] w w' := by
  have hln := hr.num (by decide)
  apply index_Find_vc
  obtain ⟨g3, w1, r1, h1⟩ := (St.start w).boxA (P := Try.prog) 40 (bv id)
  obtain ⟨g4, w2, r2, h2⟩ := h1.zeroA rfZ
  have h2 : St w [] w2 [.arr g3 40 (bv id), .arr g4 52 (refC ref0)] := h2
  refine ⟨g3, w1, r1, g4, w2, r2, _, h2.ldA (i := 0) (l := bv id) rfl (idA' _) (idS' _) (by simp [hid]), ?_⟩
  apply index_place_vc
  obtain ⟨g5, w3, r3, h3⟩ := h2.boxA (P := Try.prog) 40 (bv id)
  have h3 : St w [] w3 [.arr g3 40 (bv id), .arr g4 52 (refC ref0), .arr g5 40 (bv id)] := h3
  refine ⟨g5, w3, r3, _, h3.ldA (i := 2) (l := bv id) rfl (idA' _) (idS' _) (by simp [hid]), (search_spec a n c S id hid w3 (hr.keep0 h3.chg) hS hb).mono ?_⟩
  rintro e w4 ⟨i, rfl, hi, c4⟩
  have h4 := h3.same c4
  refine ⟨_, _, rfl, _, _, rfl, fun hno => ?_, fun hyes => ?_⟩
  · have hf : findF S id = none := by
      cases hq : findF S id with
      | none => rfl
      | some z => rw [hq] at hno; simp at hno
    obtain ⟨w5, r5, h5⟩ := h4.stA (i := 1) (v := refC ref0) rfl (rfS _) (refC_len _) (refC_len _) (refC_one _)
    refine ⟨_, ref0_build w4, w5, r5, _, h5.ldVarA (i := 1) (l := refC ref0) rfl (rfA _) (rfS _) (refC_len _), ?_, h5.chg⟩
    rw [hf]
    rfl
  · cases hf : findF S id with
    | none => rw [hf] at hyes; simp at hyes
    | some r =>
      have hir := hi r hf
      have hil := (List.getElem?_eq_some_iff.1 hir).1
      obtain ⟨b, o, ha, q⟩ := hr.ld (P := Try.prog) (by decide) rfA rfS hir
      obtain ⟨w5, r5, h5⟩ := h4.stA (i := 1) (v := refC r) rfl (rfS _) (refC_len _) (refC_len _) (refC_one _)
      exact ⟨b, o, ha, by omega, by omega, _, q w4 (hr.keep0 h4.chg), w5, r5, _, h5.ldVarA (i := 1) (l := refC r) rfl (rfA _) (rfS _) (refC_len _), rfl, h5.chg⟩

theorem iWithout_spec (a : Option Addr) (n c : Nat) (S : Refs) (a2 : Option Addr) (n2 c2 : Nat) (ps : List Int) (w : World) (hr : RdR w a n c S) (hr2 : RdI w a2 n2 c2 ps) (hb : n ≤ 1000000) (hb2 : n2 ≤ 1000000) :
    Calls Try.prog 28 #[.slice a n c, .slice a2 n2 c2] w fun e w' => ∃ a' n' c', e = .returned (.slice a' n' c') ∧ RdR w' a' n' c' (withoutF S ps) ∧ Chg [] w w' := by
  have hln := hr.num (by decide)
  apply index_Without_vc
  have h0 : St w [] w [.row 52 35 (.slice none 0 0) 0 (([] : Refs).flatMap refC)] := (St.start w).addNil _ _
  refine ⟨fun xa xn xc x w' => ∃ (i : Nat) (out : Refs), x = (i : Int) ∧ i ≤ n ∧ xn = out.length ∧ out = withoutF (S.take i) ps ∧ St w [] w' [.row 52 35 (.slice xa xn xc) xn (out.flatMap refC)], fun _ _ _ x _ => n - x.toNat, ⟨0, [], rfl, by omega, rfl, rfl, h0⟩, ?_⟩
  rintro xa xn xc x w1 ⟨i, out, rfl, hi, rfl, ho, h1⟩
  have hol : out.length ≤ i := by
    rw [ho]
    have := without_len (S.take i) ps
    rw [List.length_take] at this
    omega
  refine ⟨fun h => ?_, fun h => ?_⟩
  · have hi' : i < n := by simp at h; omega
    have hri : S[i]? = some S[i] := List.getElem?_eq_getElem (by omega)
    obtain ⟨b2, o2, ha2, q2⟩ := hr.ld (P := Try.prog) (by decide) rfA rfS hri
    obtain ⟨g7, w2, r2, h2⟩ := h1.zeroA rfZ
    obtain ⟨w3, r3, h3⟩ := h2.stA (i := 1) (v := refC S[i]) rfl (rfS _) (refC_len _) (refC_len _) (refC_one _)
    have h3 : St w [] w3 [.row 52 35 (.slice xa out.length xc) out.length (out.flatMap refC), .arr g7 52 (refC S[i])] := h3
    refine ⟨b2, o2, ha2, by omega, by omega, _, q2 _ (hr.keep0 h1.chg), g7, w2, r2, w3, r3, _, (refFld h3 (i := 1) rfl).1, (containsI_spec a2 n2 c2 ps S[i].pack w3 (hr2.keep0 h3.chg) (by omega)).mono ?_⟩
    rintro e w4 ⟨rfl, rfl⟩
    refine ⟨_, rfl, fun ya yn yc w' => ∃ out1 : Refs, out1 = withoutF (S.take (i + 1)) ps ∧ yn = out1.length ∧ St w [] w' [.row 52 35 (.slice ya yn yc) yn (out1.flatMap refC)], ⟨fun hk => ?_, fun hk => ?_⟩, ?_⟩
    · obtain ⟨g8, w7, vb, vd, w8, r7, r8, h8, _⟩ := h3.pushA (i := 0) (ty := 24) rfT rfl (refC S[i]) (refC_len _) (by decide) (refC_one _) (by omega) (by simp only [maxLen]; omega)
      refine ⟨_, h3.ldA (i := 1) (l := refC S[i]) rfl (rfA _) (rfS _) (refC_len _), _, _, _, w7, r7, vb, _, vd, w8, r8, out ++ [S[i]], ?_, by simp, ?_⟩
      · rw [List.take_add_one, hri, withoutF, List.filter_append, ho, withoutF]
        simp only [Option.toList_some, List.filter_cons, hk]
        simp
      · rw [flat_snoc]
        exact h8.sub (List.Sublist.cons_cons _ (List.nil_sublist _))
    · refine ⟨out, ?_, rfl, h3.sub (List.Sublist.cons_cons _ (List.nil_sublist _))⟩
      rw [List.take_add_one, hri, withoutF, List.filter_append, ho, withoutF]
      simp only [Option.toList_some, List.filter_cons, hk]
      simp
    · rintro ya yn yc w9 ⟨out1, ho1, rfl, h9⟩
      exact ⟨⟨i + 1, out1, wrap_succ hi' (by omega), by omega, rfl, ho1, h9⟩, mu_succ hi' (by omega)⟩
  · have hi' : i = n := by simp at h; omega
    rw [hi', List.take_of_length_le (by omega)] at ho
    rw [← ho]
    exact ⟨xa, _, xc, rfl, ⟨h1.rd (i := 0) rfl, fun x _ => refC_len x⟩, h1.chg⟩

def idR (id : List UInt8) (h : id.length = 32) : RefD := ⟨id, 0, 0, 0, h, by omega, by omega, by omega⟩
theorem idR_build (id : List UInt8) (h : id.length = 32) (w : World) : (Instr.build 52 #[(0, .agg (bv id).toArray)]).run Try.prog w = .ok (.agg (refC (idR id h)).toArray) w := by
  apply run_build
  rw [built_ref]
  show Instr.fill _ _ [(0, .agg (bv id).toArray)] = _
  have e : (bv id).toArray.size = 32 := by simp [h]
  rw [fill_step (off := 0) (sz := 32) rfl (by simp [Value.cells, h]) (by simp)]
  simp only [Instr.fill, Value.cells, List.take_zero, List.nil_append, Nat.zero_add]
  rfl

set_option maxHeartbeats 1000000 in
theorem indexSegments_walk (a : Option Addr) (n c : Nat) (l : Refs) (id : List UInt8) (a2 : Option Addr) (n2 c2 : Nat) (ps : List Int) (w : World) (hr : RdR w a n c l) (hid : id.length = 32) (hr2 : RdI w a2 n2 c2 ps) :
    Calls Try.prog 7 #[.slice a n c, .agg (bv id).toArray, .slice a2 n2 c2] w fun e w' => e = .returned (.bool true) ∧ Chg [] w w' := by
  have hln := hr.num (by decide)
  have hln2 := hr2.num
  apply amphoralaw14_IndexSegments_vc
  obtain ⟨g4, w1, r1, h1⟩ := (St.start w).boxA (P := Try.prog) 40 (bv id)
  have h1 : St w [] w1 [.arr g4 40 (bv id)] := h1
  refine ⟨g4, w1, r1, (alive14_spec w1).mono ?_⟩
  rintro e w2 ⟨rfl, c2'⟩
  have h2 := h1.same c2'
  refine ⟨_, rfl, fun h => by simp at h, fun _ => ⟨fun _ => ⟨rfl, h2.chg⟩, fun hle => ?_⟩⟩
  have hb : n ≤ 300 ∧ n2 ≤ 300 := by simp at hle; omega
  obtain ⟨hb, hb2⟩ := hb
  refine (mine_spec a n c l w2 (hr.keep0 h2.chg) (by omega)).mono ?_
  rintro e w3 ⟨gq, rfl, hm3⟩
  have h3 := h2.same hm3.chg
  have hmm : RdR w3 (some ⟨gq, 0, none⟩) (n + 1) (n + 1) (l ++ [markR]) := ⟨hm3.rd (i := 0) rfl, fun x _ => refC_len x⟩
  have hp : RdR w3 (some ⟨gq, 0, none⟩) n (n + 1) l := by
    have := hmm.sub (lo := 0) (hh := n) (m := n + 1) (a' := some ⟨gq, 0, none⟩) ⟨fun e => by omega, fun _ => by simp [Addr.add]⟩ (by omega) (by omega) (by omega) (Nat.le_refl _)
    simpa [← hln] using this
  refine ⟨_, _, _, rfl, (segR_spec _ n (n + 1) l w3 hp (by omega)).mono ?_⟩
  rintro e w4 ⟨sa, sn, sc, rfl, hs4, c4⟩
  obtain ⟨S, hSd⟩ : ∃ S : Refs, (if l.all goodF then addF [] l else []) = S := ⟨_, rfl⟩
  rw [hSd] at hs4
  have hSa : Asc S := by
    rw [← hSd]
    split
    · exact add0_asc l
    · exact asc_nil
  have hSl : S.length ≤ 300 := by
    rw [← hSd]
    split
    · have := addF_len l []; simp at this; omega
    · simp
  have hsn := hs4.num (by decide)
  have h4 := h3.same c4
  refine ⟨_, _, _, _, rfl, (rAdd_spec none 0 0 [] a n c l w4 (RdE.nil _) (hr.keep0 h4.chg) (by omega)).mono ?_⟩
  intro e5 w5 hp5
  obtain ⟨wa, wn, wc, rfl, hw5, c5⟩ : ∃ ta tn tc, e5 = .returned (.tuple #[.slice ta tn tc, .int .i64 (if l.all goodF then 0 else 28)]) ∧ RdR w5 ta tn tc S ∧ Chg [] w4 w5 := by
    obtain ⟨d, ⟨hg, a', n', c', rfl, hq⟩ | ⟨hg, rfl⟩⟩ := hp5
    · rw [hg] at hSd ⊢
      rw [← hSd]
      exact ⟨a', n', c', rfl, hq, d⟩
    · rw [hg] at hSd ⊢
      rw [← hSd]
      exact ⟨none, 0, 0, rfl, RdE.nil _, d⟩
  have hwn := hw5.num (by decide)
  have h5 := h4.same c5
  have c35 := c4.trans c5
  have SAME : ∀ (a : Option Addr) (n c : Nat) (b : Option Addr) (m d : Nat) (l : Refs) (w : World), RdR w a n c l → RdR w b m d l → l.length ≤ 1000 → Calls Try.prog 14 #[.slice a n c, .slice b m d] w fun e w' => e = .returned (.bool true) ∧ Chg [] w w' := by
    intro a n c b m d l w h1 h2 hl
    have hn := h1.num (by decide)
    refine (rsame13_spec a n c l b m d l w h1 h2 (by omega)).mono ?_
    rintro e w' ⟨⟨rfl, _⟩ | ⟨_, hne⟩, hc⟩
    · exact ⟨rfl, hc⟩
    · exact absurd rfl hne
  refine ⟨_, _, _, _, rfl, fun x w' => x = false ∧ Chg [] w5 w', (SAME _ _ _ _ _ _ S w5 (hs4.keep0 c5) hw5 (by omega)).mono ?_, ?_⟩
  · rintro e w6 ⟨rfl, d6⟩
    refine ⟨_, rfl, fun h => by simp at h, fun _ => (num_spec _ w6 (by split <;> simp)).mono ?_⟩
    rintro e w7 ⟨rfl, rfl⟩
    refine ⟨_, rfl, fun hne => ?_, fun _ => (iCheck_spec _ _ _ l w7 (hp.keep0 (c35.trans d6)) (by omega)).mono ?_⟩
    · exfalso
      cases hg : l.all goodF <;> simp [hg] at hne
    rintro e w8 ⟨rfl, d8⟩
    refine ⟨_, rfl, (num_spec _ w8 (by split <;> simp)).mono ?_⟩
    rintro e w9 ⟨rfl, rfl⟩
    have d58 := d6.trans d8
    refine ⟨_, rfl, (rCheck_spec a n c l w9 (hr.keep0 (h5.chg.trans d58)) (by omega)).mono ?_⟩
    rintro e w10 ⟨rfl, d10⟩
    have d510 := d58.trans d10
    refine ⟨_, rfl, fun hne => ?_, fun _ => (iWithout_spec _ _ _ l a2 n2 c2 ps w10 (hp.keep0 (c35.trans d510)) (hr2.keep0 (h5.chg.trans d510)) (by omega) (by omega)).mono ?_⟩
    · exfalso
      cases hg : isSeg l <;> simp [hg] at hne
    rintro e w11 ⟨ia, iN, ic, rfl, hi11, d11⟩
    have d511 := d510.trans d11
    refine ⟨_, _, _, rfl, (rWithout_spec a n c l a2 n2 c2 ps w11 (hr.keep0 (h5.chg.trans d511)) (hr2.keep0 (h5.chg.trans d511)) (by omega) (by omega)).mono ?_⟩
    rintro e w12 ⟨ja, jn, jc, rfl, hj12, d12⟩
    have hwl := without_len l ps
    refine ⟨_, _, _, rfl, (SAME _ _ _ _ _ _ _ w12 (hi11.keep0 d12) hj12 (by omega)).mono ?_⟩
    rintro e w13 ⟨rfl, d13⟩
    have d513 := (d511.trans d12).trans d13
    have hk13 := hmm.keep0 (c35.trans d513)
    have hr13 := hr.keep0 (h5.chg.trans d513)
    refine ⟨_, rfl, fun h => by simp at h, fun _ => (kept14_spec gq n a c l w13 hk13 hr13 (by omega)).mono ?_⟩
    rintro e w14 ⟨rfl, d14⟩
    exact ⟨_, rfl, rfl, d513.trans d14⟩
  rintro x73 w15 ⟨rfl, d15⟩
  have h15 := h5.same d15
  have hs15 := (hs4.keep0 c5).keep0 d15
  have hw15 := hw5.keep0 d15
  obtain ⟨g16, w16, r16, h16⟩ := h15.litA rfT (refC (idR id hid)) (refC_len _) (by decide)
  have h16 : St w [] w16 [.arr g4 40 (bv id), .row 52 35 (.slice (some ⟨g16, 0, none⟩) 1 1) 1 (refC (idR id hid))] := h16
  have c1516 : Chg [] w15 w16 := by
    obtain ⟨g', w', r', h'⟩ := (St.start w15).litA rfT (refC (idR id hid)) (refC_len _) (by decide)
    have e1 := r16.symm.trans r'
    simp only [Result.ok.injEq] at e1
    rw [e1.2]
    exact h'.chg
  obtain ⟨va, vc, w17, r17, hcase⟩ := h16.append2 (i := 1) (ty := 24) rfT rfl (hr.keep0 h16.chg).rd (refs_one l) (by omega) (by simp only [maxLen]; omega)
  have hX : ∃ g, St w15 [] w16 [.row 52 35 (.slice (some ⟨g, 0, none⟩) 1 1) 1 (refC (idR id hid))] ∧ g = g16 := by
    obtain ⟨g', w', r', h'⟩ := (St.start w15).litA rfT (refC (idR id hid)) (refC_len _) (by decide)
    have e1 := r16.symm.trans r'
    simp only [Result.ok.injEq, Value.slice.injEq, Option.some.injEq, Addr.mk.injEq, and_true] at e1
    obtain ⟨e1, e2⟩ := e1
    subst e1 e2
    exact ⟨_, h', rfl⟩
  obtain ⟨_, hX, rfl⟩ := hX
  obtain ⟨va2, vc2, w17', r17', hX2, _, _⟩ := hX.append (i := 0) (ty := 24) rfT rfl (hr.keep0 h16.chg).rd (refs_one l) (by omega) (by simp only [maxLen]; omega)
  have e17 := r17.symm.trans r17'
  simp only [Result.ok.injEq, Value.slice.injEq, true_and] at e17
  obtain ⟨⟨rfl, rfl⟩, rfl⟩ := e17
  have hX2 : St w15 [] w17 [.row 52 35 (.slice va (1 + n) vc) (1 + n) (refC (idR id hid) ++ l.flatMap refC)] := hX2
  have c1517 := hX2.chg
  have hL : RdR w17 va (1 + n) vc (idR id hid :: l) := ⟨hX2.rd (i := 0) rfl, fun x _ => refC_len x⟩
  have hLn := hL.num (by decide)
  refine ⟨fun h => by simp at h, fun _ => ⟨_, h15.ldA (i := 0) (l := bv id) rfl (idA' _) (idS' _) (by simp [hid]), _, idR_build id hid w15, _, _, _, w16, r16, _, _, _, w17, r17, fun x w' => ∃ i : Nat, x = (i : Int) ∧ i ≤ 1 + n ∧ Chg [] w17 w', fun x _ => (1 + n) - x.toNat, ⟨0, rfl, by omega, Chg.refl _ _⟩, ?_⟩⟩
  rintro x w18 ⟨i, rfl, hi, d18⟩
  refine ⟨fun h => ?_, fun h => ⟨rfl, (h15.same (c1517.trans d18)).chg⟩⟩
  have hi' : i < 1 + n := by simp at h; omega
  obtain ⟨r, hri⟩ : ∃ r, (idR id hid :: l)[i]? = some r := ⟨_, List.getElem?_eq_getElem (by omega)⟩
  obtain ⟨b, o, ha, q⟩ := hL.ld (P := Try.prog) (by decide) rfA rfS hri
  obtain ⟨g13, w19, r19, h19⟩ := (St.start w18).zeroA (P := Try.prog) rfZ
  obtain ⟨w20, r20, h20⟩ := h19.stA (i := 0) (v := refC r) rfl (rfS _) (refC_len _) (refC_len _) (refC_one r)
  have h20 : St w18 [] w20 [.arr g13 52 (refC r)] := h20
  have f18 := c1517.trans d18
  have f20 := f18.trans h20.chg
  obtain ⟨y, hy⟩ : ∃ y, findF S r.id = y := ⟨_, rfl⟩
  refine ⟨b, o, ha, by omega, by omega, _, q w18 (hL.keep0 d18), g13, w19, r19, w20, r20, _, refId h20 (i := 0) rfl, (segFind_spec sa sn sc S r.id r.idl w20 (hs15.keep0 f20) hSa (by omega)).mono ?_⟩
  rintro e w21 ⟨rfl, d21⟩
  obtain ⟨g14, w22, r22, h22⟩ := (h20.same d21).zeroA (P := Try.prog) rfZ
  obtain ⟨w23, r23, h23⟩ := h22.stA (i := 1) (v := refC ((findF S r.id).getD ref0)) rfl (rfS _) (refC_len _) (refC_len _) (refC_one _)
  have h23 : St w18 [] w23 [.arr g13 52 (refC r), .arr g14 52 (refC ((findF S r.id).getD ref0))] := h23
  refine ⟨_, _, rfl, g14, w22, r22, w23, r23, _, refId h23 (i := 0) rfl, (rFind_spec wa wn wc S r.id r.idl w23 (hw15.keep0 (f18.trans h23.chg)) (by omega)).mono ?_⟩
  rintro e w24 ⟨rfl, d24⟩
  obtain ⟨g16', w25, r25, h25⟩ := (h23.same d24).zeroA (P := Try.prog) rfZ
  obtain ⟨w26, r26, h26⟩ := h25.stA (i := 2) (v := refC ((findF S r.id).getD ref0)) rfl (rfS _) (refC_len _) (refC_len _) (refC_one _)
  have h26 : St w18 [] w26 [.arr g13 52 (refC r), .arr g14 52 (refC ((findF S r.id).getD ref0)), .arr g16' 52 (refC ((findF S r.id).getD ref0))] := h26
  refine ⟨_, _, rfl, g16', w25, r25, w26, r26, _, h26.ldA (i := 1) (l := refC ((findF S r.id).getD ref0)) rfl (rfA _) (rfS _) (refC_len _), _, h26.ldA (i := 2) (l := refC ((findF S r.id).getD ref0)) rfl (rfA _) (rfS _) (refC_len _), _, (eqRefs _ _ _ _ w26).2, fun hne => ?_, fun _ => ⟨⟨i + 1, wrap_succ hi' (by omega), by omega, d18.trans h26.chg⟩, mu_succ hi' (by omega)⟩⟩
  exfalso
  rw [(refEqB_iff _ _).2 rfl] at hne
  cases hq : (findF S r.id).isSome <;> rw [hq] at hne <;> simp at hne

end Go.Proofs.Ytoianikapjkekaa
