/- Chapter 14: Find, Len, Drop of an Index; the reference's Find, Without (conditions: none). -/
import Derived.Test.YtoianikapjkekaaIndT
namespace Go.Proofs.Ytoianikapjkekaa
open Go Sx
set_option maxRecDepth 8000

def iv (l : List Int) : List Value := l.map (Value.int .i64)
theorem iv_get (l : List Int) (i : Nat) : (iv l)[i]? = l[i]?.map (Value.int .i64) := by simp [iv]
abbrev RdI (w : World) (a : Option Addr) (n c : Nat) (l : List Int) : Prop := Rd w a n c 1 (iv l)
theorem RdI.num {w : World} {a : Option Addr} {n c : Nat} {l : List Int} (h : RdI w a n c l) : l.length = n := by have := h.len; simpa [iv] using this
theorem ixI {w : World} {a : Option Addr} {n c : Nat} {l : List Int} (h : RdI w a n c l) {i : Nat} {x : Int} (hx : l[i]? = some x) :
    ∃ b o, a = some ⟨b, o, none⟩ ∧ ∀ w', RdI w' a n c l → (Instr.loadAt 3 (.pointer (some ⟨b, o + Int.toNat (i : Int) * 1, none⟩))).run Try.prog w' = .ok (.int .i64 x) w' := by
  have hv : (iv l)[i]? = some (.int .i64 x) := by rw [iv_get, hx]; rfl
  obtain ⟨b, o, ha, _⟩ := h.cells.at_ hv
  refine ⟨b, o, ha, fun w' h' => ?_⟩
  obtain ⟨b', o', ha', hc⟩ := h'.cells.at_ hv
  rw [ha] at ha'
  simp only [Option.some.injEq, Addr.mk.injEq, and_true] at ha'
  obtain ⟨rfl, rfl⟩ := ha'
  rw [show o + Int.toNat (i : Int) * 1 = o + i by omega]
  exact ld1 (inA _) hc

theorem containsI_spec (a : Option Addr) (n c : Nat) (l : List Int) (x : Int) (w : World) (hr : RdI w a n c l) (hb : n ≤ 4611686018427387904) :
    Calls Try.prog 42 #[.slice a n c, .int .i64 x] w fun e w' => e = .returned (.bool (l.contains x)) ∧ w' = w := by
  have hln := hr.num
  apply slices_Contains_int_int_vc
  apply slices_Index_int_int_vc
  refine ⟨fun y w' => ∃ i : Nat, y = (i : Int) ∧ i ≤ n ∧ (l.take i).contains x = false ∧ w' = w, fun y _ => n - y.toNat, ⟨0, rfl, by omega, by simp, rfl⟩, ?_⟩
  rintro y w1 ⟨i, rfl, hi, hno, rfl⟩
  refine ⟨fun h => ?_, fun h => ?_⟩
  · have hi' : i < n := by simp at h; omega
    have hli : l[i]? = some l[i] := List.getElem?_eq_getElem (by omega)
    obtain ⟨b, o, ha, q⟩ := ixI hr hli
    refine ⟨b, o, ha, by omega, by omega, _, q w1 hr, fun he => ?_, fun hne => ⟨⟨i + 1, wrap_succ hi' hb, by omega, ?_, rfl⟩, mu_succ hi' hb⟩⟩
    · have hm : l.contains x = true := by
        rw [List.contains_iff_mem]
        have : x = l[i] := by simpa using he
        rw [this]; exact List.getElem_mem _
      refine ⟨_, rfl, ?_, rfl⟩
      rw [hm]
      simp
    · rw [List.take_add_one, hli, List.contains_eq_any_beq, List.any_append]
      rw [List.contains_eq_any_beq] at hno
      rw [hno]
      simpa using hne
  · have hi' : i = n := by simp at h; omega
    rw [hi', List.take_of_length_le (by omega)] at hno
    refine ⟨_, rfl, ?_, rfl⟩
    rw [hno]
    rfl

def withoutF (S : Refs) (ps : List Int) : Refs := S.filter fun r => !ps.contains r.pack
theorem asc_without {S : Refs} (h : Asc S) (ps : List Int) : Asc (withoutF S ps) := h.sublist (List.filter_sublist)
theorem without_len (S : Refs) (ps : List Int) : (withoutF S ps).length ≤ S.length := List.length_filter_le _ _

section
variable {w0 w : World} {X : List Nat} {N : List Res}

theorem iLen_spec (gi gm : Nat) (S : Refs) (h : IdxIn w0 X w gi gm S N) : Calls Try.prog 26 #[.pointer (some ⟨gi, 0, none⟩)] w fun e w' => e = .returned (.int .i64 (S.length : Int)) ∧ w' = w := by
  obtain ⟨es, clock, M, hE, hM, hS⟩ := h
  have hg : w.heap[gm]? = some (.map es clock) := hS.holds 1 _ rfl
  apply index_Index_Len_vc
  refine ⟨_, hS.ldL (i := 0) (l := [.map (some gm)]) rfl (mpA _) rfl rfl, _, _, hE.lenOf (P := Try.prog) mapT hg _, ?_, rfl⟩
  rw [hM.perm.length_eq]

theorem iFind_spec (gi gm : Nat) (S : Refs) (id : List UInt8) (hid : id.length = 32) (h : IdxIn w0 X w gi gm S N) :
    Calls Try.prog 24 #[.pointer (some ⟨gi, 0, none⟩), .agg (bv id).toArray] w fun e w' => e = .returned (.tuple #[.agg (refC ((findF S id).getD ref0)).toArray, .bool (findF S id).isSome]) ∧ Chg [] w w' := by
  obtain ⟨es, clock, M, hE, hM, hS⟩ := h
  apply index_Index_Find_vc
  obtain ⟨g3, w1, r1, h1⟩ := (St.start w).boxA (P := Try.prog) 40 (bv id)
  obtain ⟨g4, w2, r2, h2⟩ := h1.zeroA rfZ
  have h2 : St w [] w2 [.arr g3 40 (bv id), .arr g4 52 (refC ref0)] := h2
  have h2d := h2.drew
  obtain ⟨x, hx⟩ : ∃ x, findF S id = x := ⟨_, rfl⟩
  have LK : ∀ w', Chg [] w w' → (Instr.lookup 75 (.map (some gm)) (.agg (bv id).toArray) true).run Try.prog w' = .ok (.tuple #[.agg (refC (x.getD ref0)).toArray, .bool x.isSome]) w' := by
    intro w' hc
    have hg : w'.heap[gm]? = some (.map es clock) := (hS.same hc).holds 1 _ rfl
    have hl := hE.lookup (P := Try.prog) (keyL M) mapT hg hid (z := .agg (refC ref0).toArray) rfZ
    have hf := hM.find id
    rw [hx] at hf
    rw [hl]
    cases hq : fndM RefD.id M id with
    | none => rw [hq] at hf; subst hf; rfl
    | some p => rw [hq] at hf; subst hf; rfl
  have LM : ∀ w', Chg [] w w' → (Instr.loadAt 75 (.pointer (some ⟨gi, 0, none⟩))).run Try.prog w' = .ok (.map (some gm)) w' := fun w' hc =>
    (hS.same hc).ldL (i := 0) (l := [.map (some gm)]) rfl (mpA _) rfl rfl
  refine ⟨g3, w1, r1, g4, w2, r2, fun b o y w' => o = 0 ∧ y = x.isSome ∧ St w [] w' [.arr g3 40 (bv id), .arr g4 52 (refC ref0), .arr b 52 (refC (x.getD ref0))],
    ⟨fun w' => ∃ M', St w [] w' (.arr g3 40 (bv id) :: .arr g4 52 (refC ref0) :: M'), ⟨_, h2d⟩, .map (some gm), fun w' ⟨_, h'⟩ => LM w' h'.chg, (bv id).toArray, fun w' ⟨_, h'⟩ => h'.ldA (i := 0) (l := bv id) rfl (idA' _) (idS' _) (by simp [hid]), ?_, ?_⟩, ?_⟩
  · obtain ⟨g6, w4, r4, h4⟩ := h2d.zeroA rfZ
    obtain ⟨w5, r5, h5⟩ := h4.stA (i := 2) (v := refC (x.getD ref0)) rfl (rfS _) (refC_len _) (refC_len _) (refC_one _)
    exact ⟨_, _, _, LK _ h2d.chg, _, fun _ h => h, ⟨_, h2d⟩, g6, w4, r4, _, fun _ h => h, ⟨_, h4⟩, w5, r5, rfl, rfl, h5⟩
  · obtain ⟨g6, w4, r4, h4⟩ := h2d.zeroA rfZ
    obtain ⟨w5, r5, h5⟩ := h4.stA (i := 2) (v := refC (x.getD ref0)) rfl (rfS _) (refC_len _) (refC_len _) (refC_one _)
    exact ⟨g6, w4, r4, _, fun _ h => h, ⟨_, h4⟩, _, _, _, LK _ h4.chg, _, fun _ h => h, ⟨_, h4⟩, w5, r5, rfl, rfl, h5⟩
  · rintro b o y w9 ⟨rfl, rfl, h9⟩
    obtain ⟨w10, r10, h10⟩ := h9.stA (i := 1) (v := refC (x.getD ref0)) rfl (rfS _) (refC_len _) (refC_len _) (refC_one _)
    exact ⟨_, h9.ldA (i := 2) (l := refC (x.getD ref0)) rfl (rfA _) (rfS _) (refC_len _), w10, r10, _, h10.ldVarA (i := 1) (l := refC (x.getD ref0)) rfl (rfA _) (rfS _) (refC_len _), by rw [hx], h10.chg⟩

theorem rFind_spec (a : Option Addr) (n c : Nat) (S : Refs) (id : List UInt8) (hid : id.length = 32) (w : World) (hr : RdR w a n c S) (hb : n ≤ 4611686018427387904) :
    Calls Try.prog 25 #[.slice a n c, .agg (bv id).toArray] w fun e w' => e = .returned (.tuple #[.agg (refC ((findF S id).getD ref0)).toArray, .bool (findF S id).isSome]) ∧ Chg [] w w' := by
  have hln := hr.num (by decide)
  apply amphoraref14_Find_vc
  obtain ⟨g3, w1, r1, h1⟩ := (St.start w).boxA (P := Try.prog) 40 (bv id)
  obtain ⟨g4, w2, r2, h2⟩ := h1.zeroA rfZ
  have h2 : St w [] w2 [.arr g3 40 (bv id), .arr g4 52 (refC ref0)] := h2
  refine ⟨g3, w1, r1, g4, w2, r2, fun x w' => ∃ i : Nat, x = (i : Int) ∧ i ≤ n ∧ findF (S.take i) id = none ∧ St w [] w' [.arr g3 40 (bv id), .arr g4 52 (refC ref0)], fun x _ => n - x.toNat, ⟨0, rfl, by omega, rfl, h2⟩, ?_⟩
  rintro x w3 ⟨i, rfl, hi, hno, h3⟩
  refine ⟨fun h => ?_, fun h => ?_⟩
  · have hi' : i < n := by simp at h; omega
    have hri : S[i]? = some S[i] := List.getElem?_eq_getElem (by omega)
    obtain ⟨b, o, ha, q⟩ := RdR_id hr hri
    obtain ⟨b2, o2, ha2, q2⟩ := hr.ld (P := Try.prog) (by decide) rfA rfS hri
    refine ⟨fun w' => St w [] w' [.arr g3 40 (bv id), .arr g4 52 (refC ref0)], h3.drew, b, o, ha, by omega, by omega, _, fun w' h' => q w' (hr.keep0 (St.chg h')), _, fun w' h' => h'.ldA (i := 0) (l := bv id) rfl (idA' _) (idS' _) (by simp [hid]), _, fun w' _ => (eqIds _ _ _ _ (RefD.idl _) hid w').1, fun he => ?_, fun hne => ?_⟩
    · have he' : S[i].id = id := by simpa using he
      obtain ⟨w4, r4, h4⟩ := h3.drew.stA (i := 1) (v := refC S[i]) rfl (rfS _) (refC_len _) (refC_len _) (refC_one _)
      have hf : findF S id = some S[i] := by
        have hsp : findF (S.take i ++ S[i] :: S.drop (i + 1)) id = some S[i] := by
          unfold findF at hno ⊢
          rw [List.find?_append, hno, Option.none_or, List.find?_cons]
          simp only [he', beq_self_eq_true]
        have e2 : S.take i ++ S[i] :: S.drop (i + 1) = S := by rw [← List.drop_eq_getElem_cons (by omega), List.take_append_drop]
        rw [e2] at hsp
        exact hsp
      refine ⟨b2, o2, ha2, by omega, by omega, _, q2 _ (hr.keep0 h3.drew.chg), w4, r4, _, h4.ldVarA (i := 1) (l := refC S[i]) rfl (rfA _) (rfS _) (refC_len _), ?_, h4.chg⟩
      rw [hf]
      rfl
    · refine ⟨⟨i + 1, wrap_succ hi' hb, by omega, ?_, h3.drew⟩, mu_succ hi' hb⟩
      have hne' : ¬ S[i].id = id := by simpa using hne
      unfold findF at hno ⊢
      rw [List.take_add_one, hri, List.find?_append, hno]
      simp [hne']
  · have hi' : i = n := by simp at h; omega
    rw [hi', List.take_of_length_le (by omega)] at hno
    obtain ⟨w5, r5, h5⟩ := h3.stA (i := 1) (v := refC ref0) rfl (rfS _) (refC_len _) (refC_len _) (refC_one _)
    rw [hno]
    exact ⟨_, ref0_build w3, w5, r5, _, h5.ldVarA (i := 1) (l := refC ref0) rfl (rfA _) (rfS _) (refC_len _), rfl, h5.chg⟩

theorem rWithout_spec (a : Option Addr) (n c : Nat) (S : Refs) (a2 : Option Addr) (n2 c2 : Nat) (ps : List Int) (w : World) (hr : RdR w a n c S) (hr2 : RdI w a2 n2 c2 ps) (hb : n ≤ 1000000) (hb2 : n2 ≤ 1000000) :
    Calls Try.prog 22 #[.slice a n c, .slice a2 n2 c2] w fun e w' => ∃ a' n' c', e = .returned (.slice a' n' c') ∧ RdR w' a' n' c' (withoutF S ps) ∧ Chg [] w w' := by
  have hln := hr.num (by decide)
  have hln2 := hr2.num
  apply amphoraref14_Without_vc
  have h0 : St w [] w [.row 52 35 (.slice none 0 0) 0 (([] : Refs).flatMap refC)] := (St.start w).addNil _ _
  refine ⟨fun xa xn xc x w' => ∃ (i : Nat) (out : Refs), x = (i : Int) ∧ i ≤ n ∧ xn = out.length ∧ out = withoutF (S.take i) ps ∧ St w [] w' [.row 52 35 (.slice xa xn xc) xn (out.flatMap refC)], fun _ _ _ x _ => n - x.toNat, ⟨0, [], rfl, by omega, rfl, rfl, h0⟩, ?_⟩
  rintro xa xn xc x w1 ⟨i, out, rfl, hi, rfl, ho, h1⟩
  have hol : out.length ≤ i := by
    rw [ho]
    have := without_len (S.take i) ps
    rw [List.length_take] at this
    omega
  refine ⟨fun h => ?_, fun h => ?_⟩
  · have hi' : i < n := by simp at h; omega
    have hri : S[i]? = some S[i] := List.getElem?_eq_getElem (by omega)
    obtain ⟨b, o, ha, q⟩ := hr.fld (P := Try.prog) (by decide) inA (j := 32) hri (ref_pack _)
    obtain ⟨b2, o2, ha2, q2⟩ := hr.ld (P := Try.prog) (by decide) rfA rfS hri
    refine ⟨fun y z w' => ∃ j : Nat, z = (j : Int) ∧ j ≤ n2 ∧ y = (ps.take j).contains S[i].pack ∧ St w [] w' [.row 52 35 (.slice xa out.length xc) out.length (out.flatMap refC)], fun _ z _ => n2 - z.toNat, ⟨0, rfl, by omega, by simp, h1⟩, ?_⟩
    rintro y z w2 ⟨j, rfl, hj, rfl, h2⟩
    refine ⟨fun hj' => ?_, fun hj' => ?_⟩
    · have hj' : j < n2 := by simp at hj'; omega
      have hpj : ps[j]? = some ps[j] := List.getElem?_eq_getElem (by omega)
      obtain ⟨b3, o3, ha3, q3⟩ := ixI hr2 hpj
      have hstep : (ps.take (j + 1)).contains S[i].pack = ((ps.take j).contains S[i].pack || (ps[j] == S[i].pack)) := by
        rw [List.take_add_one, hpj, List.contains_eq_any_beq, List.contains_eq_any_beq, List.any_append]
        simp [Bool.beq_comm, BEq.comm]
      refine ⟨fun x7 w' => x7 = (ps.take (j + 1)).contains S[i].pack ∧ St w [] w' [.row 52 35 (.slice xa out.length xc) out.length (out.flatMap refC)], ⟨fun w' => St w [] w' [.row 52 35 (.slice xa out.length xc) out.length (out.flatMap refC)], h2.drew, fun ht => ⟨by rw [hstep, ht]; rfl, h2.drew⟩, fun hf => ?_⟩, ?_⟩
      · refine ⟨b3, o3, ha3, by omega, by omega, b, o, ha, by omega, by omega, _, fun w' h' => q3 w' (hr2.keep0 (St.chg h')), _, fun w' h' => q w' (hr.keep0 (St.chg h')), ?_, h2.drew⟩
        rw [hstep, hf]
        rfl
      · rintro x7 w3 ⟨rfl, h3⟩
        exact ⟨⟨j + 1, wrap_succ hj' (by omega), by omega, rfl, h3⟩, mu_succ hj' (by omega)⟩
    · have hj'' : j = n2 := by simp at hj'; omega
      rw [hj'', List.take_of_length_le (by omega)]
      refine ⟨fun ya yn yc w' => ∃ out1 : Refs, out1 = withoutF (S.take (i + 1)) ps ∧ yn = out1.length ∧ St w [] w' [.row 52 35 (.slice ya yn yc) yn (out1.flatMap refC)], ⟨fun hk => ?_, fun hk => ?_⟩, ?_⟩
      · obtain ⟨g7, w7, vb, vd, w8, r7, r8, h8, _⟩ := h2.pushA (i := 0) (ty := 24) rfT rfl (refC S[i]) (refC_len _) (by decide) (refC_one _) (by omega) (by simp only [maxLen]; omega)
        refine ⟨b2, o2, ha2, by omega, by omega, _, q2 _ (hr.keep0 h2.chg), _, _, _, w7, r7, vb, _, vd, w8, r8, out ++ [S[i]], ?_, by simp, ?_⟩
        · rw [List.take_add_one, hri, withoutF, List.filter_append, ho, withoutF]
          simp only [Option.toList_some, List.filter_cons, hk]
          simp
        · rw [flat_snoc]
          exact h8
      · refine ⟨out, ?_, rfl, h2⟩
        rw [List.take_add_one, hri, withoutF, List.filter_append, ho, withoutF]
        simp only [Option.toList_some, List.filter_cons, hk]
        simp
      · rintro ya yn yc w9 ⟨out1, ho1, rfl, h9⟩
        exact ⟨⟨i + 1, out1, wrap_succ hi' (by omega), by omega, rfl, ho1, h9⟩, mu_succ hi' (by omega)⟩
  · have hi' : i = n := by simp at h; omega
    rw [hi', List.take_of_length_le (by omega)] at ho
    rw [← ho]
    exact ⟨xa, _, xc, rfl, ⟨h1.rd (i := 0) rfl, fun x _ => refC_len x⟩, h1.chg⟩

end

end Go.Proofs.Ytoianikapjkekaa
