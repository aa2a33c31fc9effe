/- Chapter 14: Encode and Decode, the code's and the reference's (conditions: none). -/
import Derived.Test.YtoianikapjkekaaIndX
import Derived.Laws.CopyRow
import Derived.Laws.IdiomCopy
namespace Go.Proofs.Ytoianikapjkekaa
open Go Sx
set_option maxRecDepth 8000

theorem ixArr3 {P : Program} {w : World} {T e n i : Nat} {cs : List Value} {v : Value} (hT : P.underlying T = some (.array n e)) (hS : (sizeOf e).run P w = .ok 1 w) (hA : (isAgg e).run P w = .ok false w) (hi : i < n) (hv : cs[i]? = some v) :
    (Instr.index T (.agg cs.toArray) (.int .i64 (i : Int))).run P w = .ok v w := by
  have h1 : (0 : Int) ≤ (i : Int) ∧ (i : Int) < (n : Int) := by omega
  simp [Instr.index, asIntOf, run_underlying hT, hS, part, hA, hv, hi]

theorem a3Z (w : World) : (zeroValue 86).run Try.prog w = .ok (.agg [Value.int .i64 0, .int .i64 0, .int .i64 0].toArray) w := Try.zeroValue86 w
theorem inS (w : World) : (sizeOf 3).run Try.prog w = .ok 1 w := Try.sizeOf3 w
theorem a3_build (x y z : Int) (w : World) : (Instr.build 86 #[(0, .int .i64 x), (1, .int .i64 y), (2, .int .i64 z)]).run Try.prog w = .ok (.agg [Value.int .i64 x, .int .i64 y, .int .i64 z].toArray) w := by
  have := build_arr (P := Try.prog) (w := w) (T := 86) (a3Z w) Try.underlying86 (inS w) [.int .i64 x, .int .i64 y, .int .i64 z] (by simp [Value.oneCell']) (by simp)
  exact this

/-- The identifier of a ref that is held, as a row of bytes. -/
theorem Sx.St.idRow {w0 w : World} {X : List Nat} {M : List Res} (h : St w0 X w M) {i g : Nat} {T : TypeId} {r : RefD} (hi : M[i]? = some (.arr g T (refC r))) : RdB w (some ⟨g, 0, none⟩) 32 32 r.id := by
  have rng := h.cellsA hi
  refine ⟨.inr ⟨g, 0, rfl, fun j v hj => rng j v ?_⟩, by simp [r.idl], Nat.le_refl _, by simp⟩
  rw [refC, List.getElem?_append_left (List.getElem?_eq_some_iff.1 hj).1]; exact hj

def vals (r : RefD) : List Int := [r.pack, r.at_, r.len]
def encV (l : List Int) : List UInt8 := l.flatMap fun x => varL x.toNat
theorem encR_vals (r : RefD) : encR r = r.id ++ encV (vals r) := by simp [encR, encV, vals, List.append_assoc]
theorem encV_snoc (l : List Int) (x : Int) : encV (l ++ [x]) = encV l ++ varL x.toNat := by simp [encV]
theorem encV_len (r : RefD) : ∀ j, (encV ((vals r).take j)).length ≤ 27 := fun j => by
  have h1 := varL_le9 (toNat_lt63 r.pk.2)
  have h2 := varL_le9 (toNat_lt63 r.ak.2)
  have h3 := varL_le9 (toNat_lt63 r.lk.2)
  rcases j with _ | _ | _ | j <;> simp [vals, encV] <;> omega

set_option maxHeartbeats 1000000 in
theorem iEncode_spec (a : Option Addr) (n c : Nat) (l : Refs) (w : World) (hr : RdR w a n c l) (hb : n ≤ 100000) :
    Calls Try.prog 30 #[.slice a n c] w fun e w' => ∃ a' n' c', e = .returned (.tuple #[.slice a' n' c', errV (if isSeg l then none else some 28)]) ∧ RdB w' a' n' c' (if isSeg l then encF l else []) ∧ Chg [] w w' := by
  have hln := hr.num (by decide)
  obtain ⟨mI, hI⟩ := eI
  apply index_Encode_vc
  refine (iCheck_spec a n c l w hr (by omega)).mono ?_
  rintro e w1 ⟨rfl, c1⟩
  refine ⟨_, rfl, _, neqS_nil hI _ _ _, fun h => ?_, fun h => ?_⟩
  · have hs : isSeg l = false := by
      cases hq : isSeg l with
      | false => rfl
      | true => rw [hq] at h; simp at h
    rw [hs]
    exact ⟨none, 0, 0, rfl, rdNil _, c1⟩
  have hs : isSeg l = true := by
    cases hq : isSeg l with
    | true => rfl
    | false => rw [hq] at h; simp at h
  have hgood := seg_good hs
  rw [hs]
  have h1 : St w [] w1 [.row 5 1 (.slice none 0 0) 0 (bv (encF (l.take 0)))] := ((St.start w).same c1).addNil _ _
  refine ⟨fun xa xn xc x w' => ∃ i : Nat, x = (i : Int) ∧ i ≤ n ∧ St w [] w' [.row 5 1 (.slice xa xn xc) xn (bv (encF (l.take i)))], fun _ _ _ x _ => n - x.toNat, ⟨0, rfl, by omega, h1⟩, ?_⟩
  rintro xa xn xc x w2 ⟨i, rfl, hi, h2⟩
  have hxn : xn ≤ 59 * i := by
    have e1 := (h2.rd (i := 0) rfl).lenB
    have e2 := encF_len (l.take i)
    rw [List.length_take] at e2
    omega
  refine ⟨fun h => ?_, fun h => ?_⟩
  · have hi' : i < n := by simp at h; omega
    obtain ⟨r, hri⟩ : ∃ r, l[i]? = some r := ⟨_, List.getElem?_eq_getElem (by omega)⟩
    obtain ⟨g1, g2, g3⟩ := good_bounds (List.all_eq_true.1 hgood r (List.mem_of_getElem? hri))
    obtain ⟨b, o, ha, q⟩ := hr.ld (P := Try.prog) (by decide) rfA rfS hri
    obtain ⟨g7, w3, r3, h3⟩ := h2.zeroA rfZ
    obtain ⟨w4, r4, h4⟩ := h3.stA (i := 1) (v := refC r) rfl (rfS _) (refC_len _) (refC_len _) (refC_one r)
    have h4 : St w [] w4 [.row 5 1 (.slice xa xn xc) xn (bv (encF (l.take i))), .arr g7 52 (refC r)] := h4
    obtain ⟨va, vc, w5, r5, h5⟩ := h4.appendB (i := 0) rfl (h4.idRow (i := 1) rfl) (by omega)
    have h5 : St w [] w5 [.row 5 1 (.slice va (xn + 32) vc) (xn + 32) (bv (encF (l.take i) ++ r.id)), .arr g7 52 (refC r)] := h5
    obtain ⟨f1, f2, f3⟩ := refFld h5 (i := 1) rfl
    refine ⟨b, o, ha, by omega, by omega, _, q w2 (hr.keep0 h2.chg), g7, w3, r3, w4, r4, by omega, by omega, va, _, vc, w5, r5, _, f1, _, f2, _, f3, _, a3_build _ _ _ w5,
      fun ya yn yc y w' => ∃ j : Nat, y = (j : Int) ∧ j ≤ 3 ∧ St w [] w' [.row 5 1 (.slice ya yn yc) yn (bv (encF (l.take i) ++ r.id ++ encV ((vals r).take j)))], fun _ _ _ y _ => 3 - y.toNat, ⟨0, rfl, by omega, ?_⟩, ?_⟩
    · have : encF (l.take i) ++ r.id ++ encV ((vals r).take 0) = encF (l.take i) ++ r.id := by simp [encV]
      rw [this]
      exact h5.sub (List.Sublist.cons_cons _ (List.nil_sublist _))
    rintro ya yn yc y w6 ⟨j, rfl, hj, h6⟩
    have hyn : yn ≤ xn + 32 + 27 := by
      have e1 := (h6.rd (i := 0) rfl).lenB
      have e2 := (h2.rd (i := 0) rfl).lenB
      have e3 := encV_len r j
      simp only [List.length_append, r.idl] at e1
      omega
    refine ⟨fun h => ?_, fun h => ?_⟩
    · have hj' : j < 3 := by simp at h; omega
      obtain ⟨x, hx⟩ : ∃ x, (vals r)[j]? = some x := ⟨_, List.getElem?_eq_getElem (by simp [vals]; omega)⟩
      have hx0 : 0 ≤ x ∧ x ≤ 9223372036854775807 := by
        have := List.mem_of_getElem? hx
        have p1 := r.pk.2
        have p2 := r.ak.2
        have p3 := r.lk.2
        simp only [vals, List.mem_cons, List.not_mem_nil, or_false] at this
        rcases this with rfl | rfl | rfl <;> omega
      obtain ⟨m, rfl⟩ := Int.eq_ofNat_of_zero_le hx0.1
      have hix : [Value.int .i64 r.pack, .int .i64 r.at_, .int .i64 r.len][j]? = some (.int .i64 (m : Int)) := by
        have : [Value.int .i64 r.pack, .int .i64 r.at_, .int .i64 r.len] = (vals r).map (Value.int .i64) := rfl
        rw [this, List.getElem?_map, hx]; rfl
      refine ⟨_, ixArr3 (P := Try.prog) (T := 86) (n := 3) Try.underlying86 (inS _) (inA _) hj' hix, (var_spec m w6 (by omega)).mono ?_⟩
      rintro e w7 ⟨a7, n7, c7, rfl, hf⟩
      have h7 := hf.add h6
      have h7 : St w [] w7 [.row 5 1 (.slice ya yn yc) yn (bv (encF (l.take i) ++ r.id ++ encV ((vals r).take j))), .row 5 1 (.slice a7 n7 c7) n7 (bv (varL m))] := h7
      have hr7 : RdB w7 a7 n7 c7 (varL m) := h7.rd (i := 1) rfl
      have hn7 := hr7.lenB
      have hv9 := varL_le9 (n := m) (by omega)
      obtain ⟨va8, vc8, w8, r8, h8⟩ := h7.appendB (i := 0) rfl hr7 (by omega)
      refine ⟨a7, n7, c7, rfl, va8, _, vc8, w8, r8, ⟨j + 1, wrap_succ hj' (by omega), by omega, ?_⟩, mu_succ hj' (by omega)⟩
      have e : encF (l.take i) ++ r.id ++ encV ((vals r).take (j + 1)) = encF (l.take i) ++ r.id ++ encV ((vals r).take j) ++ varL m := by
        rw [List.take_add_one, hx, Option.toList_some, encV_snoc, Int.toNat_natCast]
        simp [List.append_assoc]
      rw [e]
      exact h8.sub (List.Sublist.cons_cons _ (List.nil_sublist _))
    · have hj' : j = 3 := by simp at h; omega
      subst hj'
      refine ⟨⟨i + 1, wrap_succ hi' (by omega), by omega, ?_⟩, mu_succ hi' (by omega)⟩
      have e : encF (l.take (i + 1)) = encF (l.take i) ++ r.id ++ encV ((vals r).take 3) := by
        rw [List.take_add_one, hri, Option.toList_some, encF_snoc, encR_vals, List.append_assoc]
        rfl
      rw [e]
      exact h6
  · have hi' : i = n := by simp at h; omega
    rw [hi', List.take_of_length_le (by omega)] at h2
    exact ⟨xa, xn, xc, rfl, h2.rd (i := 0) rfl, h2.chg⟩

/-- The identifier of a thing of a row, as a row of bytes. -/
theorem RdR_idRow {w : World} {a : Option Addr} {n c : Nat} {l : Refs} (h : RdR w a n c l) {i : Nat} {r : RefD} (hx : l[i]? = some r) : ∃ b o, a = some ⟨b, o, none⟩ ∧ ∀ w', RdR w' a n c l → RdB w' (some ⟨b, o + Int.toNat (i : Int) * 35, none⟩) 32 32 r.id := by
  obtain ⟨b, o, rfl, hr⟩ := h.at_ (by decide) hx
  refine ⟨b, o, rfl, fun w' h' => ⟨.inr ⟨b, _, rfl, fun j v hj => ?_⟩, by simp [r.idl], Nat.le_refl _, by simp⟩⟩
  rw [Int.toNat_natCast]
  refine hr w' h' j v ?_
  rw [refC, List.getElem?_append_left (List.getElem?_eq_some_iff.1 hj).1]; exact hj
theorem ref_at (r : RefD) : (refC r)[33]? = some (.int .i64 r.at_) := by rw [refC, List.getElem?_append_right (by simp [r.idl])]; simp [r.idl]
theorem ref_len (r : RefD) : (refC r)[34]? = some (.int .i64 r.len) := by rw [refC, List.getElem?_append_right (by simp [r.idl])]; simp [r.idl]

set_option maxHeartbeats 1000000 in
theorem rEncode_spec (a : Option Addr) (n c : Nat) (l : Refs) (w : World) (hr : RdR w a n c l) (hb : n ≤ 100000) :
    Calls Try.prog 31 #[.slice a n c] w fun e w' => ∃ a' n' c', e = .returned (.tuple #[.slice a' n' c', .int .i64 (if isSeg l then 0 else 28)]) ∧ RdB w' a' n' c' (if isSeg l then encF l else []) ∧ Chg [] w w' := by
  have hln := hr.num (by decide)
  apply amphoraref14_Encode_vc
  refine (rCheck_spec a n c l w hr (by omega)).mono ?_
  rintro e w1 ⟨rfl, c1⟩
  refine ⟨_, rfl, fun h => ?_, fun h => ?_⟩
  · have hs : isSeg l = false := by
      cases hq : isSeg l with
      | false => rfl
      | true => rw [hq] at h; simp at h
    rw [hs]
    exact ⟨none, 0, 0, rfl, rdNil _, c1⟩
  have hs : isSeg l = true := by
    cases hq : isSeg l with
    | true => rfl
    | false => rw [hq] at h; simp at h
  have hgood := seg_good hs
  rw [hs]
  have h1 : St w [] w1 [.row 5 1 (.slice none 0 0) 0 (bv (encF (l.take 0)))] := ((St.start w).same c1).addNil _ _
  refine ⟨fun xa xn xc x w' => ∃ i : Nat, x = (i : Int) ∧ i ≤ n ∧ St w [] w' [.row 5 1 (.slice xa xn xc) xn (bv (encF (l.take i)))], fun _ _ _ x _ => n - x.toNat, ⟨0, rfl, by omega, h1⟩, ?_⟩
  rintro xa xn xc x w2 ⟨i, rfl, hi, h2⟩
  have hxn : xn ≤ 59 * i := by
    have e1 := (h2.rd (i := 0) rfl).lenB
    have e2 := encF_len (l.take i)
    rw [List.length_take] at e2
    omega
  refine ⟨fun h => ?_, fun h => ?_⟩
  · have hi' : i < n := by simp at h; omega
    obtain ⟨r, hri⟩ : ∃ r, l[i]? = some r := ⟨_, List.getElem?_eq_getElem (by omega)⟩
    obtain ⟨g1, g2, g3⟩ := good_bounds (List.all_eq_true.1 hgood r (List.mem_of_getElem? hri))
    have p1 := r.pk.2
    have p2 := r.ak.2
    have p3 := r.lk.2
    obtain ⟨b, o, ha, q⟩ := RdR_idRow hr hri
    obtain ⟨b1, o1, ha1, q1⟩ := hr.fld (P := Try.prog) (by decide) inA (j := 32) hri (ref_pack _)
    obtain ⟨b2, o2, ha2, q2⟩ := hr.fld (P := Try.prog) (by decide) inA (j := 33) hri (ref_at _)
    obtain ⟨b3, o3, ha3, q3⟩ := hr.fld (P := Try.prog) (by decide) inA (j := 34) hri (ref_len _)
    obtain ⟨va, vc, w3, r3, h3⟩ := h2.appendB (i := 0) rfl (q w2 (hr.keep0 h2.chg)) (by omega)
    have h3 : St w [] w3 [.row 5 1 (.slice va (xn + 32) vc) (xn + 32) (bv (encF (l.take i) ++ r.id))] := h3
    have PUSH : ∀ (w3 : World) (va : Option Addr) (k vc : Nat) (s : List UInt8) (m : Nat), m < 9223372036854775808 → k ≤ 7000000 → St w [] w3 [.row 5 1 (.slice va k vc) k (bv s)] →
        Calls Try.prog 48 #[.int .i64 (m : Int)] w3 fun e w4 => ∃ a4 n4 c4, e = .returned (.slice a4 n4 c4) ∧ ∃ va' n' vc' w5, (Builtin.append_ #[63, 63] 63 #[.slice va k vc, .slice a4 n4 c4]).run Try.prog w4 = .ok (.slice va' n' vc') w5 ∧ n' ≤ k + 9 ∧ St w [] w5 [.row 5 1 (.slice va' n' vc') n' (bv (s ++ varL m))] := by
      intro w3 va k vc s m hm hk h3
      refine (rvar_spec m w3 hm).mono ?_
      rintro e w4 ⟨a4, n4, c4, rfl, hf⟩
      have h4 : St w [] w4 [.row 5 1 (.slice va k vc) k (bv s), .row 5 1 (.slice a4 n4 c4) n4 (bv (varL m))] := hf.add h3
      have hr4 : RdB w4 a4 n4 c4 (varL m) := h4.rd (i := 1) rfl
      have hn4 := hr4.lenB
      have hv9 := varL_le9 (n := m) hm
      obtain ⟨va8, vc8, w8, r8, h8⟩ := h4.appendB (i := 0) rfl hr4 (by omega)
      exact ⟨a4, n4, c4, rfl, va8, _, vc8, w8, r8, by omega, h8.sub (List.Sublist.cons_cons _ (List.nil_sublist _))⟩
    obtain ⟨m1, hm1⟩ := Int.eq_ofNat_of_zero_le g1
    obtain ⟨m2, hm2⟩ := Int.eq_ofNat_of_zero_le g2
    obtain ⟨m3, hm3⟩ := Int.eq_ofNat_of_zero_le g3
    have v1 := q1 w3 (hr.keep0 h3.chg)
    rw [hm1] at v1
    refine ⟨b, o, ha, by omega, by omega, by omega, by omega, va, _, vc, w3, r3, b1, o1, ha1, by omega, by omega, _, v1, (PUSH w3 va _ vc _ m1 (by omega) (by omega) h3).mono ?_⟩
    rintro e w4 ⟨a4, n4, c4, rfl, va5, n5, vc5, w5, r5, hn5, h5⟩
    have v2 := q2 w5 (hr.keep0 h5.chg)
    rw [hm2] at v2
    refine ⟨a4, n4, c4, rfl, va5, n5, vc5, w5, r5, b2, o2, ha2, by omega, by omega, _, v2, (PUSH w5 va5 _ vc5 _ m2 (by omega) (by omega) h5).mono ?_⟩
    rintro e w6 ⟨a6, n6, c6, rfl, va7, n7, vc7, w7, r7, hn7, h7⟩
    have v3 := q3 w7 (hr.keep0 h7.chg)
    rw [hm3] at v3
    refine ⟨a6, n6, c6, rfl, va7, n7, vc7, w7, r7, b3, o3, ha3, by omega, by omega, _, v3, (PUSH w7 va7 _ vc7 _ m3 (by omega) (by omega) h7).mono ?_⟩
    rintro e w8 ⟨a8, n8, c8, rfl, va9, n9, vc9, w9, r9, hn9, h9⟩
    refine ⟨a8, n8, c8, rfl, va9, n9, vc9, w9, r9, ⟨i + 1, wrap_succ hi' (by omega), by omega, ?_⟩, mu_succ hi' (by omega)⟩
    have e : encF (l.take (i + 1)) = encF (l.take i) ++ r.id ++ varL m1 ++ varL m2 ++ varL m3 := by
      rw [List.take_add_one, hri, Option.toList_some, encF_snoc, encR, hm1, hm2, hm3]
      simp [List.append_assoc]
    rw [e]
    exact h9
  · have hi' : i = n := by simp at h; omega
    rw [hi', List.take_of_length_le (by omega)] at h2
    exact ⟨xa, xn, xc, rfl, h2.rd (i := 0) rfl, h2.chg⟩

end Go.Proofs.Ytoianikapjkekaa
