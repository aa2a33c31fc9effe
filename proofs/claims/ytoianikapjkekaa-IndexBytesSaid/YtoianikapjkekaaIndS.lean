/- Chapter 14: Check, Add and Merge, the code's and the reference's (conditions: none). -/
import Derived.Test.YtoianikapjkekaaIndR
namespace Go.Proofs.Ytoianikapjkekaa
open Go Sx
set_option maxRecDepth 8000

theorem lexCmp_ge (l m : List UInt8) : decide (lexCmp l m ≥ 0) = !lexLt l m := by
  have := lexCmp_lt l m
  rw [← this]
  by_cases h : lexCmp l m < 0
  · simp [h, show ¬ lexCmp l m ≥ 0 by omega]
  · simp [h, show lexCmp l m ≥ 0 by omega]

def okAt (l : Refs) (i : Nat) : Bool := goodF (l.getD i ref0) && (i == 0 || lexLt (l.getD (i - 1) ref0).id (l.getD i ref0).id)
def okTo (l : Refs) (i : Nat) : Bool := (List.range i).all (okAt l)
def isSeg (l : Refs) : Bool := okTo l l.length
theorem okTo_succ (l : Refs) (i : Nat) : okTo l (i + 1) = (okTo l i && okAt l i) := by rw [okTo, okTo, List.range_succ, List.all_append]; simp
theorem okTo_bad {l : Refs} {i : Nat} (h : okAt l i = false) (hi : i < l.length) : isSeg l = false := by
  rw [isSeg, okTo, List.all_eq_false]
  exact ⟨i, List.mem_range.2 hi, by simp [h]⟩

theorem iCheck_spec (a : Option Addr) (n c : Nat) (l : Refs) (w : World) (hr : RdR w a n c l) (hb : n ≤ 4611686018427387904) :
    Calls Try.prog 17 #[.slice a n c] w fun e w' => e = .returned (errV (if isSeg l then none else some 28)) ∧ Chg [] w w' := by
  have hln := hr.num (by decide)
  apply index_Check_vc
  refine ⟨fun x w' => ∃ i : Nat, x = (i : Int) ∧ i ≤ n ∧ okTo l i = true ∧ Chg [] w w', fun x _ => n - x.toNat, ⟨0, rfl, by omega, rfl, Chg.refl _ _⟩, ?_⟩
  rintro x w1 ⟨i, rfl, hi, hok, hc⟩
  refine ⟨fun h => ?_, fun h => ?_⟩
  · have hi' : i < n := by simp at h; omega
    have hri : l[i]? = some (l.getD i ref0) := by rw [List.getD, List.getElem?_eq_getElem (by omega)]; rfl
    obtain ⟨r, hrr⟩ : ∃ r, l.getD i ref0 = r := ⟨_, rfl⟩
    rw [hrr] at hri
    obtain ⟨b, o, ha, q⟩ := hr.ld (P := Try.prog) (by decide) rfA rfS hri
    obtain ⟨g4, w2, r2, h2⟩ := ((St.start w).same hc).zeroA rfZ
    obtain ⟨w3, r3, h3⟩ := h2.stA (i := 0) (v := refC r) rfl (rfS _) (refC_len _) (refC_len _) (refC_one r)
    have h3 : St w [] w3 [.arr g4 52 (refC r)] := h3
    refine ⟨b, o, ha, by omega, by omega, _, q w1 (hr.keep0 hc), g4, w2, r2, w3, r3, fun x w' => x = !okAt l i ∧ Chg [] w w', ⟨fun w' => St w [] w' [.arr g4 52 (refC r)], h3.drew, _, fun w' h => h.ldA (i := 0) (l := refC r) rfl (rfA _) (rfS _) (refC_len r), (good_spec r w3.drew).mono ?_⟩, ?_⟩
    · rintro e w4 ⟨rfl, c4⟩
      have h4 := h3.drew.same c4
      refine ⟨_, rfl, fun w' => St w [] w' [.arr g4 52 (refC r)], fun _ h => h, h4, fun hg => ⟨h4, ?_, h4.chg⟩, fun hg => ⟨fun h0 => ?_, fun h0 => ⟨h4, ?_, h4.chg⟩⟩⟩
      · have : goodF r = false := by simpa using hg
        rw [okAt, hrr, this]
        rfl
      · have hi0 : 0 < i := by simp at h0; omega
        have hgr : goodF r = true := by simpa using hg
        have hpi : l[i - 1]? = some (l.getD (i - 1) ref0) := by rw [List.getD, List.getElem?_eq_getElem (by omega)]; rfl
        obtain ⟨b2, o2, ha2, q2⟩ := RdR_id hr hpi
        have wi : IntKind.wrap .i64 ((i : Int) - 1) = ((i - 1 : Nat) : Int) := by rw [wrap_i64 (by omega) (by omega)]; omega
        rw [wi]
        refine ⟨b2, o2, ha2, by omega, by omega, _, fun w' h => q2 w' (hr.keep0 (St.chg h)), _, fun w' h => refId h (i := 0) rfl, Calls.mono (compareG _ r.id w4 (RefD.idl _) r.idl) ?_⟩
        rintro e w5 ⟨rfl, hg5⟩
        obtain ⟨q5, os5, rfl⟩ := hg5
        have c5 : Chg [] w4 (Sort.grow (w4.drewN q5) os5) := ⟨rfl, rfl, rfl, by simp [Sort.grow, World.drewN], fun k hk _ => by simp [Sort.grow, World.drewN, Array.getElem?_append_left hk]⟩
        refine ⟨_, rfl, fun w' => St w [] w' [.arr g4 52 (refC r)], fun _ h => h, h4.same c5, ?_, (h4.same c5).chg⟩
        rw [lexCmp_ge, okAt, hrr, hgr, show (i == 0) = false by simp; omega]
        rfl
      · have hi0 : i = 0 := by simp at h0; omega
        have hgr : goodF r = true := by simpa using hg
        rw [okAt, hrr, hgr, show (i == 0) = true by simp [hi0]]
        rfl
    · rintro y w6 ⟨rfl, c6⟩
      refine ⟨fun hbad => ?_, fun hgd => ⟨⟨i + 1, wrap_succ hi' hb, by omega, ?_, c6⟩, mu_succ hi' hb⟩⟩
      · rw [okTo_bad (by simpa using hbad) (by omega)]
        exact ⟨rfl, c6⟩
      · rw [okTo_succ, hok]
        simpa using hgd
  · have hi' : i = n := by simp at h; omega
    rw [hi', ← hln] at hok
    have : isSeg l = true := hok
    rw [this]
    exact ⟨rfl, hc⟩

theorem rCheck_spec (a : Option Addr) (n c : Nat) (l : Refs) (w : World) (hr : RdR w a n c l) (hb : n ≤ 4611686018427387904) :
    Calls Try.prog 27 #[.slice a n c] w fun e w' => e = .returned (.int .i64 (if isSeg l then 0 else 28)) ∧ Chg [] w w' := by
  have hln := hr.num (by decide)
  apply amphoraref14_Check_vc
  refine ⟨fun x w' => ∃ i : Nat, x = (i : Int) ∧ i ≤ n ∧ okTo l i = true ∧ Chg [] w w', fun x _ => n - x.toNat, ⟨0, rfl, by omega, rfl, Chg.refl _ _⟩, ?_⟩
  rintro x w1 ⟨i, rfl, hi, hok, hc⟩
  refine ⟨fun h => ?_, fun h => ?_⟩
  · have hi' : i < n := by simp at h; omega
    have hri : l[i]? = some (l.getD i ref0) := by rw [List.getD, List.getElem?_eq_getElem (by omega)]; rfl
    obtain ⟨r, hrr⟩ : ∃ r, l.getD i ref0 = r := ⟨_, rfl⟩
    rw [hrr] at hri
    obtain ⟨b, o, ha, q⟩ := hr.ld (P := Try.prog) (by decide) rfA rfS hri
    obtain ⟨b3, o3, ha3, q3⟩ := RdR_id hr hri
    have hd := hc.trans (Chg.drew [] w1)
    refine ⟨fun x w' => x = !okAt l i ∧ Chg [] w w', ⟨fun w' => Chg [] w w', hd, b, o, ha, by omega, by omega, _, fun w' h => q w' (hr.keep0 h), (rgood_spec r w1.drew).mono ?_⟩, ?_⟩
    · rintro e w4 ⟨rfl, c4⟩
      have h4 := hd.trans c4
      refine ⟨_, rfl, fun w' => Chg [] w w', fun _ h => h, h4, fun hg => ⟨h4, ?_, h4⟩, fun hg => ⟨fun h0 => ?_, fun h0 => ⟨h4, ?_, h4⟩⟩⟩
      · have : goodF r = false := by simpa using hg
        rw [okAt, hrr, this]
        rfl
      · have hi0 : 0 < i := by simp at h0; omega
        have hgr : goodF r = true := by simpa using hg
        have hpi : l[i - 1]? = some (l.getD (i - 1) ref0) := by rw [List.getD, List.getElem?_eq_getElem (by omega)]; rfl
        obtain ⟨b2, o2, ha2, q2⟩ := RdR_id hr hpi
        have wi : IntKind.wrap .i64 ((i : Int) - 1) = ((i - 1 : Nat) : Int) := by rw [wrap_i64 (by omega) (by omega)]; omega
        rw [wi]
        refine ⟨b2, o2, ha2, by omega, by omega, b3, o3, ha3, by omega, by omega, _, fun w' h => q2 w' (hr.keep0 h), _, fun w' h => q3 w' (hr.keep0 h), (less_spec _ r.id w4 (RefD.idl _) r.idl).mono ?_⟩
        rintro e w5 ⟨rfl, c5⟩
        refine ⟨_, rfl, fun w' => Chg [] w w', fun _ h => h, h4.trans c5, ?_, h4.trans c5⟩
        rw [okAt, hrr, hgr, show (i == 0) = false by simp; omega]
        rfl
      · have hi0 : i = 0 := by simp at h0; omega
        have hgr : goodF r = true := by simpa using hg
        rw [okAt, hrr, hgr, show (i == 0) = true by simp [hi0]]
        rfl
    · rintro y w6 ⟨rfl, c6⟩
      refine ⟨fun hbad => ?_, fun hgd => ⟨⟨i + 1, wrap_succ hi' hb, by omega, ?_, c6⟩, mu_succ hi' hb⟩⟩
      · rw [okTo_bad (by simpa using hbad) (by omega)]
        exact ⟨rfl, c6⟩
      · rw [okTo_succ, hok]
        simpa using hgd
  · have hi' : i = n := by simp at h; omega
    rw [hi', ← hln] at hok
    have : isSeg l = true := hok
    rw [this]
    exact ⟨rfl, hc⟩

theorem rAdd_spec (a : Option Addr) (n c : Nat) (S : Refs) (a2 : Option Addr) (n2 c2 : Nat) (l : Refs) (w : World) (hr : RdR w a n c S) (hr2 : RdR w a2 n2 c2 l) (hb : n + n2 ≤ 1000000) :
    Calls Try.prog 20 #[.slice a n c, .slice a2 n2 c2] w fun e w' => Chg [] w w' ∧ ((l.all goodF = true ∧ ∃ a' n' c', e = .returned (.tuple #[.slice a' n' c', .int .i64 0]) ∧ RdR w' a' n' c' (addF S l)) ∨ (l.all goodF = false ∧ e = .returned (.tuple #[.slice none 0 0, .int .i64 28]))) := by
  have hln := hr.num (by decide)
  have hln2 := hr2.num (by decide)
  apply amphoraref14_Add_vc
  refine ⟨fun x w' => ∃ i : Nat, x = (i : Int) ∧ i ≤ n2 ∧ (l.take i).all goodF = true ∧ Chg [] w w', fun x _ => n2 - x.toNat, ⟨0, rfl, by omega, by simp, Chg.refl _ _⟩, ?_⟩
  rintro x w1 ⟨i, rfl, hi, hall, hc⟩
  refine ⟨fun h => ?_, fun h => ?_⟩
  · have hi' : i < n2 := by simp at h; omega
    have hri : l[i]? = some l[i] := List.getElem?_eq_getElem (by omega)
    obtain ⟨b, o, ha, q⟩ := hr2.ld (P := Try.prog) (by decide) rfA rfS hri
    refine ⟨b, o, ha, by omega, by omega, _, q w1 (hr2.keep0 hc), (rgood_spec l[i] w1).mono ?_⟩
    rintro e w2 ⟨rfl, c2⟩
    refine ⟨_, rfl, fun hg => ?_, fun hg => ⟨⟨i + 1, wrap_succ hi' (by omega), by omega, ?_, hc.trans c2⟩, mu_succ hi' (by omega)⟩⟩
    · have hgf : goodF l[i] = false := by simpa using hg
      have : l.all goodF = false := by
        rw [List.all_eq_false]
        exact ⟨l[i], List.getElem_mem _, by simp [hgf]⟩
      exact ⟨hc.trans c2, .inr ⟨this, rfl⟩⟩
    · rw [List.take_add_one, hri, List.all_append, hall]
      simpa using hg
  · have hi' : i = n2 := by simp at h; omega
    rw [hi', List.take_of_length_le (by omega)] at hall
    refine ⟨fun xa xn xc y w' => ∃ j : Nat, y = (j : Int) ∧ j ≤ n2 ∧ RdR w' xa xn xc (addF S (l.take j)) ∧ Chg [] w w', fun _ _ _ y _ => n2 - y.toNat, ⟨0, rfl, by omega, by simpa [addF] using hr.keep0 hc, hc⟩, ?_⟩
    rintro xa xn xc y w3 ⟨j, rfl, hj, hr3, c3⟩
    have hn3 := hr3.num (by decide)
    have hlen := addF_len (l.take j) S
    have htl : (l.take j).length ≤ n2 := by rw [List.length_take]; omega
    refine ⟨fun h => ?_, fun h => ?_⟩
    · have hj' : j < n2 := by simp at h; omega
      have hri : l[j]? = some l[j] := List.getElem?_eq_getElem (by omega)
      obtain ⟨b, o, ha, q⟩ := hr2.ld (P := Try.prog) (by decide) rfA rfS hri
      refine ⟨b, o, ha, by omega, by omega, _, q w3 (hr2.keep0 c3), (with_spec xa xn xc _ l[j] w3 hr3 (by omega)).mono ?_⟩
      rintro e w4 ⟨a4, n4, c4, rfl, hr4, d4⟩
      refine ⟨a4, n4, c4, rfl, ⟨j + 1, wrap_succ hj' (by omega), by omega, ?_, c3.trans d4⟩, mu_succ hj' (by omega)⟩
      have e : addF S (l.take j ++ [l[j]]) = withF (addF S (l.take j)) l[j] := by rw [addF, List.foldl_append]; rfl
      rw [List.take_add_one, hri]
      show RdR w4 a4 n4 c4 (addF S (l.take j ++ [l[j]]))
      rw [e]
      exact hr4
    · have hj' : j = n2 := by simp at h; omega
      rw [hj', List.take_of_length_le (by omega)] at hr3
      exact ⟨c3, .inl ⟨hall, xa, xn, xc, rfl, hr3⟩⟩

end Go.Proofs.Ytoianikapjkekaa
