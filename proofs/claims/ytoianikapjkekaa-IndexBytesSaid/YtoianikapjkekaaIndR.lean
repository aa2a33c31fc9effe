/- Chapter 14's reference: good, Less, Check, With, Add, Merge; Same (conditions: none). -/
import Derived.Test.YtoianikapjkekaaIndG
import Derived.Test.YtoianikapjkekaaVref14
namespace Go.Proofs.Ytoianikapjkekaa
open Go Sx
set_option maxRecDepth 8000

theorem rgood_spec (r : RefD) (w : World) : Calls Try.prog 40 #[.agg (refC r).toArray] w fun e w' => e = .returned (.bool (goodF r)) ∧ Chg [] w w' := by
  apply amphoraref14_good_vc
  obtain ⟨g1, w1, r1, h1⟩ := (St.start w).boxA (P := Try.prog) 52 (refC r)
  obtain ⟨f1, f2, f3⟩ := refFld h1 (i := 0) rfl
  refine ⟨g1, w1, r1, _, f1, fun h => ⟨_, f1, fun h2 => ⟨_, f2, fun h3 => ⟨_, f3, ?_, h1.chg⟩, fun h3 => ⟨?_, h1.chg⟩⟩, fun h2 => ⟨?_, h1.chg⟩⟩, fun h => ⟨?_, h1.chg⟩⟩
  all_goals
    congr 2
    unfold goodF
    simp only [ge_iff_le, decide_eq_true_eq, decide_eq_false_iff_not] at *
    simp [*]

theorem lex_at : ∀ (i : Nat) (l m : List UInt8) (a b : UInt8), l.take i = m.take i → l[i]? = some a → m[i]? = some b → a ≠ b → lexLt l m = decide (a.toNat < b.toNat)
  | 0, [], _, _, _, _, h, _, _ => by simp at h
  | 0, _ :: _, [], _, _, _, _, h, _ => by simp at h
  | 0, x :: l, y :: m, a, b, _, h1, h2, h3 => by
    simp only [List.getElem?_cons_zero, Option.some.injEq] at h1 h2
    subst h1 h2
    have : x.toNat ≠ y.toNat := fun e => h3 (UInt8.toNat_inj.1 e)
    simp only [lexLt]
    by_cases h : x.toNat < y.toNat
    · simp [h]
    · simp [h, show y.toNat < x.toNat by omega]
  | i + 1, [], _, _, _, _, h, _, _ => by simp at h
  | i + 1, _ :: _, [], _, _, _, _, h, _ => by simp at h
  | i + 1, x :: l, y :: m, a, b, ht, h1, h2, h3 => by
    simp only [List.take_succ_cons, List.cons.injEq, List.getElem?_cons_succ] at ht h1 h2
    obtain ⟨rfl, ht⟩ := ht
    have := lex_at i l m a b ht h1 h2 h3
    simp only [lexLt, Nat.lt_irrefl, if_false, this]

theorem less_spec (l m : List UInt8) (w : World) (hl : l.length = 32) (hm : m.length = 32) :
    Calls Try.prog 45 #[.agg (bv l).toArray, .agg (bv m).toArray] w fun e w' => e = .returned (.bool (lexLt l m)) ∧ Chg [] w w' := by
  apply amphoraref14_Less_vc
  obtain ⟨g2, w1, r1, h1⟩ := (St.start w).boxA (P := Try.prog) 40 (bv l)
  obtain ⟨g3, w2, r2, h2⟩ := h1.boxA (P := Try.prog) 40 (bv m)
  refine ⟨g2, w1, r1, g3, w2, r2, fun x w' => ∃ i : Nat, x = (i : Int) ∧ i ≤ 32 ∧ l.take i = m.take i ∧ St w [] w' [.arr g2 40 (bv l), .arr g3 40 (bv m)], fun x _ => 32 - x.toNat, ⟨0, rfl, by omega, rfl, h2⟩, ?_⟩
  rintro x w3 ⟨i, rfl, hi, ht, h3⟩
  refine ⟨fun h => ?_, fun h => ?_⟩
  · have hi' : i < 32 := by simp at h; omega
    have ha : l[i]? = some l[i] := List.getElem?_eq_getElem (by omega)
    have hb : m[i]? = some m[i] := List.getElem?_eq_getElem (by omega)
    have L : ∀ w', St w [] w' [.arr g2 40 (bv l), .arr g3 40 (bv m)] → (Instr.loadAt 5 (.pointer (some ⟨g2, 0 + Int.toNat (i : Int) * 1, none⟩))).run Try.prog w' = .ok (.int .u8 (l[i].toNat : Int)) w' ∧ (Instr.loadAt 5 (.pointer (some ⟨g3, 0 + Int.toNat (i : Int) * 1, none⟩))).run Try.prog w' = .ok (.int .u8 (m[i].toNat : Int)) w' := fun w' h' =>
      ⟨h'.ldL (i := 0) (o := i) rfl (bA _) (by omega) (by rw [bv_get, ha]; rfl), h'.ldL (i := 1) (o := i) rfl (bA _) (by omega) (by rw [bv_get, hb]; rfl)⟩
    refine ⟨fun w' => St w [] w' [.arr g2 40 (bv l), .arr g3 40 (bv m)], h3.drew, by omega, by omega, by omega, by omega, _, fun w' h => (L w' h).1, _, fun w' h => (L w' h).2, fun hne => ?_, fun heq => ?_⟩
    · refine ⟨fun w' => St w [] w' [.arr g2 40 (bv l), .arr g3 40 (bv m)], h3.drew.drew, by omega, by omega, by omega, by omega, _, fun w' h => (L w' h).1, _, fun w' h => (L w' h).2, ?_, h3.drew.drew.chg⟩
      have : l[i] ≠ m[i] := fun e => by rw [e] at hne; simp at hne
      rw [lex_at i l m _ _ ht ha hb this]
      congr 2
      simp
    · have e : l[i] = m[i] := UInt8.toNat_inj.1 (by simp at heq; omega)
      refine ⟨⟨i + 1, wrap_succ hi' (by omega), by omega, ?_, h3.drew⟩, mu_succ hi' (by omega)⟩
      rw [List.take_add_one, List.take_add_one, ht, ha, hb, e]
  · have hi' : i = 32 := by simp at h; omega
    rw [hi', List.take_of_length_le (by omega), List.take_of_length_le (by omega)] at ht
    rw [ht, lex_irrefl]
    exact ⟨rfl, h3.chg⟩

/-- Is a list a segment? -/
def segB : Refs → Bool
  | [] => true
  | [r] => goodF r
  | r :: s :: l => goodF r && lexLt r.id s.id && segB (s :: l)
def segF (l : Refs) : Bool := (List.range l.length).all fun i => goodF (l.getD i ref0) && (i == 0 || lexLt (l.getD (i - 1) ref0).id (l.getD i ref0).id)

theorem segF_step {l : Refs} {i : Nat} (h : i < l.length) : ((List.range (i + 1)).all fun i => goodF (l.getD i ref0) && (i == 0 || lexLt (l.getD (i - 1) ref0).id (l.getD i ref0).id)) = (((List.range i).all fun i => goodF (l.getD i ref0) && (i == 0 || lexLt (l.getD (i - 1) ref0).id (l.getD i ref0).id)) && (goodF (l.getD i ref0) && (i == 0 || lexLt (l.getD (i - 1) ref0).id (l.getD i ref0).id))) := by
  rw [List.range_succ, List.all_append]; simp

theorem rsame13_spec (a : Option Addr) (n c : Nat) (l : Refs) (a2 : Option Addr) (n2 c2 : Nat) (m : Refs) (w : World) (hr : RdR w a n c l) (hr2 : RdR w a2 n2 c2 m) (hb : n ≤ 4611686018427387904) :
    Calls Try.prog 14 #[.slice a n c, .slice a2 n2 c2] w fun e w' => (e = .returned (.bool true) ∧ l = m ∨ e = .returned (.bool false) ∧ l ≠ m) ∧ Chg [] w w' := by
  have e1 := hr.num (by decide)
  have e2 := hr2.num (by decide)
  apply amphoraref13_Same_vc
  refine ⟨fun h => ?_, fun h => ?_⟩
  · have hne : l ≠ m := fun e => by subst e; simp at h; omega
    exact ⟨.inr ⟨rfl, hne⟩, Chg.refl _ _⟩
  have hnn : n = n2 := by simp at h; omega
  refine ⟨fun x w' => ∃ i : Nat, x = (i : Int) ∧ i ≤ n ∧ Chg [] w w' ∧ l.take i = m.take i, fun x _ => n - x.toNat, ⟨0, rfl, by omega, Chg.refl _ _, rfl⟩, ?_⟩
  rintro x w1 ⟨i, rfl, hi, hc, ht⟩
  refine ⟨fun h => ?_, fun h => ?_⟩
  · have hi' : i < n := by simp at h; omega
    have hd := hc.trans (Chg.drew [] w1)
    have ha : l[i]? = some l[i] := List.getElem?_eq_getElem (by omega)
    have hb2 : m[i]? = some m[i] := List.getElem?_eq_getElem (by omega)
    obtain ⟨b, o, hab, q⟩ := hr.ld (P := Try.prog) (by decide) rfA rfS ha
    obtain ⟨b2, o2, hab2, q2⟩ := hr2.ld (P := Try.prog) (by decide) rfA rfS hb2
    refine ⟨fun w' => Chg [] w w', hd, b, o, hab, by omega, by omega, b2, o2, hab2, by omega, by omega, _, fun w' h => q w' (hr.keep0 h), _, fun w' h => q2 w' (hr2.keep0 h), _, fun w' _ => (eqRefs _ _ l[i] m[i] w').2, fun h => ?_, fun h => ?_⟩
    · have hne : l ≠ m := fun e => by
        subst e
        rw [(refEqB_iff _ _).2 rfl] at h
        cases h
      exact ⟨.inr ⟨rfl, hne⟩, hd⟩
    · have he : l[i] = m[i] := (refEqB_iff _ _).1 (by simpa using h)
      refine ⟨⟨i + 1, wrap_succ hi' hb, by omega, hd, ?_⟩, mu_succ hi' hb⟩
      rw [List.take_add_one, List.take_add_one, ht, ha, hb2, he]
  · have hi' : i = n := by simp at h; omega
    rw [hi', List.take_of_length_le (by omega), List.take_of_length_le (by omega)] at ht
    exact ⟨.inl ⟨rfl, ht⟩, hc⟩

theorem flat_snoc (l : Refs) (r : RefD) : (l ++ [r]).flatMap refC = l.flatMap refC ++ refC r := by simp

set_option maxHeartbeats 1000000 in
theorem with_spec (a : Option Addr) (n c : Nat) (S : Refs) (r : RefD) (w : World) (hr : RdR w a n c S) (hb : n ≤ 1000000) :
    Calls Try.prog 41 #[.slice a n c, .agg (refC r).toArray] w fun e w' => ∃ a' n' c', e = .returned (.slice a' n' c') ∧ RdR w' a' n' c' (withF S r) ∧ Chg [] w w' := by
  have hln := hr.num (by decide)
  apply amphoraref14_With_vc
  obtain ⟨g3, w1, r1, h1⟩ := (St.start w).boxA (P := Try.prog) 52 (refC r)
  have h1' : St w [] w1 [.arr g3 52 (refC r), .row 52 35 (.slice none 0 0) 0 (([] : Refs).flatMap refC)] := h1.addNil _ _
  refine ⟨g3, w1, r1, fun xa xn xc x6 x7 w' => ∃ (i : Nat) (out : Refs), x7 = (i : Int) ∧ i ≤ n ∧ xn = out.length ∧ out.length ≤ 2 * i ∧ out ++ withG (S.drop i) r x6 = withF S r ∧ St w [] w' [.arr g3 52 (refC r), .row 52 35 (.slice xa xn xc) xn (out.flatMap refC)], fun _ _ _ _ x7 _ => n - x7.toNat, ⟨0, [], rfl, by omega, rfl, by simp, by simp [withF], h1'⟩, ?_⟩
  rintro xa xn xc x6 x7 w2 ⟨i, out, rfl, hi, rfl, hol, hout, h2⟩
  have PUSH : ∀ (w' : World) (xa : Option Addr) (xc : Nat) (out : Refs) (s : RefD), out.length ≤ 3000000 → St w [] w' [.arr g3 52 (refC r), .row 52 35 (.slice xa out.length xc) out.length (out.flatMap refC)] →
      ∃ g w2 va vc w3, (Instr.buildSlice 24 1 #[(0, .agg (refC s).toArray)]).run Try.prog w' = .ok (.slice (some ⟨g, 0, none⟩) 1 1) w2 ∧ (Builtin.append_ #[24, 24] 24 #[.slice xa out.length xc, .slice (some ⟨g, 0, none⟩) 1 1]).run Try.prog w2 = .ok (.slice va (out.length + 1) vc) w3 ∧
        St w [] w3 [.arr g3 52 (refC r), .row 52 35 (.slice va (out ++ [s]).length vc) (out ++ [s]).length ((out ++ [s]).flatMap refC)] := fun w' xa xc out s hl h => by
    obtain ⟨g7, w7, vb, vd, w8, r7, r8, h8, _⟩ := h.pushA (i := 1) (ty := 24) rfT rfl (refC s) (refC_len s) (by decide) (refC_one s) (by omega) (by simp only [maxLen]; omega)
    refine ⟨g7, w7, vb, vd, w8, r7, r8, ?_⟩
    rw [flat_snoc, List.length_append, List.length_singleton]
    exact h8
  refine ⟨fun h => ?_, fun h => ?_⟩
  · have hi' : i < n := by simp at h; omega
    have hs : S[i]? = some S[i] := List.getElem?_eq_getElem (by omega)
    obtain ⟨s, hsd⟩ : ∃ s, S[i] = s := ⟨_, rfl⟩
    rw [hsd] at hs
    have hdr : S.drop i = s :: S.drop (i + 1) := by rw [List.drop_eq_getElem_cons (by omega : i < S.length), hsd]
    rw [hdr, withG] at hout
    obtain ⟨b, o, hab, q⟩ := RdR_id hr hs
    obtain ⟨b', o', hab', q'⟩ := hr.ld (P := Try.prog) (by decide) rfA rfS hs
    let T : World → Prop := fun w' => St w [] w' [.arr g3 52 (refC r), .row 52 35 (.slice xa out.length xc) out.length (out.flatMap refC)]
    refine ⟨fun x w' => x = (!x6 && !lexLt s.id r.id) ∧ St w [] w' [.arr g3 52 (refC r), .row 52 35 (.slice xa out.length xc) out.length (out.flatMap refC)], ⟨T, h2.drew, fun h6 => ?_, fun h6 => ?_⟩, ?_⟩
    · have hx6 : x6 = false := by simpa using h6
      refine ⟨b, o, hab, by omega, by omega, _, fun w' h => q w' (hr.keep0 (St.chg h)), _, fun w' h => refId h (i := 0) rfl, (less_spec s.id r.id w2.drew s.idl r.idl).mono ?_⟩
      rintro e w3 ⟨rfl, c3⟩
      have h3 := h2.drew.same c3
      exact ⟨_, rfl, T, fun _ h => h, h3, by rw [hx6]; simp, h3⟩
    · have hx6 : x6 = true := by simpa using h6
      exact ⟨h2.drew, by rw [hx6]; simp, h2.drew⟩
    rintro x26 w4 ⟨rfl, h4⟩
    refine ⟨fun ya yn yc y6 w' => ∃ out1 : Refs, out1 = out ++ (if (!x6 && !lexLt s.id r.id) = true then [r] else []) ∧ yn = out1.length ∧ y6 = (x6 || !lexLt s.id r.id) ∧ St w [] w' [.arr g3 52 (refC r), .row 52 35 (.slice ya yn yc) yn (out1.flatMap refC)], ⟨fun h26 => ?_, fun h26 => ?_⟩, ?_⟩
    · obtain ⟨g5, w5, va, vc, w6, r5, r6, h6⟩ := PUSH w4 xa xc out r (by omega) h4
      refine ⟨_, h4.ldA (i := 0) (l := refC r) rfl (rfA _) (rfS _) (refC_len r), _, _, _, w5, r5, va, _, vc, w6, r6, out ++ [r], by rw [if_pos h26], by simp, ?_, by simpa using h6⟩
      cases x6 <;> simp_all
    · refine ⟨out, by rw [if_neg (by simp [h26]), List.append_nil], rfl, ?_, h4⟩
      cases x6 <;> cases hq : lexLt s.id r.id <;> simp_all
    rintro ya yn yc y6 w7 ⟨out1, ho1, rfl, rfl, h7⟩
    have hl1 : out1.length ≤ 2 * i + 1 := by rw [ho1, List.length_append]; split <;> simp <;> omega
    refine ⟨fun w' => St w [] w' [.arr g3 52 (refC r), .row 52 35 (.slice ya out1.length yc) out1.length (out1.flatMap refC)], h7.drew, b, o, hab, by omega, by omega, _, fun w' h => q w' (hr.keep0 (St.chg h)), _, fun w' h => refId h (i := 0) rfl, _, fun w' _ => (eqIds _ _ s.id r.id s.idl r.idl w').2,
      fun za zn zc w' => ∃ out2 : Refs, out2 = out1 ++ (if s.id = r.id then [] else [s]) ∧ zn = out2.length ∧ St w [] w' [.arr g3 52 (refC r), .row 52 35 (.slice za zn zc) zn (out2.flatMap refC)], ⟨fun hne => ?_, fun hne => ?_⟩, ?_⟩
    · have hne' : s.id ≠ r.id := by simpa using hne
      obtain ⟨g5, w5, va, vc, w6, r5, r6, h6⟩ := PUSH w7.drew ya yc out1 s (by omega) h7.drew
      exact ⟨b', o', hab', by omega, by omega, _, q' w7.drew (hr.keep0 h7.drew.chg), _, _, _, w5, r5, va, _, vc, w6, r6, out1 ++ [s], by rw [if_neg hne'], by simp, by simpa using h6⟩
    · have he : s.id = r.id := by simpa using hne
      exact ⟨out1, by rw [if_pos he, List.append_nil], rfl, h7.drew⟩
    rintro za zn zc w10 ⟨out2, ho2, rfl, h10⟩
    refine ⟨⟨i + 1, out2, wrap_succ hi' (by omega), by omega, rfl, ?_, ?_, h10⟩, mu_succ hi' (by omega)⟩
    · rw [ho2, List.length_append]; split <;> simp <;> omega
    · rw [ho2, ho1, ← hout]; simp
  · have hi' : i = n := by simp at h; omega
    rw [hi', List.drop_of_length_le (by omega), withG] at hout
    refine ⟨fun ya yn yc w' => ∃ out1 : Refs, out1 = withF S r ∧ yn = out1.length ∧ St w [] w' [.arr g3 52 (refC r), .row 52 35 (.slice ya yn yc) yn (out1.flatMap refC)], ⟨fun h6 => ?_, fun h6 => ?_⟩, ?_⟩
    · have hx6 : x6 = false := by simpa using h6
      rw [hx6] at hout
      obtain ⟨g5, w5, va, vc, w6, r5, r6, h6⟩ := PUSH w2 xa xc out r (by omega) h2
      exact ⟨_, h2.ldA (i := 0) (l := refC r) rfl (rfA _) (rfS _) (refC_len r), _, _, _, w5, r5, va, _, vc, w6, r6, out ++ [r], by simpa using hout, by simp, by simpa using h6⟩
    · have hx6 : x6 = true := by simpa using h6
      rw [hx6] at hout
      exact ⟨out, by simpa using hout, rfl, h2⟩
    rintro ya yn yc w13 ⟨out1, ho1, rfl, h13⟩
    rw [ho1] at h13
    exact ⟨ya, _, yc, rfl, ⟨by rw [ho1]; exact h13.rd (i := 1) rfl, fun x _ => refC_len x⟩, h13.chg⟩

end Go.Proofs.Ytoianikapjkekaa
