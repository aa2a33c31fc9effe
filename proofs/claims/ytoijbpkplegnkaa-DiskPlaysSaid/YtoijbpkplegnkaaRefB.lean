/- The document's answer of chapter 1: with, made (conditions: those that each theorem names). -/
import Derived.Test.YtoijbpkplegnkaaRefA
namespace Go.Proofs.Ytoijbpkplegnkaa
open Go Sx
set_option maxRecDepth 8000

theorem insA_delA (d : Dir) (e : Ent) : insA Ent.name (delA Ent.name d e.name) e = insA Ent.name d e := by
  unfold insA delA
  rw [List.filter_filter, List.filter_filter]
  congr 1
  · refine List.filter_congr fun x _ => ?_
    by_cases h : x.name = e.name
    · rw [h, lex_irrefl]; rfl
    · simp [h]
  · congr 1
    refine List.filter_congr fun x _ => ?_
    by_cases h : x.name = e.name
    · rw [h, lex_irrefl]; rfl
    · simp [h]

theorem filt_all {α : Type} {l : List α} {p : α → Bool} (h : ∀ x ∈ l, p x = true) : l.filter p = l := List.filter_eq_self.2 h
theorem filt_none {α : Type} {l : List α} {p : α → Bool} (h : ∀ x ∈ l, p x = false) : l.filter p = [] := by
  rw [List.filter_eq_nil_iff]
  intro x hx
  rw [h x hx]; simp

/-- What `with` has put together behind some names. -/
def WithI (l : Dir) (e : Ent) (put : Bool) (out : Dir) : Prop :=
  (put = false ∧ out = l ∧ ∀ x ∈ l, lexLt x.name e.name = true) ∨ (put = true ∧ out = insA Ent.name l e ∧ ∃ x ∈ l, lexLt e.name x.name = true)

theorem WithI.skip {l : Dir} {e x : Ent} (h : ∀ y ∈ l, lexLt y.name e.name = true) (hx : lexLt x.name e.name = true) : WithI (l ++ [x]) e false (l ++ [x]) := .inl ⟨rfl, rfl, fun y hy => by
  rcases List.mem_append.1 hy with hy | hy
  · exact h y hy
  · simp at hy; subst hy; exact hx⟩
theorem WithI.put {l : Dir} {e x : Ent} (h : ∀ y ∈ l, lexLt y.name e.name = true) (hx : lexLt e.name x.name = true) : WithI (l ++ [x]) e true (l ++ [e] ++ [x]) := by
  refine .inr ⟨rfl, ?_, x, by simp, hx⟩
  have hx2 : lexLt x.name e.name = false := by
    cases h2 : lexLt x.name e.name with
    | false => rfl
    | true => have := lex_trans _ _ _ hx h2; rw [lex_irrefl] at this; cases this
  have hl2 : ∀ y ∈ l, lexLt e.name y.name = false := fun y hy => by
    cases h2 : lexLt e.name y.name with
    | false => rfl
    | true => have := lex_trans _ _ _ h2 (h y hy); rw [lex_irrefl] at this; cases this
  unfold insA
  rw [List.filter_append, List.filter_append, filt_all h, filt_none hl2]
  simp [hx, hx2]
theorem WithI.more {l : Dir} {e x : Ent} (hx : lexLt e.name x.name = true) (hex : ∃ y ∈ l, lexLt e.name y.name = true) : WithI (l ++ [x]) e true (insA Ent.name l e ++ [x]) := by
  obtain ⟨y, hy, hlt⟩ := hex
  have hx2 : lexLt x.name e.name = false := by
    cases h2 : lexLt x.name e.name with
    | false => rfl
    | true => have := lex_trans _ _ _ hx h2; rw [lex_irrefl] at this; cases this
  refine .inr ⟨rfl, ?_, y, by simp [hy], hlt⟩
  unfold insA
  rw [List.filter_append, List.filter_append]
  simp [hx, hx2]

theorem pushN {w0 w : World} {X : List Nat} {a : Option Addr} {c : Nat} {d : Dir} (h : St w0 X w [rowN a c d]) (e : Ent) (hb : d.length ≤ 1000001) :
    ∃ g w2 va vc w3, (Instr.buildSlice 99 1 #[(0, .agg (nC e).toArray)]).run Try.prog w = .ok (.slice (some ⟨g, 0, none⟩) 1 1) w2 ∧ (Builtin.append_ #[99, 99] 99 #[.slice a d.length c, .slice (some ⟨g, 0, none⟩) 1 1]).run Try.prog w2 = .ok (.slice va (d ++ [e]).length vc) w3 ∧ St w0 X w3 [rowN va vc (d ++ [e])] := by
  obtain ⟨g2, w2, va, vc, w3, r2, r3, h3, _⟩ := h.pushA (i := 0) (ty := 99) nT rfl (nC e) (nC_len e) (by decide) (nC_one e) (by omega) (by simp only [maxLen]; omega)
  have e1 : (d ++ [e]).length = d.length + 1 := by simp
  have e2 : (d ++ [e]).flatMap nC = d.flatMap nC ++ nC e := by simp
  refine ⟨g2, w2, va, vc, w3, r2, by rw [e1]; exact r3, ?_⟩
  unfold rowN
  rw [e1, e2]
  exact h3

set_option maxHeartbeats 1000000 in
theorem with_spec (a : Option Addr) (n c : Nat) (d : Dir) (nm : Nm) (f : Nat) (w : World) (hr : RdN w a n c d) (hasc : AscBy Ent.name d) (hb : n ≤ 100000) :
    Calls Try.prog 79 #[.slice a n c, strV nm, .int .i64 (f : Int)] w fun e w' => ∃ a' c', e = .returned (.slice a' (insA Ent.name d ⟨nm, f⟩).length c') ∧ St w [] w' [rowN a' c' (insA Ent.name d ⟨nm, f⟩)] := by
  have hln := hr.num (by decide)
  apply amphoraref01_with_vc
  refine (without_spec a n c d nm w hr (by omega)).mono ?_
  rintro e w1 ⟨oa, oc, rfl, k1⟩
  obtain ⟨E, hE⟩ : ∃ E : Ent, (⟨nm, f⟩ : Ent) = E := ⟨_, rfl⟩
  have hEn : E.name = nm := by rw [← hE]
  have hEf : E.file = f := by rw [← hE]
  have hfin : insA Ent.name (delA Ent.name d nm) E = insA Ent.name d E := by have := insA_delA d E; rw [hEn] at this; exact this
  obtain ⟨o, ho⟩ : ∃ o, delA Ent.name d nm = o := ⟨_, rfl⟩
  have hoasc : AscBy Ent.name o := by rw [← ho]; exact asc_delA hasc nm
  have honm : ∀ x ∈ o, x.name ≠ E.name := by rw [← ho, hEn]; exact fun x hx => (mem_delA.1 hx).2
  have holen : o.length ≤ n := by rw [← ho, ← hln]; exact delA_len _ _
  rw [ho] at k1 hfin ⊢
  rw [hE, ← hfin]
  have hro : RdN w1 oa o.length oc o := rdN_of k1 (i := 0) rfl
  have hbld : ∀ w', (Instr.build 127 #[(0, strV nm), (1, .int .i64 (f : Int))]).run Try.prog w' = .ok (.agg (nC E).toArray) w' := fun w' => by
    have := n_build E w'
    rw [hEn, hEf] at this
    exact this
  refine ⟨_, _, _, rfl, fun xa xn xc p x w' => ∃ (i : Nat) (out : Dir), x = (i : Int) ∧ i ≤ o.length ∧ xn = out.length ∧ out.length ≤ i + 1 ∧ WithI (o.take i) E p out ∧ Chg [] w w' ∧ St w1 [] w' [rowN xa xc out], fun _ _ _ _ x _ => o.length - x.toNat, ⟨0, [], rfl, by omega, rfl, by simp, .inl ⟨rfl, by simp, by simp⟩, k1.chg, (St.start w1).addNil _ _⟩, ?_⟩
  rintro xa xn xc p x w2 ⟨i, out, rfl, hi, rfl, hol, hW, c2, k2⟩
  refine ⟨fun h => ?_, fun h => ?_⟩
  · have hi' : i < o.length := by simp at h; omega
    have he : o[i]? = some o[i] := List.getElem?_eq_getElem hi'
    obtain ⟨e, hed⟩ : ∃ e, o[i] = e := ⟨_, rfl⟩
    rw [hed] at he
    have hne := honm e (List.mem_of_getElem? he)
    have htk : o.take (i + 1) = o.take i ++ [e] := by rw [List.take_add_one, he]; rfl
    obtain ⟨b, q, ha, ql⟩ := hro.fld he
    have hlo : ∀ {w'}, Chg [] w1 w' → (Instr.loadAt 127 (.pointer (some ⟨b, q + Int.toNat (i : Int) * 2, none⟩))).run Try.prog w' = .ok (.agg (nC e).toArray) w' := fun hc => (ql _ (hro.keep0 hc)).2.2
    refine ⟨fun x w' => x = (!p && lexLt E.name e.name) ∧ w' = w2, ⟨fun hp => ⟨b, q, ha, by omega, by omega, _, (ql _ (hro.keep0 k2.chg)).1, _, gtrStr e.name nm _ _ w2, ?_, rfl⟩, fun hp => ⟨?_, rfl⟩⟩, ?_⟩
    · rw [hp, hEn]; rfl
    · rw [hp]; rfl
    rintro x w3 ⟨rfl, rfl⟩
    refine ⟨fun ya yn yc p' w' => ∃ out', yn = out'.length ∧ out'.length ≤ i + 1 ∧ WithI (o.take (i + 1)) E p' (out' ++ [e]) ∧ Chg [] w w' ∧ St w1 [] w' [rowN ya yc out'], ⟨fun hput => ?_, fun hput => ?_⟩, ?_⟩
    · simp only [Bool.and_eq_true, Bool.not_eq_true'] at hput
      obtain ⟨hp, hlt⟩ := hput
      rcases hW with ⟨_, rfl, hall⟩ | ⟨hp2, _⟩
      · obtain ⟨g4, w4, va, vc, w5, r4, r5, k5⟩ := pushN k2 E (by simp; omega)
        refine ⟨_, hbld w3, _, _, _, w4, r4, va, _, vc, w5, r5, _, rfl, by simp; omega, ?_, ?_, k5⟩
        · rw [htk]; exact WithI.put hall hlt
        · exact k1.chg.trans k5.chg
      · rw [hp] at hp2; cases hp2
    · refine ⟨out, rfl, ?_, ?_, c2, k2⟩
      · rcases hW with ⟨_, rfl, _⟩ | ⟨_, rfl, y, hy, _⟩
        · simp; omega
        · exact hol
      · rcases hW with ⟨hp, rfl, hall⟩ | ⟨hp, rfl, y, hy, hlt⟩
        · rw [hp] at hput ⊢
          have hnlt : lexLt E.name e.name = false := by simpa using hput
          have hlt : lexLt e.name E.name = true := by
            cases h2 : lexLt e.name E.name with
            | true => rfl
            | false => exact absurd (lex_tri _ _ h2 hnlt) hne
          rw [htk]; exact WithI.skip hall hlt
        · rw [hp]
          have hye : lexLt y.name e.name = true := by
            obtain ⟨j, hj⟩ := List.getElem?_of_mem hy
            have hjl : j < (o.take i).length := (List.getElem?_eq_some_iff.1 hj).1
            have hji : j < i := by simp at hjl; omega
            rw [List.getElem?_take, if_pos hji] at hj
            obtain ⟨hj1, hj2⟩ := List.getElem?_eq_some_iff.1 hj
            have := List.pairwise_iff_getElem.1 hoasc j i hj1 hi' hji
            rw [hj2, hed] at this
            exact this
          rw [htk]; exact WithI.more (lex_trans _ _ _ hlt hye) ⟨y, hy, hlt⟩
    · rintro ya yn yc p' w6 ⟨out', rfl, hol', hW', c6, k6⟩
      obtain ⟨g7, w7, va, vc, w8, r7, r8, k8⟩ := pushN k6 e (by omega)
      exact ⟨b, q, ha, by omega, by omega, _, hlo k6.chg, _, _, _, w7, r7, va, _, vc, w8, r8, ⟨i + 1, out' ++ [e], wrap_succ hi' (by omega), by omega, rfl, by simp; omega, hW', k1.chg.trans k8.chg, k8⟩, mu_succ hi' (by omega)⟩
  · have hi' : i = o.length := by simp at h; omega
    rw [hi', List.take_of_length_le (Nat.le_refl _)] at hW
    have hup : ∀ {w' : World} {M : List Res}, St w1 [] w' M → St w [] w' M := fun hk => by
      have := Sx.St.callPart (M := []) (N := []) ((St.start w).same k1.chg) hk
      simpa using this
    refine ⟨fun ya yn yc w' => yn = (insA Ent.name o E).length ∧ St w [] w' [rowN ya yc (insA Ent.name o E)], ⟨fun hp => ?_, fun hp => ?_⟩, ?_⟩
    · rcases hW with ⟨_, rfl, hall⟩ | ⟨hp2, _⟩
      · obtain ⟨g4, w4, va, vc, w5, r4, r5, k5⟩ := pushN k2 E (by omega)
        have hins : insA Ent.name out E = out ++ [E] := by
          have hl2 : ∀ y ∈ out, lexLt E.name y.name = false := fun y hy => by
            cases h2 : lexLt E.name y.name with
            | false => rfl
            | true => have := lex_trans _ _ _ h2 (hall y hy); rw [lex_irrefl] at this; cases this
          unfold insA
          rw [filt_all hall, filt_none hl2]
        rw [hins]
        exact ⟨_, hbld w2, _, _, _, w4, r4, va, _, vc, w5, r5, rfl, hup k5⟩
      · rw [hp2] at hp; cases hp
    · rcases hW with ⟨hp2, _⟩ | ⟨_, rfl, _⟩
      · rw [hp2] at hp; cases hp
      · exact ⟨rfl, hup k2⟩
    · rintro ya yn yc w11 ⟨rfl, k11⟩
      exact ⟨ya, yc, rfl, k11⟩

/-! ### made -/
def madeV (c : ChM) : Int := match c.made with | some i => (i : Int) | none => -1
def chR (c : ChM) : List Value := [.int .i64 (madeV c), strV c.fr, strV c.to]
theorem chR_len (c : ChM) : (chR c).length = 3 := rfl
theorem chR_one (c : ChM) : ∀ v ∈ chR c, v.oneCell' = true := fun v hv => by
  simp only [chR, List.mem_cons, List.not_mem_nil, or_false] at hv
  rcases hv with rfl | rfl | rfl <;> rfl

theorem made_spec (a : Option Addr) (n c : Nat) (d : Dir) (ch : ChM) (w : World) (hr : RdN w a n c d) (hasc : AscBy Ent.name d) (hl : ch.made = none → ch.to ≠ [] → (findD d ch.fr).isSome = true) (hb : n ≤ 100000) :
    Calls Try.prog 75 #[.slice a n c, .agg (chR ch).toArray] w fun e w' => ∃ a' c', e = .returned (.slice a' (mkD d ch).length c') ∧ St w [] w' [rowN a' c' (mkD d ch)] := by
  have hln := hr.num (by decide)
  apply amphoraref01_made_vc
  obtain ⟨g, w1, r1, k1⟩ := (St.start w).boxA (P := Try.prog) 124 (chR ch)
  have hup : ∀ {w1 w' : World} {M : List Res}, Chg [] w w1 → St w1 [] w' M → St w [] w' M := fun hc hk => by
    have := Sx.St.callPart (M := []) (N := []) ((St.start w).same hc) hk
    simpa using this
  refine ⟨g, w1, r1, _, k1.ldL (i := 0) (o := 0) rfl (intA _) rfl rfl, fun hge => ?_, fun hlt => ?_⟩
  · obtain ⟨i, hi⟩ : ∃ i, ch.made = some i := by
      cases hq : ch.made with
      | none => rw [madeV, hq] at hge; simp at hge
      | some i => exact ⟨i, rfl⟩
    have hv : madeV ch = (i : Int) := by rw [madeV, hi]
    have hmk : mkD d ch = insA Ent.name d ⟨ch.to, i⟩ := by unfold mkD; rw [hi]
    rw [hmk]
    have hl0 : (Instr.loadAt 3 (.pointer (some ⟨g, 0, none⟩))).run Try.prog w1 = .ok (.int .i64 (i : Int)) w1 := by rw [← hv]; exact k1.ldL (i := 0) (o := 0) rfl (intA _) rfl rfl
    refine ⟨_, k1.ldL (i := 0) (o := 2) rfl (stA' _) rfl rfl, _, hl0, (with_spec a n c d ch.to i w1 (hr.keep0 k1.chg) hasc hb).mono ?_⟩
    rintro e w2 ⟨a', c', rfl, k2⟩
    exact ⟨_, _, _, rfl, a', c', rfl, hup k1.chg k2⟩
  · have hnone : ch.made = none := by
      cases hq : ch.made with
      | none => rfl
      | some i => rw [madeV, hq] at hlt; simp at hlt
    refine ⟨_, k1.ldL (i := 0) (o := 1) rfl (stA' _) rfl rfl, (find_spec a n c d ch.fr w1 (hr.keep0 k1.chg) (by omega)).mono ?_⟩
    rintro e w3 ⟨rfl, rfl⟩
    refine ⟨_, rfl, _, k1.ldL (i := 0) (o := 1) rfl (stA' _) rfl rfl, (without_spec a n c d ch.fr w3 (hr.keep0 k1.chg) (by omega)).mono ?_⟩
    rintro e w4 ⟨a4, c4, rfl, k4⟩
    have h4 := k1.same k4.chg
    refine ⟨_, _, _, rfl, _, h4.ldL (i := 0) (o := 2) rfl (stA' _) rfl rfl, fun he => ?_, fun hne => ?_⟩
    · rw [empty_eq] at he
      have hto : ch.to = [] := List.eq_nil_of_length_eq_zero (by simpa using he)
      have hmk : mkD d ch = delA Ent.name d ch.fr := by
        unfold mkD
        rw [hnone]
        cases hq : findD d ch.fr with
        | none => exact (delA_none hq).symm
        | some e => simp only [if_pos hto]
      rw [hmk]
      exact ⟨a4, c4, rfl, hup k1.chg k4⟩
    · rw [empty_eq] at hne
      have hto : ¬ ch.to = [] := by
        intro h0; rw [h0] at hne; simp at hne
      obtain ⟨e, hf⟩ := Option.isSome_iff_exists.1 (hl hnone hto)
      have hmk : mkD d ch = insA Ent.name (delA Ent.name d ch.fr) ⟨ch.to, e.file⟩ := by unfold mkD; rw [hnone]; simp only [hf, if_neg hto]
      have hfv : findV d ch.fr = (e.file : Int) := by rw [findV, hf]
      rw [hmk, hfv]
      have hdl : (delA Ent.name d ch.fr).length ≤ n := by rw [← hln]; exact delA_len _ _
      refine ⟨_, h4.ldL (i := 0) (o := 2) rfl (stA' _) rfl rfl, (with_spec a4 _ c4 (delA Ent.name d ch.fr) ch.to e.file w4 (rdN_of k4 (i := 0) rfl) (asc_delA hasc _) (by omega)).mono ?_⟩
      rintro e5 w5 ⟨a5, c5, rfl, k5⟩
      exact ⟨_, _, _, rfl, a5, c5, rfl, hup (k1.chg.trans k4.chg) k5⟩

end Go.Proofs.Ytoijbpkplegnkaa
