/- The document's answer of chapter 1: Name, Find, without, with, made (conditions: those that each theorem names). -/
import Derived.Test.YtoijbpkplegnkaaDiskO
import Derived.Test.YtoijbpkplegnkaaVref01
namespace Go.Proofs.Ytoijbpkplegnkaa
open Go Sx
set_option maxRecDepth 8000

theorem less_lex : ∀ l m : List UInt8, Op.bytesLess l m = lexLt l m
  | [], [] => rfl
  | _ :: _, [] => rfl
  | [], _ :: _ => rfl
  | a :: l, b :: m => by
    simp only [Op.bytesLess, lexLt, less_lex l m]
    by_cases h1 : a.toNat < b.toNat
    · have : a < b := UInt8.lt_iff_toNat_lt.2 h1
      simp [h1, this]
    · have h2 : ¬ a < b := fun h => h1 (UInt8.lt_iff_toNat_lt.1 h)
      by_cases h3 : b.toNat < a.toNat
      · have : a ≠ b := fun e => by rw [e] at h3; omega
        simp [h1, h2, h3, this]
      · have : a = b := UInt8.toNat_inj.1 (by omega)
        simp [h1, h2, h3, this]
theorem lex_gt (l m : List UInt8) : (!(lexLt l m || (l == m))) = lexLt m l := by
  cases h1 : lexLt l m with
  | true =>
    cases h2 : lexLt m l with
    | false => rfl
    | true => have := lex_trans _ _ _ h1 h2; rw [lex_irrefl] at this; cases this
  | false =>
    by_cases h3 : l = m
    · subst h3; rw [lex_irrefl]; simp
    · have : (l == m) = false := beq_eq_false_iff_ne.2 h3
      rw [this]
      cases h2 : lexLt m l with
      | true => rfl
      | false => exact absurd (lex_tri _ _ h1 h2) h3
theorem gtrStr (l m : Nm) (x y : Operand) (w : World) : (eqlS .gtr 9 x y (strV l) (strV m)).run Try.prog w = .ok (.bool (lexLt m l)) w := by
  have h1 : (⟨l.toArray⟩ : ByteArray).toList = l := by rw [ByteArray.toList_eq]
  have h2 : (⟨m.toArray⟩ : ByteArray).toList = m := by rw [ByteArray.toList_eq]
  have h3 : (eqGuard .gtr 9 x y (strV l) (strV m)).run Try.prog w = .ok () w := rfl
  have h4 : binOp .gtr 9 (strV l) (strV m) = pure (.bool (lexLt m l)) := by
    have : binOp .gtr 9 (strV l) (strV m) = pure (.bool !(Op.bytesLess (⟨l.toArray⟩ : ByteArray).toList (⟨m.toArray⟩ : ByteArray).toList || ((⟨l.toArray⟩ : ByteArray).toList == (⟨m.toArray⟩ : ByteArray).toList))) := by simp [binOp, Op.stringOp, strV]
    rw [this, h1, h2, less_lex, lex_gt]
  simp only [eqlS, Sem.run_bind, h3, Result.andThen_ok, h4, Sem.run_pure]

/-- A name with the number of its file, in memory. -/
def nC (e : Ent) : List Value := [strV e.name, .int .i64 (e.file : Int)]
theorem nC_len (e : Ent) : (nC e).length = 2 := rfl
theorem nC_one (e : Ent) : ∀ v ∈ nC e, v.oneCell' = true := fun v hv => by
  simp only [nC, List.mem_cons, List.not_mem_nil, or_false] at hv
  rcases hv with rfl | rfl <;> rfl
abbrev RdN (w : World) (a : Option Addr) (n c : Nat) (d : Dir) : Prop := RdE nC 2 w a n c d
abbrev rowN (a : Option Addr) (c : Nat) (d : Dir) : Res := .row 127 2 (.slice a d.length c) d.length (d.flatMap nC)
theorem rdN_of {w0 w : World} {X : List Nat} {M : List Res} {a : Option Addr} {c i : Nat} {d : Dir} (h : St w0 X w M) (hi : M[i]? = some (rowN a c d)) : RdN w a d.length c d := ⟨h.rd hi, fun e _ => nC_len e⟩
theorem nT : ElemT Try.prog 99 127 2 24 (.agg #[.string ByteArray.empty, .int .i64 0]) := ⟨by kernel_rfl, ⟨Try.t127, by kernel_rfl, by kernel_rfl, by kernel_rfl, by kernel_rfl⟩, rfl, by decide⟩
theorem nAg (w : World) : (isAgg 127).run Try.prog w = .ok true w := Try.isAgg127 w
theorem nSz (w : World) : (sizeOf 127).run Try.prog w = .ok 2 w := Try.sizeOf127 w
theorem built_n : Try.prog.built 127 = fun parts => Instr.fill (fun i => (#[(0, 1), (1, 1)] : Array (Nat × Nat))[i]?) #[.string ⟨#[]⟩, .int .i64 0] parts := by kernel_rfl
theorem n_build (e : Ent) (w : World) : (Instr.build 127 #[(0, strV e.name), (1, .int .i64 (e.file : Int))]).run Try.prog w = .ok (.agg (nC e).toArray) w := by
  apply run_build
  rw [built_n]
  show Instr.fill _ _ [(0, strV e.name), (1, _)] = _
  rw [fill_step (off := 0) (sz := 1) rfl rfl (by simp), fill_step (off := 1) (sz := 1) rfl rfl (by simp [Value.cells, strV])]
  rfl

theorem RdN.fld {w : World} {a : Option Addr} {n c : Nat} {d : Dir} (h : RdN w a n c d) {i : Nat} {e : Ent} (he : d[i]? = some e) :
    ∃ b o, a = some ⟨b, o, none⟩ ∧ ∀ w', RdN w' a n c d → (Instr.loadAt 9 (.pointer (some ⟨b, o + Int.toNat (i : Int) * 2, none⟩))).run Try.prog w' = .ok (strV e.name) w' ∧ (Instr.loadAt 3 (.pointer (some ⟨b, o + Int.toNat (i : Int) * 2 + 1, none⟩))).run Try.prog w' = .ok (.int .i64 (e.file : Int)) w' ∧ (Instr.loadAt 127 (.pointer (some ⟨b, o + Int.toNat (i : Int) * 2, none⟩))).run Try.prog w' = .ok (.agg (nC e).toArray) w' := by
  obtain ⟨b, o, ha, q⟩ := h.at_ (by decide) he
  refine ⟨b, o, ha, fun w' hr => ?_⟩
  have hrg := q w' hr
  rw [Int.toNat_natCast]
  have c0 : w'.cell? ⟨b, o + i * 2, none⟩ = some (strV e.name) := hrg 0 _ rfl
  have c1 : w'.cell? ⟨b, o + i * 2 + 1, none⟩ = some (.int .i64 (e.file : Int)) := hrg 1 _ rfl
  have := loadCells_cells (P := Try.prog) hrg
  rw [nC_len] at this
  exact ⟨ld1 (stA' _) c0, ld1 (intA _) c1, by simp [Instr.loadAt, Instr.sureAddr, loadVar, nAg, nSz, this]⟩

theorem ba_eq (l m : Nm) : ((⟨l.toArray⟩ : ByteArray).toList == (⟨m.toArray⟩ : ByteArray).toList) = decide (l = m) := by
  rw [ByteArray.toList_eq, ByteArray.toList_eq]
  show (l == m) = _
  by_cases h : l = m
  · rw [h]; simp
  · rw [decide_eq_false h]; exact beq_eq_false_iff_ne.2 h

def findV (d : Dir) (n : Nm) : Int := match findD d n with | some e => (e.file : Int) | none => -1
theorem find_spec (a : Option Addr) (n c : Nat) (d : Dir) (nm : Nm) (w : World) (hr : RdN w a n c d) (hb : n ≤ 4611686018427387904) :
    Calls Try.prog 78 #[.slice a n c, strV nm] w fun e w' => e = .returned (.int .i64 (findV d nm)) ∧ w' = w := by
  have hln := hr.num (by decide)
  apply amphoraref01_Find_vc
  refine ⟨fun x w' => ∃ i : Nat, x = (i : Int) ∧ i ≤ n ∧ findD d nm = findD (d.drop i) nm ∧ w' = w, fun x _ => n - x.toNat, ⟨0, rfl, by omega, rfl, rfl⟩, ?_⟩
  rintro x w1 ⟨i, rfl, hi, hf, rfl⟩
  refine ⟨fun h => ?_, fun h => ?_⟩
  · have hi' : i < n := by simp at h; omega
    have he : d[i]? = some d[i] := List.getElem?_eq_getElem (by omega)
    obtain ⟨e, hed⟩ : ∃ e, d[i] = e := ⟨_, rfl⟩
    rw [List.drop_eq_getElem_cons (by omega), hed] at hf
    rw [hed] at he
    obtain ⟨b, o, ha, q⟩ := hr.fld he
    obtain ⟨q1, q2, _⟩ := q w1 hr
    have hfc : findD (e :: d.drop (i + 1)) nm = if e.name = nm then some e else findD (d.drop (i + 1)) nm := by
      show List.find? _ _ = _
      rw [List.find?_cons]
      by_cases h : e.name = nm
      · rw [if_pos h]; simp [h]
      · have : (e.name == nm) = false := beq_eq_false_iff_ne.2 h
        rw [if_neg h, this]; rfl
    rw [hfc] at hf
    refine ⟨b, o, ha, by omega, by omega, _, q1, fun h => ⟨b, o, ha, by omega, by omega, _, q2, ?_, rfl⟩, fun h => ?_⟩
    · rw [ba_eq] at h
      rw [if_pos (by simpa using h)] at hf
      rw [findV, hf]
    · rw [ba_eq] at h
      rw [if_neg (by simpa using h)] at hf
      exact ⟨⟨i + 1, wrap_succ hi' hb, by omega, hf, rfl⟩, mu_succ hi' hb⟩
  · have hi' : i = n := by simp at h; omega
    rw [hi', List.drop_of_length_le (by omega)] at hf
    have : findV d nm = -1 := by rw [findV, hf]; rfl
    rw [this]
    exact ⟨rfl, rfl⟩

theorem name_spec (l : Nm) (w : World) : Calls Try.prog 76 #[strV l] w fun e w' => e = .returned (.bool (goodN l)) ∧ w' = w := by
  apply amphoraref01_Name_vc
  rw [size_mk]
  refine ⟨fun h => ?_, fun h => ?_⟩
  · have : goodN l = false := by
      unfold goodN
      simp only [Bool.or_eq_true, decide_eq_true_eq] at h
      have : ¬ (0 < l.length ∧ l.length ≤ 64) := by omega
      by_cases h1 : 0 < l.length <;> by_cases h2 : l.length ≤ 64 <;> simp [h1, h2] <;> omega
    rw [this]
    exact ⟨rfl, rfl⟩
  · have hl : 0 < l.length ∧ l.length ≤ 64 := by
      simp only [Bool.or_eq_false_iff, decide_eq_false_iff_not] at h
      omega
    refine ⟨fun x w' => ∃ i : Nat, x = (i : Int) ∧ i ≤ l.length ∧ (l.take i).all goodB = true ∧ w' = w, fun x _ => l.length - x.toNat, ⟨0, rfl, by omega, by simp, rfl⟩, ?_⟩
    rintro x w1 ⟨i, rfl, hi, hall, rfl⟩
    refine ⟨fun h => ?_, fun h => ?_⟩
    · have hi' : i < l.length := by simp at h; omega
      have hx := ixStr (T := 9) Try.underlying9 hi' w1
      have hb : l[i]? = some (l.getD i 0) := by simp [List.getD, hi']
      obtain ⟨b, hbd⟩ : ∃ b, l.getD i 0 = b := ⟨_, rfl⟩
      rw [hbd] at hx hb
      refine ⟨fun y w' => y = !goodB b ∧ w' = w1, ⟨_, hx, fun h1 => ⟨?_, rfl⟩, fun h1 => ⟨_, hx, fun h2 => ⟨?_, rfl⟩, fun h2 => ⟨_, hx, ?_, rfl⟩⟩⟩, ?_⟩
      · simp only [decide_eq_true_eq] at h1
        have : ¬ 33 ≤ b.toNat := by omega
        simp [goodB, this]
      · simp only [decide_eq_true_eq] at h2
        have : ¬ b.toNat ≤ 126 := by omega
        simp [goodB, this]
      · simp only [decide_eq_false_iff_not] at h1 h2
        have e1 : 33 ≤ b.toNat := by omega
        have e2 : b.toNat ≤ 126 := by omega
        by_cases h3 : b.toNat = 47
        · simp [goodB, h3]
        · have : ¬ ((b.toNat : Int) = 47) := by omega
          simp [goodB, e1, e2, h3, this]
      · rintro y w2 ⟨rfl, rfl⟩
        refine ⟨fun hbad => ?_, fun hgd => ⟨⟨i + 1, wrap_succ hi' (by omega), by omega, ?_, rfl⟩, mu_succ hi' (by omega)⟩⟩
        · have : goodN l = false := by
            have h0 : l.all goodB = false := by
              rw [List.all_eq_false]
              exact ⟨b, List.mem_of_getElem? hb, by simpa using hbad⟩
            simp [goodN, h0]
          rw [this]
          exact ⟨rfl, rfl⟩
        · rw [List.take_add_one, hb, List.all_append, hall]
          simpa using hgd
    · have hi' : i = l.length := by simp at h; omega
      rw [hi', List.take_length] at hall
      have : goodN l = true := by simp [goodN, hl.1, hl.2, hall]
      rw [this]
      exact ⟨rfl, rfl⟩

theorem without_spec (a : Option Addr) (n c : Nat) (d : Dir) (nm : Nm) (w : World) (hr : RdN w a n c d) (hb : n ≤ 1000000) :
    Calls Try.prog 80 #[.slice a n c, strV nm] w fun e w' => ∃ a' c', e = .returned (.slice a' (delA Ent.name d nm).length c') ∧ St w [] w' [rowN a' c' (delA Ent.name d nm)] := by
  have hln := hr.num (by decide)
  apply amphoraref01_without_vc
  refine ⟨fun xa xn xc x w' => ∃ i : Nat, x = (i : Int) ∧ i ≤ n ∧ xn = (delA Ent.name (d.take i) nm).length ∧ St w [] w' [rowN xa xc (delA Ent.name (d.take i) nm)], fun _ _ _ x _ => n - x.toNat, ⟨0, rfl, by omega, rfl, (St.start w).addNil _ _⟩, ?_⟩
  rintro xa xn xc x w1 ⟨i, rfl, hi, rfl, h1⟩
  refine ⟨fun h => ?_, fun h => ?_⟩
  · have hi' : i < n := by simp at h; omega
    have he : d[i]? = some d[i] := List.getElem?_eq_getElem (by omega)
    obtain ⟨e, hed⟩ : ∃ e, d[i] = e := ⟨_, rfl⟩
    rw [hed] at he
    obtain ⟨b, o, ha, q⟩ := hr.fld he
    obtain ⟨q1, _, q3⟩ := q w1 (hr.keep0 h1.chg)
    have hdl : (delA Ent.name (d.take i) nm).length ≤ n := by have := delA_len (kid := Ent.name) (d.take i) nm; simp at this; omega
    have hstep : delA Ent.name (d.take (i + 1)) nm = delA Ent.name (d.take i) nm ++ if e.name = nm then [] else [e] := by
      rw [List.take_add_one, he, delA, delA, List.filter_append]
      congr 1
      by_cases h : e.name = nm <;> simp [h]
    refine ⟨b, o, ha, by omega, by omega, _, q1, fun ya yn yc w' => yn = (delA Ent.name (d.take (i + 1)) nm).length ∧ St w [] w' [rowN ya yc (delA Ent.name (d.take (i + 1)) nm)], ⟨fun hne => ?_, fun heq => ?_⟩, ?_⟩
    · rw [ba_eq] at hne
      have hne' : ¬ e.name = nm := by simpa using hne
      rw [if_neg hne'] at hstep
      obtain ⟨g2, w2, va, vc, w3, r2, r3, h3, _⟩ := h1.pushA (i := 0) (ty := 99) nT rfl (nC e) (nC_len e) (by decide) (nC_one e) (by omega) (by simp only [maxLen]; omega)
      refine ⟨b, o, ha, by omega, by omega, _, q3, _, _, _, w2, r2, va, _, vc, w3, r3, by rw [hstep]; simp, ?_⟩
      have e1 : (delA Ent.name (d.take i) nm ++ [e]).length = (delA Ent.name (d.take i) nm).length + 1 := by simp
      have e2 : (delA Ent.name (d.take i) nm ++ [e]).flatMap nC = (delA Ent.name (d.take i) nm).flatMap nC ++ nC e := by simp
      rw [hstep]
      unfold rowN
      rw [e1, e2]
      exact h3
    · rw [ba_eq] at heq
      have heq' : e.name = nm := by simpa using heq
      rw [if_pos heq', List.append_nil] at hstep
      rw [hstep]
      exact ⟨rfl, h1⟩
    · rintro ya yn yc w4 ⟨rfl, h4⟩
      exact ⟨⟨i + 1, wrap_succ hi' (by omega), by omega, rfl, h4⟩, mu_succ hi' (by omega)⟩
  · have hi' : i = n := by simp at h; omega
    rw [hi', List.take_of_length_le (by omega)] at h1 ⊢
    exact ⟨xa, xc, rfl, h1⟩

end Go.Proofs.Ytoijbpkplegnkaa
