/- Chapter 14: Decode, the code's and the reference's; IndexBytes (conditions: none). -/
import Derived.Test.YtoianikapjkekaaIndY
namespace Go.Proofs.Ytoianikapjkekaa
open Go Sx
set_option maxRecDepth 8000

theorem Sx.St.copyA {w0 w : World} {X : List Nat} {M : List Res} (h : St w0 X w M) {i g T n c d : Nat} {a : Option Addr} {l : List Value} {src : List UInt8} (hi : M[i]? = some (.arr g T l)) (hd : d ≤ l.length) (hr : RdB w a n c src) (hn : n ≤ d) :
    ∃ w', (Builtin.copy_ #[63, 63] 3 #[.slice (some ⟨g, 0, none⟩) d d, .slice a n c]).run Try.prog w = .ok (.int .i64 (n : Int)) w' ∧ St w0 X w' (M.set i (.arr g T (bv src ++ l.drop n))) := by
  have hl := hr.lenB
  have hinf : (Try.prog.info? 5).map (·.size) = some 1 := by kernel_rfl
  have hg := h.holds i _ hi
  have done : n = 0 → St w0 X w (M.set i (.arr g T (bv src ++ l.drop n))) := fun h0 => by
    subst h0
    have : src = [] := List.eq_nil_of_length_eq_zero hl
    subst this
    rw [bv_nil, List.nil_append, List.drop_zero]
    exact h.upd hi (Chg.refl _ _) hg (fun k hk => .inl hk)
  rcases hr.cells with h0 | ⟨b, o, rfl, hrg⟩
  · have h0' : n = 0 := by rw [← hl]; simpa [bv] using congrArg List.length h0
    refine ⟨w, ?_, done h0'⟩
    subst h0'
    exact run_copy_none w _ _ _ 5 _ _ _ _ _ _ bS hinf (by simp)
  · have hr' := run_copy_row (P := Try.prog) w 63 63 3 5 g 0 d d ⟨b, o, none⟩ n c l.toArray T (bv src) bS hinf hg (by rw [bv_length, hl]; exact (Nat.min_eq_left hn).symm) (fun j v hj => by rw [Addr.add_mid]; exact hrg j v hj) (by simp; omega) (bv_one _)
    have e : (l.toArray.toList.take 0 ++ bv src ++ l.toArray.toList.drop (0 + (bv src).length)).toArray = (bv src ++ l.drop n).toArray := by
      simp [hl]
    rw [e] at hr'
    refine ⟨_, by rw [hr', bv_length, hl]; rfl, h.upd hi (w' := w.setRow g _) ⟨rfl, rfl, rfl, by simp, fun k _ hk => setRow_other w g k _ (fun e => hk (by simp [Res.fp, e]))⟩ (setRow_heap w g _ _ T _ hg) (by simp [Res.fp])⟩

def refL (id : List UInt8) (x y z : Int) : List Value := bv id ++ [.int .i64 x, .int .i64 y, .int .i64 z]
theorem refL_len {id : List UInt8} (h : id.length = 32) (x y z : Int) : (refL id x y z).length = 35 := by simp [refL, h]
theorem refL_set0 {id : List UInt8} (h : id.length = 32) (x y z v : Int) : (refL id x y z).set 32 (.int .i64 v) = refL id v y z := by
  rw [refL, List.set_append_right _ _ (by simp [h])]; simp [h, refL]
theorem refL_set1 {id : List UInt8} (h : id.length = 32) (x y z v : Int) : (refL id x y z).set 33 (.int .i64 v) = refL id x v z := by
  rw [refL, List.set_append_right _ _ (by simp [h])]; simp [h, refL]
theorem refL_set2 {id : List UInt8} (h : id.length = 32) (x y z v : Int) : (refL id x y z).set 34 (.int .i64 v) = refL id x y v := by
  rw [refL, List.set_append_right _ _ (by simp [h])]; simp [h, refL]
theorem refC_step (st : Option (List UInt8)) : refC (stepR st) = refL (padI (rawF st 32)) (varV (rawS st)) (varV (varS (rawS st))) (varV (varS (varS (rawS st)))) := rfl
theorem ref0_L : refC ref0 = refL (List.replicate 32 0) 0 0 0 := rfl

def rawO (st : Option (List UInt8)) : List UInt8 := ((rawF st 32).map (·.1)).getD []
theorem raw_out (st : Option (List UInt8)) : (rawO st).length = 32 ∧ padI (rawF st 32) = rawO st ∨ rawO st = [] ∧ padI (rawF st 32) = List.replicate 32 0 := by
  unfold rawO
  cases hq : rawF st 32 with
  | none => right; exact ⟨rfl, rfl⟩
  | some p => left; exact ⟨(raw_len (x := 32) hq).1, rfl⟩

theorem HoldsR.left {w w1 : World} {g : Nat} {a0 : Option Addr} {n0 c0 : Nat} {l : List UInt8} {st : Option (List UInt8)} {N : List Res} (h : HoldsR w w1 g a0 n0 c0 l st N) :
    Calls Try.prog 50 #[.pointer (some ⟨g, 0, none⟩)] w1 fun e w2 => e = .returned (.int .i64 (leftN st : Int)) ∧ w2 = w1 := by
  obtain ⟨a, n, c, hs, hlen, hS⟩ := h
  have h0 : RdB w1 a0 n0 c0 l := hS.rd (i := 0) rfl
  unfold leftN
  rw [(hs w1 h0).lenB]
  exact rLeft_spec g _ st a n c w1 (hS.holds 1 _ rfl)

def errW {α : Type} (o : Option α) : Option Int := if o.isSome then none else some 9

theorem dec_out {b : List UInt8} {st : Option (List UInt8)} {out : Refs} (h : decH st out = decH (some b) []) (h0 : leftN st = 0) : decF b = if st.isSome && isSeg out then some out else none := by
  rw [decF, ← h, decH_end h0]

set_option maxHeartbeats 1000000 in
theorem iDecode_spec (a : Option Addr) (n c : Nat) (b : List UInt8) (w : World) (hr : RdB w a n c b) (hb : n ≤ 1000000) :
    Calls Try.prog 33 #[.slice a n c] w fun e w' => ∃ a' n' c', e = .returned (.tuple #[.slice a' n' c', errV (errW (decF b))]) ∧ RdR w' a' n' c' ((decF b).getD []) ∧ Chg [] w w' := by
  have hl := hr.lenB
  obtain ⟨mI, hI⟩ := eI
  apply index_Decode_vc
  refine (newReader_spec a n c b w hr (by omega)).mono ?_
  rintro e w1 ⟨g, a0, c0, rfl, h1⟩
  have H1 : HoldsR w w1 g a0 n c0 b (some b) [.row 52 35 (.slice none 0 0) 0 (([] : Refs).flatMap refC)] := ⟨a0, n, c0, fun v hv => hv, Nat.le_refl _, h1.addNil _ _⟩
  refine ⟨g, 0, rfl, fun xa xn xc w' => ∃ st out, decH st out = decH (some b) [] ∧ xn = out.length ∧ out.length + leftN st ≤ n ∧ HoldsR w w' g a0 n c0 b st [.row 52 35 (.slice xa xn xc) xn (out.flatMap refC)], fun _ xn _ _ => n - xn, ⟨some b, [], rfl, rfl, by simp [leftN, hl], H1⟩, ?_⟩
  rintro xa xn xc w2 ⟨st, out, hd, rfl, hle, H2⟩
  refine H2.left.mono ?_
  rintro e w3 ⟨rfl, rfl⟩
  refine ⟨_, rfl, fun h => ?_, fun h => ?_⟩
  · have hpos : 0 < leftN st := by simp at h; omega
    have hlt := stepS_lt hpos
    obtain ⟨a', n', c', hs, hlen, hS⟩ := H2
    obtain ⟨g6, w4, r4, h4⟩ := hS.zeroA rfZ
    have H4 : HoldsR w w4.drew g a0 n c0 b st [.row 52 35 (.slice xa out.length xc) out.length (out.flatMap refC), .arr g6 52 (refC ref0)] := ⟨a', n', c', hs, hlen, h4.drew⟩
    refine ⟨g6, w4, r4, by omega, by omega, (H4.raw 32 (by omega)).mono ?_⟩
    rintro e w5 ⟨a5, n5, c5, rfl, b2, bn, bc, hs5, hlen5, h5⟩
    have hr5 : RdB w5 a5 n5 c5 (rawO st) := h5.rd (i := 4) rfl
    have hn5 := hr5.lenB
    have hpl := pad_len st
    obtain ⟨w6, r6, h6⟩ := h5.copyA (i := 3) (d := 32) rfl (by simp) hr5 (by
      rcases raw_out st with ⟨h1, _⟩ | ⟨h1, _⟩
      · omega
      · rw [h1] at hn5; simp at hn5; omega)
    have e6 : bv (rawO st) ++ (refC ref0).drop n5 = refL (padI (rawF st 32)) 0 0 0 := by
      rcases raw_out st with ⟨h1, h2⟩ | ⟨h1, h2⟩
      · have : n5 = 32 := by omega
        subst this
        rw [h2]; rfl
      · rw [h1] at hn5 ⊢
        have : n5 = 0 := by simpa using hn5.symm
        subst this
        rw [h2]; rfl
    rw [e6] at h6
    have H6 : HoldsR w w6 g a0 n c0 b (rawS st) [.row 52 35 (.slice xa out.length xc) out.length (out.flatMap refC), .arr g6 52 (refL (padI (rawF st 32)) 0 0 0)] := ⟨b2, bn, bc, hs5, hlen5, by
      have h6' : St w [] w6 [.row 5 1 (.slice a0 n c0) n (bv b), .blk g (.cells #[.slice b2 bn bc, .bool (rawS st).isNone] 103), .row 52 35 (.slice xa out.length xc) out.length (out.flatMap refC), .arr g6 52 (refL (padI (rawF st 32)) 0 0 0), .row 5 1 (.slice a5 n5 c5) n5 (bv (rawO st))] := h6
      exact h6'.sub (List.Sublist.cons_cons _ (List.Sublist.cons_cons _ (List.Sublist.cons_cons _ (List.Sublist.cons_cons _ (List.nil_sublist _)))))⟩
    refine ⟨_, _, _, rfl, _, w6, r6, H6.var.mono ?_⟩
    rintro e w7 ⟨rfl, H7⟩
    refine ⟨_, rfl, (HoldsR.var (st := varS (rawS st)) H7).mono ?_⟩
    rintro e w8 ⟨rfl, H8⟩
    refine ⟨_, rfl, (HoldsR.var (st := varS (varS (rawS st))) H8).mono ?_⟩
    rintro e w9 ⟨rfl, H9⟩
    have H9 : HoldsR w w9 g a0 n c0 b (stepS st) [.row 52 35 (.slice xa out.length xc) out.length (out.flatMap refC), .arr g6 52 (refL (padI (rawF st 32)) 0 0 0)] := H9
    obtain ⟨b9, bn9, bc9, hs9, hlen9, h9⟩ := H9
    obtain ⟨w10, r10, h10⟩ := h9.stL (i := 3) (o := 32) (off := 32) (T := 3) (v := .int .i64 (varV (rawS st) : Int)) rfl (inS _) rfl (by rw [refL_len hpl]; decide) rfl
    rw [refL_set0 hpl] at h10
    obtain ⟨w11, r11, h11⟩ := h10.stL (i := 3) (o := 33) (off := 33) (T := 3) (v := .int .i64 (varV (varS (rawS st)) : Int)) rfl (inS _) rfl (by rw [refL_len hpl]; decide) rfl
    rw [refL_set1 hpl] at h11
    obtain ⟨w12, r12, h12⟩ := h11.stL (i := 3) (o := 34) (off := 34) (T := 3) (v := .int .i64 (varV (varS (varS (rawS st))) : Int)) rfl (inS _) rfl (by rw [refL_len hpl]; decide) rfl
    rw [refL_set2 hpl, ← refC_step] at h12
    have h12 : St w [] w12 [.row 5 1 (.slice a0 n c0) n (bv b), .blk g (.cells #[.slice b9 bn9 bc9, .bool (stepS st).isNone] 103), .row 52 35 (.slice xa out.length xc) out.length (out.flatMap refC), .arr g6 52 (refC (stepR st))] := h12
    obtain ⟨g13, w13, vb, vd, w14, r13, r14, h14, _⟩ := h12.pushA (i := 2) (ty := 24) rfT rfl (refC (stepR st)) (refC_len _) (by decide) (refC_one _) (by omega) (by simp only [maxLen]; omega)
    refine ⟨_, rfl, w10, r10, w11, r11, w12, r12, _, h12.ldA (i := 3) (l := refC (stepR st)) rfl (rfA _) (rfS _) (refC_len _), _, _, _, w13, r13, vb, _, vd, w14, r14, ⟨stepS st, out ++ [stepR st], ?_, by simp, by simp; omega, b9, bn9, bc9, hs9, hlen9, ?_⟩, (by show n - (out.length + 1) < n - out.length; omega)⟩
    · rw [← decH_step hpos, hd]
    · rw [flat_snoc]
      exact h14.sub (List.Sublist.cons_cons _ (List.Sublist.cons_cons _ (List.Sublist.cons_cons _ (List.nil_sublist _))))
  · have h0 : leftN st = 0 := by simp at h; omega
    have hdec := dec_out hd h0
    have hrow : RdR w3 xa out.length xc out := by
      obtain ⟨_, _, _, _, _, hS⟩ := H2
      exact ⟨hS.rd (i := 2) rfl, fun x _ => refC_len x⟩
    have hc := H2.chg
    refine ⟨fun x w' => x = (decF b).isNone ∧ Chg [] w3 w', H2.err.mono ?_, ?_⟩
    · rintro e w15 ⟨rfl, rfl⟩
      refine ⟨_, rfl, _, neqS_nil hI _ _ _, fun hne => ⟨?_, Chg.refl _ _⟩, fun heq => (iCheck_spec xa _ xc out w15 hrow (by omega)).mono ?_⟩
      · have : st = none := by
          cases st with
          | none => rfl
          | some _ => simp [brE] at hne
        rw [hdec, this]; rfl
      · rintro e w16 ⟨rfl, d16⟩
        refine ⟨_, rfl, _, neqS_nil hI _ _ _, ?_, d16⟩
        have : st.isSome = true := by
          cases st with
          | none => simp [brE] at heq
          | some _ => rfl
        rw [hdec, this]
        cases isSeg out <;> rfl
    · rintro x w17 ⟨rfl, d17⟩
      refine ⟨fun hx => ?_, fun hx => ?_⟩
      · have : decF b = none := by simpa using hx
        rw [this]
        exact ⟨none, 0, 0, rfl, RdE.nil _, hc.trans d17⟩
      · have hs : decF b = some out := by
          rw [hdec] at hx ⊢
          split at hx <;> simp_all
        rw [hs]
        exact ⟨xa, _, xc, rfl, hrow.keep0 d17, hc.trans d17⟩

/-! ### the reference's Decode -/

/-- The reference's Reader that is held, on the row of a copy of l. -/
def HoldsM (w w' : World) (g : Nat) (a0 : Option Addr) (n0 c0 : Nat) (l : List UInt8) (st : Option (List UInt8)) (N : List Res) : Prop :=
  ∃ a n c, SubB a0 n0 c0 l a n c (st.getD []) ∧ (st.getD []).length ≤ l.length ∧ St w [] w' (.row 5 1 (.slice a0 n0 c0) n0 (bv l) :: .blk g (.cells #[.slice a n c, .bool st.isNone] 93) :: N)

section
variable {w w1 : World} {g : Nat} {a0 : Option Addr} {n0 c0 : Nat} {l : List UInt8} {st : Option (List UInt8)} {N : List Res}
theorem HoldsM.chg (h : HoldsM w w1 g a0 n0 c0 l st N) : Chg [] w w1 := by obtain ⟨_, _, _, _, _, hS⟩ := h; exact hS.chg
theorem HoldsM.row (h : HoldsM w w1 g a0 n0 c0 l st N) : RdB w1 a0 n0 c0 l := by obtain ⟨_, _, _, _, _, hS⟩ := h; exact hS.rd (i := 0) rfl

theorem rawS_le (st : Option (List UInt8)) (x : Int) : (((rawF st x).map (·.2)).getD []).length ≤ (st.getD []).length := by
  cases st with
  | none => simp [rawF]
  | some q =>
    simp only [rawF, Option.bind_some]
    split
    · simp
    · simp

theorem HoldsM.raw (h : HoldsM w w1 g a0 n0 c0 l st N) (x : Int) :
    Calls Try.prog 54 #[.pointer (some ⟨g, 0, none⟩), .int .i64 x] w1 fun e w2 => ∃ a' n' c', e = .returned (.slice a' n' c') ∧ HoldsM w w2 g a0 n0 c0 l ((rawF st x).map (·.2)) N ∧ SubB a0 n0 c0 l a' n' c' (((rawF st x).map (·.1)).getD []) := by
  obtain ⟨a, n, c, hs, hlen, hS⟩ := h
  have h0 : RdB w1 a0 n0 c0 l := hS.rd (i := 0) rfl
  apply amphoraref04_Reader_Raw_vc
  refine (take_spec g _ st x a n c w1 (hS.holds 1 _ rfl) (hs w1 h0)).mono ?_
  rintro e w2 ⟨a', n', c', rfl, hc, ⟨a2, n2, c2, hg2, hs2⟩, hs3⟩
  refine ⟨a', n', c', rfl, a', n', c', rfl, ⟨a2, n2, c2, fun v hv => hs2 v (hs v hv), Nat.le_trans (rawS_le st x) hlen, ?_⟩, fun v hv => hs3 v (hs v hv)⟩
  exact hS.upd (i := 1) (r' := .blk g (.cells #[.slice a2 n2 c2, .bool ((rawF st x).map fun p : List UInt8 × List UInt8 => p.2).isNone] 93)) rfl hc hg2 (by simp [Res.fp])

theorem HoldsM.var (h : HoldsM w w1 g a0 n0 c0 l st N) :
    Calls Try.prog 55 #[.pointer (some ⟨g, 0, none⟩)] w1 fun e w2 => e = .returned (.int .i64 (varV st : Int)) ∧ HoldsM w w2 g a0 n0 c0 l (varS st) N := by
  obtain ⟨a, n, c, hs, hlen, hS⟩ := h
  have h0 : RdB w1 a0 n0 c0 l := hS.rd (i := 0) rfl
  refine (mVar_spec g _ st a n c w1 (hS.holds 1 _ rfl) (hs w1 h0)).mono ?_
  rintro e w2 ⟨rfl, hc, a2, n2, c2, hg2, hs2⟩
  refine ⟨rfl, a2, n2, c2, fun v hv => hs2 v (hs v hv), Nat.le_trans (varS_le st) hlen, ?_⟩
  exact hS.upd (i := 1) (r' := .blk g (.cells #[.slice a2 n2 c2, .bool ((varF st).map fun p : Nat × List UInt8 => p.2).isNone] 93)) rfl hc hg2 (by simp [Res.fp])
end

theorem built_mreader : Try.prog.built 93 = fun parts => Instr.fill (fun i => (#[(0, 1), (1, 1)] : Array (Nat × Nat))[i]?) #[.slice none 0 0, .bool false] parts := by kernel_rfl
theorem mreader_build (a : Option Addr) (n c : Nat) (w : World) : (Instr.build 93 #[(0, .slice a n c)]).run Try.prog w = .ok (.agg #[.slice a n c, .bool false]) w := by
  apply run_build
  rw [built_mreader]
  show Instr.fill _ _ [(0, .slice a n c)] = _
  rw [fill_step (off := 0) (sz := 1) rfl rfl (by simp)]
  rfl

set_option maxHeartbeats 1000000 in
theorem rDecode_spec (a : Option Addr) (n c : Nat) (b : List UInt8) (w : World) (hr : RdB w a n c b) (hb : n ≤ 1000000) :
    Calls Try.prog 34 #[.slice a n c] w fun e w' => ∃ a' n' c', e = .returned (.tuple #[.slice a' n' c', .int .i64 ((errW (decF b)).getD 0)]) ∧ RdR w' a' n' c' ((decF b).getD []) ∧ Chg [] w w' := by
  have hl := hr.lenB
  have sB : ∀ w, (sizeOf 5).run Try.prog w = .ok 1 w := fun w => Try.sizeOf5 w
  apply amphoraref14_Decode_vc
  obtain ⟨g1, w1, r1, h1⟩ := (St.start w).lit0 bT
  have h1 : St w [] w1 [.row 5 1 (.slice (some ⟨g1, 0, none⟩) 0 0) 0 (bv [])] := h1
  obtain ⟨va, vc, w2, r2, h2⟩ := h1.appendB (i := 0) rfl (hr.keep0 h1.chg) (by omega)
  rw [Nat.zero_add] at r2 h2
  have h2 : St w [] w2 [.row 5 1 (.slice va n vc) n (bv b)] := h2
  obtain ⟨g, w3, r3, h3⟩ := h2.box (P := Try.prog) 93 (.agg #[.slice va n vc, .bool false])
  have H3 : HoldsM w w3 g va n vc b (some b) [.row 52 35 (.slice none 0 0) 0 (([] : Refs).flatMap refC)] := ⟨va, n, vc, fun v hv => hv, Nat.le_refl _, h3.addNil _ _⟩
  refine ⟨_, _, _, w1, r1, va, _, vc, w2, r2, _, mreader_build va n vc w2, g, w3, r3, fun xa xn xc w' => ∃ st out, decH st out = decH (some b) [] ∧ xn = out.length ∧ out.length + leftN st ≤ n ∧ HoldsM w w' g va n vc b st [.row 52 35 (.slice xa xn xc) xn (out.flatMap refC)], fun _ xn _ _ => n - xn, ⟨some b, [], rfl, rfl, by simp [leftN, hl], H3⟩, ?_⟩
  rintro xa xn xc w4 ⟨st, out, hd, rfl, hle, H4⟩
  obtain ⟨a4, n4, c4, hs4, hlen4, h4⟩ := H4
  have hn4 : leftN st = n4 := (hs4 w4 (h4.rd (i := 0) rfl)).lenB
  have hg4 : RdrA g 93 a4 n4 c4 st w4 := h4.holds 1 _ rfl
  refine ⟨_, _, _, rdr_rest hg4, fun h => ?_, fun h => ?_⟩
  · have hpos : 0 < leftN st := by simp at h; omega
    have hlt := stepS_lt hpos
    obtain ⟨g6, w5, r5, h5⟩ := h4.zeroA rfZ
    obtain ⟨w6, r6, h6⟩ := h5.stA (i := 3) (v := refC ref0) rfl (rfS _) (refC_len _) (refC_len _) (refC_one _)
    have H6 : HoldsM w w6 g va n vc b st [.row 52 35 (.slice xa out.length xc) out.length (out.flatMap refC), .arr g6 52 (refC ref0)] := ⟨a4, n4, c4, hs4, hlen4, h6⟩
    refine ⟨_, ref0_build w4, g6, w5, r5, w6, r6, (H6.raw 32).mono ?_⟩
    rintro e w7 ⟨a7, n7, c7, rfl, H7, hs7⟩
    have hs7 : SubB va n vc b a7 n7 c7 (rawO st) := hs7
    have hr7 := hs7 w7 H7.row
    have hn7 := hr7.lenB
    have hpl := pad_len st
    have hn32 : n7 ≤ 32 := by
      rcases raw_out st with ⟨h1, _⟩ | ⟨h1, _⟩
      · omega
      · rw [h1] at hn7; simp at hn7; omega
    refine ⟨a7, n7, c7, rfl, fun x w' => ∃ j : Nat, x = (j : Int) ∧ j ≤ n7 ∧ HoldsM w w' g va n vc b (rawS st) [.row 52 35 (.slice xa out.length xc) out.length (out.flatMap refC), .arr g6 52 (refL (mixA (padI (rawF st 32)) (List.replicate 32 0) j) 0 0 0)], fun x _ => n7 - x.toNat, ⟨0, rfl, by omega, ?_⟩, ?_⟩
    · rw [mixA_zero, ← ref0_L]; exact H7
    rintro x w8 ⟨j, rfl, hj, H8⟩
    have hml : (mixA (padI (rawF st 32)) (List.replicate 32 0) j).length = 32 := by rw [mixA_len (by simp [hpl]) (by simp; omega)]; simp
    refine ⟨fun h => ?_, fun h => ?_⟩
    · have hj' : j < n7 := by simp at h; omega
      have hr8 := hs7 w8 H8.row
      obtain ⟨a8, n8, c8, hs8, hlen8, h8⟩ := H8
      have hbv : (padI (rawF st 32))[j]? = some ((rawO st).getD j 0) := by
        rcases raw_out st with ⟨h1, h2⟩ | ⟨h1, h2⟩
        · rw [h2, List.getD, List.getElem?_eq_getElem (by omega)]; rfl
        · rw [h1] at hn7; simp at hn7; omega
      refine ixB (bA _) hr8.cells hn7 (by omega) (by omega) fun _ _ _ => ?_
      rw [Int.toNat_natCast]
      obtain ⟨w9, r9, h9⟩ := h8.stL (i := 3) (o := j) (off := 0 + Int.toNat (j : Int) * 1) (T := 5) (v := .int .u8 (((rawO st).getD j 0).toNat : Int)) rfl (sB _) (by omega) (by rw [refL_len hml]; omega) rfl
      have e9 : (refL (mixA (padI (rawF st 32)) (List.replicate 32 0) j) 0 0 0).set j (.int .u8 (((rawO st).getD j 0).toNat : Int)) = refL (mixA (padI (rawF st 32)) (List.replicate 32 0) (j + 1)) 0 0 0 := by
        rw [refL, List.set_append_left _ _ (by rw [bv_length, hml]; omega), bv_set, mixA_set (by simp [hpl]) hbv]; rfl
      rw [e9] at h9
      exact ⟨by omega, by omega, w9, r9, ⟨j + 1, wrap_succ hj' (by omega), by omega, a8, n8, c8, hs8, hlen8, h9⟩, mu_succ hj' (by omega)⟩
    · have hj' : j = n7 := by simp at h; omega
      have hpad : mixA (padI (rawF st 32)) (List.replicate 32 0) j = padI (rawF st 32) := by
        rcases raw_out st with ⟨h1, h2⟩ | ⟨h1, h2⟩
        · have : j = (List.replicate 32 (0 : UInt8)).length := by simp; omega
          rw [this]; exact mixA_all (by simp [hpl])
        · rw [h1] at hn7
          have : j = 0 := by simp at hn7; omega
          rw [this, mixA_zero, h2]
      rw [hpad] at H8
      refine H8.var.mono ?_
      rintro e w10 ⟨rfl, a10, n10, c10, hs10, hlen10, h10⟩
      obtain ⟨w11, r11, h11⟩ := h10.stL (i := 3) (o := 32) (off := 32) (T := 3) (v := .int .i64 (varV (rawS st) : Int)) rfl (inS _) rfl (by rw [refL_len hpl]; decide) rfl
      rw [refL_set0 hpl] at h11
      have H11 : HoldsM w w11 g va n vc b (varS (rawS st)) [.row 52 35 (.slice xa out.length xc) out.length (out.flatMap refC), .arr g6 52 (refL (padI (rawF st 32)) (varV (rawS st)) 0 0)] := ⟨a10, n10, c10, hs10, hlen10, h11⟩
      refine ⟨_, rfl, w11, r11, H11.var.mono ?_⟩
      rintro e w12 ⟨rfl, a12, n12, c12, hs12, hlen12, h12⟩
      obtain ⟨w13, r13, h13⟩ := h12.stL (i := 3) (o := 33) (off := 33) (T := 3) (v := .int .i64 (varV (varS (rawS st)) : Int)) rfl (inS _) rfl (by rw [refL_len hpl]; decide) rfl
      rw [refL_set1 hpl] at h13
      have H13 : HoldsM w w13 g va n vc b (varS (varS (rawS st))) [.row 52 35 (.slice xa out.length xc) out.length (out.flatMap refC), .arr g6 52 (refL (padI (rawF st 32)) (varV (rawS st)) (varV (varS (rawS st))) 0)] := ⟨a12, n12, c12, hs12, hlen12, h13⟩
      refine ⟨_, rfl, w13, r13, H13.var.mono ?_⟩
      rintro e w14 ⟨rfl, a14, n14, c14, hs14, hlen14, h14⟩
      obtain ⟨w15, r15, h15⟩ := h14.stL (i := 3) (o := 34) (off := 34) (T := 3) (v := .int .i64 (varV (varS (varS (rawS st))) : Int)) rfl (inS _) rfl (by rw [refL_len hpl]; decide) rfl
      rw [refL_set2 hpl, ← refC_step] at h15
      have h15 : St w [] w15 [.row 5 1 (.slice va n vc) n (bv b), .blk g (.cells #[.slice a14 n14 c14, .bool (stepS st).isNone] 93), .row 52 35 (.slice xa out.length xc) out.length (out.flatMap refC), .arr g6 52 (refC (stepR st))] := h15
      obtain ⟨g16, w16, vb, vd, w17, r16, r17, h17, _⟩ := h15.pushA (i := 2) (ty := 24) rfT rfl (refC (stepR st)) (refC_len _) (by decide) (refC_one _) (by omega) (by simp only [maxLen]; omega)
      refine ⟨_, rfl, w15, r15, _, h15.ldA (i := 3) (l := refC (stepR st)) rfl (rfA _) (rfS _) (refC_len _), _, _, _, w16, r16, vb, _, vd, w17, r17, ⟨stepS st, out ++ [stepR st], ?_, by simp, by simp; omega, a14, n14, c14, hs14, hlen14, ?_⟩, (by show n - (out.length + 1) < n - out.length; omega)⟩
      · rw [← decH_step hpos, hd]
      · rw [flat_snoc]
        exact h17.sub (List.Sublist.cons_cons _ (List.Sublist.cons_cons _ (List.Sublist.cons_cons _ (List.nil_sublist _))))
  · have h0 : leftN st = 0 := by simp at h; omega
    have hdec := dec_out hd h0
    have hrow : RdR w4 xa out.length xc out := ⟨h4.rd (i := 2) rfl, fun x _ => refC_len x⟩
    have hc := h4.chg
    refine ⟨fun x w' => x = (decF b).isNone ∧ Chg [] w4 w', ⟨_, rdr_flag hg4, fun hne => ⟨?_, Chg.refl _ _⟩, fun heq => (rCheck_spec xa _ xc out w4 hrow (by omega)).mono ?_⟩, ?_⟩
    · have : st = none := by simpa using hne
      rw [hdec, this]; rfl
    · rintro e w16 ⟨rfl, d16⟩
      refine ⟨_, rfl, ?_, d16⟩
      have : st.isSome = true := by
        cases st with
        | none => simp at heq
        | some _ => rfl
      rw [hdec, this]
      cases isSeg out <;> rfl
    · rintro x w17 ⟨rfl, d17⟩
      refine ⟨fun hx => ?_, fun hx => ?_⟩
      · have : decF b = none := by simpa using hx
        rw [this]
        exact ⟨none, 0, 0, rfl, RdE.nil _, hc.trans d17⟩
      · have hs : decF b = some out := by
          rw [hdec] at hx ⊢
          split at hx <;> simp_all
        rw [hs]
        exact ⟨xa, _, xc, rfl, hrow.keep0 d17, hc.trans d17⟩

end Go.Proofs.Ytoianikapjkekaa
