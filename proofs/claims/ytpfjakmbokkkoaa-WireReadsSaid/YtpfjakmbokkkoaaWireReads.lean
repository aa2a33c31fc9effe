/- The law WireReads answers true (conditions: those that the theorem names). -/
import Derived.Test.YtpfjakmbokkkoaaWireNumbers
import Derived.Test.YtpfjakmbokkkoaaWireG
import Derived.Test.YtpfjakmbokkkoaaSum
namespace Go.Proofs.Ytpfjakmbokkkoaa
open Go Sx

/-- A script of calls, in memory. -/
def OpsIn (cs : List Value) (n : Nat) : Prop := ∀ i, i < n → ∃ k x : Int, (cs.drop (i * 2)).take 2 = [.int .i64 k, .int .i64 x]

abbrev rdrT : Nat := 80
abbrev mdlT : Nat := 62

/-- Two Readers in memory, side by side, each over bytes of its own. -/
def Inv2 (w0 : World) (g g2 : Nat) (vc vm : Value) (l : List UInt8) (s1 s2 : Option (List UInt8)) (E : List Res) (w : World) : Prop :=
  ∃ ac nc cc am nm cm a n c a2 n2 c2, vc = .slice ac nc cc ∧ vm = .slice am nm cm ∧
    St w0 [] w ([.blk g (.cells #[.slice a n c, .bool s1.isNone] rdrT), .blk g2 (.cells #[.slice a2 n2 c2, .bool s2.isNone] mdlT), .row 5 1 (.slice ac nc cc) nc (bv l), .row 5 1 (.slice am nm cm) nm (bv l)] ++ E) ∧
    SubB ac nc cc l a n c (s1.getD []) ∧ SubB am nm cm l a2 n2 c2 (s2.getD []) ∧ (s1.getD []).length ≤ l.length ∧ (s2.getD []).length ≤ l.length

section
variable {w0 w w' : World} {g g2 : Nat} {vc vm : Value} {l : List UInt8} {s1 s2 : Option (List UInt8)} {E : List Res}

theorem Inv2.same (h : Inv2 w0 g g2 vc vm l s1 s2 E w) (hc : Chg [] w w') : Inv2 w0 g g2 vc vm l s1 s2 E w' := by
  obtain ⟨ac, nc, cc, am, nm, cm, a, n, c, a2, n2, c2, h1, h2, hS, h⟩ := h
  exact ⟨ac, nc, cc, am, nm, cm, a, n, c, a2, n2, c2, h1, h2, hS.same hc, h⟩

theorem Inv2.chg (h : Inv2 w0 g g2 vc vm l s1 s2 E w) : Chg [] w0 w := by
  obtain ⟨_, _, _, _, _, _, _, _, _, _, _, _, _, _, hS, _⟩ := h
  exact hS.chg

theorem Inv2.map (h : Inv2 w0 g g2 vc vm l s1 s2 E w) {E' : List Res} (k : ∀ M, St w0 [] w (M ++ E) → St w0 [] w' (M ++ E')) : Inv2 w0 g g2 vc vm l s1 s2 E' w' := by
  obtain ⟨ac, nc, cc, am, nm, cm, a, n, c, a2, n2, c2, h1, h2, hS, h⟩ := h
  exact ⟨ac, nc, cc, am, nm, cm, a, n, c, a2, n2, c2, h1, h2, k _ hS, h⟩

/-- The program's Reader. -/
theorem Inv2.A (h : Inv2 w0 g g2 vc vm l s1 s2 E w) : ∃ a n c, RdrA g rdrT a n c s1 w ∧ RdB w a n c (s1.getD []) ∧ (s1.getD []).length ≤ l.length ∧
    ∀ s1' w', Chg [g] w w' → RdrP g rdrT a n c s1 s1' w' → (s1'.getD []).length ≤ l.length → Inv2 w0 g g2 vc vm l s1' s2 E w' := by
  obtain ⟨ac, nc, cc, am, nm, cm, a, n, c, a2, n2, c2, h1, h2, hS, hs1, hs2, hl1, hl2⟩ := h
  refine ⟨a, n, c, hS.holds 0 _ rfl, hs1 w (hS.rd (i := 2) rfl), hl1, fun s1' w' hc hp hl' => ?_⟩
  obtain ⟨a', n', c', hg', hs'⟩ := hp
  have := hS.upd (i := 0) (r' := .blk g (.cells #[.slice a' n' c', .bool s1'.isNone] rdrT)) rfl hc hg' (by simp [Res.fp])
  exact ⟨ac, nc, cc, am, nm, cm, a', n', c', a2, n2, c2, h1, h2, this, fun v hv => hs' v (hs1 v hv), hs2, hl', hl2⟩

/-- The program's Reader, with an answer. -/
theorem Inv2.AX (h : Inv2 w0 g g2 vc vm l s1 s2 E w) : ∃ a n c, RdrA g rdrT a n c s1 w ∧ RdB w a n c (s1.getD []) ∧ (s1.getD []).length ≤ l.length ∧
    ∀ s1' w' b m d f, FreshX [g] w w' b m d f → RdrP g rdrT a n c s1 s1' w' → (s1'.getD []).length ≤ l.length → Inv2 w0 g g2 vc vm l s1' s2 (E ++ [.row 5 1 (.slice b m d) m (bv f)]) w' := by
  obtain ⟨ac, nc, cc, am, nm, cm, a, n, c, a2, n2, c2, h1, h2, hS, hs1, hs2, hl1, hl2⟩ := h
  refine ⟨a, n, c, hS.holds 0 _ rfl, hs1 w (hS.rd (i := 2) rfl), hl1, fun s1' w' b m d f hf hp hl' => ?_⟩
  obtain ⟨a', n', c', hg', hs'⟩ := hp
  have := hf.addBlk hS (i := 0) rfl hg'
  exact ⟨ac, nc, cc, am, nm, cm, a', n', c', a2, n2, c2, h1, h2, by simpa using this, fun v hv => hs' v (hs1 v hv), hs2, hl', hl2⟩

/-- The reference's Reader. -/
theorem Inv2.B (h : Inv2 w0 g g2 vc vm l s1 s2 E w) : ∃ a n c, RdrA g2 mdlT a n c s2 w ∧ RdB w a n c (s2.getD []) ∧ (s2.getD []).length ≤ l.length ∧
    ∀ s2' w', Chg [g2] w w' → RdrP g2 mdlT a n c s2 s2' w' → (s2'.getD []).length ≤ l.length → Inv2 w0 g g2 vc vm l s1 s2' E w' := by
  obtain ⟨ac, nc, cc, am, nm, cm, a, n, c, a2, n2, c2, h1, h2, hS, hs1, hs2, hl1, hl2⟩ := h
  refine ⟨a2, n2, c2, hS.holds 1 _ rfl, hs2 w (hS.rd (i := 3) rfl), hl2, fun s2' w' hc hp hl' => ?_⟩
  obtain ⟨a', n', c', hg', hs'⟩ := hp
  have := hS.upd (i := 1) (r' := .blk g2 (.cells #[.slice a' n' c', .bool s2'.isNone] mdlT)) rfl hc hg' (by simp [Res.fp])
  exact ⟨ac, nc, cc, am, nm, cm, a, n, c, a', n', c', h1, h2, this, hs1, fun v hv => hs' v (hs2 v hv), hl1, hl'⟩

end

theorem raw_len (st : Option (List UInt8)) (x : Int) : (((rawF st x).map (·.2)).getD []).length ≤ (st.getD []).length := by
  cases st with
  | none => simp [rawF]
  | some l =>
    simp only [rawF, Option.bind_some]
    split <;> simp

theorem var_len (st : Option (List UInt8)) : (((varF st).map (·.2)).getD []).length ≤ (st.getD []).length := by
  cases st with
  | none => simp [varF]
  | some l =>
    simp only [varF, Option.bind_some]
    cases readVarF l <;> simp

theorem field_len (st : Option (List UInt8)) : (((st.bind fieldF).map (·.2)).getD []).length ≤ (st.getD []).length := by
  cases st with
  | none => simp
  | some l =>
    simp only [Option.bind_some]
    cases h : fieldF l with
    | none => simp
    | some p =>
      obtain ⟨s, _, _, _, _, hlen, _⟩ := fieldF_some (f := p.1) (r := p.2) h
      simp; omega

theorem raw_len1 (st : Option (List UInt8)) (x : Int) : (((rawF st x).map (·.1)).getD []).length ≤ (st.getD []).length := by
  cases st with
  | none => simp [rawF]
  | some l =>
    simp only [rawF, Option.bind_some]
    split <;> simp
    omega

theorem field_len1 (st : Option (List UInt8)) : (((st.bind fieldF).map (·.1)).getD []).length ≤ (st.getD []).length := by
  cases st with
  | none => simp
  | some l =>
    simp only [Option.bind_some]
    cases h : fieldF l with
    | none => simp
    | some p =>
      obtain ⟨s, _, _, _, _, hlen, _⟩ := fieldF_some (f := p.1) (r := p.2) h
      simp; omega

theorem built_mdl : Try.prog.built 62 = fun parts => Instr.fill (fun i => (#[(0, 1), (1, 1)] : Array (Nat × Nat))[i]?) #[.slice none 0 0, .bool false] parts := by kernel_rfl

theorem mdl_build (a : Option Addr) (n c : Nat) (w : World) : (Instr.build 62 #[(0, .slice a n c)]).run Try.prog w = .ok (.agg #[.slice a n c, .bool false]) w := by
  apply run_build
  rw [built_mdl]
  show Instr.fill _ _ [(0, .slice a n c)] = _
  rw [fill_step (off := 0) (sz := 1) rfl (by simp [Value.cells]) (by simp)]
  simp [Instr.fill, Value.cells]

theorem wireReads_walk (a : Option Addr) (n c : Nat) (l : List UInt8) (a1 : Option Addr) (n1 c1 : Nat) (cs : List Value) (w : World) (hr : RdB w a n c l) (hr1 : Rd w a1 n1 c1 2 cs) (ho : OpsIn cs n1) :
    Calls Try.prog 7 #[.slice a n c, .slice a1 n1 c1] w fun e w' => e = .returned (.bool true) ∧ Chg [] w w' := by
  have hl := hr.lenB
  have iI : ∀ w, (isAgg 3).run Try.prog w = .ok false w := fun w => Try.isAgg3 w
  have aT : ∀ w, (isAgg 65).run Try.prog w = .ok true w := fun w => Try.isAgg65 w
  have sT : ∀ w, (sizeOf 65).run Try.prog w = .ok 2 w := fun w => Try.sizeOf65 w
  have zT : ∀ w, (zeroValue 65).run Try.prog w = .ok (.agg [Value.int .i64 0, .int .i64 0].toArray) w := fun w => Try.zeroValue65 w
  obtain ⟨mI, hI⟩ := eI
  apply amphoralaw04_WireReads_vc
  refine (alive_spec w).mono ?_
  rintro e w1 ⟨rfl, hc1⟩
  refine ⟨_, rfl, fun h => by simp at h, fun _ => ⟨fun _ => ⟨rfl, hc1⟩, fun h => ?_⟩⟩
  obtain ⟨hb, hb1⟩ : n ≤ 65536 ∧ n1 ≤ 300 := by
    simp only [gt_iff_lt, decide_eq_false_iff_not, Bool.or_eq_false_iff] at h; omega
  clear h
  refine (copy_spec a n c l w1 (hr.keep0 hc1) (by omega)).mono ?_
  rintro e w2 ⟨g2, c2, cur, rfl, hc2, hg2, hm⟩
  have hc12 := hc1.trans hc2
  refine ⟨_, _, _, rfl, (newReader_spec _ _ _ l w2 hm.rd (by omega)).mono ?_⟩
  rintro e w3 ⟨g, ac, cc, rfl, h3⟩
  obtain ⟨g4, w4, r4, h4⟩ := h3.lit bT [] (by simp) (by simp)
  obtain ⟨va, vc, w5, r5, h5⟩ := h4.appendB (i := 2) (xs := []) rfl (h4.rd1 (hr.keep0 hc12)) (by simp; omega)
  simp only [List.length_nil, Nat.zero_add, List.nil_append] at r5 h5
  obtain ⟨gm, w6, r6, h6⟩ := h5.box (P := Try.prog) mdlT (.agg #[.slice va n vc, .bool false])
  have hblk : ∀ w', Chg [] w2 w' → MarkB w' g2 n c2 l cur := fun w' h => hm.keep (h.block g2 (getElem?_eq_some_iff.1 hm.blk).1 (by simp))
  refine ⟨_, _, rfl, _, _, _, _, r4, _, _, _, _, r5, _, mdl_build _ _ _ _, gm, w6, r6, (kept_spec _ _ _ _ _ _ _ _ _ (hblk _ h6.chg) (hr.keep0 (hc12.trans h6.chg)) (by omega)).mono ?_⟩
  rintro e w7 ⟨rfl, rfl⟩
  refine ⟨_, rfl, fun h => by simp at h, fun _ => (over_spec _ n c2 l w7 ((hblk _ h6.chg).row (Nat.zero_le _)) (by omega)).mono ?_⟩
  rintro e w8 ⟨rfl, hc8⟩
  refine ⟨rfl, ?_⟩
  -- what stands before the script
  have hlt2 := (getElem?_eq_some_iff.1 hm.blk).1
  have h8 : St w [] w8 [.blk g (.cells #[.slice ac n cc, .bool false] rdrT), .blk gm (.cells #[.slice va n vc, .bool false] mdlT), .row 5 1 (.slice ac n cc) n (bv l), .row 5 1 (.slice va n vc) n (bv l)] := by
    have hfp : ∀ (i : Nat) (r : Res), [Res.row 5 1 (.slice ac n cc) n (bv l), .blk g (.cells #[.slice ac n cc, .bool false] rdrT), .row 5 1 (.slice va n vc) n (bv l), .blk gm (.cells #[.slice va n vc, .bool false] mdlT)][i]? = some r → ∀ k ∈ r.fp, k ≠ g2 := fun i r hi k hk e => by
      have := h6.own i r hi k hk
      simp only [List.not_mem_nil, or_false] at this
      omega
    obtain ⟨p1, p2, p3⟩ := h6.pw
    have hsz := hc12.size
    have hc8' : Chg [g2] w7 w8 := hc8.mono (by simp [Value.ownBlock])
    have hS8 : St w [] w8 [Res.row 5 1 (.slice ac n cc) n (bv l), .blk g (.cells #[.slice ac n cc, .bool false] rdrT), .row 5 1 (.slice va n vc) n (bv l), .blk gm (.cells #[.slice va n vc, .bool false] mdlT)] := by
      refine St.of_mem ((hc12.trans h6.chg).trans' hc8' (fun k hk => ?_)) (fun r hr => ?_) (fun r hr k hk => ?_) p3
      · simp only [List.mem_singleton] at hk; subst hk; left; have := hc1.size; omega
      · refine Res.kept (p1 r hr) fun k hk => hc8'.block k (Res.lt (p1 r hr) k hk) (by
          obtain ⟨i, hi⟩ := List.getElem?_of_mem hr
          simpa using hfp i r hi k hk)
      · have := p2 r hr k hk
        simp only [List.not_mem_nil, or_false] at this ⊢
        omega
    refine hS8.perm ?_
    exact (List.Perm.swap _ _ _).trans (List.Perm.cons _ ((List.Perm.cons _ (List.Perm.swap _ _ _)).trans (List.Perm.swap _ _ _)))
  have hI8 : Inv2 w g gm (.slice ac n cc) (.slice va n vc) l (some l) (some l) [] w8 :=
    ⟨ac, n, cc, va, n, vc, ac, n, cc, va, n, vc, rfl, rfl, h8, fun _ h => h, fun _ h => h, Nat.le_refl _, Nat.le_refl _⟩
  clear h8 hblk h6 h5 h4 h3 r6 r5 r4
  obtain ⟨vcl, hvcl⟩ : ∃ v, Value.slice ac n cc = v := ⟨_, rfl⟩
  obtain ⟨vml, hvml⟩ : ∃ v, Value.slice va n vc = v := ⟨_, rfl⟩
  rw [hvcl, hvml] at hI8
  refine ⟨fun x w' => ∃ (i : Nat) (st : Option (List UInt8)), x = (i : Int) ∧ i ≤ n1 ∧ Inv2 w g gm vcl vml l st st [] w', fun x _ => n1 - x.toNat, ⟨0, some l, rfl, by omega, hI8⟩, ?_⟩
  rintro x w9 ⟨i, st, rfl, hi, hV⟩
  refine ⟨fun h => ?_, fun h => ⟨rfl, hV.chg⟩⟩
  have hi' : i < n1 := by simp at h; omega
  obtain ⟨kd, y, hop⟩ := ho i hi'
  have hcp : ∃ b o g9 w10 w11, a1 = some ⟨b, o, none⟩ ∧ (∀ off, off = o + i * 2 → (Instr.loadAt 65 (.pointer (some ⟨b, off, none⟩))).run Try.prog w9 = .ok (.agg [Value.int .i64 kd, .int .i64 y].toArray) w9) ∧ (Instr.alloc 65 true (.tuple #[])).run Try.prog w9 = .ok (.pointer (some ⟨g9, 0, none⟩)) w10 ∧
      (Instr.storeAt 65 (.pointer (some ⟨g9, 0, none⟩)) (.agg [Value.int .i64 kd, .int .i64 y].toArray)).run Try.prog w10 = .ok () w11 ∧ Inv2 w g gm vcl vml l st st [.arr g9 65 [Value.int .i64 kd, .int .i64 y]] w11 := by
    obtain ⟨ac', nc', cc', am', nm', cm', a', n', c', a2', n2', c2', q1, q2, hS, q3⟩ := hV
    obtain ⟨b, o, g9, w10, w11, ha, e1, e2, e3, h11⟩ := copyAgg hS aT sT zT rfl (hr1.keep0 hS.chg).cells hop rfl (by decide) (by simp [Value.oneCell'])
    exact ⟨b, o, g9, w10, w11, ha, e1, e2, e3, ac', nc', cc', am', nm', cm', a', n', c', a2', n2', c2', q1, q2, by simpa using h11, q3⟩
  obtain ⟨b, o, g9, w10, w11, ha, e1, e2, e3, hV11⟩ := hcp
  clear hV
  have opld : ∀ {w' : World} {s1 s2 : Option (List UInt8)} {E : List Res}, Inv2 w g gm vcl vml l s1 s2 (.arr g9 65 [Value.int .i64 kd, .int .i64 y] :: E) w' → ∀ (j : Nat) (v : Value), [Value.int .i64 kd, .int .i64 y][j]? = some v → (Instr.loadAt 3 (.pointer (some ⟨g9, j, none⟩))).run Try.prog w' = .ok v w' := by
    intro w' s1 s2 E hV j v hj
    obtain ⟨ac', nc', cc', am', nm', cm', a', n', c', a2', n2', c2', q1, q2, hS, q3⟩ := hV
    exact hS.ldL (i := 4) rfl (iI _) rfl hj
  refine ⟨b, o, ha, by omega, by omega, _, e1 _ (by omega), g9, w10, e2, w11, e3, _, opld hV11 0 _ rfl, ?_⟩
  -- behind the call: the same state on both sides
  refine ⟨fun b w' => b = true ∧ ∃ st', Inv2 w g gm vcl vml l st' st' [.arr g9 65 [Value.int .i64 kd, .int .i64 y]] w', ⟨fun _ => ?_, fun _ => ?_⟩, ?_⟩
  · obtain ⟨a', n', c', hg', hr', hl', hA⟩ := hV11.A
    refine (rVar_spec g rdrT st a' n' c' w11 hg' hr').mono ?_
    rintro e w12 ⟨rfl, hc, hp⟩
    have hV12 := hA _ _ hc hp (Nat.le_trans (var_len st) hl')
    obtain ⟨a'', n'', c'', hg'', hr'', hl'', hB⟩ := hV12.B
    refine ⟨_, rfl, (mVar_spec gm mdlT st a'' n'' c'' w12 hg'' hr'').mono ?_⟩
    rintro e w13 ⟨rfl, hc, hp⟩
    exact ⟨_, rfl, by simp, _, hB _ _ hc hp (Nat.le_trans (var_len st) hl'')⟩
  · refine ⟨fun b w' => b = true ∧ ∃ st', Inv2 w g gm vcl vml l st' st' [.arr g9 65 [Value.int .i64 kd, .int .i64 y]] w', ⟨fun _ => ?_, fun _ => ?_⟩, ?_⟩
    · obtain ⟨a', n', c', hg', hr', hl', hA⟩ := hV11.A
      refine (rNum_spec g rdrT st a' n' c' w11 hg' hr').mono ?_
      rintro e w12 ⟨rfl, hc, hp⟩
      have hV12 := hA _ _ hc hp (Nat.le_trans (raw_len st 8) hl')
      obtain ⟨a'', n'', c'', hg'', hr'', hl'', hB⟩ := hV12.B
      refine ⟨_, rfl, (mNum_spec gm mdlT st a'' n'' c'' w12 hg'' hr'').mono ?_⟩
      rintro e w13 ⟨rfl, hc, hp⟩
      exact ⟨_, rfl, by simp, _, hB _ _ hc hp (Nat.le_trans (raw_len st 8) hl'')⟩
    · -- Field and Raw: the answer is written over
      have over : ∀ {w' : World} {st' : Option (List UInt8)} {b : Option Addr} {m d : Nat} {f : List UInt8} {K : Ending → World → Prop}, Inv2 w g gm vcl vml l st' st' [.arr g9 65 [Value.int .i64 kd, .int .i64 y], .row 5 1 (.slice b m d) m (bv f)] w' → m ≤ 4611686018427387904 →
          (∀ w'', Inv2 w g gm vcl vml l st' st' [.arr g9 65 [Value.int .i64 kd, .int .i64 y]] w'' → K (.returned (.tuple #[])) w'') → Calls Try.prog 38 #[.slice b m d] w' K := by
        intro w' st' b m d f K hV hm' hK
        obtain ⟨ac', nc', cc', am', nm', cm', a', n', c', a2', n2', c2', q1, q2, hS, q3⟩ := hV
        refine (over_spec b m d f w' (hS.holds 5 _ rfl) hm').mono ?_
        rintro e w'' ⟨rfl, hc⟩
        refine hK w'' ⟨ac', nc', cc', am', nm', cm', a', n', c', a2', n2', c2', q1, q2, ?_, q3⟩
        have := hS.upd (i := 5) (r' := Res.emp) rfl hc (Res.emp_holds _) (by simp [Res.emp, Res.fp, Value.ownBlock])
        exact St.pop (M := [_, _, _, _, _]) this
      refine ⟨fun b w' => b = true ∧ ∃ st', Inv2 w g gm vcl vml l st' st' [.arr g9 65 [Value.int .i64 kd, .int .i64 y]] w', ⟨fun _ => ?_, fun _ => ?_⟩, ?_⟩
      · obtain ⟨a', n', c', hg', hr', hl', hA⟩ := hV11.AX
        refine (rField_spec g rdrT st a' n' c' w11 hg' hr' (by omega)).mono ?_
        rintro e w12 ⟨b5, n5, c5, rfl, hf, hp⟩
        have hV12 := hA _ _ _ _ _ _ hf hp (Nat.le_trans (field_len st) hl')
        have hV12d := hV12.same (Chg.drew [] w12)
        have hfl := hf.2.1
        have hfb := field_len1 st
        obtain ⟨a'', n'', c'', hg'', hr'', hl'', hB⟩ := hV12d.B
        have rdf : ∀ {w' : World} {s1 s2 : Option (List UInt8)}, Inv2 w g gm vcl vml l s1 s2 [.arr g9 65 [Value.int .i64 kd, .int .i64 y], .row 5 1 (.slice b5 n5 c5) n5 (bv (((st.bind fieldF).map (·.1)).getD []))] w' → RdB w' b5 n5 c5 (((st.bind fieldF).map (·.1)).getD []) := by
          intro w' s1 s2 hV
          obtain ⟨_, _, _, _, _, _, _, _, _, _, _, _, _, _, hS, _⟩ := hV
          exact hS.rd (i := 5) rfl
        refine ⟨_, _, _, rfl, fun w' => ∃ s1 s2, Inv2 w g gm vcl vml l s1 s2 [.arr g9 65 [Value.int .i64 kd, .int .i64 y], .row 5 1 (.slice b5 n5 c5) n5 (bv (((st.bind fieldF).map (·.1)).getD []))] w', ⟨_, _, hV12d⟩, _, fun w' ⟨_, _, hV'⟩ => toStr bS bE sS (rdf hV').cells hfl, (mField_spec gm mdlT st a'' n'' c'' w12.drew hg'' hr'' (by have := hr''.lenB; omega)).mono ?_⟩
        rintro e w13 ⟨b6, n6, c6, rfl, hc, hp, hr6⟩
        have hV13 := hB _ _ hc hp (Nat.le_trans (field_len st) hl'')
        have hl6 := hr6.lenB
        refine ⟨_, _, _, rfl, fun w' => w' = w13, fun w' h => by subst h; exact ⟨_, _, hV13⟩, rfl, _, fun w' h => by subst h; exact toStr bS bE sS hr6.cells hl6, over hV13 (by omega) fun w'' hV'' => ⟨rfl, by simp, _, hV''⟩⟩
      · obtain ⟨a', n', c', hg', hr', hl', hA⟩ := hV11.AX
        refine ⟨_, opld hV11 1 _ rfl, (rRaw_spec g rdrT st y a' n' c' w11 hg' hr' (by omega)).mono ?_⟩
        rintro e w12 ⟨b5, n5, c5, rfl, hf, hp⟩
        have hV12 := hA _ _ _ _ _ _ hf hp (Nat.le_trans (raw_len st y) hl')
        have hV12d := hV12.same (Chg.drew [] w12)
        have hfl := hf.2.1
        have hfb := raw_len1 st y
        obtain ⟨a'', n'', c'', hg'', hr'', hl'', hB⟩ := hV12d.B
        have rdf : ∀ {w' : World} {s1 s2 : Option (List UInt8)}, Inv2 w g gm vcl vml l s1 s2 [.arr g9 65 [Value.int .i64 kd, .int .i64 y], .row 5 1 (.slice b5 n5 c5) n5 (bv (((rawF st y).map (·.1)).getD []))] w' → RdB w' b5 n5 c5 (((rawF st y).map (·.1)).getD []) := by
          intro w' s1 s2 hV
          obtain ⟨_, _, _, _, _, _, _, _, _, _, _, _, _, _, hS, _⟩ := hV
          exact hS.rd (i := 5) rfl
        refine ⟨_, _, _, rfl, fun w' => ∃ s1 s2, Inv2 w g gm vcl vml l s1 s2 [.arr g9 65 [Value.int .i64 kd, .int .i64 y], .row 5 1 (.slice b5 n5 c5) n5 (bv (((rawF st y).map (·.1)).getD []))] w', ⟨_, _, hV12d⟩, _, fun w' ⟨_, _, hV'⟩ => toStr bS bE sS (rdf hV').cells hfl,
          _, fun w' ⟨_, _, hV'⟩ => opld hV' 1 _ rfl, (mRaw_spec gm mdlT st y a'' n'' c'' w12.drew hg'' hr'').mono ?_⟩
        rintro e w13 ⟨b6, n6, c6, rfl, hc, hp, hr6⟩
        have hV13 := hB _ _ hc hp (Nat.le_trans (raw_len st y) hl'')
        have hl6 := hr6.lenB
        exact ⟨_, _, _, rfl, fun w' => w' = w13, fun w' h => by subst h; exact ⟨_, _, hV13⟩, rfl, _, fun w' h => by subst h; exact toStr bS bE sS hr6.cells hl6, over hV13 (by omega) fun w'' hV'' => ⟨rfl, by simp, _, hV''⟩⟩
      · rintro b w22 h
        exact h
    · rintro b w22 h
      exact h
  · rintro b w24 ⟨rfl, st', hV24⟩
    have hVd := hV24.same (Chg.drew [] w24)
    obtain ⟨W, hW⟩ : ∃ W, w24.drew = W := ⟨_, rfl⟩
    rw [hW] at hVd ⊢
    obtain ⟨a', n', c', hg', hr', hl', _⟩ := hVd.A
    obtain ⟨a'', n'', c'', hg'', hr'', hl'', _⟩ := hVd.B
    have hn' := hr'.lenB
    have hn'' := hr''.lenB
    obtain rfl : n'' = n' := by omega
    have pop : Inv2 w g gm vcl vml l st' st' [] W := hVd.map fun M h => by simpa using St.pop h
    have err := rErr_spec g rdrT st' a' n'' c' W hg'
    have don := rDone_spec g rdrT st' a' n'' c' W hg'
    refine ⟨fun b w' => b = false ∧ w' = W, ⟨fun w' => w' = W, rfl, fun h => by simp at h, fun _ => ⟨_, _, _, fun w' h => by subst h; exact rdr_rest hg'', (rLeft_spec g rdrT st' a' n'' c' W hg').mono ?_⟩⟩, ?_⟩
    · rintro e w25 ⟨rfl, rfl⟩
      refine ⟨_, rfl, fun w' => w' = w25, fun _ h => h, rfl, fun h => by simp at h, fun _ => ⟨_, fun w' h => by subst h; exact rdr_flag hg'', err.mono ?_⟩⟩
      rintro e w26 ⟨rfl, rfl⟩
      refine ⟨_, rfl, fun w' => w' = w26, fun _ h => h, rfl, _, fun w' _ => neqS_nil hI (brE st') _ w', fun h => ?_, fun _ => ⟨_, fun w' h => by subst h; exact rdr_flag hg'', don.mono ?_⟩⟩
      · cases st' <;> simp [brE] at h
      rintro e w27 ⟨rfl, rfl⟩
      refine ⟨_, rfl, fun w' => w' = w27, fun _ h => h, rfl, fun hb => ?_, fun hb => ?_⟩
      · cases st' with
        | none => simp at hb
        | some l' =>
        refine ⟨_, fun w' _ => eqlS_nil hI (if 0 < n'' then some 9 else brE (some l')) _ w', _, _, _, fun w' h => by subst h; exact rdr_rest hg'', fun h => ?_, fun _ => err.mono ?_⟩
        · exfalso
          rcases Nat.eq_zero_or_pos n'' with h0 | h0
          · simp [h0, brE] at h
          · have h1 : n'' ≠ 0 := by omega
            simp [h0, h1, brE] at h
        · rintro e w28 ⟨rfl, rfl⟩
          exact ⟨_, rfl, fun w' => w' = w28, fun _ h => h, rfl, _, fun w' _ => neqS_nil hI (brE (some l')) _ w', fun h => by simp [brE] at h, fun _ => ⟨rfl, rfl, rfl, rfl⟩⟩
      · cases st' with
        | some l' => simp at hb
        | none =>
        refine ⟨_, fun w' _ => eqlS_nil hI (if 0 < n'' then some 9 else brE none) _ w', fun h => ?_, fun _ => err.mono ?_⟩
        · exfalso
          rcases Nat.eq_zero_or_pos n'' with h0 | h0
          · simp [h0, brE] at h
          · simp [h0, brE] at h
        · rintro e w28 ⟨rfl, rfl⟩
          refine ⟨_, rfl, fun w' => w' = w28, fun _ h => h, rfl, _, fun w' _ => neqS_nil hI (brE none) _ w', fun _ => err.mono ?_, fun h => by simp [brE] at h⟩
          rintro e w29 ⟨rfl, rfl⟩
          refine ⟨_, rfl, fun w' => w' = w29, fun _ h => h, rfl, (num_spec (brE none) w29 (by decide)).mono ?_⟩
          rintro e w30 ⟨rfl, rfl⟩
          exact ⟨_, rfl, fun w' => w' = w30, fun _ h => h, rfl, by simp [brE], rfl⟩
    · rintro b w34 ⟨rfl, rfl⟩
      exact ⟨fun h => (by cases h), fun _ => ⟨⟨i + 1, st', wrap_succ hi' (by omega), by omega, pop⟩, mu_succ hi' (by omega)⟩⟩

end Go.Proofs.Ytpfjakmbokkkoaa
