/- A disk in memory: make, Rename, Remove, settle (conditions: those that each theorem names). -/
import Derived.Test.YtoijbpkplegnkaaDiskD
namespace Go.Proofs.Ytoijbpkplegnkaa
open Go Sx
set_option maxRecDepth 8000

section
variable {w0 w w' : World} {X : List Nat} {N N' : List Res} {gd : Nat} {ps : List Nat} {m : DiskM}

theorem eqPtr (op : BinOp) (hop : op = .eql ∨ op = .neq) {T e : TypeId} (hT : Try.prog.underlying T = some (.pointer e)) (x y : Operand) (a : Option Addr) (w : World) : (eqlS op T x y (.pointer a) (.pointer none)).run Try.prog w = .ok (.bool (if op == .neq then a.isSome else a.isNone)) w := by
  have h1 : ∀ d, (Op.equalIn (d + 1) T (.pointer a) (.pointer none)).run Try.prog w = .ok a.isNone w := fun d => by cases a <;> simp [Op.equalIn, run_underlying hT]
  have h2 : (eqGuard op T x y (.pointer a) (.pointer none)).run Try.prog w = .ok () w := by rcases hop with rfl | rfl <;> rfl
  rcases hop with rfl | rfl <;> cases a <;> simp [eqlS, h2, binOp, Op.equal, show Op.maxDepth = 9999 + 1 from rfl, h1 9999]

theorem lookD {gs : List Nat} {g : Nat} {es : Array MapEntry} {ck : Nat} {Mn d : Dir} (hE : MapE kyE (vlE gs) es ck Mn) (hD : MapIsA Ent.name Mn d) (hg : w.heap[g]? = some (.map es ck)) (n : Nm) (ok : Bool) :
    (Instr.lookup 77 (.map (some g)) (strV n) true).run Try.prog w = .ok (.tuple #[((findD d n).map (vlE gs)).getD (.pointer none), .bool (findD d n).isSome]) w := by
  have hl := hE.lookupK (P := Try.prog) (keyD Mn) dirT hg (id := n) trivial pfZ
  have hf := hD.find n
  rw [hl]
  cases hq : fndM Ent.name Mn n with
  | none => rw [hq] at hf; rw [show findD d n = none from hf.symm]; rfl
  | some q => rw [hq] at hf; rw [show findD d n = some q.2 from hf.symm]; rfl

theorem pfT : Try.prog.underlying 84 = some (.pointer 87) := Try.underlying84
theorem pfA (w : World) : (isAgg 84).run Try.prog w = .ok false w := Try.isAgg84 w
theorem getLast' {M : List Res} {x : Res} : (M ++ [x])[M.length]? = some x := by simp

theorem make_spec {M : List Res} {i g : Nat} {gs : List Nat} {es : Array MapEntry} {ck : Nat} {Mn d : Dir} (hS : St w0 X w M) (hi : M[i]? = some (.blk g (.map es ck))) (hE : MapE kyE (vlE gs) es ck Mn) (hD : MapIsA Ent.name Mn d) (c : ChM) :
    Calls Try.prog 48 #[.map (some g), .agg (chC gs c).toArray] w fun e w' => e = .returned (.tuple #[]) ∧ ∃ es' ck' Mn', MapE kyE (vlE gs) es' ck' Mn' ∧ MapIsA Ent.name Mn' (mkD d c) ∧ St w0 X w' (M.set i (.blk g (.map es' ck'))) := by
  have him := (List.getElem?_eq_some_iff.1 hi).1
  apply disk_dir_make_vc
  obtain ⟨g3, w1, r1, h1⟩ := hS.boxA (P := Try.prog) 89 (chC gs c)
  have hi1 : ∀ y : Res, (M ++ [y])[i]? = some (.blk g (.map es ck)) := fun y => by rw [List.getElem?_append_left him]; exact hi
  have hg1 : w1.heap[g]? = some (.map es ck) := h1.holds i _ (hi1 _)
  have ldT : ∀ {w'' : World} {M' : List Res}, St w0 X w'' (M' ++ [Res.arr g3 89 (chC gs c)]) → (Instr.loadAt 9 (.pointer (some ⟨g3, 2, none⟩))).run Try.prog w'' = .ok (strV c.to) w'' ∧ (Instr.loadAt 9 (.pointer (some ⟨g3, 1, none⟩))).run Try.prog w'' = .ok (strV c.fr) w'' := fun h =>
    ⟨h.ldL (o := 2) getLast' (stA' _) rfl rfl, h.ldL (o := 1) getLast' (stA' _) rfl rfl⟩
  have ldM : (Instr.loadAt 84 (.pointer (some ⟨g3, 0, none⟩))).run Try.prog w1 = .ok (match c.made with | some i => ptrV gs i | none => .pointer none) w1 := h1.ldL (o := 0) getLast' (pfA _) rfl rfl
  have setM : ∀ {w'' : World} {o : Obj}, St w0 X w'' ((M ++ [Res.arr g3 89 (chC gs c)]).set i (.blk g o)) → St w0 X w'' (M.set i (.blk g o) ++ [Res.arr g3 89 (chC gs c)]) := fun h => by
    rw [List.set_append_left _ _ him] at h; exact h
  cases hm : c.made with
  | some k =>
    rw [hm] at ldM
    obtain ⟨es', ck', rU, hE'⟩ := hE.updateK (P := Try.prog) (keyD Mn) dirT hg1 (⟨c.to, k⟩ : Ent) trivial
    have h2 := setM (St.putBlk h1 (i := i) (o' := .map es' ck') (hi1 _))
    refine ⟨g3, w1, r1, _, ldM, _, eqPtr .neq (.inr rfl) pfT _ _ (some ⟨gs.getD k 0, 0, none⟩) w1, fun _ => ⟨_, (ldT h1).1, _, ldM, _, rU, rfl, es', ck', _, hE', ?_, St.pop h2⟩, fun h => by simp at h⟩
    have : mkD d c = insA Ent.name d ⟨c.to, k⟩ := by unfold mkD; rw [hm]
    rw [this]
    exact hD.upd _
  | none =>
    rw [hm] at ldM
    have hlk := lookD hE hD hg1 c.fr true
    refine ⟨g3, w1, r1, _, ldM, _, eqPtr .neq (.inr rfl) pfT _ _ none w1, fun h => by simp at h, fun _ => ⟨_, (ldT h1).2, _, _, w1, hlk, fun hno => ?_, fun hyes => ?_⟩⟩
    · have hf : findD d c.fr = none := by
        cases hq : findD d c.fr with
        | none => rfl
        | some e => rw [hq] at hno; simp at hno
      have : mkD d c = d := by unfold mkD; rw [hm]; simp only [hf]
      rw [this]
      refine ⟨rfl, es, ck, Mn, hE, hD, ?_⟩
      have e : M.set i (.blk g (.map es ck)) = M := by
        obtain ⟨h1, h2⟩ := List.getElem?_eq_some_iff.1 hi
        rw [← h2, List.set_getElem_self]
      rw [e]
      exact St.pop h1
    · obtain ⟨e, hf⟩ : ∃ e, findD d c.fr = some e := by
        cases hq : findD d c.fr with
        | none => rw [hq] at hyes; simp at hyes
        | some e => exact ⟨e, rfl⟩
      have hfnd : ∃ j, fndM Ent.name Mn c.fr = some (j, e) := by
        have h := hD.find c.fr
        have hf' : findA Ent.name d c.fr = some e := hf
        rw [hf'] at h
        obtain ⟨⟨j, e'⟩, h1, h2⟩ := Option.map_eq_some_iff.1 h
        exact ⟨j, by rw [h1]; simp only at h2; rw [h2]⟩
      obtain ⟨j, hj⟩ := hfnd
      obtain ⟨es', rD, hD1, _⟩ := hE.deleteK (P := Try.prog) (keyD Mn) dirT hg1 (id := c.fr) trivial #[77, 9] rfl 0
      obtain ⟨_, hE'⟩ := hD1 j e hj
      have hD' := hD.del hj
      have h2 := setM (St.putBlk h1 (i := i) (o' := .map es' ck) (hi1 _))
      have hi2 : (M.set i (.blk g (.map es' ck)) ++ [Res.arr g3 89 (chC gs c)])[i]? = some (.blk g (.map es' ck)) := by
        rw [List.getElem?_append_left (by simpa using him), List.getElem?_set_self him]
      have hval : ((some e).map (vlE gs)).getD (.pointer none) = ptrV gs e.file := rfl
      rw [hf, hval]
      have ldTo := (ldT h2).1
      refine ⟨_, (ldT h1).2, _, _, rD, _, ldTo, fun w' => ∃ es2 ck2 Mn2, MapE kyE (vlE gs) es2 ck2 Mn2 ∧ MapIsA Ent.name Mn2 (mkD d c) ∧ St w0 X w' (M.set i (.blk g (.map es2 ck2))), ⟨fun hne => ?_, fun heq => ?_⟩, ?_⟩
      · rw [empty_eq] at hne
        have hto : ¬ c.to = [] := by
          intro h0; rw [h0] at hne; simp at hne
        obtain ⟨es2, ck2, rU, hE2⟩ := hE'.updateK (P := Try.prog) (keyD _) dirT (h2.holds i _ hi2) (⟨c.to, e.file⟩ : Ent) trivial
        have h3 := St.putBlk h2 (i := i) (o' := .map es2 ck2) hi2
        rw [List.set_append_left _ _ (by simpa using him), List.set_set] at h3
        refine ⟨_, ldTo, _, rU, es2, ck2, _, hE2, ?_, St.pop h3⟩
        have : mkD d c = insA Ent.name (delA Ent.name d c.fr) ⟨c.to, e.file⟩ := by unfold mkD; rw [hm]; simp only [hf, if_neg hto]
        rw [this]
        exact hD'.upd _
      · rw [empty_eq] at heq
        have hto : c.to = [] := List.eq_nil_of_length_eq_zero (by simpa using heq)
        refine ⟨es', ck, _, hE', ?_, St.pop h2⟩
        have : mkD d c = delA Ent.name d c.fr := by unfold mkD; rw [hm]; simp only [hf, if_pos hto]
        rw [this]
        exact hD'
      · rintro w6 ⟨es2, ck2, Mn2, h1, h2, h3⟩
        exact ⟨rfl, es2, ck2, Mn2, h1, h2, h3⟩

/-- A variable of several cells, laid and written. -/
theorem Sx.St.varA {P : Program} {w0 w : World} {X : List Nat} {M : List Res} (h : St w0 X w M) {T n : Nat} {z v : List Value} (hz : ∀ w, (zeroValue T).run P w = .ok (.agg z.toArray) w) (hS : ∀ w, (sizeOf T).run P w = .ok n w) (hzl : z.length = n) (hv : v.length = n) (h1 : ∀ u ∈ v, u.oneCell' = true) :
    ∃ g w1 w2, (Instr.alloc T true (.tuple #[])).run P w = .ok (.pointer (some ⟨g, 0, none⟩)) w1 ∧ (Instr.storeAt T (.pointer (some ⟨g, 0, none⟩)) (.agg v.toArray)).run P w1 = .ok () w2 ∧ St w0 X w2 (M ++ [.arr g T v]) := by
  obtain ⟨g, w1, r1, h2⟩ := h.zeroA hz
  obtain ⟨w2, r2, h3⟩ := h2.stA (i := M.length) (v := v) getLast' (hS _) hzl hv h1
  rw [List.set_append_right _ _ (Nat.le_refl _), Nat.sub_self] at h3
  exact ⟨g, w1, w2, r1, r2, h3⟩

theorem chZ (w : World) : (zeroValue 89).run Try.prog w = .ok (.agg [Value.pointer none, strV [], strV []].toArray) w := Try.zeroValue89 w
theorem chSz (w : World) : (sizeOf 89).run Try.prog w = .ok 3 w := Try.sizeOf89 w
theorem chAg (w : World) : (isAgg 89).run Try.prog w = .ok true w := Try.isAgg89 w

theorem DOk.change {p : DP} (hp : DOk m p) (c : ChM) (hc : c.made = none) (hto : c.to = [] ∨ goodN c.to = true) {es : Array MapEntry} {ck : Nat} {Mn : Dir} (hE : MapE kyE (vlE p.ps) es ck Mn) (hD : MapIsA Ent.name Mn (mkD m.now c)) (ca : Option Addr) (cc : Nat) : DOk (doCh m c) { p with esn := es, ckn := ck, Mn := Mn, ca := ca, cc := cc } := by
  have hn := hp.wf.okNow
  have hok : OkDir m.files.length (mkD m.now c) := by
    unfold mkD
    rw [hc]
    cases hf : findD m.now c.fr with
    | none => exact hn
    | some e =>
      obtain ⟨h1, h2⟩ := findA_mem hf
      simp only
      split
      · exact hn.del _
      · rename_i hne
        refine (hn.del c.fr).ins (hn.ent e h1).1 (hto.resolve_left hne) (.inl ?_) fun x hx hxn hfe => ?_
        · have := delA_len_in hf; have := hn.len; omega
        · obtain ⟨h3, h4⟩ := mem_delA.1 hx
          have := hn.inj' h3 h1 hfe
          rw [this] at h4
          exact h4 h2
  exact ⟨hp.wf.snoc (Nat.le_refl _) hp.wf.syn (fun i hi => by rw [hc] at hi; cases hi) hok, hp.files, hp.arm, hp.fails, hE, hD, hp.maps, hp.iss⟩

theorem DR_snoc (R : List Res) (FL : List FR) (N : List Res) (x : Res) : (R ++ DR FL N) ++ [x] = R ++ DR FL (N ++ [x]) := by simp [DR, List.append_assoc]

/-- Behind a change of the directory: the change is noted. -/
theorem St.noted {p : DP} {c : ChM} {vb : Option Addr} {vd : Nat} {w2 : World}
    (h2 : St w0 X w2 (((resD gd m p ++ DR p.FL N).set 3 (.row 89 3 (.slice vb (m.chs.length + 1) vd) (m.chs.length + 1) (m.chs.flatMap (chC p.ps) ++ chC p.ps c))).set 0 (.arr gd 82 ((dskL m p).set 8 (.slice vb (m.chs.length + 1) vd))))) :
    St w0 X w2 (resD gd { m with chs := m.chs ++ [c] } { p with ca := vb, cc := vd } ++ DR p.FL N) := by
  have el : (m.chs ++ [c]).length = m.chs.length + 1 := by simp
  have ef : (m.chs ++ [c]).flatMap (chC p.ps) = m.chs.flatMap (chC p.ps) ++ chC p.ps c := by simp
  unfold resD dskL
  show St w0 X w2 (.arr gd 82 [_, _, _, _, _, _, _, _, .slice vb (m.chs ++ [c]).length vd] :: .blk _ _ :: .blk _ _ :: .row _ _ (.slice vb (m.chs ++ [c]).length vd) (m.chs ++ [c]).length ((m.chs ++ [c]).flatMap (chC p.ps)) :: _ :: _)
  simp only [el, ef]
  exact h2

set_option maxHeartbeats 1000000 in
theorem rename_spec (a b : Nm) (h : DiskIn w0 X w gd ps m N) (hb : m.steps < 4611686018427387904) (hc : m.chs.length < 1000000000) :
    Calls Try.prog 33 #[.pointer (some ⟨gd, 0, none⟩), strV a, strV b] w fun e w' => e = .returned (errV (renameM m a b).2) ∧ DiskIn w0 X w' gd ps (renameM m a b).1 N := by
  obtain ⟨mI, hI⟩ := eI
  apply disk_Disk_Rename_vc
  obtain ⟨g, w1, r1, h1⟩ := (St.start w).lit strT [strV a, strV b] (by simp [Value.oneCell', strV]) (by simp)
  have hD1 := h.same h1.chg
  refine ⟨_, _, _, w1, r1, (ready_spec _ _ _ [a, b] hD1 (h1.rd (i := 0) rfl) (by simp)).mono ?_⟩
  rintro e w2 ⟨rfl, rfl⟩
  refine ⟨_, rfl, _, neqS_nil hI _ _ _, fun hne => ?_, fun hok => ?_⟩
  · obtain ⟨e, he⟩ := Option.isSome_iff_exists.1 hne
    have : renameM m a b = (m, some e) := by simp only [renameM, he]
    rw [this, he]
    exact ⟨rfl, hD1⟩
  have hrn : readyM m [a, b] = none := by simpa using hok
  have hgb : goodN b = true := by
    unfold readyM at hrn
    split at hrn
    · cases hrn
    · split at hrn
      · rename_i hall; simp at hall; exact hall.2
      · cases hrn
  refine (found_spec a hD1).mono ?_
  rintro e w3 ⟨rfl, c3⟩
  have hD3 := hD1.same c3
  refine ⟨_, _, rfl, _, neqS_nil hI _ _ _, fun hne => ?_, fun hok => ?_⟩
  · obtain ⟨e, he⟩ := Option.isSome_iff_exists.1 hne
    have : renameM m a b = (m, some e) := by simp only [renameM, hrn, he]
    rw [this, he]
    exact ⟨rfl, hD3⟩
  have hfn : foundE m a = none := by simpa using hok
  have hap : renameM m a b = stepsM m fun m => doCh m ⟨none, a, b⟩ := by simp only [renameM, hrn, hfn]
  refine (step_spec hD3 hb).mono ?_
  rintro e w4 ⟨rfl, hD4⟩
  refine ⟨_, rfl, _, neqS_nil hI _ _ _, fun hne => ?_, fun hok => ?_⟩
  · obtain ⟨e, he⟩ := Option.isSome_iff_exists.1 hne
    rw [hap]
    unfold stepsM
    rw [he]
    exact ⟨rfl, hD4⟩
  have hst : (stepM m).2 = none := by simpa using hok
  have hres : renameM m a b = (doCh (stepM m).1 ⟨none, a, b⟩, none) := by rw [hap]; unfold stepsM; rw [hst]
  rw [hres]
  obtain ⟨m1, hm1⟩ : ∃ m1, (stepM m).1 = m1 := ⟨_, rfl⟩
  obtain ⟨e1, e2, e3, e4, _⟩ := stepM_same m
  rw [hm1] at hD4 e1 e2 e3 e4 ⊢
  obtain ⟨p, hps, hp, hS⟩ := hD4
  obtain ⟨c, hcd⟩ : ∃ c : ChM, (⟨none, a, b⟩ : ChM) = c := ⟨_, rfl⟩
  have hcm : c.made = none := by rw [← hcd]
  have hcv : (chC p.ps c) = [.pointer none, strV a, strV b] := by rw [← hcd]; rfl
  obtain ⟨g11, w5, w6, r5, r6, h6⟩ := hS.varA (v := chC p.ps c) chZ chSz rfl (chC_len _ _) (chC_one _ _)
  rw [hcv] at r6
  refine ⟨_, ch_build12 a b w4, g11, w5, r5, w6, r6, fun w' => ∃ Y, St w0 X w' ((.arr gd 82 (dskL m1 p) :: Y) ++ [.arr g11 89 (chC p.ps c)]), ⟨_, h6.drew⟩, .map (some p.gn), ?_, (chC p.ps c).toArray, ?_, (make_spec (i := 1) h6.drew rfl hp.mapn hp.isn c).mono ?_⟩
  · rintro w' ⟨Y, hY⟩
    exact hY.ldL (i := 0) (o := 6) rfl (dirA _) rfl rfl
  · rintro w' ⟨Y, hY⟩
    exact hY.ldA (l := chC p.ps c) getLast' (chAg _) (chSz _) (chC_len _ _)
  rintro e w7 ⟨rfl, es', ck', Mn', hE', hD', h7⟩
  have hp7 : ({ p with esn := es', ckn := ck', Mn := Mn' } : DP).ps = p.ps := rfl
  obtain ⟨q, hq⟩ : ∃ q, ({ p with esn := es', ckn := ck', Mn := Mn' } : DP) = q := ⟨_, rfl⟩
  have h7 : St w0 X w7 ((resD gd m1 q ++ DR q.FL N) ++ [.arr g11 89 (chC p.ps c)]) := by rw [← hq]; exact h7
  have hqps : q.ps = p.ps := by rw [← hq]; rfl
  have h7d := h7.drew
  obtain ⟨g8, w8, vb, vd, w9, r8, r9, h9, h8⟩ := h7d.pushA (i := 3) (ty := 80) chT rfl (chC p.ps c) (chC_len _ _) (by decide) (chC_one _ _) (by rw [e3]; omega) (by simp only [maxLen]; rw [e3]; omega)
  obtain ⟨w10, r10, h10⟩ := h9.stL (i := 0) (o := 8) (off := 8) (T := 80) (v := .slice vb (m1.chs.length + 1) vd) rfl (chsS _) rfl (by simp [dskL]) rfl
  have hlt : 3 < (resD gd m1 q ++ DR q.FL N).length := by simp only [resD, List.length_append, List.length_cons]; omega
  have h9' := h9
  have h8' := h8
  rw [List.set_append_left _ _ hlt] at h9'
  refine ⟨rfl, fun w' => ∃ Y, St w0 X w' ((.arr gd 82 (dskL m1 p) :: Y) ++ [.arr g11 89 (chC p.ps c)]), fun _ h => h, ?_, fun w' => ∃ Y, St w0 X w' ((.arr gd 82 (dskL m1 q) :: Y) ++ [.arr g11 89 (chC p.ps c)]), ⟨_, h7d⟩, _, _, _, fun w' ⟨Y, hY⟩ => hY.ldL (i := 0) (o := 8) rfl (chsA _) rfl rfl, (chC p.ps c).toArray, fun w' ⟨Y, hY⟩ => hY.ldA (l := chC p.ps c) getLast' (chAg _) (chSz _) (chC_len _ _), _, _, _, w8, r8, fun w' => ∃ Y, St w0 X w' ((.arr gd 82 (dskL m1 q) :: Y) ++ [.arr g11 89 (chC p.ps c)]), fun _ h => h, ⟨_, h8⟩, vb, _, vd, w9, r9, fun w' => ∃ Y, St w0 X w' ((.arr gd 82 (dskL m1 q) :: Y) ++ [.arr g11 89 (chC p.ps c)]), fun _ h => h, ⟨_, h9'⟩, w10, r10, rfl, ?_⟩
  · rw [← hq] at h7
    exact ⟨_, h7⟩
  · have hok := hp.change c hcm (.inr (by rw [← hcd]; exact hgb)) hE' hD' vb vd
    refine ⟨{ p with esn := es', ckn := ck', Mn := Mn', ca := vb, cc := vd }, hps, ?_, ?_⟩
    · rw [hcd]; exact hok
    · rw [hcd]
      have hX : St w0 X w10 ((((resD gd m1 q ++ DR q.FL N).set 3 (.row 89 3 (.slice vb (m1.chs.length + 1) vd) (m1.chs.length + 1) (m1.chs.flatMap (chC q.ps) ++ chC q.ps c))).set 0 (.arr gd 82 ((dskL m1 q).set 8 (.slice vb (m1.chs.length + 1) vd)))) ++ [.arr g11 89 (chC p.ps c)]) := by
        rw [hqps]
        rw [hqps] at h10
        exact h10
      have hY := St.noted (m := m1) (p := q) (c := c) (gd := gd) (N := N) (vb := vb) (vd := vd) (St.pop hX)
      rw [← hq] at hY
      exact hY

end

end Go.Proofs.Ytoijbpkplegnkaa
