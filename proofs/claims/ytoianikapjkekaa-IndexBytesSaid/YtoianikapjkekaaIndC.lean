/- An Index in memory: New, Add, and what they call (conditions: those that each theorem names). -/
import Derived.Test.YtoianikapjkekaaIndF
import Derived.Test.YtoianikapjkekaaLists
import Derived.Test.YtoianikapjkekaaNum
namespace Go.Proofs.Ytoianikapjkekaa
open Go Sx
set_option maxRecDepth 8000

def kyV (r : RefD) : Value := .agg (bv r.id).toArray
def vlV (r : RefD) : Value := .agg (refC r).toArray
theorem keyEq : KeyEq Try.prog 40 32 := ⟨5, Try.underlying40, bE, fun w => Try.sizeOf5 w, fun w => Try.isAgg5 w⟩
theorem keyL (M : Refs) : KeyL Try.prog 40 32 kyV RefD.id M := ⟨keyEq, fun _ => rfl, fun r _ => r.idl⟩
theorem mapT : Try.prog.underlying 75 = some (.map 40 52) := Try.underlying75
theorem mpA (w : World) : (isAgg 75).run Try.prog w = .ok false w := Try.isAgg75 w
theorem rfA (w : World) : (isAgg 52).run Try.prog w = .ok true w := Try.isAgg52 w
theorem rfS (w : World) : (sizeOf 52).run Try.prog w = .ok 35 w := Try.sizeOf52 w
theorem rfZ (w : World) : (zeroValue 52).run Try.prog w = .ok (.agg (refC ref0).toArray) w := Try.zeroValue52 w
theorem inA (w : World) : (isAgg 3).run Try.prog w = .ok false w := Try.isAgg3 w

section
variable {w0 w : World} {X : List Nat} {N : List Res}

/-- A row that may be read abides the change of what is no cells. -/
theorem Rd.keepM {w w' : World} {g : Nat} {o : Obj} {a : Option Addr} {n c sz : Nat} {cs : List Value} (h : Rd w a n c sz cs) (hg : w.heap[g]? = some o) (ho : ∀ c T fr, o ≠ .cells c T fr) (hc : Chg [g] w w') : Rd w' a n c sz cs := by
  refine ⟨?_, h.len, h.le, h.nil⟩
  rcases h.cells with h0 | ⟨b, f, ha, hr⟩
  · exact .inl h0
  · refine .inr ⟨b, f, ha, fun j v hv => ?_⟩
    have h1 := hr j v hv
    by_cases hb : b = g
    · subst hb
      exfalso
      unfold World.cell? at h1
      simp only [hg] at h1
      cases o with
      | cells c' T fr => exact ho c' T fr rfl
      | _ => simp at h1
    · rw [← h1]
      exact World.cell?_of_block (hc.block b (World.block_lt_of_cell? w _ h1) (by simpa using hb))

/-- The cells of a ref. -/
theorem refFld {M : List Res} {i g : Nat} {T : TypeId} {r : RefD} (h : St w0 X w M) (hi : M[i]? = some (.arr g T (refC r))) :
    (Instr.loadAt 3 (.pointer (some ⟨g, 32, none⟩))).run Try.prog w = .ok (.int .i64 r.pack) w ∧ (Instr.loadAt 3 (.pointer (some ⟨g, 33, none⟩))).run Try.prog w = .ok (.int .i64 r.at_) w ∧ (Instr.loadAt 3 (.pointer (some ⟨g, 34, none⟩))).run Try.prog w = .ok (.int .i64 r.len) w := by
  refine ⟨h.ldL hi (inA _) rfl ?_, h.ldL hi (inA _) rfl ?_, h.ldL hi (inA _) rfl ?_⟩ <;> rw [refC, List.getElem?_append_right (by simp [r.idl])] <;> simp [r.idl]

theorem good_spec (r : RefD) (w : World) : Calls Try.prog 36 #[.agg (refC r).toArray] w fun e w' => e = .returned (.bool (goodF r)) ∧ Chg [] w w' := by
  apply index_good_vc
  obtain ⟨g1, w1, r1, h1⟩ := (St.start w).boxA (P := Try.prog) 52 (refC r)
  obtain ⟨f1, f2, f3⟩ := refFld h1 (i := 0) rfl
  refine ⟨g1, w1, r1, _, f1, fun h => ⟨_, f1, fun h2 => ⟨_, f2, fun h3 => ⟨_, f3, ?_, h1.chg⟩, fun h3 => ⟨?_, h1.chg⟩⟩, fun h2 => ⟨?_, h1.chg⟩⟩, fun h => ⟨?_, h1.chg⟩⟩
  all_goals
    congr 2
    unfold goodF
    simp only [ge_iff_le, decide_eq_true_eq, decide_eq_false_iff_not] at *
    simp [*]

theorem add1_spec (r : RefD) (w : World) : Calls Try.prog 39 #[.agg (refC r).toArray] w fun e w' => e = .returned (.bool (!goodF r)) ∧ Chg [] w w' := by
  apply index_Index_Add_1_vc
  obtain ⟨g1, w1, r1, h1⟩ := (St.start w).boxA (P := Try.prog) 52 (refC r)
  refine ⟨g1, w1, r1, _, h1.ldA (i := 0) (l := refC r) rfl (rfA _) (rfS _) (refC_len r), (good_spec r w1).mono ?_⟩
  rintro e w2 ⟨rfl, c2⟩
  exact ⟨_, rfl, rfl, h1.chg.trans c2⟩

abbrev RdR (w : World) (a : Option Addr) (n c : Nat) (l : Refs) : Prop := RdE refC 35 w a n c l

theorem contains_spec (a : Option Addr) (n c : Nat) (l : Refs) (w : World) (hr : RdR w a n c l) (hb : n ≤ 4611686018427387904) :
    Calls Try.prog 38 #[.slice a n c, .func (.func 39) #[] #[]] w fun e w' => e = .returned (.bool (!l.all goodF)) ∧ Chg [] w w' := by
  have hln := hr.num (by decide)
  apply slices_ContainsFunc_api_Ref_api_Ref_vc
  have key : Calls Try.prog 57 #[.slice a n c, .func (.func 39) #[] #[]] w fun e w' => ∃ t : Int, e = .returned (.int .i64 t) ∧ decide (t ≥ 0) = (!l.all goodF) ∧ Chg [] w w' := by
    apply slices_IndexFunc_api_Ref_api_Ref_vc
    refine ⟨fun x w' => ∃ i : Nat, x = (i : Int) ∧ i ≤ n ∧ (l.take i).all goodF = true ∧ Chg [] w w', fun x _ => n - x.toNat, ⟨0, rfl, by omega, by simp, Chg.refl _ _⟩, ?_⟩
    rintro x w1 ⟨i, rfl, hi, hall, hc⟩
    refine ⟨fun h => ?_, fun h => ?_⟩
    · have hi' : i < n := by simp at h; omega
      obtain ⟨b, o, ha, q⟩ := hr.ld (P := Try.prog) (by decide) rfA rfS (i := i) (List.getElem?_eq_getElem (by omega))
      refine ⟨b, o, ha, by omega, by omega, _, q w1 (hr.keep0 hc), 39, [], rfl, by kernel_rfl, (add1_spec _ w1).mono ?_⟩
      rintro e w2 ⟨rfl, c2⟩
      refine ⟨_, rfl, fun h => ⟨_, rfl, ?_, hc.trans c2⟩, fun h => ⟨⟨i + 1, wrap_succ hi' hb, by omega, ?_, hc.trans c2⟩, mu_succ hi' hb⟩⟩
      · have hg : goodF l[i] = false := by simpa using h
        have : l.all goodF = false := by
          rw [List.all_eq_false]
          exact ⟨l[i], List.getElem_mem _, by simp [hg]⟩
        rw [this]
        simp
      · rw [List.take_add_one, List.getElem?_eq_getElem (by omega), List.all_append, hall]
        simpa using h
    · have hi' : i = n := by simp at h; omega
      rw [hi', List.take_of_length_le (by omega)] at hall
      exact ⟨_, rfl, by rw [hall]; rfl, hc⟩
  refine Calls.mono key ?_
  rintro e w' ⟨t, rfl, h1, h2⟩
  exact ⟨t, rfl, by rw [h1], h2⟩

/-- An Index that is held: what it has, in order. -/
def IdxIn (w0 : World) (X : List Nat) (w : World) (gi gm : Nat) (S : Refs) (N : List Res) : Prop :=
  ∃ es clock M, MapE kyV vlV es clock M ∧ MapIs M S ∧ St w0 X w (.arr gi 77 [.map (some gm)] :: .blk gm (.map es clock) :: N)

theorem built_index : Try.prog.built 77 = fun parts => Instr.fill (fun i => (#[(0, 1)] : Array (Nat × Nat))[i]?) #[.map none] parts := by kernel_rfl
theorem index_build (v : Value) (hv : v.cells = #[v]) (w : World) : (Instr.build 77 #[(0, v)]).run Try.prog w = .ok (.agg #[v]) w := by
  apply run_build
  rw [built_index]
  show Instr.fill _ _ [(0, v)] = _
  rw [fill_step (off := 0) (sz := 1) rfl (by simp [hv]) (by simp)]
  simp [Instr.fill, hv]

theorem new_spec (w : World) : Calls Try.prog 18 #[] w fun e w' => ∃ gi gm, e = .returned (.pointer (some ⟨gi, 0, none⟩)) ∧ IdxIn w [] w' gi gm [] [] := by
  apply index_New_vc
  have h1 : St w [] (w.alloc (.map #[] 0)) [.blk w.heap.size (.map #[] 0)] := (St.start w).add (Chg.alloc _ _) (heap_alloc_new w _) (by simp [Res.fp])
  obtain ⟨g3, w2, r2, h2⟩ := h1.boxA (P := Try.prog) 77 [.map (some w.heap.size)]
  refine ⟨.map (some w.heap.size), _, rfl, #[.map (some w.heap.size)], index_build _ rfl _, g3, w2, r2, g3, _, rfl, #[], 0, [], MapE.nil _ _, MapIs.nil, h2.perm (List.Perm.swap _ _ _)⟩

theorem St.putMap {M : List Res} (h : St w0 X w M) {i g : Nat} {o o' : Obj} (hi : M[i]? = some (.blk g o)) : St w0 X (w.putObj g o') (M.set i (.blk g o')) := by
  have hg : w.heap[g]? = some o := h.holds i _ hi
  have hlt := (Array.getElem?_eq_some_iff.1 hg).1
  refine h.upd hi ⟨rfl, rfl, rfl, by simp, fun k hk hx => ?_⟩ (World.putObj_heap_same hlt) (by simp [Res.fp])
  exact World.putObj_heap_other fun e => hx (by simp [Res.fp, e])

theorem putMap_chg {g : Nat} {o : Obj} (w : World) (o' : Obj) (_ : w.heap[g]? = some o) : Chg [g] w (w.putObj g o') := ⟨rfl, rfl, rfl, by simp, fun k _ hx => World.putObj_heap_other fun e => hx (by simp [e])⟩

theorem iAdd_spec (gi gm : Nat) (S : Refs) (a : Option Addr) (n c : Nat) (l : Refs) (h : IdxIn w0 X w gi gm S N) (hr : RdR w a n c l) (hb : n ≤ 4611686018427387904) :
    Calls Try.prog 19 #[.pointer (some ⟨gi, 0, none⟩), .slice a n c] w fun e w' => RdR w' a n c l ∧ ((l.all goodF = true ∧ e = .returned (errV none) ∧ IdxIn w0 X w' gi gm (addF S l) N) ∨ (l.all goodF = false ∧ e = .returned (errV (some 28)) ∧ IdxIn w0 X w' gi gm S N)) := by
  have hln := hr.num (by decide)
  apply index_Index_Add_vc
  refine (contains_spec a n c l w hr hb).mono ?_
  rintro e w1 ⟨rfl, c1⟩
  obtain ⟨es, clock, M, hE, hM, hS⟩ := h
  have h1 := hS.same c1
  have hr1 := hr.keep0 c1
  refine ⟨_, rfl, fun hb => ?_, fun hgood => ?_⟩
  · have : l.all goodF = false := by simpa using hb
    exact ⟨hr1, .inr ⟨this, rfl, es, clock, M, hE, hM, h1⟩⟩
  have hall : l.all goodF = true := by simpa using hgood
  refine ⟨fun x w' => ∃ i : Nat, x = (i : Int) ∧ i ≤ n ∧ RdR w' a n c l ∧ IdxIn w0 X w' gi gm (addF S (l.take i)) N, fun x _ => n - x.toNat, ⟨0, rfl, by omega, hr1, es, clock, M, hE, hM, h1⟩, ?_⟩
  rintro x w2 ⟨i, rfl, hi, hr2, es2, clock2, M2, hE2, hM2, h2⟩
  refine ⟨fun h => ?_, fun h => ?_⟩
  · have hi' : i < n := by simp at h; omega
    obtain ⟨r, hri⟩ : ∃ r, l[i]? = some r := ⟨l[i], List.getElem?_eq_getElem (by omega)⟩
    obtain ⟨b, o, ha, q⟩ := hr2.ld (P := Try.prog) (by decide) rfA rfS (i := i) hri
    obtain ⟨g6, w3, r3, h3⟩ := h2.zeroA rfZ
    have e6 : (.arr gi 77 [.map (some gm)] :: .blk gm (.map es2 clock2) :: N ++ [Res.arr g6 52 (refC ref0)] : List Res)[N.length + 2]? = some (.arr g6 52 (refC ref0)) := by
      rw [List.getElem?_append_right (by simp)]; simp
    obtain ⟨w4, r4, h4⟩ := h3.stA (i := N.length + 2) (v := refC r) e6 (rfS _) (refC_len _) (refC_len _) (refC_one r)
    have hset : (.arr gi 77 [.map (some gm)] :: .blk gm (.map es2 clock2) :: N ++ [Res.arr g6 52 (refC ref0)] : List Res).set (N.length + 2) (.arr g6 52 (refC r)) = .arr gi 77 [.map (some gm)] :: .blk gm (.map es2 clock2) :: (N ++ [.arr g6 52 (refC r)]) := by simp
    rw [hset] at h4
    have h4d := h4.drew
    have hg4 : w4.drew.heap[gm]? = some (.map es2 clock2) := h4d.holds 1 _ rfl
    obtain ⟨es5, clock5, r5, hE5⟩ := hE2.update (P := Try.prog) (keyL M2) mapT hg4 r r.idl
    have h5 := St.putMap h4d (i := 1) (o' := .map es5 clock5) rfl
    have h5 : St w0 X (w4.drew.putObj gm (.map es5 clock5)) (.arr gi 77 [.map (some gm)] :: .blk gm (.map es5 clock5) :: (N ++ [.arr g6 52 (refC r)])) := h5
    have c34 : Chg [] w2 w4 := by
      obtain ⟨g', w', r', h'⟩ := (St.start w2).zeroA (P := Try.prog) rfZ
      have e1 := r3.symm.trans r'
      simp only [Result.ok.injEq, Value.pointer.injEq, Option.some.injEq, Addr.mk.injEq, and_true] at e1
      obtain ⟨e1, e2⟩ := e1
      subst e1 e2
      obtain ⟨w'', r'', h''⟩ := h'.stA (i := 0) (v := refC r) rfl (rfS _) (refC_len _) (refC_len _) (refC_one r)
      have e3 := r4.symm.trans r''
      simp only [Result.ok.injEq, true_and] at e3
      rw [e3]
      exact h''.chg
    have hr5 : RdR (w4.drew.putObj gm (.map es5 clock5)) a n c l := ⟨Rd.keepM ((hr2.keep0 (c34.trans (Chg.drew [] w4))).rd) hg4 (by simp) (putMap_chg _ _ hg4), hr2.len⟩
    refine ⟨b, o, ha, by omega, by omega, _, q w2 hr2, g6, w3, r3, w4, r4, fun w' => ∃ es' c', St w0 X w' (.arr gi 77 [.map (some gm)] :: .blk gm (.map es' c') :: (N ++ [.arr g6 52 (refC r)])), ⟨_, _, h4d⟩, _, ?_, _, ?_, _, ?_, _, r5, _, fun _ h => h, ⟨_, _, h5⟩, ⟨i + 1, wrap_succ hi' hb, by omega, hr5, es5, clock5, updM RefD.id M2 r, hE5, ?_, h5.sub ?_⟩, mu_succ hi' hb⟩
    · rintro w' ⟨_, _, h'⟩
      exact h'.ldL (i := 0) (l := [.map (some gm)]) rfl (mpA _) rfl rfl
    · rintro w' ⟨_, _, h'⟩
      exact refId h' (i := N.length + 2) (r := r) (T := 52) (by simp)
    · rintro w' ⟨_, _, h'⟩
      exact h'.ldA (i := N.length + 2) (l := refC r) (T' := 52) (g := g6) (by simp) (rfA _) (rfS _) (refC_len r)
    · have := hM2.upd r
      rw [List.take_add_one, hri]
      simpa [addF] using this
    · exact List.Sublist.cons_cons _ (List.Sublist.cons_cons _ (List.sublist_append_left _ _))
  · have hi' : i = n := by simp at h; omega
    rw [hi', List.take_of_length_le (by omega)] at hM2
    exact ⟨hr2, .inl ⟨hall, rfl, es2, clock2, M2, hE2, hM2, h2⟩⟩
end

end Go.Proofs.Ytoianikapjkekaa
