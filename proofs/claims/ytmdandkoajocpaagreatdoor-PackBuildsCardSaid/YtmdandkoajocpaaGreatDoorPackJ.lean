/- The laws of chapter 13: a Case, its items, large; Scan (conditions: those that each theorem names). -/
import Derived.Test.YtmdandkoajocpaaGreatDoorPackH
import Derived.Test.YtmdandkoajocpaaGreatDoorSum
namespace Go.Proofs.YtmdandkoajocpaaGreatDoor
open Go Sx
set_option maxRecDepth 8000

/-! ### a Case -/
structure CaseD where
  ms : List UInt8
  num : Int
  ia : Option Addr
  i_n : Nat
  ic : Nat
  ivs : List Value
  ids : List (List UInt8)
  ba : Option Addr
  bn : Nat
  bc : Nat
  bvs : List Value
  bls : List (List UInt8)
def caseC (C : CaseD) : List Value := bv C.ms ++ [.int .i64 C.num, .slice C.ia C.i_n C.ic, .slice C.ba C.bn C.bc]
structure CaseR (w : World) (C : CaseD) : Prop where
  lm : C.ms.length = 32
  ir : Rd w C.ia C.i_n C.ic 1 C.ivs
  i2 : Row2 w C.ivs C.ids
  br : Rd w C.ba C.bn C.bc 1 C.bvs
  b2 : Row2 w C.bvs C.bls
  num : OkI C.num
theorem CaseR.keep0 {w w' : World} {C : CaseD} (h : CaseR w C) (hc : Chg [] w w') : CaseR w' C := ⟨h.lm, h.ir.keep0 hc, h.i2.keep0 hc, h.br.keep0 hc, h.b2.keep0 hc, h.num⟩
theorem CaseR.bnum {w : World} {C : CaseD} (h : CaseR w C) : C.bls.length = C.bn := by have := h.br.len; have := h.b2.len; omega
theorem CaseR.inum {w : World} {C : CaseD} (h : CaseR w C) : C.ids.length = C.i_n := by have := h.ir.len; have := h.i2.len; omega
def padId (l : List UInt8) : List UInt8 := l.take 32 ++ List.replicate (32 - l.length) 0
@[simp] theorem padId_len (l : List UInt8) : (padId l).length = 32 := by simp [padId]; omega
def itemT (C : CaseD) (i : Nat) : Itm := (padId (C.ids.getD i []), C.bls.getD i [])
def itemsT (C : CaseD) : List Itm := (List.range C.bls.length).map (itemT C)
@[simp] theorem itemsT_len (C : CaseD) : (itemsT C).length = C.bls.length := by simp [itemsT]
theorem itemsT_take (C : CaseD) {i : Nat} (hi : i < C.bls.length) : (itemsT C).take (i + 1) = (itemsT C).take i ++ [itemT C i] := by
  rw [List.take_add_one]; simp [itemsT, hi]
def largeP (C : CaseD) : Bool := decide (100 < C.bn) || decide (16384 < C.bls.flatten.length)

theorem flat_sum (l : List (List UInt8)) : (l.map List.length).sum = l.flatten.length := List.length_flatten.symm
theorem small_of_case {w : World} {C : CaseD} (h : CaseR w C) (hl : largeP C = false) : SmallI (itemsT C) ∧ C.bn ≤ 100 ∧ C.bls.flatten.length ≤ 16384 := by
  simp only [largeP, Bool.or_eq_false_iff, decide_eq_false_iff_not] at hl
  have hb := h.bnum
  refine ⟨⟨by rw [itemsT_len]; omega, fun x hx => ?_, ?_⟩, by omega, by omega⟩
  · obtain ⟨i, _, rfl⟩ := List.mem_map.1 hx; exact padId_len _
  · have e : (itemsT C).map (fun x => x.2.length) = C.bls.map List.length := by
      simp only [itemsT, List.map_map]
      refine List.ext_getElem (by simp) fun i h1 h2 => ?_
      have hi : i < C.bls.length := by simpa using h2
      simp only [List.getElem_map, List.getElem_range, Function.comp_apply, itemT]
      rw [List.getD_eq_getElem?_getD, List.getElem?_eq_getElem hi]; rfl
    rw [e, flat_sum]; omega

section
variable {w0 w w' : World} {X : List Nat} {M N N' T : List Res}

theorem caA (w : World) : (isAgg 25).run Tryz.prog w = .ok true w := Tryz.isAgg25 w
theorem caS (w : World) : (sizeOf 25).run Tryz.prog w = .ok 35 w := Tryz.sizeOf25 w
theorem caseC_len {C : CaseD} (h : C.ms.length = 32) : (caseC C).length = 35 := by simp [caseC, h]
theorem caseC_at {C : CaseD} (h : C.ms.length = 32) : (caseC C)[32]? = some (.int .i64 C.num) ∧ (caseC C)[33]? = some (.slice C.ia C.i_n C.ic) ∧ (caseC C)[34]? = some (.slice C.ba C.bn C.bc) := by
  refine ⟨?_, ?_, ?_⟩ <;> rw [caseC, List.getElem?_append_right (by simp [h])] <;> simp [h]

theorem large13_spec (C : CaseD) (w : World) (h : CaseR w C) : Calls Tryz.prog 8 #[.agg (caseC C).toArray] w fun e w' => e = .returned (.bool (largeP C)) ∧ Chg [] w w' := by
  obtain ⟨c1, c2, c3⟩ := caseC_at h.lm
  apply amphoralaw13_Case_large_vc
  obtain ⟨g, w1, r1, k1⟩ := (St.start w).boxA (P := Tryz.prog) 25 (caseC C)
  have h1 := h.keep0 k1.chg
  refine ⟨g, w1, r1, _, _, _, k1.ldL (i := 0) (o := 34) rfl (bbA' _) rfl c3, fun hb => ⟨?_, k1.chg⟩, fun hb => ⟨_, _, _, k1.ldL (i := 0) (o := 34) rfl (bbA' _) rfl c3, (sum_spec C.ba C.bn C.bc C.bvs C.bls 1048576 w1 h1.br h1.b2 (by decide) (by simp at hb; omega)).mono ?_⟩⟩
  · have : 100 < C.bn := by simp at hb; omega
    simp [largeP, this]
  · rintro e w2 ⟨rfl, rfl⟩
    have : ¬ 100 < C.bn := by simp at hb; omega
    refine ⟨_, rfl, ?_, k1.chg⟩
    simp only [largeP, decide_eq_false this, Bool.false_or]
    congr 2
    apply decide_eq_decide.2
    split <;> omega

/-! ### its items -/
theorem Sx.St.copyA' (h : St w0 X w M) {i g T n c d : Nat} {a : Option Addr} {l : List Value} {src : List UInt8} (hi : M[i]? = some (.arr g T l)) (hd : d ≤ l.length) (hr : RdB w a n c src) :
    ∃ w' x, (Builtin.copy_ #[33, 33] 3 #[.slice (some ⟨g, 0, none⟩) d d, .slice a n c]).run Tryz.prog w = .ok (.int .i64 x) w' ∧ St w0 X w' (M.set i (.arr g T (bv (src.take d) ++ l.drop (min n d)))) := by
  have hl := hr.lenB
  have hinf : (Tryz.prog.info? 5).map (·.size) = some 1 := by kernel_rfl
  have hg := h.holds i _ hi
  rcases hr.cells with h0 | ⟨b, o, rfl, hrg⟩
  · have h0' : n = 0 := by rw [← hl]; simpa [bv] using congrArg List.length h0
    subst h0'
    have : src = [] := List.eq_nil_of_length_eq_zero hl
    subst this
    refine ⟨w, _, run_copy_none w _ _ _ 5 _ _ _ _ _ _ bS hinf (by simp), ?_⟩
    simp only [List.take_nil, bv_nil, List.nil_append, Nat.zero_min, List.drop_zero]
    exact h.upd hi (Chg.refl _ _) hg (fun k hk => .inl hk)
  · have hcs : (bv (src.take d)).length = min d n := by rw [bv_length, List.length_take, hl]
    have hr' := run_copy_row (P := Tryz.prog) w 33 33 3 5 g 0 d d ⟨b, o, none⟩ n c l.toArray T (bv (src.take d)) bS hinf hg (by rw [hcs]; exact Nat.min_comm _ _) (fun j v hj => by
      rw [Addr.add_mid]
      refine hrg j v ?_
      rw [bv_take, List.getElem?_take] at hj
      split at hj
      · exact hj
      · cases hj) (by simp; omega) (bv_one _)
    have e : (l.toArray.toList.take 0 ++ bv (src.take d) ++ l.toArray.toList.drop (0 + (bv (src.take d)).length)).toArray = (bv (src.take d) ++ l.drop (min n d)).toArray := by
      rw [hcs, Nat.min_comm]; simp
    rw [e] at hr'
    exact ⟨_, _, hr', h.upd hi (w' := w.setRow g _) ⟨rfl, rfl, rfl, by simp, fun k _ hk => setRow_other w g k _ (fun e => hk (by simp [Res.fp, e]))⟩ (setRow_heap w g _ _ T _ hg) (by simp [Res.fp])⟩

structure MD where
  id : List UInt8
  g : Nat
  c : Nat
  l : List UInt8
  cur : Array Value
  idl : id.length = 32
def MD.it (m : MD) : ItD := ⟨m.id, some ⟨m.g, 0, none⟩, m.l.length, m.c, m.l, m.idl⟩
def MD.res (m : MD) : Res := .blk m.g (.cells m.cur 5 (0, 0))
def MD.ok (m : MD) : Prop := ∃ w, MarkB w m.g m.l.length m.c m.l m.cur
theorem MD.mark {m : MD} (h : m.ok) (hb : w.heap[m.g]? = some (.cells m.cur 5 (0, 0))) : MarkB w m.g m.l.length m.c m.l m.cur := by
  obtain ⟨w1, h1⟩ := h
  exact h1.of_blk' hb

theorem itT : ElemT Tryz.prog 30 46 33 56 (.agg (itC it0).toArray) := ⟨by kernel_rfl, ⟨Tryz.t46, by kernel_rfl, by kernel_rfl, by kernel_rfl, by kernel_rfl⟩, rfl, by decide⟩
theorem built_item : Tryz.prog.built 46 = fun parts => Instr.fill (fun i => (#[(0, 32), (32, 1)] : Array (Nat × Nat))[i]?) (itC it0).toArray parts := by kernel_rfl
theorem item_parts (id : List UInt8) (a : Option Addr) (n c : Nat) (w : World) (hl : id.length = 32) : (Instr.build 46 #[(0, .agg (bv id).toArray), (1, .slice a n c)]).run Tryz.prog w = .ok (.agg (bv id ++ [Value.slice a n c]).toArray) w := by
  apply run_build
  rw [built_item]
  show Instr.fill _ _ [(0, _), (1, _)] = _
  have hz : (itC it0).toArray = (bv (List.replicate 32 0) ++ [Value.slice none 0 0]).toArray := rfl
  rw [hz, fill_step (off := 0) (sz := 32) rfl (by simp [Value.cells, hl]) (by simp), fill_step (off := 32) (sz := 1) rfl rfl (by simp [Value.cells, hl])]
  have hbl : (bv id).length = 32 := by simp [hl]
  simp [Instr.fill, Value.cells, List.take_append, List.drop_append, hbl, List.take_of_length_le, List.drop_of_length_le, hl]
theorem id_build0 (w : World) : (Instr.build 44 #[]).run Tryz.prog w = .ok (.agg (bv (List.replicate 32 0)).toArray) w := by
  have := build_arr (P := Tryz.prog) (w := w) (T := 44) (idZ w) Tryz.underlying44 (sB1 w) [] (by simp) (by simp)
  exact this

/-- The items of a case that are held: mine has marks. -/
structure ItemsR (w0 w : World) (C : CaseD) (oa : Option Addr) (oc : Nat) (ma : Option Addr) (mc k : Nat) (O : List ItD) (G : List MD) (N : List Res) : Prop where
  st : St w0 [] w (N ++ (.row 46 33 (.slice oa k oc) k (O.flatMap itC) :: .row 46 33 (.slice ma k mc) k (G.flatMap fun m => itC m.it) :: G.map MD.res))
  ot : O.map ItD.t = (itemsT C).take k
  mt : G.map (fun m => m.it.t) = (itemsT C).take k
  ob : ∀ x ∈ O, RdB w0 x.a x.n x.c x.blob
  mo : ∀ m ∈ G, m.ok

set_option maxHeartbeats 2000000 in
theorem items_spec (C : CaseD) (w : World) (h : CaseR w C) (hn : C.bn ≤ 100) (hs : C.bls.flatten.length ≤ 16384) : Calls Tryz.prog 10 #[.agg (caseC C).toArray] w fun e w' => ∃ oa oc ma mc O G, e = .returned (.tuple #[.slice oa C.bn oc, .slice ma C.bn mc]) ∧ ItemsR w w' C oa oc ma mc C.bn O G [] := by
  obtain ⟨c1, c2, c3⟩ := caseC_at h.lm
  have hbn := h.bnum
  have hin := h.inum
  apply amphoralaw13_Case_items_vc
  obtain ⟨g1, w1, r1, k1⟩ := (St.start w).boxA (P := Tryz.prog) 25 (caseC C)
  obtain ⟨ga, w2, r2, k2⟩ := k1.litA0 itT
  obtain ⟨gb, w3, r3, k3⟩ := k2.litA0 itT
  have k3 : St w [] w3 ([.arr g1 25 (caseC C)] ++ [.row 46 33 (.slice (some ⟨ga, 0, none⟩) 0 0) 0 [], .row 46 33 (.slice (some ⟨gb, 0, none⟩) 0 0) 0 []]) := k3
  refine ⟨g1, w1, r1, _, _, _, w2, r2, _, _, _, w3, r3, _, _, _, k3.ldL (i := 0) (o := 34) rfl (bbA' _) rfl c3, fun xa xn xc ya yn yc x w' => ∃ (i : Nat) (O : List ItD) (G : List MD), x = (i : Int) ∧ i ≤ C.bn ∧ xn = i ∧ yn = i ∧ ItemsR w w' C xa xc ya yc i O G [.arr g1 25 (caseC C)], fun _ _ _ _ _ _ x _ => C.bn - x.toNat, ⟨0, [], [], rfl, by omega, rfl, rfl, k3, by simp, by simp, by simp, by simp⟩, ?_⟩
  rintro xa xn xc ya yn yc x w4 ⟨i, O, G, rfl, hi, q1, q2, hI⟩
  obtain rfl : i = xn := q1.symm
  obtain rfl : i = yn := q2.symm
  have k4 := hI.st
  refine ⟨fun hlt => ?_, fun hge => ?_⟩
  · have hi' : i < C.bn := by simp at hlt; omega
    have h4 := h.keep0 k4.chg
    obtain ⟨b, o, a', n', c', hab, hv, hrd, hld⟩ := ixS h4.br.cells h4.b2 (i := i) (by omega)
    have hbl := hrd.lenB
    have hble : C.bls.getD i [] ∈ C.bls := by
      rw [List.getD_eq_getElem?_getD, List.getElem?_eq_getElem (by omega : i < C.bls.length)]; simp
    have hbs : n' ≤ 16384 := by
      have := sum_mem (List.mem_map_of_mem (f := List.length) hble)
      rw [flat_sum] at this; omega
    obtain ⟨g8, w5, r5, k5⟩ := k4.zeroA idZ
    obtain ⟨w6, r6, k6⟩ := k5.stA (i := _) (v := bv (List.replicate 32 0)) List.getElem?_concat_length (idS' _) (by simp) (by simp) (bv_one _)
    rw [List.set_append_right _ _ (Nat.le_refl _), Nat.sub_self] at k6
    obtain ⟨R, hR⟩ : ∃ R, ([.arr g1 25 (caseC C)] ++ (.row 46 33 (.slice xa i xc) i (O.flatMap itC) :: .row 46 33 (.slice ya i yc) i (G.flatMap fun m => itC m.it) :: G.map MD.res) : List Res) = R := ⟨_, rfl⟩
    have hR0 : R[0]? = some (.arr g1 25 (caseC C)) := by rw [← hR]; rfl
    rw [hR] at k4 k5 k6
    have k6 : St w [] w6 (R ++ [.arr g8 44 (bv (List.replicate 32 0))]) := k6
    have gR : ∀ {L : List Res}, (R ++ L)[0]? = some (.arr g1 25 (caseC C)) := fun {L} => by rw [← hR]; rfl
    refine ⟨b, o, hab, by omega, by omega, a', n', c', hld w4 h4.br.cells, _, id_build0 w4, g8, w5, r5, w6, r6, _, _, _, k6.ldL (i := 0) (o := 33) gR (bbA' _) rfl c2, fun w' => St w [] w' (R ++ [.arr g8 44 (bv (padId (C.ids.getD i [])))]), ⟨fun hlt2 => ?_, fun hge2 => ?_⟩, ?_⟩
    · have hi2 : i < C.i_n := by simp at hlt2; omega
      have k6d := k6.drew
      have h6 := h.keep0 k6d.chg
      obtain ⟨b2, o2, a2, n2, cc2, hab2, hv2, hrd2, hld2⟩ := ixS h6.ir.cells h6.i2 (i := i) (by omega)
      obtain ⟨w7, x7, r7, k7⟩ := k6d.copyA' (i := R.length) (d := 32) List.getElem?_concat_length (by simp) hrd2
      rw [List.set_append_right _ _ (Nat.le_refl _), Nat.sub_self] at k7
      have ep : bv ((C.ids.getD i []).take 32) ++ (bv (List.replicate 32 0)).drop (min n2 32) = bv (padId (C.ids.getD i [])) := by
        rw [← bv_drop, ← bv_append, padId, hrd2.lenB]
        congr 2
        rw [List.drop_replicate]
        congr 1
        omega
      refine ⟨fun w' => St w [] w' [.arr g1 25 (caseC C)], k6d.sub (by rw [← hR]; exact (List.sublist_append_left _ _).trans (List.sublist_append_left _ _)), by omega, by omega, _, _, _, fun w' hw => Sx.St.ldL hw (i := 0) (o := 33) rfl (bbA' _) rfl c2, b2, o2, hab2, by omega, by omega, _, _, _, fun w' hw => hld2 w' ((h.ir.keep0 (Sx.St.chg hw)).cells), x7, w7, r7, fun w' => St w [] w' [.arr g1 25 (caseC C)], fun _ h => h, k7.sub (by rw [← hR]; exact (List.sublist_append_left _ _).trans (List.sublist_append_left _ _)), ?_⟩
      simp only [List.set_cons_zero, ep] at k7
      exact k7
    · have hi2 : ¬ i < C.i_n := by simp at hge2; omega
      have : C.ids.getD i [] = [] := by rw [List.getD_eq_getElem?_getD, List.getElem?_eq_none (by omega)]; rfl
      show St w [] w6 _
      rw [this]
      exact k6
    rintro w8 k8
    obtain ⟨id, hid⟩ : ∃ id, padId (C.ids.getD i []) = id := ⟨_, rfl⟩
    have hidl : id.length = 32 := by rw [← hid]; simp
    rw [hid] at k8
    have ldI : ∀ {w' : World} {L : List Res}, St w [] w' (R ++ .arr g8 44 (bv id) :: L) → (Instr.loadAt 44 (.pointer (some ⟨g8, 0, none⟩))).run Tryz.prog w' = .ok (.agg (bv id).toArray) w' := fun h => h.ldA (i := R.length) (l := bv id) (by rw [List.getElem?_append_right (Nat.le_refl _), Nat.sub_self]; rfl) (idA' _) (idS' _) (by simp [hidl])
    have hR1 : (R ++ [.arr g8 44 (bv id)])[1]? = some (.row 46 33 (.slice xa i xc) i (O.flatMap itC)) := by rw [← hR]; rfl
    obtain ⟨g9, w9, va, vc, w10, r9, r10, k10, _⟩ := k8.pushA (i := 1) (ty := 30) itT hR1 (bv id ++ [Value.slice a' n' c']) (by simp [hidl]) (by decide) (fun v hv => by
      rcases List.mem_append.1 hv with hv | hv
      · exact bv_one _ v hv
      · simp only [List.mem_singleton] at hv; subst hv; rfl) (by omega) (by simp only [maxLen]; omega)
    have k10 : St w [] w10 ([.arr g1 25 (caseC C), .row 46 33 (.slice va (i + 1) vc) (i + 1) (O.flatMap itC ++ (bv id ++ [Value.slice a' n' c'])), .row 46 33 (.slice ya i yc) i (G.flatMap fun m => itC m.it)] ++ (G.map MD.res ++ [.arr g8 44 (bv id)])) := by
      rw [← hR] at k10
      simpa using k10
    have h10 := h.keep0 k10.chg
    have hrd10 : RdB w10 a' n' c' (C.bls.getD i []) := by
      obtain ⟨a2, n2, c2', e1, e2⟩ := h10.b2.rd i (by omega)
      rw [hv] at e1
      simp only [Option.some.injEq, Value.slice.injEq] at e1
      obtain ⟨rfl, rfl, rfl⟩ := e1
      exact e2
    have hrd0 : RdB w a' n' c' (C.bls.getD i []) := by
      obtain ⟨a2, n2, c2', e1, e2⟩ := h.b2.rd i (by omega)
      rw [hv] at e1
      simp only [Option.some.injEq, Value.slice.injEq] at e1
      obtain ⟨rfl, rfl, rfl⟩ := e1
      exact e2
    refine ⟨_, ldI k8, _, item_parts id a' n' c' w8 hidl, _, _, _, w9, r9, _, _, _, w10, r10, (copy_spec a' n' c' (C.bls.getD i []) w10 hrd10 (by omega)).mono ?_⟩
    rintro e w11 ⟨gm, cm, cur, rfl, c11, hgm, hm⟩
    have k11 : St w [] w11 (([.arr g1 25 (caseC C), .row 46 33 (.slice va (i + 1) vc) (i + 1) (O.flatMap itC ++ (bv id ++ [Value.slice a' n' c'])), .row 46 33 (.slice ya i yc) i (G.flatMap fun m => itC m.it)] ++ (G.map MD.res ++ [.arr g8 44 (bv id)])) ++ [.blk gm (.cells cur 5 (0, 0))]) := k10.add c11 hm.blk (by simp [Res.fp]; exact hgm)
    have hbl' : (C.bls[i]?.getD []).length = n' := by simpa using hbl
    have hid' : padId (C.ids[i]?.getD []) = id := by simpa using hid
    have k11' : St w [] w11 (([.arr g1 25 (caseC C), .row 46 33 (.slice va (i + 1) vc) (i + 1) (O.flatMap itC ++ (bv id ++ [Value.slice a' n' c'])), .row 46 33 (.slice ya i yc) i (G.flatMap fun m => itC m.it)] ++ G.map MD.res) ++ .arr g8 44 (bv id) :: [.blk gm (.cells cur 5 (0, 0))]) := by simpa using k11
    have ldI2 : (Instr.loadAt 44 (.pointer (some ⟨g8, 0, none⟩))).run Tryz.prog w11 = .ok (.agg (bv id).toArray) w11 := k11'.ldA (i := _) (l := bv id) (by rw [List.getElem?_append_right (Nat.le_refl _), Nat.sub_self]; rfl) (idA' _) (idS' _) (by simp [hidl])
    obtain ⟨g12, w12, vd, ve, w13, r12, r13, k13, _⟩ := k11'.pushA (i := 2) (ty := 30) itT rfl (bv id ++ [Value.slice (some ⟨gm, 0, none⟩) n' cm]) (by simp [hidl]) (by decide) (fun v hv => by
      rcases List.mem_append.1 hv with hv | hv
      · exact bv_one _ v hv
      · simp only [List.mem_singleton] at hv; subst hv; rfl) (by omega) (by simp only [maxLen]; omega)
    refine ⟨_, _, _, rfl, _, ldI2, _, item_parts id _ n' cm w11 hidl, _, _, _, w12, r12, _, _, _, w13, r13, ⟨i + 1, O ++ [⟨id, a', n', c', C.bls.getD i [], hidl⟩], G ++ [⟨id, gm, cm, C.bls.getD i [], cur, hidl⟩], wrap_succ hi' (by omega), by omega, rfl, rfl, ?_, ?_, ?_, ?_, ?_⟩, mu_succ hi' (by omega)⟩
    · have k14 : St w [] w13 ([.arr g1 25 (caseC C), .row 46 33 (.slice va (i + 1) vc) (i + 1) (O.flatMap itC ++ (bv id ++ [Value.slice a' n' c'])), .row 46 33 (.slice vd (i + 1) ve) (i + 1) ((G.flatMap fun m => itC m.it) ++ (bv id ++ [Value.slice (some ⟨gm, 0, none⟩) n' cm]))] ++ (G.map MD.res ++ (.arr g8 44 (bv id) :: [.blk gm (.cells cur 5 (0, 0))]))) := by simpa using k13
      have k15 := k14.sub (List.Sublist.append_left (List.Sublist.append_left (List.sublist_cons_self _ _) _) _)
      simpa [itC, MD.it, MD.res, hbl'] using k15
    · rw [itemsT_take C (by omega), List.map_append, hI.ot]
      simp [ItD.t, itemT, hid']
    · rw [itemsT_take C (by omega), List.map_append, hI.mt]
      simp [ItD.t, itemT, MD.it, hid']
    · intro x hx
      rcases List.mem_append.1 hx with hx | hx
      · exact hI.ob x hx
      · simp only [List.mem_singleton] at hx; subst hx; exact hrd0
    · intro m hm'
      rcases List.mem_append.1 hm' with hm' | hm'
      · exact hI.mo m hm'
      · simp only [List.mem_singleton] at hm'; subst hm'
        refine ⟨w11, ?_⟩
        rw [hbl]; exact hm
  · have hi' : i = C.bn := by simp at hge; omega
    subst hi'
    exact ⟨xa, xc, ya, yc, O, G, rfl, ⟨hI.st.sub (List.sublist_append_right _ _), hI.ot, hI.mt, hI.ob, hI.mo⟩⟩

/-! ### Scan -/
def scanP (b : List UInt8) : Int × List RefD × Int × Option Int := match headF b with
  | none => (0, [], 0, some 17)
  | some num => (num, refsS num (framesL (b.drop 16)).2 (framesL (b.drop 16)).1, if 0 < (refsS num (framesL (b.drop 16)).2 (framesL (b.drop 16)).1).length then ((16 + endF (framesL (b.drop 16)).2 ((framesL (b.drop 16)).1.drop (refsS num (framesL (b.drop 16)).2 (framesL (b.drop 16)).1).length) : Nat) : Int) else 16, none)

theorem scan_spec13 (a : Option Addr) (n c : Nat) (b : List UInt8) (w : World) (hr : RdB w a n c b) (hb : n ≤ 1000000) :
    Calls Tryz.prog 27 #[.slice a n c] w fun e w' => ∃ ra rc, e = .returned (.tuple #[.int .i64 (scanP b).1, .slice ra (scanP b).2.1.length rc, .int .i64 (scanP b).2.2.1, errV (scanP b).2.2.2]) ∧ RdR w' ra (scanP b).2.1.length rc (scanP b).2.1 ∧ Chg [] w w' := by
  have hl := hr.lenB
  subst hl
  apply pack_Scan_vc
  refine (head_spec a b.length c b w hr).mono ?_
  rintro e w1 ⟨x, ok, rfl, hh, rfl⟩
  refine ⟨_, _, rfl, fun hbad => ?_, fun hgood => ?_⟩
  · have : ok = false := by simpa using hbad
    subst this
    have hs : scanP b = (0, [], 0, some 17) := by unfold scanP; rw [hh]; rfl
    rw [hs]
    exact ⟨none, 0, rfl, RdE.nil _, Chg.refl _ _⟩
  have : ok = true := by simpa using hgood
  subst this
  have hh : headF b = some x := hh
  have h16 : 16 ≤ b.length ∧ goodP x = true := by
    rw [headF] at hh
    split at hh
    · rename_i h; exact ⟨h.1, by have := h.2.2; rw [hh] at this; exact this⟩
    · cases hh
  have hgi := goodP_iff.1 h16.2
  refine (scanned_spec x ⟨by omega, by omega⟩ a b.length c b w1 hr h16.1 (by omega)).mono ?_
  rintro e w4 ⟨fa, fn, fc, ra, rc, g8, g9, L, hL, hF, c4, rfl, hR, hE⟩
  have hs : scanP b = (x, refsS x (framesL (b.drop 16)).2 (L.map FrD.t), if 0 < (refsS x (framesL (b.drop 16)).2 (L.map FrD.t)).length then ((16 + endF (framesL (b.drop 16)).2 ((L.map FrD.t).drop (refsS x (framesL (b.drop 16)).2 (L.map FrD.t)).length) : Nat) : Int) else 16, none) := by unfold scanP; rw [hh, hL]
  obtain ⟨rs, hrs⟩ : ∃ rs, refsS x (framesL (b.drop 16)).2 (L.map FrD.t) = rs := ⟨_, rfl⟩
  have hrl : rs.length ≤ fn := by rw [← hrs, ← hF.rd.num (by decide)]; simpa using refsS_len x _ (L.map FrD.t)
  have hfn : fn ≤ 1000000 := by
    have h3 := (framesF_bound ((b.drop 16).length + 1) (b.drop 16) 0).2.2
    have h4 := congrArg List.length hL
    rw [List.length_map, hF.rd.num (by decide)] at h4
    have hd : (framesL (b.drop 16)).1.length ≤ (b.drop 16).length := h3
    simp only [List.length_drop] at hd
    omega
  rw [hrs] at hs hR ⊢
  rw [hs]
  refine ⟨_, _, _, _, _, _, _, _, rfl, fun y w' => y = (if 0 < rs.length then ((16 + endF (framesL (b.drop 16)).2 ((L.map FrD.t).drop rs.length) : Nat) : Int) else 16) ∧ w' = w4, ⟨fun hpos => ?_, fun hz => ?_⟩, ?_⟩
  · have hp : 0 < rs.length := by simp at hpos; omega
    have e1 : IntKind.wrap .i64 (((rs.length : Nat) : Int) - 1) = ((rs.length - 1 : Nat) : Int) := by rw [wrap_i64 (by omega) (by omega)]; omega
    refine ⟨_, _, rfl, by kernel_rfl, ?_⟩
    rw [e1]
    refine (hE w4 (rs.length - 1) (Chg.refl _ _) (by omega)).mono ?_
    rintro e w5 ⟨rfl, rfl⟩
    refine ⟨_, rfl, ?_, rfl⟩
    rw [if_pos hp, show rs.length - 1 + 1 = rs.length by omega]
  · have hp : ¬ 0 < rs.length := by simp at hz; simp [hz]
    exact ⟨by rw [if_neg hp], rfl⟩
  rintro y w5 ⟨rfl, rfl⟩
  exact ⟨ra, rc, rfl, hR, c4⟩

end

end Go.Proofs.YtmdandkoajocpaaGreatDoor
