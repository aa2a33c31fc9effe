/- prune.Keep, Gone; the fixed fact of chapter 20 (conditions: none). -/
import Derived.Test.YtdcgapabphjgbaaPruC
import Derived.Test.YtdcgapabphjgbaaLitE
namespace Go.Proofs.Ytdcgapabphjgbaa
open Go Sx Go.RowKit Go.Sort Go.Shelf
set_option maxRecDepth 8000

/-! ### Keep -/
def zb (l : List Bool) : List Value := l.map .bool
theorem boT : ElemT Try.prog 44 4 1 1 (.bool false) := ⟨by kernel_rfl, ⟨Try.t4, by kernel_rfl, by kernel_rfl, by kernel_rfl, by kernel_rfl⟩, rfl, by decide⟩
theorem snT : ElemT Try.prog 24 30 36 72 (.agg (snapC sn0).toArray) := ⟨by kernel_rfl, ⟨Try.t30, by kernel_rfl, by kernel_rfl, by kernel_rfl, by kernel_rfl⟩, rfl, by decide⟩
theorem stT : ElemT Try.prog 39 9 1 16 (.string ByteArray.empty) := ⟨by kernel_rfl, ⟨Try.t9, by kernel_rfl, by kernel_rfl, by kernel_rfl, by kernel_rfl⟩, rfl, by decide⟩
def keptB (ns : List Int) (l : List SnapD) (L : List Nat) (i : Nat) : Bool := decide (whyN ns l L 6 i ≠ 0)
def keepV (ns : List Int) (l : List SnapD) (L : List Nat) : List Bool := (List.range l.length).map (keptB ns l L)
theorem outV_get (ns : List Int) (l : List SnapD) (L : List Nat) (k : Nat) {i : Nat} (hi : i < l.length) : (outV ns l L k)[i]? = some ((whyN ns l L k i : Nat) : Int) := by simp [outV, List.getElem?_range, hi]
@[simp] theorem outV_len (ns : List Int) (l : List SnapD) (L : List Nat) (k : Nat) : (outV ns l L k).length = l.length := by simp [outV]
@[simp] theorem keepV_len (ns : List Int) (l : List SnapD) (L : List Nat) : (keepV ns l L).length = l.length := by simp [keepV]
theorem keepV_get (ns : List Int) (l : List SnapD) (L : List Nat) {i : Nat} (hi : i < l.length) : (keepV ns l L)[i]? = some (keptB ns l L i) := by simp [keepV, List.getElem?_range, hi]

theorem keep_spec (ns : List Int) (hn : ns.length = 6) (a : Option Addr) (n c : Nat) (l : List SnapD) (w : World) (hr : RdS w a n c l) (hb : n ≤ 1000000) :
    Calls Try.prog 14 #[.agg (iv ns).toArray, .slice a n c] w fun e w' => ∃ ra rn rc v, e = .returned (.tuple #[.slice ra rn rc, errV (errW ns l)]) ∧ Chg [] w w' ∧ Rd w' ra rn rc 1 (zb v) ∧ (errW ns l ≠ none → v = [] ∧ rn = 0) ∧ (errW ns l = none → rn = n ∧ ∃ L, NewOrd l L ∧ v = keepV ns l L) := by
  obtain ⟨mI, hI⟩ := eI
  have hln := hr.num (by decide)
  apply prune_Keep_vc
  obtain ⟨g2, w1, r1, h1⟩ := (St.start w).boxA (P := Try.prog) 23 (iv ns)
  have h1 : St w [] w1 [.arr g2 23 (iv ns)] := h1
  refine ⟨g2, w1, r1, _, h1.ldA (i := 0) (l := iv ns) rfl (poA _) (poS _) (by simp [hn]), (why_spec ns hn a n c l w1 (hr.keep0 h1.chg) hb).mono ?_⟩
  rintro e w2 ⟨ra, rn, rc, v, rfl, c2, hrd, hbad, hgood⟩
  refine ⟨_, _, _, _, rfl, _, neqS_nil hI _ _ _, fun hs => ?_, fun hs => ?_⟩
  · have hne : errW ns l ≠ none := fun e => by rw [e] at hs; cases hs
    exact ⟨none, 0, 0, [], rfl, h1.chg.trans c2, ⟨Cells.nil _ _, rfl, Nat.le_refl _, fun _ => rfl⟩, fun _ => ⟨rfl, rfl⟩, fun e => absurd e hne⟩
  have herr : errW ns l = none := by cases h : errW ns l <;> rw [h] at hs <;> simp at hs ⊢
  obtain ⟨rfl, L, hL, rfl⟩ := hgood herr
  rw [herr]
  have c02 := h1.chg.trans c2
  refine ⟨fun xa xn xc i w' => ∃ j : Nat, i = (j : Int) ∧ xn = j ∧ j ≤ rn ∧ St w2 [] w' [.row 4 1 (.slice xa xn xc) xn (zb ((List.range j).map (keptB ns l L)))], fun _ _ _ i _ => rn - i.toNat, ⟨0, rfl, rfl, Nat.zero_le _, (St.start w2).addNil _ _⟩, ?_⟩
  rintro xa xn xc i w3 ⟨j, rfl, rfl, hj, h3⟩
  refine ⟨fun hlt => ?_, fun hge => ?_⟩
  · have hj' : xn < rn := by simp at hlt; omega
    obtain ⟨b, o, hab, hcell⟩ := (hrd.keep0 h3.chg).cells.at_ (i := xn) (v := .int .i64 ((whyN ns l L 6 xn : Nat) : Int)) (by rw [iv_get, outV_get _ _ _ _ (by omega)]; rfl)
    obtain ⟨g3, w4, va, vc, w5, r4, r5, h5, _, _⟩ := h3.pushV (i := 0) (ty := 44) boT rfl (.bool (((whyN ns l L 6 xn : Nat) : Int) != (0 : Int))) rfl (by omega) (by simp only [maxLen]; omega)
    refine ⟨b, o, hab, by omega, by omega, _, by rw [Int.toNat_natCast, Nat.mul_one]; exact ld1 (iA _) hcell, _, _, _, w4, r4, _, _, _, w5, r5, ⟨xn + 1, wrap_succ hj' (by omega), rfl, by omega, ?_⟩, mu_succ hj' (by omega)⟩
    have e : zb ((List.range (xn + 1)).map (keptB ns l L)) = zb ((List.range xn).map (keptB ns l L)) ++ [.bool (((whyN ns l L 6 xn : Nat) : Int) != (0 : Int))] := by
      have : (((whyN ns l L 6 xn : Nat) : Int) != (0 : Int)) = keptB ns l L xn := by
        unfold keptB
        by_cases h : whyN ns l L 6 xn = 0
        · simp [h]
        · have : ¬ ((whyN ns l L 6 xn : Nat) : Int) = 0 := by omega
          simp [h, this]
      rw [this]
      simp [zb, List.range_succ]
    rw [e]; exact h5
  · have hj' : xn = rn := by simp at hge; omega
    subst hj'
    refine ⟨_, _, _, keepV ns l L, rfl, c02.trans h3.chg, ?_, fun h => absurd rfl h, fun _ => ⟨rfl, L, hL, rfl⟩⟩
    have := h3.rd (i := 0) rfl
    rw [keepV, hln]; exact this

/-! ### strings sorted -/
theorem lex_ltl : ∀ l m : List UInt8, lexLt l m = true → l < m
  | [], [], h => by simp [lexLt] at h
  | [], _ :: _, _ => by simp
  | _ :: _, [], h => by simp [lexLt] at h
  | a :: l, b :: m, h => by
    rw [List.cons_lt_cons_iff]
    simp only [lexLt] at h
    split at h
    · rename_i h1
      exact .inl (UInt8.lt_iff_toNat_lt.2 h1)
    · rename_i h1
      split at h
      · cases h
      · rename_i h2
        have : a = b := UInt8.toNat_inj.1 (by omega)
        exact .inr ⟨this, lex_ltl l m h⟩
def SortedS (v : List (List UInt8)) : Prop := v.Pairwise fun x y => lexLt y x = false
theorem merge_sorted (ss : List (List UInt8)) : SortedS (ss.mergeSort fun x y => decide (x ≤ y)) := by
  have h := List.pairwise_mergeSort (le := fun x y : List UInt8 => decide (x ≤ y)) (fun a b c h1 h2 => by
    simp only [decide_eq_true_eq] at *
    exact List.le_trans h1 h2) (fun a b => by
    simp only [Bool.or_eq_true, decide_eq_true_eq]
    exact List.le_total a b) ss
  refine h.imp fun {x y} hxy => ?_
  simp only [decide_eq_true_eq] at hxy
  cases h2 : lexLt y x with
  | false => rfl
  | true => exact absurd (lex_ltl _ _ h2) (List.not_lt.2 hxy)
theorem sorted_uniq : ∀ {v u : List (List UInt8)}, v.Perm u → SortedS v → SortedS u → v = u
  | [], u, hp, _, _ => (List.nil_perm.1 hp).symm
  | x :: v, [], hp, _, _ => by have := hp.length_eq; simp at this
  | x :: v, y :: u, hp, h1, h2 => by
    unfold SortedS at h1 h2
    rw [List.pairwise_cons] at h1 h2
    have hxy : x = y := by
      have hx : x ∈ y :: u := hp.mem_iff.1 List.mem_cons_self
      have hy : y ∈ x :: v := hp.mem_iff.2 List.mem_cons_self
      rcases List.mem_cons.1 hx with rfl | hx
      · rfl
      · rcases List.mem_cons.1 hy with rfl | hy
        · rfl
        · exact lex_tri _ _ (h2.1 x hx) (h1.1 y hy)
    subst hxy
    rw [sorted_uniq ((List.perm_cons x).1 hp) h1.2 h2.2]

theorem sortS_spec {w0 w : World} {X : List Nat} {M : List Res} (hS : St w0 X w M) {i : Nat} {xa : Option Addr} {n xc : Nat} {v : List (List UInt8)} (hi : M[i]? = some (.row 9 1 (.slice xa n xc) n (v.map strV))) (hb : n ≤ 1000000) :
    Calls Try.prog 30 #[.slice xa n xc] w fun e w' => e = .returned (.tuple #[]) ∧ ∃ v', v'.Perm v ∧ SortedS v' ∧ St w0 X w' (M.set i (.row 9 1 (.slice xa n xc) n (v'.map strV))) := by
  have hh : w.ownsRow 0 9 1 (.slice xa n xc) n (v.map strV) := hS.holds i _ hi
  have hln : v.length = n := by have := hh.1; simpa using this
  rcases hh.2 with ⟨hsl, h0⟩ | ⟨blk, cap, cur, h0, _, hg, hnc, hcm, hcs, htk⟩
  · subst h0
    refine Calls.mono (AnyM.slices_Sort_string_none sortD xa xc w) ?_
    rintro e w' ⟨rfl, rfl⟩
    have hv : v = [] := List.eq_nil_of_length_eq_zero hln
    subst hv
    refine ⟨rfl, [], List.Perm.refl _, List.Pairwise.nil, ?_⟩
    have hset : M.set i (.row 9 1 (.slice xa 0 xc) 0 (([] : List (List UInt8)).map strV)) = M := by
      apply List.ext_getElem?
      intro j
      rw [List.getElem?_set]
      by_cases e : i = j
      · subst e; rw [if_pos rfl, if_pos (List.getElem?_eq_some_iff.1 hi).1, hi]
      · rw [if_neg e]
    rw [hset]
    exact hS
  · simp only [Value.slice.injEq] at h0
    obtain ⟨rfl, _, rfl⟩ := h0
    have hlt : blk < w.heap.size := (Array.getElem?_eq_some_iff.1 hg).1
    have hH : Holds encStr w blk 0 v.toArray := by
      intro j hj
      have hj' : j < v.length := by simpa using hj
      refine ⟨?_, by simp [World.frozen?, hg]⟩
      have e := congrArg (fun q => q[j]?) htk
      simp only [List.getElem?_take, Nat.mul_one, if_pos (by omega : j < n), List.getElem?_map] at e
      rw [Array.getElem?_toList] at e
      rw [cell_of_row w blk (0 + j) cur _ _ hg, Nat.zero_add, e, List.getElem?_eq_getElem hj', getElem!_pos _ j hj]
      rfl
    have h := AnyM.slices_Sort_string sortD blk 0 xc v w hH hlt (by omega)
    rw [hln] at h
    refine Calls.mono h ?_
    rintro e w' ⟨rfl, q, os, rfl⟩
    obtain ⟨v', hv'⟩ : ∃ v', (v.mergeSort fun x y => decide (x ≤ y)) = v' := ⟨_, rfl⟩
    have hp : v'.Perm v := by rw [← hv']; exact List.mergeSort_perm _ _
    have hs : SortedS v' := by rw [← hv']; exact merge_sorted v
    rw [hv']
    have hl' : v'.length = n := by rw [hp.length_eq, hln]
    obtain ⟨p1, p2⟩ := putV_list encStr v'.toArray cur (by simp [hl']; have := hcs; omega)
    have hheap : (grow (putRow encStr (Sort.ahead w q) blk 0 v'.toArray) os).heap = (w.heap.modify blk (Sort.onCells (Sort.putCells encStr 0 v'.toArray))) ++ os := rfl
    have hgz : (grow (putRow encStr (Sort.ahead w q) blk 0 v'.toArray) os).heap[blk]? = some (.cells (Sort.putCells encStr 0 v'.toArray cur) 9 (0, 0)) := by
      rw [hheap, Array.getElem?_append_left (by simpa using hlt), Array.getElem?_modify, if_pos rfl, hg]
      rfl
    refine ⟨rfl, v', hp, hs, hS.upd hi ⟨rfl, rfl, rfl, by rw [hheap]; simp, fun k hk hx => ?_⟩ ⟨by simp [hl'], .inr ⟨blk, xc, _, rfl, Nat.zero_le _, hgz, hnc, hcm, by rw [p1, hcs], ?_⟩⟩ fun k hk => .inl hk⟩
    · have hne : blk ≠ k := fun e => hx (by simp [Res.fp, Value.ownBlock, e])
      rw [hheap, Array.getElem?_append_left (by simpa using hk), Array.getElem?_modify, if_neg hne]
    · have : v'.toArray.size = n := by simpa using hl'
      rw [this] at p2
      rw [Nat.mul_one, p2]
      rfl

/-! ### Gone -/
def nameAt (l : List SnapD) (i : Nat) : List UInt8 := (l[i]?).elim [] SnapD.name
def goneN (ns : List Int) (l : List SnapD) (L : List Nat) (k : Nat) : List (List UInt8) := ((List.range k).filter fun i => !keptB ns l L i).map (nameAt l)
theorem gone_spec (ns : List Int) (hn : ns.length = 6) (a : Option Addr) (n c : Nat) (l : List SnapD) (w : World) (hr : RdS w a n c l) (hb : n ≤ 1000000) :
    Calls Try.prog 12 #[.agg (iv ns).toArray, .slice a n c] w fun e w' => ∃ ra rn rc v, e = .returned (.tuple #[.slice ra rn rc, errV (errW ns l)]) ∧ Chg [] w w' ∧ Rd w' ra rn rc 1 (v.map strV) ∧ (errW ns l ≠ none → v = [] ∧ rn = 0) ∧ (errW ns l = none → ∃ L, NewOrd l L ∧ v.Perm (goneN ns l L n) ∧ SortedS v) := by
  obtain ⟨mI, hI⟩ := eI
  have hln := hr.num (by decide)
  apply prune_Gone_vc
  obtain ⟨g2, w1, r1, h1⟩ := (St.start w).boxA (P := Try.prog) 23 (iv ns)
  have h1 : St w [] w1 [.arr g2 23 (iv ns)] := h1
  refine ⟨g2, w1, r1, _, h1.ldA (i := 0) (l := iv ns) rfl (poA _) (poS _) (by simp [hn]), (keep_spec ns hn a n c l w1 (hr.keep0 h1.chg) hb).mono ?_⟩
  rintro e w2 ⟨ra, rn, rc, v, rfl, c2, hrd, hbad, hgood⟩
  refine ⟨_, _, _, _, rfl, _, neqS_nil hI _ _ _, fun hs => ?_, fun hs => ?_⟩
  · have hne : errW ns l ≠ none := fun e => by rw [e] at hs; cases hs
    exact ⟨none, 0, 0, [], rfl, h1.chg.trans c2, ⟨Cells.nil _ _, rfl, Nat.le_refl _, fun _ => rfl⟩, fun _ => ⟨rfl, rfl⟩, fun e => absurd e hne⟩
  have herr : errW ns l = none := by cases h : errW ns l <;> rw [h] at hs <;> simp at hs ⊢
  obtain ⟨rfl, L, hL, rfl⟩ := hgood herr
  rw [herr]
  have c02 := h1.chg.trans c2
  refine ⟨fun xa xn xc i w' => ∃ j : Nat, i = (j : Int) ∧ j ≤ rn ∧ xn = (goneN ns l L j).length ∧ St w2 [] w' [.row 9 1 (.slice xa xn xc) xn ((goneN ns l L j).map strV)], fun _ _ _ i _ => rn - i.toNat, ⟨0, rfl, Nat.zero_le _, rfl, (St.start w2).addNil _ _⟩, ?_⟩
  rintro xa xn xc i w3 ⟨j, rfl, hj, hxn, h3⟩
  have hgl : xn ≤ j := by
    rw [hxn, goneN, List.length_map]
    have := List.length_filter_le (fun i => !keptB ns l L i) (List.range j)
    simpa using this
  refine ⟨fun hlt => ?_, fun hge => ?_⟩
  · have hj' : j < rn := by simp at hlt; omega
    have hs : l[j]? = some l[j] := List.getElem?_eq_getElem (by omega)
    obtain ⟨s, hse⟩ : ∃ s, l[j] = s := ⟨_, rfl⟩
    rw [hse] at hs
    obtain ⟨b, o, hab, hld⟩ := hr.ld (P := Try.prog) (by decide) snAgg snS hs
    have c3 := c02.trans h3.chg
    obtain ⟨g8, w4, r4, h4⟩ := h3.zeroA snZ
    obtain ⟨w5, r5, h5⟩ := h4.stA (i := 1) (v := snapC s) rfl (snS _) (snapC_len _) (snapC_len _) (snapC_one _)
    have h5 : St w2 [] w5 [.row 9 1 (.slice xa xn xc) xn ((goneN ns l L j).map strV), .arr g8 30 (snapC s)] := h5
    obtain ⟨b2, o2, hab2, hcell⟩ := (hrd.keep0 h5.chg).cells.at_ (i := j) (v := .bool (keptB ns l L j)) (by rw [zb, List.getElem?_map, keepV_get _ _ _ (by omega)]; rfl)
    have hg1 : goneN ns l L (j + 1) = goneN ns l L j ++ if keptB ns l L j then [] else [s.name] := by
      unfold goneN
      rw [List.range_succ, List.filter_append, List.map_append]
      cases hk : keptB ns l L j <;> simp [nameAt, hs, hk]
    refine ⟨b, o, hab, by omega, by omega, _, hld w3 (hr.keep0 c3), g8, w4, r4, w5, r5, b2, o2, hab2, by omega, by omega, _, by rw [Int.toNat_natCast, Nat.mul_one]; exact ld1 (blA _) hcell, fun ya yn yc w' => yn = (goneN ns l L (j + 1)).length ∧ St w2 [] w' [.row 9 1 (.slice ya yn yc) yn ((goneN ns l L (j + 1)).map strV)], ⟨fun hk => ?_, fun hk => ?_⟩, ?_⟩
    · have hk : keptB ns l L j = false := by simpa using hk
      obtain ⟨g3, w6, va, vc, w7, r6, r7, h7, _, _⟩ := h5.pushV (i := 0) (ty := 39) stT rfl (strV s.name) rfl (by omega) (by simp only [maxLen]; omega)
      refine ⟨_, h5.ldL (i := 1) (o := 0) (v := strV s.name) rfl (stA_ _) rfl rfl, _, _, _, w6, r6, _, _, _, w7, r7, ?_, ?_⟩
      · rw [hg1, hk]; simp [hxn]
      · rw [hg1, hk]
        have h7 : St w2 [] w7 [.row 9 1 (.slice va (xn + 1) vc) (xn + 1) ((goneN ns l L j).map strV ++ [strV s.name]), .arr g8 30 (snapC s)] := h7
        have := h7.sub (N := [.row 9 1 (.slice va (xn + 1) vc) (xn + 1) ((goneN ns l L j).map strV ++ [strV s.name])]) (by simp)
        simpa using this
    · have hk : keptB ns l L j = true := by simpa using hk
      rw [hg1, hk]
      refine ⟨by simpa using hxn, ?_⟩
      simpa using h5.sub (N := [.row 9 1 (.slice xa xn xc) xn ((goneN ns l L j).map strV)]) (by simp)
    · rintro ya yn yc w8 ⟨hyn, h8⟩
      exact ⟨⟨j + 1, wrap_succ hj' (by omega), by omega, hyn, h8⟩, mu_succ hj' (by omega)⟩
  · have hj' : j = rn := by simp at hge; omega
    subst hj'
    refine (sortS_spec h3 (i := 0) rfl (by omega)).mono ?_
    rintro e w9 ⟨rfl, v', hp, hs, h9⟩
    exact ⟨rfl, _, _, _, v', rfl, c02.trans h9.chg, h9.rd (i := 0) rfl, fun h => absurd rfl h, fun _ => ⟨L, hL, hp, hs⟩⟩

/-! ### the fixed fact -/
theorem built_pol : Try.prog.built 23 = fun parts => Instr.fill (fun i => (#[(0, 1), (1, 1), (2, 1), (3, 1), (4, 1), (5, 1)] : Array (Nat × Nat))[i]?) (iv [0, 0, 0, 0, 0, 0]).toArray parts := by kernel_rfl
theorem pol_build0 (w : World) : (Instr.build 23 #[]).run Try.prog w = .ok (.agg (iv [0, 0, 0, 0, 0, 0]).toArray) w := by
  apply run_build
  rw [built_pol]
  rfl
theorem pol_build1 (x : Int) (w : World) : (Instr.build 23 #[(0, .int .i64 x)]).run Try.prog w = .ok (.agg (iv [x, 0, 0, 0, 0, 0]).toArray) w := by
  apply run_build
  rw [built_pol]
  show Instr.fill _ _ [(0, _)] = _
  rw [fill_step (off := 0) (sz := 1) rfl rfl (by simp [Value.cells, iv])]
  rfl
theorem pol_build6 (a b c d e f : Int) (w : World) : (Instr.build 23 #[(0, .int .i64 a), (1, .int .i64 b), (2, .int .i64 c), (3, .int .i64 d), (4, .int .i64 e), (5, .int .i64 f)]).run Try.prog w = .ok (.agg (iv [a, b, c, d, e, f]).toArray) w := by
  apply run_build
  rw [built_pol]
  show Instr.fill _ _ [(0, _), (1, _), (2, _), (3, _), (4, _), (5, _)] = _
  rw [fill_step (off := 0) (sz := 1) rfl rfl (by simp [Value.cells, iv]), fill_step (off := 1) (sz := 1) rfl rfl (by simp [Value.cells, iv]), fill_step (off := 2) (sz := 1) rfl rfl (by simp [Value.cells, iv]),
    fill_step (off := 3) (sz := 1) rfl rfl (by simp [Value.cells, iv]), fill_step (off := 4) (sz := 1) rfl rfl (by simp [Value.cells, iv]), fill_step (off := 5) (sz := 1) rfl rfl (by simp [Value.cells, iv])]
  rfl
theorem built_snap : Try.prog.built 30 = fun parts => Instr.fill (fun i => (#[(0, 1), (1, 1), (2, 1), (3, 1), (4, 32)] : Array (Nat × Nat))[i]?) (snapC sn0).toArray parts := by kernel_rfl
def snapAt (s : List UInt8) (t : Int) : SnapD := ⟨s, t, 0, 0, List.replicate 32 0, by simp⟩
theorem snap_build (s : List UInt8) (t : Int) (w : World) : (Instr.build 30 #[(0, .string ⟨s.toArray⟩), (1, .int .i64 t)]).run Try.prog w = .ok (.agg (snapC (snapAt s t)).toArray) w := by
  apply run_build
  rw [built_snap]
  show Instr.fill _ _ [(0, _), (1, _)] = _
  rw [fill_step (off := 0) (sz := 1) rfl rfl (by simp [Value.cells, snapC_len]), fill_step (off := 1) (sz := 1) rfl rfl (by simp [Value.cells, snapC_len])]
  rfl
theorem at_spec (s : List UInt8) (t : Int) (w : World) : Calls Try.prog 9 #[.string ⟨s.toArray⟩, .int .i64 t] w fun e w' => e = .returned (.agg (snapC (snapAt s t)).toArray) ∧ Chg [] w w' := by
  apply amphoralaw20_at_vc
  obtain ⟨g4, w1, r1, h1⟩ := (St.start w).zeroA snZ
  obtain ⟨w2, r2, h2⟩ := h1.stA (i := 0) (v := snapC (snapAt s t)) rfl (snS _) (snapC_len _) (snapC_len _) (snapC_one _)
  exact ⟨g4, w1, r1, _, snap_build s t w1, w2, r2, _, h2.ldVarA (i := 0) (l := snapC (snapAt s t)) rfl (snAgg _) (snS _) (snapC_len _), rfl, h2.chg⟩
def l3 : List SnapD := [snapAt [97] 10, snapAt [98] 30, snapAt [99] 20]
theorem l3_ord {L : List Nat} (h : NewOrd l3 L) : L = [1, 2, 0] := by
  refine h.uniq ⟨by decide, ?_⟩
  refine List.Pairwise.cons ?_ (List.Pairwise.cons ?_ (List.Pairwise.cons ?_ List.Pairwise.nil))
  · intro j hj
    rcases List.mem_cons.1 hj with rfl | hj
    · exact ⟨_, _, rfl, rfl, by decide⟩
    · rw [List.mem_singleton] at hj; subst hj
      exact ⟨_, _, rfl, rfl, by decide⟩
  · intro j hj
    rw [List.mem_singleton] at hj; subst hj
    exact ⟨_, _, rfl, rfl, by decide⟩
  · intro j hj; cases hj
theorem l3_err : errW [2, 0, 0, 0, 0, 0] l3 = none := by decide +kernel
theorem l3_gone : goneN [2, 0, 0, 0, 0, 0] l3 [1, 2, 0] 3 = [[97]] := by decide +kernel
theorem alive20_spec (w : World) : Calls Try.prog 7 #[] w fun e w' => e = .returned (.bool true) ∧ Chg [] w w' := by
  obtain ⟨mI, hI⟩ := eI
  apply amphoralaw20_alive_vc
  refine ⟨_, pol_build1 2 w, (at_spec [97] 10 w).mono ?_⟩
  rintro e w1 ⟨rfl, c1⟩
  refine ⟨_, rfl, (at_spec [98] 30 w1).mono ?_⟩
  rintro e w2 ⟨rfl, c2⟩
  refine ⟨_, rfl, (at_spec [99] 20 w2).mono ?_⟩
  rintro e w3 ⟨rfl, c3⟩
  obtain ⟨g, w4, r4, h4⟩ := (St.start w3).litE (enc := snapC) snT snapC_len l3 (by decide) (by decide)
  have hrd : RdS w4 (some ⟨g, 0, none⟩) 3 3 l3 := ⟨h4.rd (i := 0) rfl, fun x _ => snapC_len x⟩
  have c4 := ((c1.trans c2).trans c3).trans h4.chg
  refine ⟨_, rfl, _, _, _, w4, r4, (gone_spec [2, 0, 0, 0, 0, 0] rfl _ 3 3 l3 w4 hrd (by decide)).mono ?_⟩
  rintro e w5 ⟨ra, rn, rc, v, rfl, c5, hv, _, hgood⟩
  rw [l3_err] at hgood ⊢
  obtain ⟨L, hL, hp, _⟩ := hgood rfl
  rw [l3_ord hL, l3_gone] at hp
  have hv1 : v = [[97]] := List.perm_singleton.1 hp
  subst hv1
  have hrn : rn = 1 := by have := hv.len; simpa using this.symm
  subst hrn
  have c15 := c4.trans c5
  refine ⟨_, _, _, _, rfl, _, eqlS_nil hI none _ _, fun _ => ?_, fun h => by simp at h⟩
  obtain ⟨b, o, hab, hc⟩ := hv.cells.at_ (i := 0) (v := strV [97]) rfl
  refine ⟨b, o, hab, by omega, by omega, _, ld1 (stA_ _) hc, fun _ => ⟨_, pol_build0 w5, (check_spec [0, 0, 0, 0, 0, 0] rfl w5).mono ?_⟩, fun h => by simp at h⟩
  rintro e w6 ⟨rfl, c6⟩
  exact ⟨_, rfl, _, eqlS_err hI (checkP [0, 0, 0, 0, 0, 0]) 23 _ _ _, rfl, c15.trans c6⟩

end Go.Proofs.Ytdcgapabphjgbaa
