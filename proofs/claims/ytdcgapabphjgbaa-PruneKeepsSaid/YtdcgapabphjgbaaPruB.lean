/- The places of snapshots from the newest on: slices.SortFunc with prune's closure (conditions: none). -/
import Derived.Test.YtdcgapabphjgbaaPruA
import Derived.Test.YtdcgapabphjgbaaSortL
import Derived.Shelf.SlSortCmp.NoneTotal
namespace Go.Proofs.Ytdcgapabphjgbaa
open Go Sx
set_option maxRecDepth 8000

/-- The world has only grown: blocks behind, draws. -/
def Grw (w w' : World) : Prop := ∃ q os, w' = Sort.grow (w.drewN q) os
theorem Grw.refl (w : World) : Grw w w := ⟨0, #[], by simp [World.drewN]⟩
theorem Grw.trans {a b c : World} (h : Grw a b) (k : Grw b c) : Grw a c := by
  obtain ⟨q, os, rfl⟩ := h
  obtain ⟨q2, os2, rfl⟩ := k
  refine ⟨q + q2, os ++ os2, ?_⟩
  simp [Sort.grow, World.drewN, Nat.add_assoc, Array.append_assoc]
theorem Grw.alloc (w : World) (o : Obj) : Grw w (w.alloc o) := ⟨0, #[o], by rw [Sort.alloc_eq_grow]; simp [World.drewN]⟩
theorem Grw.drew (w : World) : Grw w w.drew := ⟨1, #[], by rw [Sort.grow_empty]; rfl⟩
theorem Grw.chg {w w' : World} (h : Grw w w') : Chg [] w w' := by
  obtain ⟨q, os, rfl⟩ := h
  exact ⟨rfl, rfl, rfl, by simp [Sort.grow, World.drewN], fun k hk _ => by simp [Sort.grow, World.drewN, Array.getElem?_append_left hk]⟩

theorem litG {t e by_ : Nat} {z : Value} (E : ElemT Try.prog t e 1 by_ z) (vs : List Value) (h1 : ∀ v ∈ vs, v.oneCell' = true) (h0 : vs.length ≠ 0) (hb : vs.length ≤ 16777216) (w : World) :
    (Instr.buildSlice t vs.length ((vs.zipIdx 0).map fun p => (p.2, p.1)).toArray).run Try.prog w = .ok (.slice (some ⟨w.heap.size, 0, none⟩) vs.length vs.length) (w.alloc (.cells vs.toArray e)) := by
  obtain ⟨inf, hinf, hz, hsz, hby⟩ := E.inf
  have hlt : ¬ vs.length > 2 ^ 24 := by omega
  have hf2 := fill_lit vs 0 ((Array.range vs.length).map fun i => z.cells[i % z.cells.size]!) h1 (by simp)
  simp only [List.take_zero, List.nil_append] at hf2
  simp only [Instr.buildSlice, Sem.run_bind, run_underlying E.ht, Result.andThen_ok, sizeOf, typeInfo, run_program, hinf, hsz, Sem.run_pure, Nat.mul_one, h0, if_false, zeroValue, hz, hlt, newRow]
  have hpl : (fun i => some (i * 1, 1) : Nat → Option (Nat × Nat)) = fun i => some (i, 1) := by funext i; simp
  rw [hpl] at hf2
  rw [hf2]
  simp

theorem inT : ElemT Try.prog 32 3 1 8 (.int .i64 0) := ⟨by kernel_rfl, ⟨Try.t3, by kernel_rfl, by kernel_rfl, by kernel_rfl, by kernel_rfl⟩, rfl, by decide⟩
theorem isA (w : World) : (isAgg 32).run Try.prog w = .ok false w := Try.isAgg32 w
theorem snA (w : World) : (isAgg 24).run Try.prog w = .ok false w := Try.isAgg24 w
theorem stA_ (w : World) : (isAgg 9).run Try.prog w = .ok false w := Try.isAgg9 w

theorem or3_spec (x y z : Int) (a : Option Addr) (c : Nat) (w : World) (hr : Rd w a 3 c 1 (iv [x, y, z])) :
    Calls Try.prog 38 #[.slice a 3 c] w fun e w' => e = .returned (.int .i64 (or3 x y z)) ∧ w' = w := by
  apply cmp_Or_int_vc
  have ld : ∀ (i : Nat) (v : Int), (iv [x, y, z])[i]? = some (.int .i64 v) → ∃ b o, a = some ⟨b, o, none⟩ ∧ (Instr.loadAt 3 (.pointer (some ⟨b, o + Int.toNat (i : Int) * 1, none⟩))).run Try.prog w = .ok (.int .i64 v) w := fun i v hv => by
    obtain ⟨b, o, ha, hc⟩ := hr.cells.at_ hv
    exact ⟨b, o, ha, by rw [Int.toNat_natCast, Nat.mul_one]; exact ld1 (iA w) hc⟩
  refine ⟨fun i w' => w' = w ∧ (i = 0 ∨ (i = 1 ∧ x = 0) ∨ (i = 2 ∧ x = 0 ∧ y = 0) ∨ (i = 3 ∧ x = 0 ∧ y = 0 ∧ z = 0)), fun i _ => (3 - i).toNat, ⟨rfl, .inl rfl⟩, ?_⟩
  rintro i w1 ⟨rfl, hi⟩
  refine ⟨fun hlt => ?_, fun hge => ?_⟩
  · rcases hi with rfl | ⟨rfl, hx⟩ | ⟨rfl, hx, hy⟩ | ⟨rfl, hx, hy, hz⟩
    · obtain ⟨b, o, ha, hl⟩ := ld 0 x rfl
      refine ⟨b, o, ha, by omega, by omega, _, hl, fun h => ⟨?_, rfl⟩, fun h => ⟨⟨rfl, .inr (.inl ⟨by decide, by simpa using h⟩)⟩, (by decide : (3 - IntKind.wrap .i64 (0 + 1)).toNat < (3 - (0 : Int)).toNat)⟩⟩
      have : x ≠ 0 := by simpa using h
      unfold or3; rw [if_pos this]
    · obtain ⟨b, o, ha, hl⟩ := ld 1 y rfl
      refine ⟨b, o, ha, by omega, by omega, _, hl, fun h => ⟨?_, rfl⟩, fun h => ⟨⟨rfl, .inr (.inr (.inl ⟨by decide, hx, by simpa using h⟩))⟩, (by decide : (3 - IntKind.wrap .i64 (1 + 1)).toNat < (3 - (1 : Int)).toNat)⟩⟩
      have : y ≠ 0 := by simpa using h
      unfold or3; rw [if_neg (by simp [hx]), if_pos this]
    · obtain ⟨b, o, ha, hl⟩ := ld 2 z rfl
      refine ⟨b, o, ha, by omega, by omega, _, hl, fun h => ⟨?_, rfl⟩, fun h => ⟨⟨rfl, .inr (.inr (.inr ⟨by decide, hx, hy, by simpa using h⟩))⟩, (by decide : (3 - IntKind.wrap .i64 (2 + 1)).toNat < (3 - (2 : Int)).toNat)⟩⟩
      unfold or3; rw [if_neg (by simp [hx]), if_neg (by simp [hy])]
    · simp at hlt
  · rcases hi with rfl | ⟨rfl, hx⟩ | ⟨rfl, hx, hy⟩ | ⟨rfl, hx, hy, hz⟩
    · simp at hge
    · simp at hge
    · simp at hge
    · exact ⟨by simp [or3, hx, hy, hz], rfl⟩

theorem newest1_spec {l : List SnapD} {a : Option Addr} {n c : Nat} {g : Nat} {T : TypeId} {x y : Nat} {s t : SnapD} (w : World) (hx : l[x]? = some s) (hy : l[y]? = some t) (hr : RdS w a n c l) (hg : w.heap[g]? = some (.cells #[.slice a n c] T (0, 0))) :
    Calls Try.prog 37 #[.int .i64 (x : Int), .int .i64 (y : Int), .pointer (some ⟨g, 0, none⟩)] w fun e w' => e = .returned (.int .i64 (cmpB s t x y)) ∧ Grw w w' := by
  have hln := hr.num (by decide)
  have hxl := (List.getElem?_eq_some_iff.1 hx).1
  have hyl := (List.getElem?_eq_some_iff.1 hy).1
  apply prune_newest_1_vc
  let S : World → Prop := fun w' => Chg [] w w'
  have ldB : ∀ w', S w' → (Instr.loadAt 24 (.pointer (some ⟨g, 0, none⟩))).run Try.prog w' = .ok (.slice a n c) w' := fun w' hw => by
    refine ld1 (snA w') ?_
    have := hw.block g (Array.getElem?_eq_some_iff.1 hg).1 (by simp)
    rw [hg] at this
    exact cell_of_row w' g 0 _ _ _ this
  obtain ⟨b1, o1, ha1, ld1'⟩ := hr.fld (P := Try.prog) (by decide) iA (j := 1) hy (v := .int .i64 t.time) rfl
  obtain ⟨b2, o2, ha2, ld2⟩ := hr.fld (P := Try.prog) (by decide) iA (j := 1) hx (v := .int .i64 s.time) rfl
  obtain ⟨b3, o3, ha3, ld3⟩ := hr.fld (P := Try.prog) (by decide) stA_ (j := 0) hy (v := strV t.name) rfl
  obtain ⟨b4, o4, ha4, ld4⟩ := hr.fld (P := Try.prog) (by decide) stA_ (j := 0) hx (v := strV s.name) rfl
  refine ⟨S, Chg.drew _ _, a, n, c, ldB, b1, o1, ha1, by omega, by omega, _, fun w' hw => ld1' w' (hr.keep0 hw), a, n, c, ldB, b2, o2, ha2, by omega, by omega, _, fun w' hw => ld2 w' (hr.keep0 hw), a, n, c, ldB, b3, o3, ha3, by omega, by omega, _, fun w' hw => ld3 w' (hr.keep0 hw), a, n, c, ldB, b4, o4, ha4, by omega, by omega, _, fun w' hw => ld4 w' (hr.keep0 hw), (cmpI_spec _ _ _).mono ?_⟩
  rintro e w1 ⟨rfl, rfl⟩
  refine ⟨_, rfl, S, fun _ h => h, Chg.drew _ _, (cmpS_spec _ _ _).mono ?_⟩
  rintro e w1 ⟨rfl, rfl⟩
  refine ⟨_, rfl, S, fun _ h => h, Chg.drew _ _, (cmpI_spec _ _ _).mono ?_⟩
  rintro e w1 ⟨rfl, rfl⟩
  have hlit := litG inT (iv [icmp t.time s.time, lexCmp t.name s.name, icmp (y : Int) (x : Int)]) (iv_one _) (by simp) (by simp) w.drew
  have hG : Grw w (w.drew.alloc (.cells (iv [icmp t.time s.time, lexCmp t.name s.name, icmp (y : Int) (x : Int)]).toArray 3)) := (Grw.drew w).trans (Grw.alloc _ _)
  refine ⟨_, rfl, S, fun _ h => h, Chg.drew _ _, _, _, _, _, hlit, S, fun _ h => h, hG.chg, (or3_spec (icmp t.time s.time) (lexCmp t.name s.name) (icmp (y : Int) (x : Int)) (some ⟨w.drew.heap.size, 0, none⟩) 3 _ ?_).mono ?_⟩
  · refine ⟨?_, rfl, Nat.le_refl _, fun h => by cases h⟩
    have := cells_blk (g := w.drew.heap.size) (o := 0) (n := 3) (heap_alloc_new w.drew (.cells (iv [icmp t.time s.time, lexCmp t.name s.name, icmp (y : Int) (x : Int)]).toArray 3))
    simpa [iv] using this
  rintro e w2 ⟨rfl, rfl⟩
  exact ⟨_, rfl, S, fun _ h => h, hG.chg, rfl, hG⟩

theorem putV_list {α : Type} [Inhabited α] (enc : α → Value) (F : Array α) (cur : Array Value) (h : F.size ≤ cur.size) : (Sort.putCells enc 0 F cur).size = cur.size ∧ (Sort.putCells enc 0 F cur).toList.take F.size = F.toList.map enc := by
  refine ⟨by simp [Sort.putCells], ?_⟩
  apply List.ext_getElem?
  intro i
  rw [List.getElem?_take]
  by_cases hi : i < F.size
  · rw [if_pos hi]
    simp only [Sort.putCells, Array.getElem?_toList, Array.getElem?_mapIdx, List.getElem?_map]
    rw [Array.getElem?_eq_getElem (by omega), Array.getElem?_eq_getElem hi]
    simp [hi, getElem!_pos F i hi]
  · rw [if_neg hi, List.getElem?_eq_none (by simp; omega)]

theorem sortN_spec {w0 w : World} {l : List SnapD} {a : Option Addr} {n c : Nat} (hr : RdS w0 a n c l) {g : Nat} {T : TypeId} {xa : Option Addr} {xc : Nat} (hS : St w0 [] w [.blk g (.cells #[.slice a n c] T (0, 0)), .row 3 1 (.slice xa n xc) n (iv ((List.range n).map fun i : Nat => (i : Int)))]) (hb : n ≤ 1000000) :
    Calls Try.prog 36 #[.slice xa n xc, .func (.func 37) #[] #[.pointer (some ⟨g, 0, none⟩)]] w fun e w' => e = .returned (.tuple #[]) ∧
      ∃ L, NewOrd l L ∧ St w0 [] w' [.blk g (.cells #[.slice a n c] T (0, 0)), .row 3 1 (.slice xa n xc) n (iv (L.map fun i : Nat => (i : Int)))] := by
  have hln := hr.num (by decide)
  have hh : w.ownsRow 0 3 1 (.slice xa n xc) n (iv ((List.range n).map fun i : Nat => (i : Int))) := hS.holds 1 _ rfl
  have hgb : w.heap[g]? = some (.cells #[.slice a n c] T (0, 0)) := hS.holds 0 _ rfl
  by_cases hn : n = 0
  · subst hn
    have hl : l = [] := List.eq_nil_of_length_eq_zero hln
    refine Calls.mono (AnyF.slices_SortFunc_none (ρ := sortI_ren) { sortI with } xa xc (.func (.func 37) #[] #[.pointer (some ⟨g, 0, none⟩)]) w) ?_
    rintro e w' ⟨rfl, rfl⟩
    exact ⟨rfl, [], ⟨by rw [hl]; exact List.Perm.refl _, List.Pairwise.nil⟩, hS⟩
  rcases hh.2 with ⟨_, h0⟩ | ⟨blk, cap, cur, h0, _, hg, hnc, hcm, hcs, htk⟩
  · exact absurd h0 hn
  · simp only [Value.slice.injEq] at h0
    obtain ⟨rfl, _, rfl⟩ := h0
    have hlt : blk < w.heap.size := (Array.getElem?_eq_some_iff.1 hg).1
    haveI : Inhabited (Fin n) := ⟨⟨0, by omega⟩⟩
    let enc : Fin n → Value := fun i => .int .i64 ((i : Nat) : Int)
    let d : Array (Fin n) := (List.finRange n).toArray
    have hdl : d.toList.map enc = iv ((List.range n).map fun i : Nat => (i : Int)) := by
      apply List.ext_getElem?
      intro i
      by_cases hi : i < n
      · simp [d, enc, iv, List.getElem?_range, hi]
      · rw [List.getElem?_eq_none (by simp [d]; omega), List.getElem?_eq_none (by simp; omega)]
    have hds : d.size = n := by simp [d]
    let sn : Fin n → SnapD := fun i => l[(i : Nat)]'(by have := i.2; omega)
    have hsn : ∀ i : Fin n, l[(i : Nat)]? = some (sn i) := fun i => List.getElem?_eq_getElem _
    let cf : Fin n → Fin n → Int := fun i j => cmpB (sn i) (sn j) i j
    have hcf : ∀ i j, ltOf cf i j = nwB (sn i) (sn j) i j := fun i j => cmpB_lt _ _ _ _
    have hO : Sort.SWO (ltOf cf) := by
      refine ⟨fun x => ?_, fun x y z h1 h2 => ?_, fun x y z h1 h2 => ?_⟩
      · rw [hcf]
        cases h : nwB (sn x) (sn x) x x with
        | false => rfl
        | true => rw [nwB_asymm h] at h; cases h
      · rw [hcf] at *; exact nwB_trans h1 h2
      · rw [hcf] at *
        by_cases hxy : x = y
        · rw [hxy]; exact h2
        by_cases hyz : y = z
        · rw [← hyz]; exact h1
        have e1 := (nwB_total (s := sn x) (t := sn y) (i := (x : Nat)) (j := (y : Nat)) (fun h => hxy (Fin.ext h))).resolve_left (by rw [h1]; simp)
        have e2 := (nwB_total (s := sn y) (t := sn z) (i := (y : Nat)) (j := (z : Nat)) (fun h => hyz (Fin.ext h))).resolve_left (by rw [h2]; simp)
        exact nwB_asymm (nwB_trans e2 e1)
    have hne : blk ≠ g := by
      have := hS.pw.2.2
      simp only [List.pairwise_cons] at this
      intro e
      exact this.1 (Res.row 3 1 (.slice (some ⟨blk, 0, none⟩) n xc) n (iv ((List.range n).map fun i : Nat => (i : Int)))) (by simp) g (by simp [Res.fp]) (by simp [Res.fp, Value.ownBlock, e])
    have hbw : w0.heap.size ≤ blk := by
      have := hS.pw.2.1 _ (by simp : Res.row 3 1 (.slice (some ⟨blk, 0, none⟩) n xc) n (iv ((List.range n).map fun i : Nat => (i : Int))) ∈ _) blk (by simp [Res.fp, Value.ownBlock])
      simpa using this
    have hheap : ∀ m (dk : Array (Fin n)) os, (sortWorld enc w blk 0 m dk os).heap = (w.heap.modify blk (Sort.onCells (Sort.putCells enc 0 dk))) ++ os := fun _ _ _ => rfl
    have hchg : ∀ m (dk : Array (Fin n)) os, Chg [blk] w (sortWorld enc w blk 0 m dk os) := fun m dk os => ⟨rfl, rfl, rfl, by rw [hheap]; simp, fun k hk hx => by
      rw [hheap, Array.getElem?_append_left (by simpa using hk), Array.getElem?_modify, if_neg (by intro e; exact hx (by simp [e]))]⟩
    have hH : Sort.Holds enc w blk 0 d := by
      intro j hj
      have hj' : j < n := by omega
      refine ⟨?_, by simp [World.frozen?, hg]⟩
      have e := congrArg (fun q => q[j]?) (htk.trans hdl.symm)
      simp only [List.getElem?_take, Nat.mul_one, if_pos hj', List.getElem?_map] at e
      rw [Array.getElem?_toList] at e
      rw [cell_of_row w blk (0 + j) cur _ _ hg, Nat.zero_add, e, Array.getElem?_toList, Array.getElem?_eq_getElem hj, getElem!_pos d j hj]
      rfl
    have hcmp : CmpLays1 Try.prog 37 #[.pointer (some ⟨g, 0, none⟩)] enc cf blk 0 d.size w := by
      intro m os dk hdk x y
      have hc := hchg m dk os
      have hc0 : Chg [] w0 (sortWorld enc w blk 0 m dk os) := hS.chg.trans' hc (fun i hi => .inl (by simp at hi; omega))
      have hg' := hc.block g (Array.getElem?_eq_some_iff.1 hgb).1 (by simp; exact fun e => hne e.symm)
      rw [hgb] at hg'
      exact newest1_spec _ (hsn x) (hsn y) (hr.keep0 hc0) hg'
    have eg : ∀ args w, (callFunc 37 args).run Try.prog w = .ok (.enter 37 args) w := fun args w => goesIn_run (by kernel_rfl) args w
    have h := Any.slices_SortFunc sortI enc (fun _ => rfl) cf hO 37 #[.pointer (some ⟨g, 0, none⟩)] blk 0 xc d w eg hcmp hH hlt (by omega)
    rw [hds] at h
    refine Calls.mono h ?_
    rintro e w' ⟨rfl, d', q, os, hp, hs, rfl⟩
    obtain ⟨hp1, _, hp3⟩ := hp
    have hd : d'.size = n := by omega
    have hperm : d'.toList.Perm d.toList := by
      have e1 : (d'.extract 0 n).toList = d'.toList := by rw [Array.toList_extract]; simp [List.extract, List.take_of_length_le, hd]
      have e2 : (d.extract 0 n).toList = d.toList := by rw [Array.toList_extract]; simp [List.extract, List.take_of_length_le, hds]
      rw [e1, e2] at hp3
      exact hp3
    have hnd : d'.toList.Nodup := hperm.nodup_iff.2 (by simp [d]; exact List.nodup_finRange n)
    have hpw : d'.toList.Pairwise fun x y => nwB (sn x) (sn y) x y = true := by
      rw [List.pairwise_iff_getElem]
      intro j k hj hk hjk
      have hj2 : j < d'.size := by simpa using hj
      have hk2 : k < d'.size := by simpa using hk
      have := hs j k (Nat.zero_le _) hjk (by omega)
      rw [hcf, getElem!_pos d' k hk2, getElem!_pos d' j hj2] at this
      rw [Array.getElem_toList, Array.getElem_toList]
      refine (nwB_total fun e => ?_).resolve_right (by rw [this]; simp)
      have e2 : d'.toList[j] = d'.toList[k] := by rw [Array.getElem_toList, Array.getElem_toList]; exact Fin.ext e
      exact List.pairwise_iff_getElem.1 hnd j k hj hk hjk e2
    obtain ⟨p1, p2⟩ := putV_list enc d' cur (by omega)
    have hgz : (sortWorld enc w blk 0 q d' os).heap[blk]? = some (.cells (Sort.putCells enc 0 d' cur) 3 (0, 0)) := by
      rw [hheap, Array.getElem?_append_left (by simpa using hlt), Array.getElem?_modify, if_pos rfl, hg]
      rfl
    let L : List Nat := d'.toList.map fun i : Fin n => (i : Nat)
    have hLe : iv (L.map fun i : Nat => (i : Int)) = d'.toList.map enc := by simp [L, iv, enc, Function.comp_def]
    refine ⟨rfl, L, ⟨?_, ?_⟩, ?_⟩
    · have h1 : L.Perm (d.toList.map fun i : Fin n => (i : Nat)) := hperm.map _
      have h2 : d.toList.map (fun i : Fin n => (i : Nat)) = List.range n := by
        apply List.ext_getElem?
        intro i
        by_cases hi : i < n
        · simp [d, List.getElem?_range, hi]
        · rw [List.getElem?_eq_none (by simp [d]; omega), List.getElem?_eq_none (by simp; omega)]
      rw [h2, ← hln] at h1
      exact h1
    · rw [List.pairwise_map]
      exact hpw.imp fun {x y} h => ⟨_, _, hsn x, hsn y, h⟩
    · rw [hLe]
      have := hS.upd (i := 1) (r := .row 3 1 (.slice (some ⟨blk, 0, none⟩) n xc) n (iv ((List.range n).map fun i : Nat => (i : Int)))) (r' := .row 3 1 (.slice (some ⟨blk, 0, none⟩) n xc) n (d'.toList.map enc)) rfl ((hchg q d' os).mono fun k hk => by simp at hk; subst hk; simp [Res.fp, Value.ownBlock]) ⟨?_, .inr ⟨blk, xc, _, rfl, Nat.zero_le _, hgz, hnc, hcm, by rw [p1, hcs], by rw [← p2, hd, Nat.mul_one]⟩⟩ fun k hk => .inl hk
      · exact this
      · simp [hd]

theorem newest_spec {l : List SnapD} {a : Option Addr} {n c : Nat} (w : World) (hr : RdS w a n c l) (hb : n ≤ 1000000) :
    Calls Try.prog 26 #[.slice a n c] w fun e w' => ∃ xa xc L, e = .returned (.slice xa n xc) ∧ NewOrd l L ∧ St w [] w' [.row 3 1 (.slice xa n xc) n (iv (L.map fun i : Nat => (i : Int)))] := by
  apply prune_newest_vc
  obtain ⟨g, w1, r1, h1⟩ := (St.start w).box (P := Try.prog) 24 (.slice a n c)
  have h1 : St w [] w1 [.blk g (.cells #[.slice a n c] 24 (0, 0))] := h1
  refine ⟨g, w1, r1, a, n, c, h1.ld (i := 0) (o := 0) rfl (snA _) rfl, ?_⟩
  refine ⟨fun xa xn xc i w' => ∃ j : Nat, i = (j : Int) ∧ xn = j ∧ j ≤ n ∧ St w [] w' [.blk g (.cells #[.slice a n c] 24 (0, 0)), .row 3 1 (.slice xa xn xc) xn (iv ((List.range j).map fun i : Nat => (i : Int)))], fun _ _ _ i _ => n - i.toNat, ⟨0, rfl, rfl, Nat.zero_le _, h1.addNil _ _⟩, ?_⟩
  rintro xa xn xc i w2 ⟨j, rfl, rfl, hj, h2⟩
  refine ⟨fun hlt => ?_, fun hge => ?_⟩
  · have hj' : xn < n := by simp at hlt; omega
    obtain ⟨g3, w3, va, vc, w4, r3, r4, h4, _, _⟩ := h2.pushV (i := 1) (ty := 32) inT rfl (.int .i64 (xn : Int)) rfl (by omega) (by simp only [maxLen]; omega)
    refine ⟨_, _, _, w3, r3, _, _, _, w4, r4, ⟨xn + 1, wrap_succ hj' (by omega), rfl, by omega, ?_⟩, mu_succ hj' (by omega)⟩
    have e : iv ((List.range (xn + 1)).map fun i : Nat => (i : Int)) = iv ((List.range xn).map fun i : Nat => (i : Int)) ++ [.int .i64 (xn : Int)] := by simp [iv, List.range_succ]
    rw [e]; exact h4
  · have hj' : xn = n := by simp at hge; omega
    subst hj'
    have q : (Instr.makeFunc (.func 37) #[] #[.pointer (some ⟨g, 0, none⟩)]).run Try.prog w2 = .ok (.func (.func 37) #[] #[.pointer (some ⟨g, 0, none⟩)]) w2 := by simp [Instr.makeFunc]
    refine ⟨_, w2, q, (sortN_spec hr h2 hb).mono ?_⟩
    rintro e w3 ⟨rfl, L, hL, h3⟩
    exact ⟨rfl, _, _, L, rfl, hL, h3.tail⟩

end Go.Proofs.Ytdcgapabphjgbaa
