/- Lists of byte slices in memory, Sum, and things that are held besides others (conditions: those that each theorem names). -/
import Derived.Test.YtdcgapabphjgbaaSxApp
import Derived.Test.YtdcgapabphjgbaaSxSeat
namespace Go.Proofs.Ytdcgapabphjgbaa
open Go Sx
set_option maxRecDepth 8000

/-- Byte lists in memory, by their slices. -/
structure Row2 (w : World) (vs : List Value) (ls : List (List UInt8)) : Prop where
  len : vs.length = ls.length
  rd : ∀ i, i < ls.length → ∃ a n c, vs[i]? = some (.slice a n c) ∧ RdB w a n c (ls.getD i [])

theorem Row2.keep0 {w w' : World} {vs : List Value} {ls : List (List UInt8)} (h : Row2 w vs ls) (hc : Chg [] w w') : Row2 w' vs ls :=
  ⟨h.len, fun i hi => by obtain ⟨a, n, c, h1, h2⟩ := h.rd i hi; exact ⟨a, n, c, h1, h2.keep0 hc⟩⟩

theorem flat_take {ls : List (List UInt8)} {i : Nat} (h : i < ls.length) : (ls.take (i + 1)).flatten = (ls.take i).flatten ++ ls.getD i [] := by
  rw [List.take_add_one, List.getElem?_eq_getElem h, List.flatten_append]; simp [List.getD, h]
theorem flat_take_le (ls : List (List UInt8)) (i : Nat) : (ls.take i).flatten.length ≤ ls.flatten.length := by
  have : ls.flatten = (ls.take i).flatten ++ (ls.drop i).flatten := by rw [← List.flatten_append, List.take_append_drop]
  rw [this, List.length_append]; omega
theorem getD_le_flat {ls : List (List UInt8)} {i : Nat} (h : i < ls.length) : (ls.getD i []).length ≤ ls.flatten.length := by
  have h1 := flat_take h
  have h2 := flat_take_le ls (i + 1)
  rw [h1, List.length_append] at h2; omega

/-- One thing changes, another comes. -/
theorem Sx.St.updAdd {w0 w w' : World} {X : List Nat} {M : List Res} (h : St w0 X w M) {i : Nat} {r r' s : Res} (hi : M[i]? = some r) (hc : Chg r.fp w w') (hr' : r'.holds w') (hfp : ∀ k ∈ r'.fp, k ∈ r.fp ∨ w.heap.size ≤ k) (hs : s.holds w') (hsn : ∀ k ∈ s.fp, w.heap.size ≤ k)
    (hrs : ∀ k ∈ r'.fp, k ∉ s.fp) : St w0 X w' (M.set i r' ++ [s]) := by
  have h' := h.upd hi hc hr' hfp
  have hsz := h.chg.size
  refine h'.addAt hs (fun k hk => .inl (by have := hsn k hk; omega)) (fun j t hj k hk hk' => ?_)
  have hlt : i < M.length := (List.getElem?_eq_some_iff.1 hi).1
  by_cases e : i = j
  · subst e
    rw [List.getElem?_set_self hlt] at hj
    obtain rfl := Option.some.inj hj
    exact hrs k hk hk'
  · rw [List.getElem?_set_ne e] at hj
    have := Res.lt (h.holds j t hj) k hk
    have := hsn k hk'
    omega

/-- append of a literal of one thing, of one cell, to a row that is held. -/
theorem Sx.St.pushV {w0 w : World} {X : List Nat} {M : List Res} (hS : St w0 X w M) {i t ty e by_ : Nat} {z : Value} (E : ElemT Try.prog t e 1 by_ z) {a : Option Addr} {n c : Nat} {xs : List Value} (hi : M[i]? = some (.row e 1 (.slice a n c) n xs)) (v : Value) (hv : v.oneCell' = true)
    (hb : (n + 1) * by_ ≤ 140737488355328) (hm : n + 1 ≤ maxLen) :
    ∃ g w2 va vc w3, (Instr.buildSlice t 1 #[(0, v)]).run Try.prog w = .ok (.slice (some ⟨g, 0, none⟩) 1 1) w2 ∧ (Builtin.append_ #[t, t] ty #[.slice a n c, .slice (some ⟨g, 0, none⟩) 1 1]).run Try.prog w2 = .ok (.slice va (n + 1) vc) w3 ∧
      St w0 X w3 (M.set i (.row e 1 (.slice va (n + 1) vc) (n + 1) (xs ++ [v]))) ∧ St w0 X w2 M ∧ Chg [] w w2 := by
  have him : i < M.length := (List.getElem?_eq_some_iff.1 hi).1
  obtain ⟨g, w2, hr2, h2⟩ := hS.lit E [v] (by simp [hv]) (by simp)
  obtain ⟨g', w2', hr2', h2'⟩ := (St.start w).lit E [v] (by simp [hv]) (by simp)
  have hw := hr2.symm.trans hr2'
  simp only [Result.ok.injEq] at hw
  obtain ⟨_, rfl⟩ := hw
  obtain ⟨va, vc, w3, hr3, h3, _, _⟩ := h2.append (i := i) (ty := ty) E (by rw [List.getElem?_append_left him]; exact hi) h2.rdLast (by simp [hv]) (by simpa using hb) (by simpa using hm)
  refine ⟨g, w2, va, vc, w3, hr2, hr3, ?_, St.pop h2, h2'.chg⟩
  rw [List.set_append_left _ _ him] at h3
  exact St.pop h3

/-- What is held, by members. -/
theorem Sx.St.of_mem {w0 w : World} {X : List Nat} {M : List Res} (hc : Chg X w0 w) (h1 : ∀ r ∈ M, r.holds w) (h2 : ∀ r ∈ M, ∀ k ∈ r.fp, w0.heap.size ≤ k ∨ k ∈ X) (h3 : M.Pairwise fun r s => ∀ k ∈ r.fp, k ∉ s.fp) : St w0 X w M := by
  refine ⟨hc, fun i r hi => h1 r (List.mem_of_getElem? hi), fun i r hi => h2 r (List.mem_of_getElem? hi), fun i j r s hij hi hj k hk hk' => ?_⟩
  obtain ⟨hil, rfl⟩ := List.getElem?_eq_some_iff.1 hi
  obtain ⟨hjl, rfl⟩ := List.getElem?_eq_some_iff.1 hj
  rcases Nat.lt_or_gt_of_ne hij with h | h
  · exact List.pairwise_iff_getElem.1 h3 i j hil hjl h k hk hk'
  · exact List.pairwise_iff_getElem.1 h3 j i hjl hil h k hk' hk

theorem Sx.St.pw {w0 w : World} {X : List Nat} {M : List Res} (h : St w0 X w M) : (∀ r ∈ M, r.holds w) ∧ (∀ r ∈ M, ∀ k ∈ r.fp, w0.heap.size ≤ k ∨ k ∈ X) ∧ M.Pairwise fun r s => ∀ k ∈ r.fp, k ∉ s.fp := by
  refine ⟨fun r hr => ?_, fun r hr => ?_, List.pairwise_iff_getElem.2 fun i j hi hj hij => ?_⟩
  · obtain ⟨i, hi⟩ := List.getElem?_of_mem hr; exact h.holds i r hi
  · obtain ⟨i, hi⟩ := List.getElem?_of_mem hr; exact h.own i r hi
  · exact h.apart i j _ _ (by omega) (by simp [hi]) (by simp [hj])

/-- Fewer things. -/
theorem Sx.St.sub {w0 w : World} {X : List Nat} {M N : List Res} (h : St w0 X w M) (hs : N.Sublist M) : St w0 X w N := by
  obtain ⟨h1, h2, h3⟩ := h.pw
  exact St.of_mem h.chg (fun r hr => h1 r (hs.subset hr)) (fun r hr => h2 r (hs.subset hr)) (h3.sublist hs)

/-- The same things in another order. -/
theorem Sx.St.perm {w0 w : World} {X : List Nat} {M N : List Res} (h : St w0 X w M) (hp : M.Perm N) : St w0 X w N := by
  obtain ⟨h1, h2, h3⟩ := h.pw
  exact St.of_mem h.chg (fun r hr => h1 r (hp.mem_iff.2 hr)) (fun r hr => h2 r (hp.mem_iff.2 hr)) (h3.perm hp fun h k hk hk' => h k hk' hk)

theorem Sx.St.tail {w0 w : World} {X : List Nat} {r : Res} {M : List Res} (h : St w0 X w (r :: M)) : St w0 X w M := h.sub (List.sublist_cons_self r M)

/-- The things that are held, for a call that may change them: their footprint. -/
def fpsL (M : List Res) : List Nat := M.flatMap Res.fp

theorem Sx.St.self {w0 w : World} {X : List Nat} {M : List Res} (h : St w0 X w M) : St w (fpsL M) w M := by
  obtain ⟨h1, _, h3⟩ := h.pw
  exact St.of_mem (Chg.refl _ _) h1 (fun r hr k hk => .inr (List.mem_flatMap.2 ⟨r, hr, hk⟩)) h3

/-- Behind a call that changes at most a part of the things that are held. -/
theorem Sx.St.callPart {w0 w w' : World} {X : List Nat} {M N N' : List Res} (h : St w0 X w (M ++ N)) (h' : St w (fpsL N) w' N') : St w0 X w' (M ++ N') := by
  obtain ⟨h1, h2, h3⟩ := h.pw
  obtain ⟨k1, k2, k3⟩ := h'.pw
  obtain ⟨p1, p2, p3⟩ := List.pairwise_append.1 h3
  have hown : ∀ k ∈ fpsL N, w0.heap.size ≤ k ∨ k ∈ X := fun k hk => by
    obtain ⟨r, hr, hk⟩ := List.mem_flatMap.1 hk
    exact h2 r (List.mem_append_right _ hr) k hk
  have hsz := h.chg.size
  refine St.of_mem (h.chg.trans' h'.chg hown) (fun r hr => ?_) (fun r hr k hk => ?_) (List.pairwise_append.2 ⟨p1, k3, fun r hr s hs k hk hk' => ?_⟩)
  · rcases List.mem_append.1 hr with hr | hr
    · refine Res.kept (h1 r (List.mem_append_left _ hr)) fun k hk => h'.chg.block k (Res.lt (h1 r (List.mem_append_left _ hr)) k hk) fun hx => ?_
      obtain ⟨s, hs, hk'⟩ := List.mem_flatMap.1 hx
      exact p3 r hr s hs k hk hk'
    · exact k1 r hr
  · rcases List.mem_append.1 hr with hr | hr
    · exact h2 r (List.mem_append_left _ hr) k hk
    · rcases k2 r hr k hk with h | h
      · left; omega
      · exact hown k h
  · rcases k2 s hs k hk' with h | h
    · have := Res.lt (h1 r (List.mem_append_left _ hr)) k hk; omega
    · obtain ⟨t, ht, hkt⟩ := List.mem_flatMap.1 h
      exact p3 r hr t ht k hk hkt

/-- Cells that lie elsewhere than a block, since they are none of its. -/
theorem Sx.Cells.keepG {w w' : World} {g : Nat} {cur : Array Value} {T : TypeId} {fr : Nat × Nat} {a : Option Addr} {cs : List Value} (h : Cells w a cs) (hg : w.heap[g]? = some (.cells cur T fr)) (hne : ∀ v ∈ cs, v ∉ cur.toList) (hc : Chg [g] w w') : Cells w' a cs := by
  rcases h with rfl | ⟨b, o, ha, hr⟩
  · exact .inl rfl
  · refine .inr ⟨b, o, ha, fun j v hv => ?_⟩
    have h1 := hr j v hv
    by_cases hb : b = g
    · subst hb
      rw [cell_of_row w b _ cur T fr hg] at h1
      exact absurd (Array.mem_toList_iff.2 (Array.mem_of_getElem? h1)) (hne v (List.mem_of_getElem? hv))
    · rw [← h1]
      exact World.cell?_of_block (hc.block b (World.block_lt_of_cell? w _ h1) (by simpa using hb))

theorem Sx.Rd.keepG {w w' : World} {g : Nat} {cur : Array Value} {T : TypeId} {fr : Nat × Nat} {a : Option Addr} {n c sz : Nat} {cs : List Value} (h : Rd w a n c sz cs) (hg : w.heap[g]? = some (.cells cur T fr)) (hne : ∀ v ∈ cs, v ∉ cur.toList) (hc : Chg [g] w w') : Rd w' a n c sz cs :=
  ⟨h.cells.keepG hg hne hc, h.len, h.le, h.nil⟩

/-- A slice's literal of one thing of several cells. -/
theorem Sx.St.litA {w0 w : World} {X : List Nat} {M : List Res} (h : St w0 X w M) {t e sz by_ : Nat} {z : Value} (E : ElemT Try.prog t e sz by_ z) (cs : List Value) (hl : cs.length = sz) (hb : sz ≤ 16777216) :
    ∃ g w', (Instr.buildSlice t 1 #[(0, .agg cs.toArray)]).run Try.prog w = .ok (.slice (some ⟨g, 0, none⟩) 1 1) w' ∧ St w0 X w' (M ++ [.row e sz (.slice (some ⟨g, 0, none⟩) 1 1) 1 cs]) := by
  obtain ⟨inf, hinf, hz, hsz, hby⟩ := E.inf
  have hpos := E.pos
  have hlt : ¬ sz > 2 ^ 24 := by omega
  have hrow : (w.alloc (.cells cs.toArray e)).ownsRow 0 e sz (.slice (some ⟨w.heap.size, 0, none⟩) 1 1) 1 cs := by
    have := World.ownsRow_lit (base := 0) (e := e) (size := sz) w cs.toArray 1 (Nat.zero_le _) (by simp only [maxLen]; omega) (by simp [hl])
    simpa using this
  refine ⟨w.heap.size, _, ?_, h.add (Chg.alloc _ (.cells cs.toArray e)) hrow (by simp [Res.fp, Value.ownBlock])⟩
  have hne : ¬ sz = 0 := by omega
  simp only [Instr.buildSlice, Sem.run_bind, run_underlying E.ht, Result.andThen_ok, sizeOf, typeInfo, run_program, hinf, hsz, Sem.run_pure, Nat.one_mul, hne, if_false, zeroValue, hz, hlt, newRow]
  rw [fill_step (off := 0) (sz := sz) (by simp) (by simp [Value.cells, hl]) (by simp), Array.toList_map, Array.toList_range, Nat.zero_add, List.drop_of_length_le (by simp), List.append_nil]
  simp [Instr.fill, Value.cells]

/-- append of a literal of one thing of several cells to a row that is held. -/
theorem Sx.St.pushA {w0 w : World} {X : List Nat} {M : List Res} (hS : St w0 X w M) {i t ty e sz by_ : Nat} {z : Value} (E : ElemT Try.prog t e sz by_ z) {a : Option Addr} {n c : Nat} {xs : List Value} (hi : M[i]? = some (.row e sz (.slice a n c) n xs)) (cs : List Value) (hl : cs.length = sz) (hsz : sz ≤ 16777216) (hv : ∀ v ∈ cs, v.oneCell' = true)
    (hb : (n + 1) * by_ ≤ 140737488355328) (hm : n + 1 ≤ maxLen) :
    ∃ g w2 va vc w3, (Instr.buildSlice t 1 #[(0, .agg cs.toArray)]).run Try.prog w = .ok (.slice (some ⟨g, 0, none⟩) 1 1) w2 ∧ (Builtin.append_ #[t, t] ty #[.slice a n c, .slice (some ⟨g, 0, none⟩) 1 1]).run Try.prog w2 = .ok (.slice va (n + 1) vc) w3 ∧
      St w0 X w3 (M.set i (.row e sz (.slice va (n + 1) vc) (n + 1) (xs ++ cs))) ∧ St w0 X w2 M := by
  have him : i < M.length := (List.getElem?_eq_some_iff.1 hi).1
  obtain ⟨g, w2, hr2, h2⟩ := hS.litA E cs hl hsz
  obtain ⟨va, vc, w3, hr3, h3, _, _⟩ := h2.append (i := i) (ty := ty) E (by rw [List.getElem?_append_left him]; exact hi) h2.rdLast hv hb hm
  refine ⟨g, w2, va, vc, w3, hr2, hr3, ?_, St.pop h2⟩
  rw [List.set_append_left _ _ him] at h3
  exact St.pop h3

/-- A thing of several cells is read out of a list of them and laid by itself. -/
theorem copyAgg {w w0 : World} {X : List Nat} {M : List Res} (hS : St w0 X w M) {T sz : Nat} {z : List Value} (aT : ∀ w, (isAgg T).run Try.prog w = .ok true w) (sT : ∀ w, (sizeOf T).run Try.prog w = .ok sz w) (zT : ∀ w, (zeroValue T).run Try.prog w = .ok (.agg z.toArray) w) (hz : z.length = sz)
    {a : Option Addr} {cs xs : List Value} {j : Nat} (hc : Cells w a cs) (hx : (cs.drop j).take sz = xs) (hl : xs.length = sz) (hpos : 0 < sz) (h1 : ∀ v ∈ xs, v.oneCell' = true) :
    ∃ b o g w1 w2, a = some ⟨b, o, none⟩ ∧ (∀ off, off = o + j → (Instr.loadAt T (.pointer (some ⟨b, off, none⟩))).run Try.prog w = .ok (.agg xs.toArray) w) ∧ (Instr.alloc T true (.tuple #[])).run Try.prog w = .ok (.pointer (some ⟨g, 0, none⟩)) w1 ∧
      (Instr.storeAt T (.pointer (some ⟨g, 0, none⟩)) (.agg xs.toArray)).run Try.prog w1 = .ok () w2 ∧ St w0 X w2 (M ++ [.arr g T xs]) := by
  rcases hc with h0 | ⟨b, o, ha, hr⟩
  · subst h0; simp at hx; subst hx; simp at hl; omega
  · have hrange : w.rangeAt b (o + j) xs := by
      intro k v hk
      have hk3 : k < sz := by have := (List.getElem?_eq_some_iff.1 hk).1; omega
      rw [← hx, List.getElem?_take, if_pos hk3, List.getElem?_drop] at hk
      have := hr _ _ hk
      rw [Nat.add_assoc]; exact this
    obtain ⟨g, w1, r1, h1'⟩ := hS.zeroA zT
    have hget : (M ++ [Res.arr g T z])[M.length]? = some (.arr g T z) := by rw [List.getElem?_append_right (Nat.le_refl _), Nat.sub_self]; rfl
    obtain ⟨w2, r2, h2⟩ := h1'.stA hget (sT _) hz hl h1
    rw [List.set_append_right _ _ (Nat.le_refl _), Nat.sub_self] at h2
    refine ⟨b, o, g, w1, w2, ha, fun off hoff => ?_, r1, r2, h2⟩
    subst hoff
    have := loadCells_cells (P := Try.prog) hrange
    rw [hl] at this
    simp [Instr.loadAt, Instr.sureAddr, loadVar, aT, sT, this]

theorem Sx.St.fps_own {w0 w : World} {M : List Res} (h : St w0 [] w M) : ∀ k ∈ fpsL M, w0.heap.size ≤ k := by
  intro k hk
  obtain ⟨r, hr, hk⟩ := List.mem_flatMap.1 hk
  simpa using h.pw.2.1 r hr k hk

/-- What is not handed to a call stays as it is. -/
theorem Sx.St.keptPart {w0 w : World} {X : List Nat} {M N : List Res} (h : St w0 X w (M ++ N)) {r : Res} (hr : r ∈ M) {w' : World} (hc : Chg (fpsL N) w w') : r.holds w' := by
  obtain ⟨h1, _, h3⟩ := h.pw
  obtain ⟨_, _, p3⟩ := List.pairwise_append.1 h3
  have hh := h1 r (List.mem_append_left _ hr)
  refine Res.kept hh fun k hk => hc.block k (Res.lt hh k hk) fun hx => ?_
  obtain ⟨s, hs, hk'⟩ := List.mem_flatMap.1 hx
  exact p3 r hr s hs k hk hk'

theorem Sx.St.litA0 {w0 w : World} {X : List Nat} {M : List Res} (h : St w0 X w M) {t e sz by_ : Nat} {z : Value} (E : ElemT Try.prog t e sz by_ z) :
    ∃ g w', (Instr.buildSlice t 0 #[]).run Try.prog w = .ok (.slice (some ⟨g, 0, none⟩) 0 0) w' ∧ St w0 X w' (M ++ [.row e sz (.slice (some ⟨g, 0, none⟩) 0 0) 0 []]) := by
  obtain ⟨inf, hinf, hz, hsz, hby⟩ := E.inf
  have hrow : (w.alloc (.cells #[] e)).ownsRow 0 e sz (.slice (some ⟨w.heap.size, 0, none⟩) 0 0) 0 [] := by
    have := World.ownsRow_lit (base := 0) (e := e) (size := sz) w #[] 0 (Nat.zero_le _) (by simp only [maxLen]; omega) (by simp)
    simpa using this
  refine ⟨w.heap.size, _, ?_, h.add (Chg.alloc _ (.cells #[] e)) hrow (by simp [Res.fp, Value.ownBlock])⟩
  simp [Instr.buildSlice, run_underlying E.ht, sizeOf, typeInfo, hinf, hsz, zeroValue, hz, newRow, Instr.fill]
  rw [show (Array.range 0) = #[] from Array.size_eq_zero_iff.1 (by simp)]
  simp

end Go.Proofs.Ytdcgapabphjgbaa
