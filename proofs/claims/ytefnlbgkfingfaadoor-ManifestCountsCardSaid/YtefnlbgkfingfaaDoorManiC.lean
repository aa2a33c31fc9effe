/- The contract of manifest.Build (conditions: the table lies where the program laid it; at most 65536 identifiers). -/
import Derived.Test.YtefnlbgkfingfaaDoorManiA
import Derived.Test.YtefnlbgkfingfaaDoorManiB
namespace Go.Proofs.YtefnlbgkfingfaaDoor
open Go Sx
set_option maxRecDepth 8000

theorem Sx.St.ins {w0 w : World} {X : List Nat} {A R : List Res} {x : Res} (h : St w0 X w ((A ++ R) ++ [x])) : St w0 X w ((A ++ [x]) ++ R) :=
  h.perm (by rw [List.append_assoc, List.append_assoc]; exact List.Perm.append_left A List.perm_append_comm)

theorem Sx.St.back {w0 w w' : World} {X : List Nat} {M N : List Res} (h : St w0 X w M) (h' : St w (fpsL M) w' N) : St w0 X w' N := by
  have := St.callPart (M := []) (N := M) (N' := N) (by simpa using h) h'
  simpa using this

/-- The row of identifiers that is walked: the caller's, or one's own. -/
def CurOk (w : World) (a : Option Addr) (n c : Nat) (ids : Ids) (cur : Res) : Prop := (cur = Res.emp ∧ RdI w a n c ids) ∨ (All32 ids ∧ cur = .row 33 32 (.slice a n c) n (bv ids.flatten))

theorem CurOk.rd {w w' : World} {a : Option Addr} {n c : Nat} {ids : Ids} {cur : Res} {M : List Res} (h : CurOk w a n c ids cur) (hS : St w [] w' M) (hi : M[4]? = some cur) : RdI w' a n c ids := by
  rcases h with ⟨_, h⟩ | ⟨h1, rfl⟩
  · exact h.keep0 hS.chg
  · exact ⟨hS.rd hi, h1⟩

theorem CurOk.cellish {w : World} {a : Option Addr} {n c : Nat} {ids : Ids} {cur : Res} (h : CurOk w a n c ids cur) : cur.cellish = true := by
  rcases h with ⟨rfl, _⟩ | ⟨_, rfl⟩ <;> rfl

/-- What Build holds. -/
def bM1 (K z : List UInt8) (g2 g5 g7 : Nat) (oa : Option Addr) (on oc : Nat) (vs : List Value) (cur : Res) (g8 lv : Nat) : List Res :=
  [.arr g2 28 (bv K), .arr g5 33 (bv z), .arr g7 32 [.slice oa on oc], .row 23 1 (.slice oa on oc) on vs, cur, .arr g8 3 [.int .i64 (lv : Int)]]
/-- What it holds besides while it ranges. -/
def bM2 (g9 : Nat) (aa : Option Addr) (an ac : Nat) (above : Ids) (gs gn : Nat) (xa : Option Addr) (xn xc : Nat) : List Res :=
  [.arr g9 30 [.slice aa an ac], .row 33 32 (.slice aa an ac) an (bv above.flatten), .arr gs 30 [.slice xa xn xc], .arr gn 3 [.int .i64 16]]

def HdOk (vs : List Value) (nodes : List (List UInt8)) : Prop := vs.length = nodes.length ∧ ∀ i, i < nodes.length → ∃ a c, vs[i]? = some (.slice a (nodes.getD i []).length c)
theorem HdOk.snoc {vs : List Value} {nodes : List (List UInt8)} (h : HdOk vs nodes) (a : Option Addr) (c : Nat) (l : List UInt8) : HdOk (vs ++ [.slice a l.length c]) (nodes ++ [l]) := ⟨by simp [h.1], hd_snoc h.1 h.2 a c l⟩

def InvB (w : World) (K z : List UInt8) (g2 g5 g7 : Nat) (cur : Res) (g8 lv g9 gs gn : Nat) (xa : Option Addr) (xn xc : Nat) (ds : List Nat) (out : List (List UInt8)) (ids : Ids) (pre : List Nat) (W : World) : Prop :=
  ∃ oa on oc vs aa an ac, HdOk vs (out ++ pre.map fun i => nodeL lv (chunkL ids i)) ∧
    St w [] W (bM1 K z g2 g5 g7 oa on oc vs cur g8 lv ++ bM2 g9 aa an ac ((pre.map fun i => nodeL lv (chunkL ids i)).map (idF K)) gs gn xa xn xc ++ (dmarks ds ++ rowsL vs (out ++ pre.map fun i => nodeL lv (chunkL ids i))))

theorem rowsL_cellish : ∀ (vs : List Value) (ls : List (List UInt8)), ∀ r ∈ rowsL vs ls, r.cellish = true := by
  intro vs ls r hr
  simp only [rowsL] at hr
  obtain ⟨i, hi⟩ := List.getElem?_of_mem hr
  rw [List.getElem?_zipWith] at hi
  cases h1 : vs[i]? <;> cases h2 : ls[i]? <;> simp [h1, h2] at hi
  rw [← hi]; rfl

theorem bM_cellish {w W : World} {X : List Nat} {K z : List UInt8} {g2 g5 g7 : Nat} {oa : Option Addr} {on oc : Nat} {vs : List Value} {cur : Res} {g8 lv g9 : Nat} {aa : Option Addr} {an ac : Nat} {above : Ids} {gs gn : Nat} {xa : Option Addr} {xn xc B : Nat} {ds : List Nat} {nodes : List (List UInt8)} (hc : cur.cellish = true) (hd : ∀ r ∈ dmarks ds, ∀ k ∈ r.fp, k < B) :
    Cellish B (bM1 K z g2 g5 g7 oa on oc vs cur g8 lv ++ bM2 g9 aa an ac above gs gn xa xn xc ++ (dmarks ds ++ rowsL vs nodes)) := by
  intro r hr
  simp only [List.mem_append] at hr
  rcases hr with (hr | hr) | hr | hr
  · left
    simp only [bM1, List.mem_cons, List.not_mem_nil, or_false] at hr
    rcases hr with rfl | rfl | rfl | rfl | rfl | rfl <;> first | rfl | exact hc
  · left
    simp only [bM2, List.mem_cons, List.not_mem_nil, or_false] at hr
    rcases hr with rfl | rfl | rfl | rfl <;> rfl
  · exact .inr (hd r hr)
  · exact .inl (rowsL_cellish _ _ r hr)

theorem nodeL_len (lv : Nat) (ids : Ids) (h : All32 ids) (hn : ids.length ≤ 65536) : (nodeL lv ids).length ≤ 10 + 32 * ids.length := by
  have h1 := flat32 h
  have h2 := varL_len 9 ids.length (by omega) (by decide)
  simp only [nodeL, List.length_append, List.length_singleton]
  omega

theorem levelF_len (lv : Nat) (ids : Ids) : (levelF lv ids).length = numCh ids.length := by simp [levelF]

theorem build_rf : subC [1, 1, 1, 1, 0, 0, 0, 0, 1, 0, 1, 0] (Tryd.f12.body.getD .skip) = .rangeFunc (.tmp 21) #[22] (.region 8 #[{ dst := some 10, op := .assign (.tmp 22), type := 30, pos := "manifest.go:31", after := #[], guard := none }] false)
    (subC [1, 1, 1, 1, 0, 0, 0, 0, 1, 0, 1, 0, 1] (Tryd.f12.body.getD .skip)) := by kernel_rfl

set_option maxHeartbeats 1000000 in
/-- The range over the chunks of one level. -/
theorem build_hole {w W : World} {K z : List UInt8} {g2 g5 g7 : Nat} {oa : Option Addr} {on oc : Nat} {vs : List Value} {cur : Res} {g8 lv g9 gs gn : Nat} {xa : Option Addr} {xn xc : Nat} {ds : List Nat} {out : List (List UInt8)} {ids : Ids}
    (hk : K.length = 96) (hK : KTab w) (hcur : CurOk w xa xn xc ids cur) (hxn : xn ≤ 65536) (hxc : xn ≤ xc) (hon : out.length ≤ 1000000) (hhd : HdOk vs out)
    (h : St w [] W (bM1 K z g2 g5 g7 oa on oc vs cur g8 lv ++ bM2 g9 none 0 0 [] gs gn xa xn xc ++ (dmarks ds ++ rowsL vs out))) :
    HoleOk Tryd.prog 55 (subC [1, 1, 1, 1, 0, 0, 0, 0, 1, 0, 1, 0] (Tryd.f12.body.getD .skip)) [(21, some (.func (.func chunkFn) #[] #[.pointer (some ⟨gs, 0, none⟩), .pointer (some ⟨gn, 0, none⟩)])), (9, some (.pointer (some ⟨g9, 0, none⟩))), (8, some (.pointer (some ⟨g8, 0, none⟩))), (7, some (.pointer (some ⟨g7, 0, none⟩))), (2, some (.pointer (some ⟨g2, 0, none⟩)))] ds W
      fun D W' => ∃ oa on oc vs aa an ac, HdOk vs (out ++ levelF lv ids) ∧ St w [] W' (bM1 K z g2 g5 g7 oa on oc vs cur g8 lv ++ bM2 g9 aa an ac ((levelF lv ids).map (idF K)) gs gn xa xn xc ++ (dmarks (D :: ds) ++ rowsL vs (out ++ levelF lv ids))) := by
  have hmk : ∀ r ∈ dmarks ds, ∀ k ∈ r.fp, k < W.heap.size := dmarks_lt h (fun r hr => List.mem_append_right _ (List.mem_append_left _ hr))
  have hcc := hcur.cellish
  have e7 : W.heap[gs]? = some (.cells #[.slice xa xn xc] 30) := h.holds 8 _ rfl
  have e8 : W.heap[gn]? = some (.cells #[.int .i64 16] 3) := h.holds 9 _ rfl
  have hxi := (hcur.rd h rfl).num
  have hsz := h.chg.size
  have l7 : gs < W.heap.size := (Array.getElem?_eq_some_iff.1 e7).1
  have l8 : gn < W.heap.size := (Array.getElem?_eq_some_iff.1 e8).1
  rw [build_rf]
  refine holeOk_rf (gf := chunkFn) (enc := encC xa xn) (Kp := keep2 gs gn) (S := fun xs => xs = List.range (numCh xn)) (M := numCh xn) (by kernel_rfl) rfl chunk_enters (chunk_stops gs gn xa xn xc W e7 e8 hxc (by omega)) (fun h1 h2 => ⟨h2.1.trans h1.1, h2.2.trans h1.2⟩) (fun W1 l o o' hl ho _ _ => ⟨World.putObj_heap_other (by omega), World.putObj_heap_other (by omega)⟩)
    (InvB w K z g2 g5 g7 cur g8 lv g9 gs gn xa xn xc ds out ids) ?own ?start rfl rfl rfl (by decide) (by decide) (by kernel_rfl) (by kernel_rfl) (fun pre x W1 hI hlen => manifest_Build_vc_round0 _ _ _ _ _ _ _ _ _ _ _ _ W1 _ ?body) ?done
  case own =>
    rintro pre W1 W2 row ⟨oa, on, oc, vs, aa, an, ac, h1, h2⟩ hg hr
    exact ⟨oa, on, oc, vs, aa, an, ac, h1, h2.ownG hsz (bM_cellish (w := w) (W := W1) (X := []) hcc hmk) hg hr⟩
  case start => exact ⟨oa, on, oc, vs, none, 0, 0, by simpa using hhd, by simpa using h⟩
  case body =>
    obtain ⟨oa, on, oc, vs, aa, an, ac, hhd, h1⟩ := hI
    obtain ⟨ns, hns⟩ : ∃ ns, pre.map (fun i => nodeL lv (chunkL ids i)) = ns := ⟨_, rfl⟩
    have hnl : ns.length = pre.length := by rw [← hns]; simp
    rw [hns] at hhd h1
    have hr := (hcur.rd h1 rfl).chunk x
    have hcl : (chunkL ids x).length ≤ 16 := by rw [chunk_len]; omega
    have hC := bM_cellish (w := w) (W := W1) (X := []) (K := K) (z := z) (g2 := g2) (g5 := g5) (g7 := g7) (oa := oa) (on := on) (oc := oc) (vs := vs) (cur := cur) (g8 := g8) (lv := lv) (g9 := g9) (aa := aa) (an := an) (ac := ac) (above := ns.map (idF K)) (gs := gs) (gn := gn) (xa := xa) (xn := xn) (xc := xc) (nodes := out ++ ns) hcc hmk
    obtain ⟨f0, hf0⟩ : ∃ f, nodeL lv (chunkL ids x) = f := ⟨_, rfl⟩
    have hfl : f0.length ≤ 10 + 32 * 16 := by
      have := nodeL_len lv (chunkL ids x) hr.all (by omega)
      rw [← hf0]; omega
    have hon2 : on = out.length + ns.length := by
      have := (h1.rd (i := 3) (xs := vs) rfl).len
      have := hhd.1
      simp at this
      omega
    have hpn : pre.length < 4097 := by rw [numCh] at hlen; omega
    have hs := h1.self
    obtain ⟨F, hF⟩ : ∃ F, fpsL (bM1 K z g2 g5 g7 oa on oc vs cur g8 lv ++ bM2 g9 aa an ac (ns.map (idF K)) gs gn xa xn xc ++ (dmarks ds ++ rowsL vs (out ++ ns))) = F := ⟨_, rfl⟩
    rw [hF] at hs
    have back : ∀ w' N, St W1 F w' N → St w [] w' N := fun w' N hN => h1.back (by rw [hF]; exact hN)
    refine ⟨(lv : Int), hs.ldL (i := 5) (l := [.int .i64 (lv : Int)]) rfl (iA _) rfl rfl, (node_spec lv _ _ _ (chunkL ids x) W1 hr (by omega)).mono ?_⟩
    rintro e w1 ⟨a5, n5, c5, rfl, hf5⟩
    rw [hf0] at hf5
    have e5 := hf5.2.1
    subst e5
    have h2 : St W1 F w1 (bM1 K z g2 g5 g7 oa on oc vs cur g8 lv ++ bM2 g9 aa an ac (ns.map (idF K)) gs gn xa xn xc ++ (dmarks ds ++ rowsL (vs ++ [.slice a5 f0.length c5]) (out ++ ns ++ [f0]))) := by
      have := hf5.add hs
      rw [rowsL_snoc hhd.1, ← List.append_assoc (dmarks ds), ← List.append_assoc]
      exact this
    refine ⟨_, _, _, rfl, _, _, _, h2.ldL (i := 2) (l := [.slice oa on oc]) rfl (bbA _) rfl rfl, ?_⟩
    obtain ⟨g3, w2, va, vc, w3, r2, r3, h3, _, _⟩ := h2.pushV (i := 3) (ty := 32) bbT rfl (.slice a5 f0.length c5) rfl (by omega) (by simp only [maxLen]; omega)
    obtain ⟨w4, r4, h4⟩ := h3.stL (i := 2) (o := 0) (l := [.slice oa on oc]) (T := 32) (v := .slice va (on + 1) vc) rfl (bbS _) rfl (by simp) rfl
    have h4' : St W1 F w4 (bM1 K z g2 g5 g7 va (on + 1) vc (vs ++ [.slice a5 f0.length c5]) cur g8 lv ++ bM2 g9 aa an ac (ns.map (idF K)) gs gn xa xn xc ++ (dmarks ds ++ rowsL (vs ++ [.slice a5 f0.length c5]) (out ++ ns ++ [f0]))) := h4
    have h4d := h4'.drew
    have s0 : ∀ w', (w'.heap[g9]? = some (.cells #[.slice aa an ac] 30) ∧ w'.heap[g2]? = some (.cells (bv K).toArray 28)) → (Instr.loadAt 30 (.pointer (some ⟨g9, 0, none⟩))).run Tryd.prog w' = .ok (.slice aa an ac) w' ∧ (Instr.loadAt 28 (.pointer (some ⟨g2, 0, none⟩))).run Tryd.prog w' = .ok (.agg (bv K).toArray) w' := fun w' h => ⟨ld1 (idsA _) (cell1 h.1), (St.ofBlk h.2).ldA (i := 0) (l := bv K) rfl (kyA _) (kyS _) (by simp [hk])⟩
    have sat : ∀ w' N, St W1 F w' N → N[6]? = some (.arr g9 30 [.slice aa an ac]) → N[0]? = some (.arr g2 28 (bv K)) → (w'.heap[g9]? = some (.cells #[.slice aa an ac] 30) ∧ w'.heap[g2]? = some (.cells (bv K).toArray 28)) := fun w' N hN h6 h0 => ⟨hN.holds 6 _ h6, hN.holds 0 _ h0⟩
    have hrow : RdB w4.drew a5 f0.length c5 f0 := by
      have hh := h4d.sub (N := [.row 5 1 (.slice a5 f0.length c5) f0.length (bv f0)]) (by
        rw [rowsL_snoc hhd.1]
        exact ((List.Sublist.refl _).trans (List.sublist_append_right _ _)).trans ((List.sublist_append_right _ _).trans (List.sublist_append_right _ _)))
      exact hh.rd (i := 0) rfl
    refine ⟨_, _, _, _, r2, _, _, _, _, r3, w4, r4, fun w' => w'.heap[g9]? = some (.cells #[.slice aa an ac] 30) ∧ w'.heap[g2]? = some (.cells (bv K).toArray 28), sat _ _ h4d rfl rfl, _, _, _, fun w' h => (s0 w' h).1, _, fun w' h => (s0 w' h).2,
      (id_spec K a5 f0.length c5 f0 w4.drew hk (hK.keep0 (back _ _ h4d).chg) hrow (by omega)).mono ?_⟩
    rintro e w5 ⟨rfl, c5'⟩
    have h5 := h4d.same c5'
    have hil : (idF K f0).length = 32 := macF_len _ _
    have han : an = ns.length := by
      have h6 : RdI W1 aa an ac (ns.map (idF K)) := ⟨h1.rd (i := 7) rfl, All32.mapId K ns⟩
      have := h6.num
      simpa using this.symm
    obtain ⟨g6, w6, vb, vd, w7, r6, r7, h7, h6⟩ := h5.pushA (i := 7) (ty := 30) idT rfl (bv (idF K f0)) (by simp [hil]) (by decide) (bv_one _) (by omega) (by simp only [maxLen]; omega)
    obtain ⟨w8, r8, h8⟩ := h7.stL (i := 6) (o := 0) (l := [.slice aa an ac]) (T := 30) (v := .slice vb (an + 1) vd) rfl (idsS _) rfl (by simp) rfl
    have hab : (ns ++ [f0]).map (idF K) = ns.map (idF K) ++ [idF K f0] := by simp
    have h8' : St W1 F w8 (bM1 K z g2 g5 g7 va (on + 1) vc (vs ++ [.slice a5 f0.length c5]) cur g8 lv ++ bM2 g9 vb (an + 1) vd ((ns ++ [f0]).map (idF K)) gs gn xa xn xc ++ (dmarks ds ++ rowsL (vs ++ [.slice a5 f0.length c5]) (out ++ ns ++ [f0]))) := by
      have e : bv ((ns ++ [f0]).map (idF K)).flatten = bv (ns.map (idF K)).flatten ++ bv (idF K f0) := by rw [hab, List.flatten_append, bv_append]; simp
      rw [bM2, e]
      exact h8
    refine ⟨_, rfl, _, fun _ h => h, sat _ _ h5 rfl rfl, _, _, _, _, r6, _, fun _ h => h, sat _ _ h6 rfl rfl, _, _, _, _, r7, _, fun _ h => h, sat _ _ h7 rfl rfl, w8, r8, ?_⟩
    refine ⟨h1.keepsFrom hC (by rw [hF]; exact h8'.chg), ⟨?_, ?_⟩, ?_⟩
    · exact (h8'.holds 8 _ rfl).trans (h1.holds 8 _ rfl).symm
    · exact (h8'.holds 9 _ rfl).trans (h1.holds 9 _ rfl).symm
    · have e1 : (pre ++ [x]).map (fun i => nodeL lv (chunkL ids i)) = ns ++ [f0] := by rw [List.map_append, hns]; simp [hf0]
      refine ⟨va, on + 1, vc, vs ++ [.slice a5 f0.length c5], vb, an + 1, vd, ?_, ?_⟩
      · rw [e1, ← List.append_assoc out]; exact hhd.snoc a5 c5 f0
      · rw [e1, ← List.append_assoc out]; exact back _ _ h8'
  case done =>
    rintro D xs W1 hD rfl ⟨oa, on, oc, vs, aa, an, ac, hhd, h1⟩ hDk
    have e1 : (List.range (numCh xn)).map (fun i => nodeL lv (chunkL ids i)) = levelF lv ids := by rw [levelF, hxi]
    rw [e1] at hhd h1
    refine ⟨oa, on, oc, vs, aa, an, ac, hhd, ?_⟩
    have h2 := h1.addMark hsz (bM_cellish (w := w) (W := W1) (X := []) hcc hmk) hD hDk
    have h3 := St.ins h2
    rw [List.append_assoc] at h3
    exact h3

end Go.Proofs.YtefnlbgkfingfaaDoor
