/- Chapter 15: a Case's identifiers; ManifestBuilds (conditions: the table lies where the program laid it). -/
import Derived.Test.YtefnlbgkfingfaaDoorManiG
namespace Go.Proofs.YtefnlbgkfingfaaDoor
open Go Sx
set_option maxRecDepth 8000

theorem Sx.St.litA0 {w0 w : World} {X : List Nat} {M : List Res} (h : St w0 X w M) {t e sz by_ : Nat} {z : Value} (E : ElemT Tryd.prog t e sz by_ z) :
    ∃ g w', (Instr.buildSlice t 0 #[]).run Tryd.prog w = .ok (.slice (some ⟨g, 0, none⟩) 0 0) w' ∧ St w0 X w' (M ++ [.row e sz (.slice (some ⟨g, 0, none⟩) 0 0) 0 []]) := by
  obtain ⟨inf, hinf, hz, hsz, hby⟩ := E.inf
  have hrow : (w.alloc (.cells #[] e)).ownsRow 0 e sz (.slice (some ⟨w.heap.size, 0, none⟩) 0 0) 0 [] := by
    have := World.ownsRow_lit (base := 0) (e := e) (size := sz) w #[] 0 (Nat.zero_le _) (by simp only [maxLen]; omega) (by simp)
    simpa using this
  refine ⟨w.heap.size, _, ?_, h.add (Chg.alloc _ (.cells #[] e)) hrow (by simp [Res.fp, Value.ownBlock])⟩
  simp [Instr.buildSlice, run_underlying E.ht, sizeOf, typeInfo, hinf, hsz, zeroValue, hz, newRow, Instr.fill]
  rw [show (Array.range 0) = #[] from Array.size_eq_zero_iff.1 (by simp)]
  simp

/-- The cells of a Case. -/
def kaseL (m : List UInt8) (a : Option Addr) (n c : Nat) (x : Int) : List Value := bv m ++ [.slice a n c, .int .i64 x]
def clampZ (x : Int) : Int := if (50 : Int) < (if x < 1 then 1 else x) then 50 else (if x < 1 then 1 else x)
theorem clampZ_rng (x : Int) : 1 ≤ clampZ x ∧ clampZ x ≤ 50 := by unfold clampZ; repeat (first | split | omega)
def idOf (b i : UInt8) : List UInt8 := [b, i] ++ List.replicate 30 0
def rowIds (l : List UInt8) (k : Nat) : Ids := (List.range k).map fun i => idOf (l.getD i 0) (UInt8.ofNat i)
def caseIds (l : List UInt8) (t : Nat) : Ids := (List.replicate t (rowIds l l.length)).flatten
theorem rowIds_succ (l : List UInt8) (k : Nat) : rowIds l (k + 1) = rowIds l k ++ [idOf (l.getD k 0) (UInt8.ofNat k)] := by rw [rowIds, rowIds, List.range_succ, List.map_append]; rfl
theorem rowIds_len (l : List UInt8) (k : Nat) : (rowIds l k).length = k := by simp [rowIds]
theorem rowIds_all (l : List UInt8) (k : Nat) : All32 (rowIds l k) := fun i hi => by
  simp only [rowIds, List.mem_map] at hi
  obtain ⟨j, _, rfl⟩ := hi
  simp [idOf]
theorem All32.app {a b : Ids} (ha : All32 a) (hb : All32 b) : All32 (a ++ b) := fun i hi => (List.mem_append.1 hi).elim (ha i) (hb i)
theorem caseIds_succ (l : List UInt8) (t : Nat) : caseIds l (t + 1) = caseIds l t ++ rowIds l l.length := by rw [caseIds, caseIds, List.replicate_succ', List.flatten_append]; simp
theorem caseIds_all (l : List UInt8) : ∀ t, All32 (caseIds l t)
  | 0 => All32.nil
  | t + 1 => by rw [caseIds_succ]; exact (caseIds_all l t).app (rowIds_all l _)
theorem caseIds_len (l : List UInt8) : ∀ t, (caseIds l t).length = t * l.length
  | 0 => by simp [caseIds]
  | t + 1 => by rw [caseIds_succ, List.length_append, caseIds_len l t, rowIds_len, Nat.succ_mul]

section
variable {m : List UInt8} {a : Option Addr} {n c : Nat} {x : Int} {w0 w : World} {X : List Nat} {M : List Res}
theorem kase_m (hm : m.length = 32) (h : St w0 X w M) {i g : Nat} {T : TypeId} (hi : M[i]? = some (.arr g T (kaseL m a n c x))) : (Instr.loadAt 22 (.pointer (some ⟨g, 0, none⟩))).run Tryd.prog w = .ok (.agg (bv m).toArray) w := by
  have rng := h.cellsA hi
  refine ldRange (fun j v hj => rng j v ?_) (Tryd.isAgg22 _) (Tryd.sizeOf22 _) (by simp [hm])
  rw [kaseL, List.getElem?_append_left (List.getElem?_eq_some_iff.1 hj).1]; exact hj
theorem kase_l (hm : m.length = 32) (h : St w0 X w M) {i g : Nat} {T : TypeId} (hi : M[i]? = some (.arr g T (kaseL m a n c x))) : (Instr.loadAt 23 (.pointer (some ⟨g, 32, none⟩))).run Tryd.prog w = .ok (.slice a n c) w :=
  h.ldL hi (bsA _) rfl (by rw [kaseL, List.getElem?_append_right (by simp [hm])]; simp [hm])
theorem kase_t (hm : m.length = 32) (h : St w0 X w M) {i g : Nat} {T : TypeId} (hi : M[i]? = some (.arr g T (kaseL m a n c x))) : (Instr.loadAt 3 (.pointer (some ⟨g, 33, none⟩))).run Tryd.prog w = .ok (.int .i64 x) w :=
  h.ldL hi (iA _) rfl (by rw [kaseL, List.getElem?_append_right (by simp [hm])]; simp [hm])
theorem kase_a (hm : m.length = 32) (h : St w0 X w M) {i g : Nat} (hi : M[i]? = some (.arr g 25 (kaseL m a n c x))) : (Instr.loadAt 25 (.pointer (some ⟨g, 0, none⟩))).run Tryd.prog w = .ok (.agg (kaseL m a n c x).toArray) w :=
  h.ldA hi (Tryd.isAgg25 _) (Tryd.sizeOf25 _) (by simp [kaseL, hm])
end

theorem klarge_spec (m : List UInt8) (a : Option Addr) (n c : Nat) (x : Int) (w : World) (hm : m.length = 32) (hn : n ≤ 140737488355328) :
    Calls Tryd.prog 9 #[.agg (kaseL m a n c x).toArray] w fun e w' => e = .returned (.bool (decide ((n : Int) * clampZ x > 1500))) ∧ Chg [] w w' := by
  apply amphoralaw15_Case_large_vc
  obtain ⟨g1, w1, r1, h1⟩ := (St.start w).boxA (P := Tryd.prog) 25 (kaseL m a n c x)
  refine ⟨g1, w1, r1, _, _, _, kase_l hm h1 (i := 0) rfl, _, kase_t hm h1 (i := 0) rfl, ?_, h1.chg⟩
  have h1 := clampZ_rng x
  have h2 : (n : Int) * clampZ x ≤ 140737488355328 * 50 := Int.mul_le_mul (by omega) h1.2 (by omega) (by omega)
  have h3 : 0 ≤ (n : Int) * clampZ x := Int.mul_nonneg (by omega) (by omega)
  have : IntKind.wrap .i64 ((n : Int) * clampZ x) = (n : Int) * clampZ x := wrap_i64 (by omega) (by omega)
  rw [← this]
  rfl

theorem idOf_build (b i : UInt8) (w : World) : (Instr.build 33 #[(0, .int .u8 (b.toNat : Int)), (1, .int .u8 (i.toNat : Int))]).run Tryd.prog w = .ok (.agg (bv (idOf b i)).toArray) w := by
  have := build_arr (P := Tryd.prog) (w := w) (T := 33) (idZ w) Tryd.underlying33 (sB1 w) [.int .u8 (b.toNat : Int), .int .u8 (i.toNat : Int)] (by simp [Value.oneCell']) (by simp)
  exact this

theorem kids_spec (m : List UInt8) (a : Option Addr) (n c : Nat) (x : Int) (l : List UInt8) (w : World) (hm : m.length = 32) (hr : RdB w a n c l) (hn : (n : Int) * clampZ x ≤ 1500) :
    Calls Tryd.prog 11 #[.agg (kaseL m a n c x).toArray] w fun e w' => ∃ a' n' c', e = .returned (.slice a' n' c') ∧ RdI w' a' n' c' (caseIds l (clampZ x).toNat) ∧ Chg [] w w' := by
  have hl := hr.lenB
  obtain ⟨hc1, hc2⟩ := clampZ_rng x
  obtain ⟨t, ht⟩ : ∃ t : Nat, clampZ x = (t : Int) := ⟨(clampZ x).toNat, by omega⟩
  have htn : t * n ≤ 1500 := by
    rw [ht, Int.mul_comm] at hn
    exact_mod_cast hn
  have hn1 : n ≤ 1500 := Nat.le_trans (Nat.le_mul_of_pos_left n (by omega)) htn
  apply amphoralaw15_Case_ids_vc
  obtain ⟨g1, w1, r1, h1⟩ := (St.start w).boxA (P := Tryd.prog) 25 (kaseL m a n c x)
  obtain ⟨g6, w2, r2, h2⟩ := h1.litA0 idT
  refine ⟨g1, w1, r1, _, _, _, w2, r2, _, kase_t hm h2 (i := 0) rfl, fun xa xn xc y w' => ∃ j : Nat, y = (j : Int) ∧ j ≤ t ∧ xn = j * n ∧ St w [] w' [.arr g1 25 (kaseL m a n c x), .row 33 32 (.slice xa xn xc) xn (bv (caseIds l j).flatten)], fun _ _ _ y _ => t - y.toNat, ⟨0, rfl, by omega, by simp, h2⟩, ?_⟩
  rintro xa xn xc y w3 ⟨j, rfl, hj, rfl, h3⟩
  refine ⟨fun h => ?_, fun h => ?_⟩
  · have hj' : j < t := by
      have h : decide ((j : Int) < clampZ x) = true := h
      rw [ht] at h; simp at h; omega
    have hjn : (j + 1) * n ≤ 1500 := Nat.le_trans (Nat.mul_le_mul_right n hj') htn
    rw [Nat.succ_mul] at hjn
    refine ⟨_, _, _, kase_l hm h3 (i := 0) rfl, fun ya yn yc z w' => ∃ i : Nat, z = (i : Int) ∧ i ≤ n ∧ yn = j * n + i ∧ St w [] w' [.arr g1 25 (kaseL m a n c x), .row 33 32 (.slice ya yn yc) yn (bv (caseIds l j ++ rowIds l i).flatten)], fun _ _ _ z _ => n - z.toNat, ⟨0, rfl, by omega, by simp, by simpa [rowIds] using h3⟩, ?_⟩
    rintro ya yn yc z w4 ⟨i, rfl, hi, rfl, h4⟩
    refine ⟨fun h => ?_, fun h => ?_⟩
    · have hi' : i < n := by simp at h; omega
      have hrw : RdB w4 a n c l := hr.keep0 h4.chg
      refine ixB (bA _) hrw.cells hl (by omega) (by omega) fun b o hbo => ?_
      rw [lv_byte]
      have hg : l.getD (Int.toNat (i : Int)) 0 = l.getD i 0 := rfl
      rw [hg]
      obtain ⟨g9, w9, vb, vd, w10, r9, r10, h10, _⟩ := h4.pushA (i := 1) (ty := 30) idT rfl (bv (idOf (l.getD i 0) (UInt8.ofNat i))) (by simp [idOf]) (by decide) (bv_one _) (by omega) (by simp only [maxLen]; omega)
      refine ⟨_, idOf_build _ _ _, _, _, _, _, r9, _, _, _, _, r10, ⟨i + 1, wrap_succ hi' (by omega), by omega, by omega, ?_⟩, mu_succ hi' (by omega)⟩
      have e : bv (caseIds l j ++ rowIds l (i + 1)).flatten = bv (caseIds l j ++ rowIds l i).flatten ++ bv (idOf (l.getD i 0) (UInt8.ofNat i)) := by
        rw [rowIds_succ, ← List.append_assoc, List.flatten_append (L₁ := caseIds l j ++ rowIds l i), bv_append]; simp
      rw [e]
      exact h10
    · have hi' : i = n := by simp at h; omega
      subst hi'
      rw [← hl, ← caseIds_succ] at h4
      refine ⟨⟨j + 1, wrap_succ hj' (by omega), by omega, by rw [Nat.succ_mul], ?_⟩, mu_succ hj' (by omega)⟩
      simpa [hl] using h4
  · have hj' : j = t := by
      have h : decide ((j : Int) < clampZ x) = false := h
      rw [ht] at h; simp at h; omega
    refine ⟨_, _, _, rfl, ?_, h3.chg⟩
    rw [ht, Int.toNat_natCast, ← hj']
    exact ⟨h3.rd (i := 1) rfl, caseIds_all l j⟩

theorem levelF_flat (lv : Nat) (ids : Ids) (h : All32 ids) (hn : ids.length ≤ 65536) : (levelF lv ids).flatten.length ≤ 522 * numCh ids.length := by
  have key : ∀ k, ((List.range k).map fun i => nodeL lv (chunkL ids i)).flatten.length ≤ 522 * k := by
    intro k
    induction k with
    | zero => simp
    | succ k ih =>
      rw [List.range_succ, List.map_append, List.flatten_append, List.length_append]
      have h1 := nodeL_len lv (chunkL ids k) (h.chunk k) (by rw [chunk_len]; omega)
      have h2 := chunk_len ids k
      simp only [List.map_cons, List.map_nil, List.flatten_cons, List.flatten_nil, List.append_nil]
      omega
  exact key _

theorem buildF_flat (K : List UInt8) : ∀ (f lv : Nat) (ids : Ids) (out : List (List UInt8)), All32 ids → ids.length ≤ 65536 → (buildF K f lv ids out).1.flatten.length ≤ out.flatten.length + 3000000 * f
  | 0, _, _, _, _, _ => by simp [buildF]
  | f + 1, lv, ids, out, ha, hn => by
    by_cases h0 : ids = []
    · subst h0
      rw [buildF_nil]
      have := nodeL_len lv [] All32.nil (by simp)
      simp only [List.length_nil, Nat.mul_zero] at this
      simp only [List.flatten_cons, List.flatten_nil, List.append_nil]
      omega
    · have hl := levelF_flat lv ids ha hn
      have hc : numCh ids.length ≤ 4097 := by rw [numCh]; omega
      by_cases h1 : (levelF lv ids).length = 1
      · rw [buildF_one h0 h1]
        simp only [List.flatten_append, List.length_append]
        omega
      · rw [buildF_more h0 h1]
        have := buildF_flat K f (lv + 1) ((levelF lv ids).map (idF K)) (out ++ levelF lv ids) (All32.mapId K _) (by rw [List.length_map, levelF_len]; omega)
        rw [List.flatten_append, List.length_append] at this
        omega

theorem buildF_len (K : List UInt8) : ∀ (f lv : Nat) (ids : Ids) (out : List (List UInt8)), ids.length ≤ 65536 → (buildF K f lv ids out).1.length ≤ out.length + 4097 * f
  | 0, _, _, _, _ => by simp [buildF]
  | f + 1, lv, ids, out, hn => by
    by_cases h0 : ids = []
    · subst h0
      rw [buildF_nil]
      simp only [List.length_cons, List.length_nil]
      omega
    · have hl := levelF_len lv ids
      have hc : numCh ids.length ≤ 4097 := by rw [numCh]; omega
      by_cases h1 : (levelF lv ids).length = 1
      · rw [buildF_one h0 h1]
        simp only [List.length_append]
        omega
      · rw [buildF_more h0 h1]
        have := buildF_len K f (lv + 1) ((levelF lv ids).map (idF K)) (out ++ levelF lv ids) (by rw [List.length_map, levelF_len]; omega)
        rw [List.length_append] at this
        omega

theorem buildF_root (K : List UInt8) : ∀ (f lv : Nat) (ids : Ids) (out : List (List UInt8)), ids.length ≤ capF f → (buildF K (f + 1) lv ids out).2.length = 32
  | f, lv, ids, out, hc => by
    by_cases h0 : ids = []
    · subst h0; rw [buildF_nil]; exact macF_len _ _
    · have hl := levelF_len lv ids
      by_cases h1 : (levelF lv ids).length = 1
      · rw [buildF_one h0 h1]; exact macF_len _ _
      · rw [buildF_more h0 h1]
        have : 0 < ids.length := List.length_pos_iff.2 h0
        cases f with
        | zero => exfalso; simp only [capF] at hc; rw [numCh] at hl; omega
        | succ f => exact buildF_root K f (lv + 1) _ _ (by rw [List.length_map, hl, numCh]; simp only [capF] at hc; omega)

set_option maxHeartbeats 1000000 in
theorem manifestBuilds_walk (m : List UInt8) (a : Option Addr) (n c : Nat) (x : Int) (l : List UInt8) (w : World) (hK : KTab w) (hm : m.length = 32) (hr : RdB w a n c l) (hn : n ≤ 140737488355328) :
    Calls Tryd.prog 3 #[.agg (kaseL m a n c x).toArray] w fun e w' => e = .returned (.bool true) ∧ Chg [] w w' := by
  have hl := hr.lenB
  apply amphoralaw15_ManifestBuilds_vc
  obtain ⟨g1, w1, r1, h1⟩ := (St.start w).boxA (P := Tryd.prog) 25 (kaseL m a n c x)
  refine ⟨g1, w1, r1, (alive15_spec w1 (hK.keep0 h1.chg)).mono ?_⟩
  rintro e w2 ⟨rfl, c2⟩
  have h2 := h1.same c2
  refine ⟨_, rfl, fun h => by simp at h, fun _ => ⟨_, kase_a hm h2 (i := 0) rfl, (klarge_spec m a n c x w2 hm hn).mono ?_⟩⟩
  rintro e w3 ⟨rfl, c3⟩
  have h3 := h2.same c3
  refine ⟨_, rfl, fun _ => ⟨rfl, h3.chg⟩, fun hs => ?_⟩
  have hsm : (n : Int) * clampZ x ≤ 1500 := by simpa using hs
  refine ⟨_, kase_m hm h3 (i := 0) rfl, (rfromMaster_spec m w3 hm).mono ?_⟩
  rintro e w4 ⟨rfl, c4⟩
  obtain ⟨K, hKK⟩ : ∃ K, masterF m = K := ⟨_, rfl⟩
  have hk : K.length = 96 := by rw [← hKK]; simp
  rw [hKK]
  obtain ⟨g3, w5, r5, h5⟩ := (h3.same c4).zeroA kyZ
  obtain ⟨w6, r6, h6⟩ := h5.stA (i := 1) (v := bv K) rfl (kyS _) (by simp) (by simp [hk]) (bv_one _)
  obtain ⟨ids, hids⟩ : ∃ ids, caseIds l (clampZ x).toNat = ids := ⟨_, rfl⟩
  have hil : ids.length ≤ 1500 := by
    obtain ⟨hc1, hc2⟩ := clampZ_rng x
    rw [← hids, caseIds_len, hl]
    have : (((clampZ x).toNat * n : Nat) : Int) ≤ 1500 := by rw [Int.natCast_mul, Int.toNat_of_nonneg (by omega), Int.mul_comm]; exact hsm
    omega
  have IDS : ∀ w', Chg [] w w' → Calls Tryd.prog 11 #[.agg (kaseL m a n c x).toArray] w' fun e w'' => ∃ a' n' c', e = .returned (.slice a' n' c') ∧ RdI w'' a' n' c' ids ∧ Chg [] w' w'' := fun w' hc => by
    rw [← hids]; exact kids_spec m a n c x l w' hm (hr.keep0 hc) hsm
  refine ⟨_, rfl, g3, w5, r5, w6, r6, _, kase_a hm h6 (i := 0) rfl, (IDS w6 h6.chg).mono ?_⟩
  rintro e w7 ⟨ia, im, ic, rfl, hri, c7⟩
  have h7 := h6.same c7
  have him := hri.num
  refine ⟨_, _, _, rfl, _, h7.ldA (i := 1) (l := bv K) rfl (kyA _) (kyS _) (by simp [hk]), (build_spec K ia im ic ids w7 hk (hK.keep0 h7.chg) hri (by omega)).mono ?_⟩
  rintro e w8 ⟨ga, gn, gc, gv, rfl, hO⟩
  have h8 := h7.same hO.st.chg
  have hri8 := hri.keep0 hO.st.chg
  have hfl := buildF_flat K 5 0 ids [] hri.all (by omega)
  have hnl := buildF_len K 5 0 ids [] (by omega)
  have hrl := buildF_root K 4 0 ids [] (by simp only [capF]; omega)
  obtain ⟨nodes, hnodes⟩ : ∃ q, (buildF K 5 0 ids []).1 = q := ⟨_, rfl⟩
  obtain ⟨root, hroot⟩ : ∃ q, (buildF K 5 0 ids []).2 = q := ⟨_, rfl⟩
  rw [hnodes] at hO hfl hnl
  rw [hroot] at hrl ⊢
  have hgn := hO.num
  simp only [List.length_nil, List.flatten_nil] at hfl hnl
  obtain ⟨g6, w9, r9, h9⟩ := (St.start w8).zeroA idZ
  obtain ⟨w10, r10, h10⟩ := h9.stA (i := 0) (v := bv root) rfl (idS _) (by simp) (by simp [hrl]) (bv_one _)
  have c10 : Chg [] w8 w10.drew := h10.drew.chg
  have H : ∀ w', Chg [] w10.drew w' → St w [] w' [.arr g1 25 (kaseL m a n c x), .arr g3 28 (bv K)] := fun w' hc => h8.same (c10.trans hc)
  have RB : ∀ w' a' n' c', RdI w' a' n' c' ids → Calls Tryd.prog 13 #[.agg (bv K).toArray, .slice a' n' c'] w' fun e w'' => ∃ a n c vs, e = .returned (.tuple #[.slice a n c, .agg (bv root).toArray, .int .i64 0]) ∧ OwnL w' w'' a n c vs nodes := fun w' a' n' c' h => by
    have h1 := h.num
    have := rbuild_spec K a' n' c' ids w' hk h (by omega)
    rw [hnodes, hroot] at this
    exact this
  have JJ : ∀ (w' : World) (g : Nat) (a' : Option Addr) (n' c' : Nat) (us : List Value), HdOk us nodes → St w10.drew [] w' (.arr g 33 (bv (List.replicate 32 0)) :: .row 23 1 (.slice a' n' c') n' us :: rowsL us nodes) → ∃ w'', (Instr.storeAt 33 (.pointer (some ⟨g, 0, none⟩)) (.agg (bv root).toArray)).run Tryd.prog w' = .ok () w'' ∧
      St w10.drew [] w'' (.arr g 33 (bv root) :: .row 23 1 (.slice a' n' c') n' us :: rowsL us nodes) := fun w' g a' n' c' us _ h => by
    obtain ⟨w'', r, h'⟩ := h.stA (i := 0) (v := bv root) rfl (idS _) (by simp) (by simp [hrl]) (bv_one _)
    exact ⟨w'', r, h'⟩
  have hz := Chg.refl [] w10.drew
  refine ⟨_, _, _, _, _, rfl, g6, w9, r9, w10, r10, fun a' n' c' xb xo y w' => xo = 0 ∧ y = 0 ∧ ∃ us, HdOk us nodes ∧ St w10.drew [] w' (.arr xb 33 (bv root) :: .row 23 1 (.slice a' n' c') n' us :: rowsL us nodes),
    ⟨fun w' => Chg [] w10.drew w', hz, _, fun w' h => (H w' h).ldA (i := 1) (l := bv K) rfl (kyA _) (kyS _) (by simp [hk]), _, fun w' h => kase_a hm (H w' h) (i := 0) rfl, (IDS _ (H _ hz).chg).mono ?o1, ?o2⟩, ?rest⟩
  case o1 =>
    rintro e w11 ⟨ja, jn, jc, rfl, hrj, c11⟩
    refine ⟨_, _, _, rfl, _, fun _ h => h, c11, (RB w11 ja jn jc hrj).mono ?_, ?_⟩
    · rintro e w12 ⟨a', n', c', us, rfl, hU⟩
      have h12 : St w10.drew [] w12 (.row 23 1 (.slice a' n' c') n' us :: rowsL us nodes) := St.callPart (M := []) (N := []) ((St.start w10.drew).same c11) hU.st
      obtain ⟨g9, w13, r13, h13⟩ := h12.zeroA idZ
      have h13' := h13.perm (List.perm_append_singleton _ _)
      obtain ⟨w14, r14, h14⟩ := JJ w13 g9 a' n' c' us ⟨hU.len, hU.hd⟩ h13'
      exact ⟨_, _, _, _, _, rfl, _, fun _ h => h, h12.chg, g9, w13, r13, _, fun _ h => h, h13.chg, w14, r14, rfl, rfl, us, ⟨hU.len, hU.hd⟩, h14⟩
    · obtain ⟨g9, w13, r13, h13⟩ := ((St.start w10.drew).same c11).zeroA idZ
      obtain ⟨g9', w13', r13', h13'⟩ := (St.start w11).zeroA (P := Tryd.prog) idZ
      have hw := r13.symm.trans r13'
      simp only [Result.ok.injEq] at hw
      have c13 : Chg [] w11 w13 := by rw [hw.2]; exact h13'.chg
      refine ⟨g9, w13, r13, _, fun _ h => h, h13.chg, (RB w13 ja jn jc (hrj.keep0 c13)).mono ?_⟩
      rintro e w12 ⟨a', n', c', us, rfl, hU⟩
      have h12 := St.callPart (N := []) (by rw [List.append_nil]; exact h13) hU.st
      obtain ⟨w14, r14, h14⟩ := JJ w12 g9 a' n' c' us ⟨hU.len, hU.hd⟩ h12
      exact ⟨_, _, _, _, _, rfl, _, fun _ h => h, h12.chg, w14, r14, rfl, rfl, us, ⟨hU.len, hU.hd⟩, h14⟩
  case o2 =>
    obtain ⟨g9, w13, r13, h13⟩ := (St.start w10.drew).zeroA (P := Tryd.prog) idZ
    refine ⟨g9, w13, r13, _, fun _ h => h, h13.chg, (IDS _ (H _ h13.chg).chg).mono ?_⟩
    rintro e w11 ⟨ja, jn, jc, rfl, hrj, c11⟩
    have h11 := h13.same c11
    refine ⟨_, _, _, rfl, _, fun _ h => h, h11.chg, (RB w11 ja jn jc hrj).mono ?_⟩
    rintro e w12 ⟨a', n', c', us, rfl, hU⟩
    have h12 := St.callPart (N := []) (by rw [List.append_nil]; exact h11) hU.st
    obtain ⟨w14, r14, h14⟩ := JJ w12 g9 a' n' c' us ⟨hU.len, hU.hd⟩ h12
    exact ⟨_, _, _, _, _, rfl, _, fun _ h => h, h12.chg, w14, r14, rfl, rfl, us, ⟨hU.len, hU.hd⟩, h14⟩
  case rest =>
    rintro a' n' c' xb xo y w22 ⟨rfl, rfl, us, hus, h22⟩
    have c22 := h22.chg
    have hO22 := hO.same (c10.trans c22)
    have hU22 : OwnL w10.drew w22 a' n' c' us nodes := ⟨h22.tail, hus.1, hus.2⟩
    refine (same_spec _ _ _ gv _ _ _ us nodes w22 hO22.rd hO22.row2 hU22.rd hU22.row2 (by omega)).mono ?_
    rintro e w23 ⟨rfl, c23⟩
    have d23 := c22.trans c23
    refine ⟨_, rfl, fun _ => ⟨_, (h10.same ((Chg.drew [] w10).trans d23)).ldA (i := 0) (l := bv root) rfl (idA _) (idS _) (by simp [hrl]), _, (h22.same c23).ldA (i := 0) (l := bv root) rfl (idA _) (idS _) (by simp [hrl]), _, eqId _ _ root hrl w23, fun _ => (num_spec none w23 (by simp)).mono ?_, fun h => by simp at h⟩, fun h => by simp at h⟩
    rintro e w24 ⟨rfl, rfl⟩
    refine ⟨_, rfl, fun _ => ⟨_, kase_a hm (H _ d23) (i := 0) rfl, (IDS _ (H _ d23).chg).mono ?_⟩, fun h => by simp at h⟩
    rintro e w25 ⟨ka, kn, kc, rfl, hrk, c25⟩
    have d25 := d23.trans c25
    refine ⟨_, _, _, rfl, (rsame_spec _ _ _ ids _ _ _ ids w25 (hri8.keep0 (c10.trans d25)) hrk (by omega)).mono ?_⟩
    rintro e w26 ⟨rfl, c26⟩
    have d26 := d25.trans c26
    refine ⟨_, rfl, fun _ => (apartL (hO.same (c10.trans d26)) (by omega) (by omega)).mono ?_, fun h => by simp at h⟩
    rintro e w27 ⟨rfl, c27⟩
    exact ⟨_, rfl, rfl, h7.chg.trans c27⟩

end Go.Proofs.YtefnlbgkfingfaaDoor
