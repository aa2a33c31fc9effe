/- A fixed fact of chapter 15; how many nodes and levels lists have: manifest.Count, ManifestCounts (conditions: the table lies where the program laid it). -/
import Derived.Test.YtefnlbgkfingfaaDoorManiD
import Derived.Test.YtefnlbgkfingfaaDoorSealH
import Derived.Test.YtefnlbgkfingfaaDoorEqG
import Derived.Test.YtefnlbgkfingfaaDoorVlaw15
namespace Go.Proofs.YtefnlbgkfingfaaDoor
open Go Sx
set_option maxRecDepth 8000

def ids17 : Ids := List.replicate 17 (List.replicate 32 0)
theorem ids17_flat : ids17.flatten = List.replicate 544 0 := by kernel_rfl
theorem ids17_all : All32 ids17 := fun i hi => by rw [ids17] at hi; rw [List.eq_of_mem_replicate hi]; simp
theorem made17 : (madeCells (bv (List.replicate 32 0)).toArray 544).toList = bv (List.replicate 544 0) := by kernel_rfl

theorem mk17 {w0 w : World} {X : List Nat} {M : List Res} (h : St w0 X w M) : ∃ g w', (Instr.makeSlice 30 (.int .i64 17) (.int .i64 17)).run Tryd.prog w = .ok (.slice (some ⟨g, 0, none⟩) 17 17) w' ∧ St w0 X w' (M ++ [.row 33 32 (.slice (some ⟨g, 0, none⟩) 17 17) 17 (bv ids17.flatten)]) := by
  obtain ⟨inf, hinf, hz, hsz, hby⟩ := (idT).inf
  have hr := run_make (P := Tryd.prog) w 30 33 inf _ (idT).ht hinf hz .i64 .i64 17 17 (by decide) (by decide) (by rw [hby]; decide) (by decide)
  refine ⟨_, _, hr, h.add (Chg.alloc _ _) ?_ (by simp [Res.fp, Value.ownBlock])⟩
  rw [hsz]
  have := World.ownsRow_lit (base := 0) (e := 33) (size := 32) w (madeCells (bv (List.replicate 32 0)).toArray 544) 17 (Nat.zero_le _) (by decide) (by rw [← Array.length_toList, made17]; simp)
  rw [made17, ← ids17_flat] at this
  exact this

theorem build17 (K : List UInt8) : (buildF K 5 0 ids17 []).1.length = 3 := by
  have h0 : ids17 ≠ [] := by decide
  have l0 : (levelF 0 ids17).length = 2 := by rw [levelF_len]; rfl
  rw [buildF_more h0 (by rw [l0]; decide)]
  have l1 : (levelF 1 ((levelF 0 ids17).map (idF K))).length = 1 := by rw [levelF_len, List.length_map, l0]; rfl
  have h1 : (levelF 0 ids17).map (idF K) ≠ [] := fun e => by have := congrArg List.length e; rw [List.length_map, l0] at this; cases this
  rw [buildF_one h1 l1]
  simp only [List.nil_append, List.length_append]
  rw [l0, l1]

theorem node0 : nodeL 0 [] = [0, 0] := by kernel_rfl

def mas1 : List UInt8 := [1, 0, 0, 0, 0, 0, 0, 0, 0, 0, 0, 0, 0, 0, 0, 0, 0, 0, 0, 0, 0, 0, 0, 0, 0, 0, 0, 0, 0, 0, 0, 0]
theorem build_mas1 (w : World) : (Instr.build 22 #[(0, .int .u8 1)]).run Tryd.prog w = .ok (.agg (bv mas1).toArray) w := by
  have := build_arr (P := Tryd.prog) (w := w) (T := 22) (d32Z w) Tryd.underlying22 (sB1 w) [.int .u8 1] (by simp [Value.oneCell']) (by simp)
  exact this

theorem eqId (x y : Operand) (l : List UInt8) (hl : l.length = 32) (w : World) : (eqlS .eql 33 x y (.agg (bv l).toArray) (.agg (bv l).toArray)).run Tryd.prog w = .ok (.bool true) w := by
  rw [bv_ints]
  exact eqlS_arr (P := Tryd.prog) (T := 33) Tryd.underlying33 bE sB1 (fun w => Tryd.isAgg5 w) (by kernel_rfl) x y _ (by simp [hl]) w

theorem alive15_spec (w : World) (hK : KTab w) : Calls Tryd.prog 8 #[] w fun e w' => e = .returned (.bool true) ∧ Chg [] w w' := by
  apply amphoralaw15_alive_vc
  obtain ⟨mI, hI⟩ := eI
  refine ⟨_, build_mas1 w, (rfromMaster_spec mas1 w (by decide)).mono ?_⟩
  rintro e w1 ⟨rfl, c1⟩
  obtain ⟨K, hKK⟩ : ∃ K, masterF mas1 = K := ⟨_, rfl⟩
  have hk : K.length = 96 := by rw [← hKK]; simp
  rw [hKK]
  obtain ⟨g2, w2, r2, h2⟩ := ((St.start w).same c1).zeroA kyZ
  obtain ⟨w3, r3, h3⟩ := h2.stA (i := 0) (v := bv K) rfl (kyS _) (by simp) (by simp [hk]) (bv_one _)
  have h3d := h3.drew
  have hz := Chg.refl [] w3.drew
  have ld : ∀ w', Chg [] w3.drew w' → (Instr.loadAt 28 (.pointer (some ⟨g2, 0, none⟩))).run Tryd.prog w' = .ok (.agg (bv K).toArray) w' := fun w' hc => (h3d.same hc).ldA (i := 0) (l := bv K) rfl (kyA _) (kyS _) (by simp [hk])
  have kK : ∀ w', Chg [] w3.drew w' → KTab w' := fun w' h => hK.keep0 (h3d.chg.trans h)
  have hb17 := build17 K
  have B17 : ∀ w' g, Chg [] w3.drew w' → RdI w' (some ⟨g, 0, none⟩) 17 17 ids17 → Calls Tryd.prog 12 #[.agg (bv K).toArray, .slice (some ⟨g, 0, none⟩) 17 17] w' fun e w'' => ∃ a c rt, e = .returned (.tuple #[.slice a 3 c, .agg (bv rt).toArray, errV none]) ∧ rt.length = 32 ∧ Chg [] w' w'' := fun w' g hc hr => by
    refine (build_spec K _ 17 17 ids17 w' hk (kK _ hc) hr (by omega)).mono ?_
    rintro e w'' ⟨a, n, c, vs, rfl, ho⟩
    have hn := ho.num
    rw [hb17] at hn
    subst hn
    refine ⟨a, c, (buildF K 5 0 ids17 []).2, rfl, ?_, ho.st.chg⟩
    have h0 : ids17 ≠ [] := by decide
    have l0 : (levelF 0 ids17).length = 2 := by rw [levelF_len]; rfl
    rw [buildF_more h0 (by rw [l0]; decide)]
    have l1 : (levelF 1 ((levelF 0 ids17).map (idF K))).length = 1 := by rw [levelF_len, List.length_map, l0]; rfl
    have h1 : (levelF 0 ids17).map (idF K) ≠ [] := fun e => by have := congrArg List.length e; rw [List.length_map, l0] at this; cases this
    rw [buildF_one h1 l1]
    exact macF_len _ _
  have mk : ∀ w', Chg [] w3.drew w' → ∃ g w'', (Instr.makeSlice 30 (.int .i64 17) (.int .i64 17)).run Tryd.prog w' = .ok (.slice (some ⟨g, 0, none⟩) 17 17) w'' ∧ Chg [] w' w'' ∧ RdI w'' (some ⟨g, 0, none⟩) 17 17 ids17 := fun w' _ => by
    obtain ⟨g, w'', r, h⟩ := mk17 (St.start w')
    exact ⟨g, w'', r, h.chg, h.rd (i := 0) rfl, ids17_all⟩
  have fin : ∀ w' g rt, Chg [] w3.drew w' → rt.length = 32 → St w3.drew [] w' [.arr g 33 (bv (List.replicate 32 0))] → ∃ w'', (Instr.storeAt 33 (.pointer (some ⟨g, 0, none⟩)) (.agg (bv rt).toArray)).run Tryd.prog w' = .ok () w'' ∧ Chg [] w3.drew w'' := fun w' g rt hc hl h => by
    obtain ⟨w'', r, h'⟩ := h.stA (i := 0) (v := bv rt) rfl (idS _) (by simp) (by simp [hl]) (bv_one _)
    exact ⟨w'', r, h'.chg⟩
  refine ⟨_, rfl, g2, w2, r2, w3, r3, fun a n c v w' => n = 3 ∧ v = errV none ∧ Chg [] w3.drew w', ⟨fun w' => Chg [] w3.drew w', hz, _, ld, ?o1, ?o2⟩, ?rest⟩
  case o1 =>
    obtain ⟨g4, w4, r4, c4, q4⟩ := mk _ hz
    refine ⟨_, _, _, _, r4, fun w' => Chg [] w3.drew w', fun _ h => h, c4, (B17 w4 g4 c4 q4).mono ?_, ?_⟩
    · rintro e w5 ⟨a, c, rt, rfl, hrt, c5⟩
      have d5 := c4.trans c5
      obtain ⟨g6, w6, r6, h6⟩ := ((St.start w3.drew).same d5).zeroA idZ
      obtain ⟨w7, r7, c7⟩ := fin w6 g6 rt h6.chg hrt h6
      exact ⟨_, _, _, _, _, rfl, fun w' => Chg [] w3.drew w', fun _ h => h, d5, g6, w6, r6, fun w' => Chg [] w3.drew w', fun _ h => h, h6.chg, w7, r7, rfl, rfl, c7⟩
    · obtain ⟨g6, w6, r6, h6, c6⟩ := ((St.start w3.drew).same c4).zeroAC idZ
      refine ⟨g6, w6, r6, fun w' => Chg [] w3.drew w', fun _ h => h, h6.chg, (B17 w6 g4 h6.chg (q4.keep0 c6)).mono ?_⟩
      rintro e w5 ⟨a, c, rt, rfl, hrt, c5⟩
      have d5 := h6.chg.trans c5
      obtain ⟨w7, r7, c7⟩ := fin w5 g6 rt d5 hrt (h6.same c5)
      exact ⟨_, _, _, _, _, rfl, fun w' => Chg [] w3.drew w', fun _ h => h, d5, w7, r7, rfl, rfl, c7⟩
  case o2 =>
    obtain ⟨g6, w6, r6, h6⟩ := (St.start w3.drew).zeroA idZ
    obtain ⟨g4, w4, r4, c4, q4⟩ := mk w6 h6.chg
    have d4 := h6.chg.trans c4
    refine ⟨g6, w6, r6, fun w' => Chg [] w3.drew w', fun _ h => h, h6.chg, _, _, _, _, r4, fun w' => Chg [] w3.drew w', fun _ h => h, d4, (B17 w4 g4 d4 q4).mono ?_⟩
    rintro e w5 ⟨a, c, rt, rfl, hrt, c5⟩
    have d5 := d4.trans c5
    obtain ⟨w7, r7, c7⟩ := fin w5 g6 rt d5 hrt (h6.same (c4.trans c5))
    exact ⟨_, _, _, _, _, rfl, fun w' => Chg [] w3.drew w', fun _ h => h, d5, w7, r7, rfl, rfl, c7⟩
  case rest =>
    rintro xa xn xc v w15 ⟨rfl, rfl, c15⟩
    refine ⟨_, ld _ c15, (build_spec K none 0 0 [] w15 hk (kK _ c15) (RdI.nil _) (by omega)).mono ?_⟩
    rintro e w16 ⟨a, n, c, vs, rfl, ho⟩
    rw [buildF_nil] at ho ⊢
    rw [node0] at ho ⊢
    have hn : n = 1 := by have := ho.num; simpa using this.symm
    subst hn
    have d16 := c15.trans ho.st.chg
    obtain ⟨g17, w17, r17, h17⟩ := (St.start w16).zeroA idZ
    obtain ⟨w18, r18, h18⟩ := h17.stA (i := 0) (v := bv (idF K [0, 0])) rfl (idS _) (by simp) (by simp [idF]) (bv_one _)
    have h18d := h18.drew
    have d18 := d16.trans h18d.chg
    have o18 := ho.same h18d.chg
    obtain ⟨b, o, a', n', c', hab, _, hrd, q⟩ := ixS (i := 0) o18.rd.cells o18.row2 (by simp)
    have hz18 := Chg.refl [] w18.drew
    obtain ⟨g19, w19, r19, h19⟩ := (St.start w18.drew).lit bT [.int .u8 ((0 : UInt8).toNat : Int), .int .u8 ((0 : UInt8).toNat : Int)] (by simp [Value.oneCell']) (by simp)
    have h19 : St w18.drew [] w19 [.row 5 1 (.slice (some ⟨g19, 0, none⟩) 2 2) 2 (bv [0, 0])] := h19
    have hl0 : (([[0, 0]] : List (List UInt8)).getD 0 []) = [0, 0] := rfl
    rw [hl0] at hrd
    refine ⟨_, _, _, _, _, rfl, g17, w17, r17, w18, r18, fun w' => Chg [] w18.drew w', hz18, _, fun w' _ => eqlS_nil hI none _ _, fun _ => ⟨_, fun w' _ => eqlS_nil hI none _ _, fun _ => ⟨fun _ => ⟨fun _ => ⟨b, o, hab, by omega, by omega, _, _, _, fun w' h => q w' (o18.rd.cells.keep0 h), _, fun w' h => toStr bS bE sS (hrd.cells.keep0 h) hrd.lenB,
      fun _ => ⟨_, fun w' h => (h18d.same h).ldA (i := 0) (l := bv (idF K [0, 0])) rfl (idA _) (idS _) (by simp [idF]), _, fun w' h => ld w' (d18.trans h), _, _, _, _, r19, fun w' => Chg [] w18.drew w', fun _ h => h, h19.chg, (rid_spec K _ 2 2 [0, 0] w19 hk (h19.rd (i := 0) rfl) (by omega)).mono ?_⟩, fun h => by simp at h⟩, fun h => by simp at h⟩, fun h => by simp at h⟩, fun h => by simp at h⟩, fun h => by simp at h⟩
    rintro e w20 ⟨rfl, c20⟩
    exact ⟨_, rfl, fun w' => Chg [] w18.drew w', fun _ h => h, h19.chg.trans c20, _, fun w' _ => eqId _ _ _ (by simp [idF]) w', rfl, h3.chg.trans ((Chg.drew [] w3).trans (d18.trans (h19.chg.trans c20)))⟩

def TF : Nat → Nat → Nat × Nat
  | 0, _ => (1, 0)
  | f + 1, q => if q ≤ 1 then (1, 0) else (q + (TF f ((q + 15) / 16)).1, (TF f ((q + 15) / 16)).2 + 1)
theorem TF_one (f : Nat) {q : Nat} (h : q ≤ 1) : TF f q = (1, 0) := by
  cases f with
  | zero => rfl
  | succ f => rw [TF, if_pos h]

theorem wrap_q (m : Nat) (h : m ≤ 1000000) : IntKind.wrap .i64 (Int.tdiv (IntKind.wrap .i64 ((IntKind.wrap .i64 ((m : Int) + 16)) - 1)) 16) = (((m + 15) / 16 : Nat) : Int) := by
  rw [wrap_i64 (n := (m : Int) + 16) (by omega) (by omega), wrap_i64 (n := (m : Int) + 16 - 1) (by omega) (by omega), Int.tdiv_eq_ediv_of_nonneg (by omega), wrap_i64 (by omega) (by omega)]
  omega

theorem wrap_q2 (m : Nat) (h : m ≤ 1000000) : IntKind.wrap .i64 (Int.tdiv (IntKind.wrap .i64 ((m : Int) + 15)) 16) = (((m + 15) / 16 : Nat) : Int) := by
  rw [wrap_i64 (n := (m : Int) + 15) (by omega) (by omega), Int.tdiv_eq_ediv_of_nonneg (by omega), wrap_i64 (by omega) (by omega)]
  omega

def cntF (n : Nat) : Nat × Nat := ((TF 4 ((n + 15) / 16)).1, (TF 4 ((n + 15) / 16)).2 + 1)

theorem count_spec (x : Int) (w : World) : Calls Tryd.prog 18 #[.int .i64 x] w fun e w' => w' = w ∧
    (((x < 0 ∨ 65536 < x) ∧ e = .returned (.tuple #[.int .i64 0, .int .i64 0])) ∨ (∃ n : Nat, x = (n : Int) ∧ n ≤ 65536 ∧ e = .returned (.tuple #[.int .i64 ((cntF n).1 : Int), .int .i64 ((cntF n).2 : Int)]))) := by
  apply manifest_Count_vc
  refine ⟨fun h => ⟨rfl, .inl ⟨by simp at h; omega, rfl⟩⟩, fun h => ?_⟩
  have hx : 0 ≤ x ∧ x ≤ 65536 := by simp at h; omega
  obtain ⟨n, rfl⟩ := Int.eq_ofNat_of_zero_le hx.1
  clear h
  refine ⟨fun x0 x4 x5 w' => w' = w ∧ ∃ f m a b : Nat, x0 = (m : Int) ∧ x4 = (a : Int) ∧ x5 = (b : Int) ∧ 1 ≤ m ∧ m ≤ 65536 ∧ (m + 15) / 16 ≤ capF f ∧ b + f = 4 ∧ a ≤ 65536 * b ∧ a + (TF f ((m + 15) / 16)).1 = (cntF n).1 ∧ b + (TF f ((m + 15) / 16)).2 + 1 = (cntF n).2, fun x0 _ _ _ => x0.toNat, ⟨rfl, 4, max n 1, 0, 0, ?_, rfl, rfl, by omega, by omega, ?_, rfl, by omega, ?_, ?_⟩, ?_⟩
  · split <;> omega
  · simp only [capF]; omega
  · rw [cntF]
    by_cases h0 : n = 0
    · subst h0; rfl
    · rw [Nat.max_eq_left (by omega)]; simp
  · rw [cntF]
    by_cases h0 : n = 0
    · subst h0; rfl
    · rw [Nat.max_eq_left (by omega)]; simp
  rintro x0 x4 x5 w1 ⟨rfl, f, m, a, b, rfl, rfl, rfl, hm1, hm, hcap, hbf, ha, e1, e2⟩
  rw [wrap_q m (by omega)]
  obtain ⟨q, hq⟩ : ∃ q, (m + 15) / 16 = q := ⟨_, rfl⟩
  rw [hq] at hcap e1 e2 ⊢
  have wa : IntKind.wrap .i64 ((a : Int) + (q : Int)) = ((a + q : Nat) : Int) := by rw [wrap_i64 (by omega) (by omega)]; rfl
  have wb : IntKind.wrap .i64 ((b : Int) + 1) = ((b + 1 : Nat) : Int) := by rw [wrap_i64 (by omega) (by omega)]; rfl
  rw [wa, wb]
  refine ⟨fun h => ?_, fun h => ?_⟩
  · have h1 : q = 1 := by simp at h; omega
    rw [h1, TF_one f (by omega)] at e1 e2
    exact ⟨rfl, .inr ⟨n, rfl, by omega, by rw [← e1, ← e2, h1]; rfl⟩⟩
  · have h1 : 2 ≤ q := by simp at h; omega
    cases f with
    | zero => simp only [capF] at hcap; omega
    | succ f =>
      rw [TF, if_neg (by omega)] at e1 e2
      refine ⟨⟨rfl, f, q, a + q, b + 1, rfl, rfl, rfl, by omega, by omega, ?_, by omega, by omega, by simp only at e1; omega, by simp only at e2; omega⟩, ?_⟩
      · simp only [capF] at hcap; omega
      · simp only [Int.toNat_natCast]; omega

theorem manifestCounts_walk (x : Int) (w : World) (hK : KTab w) (hx : -9223372036854775808 ≤ x ∧ x ≤ 9223372036854775807) : Calls Tryd.prog 4 #[.int .i64 x] w fun e w' => e = .returned (.bool true) ∧ Chg [] w w' := by
  apply amphoralaw15_ManifestCounts_vc
  refine (alive15_spec w hK).mono ?_
  rintro e w1 ⟨rfl, c1⟩
  refine ⟨_, rfl, fun h => by simp at h, fun _ => (count_spec x w1).mono ?_⟩
  rintro e w2 ⟨rfl, (⟨h, rfl⟩ | ⟨n, rfl, hn, rfl⟩)⟩
  · exact ⟨_, _, rfl, fun _ => ⟨rfl, c1⟩, fun h' => by simp at h'; omega⟩
  · refine ⟨_, _, rfl, fun h' => by simp at h'; omega, fun _ => ⟨fun x5 x6 x7 w' => w' = w2 ∧ ∃ f q a b : Nat, x5 = (b : Int) ∧ x6 = (q : Int) ∧ x7 = (a : Int) ∧ q ≤ 65536 ∧ q ≤ capF f ∧ b + f = 5 ∧ a ≤ 65536 * b ∧ a + (TF f q).1 = (cntF n).1 ∧ b + (TF f q).2 = (cntF n).2, fun _ x6 _ _ => x6.toNat, ⟨rfl, 4, (n + 15) / 16, 0, 1, rfl, wrap_q2 n (by omega), rfl, by omega, by simp only [capF]; omega, rfl, by omega, by rw [cntF]; simp, by rw [cntF]; omega⟩, ?_⟩⟩
    rintro x5 x6 x7 w3 ⟨rfl, f, q, a, b, rfl, rfl, rfl, hq, hcap, hbf, ha, e1, e2⟩
    have wa : IntKind.wrap .i64 ((a : Int) + (q : Int)) = ((a + q : Nat) : Int) := by rw [wrap_i64 (by omega) (by omega)]; rfl
    have wa1 : IntKind.wrap .i64 ((a : Int) + 1) = ((a + 1 : Nat) : Int) := by rw [wrap_i64 (by omega) (by omega)]; rfl
    have wb : IntKind.wrap .i64 ((b : Int) + 1) = ((b + 1 : Nat) : Int) := by rw [wrap_i64 (by omega) (by omega)]; rfl
    rw [wrap_q2 q (by omega), wa, wa1, wb]
    refine ⟨fun h => ?_, fun h => ?_⟩
    · have h1 : 2 ≤ q := by simp at h; omega
      cases f with
      | zero => simp only [capF] at hcap; omega
      | succ f =>
        rw [TF, if_neg (by omega)] at e1 e2
        refine ⟨⟨rfl, f, (q + 15) / 16, a + q, b + 1, rfl, rfl, rfl, by omega, ?_, by omega, by omega, by simp only at e1; omega, by simp only at e2; omega⟩, ?_⟩
        · simp only [capF] at hcap; omega
        · simp only [Int.toNat_natCast]; omega
    · have h1 : q ≤ 1 := by simp at h; omega
      rw [TF_one f h1] at e1 e2
      refine ⟨?_, c1⟩
      rw [← e1, ← e2]
      simp

end Go.Proofs.YtefnlbgkfingfaaDoor
