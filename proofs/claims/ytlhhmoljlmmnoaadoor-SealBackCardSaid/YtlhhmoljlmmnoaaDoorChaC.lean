/- Contracts of chacha's block and of the reference's: the block (conditions: those that each theorem names). -/
import Derived.Test.YtlhhmoljlmmnoaaDoorChaB
namespace Go.Proofs.YtlhhmoljlmmnoaaDoor
open Go Sx
set_option maxRecDepth 8000

theorem e16 : ∀ w, (isAgg 99).run Tryd.prog w = .ok true w := fun w => Tryd.isAgg99 w
theorem e64 : ∀ w, (isAgg 83).run Tryd.prog w = .ok true w := fun w => Tryd.isAgg83 w
theorem e32 : ∀ w, (isAgg 22).run Tryd.prog w = .ok true w := fun w => Tryd.isAgg22 w
theorem e12 : ∀ w, (isAgg 69).run Tryd.prog w = .ok true w := fun w => Tryd.isAgg69 w
theorem eU : ∀ w, (isAgg 85).run Tryd.prog w = .ok false w := fun w => Tryd.isAgg85 w

theorem outB_val (x y : List Nat) (i j : Nat) (hj : j < 4) : IntKind.wrap .u8 ((add32 (x.getD i 0) (y.getD i 0) / 2 ^ (8 * j) : Nat) : Int) = ((outB x y (4 * i + j)).toNat : Int) := by
  rw [wrap_u8, outB, show (4 * i + j) / 4 = i by omega, show (4 * i + j) % 4 = j by omega]
  simp
theorem outL_get (x y : List Nat) (i : Nat) (h : i < 64) : (outL x y)[i]? = some (outB x y i) := by simp [outL, h]

theorem block_spec (key nonce : List UInt8) (ctr : Nat) (w : World) (hk : key.length = 32) (hn : nonce.length = 12) (hc : ctr < 4294967296) :
    Calls Tryd.prog 66 #[.agg (bv key).toArray, .int .u32 (ctr : Int), .agg (bv nonce).toArray] w fun e w' => e = .returned (.agg (bv (blockF key ctr nonce)).toArray) ∧ Chg [] w w' := by
  apply chacha_Block_vc
  obtain ⟨g1, w1, r1, h1⟩ := (St.start w).boxA (P := Tryd.prog) 22 (bv key)
  obtain ⟨g2, w2, r2, h2⟩ := h1.boxA (P := Tryd.prog) 69 (bv nonce)
  obtain ⟨g3, w3, r3, h3⟩ := h2.zeroA zero64
  refine ⟨_, _, r1, _, _, r2, _, _, r3, _, h3.ldA (i := 0) rfl (e32 _) (Tryd.sizeOf22 _) (by simp [hk]), _, h3.ldA (i := 1) rfl (e12 _) (Tryd.sizeOf69 _) (by simp [hn]), (begin_spec key nonce ctr w3 hk hn hc).mono ?_⟩
  rintro e w4 ⟨rfl, hc4⟩
  have h4 := h3.same hc4
  have hF := firstL_len key ctr nonce
  have hlF := lt32_first key nonce hc
  obtain ⟨F, hFd⟩ : ∃ F, firstL key ctr nonce = F := ⟨_, rfl⟩
  have hB : blockF key ctr nonce = outL (dblR 10 F) F := by rw [blockF, hFd]
  rw [hB]
  rw [hFd] at hF hlF ⊢
  obtain ⟨g5, w5, r5, h5⟩ := h4.zeroA zero16
  obtain ⟨w6, r6, h6⟩ := h5.stA (i := 3) (v := kv .u32 F) rfl (Tryd.sizeOf99 _) (by simp) (by simp [hF]) (kv_one _ _)
  obtain ⟨g7, w7, r7, h7⟩ := h6.zeroA zero16
  obtain ⟨w8, r8, h8⟩ := h7.stA (i := 4) (v := kv .u32 F) rfl (Tryd.sizeOf99 _) (by simp) (by simp [hF]) (kv_one _ _)
  refine ⟨_, rfl, _, _, r5, _, r6, _, h6.ldA (i := 3) rfl (e16 _) (Tryd.sizeOf99 _) (by simp [hF]), _, _, r7, _, r8, ?_⟩
  obtain ⟨Mx, hMx⟩ : ∃ Mx : List Nat → List Res, Mx = fun x => [.arr g1 22 (bv key), .arr g2 69 (bv nonce), .arr g3 83 (bv (List.replicate 64 0)), .arr g5 99 (kv .u32 F), .arr g7 99 (kv .u32 x)] := ⟨_, rfl⟩
  have hi4 : ∀ x, (Mx x)[4]? = some (.arr g7 99 (kv .u32 x)) := fun x => by rw [hMx]; rfl
  have hi3 : ∀ x, (Mx x)[3]? = some (.arr g5 99 (kv .u32 F)) := fun x => by rw [hMx]; rfl
  have hi2 : ∀ x, (Mx x)[2]? = some (.arr g3 83 (bv (List.replicate 64 0))) := fun x => by rw [hMx]; rfl
  have hset : ∀ x y, (Mx x).set 4 (.arr g7 99 (kv .u32 y)) = Mx y := fun x y => by rw [hMx]; rfl
  have h8' : St w [] w8 (Mx F) := by rw [hMx]; exact h8
  have hw : ∀ i : Nat, i < 100 → IntKind.wrap .i64 ((i : Int) + 1) = ((i + 1 : Nat) : Int) := fun i h => by rw [wrap_i64 (by omega) (by omega)]; rfl
  have ze : ∀ k : Nat, 0 + Int.toNat (k : Int) * 1 = k := fun k => by omega
  have sU : ∀ w, (sizeOf 85).run Tryd.prog w = .ok 1 w := fun w => Tryd.sizeOf85 w
  have sB : ∀ w, (sizeOf 5).run Tryd.prog w = .ok 1 w := fun w => Tryd.sizeOf5 w
  -- a quarter round in place
  have step : ∀ (x : List Nat) (a b c d : Nat) (wa : World) (K : World → Prop), St w [] wa (Mx x) → x.length = 16 → Lt32 x → a < 16 → b < 16 → c < 16 → d < 16 → a ≠ b → a ≠ c → a ≠ d → b ≠ c → b ≠ d → c ≠ d → (∀ wb, St w [] wb (Mx (rnd x a b c d)) → K wb) →
      (∃ S : World → Prop, S wa.drew ∧ (0 ≤ (a : Int) ∧ (a : Int) < 16 ∧ (0 ≤ (b : Int) ∧ (b : Int) < 16 ∧ (0 ≤ (c : Int) ∧ (c : Int) < 16 ∧ (0 ≤ (d : Int) ∧ (d : Int) < 16 ∧
        (∃ ta : Int, (∀ w', S w' → (Instr.loadAt 85 (.pointer (some ⟨g7, 0 + Int.toNat (a : Int) * 1, none⟩))).run Tryd.prog w' = .ok (.int .u32 ta) w') ∧
        (∃ tb : Int, (∀ w', S w' → (Instr.loadAt 85 (.pointer (some ⟨g7, 0 + Int.toNat (b : Int) * 1, none⟩))).run Tryd.prog w' = .ok (.int .u32 tb) w') ∧
        (∃ tc : Int, (∀ w', S w' → (Instr.loadAt 85 (.pointer (some ⟨g7, 0 + Int.toNat (c : Int) * 1, none⟩))).run Tryd.prog w' = .ok (.int .u32 tc) w') ∧
        (∃ td : Int, (∀ w', S w' → (Instr.loadAt 85 (.pointer (some ⟨g7, 0 + Int.toNat (d : Int) * 1, none⟩))).run Tryd.prog w' = .ok (.int .u32 td) w') ∧
          (Calls Tryd.prog 70 #[.int .u32 ta, .int .u32 tb, .int .u32 tc, .int .u32 td] wa.drew fun e w11 => ∃ t0 t1 t2 t3 : Int, e = .returned (.tuple #[.int .u32 t0, .int .u32 t1, .int .u32 t2, .int .u32 t3]) ∧
            (∃ S_1 : World → Prop, (∀ w', S_1 w' → S w') ∧ S_1 w11 ∧
              (0 ≤ (a : Int) ∧ (a : Int) < 16 ∧ (∃ w12, (Instr.storeAt 85 (.pointer (some ⟨g7, 0 + Int.toNat (a : Int) * 1, none⟩)) (.int .u32 t0)).run Tryd.prog w11 = .ok () w12 ∧
              (0 ≤ (b : Int) ∧ (b : Int) < 16 ∧ (∃ w13, (Instr.storeAt 85 (.pointer (some ⟨g7, 0 + Int.toNat (b : Int) * 1, none⟩)) (.int .u32 t1)).run Tryd.prog w12 = .ok () w13 ∧
              (0 ≤ (c : Int) ∧ (c : Int) < 16 ∧ (∃ w14, (Instr.storeAt 85 (.pointer (some ⟨g7, 0 + Int.toNat (c : Int) * 1, none⟩)) (.int .u32 t2)).run Tryd.prog w13 = .ok () w14 ∧
              (0 ≤ (d : Int) ∧ (d : Int) < 16 ∧ (∃ w15, (Instr.storeAt 85 (.pointer (some ⟨g7, 0 + Int.toNat (d : Int) * 1, none⟩)) (.int .u32 t3)).run Tryd.prog w14 = .ok () w15 ∧ K w15))))))))))))))))))) := by
    intro x a b c d wa K hS hx hlx ha hb hcc hd ab ac ad bc bd cd hK
    refine ⟨fun w' => St w [] w' (Mx x), hS.drew, by omega, by omega, by omega, by omega, by omega, by omega, by omega, by omega, _, fun w' h => h.ldK (hi4 x) (eU _) (ze a) (by omega), _, fun w' h => h.ldK (hi4 x) (eU _) (ze b) (by omega), _, fun w' h => h.ldK (hi4 x) (eU _) (ze c) (by omega), _, fun w' h => h.ldK (hi4 x) (eU _) (ze d) (by omega), ?_⟩
    refine (quarter_spec _ _ _ _ _ (hlx b) (hlx d)).mono ?_
    rintro e w11 ⟨rfl, rfl⟩
    obtain ⟨w12, q1, s1⟩ := hS.drew.stK (n := qA (x.getD a 0) (x.getD b 0) (x.getD c 0) (x.getD d 0)) (hi4 x) (sU _) (ze a) (by omega)
    rw [hset] at s1
    obtain ⟨w13, q2, s2⟩ := s1.stK (n := qB (x.getD a 0) (x.getD b 0) (x.getD c 0) (x.getD d 0)) (hi4 _) (sU _) (ze b) (by simp; omega)
    rw [hset] at s2
    obtain ⟨w14, q3, s3⟩ := s2.stK (n := qC (x.getD a 0) (x.getD b 0) (x.getD c 0) (x.getD d 0)) (hi4 _) (sU _) (ze c) (by simp; omega)
    rw [hset] at s3
    obtain ⟨w15, q4, s4⟩ := s3.stK (n := qD (x.getD a 0) (x.getD b 0) (x.getD c 0) (x.getD d 0)) (hi4 _) (sU _) (ze d) (by simp; omega)
    rw [hset] at s4
    refine ⟨_, _, _, _, rfl, fun w' => St w [] w' (Mx x), fun _ h => h, hS.drew, by omega, by omega, w12, q1, by omega, by omega, w13, q2, by omega, by omega, w14, q3, by omega, by omega, w15, q4, hK _ ?_⟩
    rw [rnd_eq (by omega) (by omega) (by omega) (by omega) ab ac ad bc bd cd]
    exact s4
  refine ⟨fun i w' => ∃ k : Nat, i = (k : Int) ∧ k ≤ 10 ∧ St w [] w' (Mx (dblR k F)), fun i _ => 10 - i.toNat, ⟨0, rfl, by omega, h8'⟩, ?_⟩
  rintro i w9 ⟨k, rfl, hk10, hS⟩
  refine ⟨fun h => ?_, fun h => ?_⟩
  · have hk' : k < 10 := by simp at h; omega
    refine ⟨fun i w' => ∃ j : Nat, i = (j : Int) ∧ j ≤ 4 ∧ St w [] w' (Mx (colR j (dblR k F))), fun i _ => 4 - i.toNat, ⟨0, rfl, by omega, hS⟩, ?_⟩
    rintro i w10 ⟨j, rfl, hj4, hS⟩
    refine ⟨fun h => ?_, fun h => ?_⟩
    · have hj' : j < 4 := by simp at h; omega
      have e1 : IntKind.wrap .i64 ((4 : Int) + (j : Int)) = ((4 + j : Nat) : Int) := by rw [wrap_i64 (by omega) (by omega)]; omega
      have e2 : IntKind.wrap .i64 ((8 : Int) + (j : Int)) = ((8 + j : Nat) : Int) := by rw [wrap_i64 (by omega) (by omega)]; omega
      have e3 : IntKind.wrap .i64 ((12 : Int) + (j : Int)) = ((12 + j : Nat) : Int) := by rw [wrap_i64 (by omega) (by omega)]; omega
      rw [e1, e2, e3, hw j (by omega)]
      refine step _ j (4 + j) (8 + j) (12 + j) _ _ hS (by simp [hF]) ((hlF.dblR k).colR j) (by omega) (by omega) (by omega) (by omega) (by omega) (by omega) (by omega) (by omega) (by omega) (by omega) fun wb hb => ?_
      exact ⟨⟨j + 1, rfl, by omega, hb⟩, by simp; omega⟩
    · have hj' : j = 4 := by simp at h; omega
      subst hj'
      refine ⟨fun i w' => ∃ j : Nat, i = (j : Int) ∧ j ≤ 4 ∧ St w [] w' (Mx (diaR j (colR 4 (dblR k F)))), fun i _ => 4 - i.toNat, ⟨0, rfl, by omega, hS⟩, ?_⟩
      rintro i w11 ⟨j, rfl, hj4, hS⟩
      refine ⟨fun h => ?_, fun h => ?_⟩
      · have hj' : j < 4 := by simp at h; omega
        have e0 : ∀ (u v : Nat), u < 100 → v < 100 → IntKind.wrap .i64 ((u : Int) + Int.tmod (IntKind.wrap .i64 ((j : Int) + (v : Int))) 4) = ((u + (j + v) % 4 : Nat) : Int) := fun u v hu hv => by
          rw [show IntKind.wrap .i64 ((j : Int) + (v : Int)) = ((j + v : Nat) : Int) by rw [wrap_i64 (by omega) (by omega)]; omega, Int.tmod_eq_emod_of_nonneg (by omega), wrap_i64 (by omega) (by omega)]; omega
        have e1 : IntKind.wrap .i64 ((4 : Int) + Int.tmod (IntKind.wrap .i64 ((j : Int) + 1)) 4) = _ := e0 4 1 (by omega) (by omega)
        have e2 : IntKind.wrap .i64 ((8 : Int) + Int.tmod (IntKind.wrap .i64 ((j : Int) + 2)) 4) = _ := e0 8 2 (by omega) (by omega)
        have e3 : IntKind.wrap .i64 ((12 : Int) + Int.tmod (IntKind.wrap .i64 ((j : Int) + 3)) 4) = _ := e0 12 3 (by omega) (by omega)
        rw [e1, e2, e3, hw j (by omega)]
        refine step _ j (4 + (j + 1) % 4) (8 + (j + 2) % 4) (12 + (j + 3) % 4) _ _ hS (by simp [hF]) (((hlF.dblR k).colR 4).diaR j) (by omega) (by omega) (by omega) (by omega) (by omega) (by omega) (by omega) (by omega) (by omega) (by omega) fun wb hb => ?_
        exact ⟨⟨j + 1, rfl, by omega, hb⟩, by simp; omega⟩
      · have hj' : j = 4 := by simp at h; omega
        subst hj'
        rw [hw k (by omega)]
        exact ⟨⟨k + 1, rfl, by omega, hS⟩, by simp; omega⟩
  · have hk' : k = 10 := by simp at h; omega
    subst hk'
    obtain ⟨g10, w10, r10, h10⟩ := hS.zeroA zero64
    obtain ⟨O, hO⟩ : ∃ O, outL (dblR 10 F) F = O := ⟨_, rfl⟩
    have hOl : O.length = 64 := by rw [← hO]; simp
    rw [hO]
    have hm5 : ∀ y, (Mx (dblR 10 F) ++ [Res.arr g10 83 (bv y)])[5]? = some (.arr g10 83 (bv y)) := fun y => by rw [hMx]; rfl
    have hm4 : ∀ y, (Mx (dblR 10 F) ++ [Res.arr g10 83 (bv y)])[4]? = some (.arr g7 99 (kv .u32 (dblR 10 F))) := fun y => by rw [hMx]; rfl
    have hm3 : ∀ y, (Mx (dblR 10 F) ++ [Res.arr g10 83 (bv y)])[3]? = some (.arr g5 99 (kv .u32 F)) := fun y => by rw [hMx]; rfl
    have hm2 : ∀ y, (Mx (dblR 10 F) ++ [Res.arr g10 83 (bv y)])[2]? = some (.arr g3 83 (bv (List.replicate 64 0))) := fun y => by rw [hMx]; rfl
    have hms : ∀ x y, (Mx (dblR 10 F) ++ [Res.arr g10 83 (bv x)]).set 5 (.arr g10 83 (bv y)) = Mx (dblR 10 F) ++ [Res.arr g10 83 (bv y)] := fun x y => by rw [hMx]; rfl
    refine ⟨_, _, r10, fun i w' => ∃ k : Nat, i = (k : Int) ∧ k ≤ 16 ∧ St w [] w' (Mx (dblR 10 F) ++ [.arr g10 83 (bv (upTo O (4 * k)))]), fun i _ => 16 - i.toNat, ⟨0, rfl, by omega, by rw [Nat.mul_zero, upTo_zero, hOl]; exact h10⟩, ?_⟩
    rintro i w11 ⟨k, rfl, hk16, hT⟩
    refine ⟨fun h => ?_, fun h => ?_⟩
    · have hk' : k < 16 := by simp at h; omega
      have e1 : IntKind.wrap .i64 ((4 : Int) * (k : Int)) = ((4 * k : Nat) : Int) := by rw [wrap_i64 (by omega) (by omega)]; omega
      have e2 : ∀ j : Nat, j < 4 → IntKind.wrap .i64 (((4 * k : Nat) : Int) + (j : Int)) = ((4 * k + j : Nat) : Int) := fun j hj => by rw [wrap_i64 (by omega) (by omega)]; omega
      have e21 := e2 1 (by omega)
      have e22 := e2 2 (by omega)
      have e23 := e2 3 (by omega)
      rw [show ((1 : Nat) : Int) = 1 from rfl] at e21
      rw [show ((2 : Nat) : Int) = 2 from rfl] at e22
      rw [show ((3 : Nat) : Int) = 3 from rfl] at e23
      rw [e1, e21, e22, e23, hw k (by omega)]
      have ot : ∀ j, j < 4 → O[4 * k + j]? = some (outB (dblR 10 F) F (4 * k + j)) := fun j hj => by rw [← hO]; exact outL_get _ _ _ (by omega)
      have v0 : IntKind.wrap .u8 (IntKind.wrap .u32 (((dblR 10 F).getD k 0 : Nat) + (F.getD k 0 : Nat) : Int)) = ((outB (dblR 10 F) F (4 * k)).toNat : Int) := by
        rw [add_val]; have := outB_val (dblR 10 F) F k 0 (by omega); simpa using this
      have vj : ∀ (j : Nat), j < 4 → IntKind.wrap .u8 (shrI .u32 (IntKind.wrap .u32 (((dblR 10 F).getD k 0 : Nat) + (F.getD k 0 : Nat) : Int)) ((8 * j : Nat) : Int)) = ((outB (dblR 10 F) F (4 * k + j)).toNat : Int) := fun j hj => by
        rw [add_val, shr_nat _ _ _ (show 8 * j ≤ 32 by omega)]; exact outB_val (dblR 10 F) F k j hj
      have v1 : IntKind.wrap .u8 (shrI .u32 (IntKind.wrap .u32 (((dblR 10 F).getD k 0 : Nat) + (F.getD k 0 : Nat) : Int)) 8) = _ := vj 1 (by omega)
      have v2 : IntKind.wrap .u8 (shrI .u32 (IntKind.wrap .u32 (((dblR 10 F).getD k 0 : Nat) + (F.getD k 0 : Nat) : Int)) 16) = _ := vj 2 (by omega)
      have v3 : IntKind.wrap .u8 (shrI .u32 (IntKind.wrap .u32 (((dblR 10 F).getD k 0 : Nat) + (F.getD k 0 : Nat) : Int)) 24) = _ := vj 3 (by omega)
      refine ⟨fun w' => St w [] w' (Mx (dblR 10 F) ++ [.arr g10 83 (bv (upTo O (4 * k)))]), hT.drew, by omega, by omega, by omega, by omega, _, fun w' h => h.ldK (hm4 _) (eU _) (ze k) (by simp [hF]; omega), _, fun w' h => h.ldK (hm3 _) (eU _) (ze k) (by omega), by omega, by omega, ?_⟩
      rw [v0, v1, v2, v3]
      obtain ⟨w12, q1, s1⟩ := hT.drew.stB (b := outB (dblR 10 F) F (4 * k)) (hm5 _) (sB _) (ze (4 * k)) (by rw [upTo_len (by omega)]; omega)
      rw [hms, upTo_set (show O[4 * k]? = some (outB (dblR 10 F) F (4 * k)) from ot 0 (by omega))] at s1
      obtain ⟨w13, q2, s2⟩ := s1.stB (b := outB (dblR 10 F) F (4 * k + 1)) (hm5 _) (sB _) (ze (4 * k + 1)) (by rw [upTo_len (by omega)]; omega)
      rw [hms, upTo_set (ot 1 (by omega))] at s2
      obtain ⟨w14, q3, s3⟩ := s2.stB (b := outB (dblR 10 F) F (4 * k + 2)) (hm5 _) (sB _) (ze (4 * k + 2)) (by rw [upTo_len (by omega)]; omega)
      rw [hms, upTo_set (ot 2 (by omega))] at s3
      obtain ⟨w15, q4, s4⟩ := s3.stB (b := outB (dblR 10 F) F (4 * k + 3)) (hm5 _) (sB _) (ze (4 * k + 3)) (by rw [upTo_len (by omega)]; omega)
      rw [hms, upTo_set (ot 3 (by omega))] at s4
      exact ⟨w12, q1, by omega, by omega, w13, q2, by omega, by omega, w14, q3, by omega, by omega, w15, q4, ⟨k + 1, rfl, by omega, s4⟩, by simp; omega⟩
    · have hk' : k = 16 := by simp at h; omega
      subst hk'
      rw [show 4 * 16 = O.length by omega, upTo_all] at hT
      refine ⟨_, hT.ldA (hm5 _) (e64 _) (Tryd.sizeOf83 _) (by simp [hOl]), ?_⟩
      obtain ⟨w12, q1, s1⟩ := hT.stA (v := bv O) (hm2 _) (Tryd.sizeOf83 _) (by simp) (by simp [hOl]) (bv_one _)
      refine ⟨w12, q1, _, s1.ldVarA (i := 2) (l := bv O) (by rw [hMx]; rfl) (e64 _) (Tryd.sizeOf83 _) (by simp [hOl]), rfl, s1.chg⟩

end Go.Proofs.YtlhhmoljlmmnoaaDoor
