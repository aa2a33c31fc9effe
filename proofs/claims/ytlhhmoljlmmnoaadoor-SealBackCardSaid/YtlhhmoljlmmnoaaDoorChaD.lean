/- Contracts of the reference's block (conditions: those that each theorem names). -/
import Derived.Test.YtlhhmoljlmmnoaaDoorChaC
namespace Go.Proofs.YtlhhmoljlmmnoaaDoor
open Go Sx
set_option maxRecDepth 8000

theorem const16 : (((((List.replicate 16 0).set 0 1634760805).set 1 857760878).set 2 2036477234).set 3 1797285236 : List Nat) = [1634760805, 857760878, 2036477234, 1797285236] ++ List.replicate 12 0 := by decide

theorem first_alt (key nonce : List UInt8) (ctr : Nat) :
    orW 13 nonce 12 (orW 4 key 32 (([1634760805, 857760878, 2036477234, 1797285236] ++ List.replicate 12 0).set 12 ctr)) = firstL key ctr nonce := by
  have z : ∀ j, 4 ≤ j → j < 16 → j ≠ 12 → (([1634760805, 857760878, 2036477234, 1797285236] ++ List.replicate 12 0 : List Nat).set 12 ctr).getD j 0 = 0 := by
    intro j h1 h2 h3
    rw [getD_set_ne (fun e => h3 e.symm)]
    have : ∀ j < 16, 4 ≤ j → ([1634760805, 857760878, 2036477234, 1797285236] ++ List.replicate 12 0 : List Nat).getD j 0 = 0 := by decide
    exact this j h2 h1
  have h1 := orW_setW 4 key (([1634760805, 857760878, 2036477234, 1797285236] ++ List.replicate 12 0 : List Nat).set 12 ctr) 8 (by simp) (fun j h1 h2 => z j h1 (by omega) (by omega))
  rw [show 4 * 8 = 32 from rfl] at h1
  rw [h1]
  have h2 := orW_setW 13 nonce (setW 4 key 8 (([1634760805, 857760878, 2036477234, 1797285236] ++ List.replicate 12 0 : List Nat).set 12 ctr)) 3 (by simp) (fun j h1 h2 => by
    rw [setW_far _ _ _ _ _ (by omega)]; exact z j (by omega) (by omega) (by omega))
  rw [show 4 * 3 = 12 from rfl] at h2
  have sw : ∀ (k : Nat) (l : List Nat), 4 + k ≤ 12 → setW 4 key k (l.set 12 ctr) = (setW 4 key k l).set 12 ctr := by
    intro k
    induction k with
    | zero => intro l _; rfl
    | succ k ih =>
      intro l hk
      rw [setW, setW, ih l (by omega), List.set_comm _ _ (by omega)]
  rw [h2, sw 8 _ (by omega), firstL]

theorem rblock_spec (key nonce : List UInt8) (ctr : Nat) (w : World) (hk : key.length = 32) (hn : nonce.length = 12) (hc : ctr < 4294967296) :
    Calls Tryd.prog 52 #[.agg (bv key).toArray, .int .u32 (ctr : Int), .agg (bv nonce).toArray] w fun e w' => e = .returned (.agg (bv (blockF key ctr nonce)).toArray) ∧ Chg [] w w' := by
  apply amphoraref03_Block_vc
  have hw : ∀ i : Nat, i < 100 → IntKind.wrap .i64 ((i : Int) + 1) = ((i + 1 : Nat) : Int) := fun i h => by rw [wrap_i64 (by omega) (by omega)]; rfl
  have ze : ∀ k : Nat, 0 + Int.toNat (k : Int) * 1 = k := fun k => by omega
  have sU : ∀ w, (sizeOf 85).run Tryd.prog w = .ok 1 w := fun w => Tryd.sizeOf85 w
  have sB : ∀ w, (sizeOf 5).run Tryd.prog w = .ok 1 w := fun w => Tryd.sizeOf5 w
  have s16 : ∀ w, (sizeOf 99).run Tryd.prog w = .ok 16 w := fun w => Tryd.sizeOf99 w
  have s64 : ∀ w, (sizeOf 83).run Tryd.prog w = .ok 64 w := fun w => Tryd.sizeOf83 w
  obtain ⟨g1, w1, r1, h1⟩ := (St.start w).boxA (P := Tryd.prog) 22 (bv key)
  obtain ⟨g2, w2, r2, h2⟩ := h1.boxA (P := Tryd.prog) 69 (bv nonce)
  obtain ⟨g3, w3, r3, h3⟩ := h2.zeroA zero64
  have hb := build_arr (P := Tryd.prog) (w := w3) (zero16 w3) Tryd.underlying99 (sU _) [] (by simp) (by simp)
  obtain ⟨g4, w4, r4, h4⟩ := h3.zeroA zero16
  obtain ⟨w5, r5, h5⟩ := h4.stA (i := 3) (v := kv .u32 (List.replicate 16 0)) rfl (s16 _) (by simp) (by simp) (kv_one _ _)
  obtain ⟨w6, r6, h6⟩ := h5.stK (i := 3) (off := 0) (o := 0) (n := 1634760805) rfl (sU _) rfl (by simp)
  obtain ⟨w7, r7, h7⟩ := h6.stK (i := 3) (off := 1) (o := 1) (n := 857760878) rfl (sU _) rfl (by simp)
  obtain ⟨w8, r8, h8⟩ := h7.stK (i := 3) (off := 2) (o := 2) (n := 2036477234) rfl (sU _) rfl (by simp)
  obtain ⟨w9, r9, h9⟩ := h8.stK (i := 3) (off := 3) (o := 3) (n := 1797285236) rfl (sU _) rfl (by simp)
  obtain ⟨w10, r10, h10⟩ := h9.stK (i := 3) (off := 12) (o := 12) (n := ctr) rfl (sU _) rfl (by simp)
  rw [const16] at h10
  refine ⟨_, _, r1, _, _, r2, _, _, r3, _, hb, _, _, r4, _, r5, _, r6, _, r7, _, r8, _, r9, _, r10, ?_⟩
  obtain ⟨C0, hC0⟩ : ∃ C0, ([1634760805, 857760878, 2036477234, 1797285236] ++ List.replicate 12 0 : List Nat).set 12 ctr = C0 := ⟨_, rfl⟩
  have hC0l : C0.length = 16 := by rw [← hC0]; simp
  have hC0t : Lt32 C0 := by rw [← hC0]; exact lt32_const.set 12 hc
  obtain ⟨Mx, hMx⟩ : ∃ Mx : List Nat → List Res, Mx = fun x => [.arr g1 22 (bv key), .arr g2 69 (bv nonce), .arr g3 83 (bv (List.replicate 64 0)), .arr g4 99 (kv .u32 x)] := ⟨_, rfl⟩
  have hi0 : ∀ x, (Mx x)[0]? = some (.arr g1 22 (bv key)) := fun x => by rw [hMx]; rfl
  have hi1 : ∀ x, (Mx x)[1]? = some (.arr g2 69 (bv nonce)) := fun x => by rw [hMx]; rfl
  have hi3 : ∀ x, (Mx x)[3]? = some (.arr g4 99 (kv .u32 x)) := fun x => by rw [hMx]; rfl
  have hset : ∀ x y, (Mx x).set 3 (.arr g4 99 (kv .u32 y)) = Mx y := fun x y => by rw [hMx]; rfl
  have h10' : St w [] w10 (Mx C0) := by rw [hMx, ← hC0]; exact h10
  have ed : ∀ i : Nat, i < 100 → IntKind.wrap .i64 (Int.tdiv (i : Int) 4) = ((i / 4 : Nat) : Int) := fun i hi => by rw [Int.tdiv_eq_ediv_of_nonneg (by omega), wrap_i64 (by omega) (by omega)]; omega
  have em : ∀ i : Nat, IntKind.wrap .u64 (Int.tmod (i : Int) 4) = ((i % 4 : Nat) : Int) := fun i => by rw [Int.tmod_eq_emod_of_nonneg (by omega), wrap_u64]; omega
  have e8 : ∀ j : Nat, j < 4 → IntKind.wrap .u64 ((8 : Int) * (j : Int)) = ((8 * j : Nat) : Int) := fun j hj => by rw [wrap_u64]; omega
  have ea : ∀ b j : Nat, b < 100 → j < 100 → IntKind.wrap .i64 ((b : Int) + (j : Int)) = ((b + j : Nat) : Int) := fun b j hb hj => by rw [wrap_i64 (by omega) (by omega)]; omega
  have vor : ∀ (x : Nat) (b : UInt8) (j : Nat), x < 4294967296 → j < 4 → bor .u32 (x : Int) (shlI .u32 (IntKind.wrap .u32 (b.toNat : Int)) ((8 * j : Nat) : Int)) = ((x ||| b.toNat * 2 ^ (8 * j) % 4294967296 : Nat) : Int) := fun x b j hx hj => by
    have := b.toNat_lt
    rw [wrap_u32_nat (by omega), shl_val (by omega), or_val hx (Nat.mod_lt _ (by decide))]
  refine ⟨fun i w' => ∃ k : Nat, i = (k : Int) ∧ k ≤ 32 ∧ St w [] w' (Mx (orW 4 key k C0)), fun i _ => 32 - i.toNat, ⟨0, rfl, by omega, h10'⟩, ?_⟩
  rintro i w11 ⟨k, rfl, hk32, hS⟩
  refine ⟨fun h => ?_, fun h => ?_⟩
  · have hk' : k < 32 := by simp at h; omega
    have e4 : IntKind.wrap .i64 ((4 : Int) + ((k / 4 : Nat) : Int)) = _ := ea 4 (k / 4) (by omega) (by omega)
    rw [ed k (by omega), e4, em, e8 _ (by omega), hw k (by omega)]
    have ht := hC0t.orW 4 key k
    refine ⟨fun w' => St w [] w' (Mx (orW 4 key k C0)), hS.drew, by omega, by omega, by omega, by omega, _, fun w' h => h.ldK (hi3 _) (eU _) (ze (4 + k / 4)) (by rw [orW_len]; omega), _, fun w' h => h.ldB (hi0 _) (bA _) (ze k) (by omega), by omega, by omega, by omega, ?_⟩
    rw [vor _ _ _ (ht _) (by omega)]
    obtain ⟨w12, q, s⟩ := hS.drew.stK (n := (orW 4 key k C0).getD (4 + k / 4) 0 ||| (key.getD k 0).toNat * 2 ^ (8 * (k % 4)) % 4294967296) (hi3 _) (sU _) (ze (4 + k / 4)) (by rw [orW_len]; omega)
    rw [hset] at s
    exact ⟨w12, q, ⟨k + 1, rfl, by omega, s⟩, by simp; omega⟩
  · have hk' : k = 32 := by simp at h; omega
    subst hk'
    refine ⟨fun i w' => ∃ k : Nat, i = (k : Int) ∧ k ≤ 12 ∧ St w [] w' (Mx (orW 13 nonce k (orW 4 key 32 C0))), fun i _ => 12 - i.toNat, ⟨0, rfl, by omega, hS⟩, ?_⟩
    rintro i w13 ⟨k, rfl, hk12, hS⟩
    refine ⟨fun h => ?_, fun h => ?_⟩
    · have hk' : k < 12 := by simp at h; omega
      have e4 : IntKind.wrap .i64 ((13 : Int) + ((k / 4 : Nat) : Int)) = _ := ea 13 (k / 4) (by omega) (by omega)
      rw [ed k (by omega), e4, em, e8 _ (by omega), hw k (by omega)]
      have ht := (hC0t.orW 4 key 32).orW 13 nonce k
      refine ⟨fun w' => St w [] w' (Mx (orW 13 nonce k (orW 4 key 32 C0))), hS.drew, by omega, by omega, by omega, by omega, _, fun w' h => h.ldK (hi3 _) (eU _) (ze (13 + k / 4)) (by rw [orW_len, orW_len]; omega), _, fun w' h => h.ldB (hi1 _) (bA _) (ze k) (by omega), by omega, by omega, by omega, ?_⟩
      rw [vor _ _ _ (ht _) (by omega)]
      obtain ⟨w14, q, s⟩ := hS.drew.stK (n := (orW 13 nonce k (orW 4 key 32 C0)).getD (13 + k / 4) 0 ||| (nonce.getD k 0).toNat * 2 ^ (8 * (k % 4)) % 4294967296) (hi3 _) (sU _) (ze (13 + k / 4)) (by rw [orW_len, orW_len]; omega)
      rw [hset] at s
      exact ⟨w14, q, ⟨k + 1, rfl, by omega, s⟩, by simp; omega⟩
    · have hk' : k = 12 := by simp at h; omega
      subst hk'
      have hfa := first_alt key nonce ctr
      rw [hC0] at hfa
      have hF := firstL_len key ctr nonce
      have hlF := lt32_first key nonce hc
      obtain ⟨F, hFd⟩ : ∃ F, firstL key ctr nonce = F := ⟨_, rfl⟩
      have hB : blockF key ctr nonce = outL F (dblR 10 F) := by rw [blockF, hFd, outL_comm]
      rw [hB]
      rw [hfa] at hS
      rw [hFd] at hF hlF hS
      obtain ⟨g5, w15, r15, h15⟩ := hS.zeroA zero16
      have m4 : ∀ x y, (Mx x ++ [Res.arr g5 99 (kv .u32 y)])[4]? = some (.arr g5 99 (kv .u32 y)) := fun x y => by rw [hMx]; rfl
      have m3 : ∀ x y, (Mx x ++ [Res.arr g5 99 (kv .u32 y)])[3]? = some (.arr g4 99 (kv .u32 x)) := fun x y => by rw [hMx]; rfl
      have ms : ∀ x y z, (Mx x ++ [Res.arr g5 99 (kv .u32 y)]).set 4 (.arr g5 99 (kv .u32 z)) = Mx x ++ [Res.arr g5 99 (kv .u32 z)] := fun x y z => by rw [hMx]; rfl
      obtain ⟨w16, r16, h16⟩ := h15.stA (v := kv .u32 F) (m4 _ _) (s16 _) (by simp) (by simp [hF]) (kv_one _ _)
      rw [ms] at h16
      refine ⟨_, hS.ldA (hi3 _) (e16 _) (s16 _) (by simp [hF]), _, _, r15, _, r16, ?_⟩
      have rs : ∀ (x : List Nat) (a b c d : Nat) (wa : World) (K : Ending → World → Prop), St w [] wa (Mx F ++ [Res.arr g5 99 (kv .u32 x)]) → x.length = 16 → Lt32 x → a < 16 → b < 16 → c < 16 → d < 16 →
          (∀ wb, St w [] wb (Mx F ++ [Res.arr g5 99 (kv .u32 (rnd x a b c d))]) → K (.returned (.tuple #[])) wb) →
          Calls Tryd.prog 62 #[.pointer (some ⟨g5, 0, none⟩), .int .i64 (a : Int), .int .i64 (b : Int), .int .i64 (c : Int), .int .i64 (d : Int)] wa K := by
        intro x a b c d wa K hS hx hlx ha hb hc hd hK
        refine (round_spec g5 _ x a b c d wa (hS.holds 4 _ (m4 _ _)) hx hlx ha hb hc hd).mono ?_
        rintro e wb ⟨rfl, hcb, hgb⟩
        refine hK wb ?_
        have := hS.upd (m4 _ _) (w' := wb) (r' := .arr g5 99 (kv .u32 (rnd x a b c d))) hcb hgb (by simp [Res.fp])
        rw [ms] at this
        exact this
      refine ⟨fun i w' => ∃ k : Nat, i = (k : Int) ∧ k ≤ 10 ∧ St w [] w' (Mx F ++ [Res.arr g5 99 (kv .u32 (dblR k F))]), fun i _ => 10 - i.toNat, ⟨0, rfl, by omega, h16⟩, ?_⟩
      rintro i w17 ⟨k, rfl, hk10, hS⟩
      refine ⟨fun h => ?_, fun h => ?_⟩
      · have hk' : k < 10 := by simp at h; omega
        have ht := hlF.dblR k
        have hl0 : (dblR k F).length = 16 := by simp [hF]
        refine rs (dblR k F) 0 4 8 12 _ _ hS hl0 ht (by decide) (by decide) (by decide) (by decide) fun w18 h18 => ⟨rfl, ?_⟩
        have t1 := ht.rnd 0 4 8 12
        refine rs _ 1 5 9 13 _ _ h18 (by simp [hF]) t1 (by decide) (by decide) (by decide) (by decide) fun w19 h19 => ⟨rfl, ?_⟩
        have t2 := t1.rnd 1 5 9 13
        refine rs _ 2 6 10 14 _ _ h19 (by simp [hF]) t2 (by decide) (by decide) (by decide) (by decide) fun w20 h20 => ⟨rfl, ?_⟩
        have t3 := t2.rnd 2 6 10 14
        refine rs _ 3 7 11 15 _ _ h20 (by simp [hF]) t3 (by decide) (by decide) (by decide) (by decide) fun w21 h21 => ⟨rfl, ?_⟩
        have t4 := t3.rnd 3 7 11 15
        refine rs _ 0 5 10 15 _ _ h21 (by simp [hF]) t4 (by decide) (by decide) (by decide) (by decide) fun w22 h22 => ⟨rfl, ?_⟩
        have t5 := t4.rnd 0 5 10 15
        refine rs _ 1 6 11 12 _ _ h22 (by simp [hF]) t5 (by decide) (by decide) (by decide) (by decide) fun w23 h23 => ⟨rfl, ?_⟩
        have t6 := t5.rnd 1 6 11 12
        refine rs _ 2 7 8 13 _ _ h23 (by simp [hF]) t6 (by decide) (by decide) (by decide) (by decide) fun w24 h24 => ⟨rfl, ?_⟩
        have t7 := t6.rnd 2 7 8 13
        refine rs _ 3 4 9 14 _ _ h24 (by simp [hF]) t7 (by decide) (by decide) (by decide) (by decide) fun w25 h25 => ⟨rfl, ?_⟩
        rw [hw k (by omega)]
        exact ⟨⟨k + 1, rfl, by omega, h25⟩, by simp; omega⟩
      · have hk' : k = 10 := by simp at h; omega
        subst hk'
        have hb64 := build_arr (P := Tryd.prog) (w := w17) (zero64 w17) Tryd.underlying83 (sB _) [] (by simp) (by simp)
        obtain ⟨g6, w18, r18, h18⟩ := hS.zeroA zero64
        obtain ⟨O, hO⟩ : ∃ O, outL F (dblR 10 F) = O := ⟨_, rfl⟩
        have hOl : O.length = 64 := by rw [← hO]; simp
        rw [hO]
        obtain ⟨Nx, hNx⟩ : ∃ Nx : List UInt8 → List Res, Nx = fun y => Mx F ++ [Res.arr g5 99 (kv .u32 (dblR 10 F))] ++ [Res.arr g6 83 (bv y)] := ⟨_, rfl⟩
        have n5 : ∀ y, (Nx y)[5]? = some (.arr g6 83 (bv y)) := fun y => by rw [hNx, hMx]; rfl
        have n4 : ∀ y, (Nx y)[4]? = some (.arr g5 99 (kv .u32 (dblR 10 F))) := fun y => by rw [hNx, hMx]; rfl
        have n3 : ∀ y, (Nx y)[3]? = some (.arr g4 99 (kv .u32 F)) := fun y => by rw [hNx, hMx]; rfl
        have n2 : ∀ y, (Nx y)[2]? = some (.arr g3 83 (bv (List.replicate 64 0))) := fun y => by rw [hNx, hMx]; rfl
        have ns : ∀ x y, (Nx x).set 5 (.arr g6 83 (bv y)) = Nx y := fun x y => by rw [hNx, hMx]; rfl
        have h18' : St w [] w18 (Nx (List.replicate 64 0)) := by rw [hNx]; exact h18
        obtain ⟨w19, r19, h19⟩ := h18'.stA (v := bv (List.replicate 64 0)) (n5 _) (s64 _) (by simp) (by simp) (bv_one _)
        rw [ns] at h19
        refine ⟨_, hb64, _, _, r18, _, r19, fun i w' => ∃ k : Nat, i = (k : Int) ∧ k ≤ 64 ∧ St w [] w' (Nx (upTo O k)), fun i _ => 64 - i.toNat, ⟨0, rfl, by omega, by rw [upTo_zero, hOl]; exact h19⟩, ?_⟩
        rintro i w20 ⟨k, rfl, hk64, hT⟩
        refine ⟨fun h => ?_, fun h => ?_⟩
        · have hk' : k < 64 := by simp at h; omega
          rw [ed k (by omega), em, e8 _ (by omega), hw k (by omega)]
          have ov : IntKind.wrap .u8 (shrI .u32 (IntKind.wrap .u32 ((F.getD (k / 4) 0 : Nat) + ((dblR 10 F).getD (k / 4) 0 : Nat) : Int)) ((8 * (k % 4) : Nat) : Int)) = ((outB F (dblR 10 F) k).toNat : Int) := by
            rw [add_val, shr_nat _ _ _ (show 8 * (k % 4) ≤ 32 by omega), outB_val F (dblR 10 F) (k / 4) (k % 4) (by omega), show 4 * (k / 4) + k % 4 = k by omega]
          refine ⟨fun w' => St w [] w' (Nx (upTo O k)), hT.drew, by omega, by omega, by omega, by omega, _, fun w' h => h.ldK (n3 _) (eU _) (ze (k / 4)) (by omega), _, fun w' h => h.ldK (n4 _) (eU _) (ze (k / 4)) (by simp [hF]; omega), by omega, by omega, by omega, ?_⟩
          rw [ov]
          obtain ⟨w21, q, s⟩ := hT.drew.stB (b := outB F (dblR 10 F) k) (n5 _) (sB _) (ze k) (by rw [upTo_len (by omega)]; omega)
          rw [ns, upTo_set (by rw [← hO]; exact outL_get _ _ _ hk')] at s
          exact ⟨w21, q, ⟨k + 1, rfl, by omega, s⟩, by simp; omega⟩
        · have hk' : k = 64 := by simp at h; omega
          subst hk'
          rw [show 64 = O.length by omega, upTo_all] at hT
          refine ⟨_, hT.ldA (n5 _) (e64 _) (s64 _) (by simp [hOl]), ?_⟩
          obtain ⟨w22, q, s⟩ := hT.stA (v := bv O) (n2 _) (s64 _) (by simp) (by simp [hOl]) (bv_one _)
          refine ⟨w22, q, _, s.ldVarA (i := 2) (l := bv O) (by rw [hNx, hMx]; rfl) (e64 _) (s64 _) (by simp [hOl]), rfl, s.chg⟩

end Go.Proofs.YtlhhmoljlmmnoaaDoor
