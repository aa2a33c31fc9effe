/- The law ShaKeys answers true (conditions: the table lies where the program laid it). -/
import Derived.Test.YtpodhfomjljfbaaDoorShaV
import Derived.Test.YtpodhfomjljfbaaDoorRowWanted
namespace Go.Proofs.YtpodhfomjljfbaaDoor
open Go Sx

theorem outF_take (prk info : List UInt8) : ∀ (j i : Nat), i ≤ j → (outF prk info j).take (32 * i) = outF prk info i
  | 0, i, h => by obtain rfl : i = 0 := by omega
                  rfl
  | j + 1, i, h => by
    rcases Nat.lt_or_ge i (j + 1) with hi | hi
    · rw [outF, List.take_append_of_le_length (by rw [outF_len]; omega)]
      exact outF_take prk info j i (by omega)
    · obtain rfl : i = j + 1 := by omega
      rw [List.take_of_length_le (by rw [outF_len]; omega)]

theorem deriveF_take (s t u : List UInt8) {k n : Nat} (h : k ≤ n) : (deriveF s t u n).take k = deriveF s t u k := by
  rw [deriveF, deriveF, List.take_take, Nat.min_eq_left h, ← outF_take _ _ ((n + 31) / 32) ((k + 31) / 32) (by omega), List.take_take, Nat.min_eq_left (by omega)]

theorem macK_long {key : List UInt8} (h : 64 < key.length) : macK (shaF key) = macK key := by
  have h2 : ¬ 64 < (shaF key).length := by rw [shaF_len]; decide
  simp only [macK, if_pos h, if_neg h2]

theorem macK_zero {key : List UInt8} (h : key.length < 64) : macK (key ++ [0]) = macK key := by
  have h1 : ¬ 64 < key.length := by omega
  have h2 : ¬ 64 < (key ++ [0]).length := by rw [List.length_append, List.length_singleton]; omega
  simp only [macK, if_neg h1, if_neg h2]
  rw [List.append_assoc]
  congr 1
  obtain ⟨k, hk⟩ : ∃ k, 64 - key.length = k + 1 := ⟨63 - key.length, by omega⟩
  rw [hk, List.length_append, List.length_singleton, show 64 - (key.length + 1) = k by omega, List.replicate_succ]
  rfl

theorem derE_some (x : Int) : (derE x).isSome = (decide (x < 0) || decide (x > 8160)) := by
  rw [derE]
  by_cases h : x < 0 <;> by_cases h2 : 8160 < x <;> simp [h, h2]

theorem longer_spec (a0 : Option Addr) (n0 c0 : Nat) (l0 : List UInt8) (a1 : Option Addr) (n1 c1 : Nat) (l1 : List UInt8) (x y : Int) (w : World) (hK : KTab w) (hr0 : RdB w a0 n0 c0 l0) (hr1 : RdB w a1 n1 c1 l1) :
    Calls Tryd.prog 31 #[.slice a0 n0 c0, .slice a1 n1 c1, .int .i64 x, .int .i64 y] w fun e w' => e = .returned (.bool true) ∧ Chg [] w w' := by
  have e0 := hr0.lenB
  have e1 := hr1.lenB
  apply amphoralaw02_longer_vc
  refine (alive_spec w hK).mono ?_
  rintro e w1 ⟨rfl, hc1⟩
  refine ⟨_, rfl, fun h => by simp at h, fun _ => ?_⟩
  obtain ⟨g2, w2, r2, h2⟩ := ((St.start w).same hc1).lit bbT [.slice a0 n0 c0, .slice a1 n1 c1] (by simp [Value.oneCell']) (by simp)
  refine ⟨_, _, _, _, r2, (large_spec _ 2 2 _ [l0, l1] w2 (h2.rd (i := 0) rfl) (row2_two (h2.rd1 hr0) (h2.rd1 hr1)) (by decide)).mono ?_⟩
  rintro e w3 ⟨rfl, rfl⟩
  refine ⟨_, rfl, fun _ => ⟨rfl, h2.chg⟩, fun h => ?_⟩
  have hsm : n0 + n1 ≤ 65536 := by
    simp only [List.flatten_cons, List.flatten_nil, List.append_nil, List.length_append, decide_eq_false_iff_not] at h
    omega
  clear h
  obtain ⟨g4, w4, r4, h4⟩ := (St.start w3).lit bbT [.slice a0 n0 c0] (by simp [Value.oneCell']) (by simp)
  have d4 := h2.chg.trans h4.chg
  refine ⟨_, _, _, _, r4, (shaSum_spec _ 1 1 _ [l0] w4 (hK.keep0 d4) (h4.rd (i := 0) rfl) (row2_one (hr0.keep0 d4)) (by simp; omega) (by decide)).mono ?_⟩
  rintro e w5 ⟨rfl, hc5⟩
  have hk1 : shaF [l0].flatten = shaF l0 := by simp
  rw [hk1]
  obtain ⟨g6, w6, r6, h6⟩ := ((St.start w).same (d4.trans hc5)).zeroA d32Z
  obtain ⟨w7, r7, h7⟩ := h6.stA (i := 0) (v := bv (shaF l0)) rfl (d32S _) (by simp) (by simp) (bv_one _)
  have k0 : ∀ w', Chg [] w7 w' → RdB w' a0 n0 c0 l0 := fun w' h => hr0.keep0 (h7.chg.trans h)
  have k1 : ∀ w', Chg [] w7 w' → RdB w' a1 n1 c1 l1 := fun w' h => hr1.keep0 (h7.chg.trans h)
  have kd : ∀ w', Chg [] w7 w' → RdB w' (some ⟨g6, 0, none⟩) 32 32 (shaF l0) := fun w' h => (h7.same h).rdA (i := 0) rfl (by simp)
  have kK : ∀ w', Chg [] w7 w' → KTab w' := fun w' h => hK.keep0 (h7.chg.trans h)
  have hm1 : [l1].flatten = l1 := by simp
  have lit1 : ∀ w', Chg [] w7 w' → ∃ g w'', (Instr.buildSlice 31 1 #[(0, .slice a1 n1 c1)]).run Tryd.prog w' = .ok (.slice (some ⟨g, 0, none⟩) 1 1) w'' ∧ Chg [] w' w'' ∧ Rd w'' (some ⟨g, 0, none⟩) 1 1 1 [.slice a1 n1 c1] := fun w' h => by
    obtain ⟨g, w'', r, hS⟩ := (St.start w').lit bbT [.slice a1 n1 c1] (by simp [Value.oneCell']) (by simp)
    exact ⟨g, w'', r, hS.chg, hS.rd (i := 0) rfl⟩
  have macAt : ∀ w' a n c k t, Chg [] w7 w' → RdB w' a n c k → n ≤ 70368744170000 → Rd w' t 1 1 1 [.slice a1 n1 c1] → Calls Tryd.prog 15 #[.slice a n c, .slice t 1 1] w' fun e w'' => e = .returned (.agg (bv (macF k l1)).toArray) ∧ Chg [] w' w'' := fun w' a n c k t h hk hb ht => by
    have := mac_spec a n c k t 1 1 _ [l1] w' (kK w' h) hk hb ht (row2_one (k1 w' h)) (by rw [hm1]; omega) (by decide)
    rw [hm1] at this
    exact this
  have hz := Chg.refl [] w7
  have hdr := Chg.drew [] w7
  refine ⟨_, rfl, g6, w6, r6, w7, r7, fun b w' => b = false ∧ Chg [] w7 w', ⟨fun w' => Chg [] w7 w', hdr, fun h => ?_, fun _ => ⟨⟨hdr, ⟨hdr, hdr, hdr, rfl, hdr⟩, hdr, hdr, hdr, rfl, hdr⟩, hdr, hdr, hdr, hdr, rfl, hdr⟩⟩, ?_⟩
  · have hlong : 64 < l0.length := by simp at h; omega
    have hmk : macF (shaF l0) l1 = macF l0 l1 := macF_congr (macK_long hlong) l1
    refine ⟨by omega, by omega, ?_, ?_⟩
    · obtain ⟨g8, w8, r8, c8, t8⟩ := lit1 _ hdr
      have d8 := hdr.trans c8
      refine ⟨_, _, _, _, r8, fun w' => Chg [] w7 w', fun w' h => h, d8, ?_, ?_⟩
      · refine (macAt w8 a0 n0 c0 l0 _ d8 (k0 _ d8) (by omega) t8).mono ?_
        rintro e w9 ⟨rfl, c9⟩
        have d9 := d8.trans c9
        obtain ⟨g10, w10, r10, c10, t10⟩ := lit1 _ d9
        have d10 := d9.trans c10
        refine ⟨_, rfl, fun w' => Chg [] w7 w', fun w' h => h, d9, _, _, _, _, r10, fun w' => Chg [] w7 w', fun w' h => h, d10, (macAt w10 _ 32 32 (shaF l0) _ d10 (kd _ d10) (by omega) t10).mono ?_⟩
        rintro e w11 ⟨rfl, c11⟩
        rw [hmk]
        exact ⟨_, rfl, fun w' => Chg [] w7 w', fun w' h => h, d10.trans c11, _, fun w' _ => neD _ _ _ (by simp) _, rfl, d10.trans c11⟩
      · obtain ⟨g10, w10, r10, c10, t10⟩ := lit1 _ d8
        have d10 := d8.trans c10
        refine ⟨_, _, _, _, r10, fun w' => Chg [] w7 w', fun w' h => h, d10, (macAt w10 a0 n0 c0 l0 _ d10 (k0 _ d10) (by omega) (t8.keep0 c10)).mono ?_⟩
        rintro e w9 ⟨rfl, c9⟩
        have d9 := d10.trans c9
        refine ⟨_, rfl, fun w' => Chg [] w7 w', fun w' h => h, d9, (macAt w9 _ 32 32 (shaF l0) _ d9 (kd _ d9) (by omega) (t10.keep0 c9)).mono ?_⟩
        rintro e w11 ⟨rfl, c11⟩
        rw [hmk]
        exact ⟨_, rfl, fun w' => Chg [] w7 w', fun w' h => h, d9.trans c11, _, fun w' _ => neD _ _ _ (by simp) _, rfl, d9.trans c11⟩
    · obtain ⟨g8, w8, r8, c8, t8⟩ := lit1 _ hdr
      have d8 := hdr.trans c8
      obtain ⟨g10, w10, r10, c10, t10⟩ := lit1 _ d8
      have d10 := d8.trans c10
      refine ⟨_, _, _, _, r8, fun w' => Chg [] w7 w', fun w' h => h, d8, _, _, _, _, r10, fun w' => Chg [] w7 w', fun w' h => h, d10, (macAt w10 a0 n0 c0 l0 _ d10 (k0 _ d10) (by omega) t10).mono ?_⟩
      rintro e w9 ⟨rfl, c9⟩
      have d9 := d10.trans c9
      refine ⟨_, rfl, fun w' => Chg [] w7 w', fun w' h => h, d9, (macAt w9 _ 32 32 (shaF l0) _ d9 (kd _ d9) (by omega) ((t8.keep0 c10).keep0 c9)).mono ?_⟩
      rintro e w11 ⟨rfl, c11⟩
      rw [hmk]
      exact ⟨_, rfl, fun w' => Chg [] w7 w', fun w' h => h, d9.trans c11, _, fun w' _ => neD _ _ _ (by simp) _, rfl, d9.trans c11⟩
  rintro b w8 ⟨rfl, d8⟩
  refine ⟨fun h => (by cases h), fun _ => ⟨fun b w' => b = false ∧ Chg [] w7 w', ⟨fun h => ?_, fun _ => ⟨rfl, d8⟩⟩, ?_⟩⟩
  · have hshort : l0.length < 64 := by simp at h; omega
    have hmk : macF (l0 ++ [0]) l1 = macF l0 l1 := macF_congr (macK_zero hshort) l1
    obtain ⟨g9, w9, r9, h9⟩ := (St.start w8).lit bT [] (by simp) (by simp)
    obtain ⟨va, vc, w10, r10, h10⟩ := h9.appendB (i := 0) (xs := []) rfl ((k0 _ d8).keep0 h9.chg) (by simp; omega)
    obtain ⟨g11, w11, r11, h11⟩ := h10.lit bT [.int .u8 0] (by simp [Value.oneCell']) (by simp)
    have z11 : RdB w11 (some ⟨g11, 0, none⟩) 1 1 [0] := h11.rd (i := 1) rfl
    obtain ⟨vb, vd, w12, r12, h12⟩ := h11.appendB (i := 0) rfl z11 (by simp; omega)
    have d12 := d8.trans h12.chg
    obtain ⟨g13, w13, r13, c13, t13⟩ := lit1 _ d12
    have d13 := d12.trans c13
    have hkz : RdB w13 vb (0 + n0 + 1) vd (l0 ++ [0]) := Rd.keep0 (h12.rd (i := 0) rfl) c13
    refine ⟨_, _, _, _, r9, _, _, _, _, r10, _, _, _, _, r11, _, _, _, _, r12, _, _, _, _, r13, (macAt w13 _ _ _ (l0 ++ [0]) _ d13 hkz (by omega) t13).mono ?_⟩
    rintro e w14 ⟨rfl, c14⟩
    have d14 := d13.trans c14
    obtain ⟨g15, w15, r15, c15, t15⟩ := lit1 _ d14
    have d15 := d14.trans c15
    refine ⟨_, rfl, _, _, _, _, r15, (macAt w15 a0 n0 c0 l0 _ d15 (k0 _ d15) (by omega) t15).mono ?_⟩
    rintro e w16 ⟨rfl, c16⟩
    rw [hmk]
    exact ⟨_, rfl, _, neD _ _ _ (by simp) _, rfl, d15.trans c16⟩
  rintro b w9 ⟨rfl, d9⟩
  refine ⟨fun h => (by cases h), fun _ => (derive_any a0 n0 c0 l0 a1 n1 c1 l1 a0 n0 c0 l0 x w9 (kK _ d9) (k0 _ d9) (k1 _ d9) (k0 _ d9) (by omega)).mono ?_⟩
  rintro e w10 ⟨a10, n10, c10, rfl, hf10⟩
  have d10 := d9.trans hf10.1
  refine ⟨_, _, _, _, rfl, (derive_any a0 n0 c0 l0 a1 n1 c1 l1 a0 n0 c0 l0 y w10 (kK _ d10) (k0 _ d10) (k1 _ d10) (k0 _ d10) (by omega)).mono ?_⟩
  rintro e w11 ⟨a11, n11, c11, rfl, hf11⟩
  have d11 := d10.trans hf11.1
  have q10 : RdB w11 a10 n10 c10 (derL l0 l1 l0 x) := hf10.rdB.keep0 hf11.1
  have q11 : RdB w11 a11 n11 c11 (derL l0 l1 l0 y) := hf11.rdB
  obtain ⟨m, hm⟩ := eI
  refine ⟨_, _, _, _, rfl, fun b w' => b = ((derE x).isSome || (derE y).isSome) ∧ w' = w11, ⟨_, neqS_nil hm _ _ _, fun h => ⟨by rw [h]; rfl, rfl⟩, fun h => ⟨_, neqS_nil hm _ _ _, by rw [h]; rfl, rfl⟩⟩, ?_⟩
  rintro b w12 ⟨rfl, rfl⟩
  refine ⟨fun h => ⟨_, neqS_nil hm _ _ _, fun h => ⟨_, neqS_nil hm _ _ _, fun h => ⟨?_, h7.chg.trans d11⟩, fun h => ⟨?_, h7.chg.trans d11⟩⟩, fun h => ?_⟩, fun h => ?_⟩
  · rw [derE_some, h]; rfl
  · rw [derE_some, h]; simp
  · rw [derE_some] at h; simp at h
  · rw [derE_some, derE_some] at h
    simp only [Bool.or_eq_false_iff, decide_eq_false_iff_not] at h
    obtain ⟨⟨hx0, hx1⟩, hy0, hy1⟩ := h
    have lx : derL l0 l1 l0 x = deriveF l0 l1 l0 x.toNat := by rw [derL, if_neg (by omega)]
    have ly : derL l0 l1 l0 y = deriveF l0 l1 l0 y.toNat := by rw [derL, if_neg (by omega)]
    rw [lx] at q10
    rw [ly] at q11
    have m10 := q10.lenB
    have m11 := q11.lenB
    rw [deriveF_len] at m10 m11
    have le10 := q10.le
    have le11 := q11.le
    refine ⟨fun h => ?_, fun _ => ?_⟩
    · simp only [Bool.or_eq_true, bne_iff_ne] at h
      omega
    obtain ⟨k, hk⟩ : ∃ k, Int.toNat (if y < x then y else x) = k := ⟨_, rfl⟩
    have hk' : 0 ≤ (if y < x then y else x) ∧ (if y < x then y else x) ≤ (c10 : Int) ∧ (if y < x then y else x) ≤ (c11 : Int) ∧ k ≤ n10 ∧ k ≤ n11 := by
      split at hk <;> split <;> omega
    rw [hk]
    have dz := Chg.drew [] w12
    have s10 := rdB_upto (q10.keep0 dz) hk'.2.2.2.1
    have s11 := rdB_upto (q11.keep0 dz) hk'.2.2.2.2
    rw [deriveF_take _ _ _ (by omega)] at s10 s11
    refine ⟨fun w' => Chg [] w12.drew w', Chg.refl _ _, hk'.1, hk'.2.1, hk'.1, hk'.2.2.1, _, fun w' h => toStr bS bE sS (s10.keep0 h).cells s10.lenB, _, fun w' h => toStr bS bE sS (s11.keep0 h).cells s11.lenB, by simp, (h7.chg.trans d11).trans dz⟩

theorem shaKeys_walk (a0 : Option Addr) (n0 c0 : Nat) (l0 : List UInt8) (a1 : Option Addr) (n1 c1 : Nat) (l1 : List UInt8) (x y : Int) (w : World) (hK : KTab w) (hr0 : RdB w a0 n0 c0 l0) (hr1 : RdB w a1 n1 c1 l1) :
    Calls Tryd.prog 7 #[.agg (keysL a0 n0 c0 a1 n1 c1 x y).toArray] w fun e w' => e = .returned (.bool true) ∧ Chg [] w w' := by
  apply amphoralaw02_ShaKeys_vc
  obtain ⟨g1, w1, r1, h1⟩ := (St.start w).boxA 53 (keysL a0 n0 c0 a1 n1 c1 x y)
  refine ⟨g1, w1, r1, _, _, _, h1.ldL (i := 0) (o := 0) rfl (bsA _) rfl rfl, _, _, _, h1.ldL (i := 0) (o := 1) rfl (bsA _) rfl rfl, _, h1.ldL (i := 0) (o := 2) rfl (iA _) rfl rfl, _, h1.ldL (i := 0) (o := 3) rfl (iA _) rfl rfl, (longer_spec a0 n0 c0 l0 a1 n1 c1 l1 x y w1 (hK.keep0 h1.chg) (h1.rd1 hr0) (h1.rd1 hr1)).mono ?_⟩
  rintro e w2 ⟨rfl, hc2⟩
  exact ⟨_, rfl, rfl, h1.chg.trans hc2⟩

end Go.Proofs.YtpodhfomjljfbaaDoor
