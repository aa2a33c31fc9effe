/- Contracts of sha: sum, Hasher, Sum (conditions: those that each theorem names). -/
import Derived.Test.YtefnlbgkfingfaaDoorShaB
namespace Go.Proofs.YtefnlbgkfingfaaDoor
open Go Sx
set_option maxRecDepth 8000

theorem d32A (w : World) : (isAgg 22).run Tryd.prog w = .ok true w := Tryd.isAgg22 w
theorem d32S (w : World) : (sizeOf 22).run Tryd.prog w = .ok 32 w := Tryd.sizeOf22 w
theorem d32Z (w : World) : (zeroValue 22).run Tryd.prog w = .ok (.agg (bv (List.replicate 32 0)).toArray) w := Tryd.zeroValue22 w
theorem stA (w : World) : (isAgg 103).run Tryd.prog w = .ok true w := Tryd.isAgg103 w
theorem stS (w : World) : (sizeOf 103).run Tryd.prog w = .ok 10 w := Tryd.sizeOf103 w
theorem stZ (w : World) : (zeroValue 103).run Tryd.prog w = .ok (.agg (hsL (List.replicate 8 0) none 0 0 0).toArray) w := Tryd.zeroValue103 w

theorem hsL_one (h : List Nat) (a : Option Addr) (k c : Nat) (n : Int) : ∀ u ∈ hsL h a k c n, u.oneCell' = true := by
  intro u hu
  simp only [hsL, List.mem_append, List.mem_cons, List.not_mem_nil, or_false] at hu
  rcases hu with hu | rfl | rfl
  · exact kv_one _ _ u hu
  · rfl
  · rfl

theorem built_state : Tryd.prog.built 103 = fun parts => Instr.fill (fun i => (#[(0, 8), (8, 1), (9, 1)] : Array (Nat × Nat))[i]?) (hsL (List.replicate 8 0) none 0 0 0).toArray parts := by kernel_rfl
theorem built_hasher : Tryd.prog.built 106 = fun parts => Instr.fill (fun i => (#[(0, 10)] : Array (Nat × Nat))[i]?) (hsL (List.replicate 8 0) none 0 0 0).toArray parts := by kernel_rfl

theorem state_build {h : List Nat} (hh : h.length = 8) (w : World) : (Instr.build 103 #[(0, .agg (kv .u32 h).toArray)]).run Tryd.prog w = .ok (.agg (hsL h none 0 0 0).toArray) w := by
  apply run_build
  rw [built_state]
  show Instr.fill _ _ [(0, .agg (kv .u32 h).toArray)] = _
  rw [fill_step (off := 0) (sz := 8) rfl (by simp [Value.cells, hh]) (by simp [hsL])]
  simp [Instr.fill, Value.cells, hsL]
theorem hasher_build {l : List Value} (hl : l.length = 10) (w : World) : (Instr.build 106 #[(0, .agg l.toArray)]).run Tryd.prog w = .ok (.agg l.toArray) w := by
  apply run_build
  rw [built_hasher]
  show Instr.fill _ _ [(0, .agg l.toArray)] = _
  rw [fill_step (off := 0) (sz := 10) rfl (by simp [Value.cells, hl]) (by simp [hsL])]
  simp [Instr.fill, Value.cells, hsL]

theorem shaBegin_spec (w : World) : Calls Tryd.prog 61 #[] w fun e w' => e = .returned (.agg (hsL h0L none 0 0 0).toArray) ∧ Chg [] w w' := by
  apply sha_begin_vc
  obtain ⟨g1, w1, r1, h1⟩ := (St.start w).zeroA stZ
  have hb : (Instr.build 100 (((kv .u32 h0L).zipIdx 0).map fun p => (p.2, p.1)).toArray).run Tryd.prog w1 = .ok (.agg (kv .u32 h0L).toArray) w1 := by
    have := build_arr (P := Tryd.prog) (w := w1) (w8Z w1) Tryd.underlying100 (uS _) (kv .u32 h0L) (kv_one _ _) (by simp [h0L])
    rwa [List.drop_of_length_le (by simp [h0L]), List.append_nil] at this
  obtain ⟨w2, r2, h2⟩ := h1.stA (i := 0) (v := hsL h0L none 0 0 0) rfl (stS _) (hsL_len (by simp) _ _ _ _) (hsL_len rfl _ _ _ _) (hsL_one _ _ _ _ _)
  exact ⟨_, _, r1, _, hb, _, state_build rfl _, w2, r2, _, h2.ldVarA (i := 0) rfl (stA _) (stS _) (hsL_len rfl _ _ _ _), rfl, h2.chg⟩

theorem shaNew_spec (w : World) : Calls Tryd.prog 56 #[] w fun e w' => ∃ g, e = .returned (.pointer (some ⟨g, 0, none⟩)) ∧ St w [] w' (hM g 106 [] none 0) := by
  apply sha_New_vc
  refine (shaBegin_spec w).mono ?_
  rintro e w1 ⟨rfl, hc1⟩
  obtain ⟨g, w2, r2, h2⟩ := ((St.start w).same hc1).boxA (P := Tryd.prog) 106 (hsL h0L none 0 0 0)
  exact ⟨_, rfl, _, hasher_build (hsL_len rfl _ _ _ _) w1, g, w2, r2, g, rfl, h2.addNil _ _⟩

theorem lenB_val (n x : Nat) (hx : x < 8) : IntKind.wrap .u8 (shrI .u64 (IntKind.wrap .u64 (IntKind.wrap .u64 (n : Int) * 8)) ((56 - 8 * x : Nat) : Int)) = ((lenB n x).toNat : Int) := by
  have e : IntKind.wrap .u64 (IntKind.wrap .u64 (n : Int) * 8) = ((n * 8 % 18446744073709551616 : Nat) : Int) := by
    rw [wrap_u64, wrap_u64]; omega
  rw [e, shr_nat _ _ _ (by simp [IntKind.bits]; omega), wrap_u8, lenB, UInt8.toNat_ofNat']
  simp

theorem digB_val (h : List Nat) (i j : Nat) (hj : j < 4) : IntKind.wrap .u8 (shrI .u32 ((h.getD i 0 : Nat) : Int) ((24 - 8 * j : Nat) : Int)) = ((digB h (4 * i + j)).toNat : Int) := by
  rw [shr_val _ _ (by omega), wrap_u8, digB, show (4 * i + j) / 4 = i by omega, show (4 * i + j) % 4 = j by omega, UInt8.toNat_ofNat']
  simp

/-- Some cells at the front of an array, read whole. -/
theorem Sx.St.ldPre {w0 w : World} {X : List Nat} {M : List Res} (h : St w0 X w M) {i g n : Nat} {l : List Value} {T' T : TypeId} (hi : M[i]? = some (.arr g T' l)) (hT : (isAgg T).run Tryd.prog w = .ok true w) (hS : (sizeOf T).run Tryd.prog w = .ok n w) (hl : n ≤ l.length) :
    (Instr.loadAt T (.pointer (some ⟨g, 0, none⟩))).run Tryd.prog w = .ok (.agg (l.take n).toArray) w := by
  have hr : w.rangeAt g 0 (l.take n) := fun j v hj => by
    rw [List.getElem?_take] at hj
    split at hj
    · exact h.cellsA hi j v hj
    · cases hj
  have := loadCells_cells (P := Tryd.prog) hr
  rw [List.length_take, Nat.min_eq_left hl] at this
  simp [Instr.loadAt, Instr.sureAddr, loadVar, hT, hS, this]

theorem sum_val_spec (m : List UInt8) (a : Option Addr) (c : Nat) (w : World) (hK : KTab w) (hr : RdB w a (rOf m).length c (rOf m)) (hb : m.length ≤ 70368744177664) :
    Calls Tryd.prog 63 #[.agg (hsL (hOf m) a (rOf m).length c (m.length : Int)).toArray] w fun e w' => e = .returned (.agg (bv (shaF m)).toArray) ∧ Chg [] w w' := by
  have iI : ∀ w, (isAgg 3).run Tryd.prog w = .ok false w := fun w => Tryd.isAgg3 w
  have sS : ∀ w, (sizeOf 23).run Tryd.prog w = .ok 1 w := fun w => Tryd.sizeOf23 w
  have sB : ∀ w, (sizeOf 5).run Tryd.prog w = .ok 1 w := fun w => Tryd.sizeOf5 w
  have hhl := hOf_len m
  have hrl := rOf_len m
  obtain ⟨k, hk⟩ : ∃ k, (rOf m).length = k := ⟨_, rfl⟩
  rw [hk] at hr hrl ⊢
  apply sha_state_sum_vc
  obtain ⟨g1, w1, r1, h1⟩ := (St.start w).boxA (P := Tryd.prog) 103 (hsL (hOf m) a k c (m.length : Int))
  obtain ⟨g2, w2, r2, h2⟩ := h1.zeroA d32Z
  refine ⟨_, _, r1, _, _, r2, _, h2.ldL (i := 0) (o := 9) rfl (iI _) rfl (hsL_9 hhl _ _ _ _), _, _, _, h2.ldL (i := 0) (o := 8) rfl (bsA _) rfl (hsL_8 hhl _ _ _ _), (clone_spec a k c (rOf m) w2 (h2.rd1 hr) (by omega)).mono ?_⟩
  rintro e w3 ⟨a3, c3, rfl, hf3⟩
  have h3 := hf3.add h2
  obtain ⟨w4, r4, h4⟩ := h3.stL (i := 0) (o := 8) (v := .slice a3 k c3) rfl (sS _) rfl (by rw [hsL_len hhl]; omega) rfl
  rw [hsL_set8 hhl] at h4
  obtain ⟨g5, w5, r5, h5⟩ := h4.mk0n (kl := .i64) (kc := .i64) (c := 80) bT (by omega) (by omega)
  obtain ⟨g6, w6, va, vc, w7, r6, r7, h7, _⟩ := h5.push1 (i := 3) (n := 0) (pre := []) rfl (by omega) 128 (by decide)
  refine ⟨_, _, _, rfl, w4, r4, _, _, _, _, r5, _, _, _, _, r6, _, _, _, _, r7, ?_⟩
  have e128 : UInt8.ofNat 128 = 0x80 := rfl
  obtain ⟨n, hn⟩ : ∃ n, m.length = n := ⟨_, rfl⟩
  rw [hn] at hrl hb h7 ⊢
  obtain ⟨Mx, hMx⟩ : ∃ Mx : List Res, Mx = [.arr g1 103 (hsL (hOf m) a3 k c3 (n : Int)), .arr g2 22 (bv (List.replicate 32 0)), .row 5 1 (.slice a3 k c3) k (bv (rOf m))] := ⟨_, rfl⟩
  have ldn : ∀ {w' : World} {N : List Res}, St w [] w' (Mx ++ N) → (Instr.loadAt 3 (.pointer (some ⟨g1, 9, none⟩))).run Tryd.prog w' = .ok (.int .i64 (n : Int)) w' := fun {w' N} h => by
    rw [hMx] at h; exact h.ldL (i := 0) (o := 9) rfl (iI _) rfl (hsL_9 hhl _ _ _ _)
  have hi3 : ∀ (r : Res), (Mx ++ [r])[3]? = some r := fun r => by rw [hMx]; rfl
  have hs3 : ∀ (r s : Res), (Mx ++ [r]).set 3 s = Mx ++ [s] := fun r s => by rw [hMx]; rfl
  have h7' : St w [] w7 (Mx ++ [.row 5 1 (.slice va 1 vc) 1 (bv [0x80])]) := by rw [hMx]; exact h7
  clear h7 h5 h4 h3
  refine ⟨fun xa xn xc w' => ∃ z : Nat, z ≤ zerosN n ∧ xn = 1 + z ∧ St w [] w' (Mx ++ [.row 5 1 (.slice xa xn xc) xn (bv (0x80 :: List.replicate z 0))]), fun _ xn _ _ => 1 + zerosN n - xn, ⟨0, by omega, rfl, h7'⟩, ?_⟩
  rintro xa xn xc w8 ⟨z, hz, rfl, h8⟩
  have hzl := zerosN_lt n
  have hmod : IntKind.wrap .i64 (IntKind.wrap .i64 ((n : Int) + ((1 + z : Nat) : Int)) + 8) = ((n + (1 + z) + 8 : Nat) : Int) := by
    rw [show IntKind.wrap .i64 ((n : Int) + ((1 + z : Nat) : Int)) = ((n + (1 + z) : Nat) : Int) by rw [wrap_i64 (by omega) (by omega)]; omega, wrap_i64 (by omega) (by omega)]; omega
  refine ⟨_, ldn h8, fun h => ?_, fun h => ?_⟩
  · rw [hmod, Int.tmod_eq_emod_of_nonneg (by omega)] at h
    have hne : (n + (1 + z) + 8) % 64 ≠ 0 := by simp at h; omega
    have hz' : z < zerosN n := by
      rcases Nat.lt_or_ge z (zerosN n) with h1 | h1
      · exact h1
      · have : z = zerosN n := by omega
        rw [this] at hne
        simp only [zerosN] at hne
        omega
    obtain ⟨g9, w9, vb, vd, w10, r9, r10, h10, _⟩ := h8.push1 (i := 3) (n := 1 + z) (hi3 _) (by omega) 0 (by decide)
    rw [hs3] at h10
    refine ⟨_, _, _, _, r9, _, _, _, _, r10, ⟨z + 1, by omega, by omega, ?_⟩, (by show 1 + zerosN n - (1 + z + 1) < 1 + zerosN n - (1 + z); omega)⟩
    have : (0x80 :: List.replicate z 0) ++ [UInt8.ofNat 0] = (0x80 : UInt8) :: List.replicate (z + 1) 0 := by
      rw [List.replicate_succ']; rfl
    rw [← this]
    exact h10
  · rw [hmod, Int.tmod_eq_emod_of_nonneg (by omega)] at h
    have he : (n + (1 + z) + 8) % 64 = 0 := by simp at h; omega
    have hz' : z = zerosN n := by
      simp only [zerosN] at hz ⊢
      omega
    subst hz'
    refine ⟨fun xa xn xc x w' => ∃ j : Nat, x = (j : Int) ∧ j ≤ 8 ∧ xn = 1 + zerosN n + j ∧ St w [] w' (Mx ++ [.row 5 1 (.slice xa xn xc) xn (bv (0x80 :: (List.replicate (zerosN n) 0 ++ (List.range j).map (lenB n))))]), fun _ _ _ x _ => 8 - x.toNat, ⟨0, rfl, by omega, rfl, by simpa using h8⟩, ?_⟩
    rintro ya yn yc y w11 ⟨j, rfl, hj, rfl, h11⟩
    refine ⟨fun h => ?_, fun h => ?_⟩
    · have hj' : j < 8 := by simp at h; omega
      have e1 : IntKind.wrap .i64 ((56 : Int) - IntKind.wrap .i64 (8 * (j : Int))) = ((56 - 8 * j : Nat) : Int) := by
        rw [show IntKind.wrap .i64 (8 * (j : Int)) = ((8 * j : Nat) : Int) by rw [wrap_i64 (by omega) (by omega)]; omega, wrap_i64 (by omega) (by omega)]; omega
      rw [e1, lenB_val n j hj']
      obtain ⟨g12, w12, vb, vd, w13, r12, r13, h13, _⟩ := h11.push1 (i := 3) (n := 1 + zerosN n + j) (hi3 _) (by omega) (lenB n j).toNat (lenB n j).toNat_lt
      rw [hs3] at h13
      refine ⟨by omega, _, _, _, _, r12, _, _, _, _, r13, ⟨j + 1, wrap_succ hj' (by omega), by omega, by omega, ?_⟩, mu_succ hj' (by omega)⟩
      have : (0x80 :: (List.replicate (zerosN n) 0 ++ (List.range j).map (lenB n))) ++ [UInt8.ofNat (lenB n j).toNat] = (0x80 : UInt8) :: (List.replicate (zerosN n) 0 ++ (List.range (j + 1)).map (lenB n)) := by
        rw [List.range_succ, List.map_append]; simp
      rw [← this]
      exact h13
    · have hj' : j = 8 := by simp at h; omega
      subst hj'
      have hpl : (padL n).length = 1 + zerosN n + 8 := by rw [padL_len]; omega
      have h11' : St w [] w11 (Mx ++ [.row 5 1 (.slice ya (1 + zerosN n + 8) yc) (1 + zerosN n + 8) (bv (padL n))]) := h11
      -- the state and its rest, the others ahead
      have hp : St w [] w11 ([.row 5 1 (.slice ya (1 + zerosN n + 8) yc) (1 + zerosN n + 8) (bv (padL n)), .arr g2 22 (bv (List.replicate 32 0))] ++ hM g1 103 m a3 c3) := by
        rw [hMx] at h11'
        rw [hM, hk, hn]
        refine h11'.perm ?_
        refine (List.perm_append_comm (l₁ := [_, _, _]) (l₂ := [_])).trans (List.Perm.cons _ (List.Perm.swap _ _ _))
      have hS0 := (hp.sub (List.sublist_append_right _ _))
      have hgk : 0 ∉ fpsL (hM g1 103 m a3 c3) := fun hx => by
        have := hS0.fps_own _ hx
        have := hK.lt
        omega
      refine (write_spec _ g1 _ m a3 c3 ya _ yc (padL n) w11 (hK.keep0 hp.chg) hgk hS0.self (rdK_row hp (by simp)) (by omega)).mono ?_
      rintro e w14 ⟨rfl, a14, c14, h14⟩
      have h14' := hp.callPart h14
      have htot : (m ++ padL n).length = n + (1 + zerosN n + 8) := by rw [List.length_append, hpl, hn]
      obtain ⟨H, hH⟩ : ∃ H, hOf (m ++ padL n) = H := ⟨_, rfl⟩
      have hHl : H.length = 8 := by rw [← hH]; exact hOf_len _
      have hsha : shaF m = digL H := by rw [shaF, hn, hH]
      rw [hsha]
      rw [hM, hH] at h14'
      obtain ⟨g15, w15, r15, h15⟩ := h14'.zeroA d32Z
      obtain ⟨N, hN⟩ : ∃ N : List Res, N = [.row 5 1 (.slice ya (1 + zerosN n + 8) yc) (1 + zerosN n + 8) (bv (padL n)), .arr g2 22 (bv (List.replicate 32 0))] ++ [.arr g1 103 (hsL H a14 (rOf (m ++ padL n)).length c14 ((m ++ padL n).length : Int)), .row 5 1 (.slice a14 (rOf (m ++ padL n)).length c14) (rOf (m ++ padL n)).length (bv (rOf (m ++ padL n)))] := ⟨_, rfl⟩
      have hpre : ((hsL H a14 (rOf (m ++ padL n)).length c14 ((m ++ padL n).length : Int))).take 8 = kv .u32 H := by
        rw [hsL, List.take_append_of_le_length (by simp [hHl]), List.take_of_length_le (by simp [hHl])]
      have hld := h15.ldPre (T := 100) (i := 2) rfl (w8A _) (w8S _) (by rw [hsL_len hHl]; omega)
      rw [hpre] at hld
      have hi4 : ∀ (r : Res), (N ++ [r])[4]? = some r := fun r => by rw [hN]; rfl
      have hi1 : ∀ (r : Res), (N ++ [r])[1]? = some (.arr g2 22 (bv (List.replicate 32 0))) := fun r => by rw [hN]; rfl
      have hs4 : ∀ (r s : Res), (N ++ [r]).set 4 s = N ++ [s] := fun r s => by rw [hN]; rfl
      have h15' : St w [] w15 (N ++ [.arr g15 22 (bv (upTo (digL H) 0))]) := by rw [hN, upTo_zero, digL_len]; exact h15
      clear h15
      refine ⟨rfl, g15, w15, r15, _, hld, fun x w' => ∃ i : Nat, x = (i : Int) ∧ i ≤ 8 ∧ St w [] w' (N ++ [.arr g15 22 (bv (upTo (digL H) (4 * i)))]), fun x _ => 8 - x.toNat, ⟨0, rfl, by omega, h15'⟩, ?_⟩
      rintro x w16 ⟨i, rfl, hi, h16⟩
      refine ⟨fun h => ?_, fun h => ?_⟩
      · have hi' : i < 8 := by simp at h; omega
        have e1 : IntKind.wrap .i64 ((4 : Int) * (i : Int)) = ((4 * i : Nat) : Int) := by rw [wrap_i64 (by omega) (by omega)]; omega
        have e2 : ∀ j : Nat, j < 4 → IntKind.wrap .i64 (((4 * i : Nat) : Int) + (j : Int)) = ((4 * i + j : Nat) : Int) := fun j hj => by rw [wrap_i64 (by omega) (by omega)]; omega
        have e21 : IntKind.wrap .i64 (((4 * i : Nat) : Int) + 1) = ((4 * i + 1 : Nat) : Int) := e2 1 (by omega)
        have e22 : IntKind.wrap .i64 (((4 * i : Nat) : Int) + 2) = ((4 * i + 2 : Nat) : Int) := e2 2 (by omega)
        have e23 : IntKind.wrap .i64 (((4 * i : Nat) : Int) + 3) = ((4 * i + 3 : Nat) : Int) := e2 3 (by omega)
        rw [e1, e21, e22, e23]
        refine ⟨_, ixArr (cs := kv .u32 H) Tryd.underlying100 (uS _) (uA _) hi' (kv_get (by omega)), ?_⟩
        have v0 : IntKind.wrap .u8 (shrI .u32 ((H.getD i 0 : Nat) : Int) 24) = ((digB H (4 * i)).toNat : Int) := digB_val H i 0 (by omega)
        have v1 : IntKind.wrap .u8 (shrI .u32 ((H.getD i 0 : Nat) : Int) 16) = ((digB H (4 * i + 1)).toNat : Int) := digB_val H i 1 (by omega)
        have v2 : IntKind.wrap .u8 (shrI .u32 ((H.getD i 0 : Nat) : Int) 8) = ((digB H (4 * i + 2)).toNat : Int) := digB_val H i 2 (by omega)
        have v3 : IntKind.wrap .u8 ((H.getD i 0 : Nat) : Int) = ((digB H (4 * i + 3)).toNat : Int) := by
          have := digB_val H i 3 (by omega)
          rw [show 24 - 8 * 3 = 0 from rfl, shr_val _ _ (by omega), Nat.pow_zero, Nat.div_one] at this
          exact this
        rw [v0, v1, v2, v3]
        have ze : ∀ k : Nat, 0 + Int.toNat (k : Int) * 1 = k := fun k => by omega
        have hdl : (digL H).length = 32 := digL_len H
        obtain ⟨w17, q1, s1⟩ := h16.stB (b := digB H (4 * i)) (hi4 _) (sB _) (ze (4 * i)) (by rw [upTo_len (by omega)]; omega)
        rw [hs4, upTo_set (digL_get H (by omega))] at s1
        obtain ⟨w18, q2, s2⟩ := s1.stB (b := digB H (4 * i + 1)) (hi4 _) (sB _) (ze (4 * i + 1)) (by rw [upTo_len (by omega)]; omega)
        rw [hs4, upTo_set (digL_get H (by omega))] at s2
        obtain ⟨w19, q3, s3⟩ := s2.stB (b := digB H (4 * i + 2)) (hi4 _) (sB _) (ze (4 * i + 2)) (by rw [upTo_len (by omega)]; omega)
        rw [hs4, upTo_set (digL_get H (by omega))] at s3
        obtain ⟨w20, q4, s4⟩ := s3.stB (b := digB H (4 * i + 3)) (hi4 _) (sB _) (ze (4 * i + 3)) (by rw [upTo_len (by omega)]; omega)
        rw [hs4, upTo_set (digL_get H (by omega))] at s4
        refine ⟨by omega, by omega, w17, q1, by omega, by omega, w18, q2, by omega, by omega, w19, q3, by omega, by omega, w20, q4, ⟨i + 1, wrap_succ hi' (by omega), by omega, ?_⟩, mu_succ hi' (by omega)⟩
        rw [show 4 * (i + 1) = 4 * i + 3 + 1 by omega]
        exact s4
      · have hi' : i = 8 := by simp at h; omega
        subst hi'
        have hdl : (digL H).length = 32 := digL_len H
        rw [show 4 * 8 = (digL H).length by omega, upTo_all] at h16
        obtain ⟨w17, r17, h17⟩ := h16.stA (i := 1) (v := bv (digL H)) (hi1 _) (d32S _) (by simp) (by simp) (bv_one _)
        have hi1' : ((N ++ [Res.arr g15 22 (bv (digL H))]).set 1 (.arr g2 22 (bv (digL H))))[1]? = some (.arr g2 22 (bv (digL H))) := by rw [hN]; rfl
        exact ⟨_, h16.ldA (hi4 _) (d32A _) (d32S _) (by simp), w17, r17, _, h17.ldVarA hi1' (d32A _) (d32S _) (by simp), rfl, h17.chg⟩

end Go.Proofs.YtefnlbgkfingfaaDoor
