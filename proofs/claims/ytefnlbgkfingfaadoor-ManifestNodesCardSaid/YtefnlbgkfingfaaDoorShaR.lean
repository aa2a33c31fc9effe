/- Contracts of the reference's digest (conditions: those that each theorem names). -/
import Derived.Test.YtefnlbgkfingfaaDoorShaC
import Derived.Test.YtefnlbgkfingfaaDoorVsha
namespace Go.Proofs.YtefnlbgkfingfaaDoor
open Go Sx
set_option maxRecDepth 8000

theorem turn_spec (x n : Nat) (w : World) (hx : x < 4294967296) (hn : n < 32) (h0 : 0 < n) : Calls Tryd.prog 60 #[.int .u32 (x : Int), .int .u64 (n : Int)] w fun e w' => e = .returned (.int .u32 ((rotr x n : Nat) : Int)) ∧ w' = w := by
  apply amphoraref02_turn_vc
  have h2 : IntKind.wrap .u64 ((32 : Int) - (n : Int)) = ((32 - n : Nat) : Int) := by rw [wrap_u64]; omega
  rw [h2]
  refine ⟨by omega, by omega, ?_, rfl⟩
  rw [shl_val (show 32 - n ≤ 32 by omega), shr_val _ _ (by omega), or_val (shr_lt _ hx) (Nat.mod_lt _ (by decide)), Nat.or_comm]
  rfl

theorem filled_spec (a : Option Addr) (k c : Nat) (m : List UInt8) (w : World) (hr : RdB w a k c m) (hb : k ≤ 70368744177664) :
    Calls Tryd.prog 59 #[.slice a k c] w fun e w' => ∃ a' n' c', e = .returned (.slice a' n' c') ∧ FreshB w w' a' n' c' (m ++ padL m.length) := by
  have hl := hr.lenB
  subst hl
  obtain ⟨n, hn⟩ : ∃ n, m.length = n := ⟨_, rfl⟩
  rw [hn] at hr hb ⊢
  apply amphoraref02_filled_vc
  obtain ⟨g1, w1, r1, h1⟩ := (St.start w).lit bT [] (by simp) (by simp)
  obtain ⟨va, vc, w2, r2, h2⟩ := h1.appendB (i := 0) (xs := []) rfl (h1.rd1 hr) (by simp; omega)
  simp only [List.length_nil, Nat.zero_add, List.nil_append] at r2 h2
  obtain ⟨g3, w3, vb, vd, w4, r3, r4, h4, _⟩ := h2.push1 (i := 0) (n := n) (pre := m) rfl (by omega) 128 (by decide)
  refine ⟨_, _, _, _, r1, _, _, _, _, r2, _, _, _, _, r3, _, _, _, _, r4, ?_⟩
  have hzl := zerosN_lt n
  refine ⟨fun xa xn xc w' => ∃ z : Nat, z ≤ zerosN n ∧ xn = n + 1 + z ∧ St w [] w' [.row 5 1 (.slice xa xn xc) xn (bv (m ++ (0x80 :: List.replicate z 0)))], fun _ xn _ _ => n + 1 + zerosN n - xn, ⟨0, by omega, rfl, h4⟩, ?_⟩
  rintro xa xn xc w5 ⟨z, hz, rfl, h5⟩
  refine ⟨fun h => ?_, fun h => ?_⟩
  · rw [Int.tmod_eq_emod_of_nonneg (by omega)] at h
    have hne : (n + 1 + z) % 64 ≠ 56 := by simp at h; omega
    have hz' : z < zerosN n := by
      rcases Nat.lt_or_ge z (zerosN n) with h1 | h1
      · exact h1
      · have : z = zerosN n := by omega
        rw [this] at hne
        simp only [zerosN] at hne
        omega
    obtain ⟨g6, w6, vb, vd, w7, r6, r7, h7, _⟩ := h5.push1 (i := 0) (n := n + 1 + z) rfl (by omega) 0 (by decide)
    refine ⟨_, _, _, _, r6, _, _, _, _, r7, ⟨z + 1, by omega, by omega, ?_⟩, (by show n + 1 + zerosN n - (n + 1 + z + 1) < n + 1 + zerosN n - (n + 1 + z); omega)⟩
    have : m ++ (0x80 :: List.replicate z 0) ++ [UInt8.ofNat 0] = m ++ ((0x80 : UInt8) :: List.replicate (z + 1) 0) := by
      rw [List.replicate_succ']; simp
    rw [← this]
    exact h7
  · rw [Int.tmod_eq_emod_of_nonneg (by omega)] at h
    have he : (n + 1 + z) % 64 = 56 := by simp at h; omega
    have hz' : z = zerosN n := by
      simp only [zerosN] at hz ⊢
      omega
    subst hz'
    refine ⟨fun xa xn xc x w' => ∃ j : Nat, x = (j : Int) ∧ j ≤ 8 ∧ xn = n + 1 + zerosN n + j ∧ St w [] w' [.row 5 1 (.slice xa xn xc) xn (bv (m ++ (0x80 :: (List.replicate (zerosN n) 0 ++ (List.range j).map (lenB n)))))], fun _ _ _ x _ => 8 - x.toNat, ⟨0, rfl, by omega, rfl, by simpa using h5⟩, ?_⟩
    rintro ya yn yc y w8 ⟨j, rfl, hj, rfl, h8⟩
    refine ⟨fun h => ?_, fun h => ?_⟩
    · have hj' : j < 8 := by simp at h; omega
      have e1 : IntKind.wrap .u64 ((56 : Int) - IntKind.wrap .u64 (8 * IntKind.wrap .u64 (j : Int))) = ((56 - 8 * j : Nat) : Int) := by
        simp only [wrap_u64]; omega
      rw [e1, lenB_val n j hj']
      obtain ⟨g9, w9, vb, vd, w10, r9, r10, h10, _⟩ := h8.push1 (i := 0) (n := n + 1 + zerosN n + j) rfl (by omega) (lenB n j).toNat (lenB n j).toNat_lt
      refine ⟨by omega, _, _, _, _, r9, _, _, _, _, r10, ⟨j + 1, wrap_succ hj' (by omega), by omega, by omega, ?_⟩, mu_succ hj' (by omega)⟩
      have : m ++ (0x80 :: (List.replicate (zerosN n) 0 ++ (List.range j).map (lenB n))) ++ [UInt8.ofNat (lenB n j).toNat] = m ++ ((0x80 : UInt8) :: (List.replicate (zerosN n) 0 ++ (List.range (j + 1)).map (lenB n))) := by
        rw [List.range_succ, List.map_append]; simp
      rw [← this]
      exact h10
    · have hj' : j = 8 := by simp at h; omega
      subst hj'
      exact ⟨_, _, _, rfl, St.freshB (l := m ++ padL n) h8 (i := 0) rfl⟩

/-- A word out of its first bytes. -/
def p4 (l : List UInt8) (o : Nat) : Nat → Nat
  | 0 => 0
  | j + 1 => p4 l o j * 256 + (l.getD (o + j) 0).toNat
theorem p4_lt (l : List UInt8) (o : Nat) : ∀ j, p4 l o j < 256 ^ j
  | 0 => by simp [p4]
  | j + 1 => by
    have := p4_lt l o j
    have hb := (l.getD (o + j) 0).toNat_lt
    rw [p4, Nat.pow_succ]; omega
theorem p4_be4 (l : List UInt8) (o : Nat) : p4 l o 4 = be4 l o := by simp [p4, be4]

theorem schedK_tail (b : List UInt8) : ∀ (k i : Nat), k ≤ i → i < 64 → (schedK b k)[i]? = some 0
  | 0, i, _, h => by rw [schedK, List.getElem?_replicate, if_pos h]
  | k + 1, i, hk, h => by rw [schedK, List.getElem?_set_ne (by omega)]; exact schedK_tail b k i (by omega) h

/-- A list of eight that is shifted from the end. -/
def shF (v : List Nat) (j : Nat) : List Nat := v.take (j + 1) ++ (v.drop j).take (7 - j)

theorem shF_7 {v : List Nat} (h : v.length = 8) : shF v 7 = v := by
  match v, h with
  | [_, _, _, _, _, _, _, _], _ => rfl
theorem shF_len {v : List Nat} (h : v.length = 8) {j : Nat} (hj : j ≤ 7) : (shF v j).length = 8 := by simp [shF]; omega
theorem shF_step {v : List Nat} (h : v.length = 8) {j : Nat} (h0 : 0 < j) (hj : j ≤ 7) : (shF v j).getD (j - 1) 0 = v.getD (j - 1) 0 ∧ (shF v j).set j (v.getD (j - 1) 0) = shF v (j - 1) := by
  match v, h with
  | [_, _, _, _, _, _, _, _], _ =>
    rcases j with _ | _ | _ | _ | _ | _ | _ | _ | j
    · omega
    · exact ⟨rfl, rfl⟩
    · exact ⟨rfl, rfl⟩
    · exact ⟨rfl, rfl⟩
    · exact ⟨rfl, rfl⟩
    · exact ⟨rfl, rfl⟩
    · exact ⟨rfl, rfl⟩
    · exact ⟨rfl, rfl⟩
    · omega
theorem shF_end {v : List Nat} (h : v.length = 8) (x y : Nat) : (shF v 0).getD 4 0 = v.getD 3 0 ∧ ((shF v 0).set 4 x).set 0 y = [y, v.getD 0 0, v.getD 1 0, v.getD 2 0, x, v.getD 4 0, v.getD 5 0, v.getD 6 0] := by
  match v, h with
  | [_, _, _, _, _, _, _, _], _ => exact ⟨rfl, rfl⟩

theorem getD_dt (l : List UInt8) (o i : Nat) (h : i < 64) : ((l.drop o).take 64).getD i 0 = l.getD (o + i) 0 := by
  simp only [List.getD, List.getElem?_take, List.getElem?_drop, if_pos h]

theorem rsum_spec (a : Option Addr) (n c : Nat) (vs : List Value) (ls : List (List UInt8)) (w : World) (hr : Rd w a n c 1 vs) (h2 : Row2 w vs ls) (hb : ls.flatten.length ≤ 70368744177664) (hn : n ≤ 4611686018427387904) :
    Calls Tryd.prog 54 #[.slice a n c] w fun e w' => e = .returned (.agg (bv (shaF ls.flatten)).toArray) ∧ Chg [] w w' := by
  have hln : ls.length = n := by have := hr.len; have := h2.len; omega
  have sB : ∀ w, (sizeOf 5).run Tryd.prog w = .ok 1 w := fun w => Tryd.sizeOf5 w
  have ze : ∀ k : Nat, 0 + Int.toNat (k : Int) * 1 = k := fun k => by omega
  apply amphoraref02_Sum_vc
  obtain ⟨g2, w1, r1, h1⟩ := (St.start w).zeroA d32Z
  have hbk : (Instr.build 99 (((kv .u32 kTab).zipIdx 0).map fun p => (p.2, p.1)).toArray).run Tryd.prog w1 = .ok (.agg (kv .u32 kTab).toArray) w1 := by
    have := build_arr (P := Tryd.prog) (w := w1) (w64Z w1) Tryd.underlying99 (uS _) (kv .u32 kTab) (kv_one _ _) (by simp [kTab_len])
    rwa [List.drop_of_length_le (by simp [kTab_len]), List.append_nil] at this
  obtain ⟨g3, w2, r2, h2'⟩ := h1.zeroA w64Z
  obtain ⟨w3, r3, h3⟩ := h2'.stA (i := 1) (v := kv .u32 kTab) rfl (w64S _) (by simp) (by simp [kTab_len]) (kv_one _ _)
  refine ⟨_, _, r1, _, hbk, g3, w2, r2, w3, r3, ?_⟩
  have h3' : St w [] w3 ([.arr g2 22 (bv (List.replicate 32 0)), .arr g3 99 (kv .u32 kTab)] ++ [.row 5 1 (.slice none 0 0) 0 (bv [])]) := h3.addNil _ _
  refine ⟨fun xa xn xc x w' => ∃ i : Nat, x = (i : Int) ∧ i ≤ n ∧ xn = (ls.take i).flatten.length ∧ St w [] w' ([.arr g2 22 (bv (List.replicate 32 0)), .arr g3 99 (kv .u32 kTab)] ++ [.row 5 1 (.slice xa xn xc) xn (bv (ls.take i).flatten)]), fun _ _ _ x _ => n - x.toNat, ⟨0, rfl, by omega, by simp, by simpa using h3'⟩, ?_⟩
  rintro xa xn xc x w4 ⟨i, rfl, hi, rfl, h4⟩
  have hft := flat_take_le ls i
  refine ⟨fun h => ?_, fun h => ?_⟩
  · have hi' : i < n := by simp at h; omega
    obtain ⟨b, o, a', n', c', ha, hv, hrd, hld⟩ := ixS hr.cells h2 (i := i) (by omega)
    have hl' := hrd.lenB
    have hf1 := flat_take (ls := ls) (i := i) (by omega)
    have hf2 := flat_take_le ls (i + 1)
    have hf3 := congrArg List.length hf1
    rw [List.length_append, hl'] at hf3
    obtain ⟨va, vc, w5, r5, h5⟩ := h4.appendB (i := 2) rfl (h4.rd1 hrd) (by omega)
    refine ⟨b, o, ha, by omega, by omega, _, _, _, hld w4 (hr.cells.keep0 h4.chg), _, _, _, _, r5, ⟨i + 1, wrap_succ hi' hn, by omega, by omega, ?_⟩, mu_succ hi' hn⟩
    rw [hf1]; exact h5
  have hi' : i = n := by simp at h; omega
  have hta : ls.take i = ls := by rw [hi', ← hln, List.take_length]
  rw [hta] at h4 ⊢
  clear hi' hi hft h hta h3' h3 h2' h1 hbk
  obtain ⟨msg, hmsg⟩ : ∃ msg, ls.flatten = msg := ⟨_, rfl⟩
  rw [hmsg] at h4 hb ⊢
  refine (filled_spec _ _ _ msg w4 (h4.rd (i := 2) rfl) (by omega)).mono ?_
  rintro e w6 ⟨a6, n6, c6, rfl, hf6⟩
  have hn6 := hf6.2.1
  have h6 := hf6.add (h4.sub (List.sublist_append_left _ _))
  obtain ⟨L, hL⟩ : ∃ L, msg ++ padL msg.length = L := ⟨_, rfl⟩
  have hmod : n6 % 64 = 0 := by rw [← hn6, List.length_append]; exact padL_mod _
  have hLb : n6 ≤ 70368744177664 + 200 := by
    have := padL_len msg.length
    have := zerosN_lt msg.length
    rw [← hn6, List.length_append]; omega
  rw [hL] at h6 hn6
  have hsha : shaF msg = digL (blocksF (n6 / 64) h0L L) := by rw [shaF, hL, hOf, hn6]
  rw [hsha]
  clear hf6 hsha hL hmsg
  have hb0 : (Instr.build 100 (((kv .u32 h0L).zipIdx 0).map fun p => (p.2, p.1)).toArray).run Tryd.prog w6 = .ok (.agg (kv .u32 h0L).toArray) w6 := by
    have := build_arr (P := Tryd.prog) (w := w6) (w8Z w6) Tryd.underlying100 (uS _) (kv .u32 h0L) (kv_one _ _) (by simp [h0L])
    rwa [List.drop_of_length_le (by simp [h0L]), List.append_nil] at this
  obtain ⟨g6, w7, r7, h7⟩ := h6.zeroA w8Z
  obtain ⟨w8, r8, h8⟩ := h7.stA (i := 3) (v := kv .u32 h0L) rfl (w8S _) (by simp) (by simp [h0L]) (kv_one _ _)
  refine ⟨_, _, _, rfl, _, hb0, g6, w7, r7, w8, r8, ?_⟩
  obtain ⟨M0, hM0⟩ : ∃ M0 : List Res, M0 = [.arr g2 22 (bv (List.replicate 32 0)), .arr g3 99 (kv .u32 kTab), .row 5 1 (.slice a6 n6 c6) n6 (bv L)] := ⟨_, rfl⟩
  have h8' : St w [] w8 (M0 ++ [.arr g6 100 (kv .u32 h0L)]) := by rw [hM0]; exact h8
  clear h8 h7 h6 h4 r7 r8 hb0
  refine ⟨fun x w' => ∃ b : Nat, x = ((64 * b : Nat) : Int) ∧ 64 * b ≤ n6 ∧ St w [] w' (M0 ++ [.arr g6 100 (kv .u32 (blocksF b h0L L))]), fun x _ => n6 - x.toNat, ⟨0, rfl, by omega, h8'⟩, ?_⟩
  rintro x w9 ⟨b, rfl, hbn, h9⟩
  refine ⟨fun h => ?_, fun h => ?_⟩
  · have hbl : 64 * b + 64 ≤ n6 := by simp at h; omega
    clear h
    obtain ⟨H, hH⟩ : ∃ H, blocksF b h0L L = H := ⟨_, rfl⟩
    have hHl : H.length = 8 := by rw [← hH]; exact blocksF_len _ _ rfl
    have hHlt : Lt32 H := by rw [← hH]; exact blocksF_lt _ _ rfl h0L_lt
    obtain ⟨B, hB⟩ : ∃ B, (L.drop (64 * b)).take 64 = B := ⟨_, rfl⟩
    have hBg : ∀ i, i < 64 → B.getD i 0 = L.getD (64 * b + i) 0 := fun i hi => by rw [← hB]; exact getD_dt _ _ _ hi
    have hnext : blocksF (b + 1) h0L L = compress H B := by rw [blocksF_snoc, hH, hB]
    rw [hH] at h9
    have hz := build_arr (P := Tryd.prog) (w := w9) (w64Z w9) Tryd.underlying99 (uS _) [] (by simp) (by simp)
    simp only [List.nil_append, List.length_nil, List.drop_zero] at hz
    obtain ⟨g8, w10, r10, h10⟩ := h9.zeroA w64Z
    have i3 : ∀ (r s : Res), (M0 ++ [r] ++ [s])[3]? = some r := fun r s => by rw [hM0]; rfl
    have i4 : ∀ (r s : Res), (M0 ++ [r] ++ [s])[4]? = some s := fun r s => by rw [hM0]; rfl
    have s4 : ∀ (r s s' : Res), (M0 ++ [r] ++ [s]).set 4 s' = M0 ++ [r] ++ [s'] := fun r s s' => by rw [hM0]; rfl
    have i2 : ∀ (N : List Res), (M0 ++ N)[2]? = some (.row 5 1 (.slice a6 n6 c6) n6 (bv L)) := fun N => by rw [hM0]; rfl
    have i1 : ∀ (N : List Res), (M0 ++ N)[1]? = some (.arr g3 99 (kv .u32 kTab)) := fun N => by rw [hM0]; rfl
    obtain ⟨w11, r11, h11⟩ := h10.stA (v := kv .u32 (List.replicate 64 0)) (i4 _ _) (w64S _) (by simp) (by simp) (kv_one _ _)
    rw [s4] at h11
    refine ⟨_, hz, g8, w10, r10, w11, r11, fun x w' => ∃ t : Nat, x = (t : Int) ∧ t ≤ 64 ∧ St w [] w' (M0 ++ [.arr g6 100 (kv .u32 H)] ++ [.arr g8 99 (kv .u32 (schedK B t))]), fun x _ => 64 - x.toNat, ⟨0, rfl, by omega, h11⟩, ?_⟩
    rintro x w12 ⟨t, rfl, ht, h12⟩
    refine ⟨fun h => ?_, fun h => ?_⟩
    · have ht' : t < 64 := by simp at h; omega
      refine ⟨fun h => ?_, fun h => ?_⟩
      · have ht16 : t < 16 := by simp at h; omega
        have hself : (schedK B t).set t (p4 B (4 * t) 0) = schedK B t := by
          apply List.ext_getElem?
          intro q
          by_cases hq : t = q
          · subst hq
            rw [List.getElem?_set_self (by simp; omega), schedK_tail B t t (Nat.le_refl _) ht']; rfl
          · rw [List.getElem?_set_ne hq]
        refine ⟨fun x w' => ∃ j : Nat, x = (j : Int) ∧ j ≤ 4 ∧ St w [] w' (M0 ++ [.arr g6 100 (kv .u32 H)] ++ [.arr g8 99 (kv .u32 ((schedK B t).set t (p4 B (4 * t) j)))]), fun x _ => 4 - x.toNat, ⟨0, rfl, by omega, by rw [hself]; exact h12⟩, ?_⟩
        rintro x w13 ⟨j, rfl, hj, h13⟩
        refine ⟨fun h => ?_, fun h => ?_⟩
        · have hj' : j < 4 := by simp at h; omega
          have e1 : IntKind.wrap .i64 (IntKind.wrap .i64 (((64 * b : Nat) : Int) + IntKind.wrap .i64 (4 * (t : Int))) + (j : Int)) = ((64 * b + (4 * t + j) : Nat) : Int) := by
            rw [show IntKind.wrap .i64 (4 * (t : Int)) = ((4 * t : Nat) : Int) by rw [wrap_i64 (by omega) (by omega)]; omega, show IntKind.wrap .i64 (((64 * b : Nat) : Int) + ((4 * t : Nat) : Int)) = ((64 * b + 4 * t : Nat) : Int) by rw [wrap_i64 (by omega) (by omega)]; omega, wrap_i64 (by omega) (by omega)]; omega
          rw [e1]
          have hc13 : Cells w13 a6 (bv L) := h13.cells (by rw [List.append_assoc]; exact i2 _)
          have hpl := p4_lt B (4 * t) j
          have hp24 : p4 B (4 * t) j < 16777216 := by
            have : 256 ^ j ≤ 256 ^ 3 := Nat.pow_le_pow_right (by decide) (by omega)
            omega
          have hgt : ((schedK B t).set t (p4 B (4 * t) j)).getD t 0 = p4 B (4 * t) j := getD_set_self (by simp; omega)
          have hbyte := (L.getD (64 * b + (4 * t + j)) 0).toNat_lt
          have hval : bor .u32 (shlI .u32 ((p4 B (4 * t) j : Nat) : Int) 8) (IntKind.wrap .u32 ((L.getD (64 * b + (4 * t + j)) 0).toNat : Int)) = ((p4 B (4 * t) (j + 1) : Nat) : Int) := by
            rw [show (8 : Int) = ((8 : Nat) : Int) from rfl, shl_val (by decide), Nat.mod_eq_of_lt (by omega), wrap_u32_nat (by omega), or_val (by omega) (by omega), or_sum _ _ 8 (by omega), p4, hBg _ (by omega)]
          refine ⟨fun w' => St w [] w' (M0 ++ [.arr g6 100 (kv .u32 H)] ++ [.arr g8 99 (kv .u32 ((schedK B t).set t (p4 B (4 * t) j)))]), h13.drew, by omega, by omega, ix0 hc13 hn6 (64 * b + (4 * t + j)) (by omega) fun b1 o1 ha1 q1 => ?_⟩
          have h13d := h13.drew
          obtain ⟨w14, r14, h14⟩ := h13d.stK (n := p4 B (4 * t) (j + 1)) (i4 _ _) (uS _) (ze t) (by simp; omega)
          rw [s4, List.set_set] at h14
          refine ⟨b1, o1, ha1, by omega, by omega, _, fun w' h => h.ldK (i4 _ _) (uA _) (ze t) (by simp; omega), _, fun w' h => q1 w' (h.cells (by rw [List.append_assoc]; exact i2 _)), by omega, by omega, w14, ?_, ⟨j + 1, wrap_succ hj' (by omega), by omega, h14⟩, mu_succ hj' (by omega)⟩
          rw [hgt, hval]; exact r14
        · have hj' : j = 4 := by simp at h; omega
          subst hj'
          refine ⟨⟨t + 1, wrap_succ ht' (by omega), by omega, ?_⟩, mu_succ ht' (by omega)⟩
          have : schedK B (t + 1) = (schedK B t).set t (p4 B (4 * t) 4) := by rw [schedK, if_pos ht16, p4_be4]
          rw [this]; exact h13
      · have ht16 : 16 ≤ t := by simp at h; omega
        have e : ∀ j : Nat, j ≤ 16 → IntKind.wrap .i64 ((t : Int) - (j : Int)) = ((t - j : Nat) : Int) := fun j hj => by rw [wrap_i64 (by omega) (by omega)]; omega
        have e15 : IntKind.wrap .i64 ((t : Int) - 15) = ((t - 15 : Nat) : Int) := e 15 (by omega)
        have e2 : IntKind.wrap .i64 ((t : Int) - 2) = ((t - 2 : Nat) : Int) := e 2 (by omega)
        have e7 : IntKind.wrap .i64 ((t : Int) - 7) = ((t - 7 : Nat) : Int) := e 7 (by omega)
        have e16 : IntKind.wrap .i64 ((t : Int) - 16) = ((t - 16 : Nat) : Int) := e 16 (by omega)
        rw [e15, e2, e7, e16]
        obtain ⟨W, hW⟩ : ∃ W, schedK B t = W := ⟨_, rfl⟩
        have hWl : W.length = 64 := by rw [← hW]; exact schedK_len B t
        have hlt : Lt32 W := by rw [← hW]; exact schedK_lt B t
        have hnx : schedK B (t + 1) = W.set t (nextW W t) := by rw [schedK, if_neg (by omega), hW]
        rw [hW] at h12
        obtain ⟨Q, hQ⟩ : ∃ Q : World → Prop, Q = fun w' => St w [] w' (M0 ++ [.arr g6 100 (kv .u32 H)] ++ [.arr g8 99 (kv .u32 W)]) := ⟨_, rfl⟩
        have hQ12 : Q w12 := by rw [hQ]; exact h12
        have hd : ∀ w', Q w' → Q w'.drew := fun w' h => by rw [hQ] at h ⊢; exact h.drew
        have ld : ∀ j : Nat, j < 64 → ∀ w', Q w' → (Instr.loadAt 98 (.pointer (some ⟨g8, 0 + Int.toNat (j : Int) * 1, none⟩))).run Tryd.prog w' = .ok (.int .u32 ((W.getD j 0 : Nat) : Int)) w' := fun j hj w' h => by
          rw [hQ] at h; exact h.ldK (i4 _ _) (uA _) (ze j) (by omega)
        refine ⟨by omega, by omega, _, ld _ (by omega) _ hQ12, by omega, by omega, _, ld _ (by omega) _ hQ12, Q, hd _ hQ12, by omega, by omega, by omega, by omega, _, ld _ (by omega), _, ld _ (by omega), (turn_spec _ 17 _ (hlt _) (by decide) (by decide)).mono ?_⟩
        rintro e w15 ⟨rfl, rfl⟩
        refine ⟨_, rfl, Q, fun _ h => h, hd _ hQ12, (turn_spec _ 19 _ (hlt _) (by decide) (by decide)).mono ?_⟩
        rintro e w16 ⟨rfl, rfl⟩
        refine ⟨_, rfl, Q, fun _ h => h, hd _ hQ12, (turn_spec _ 7 _ (hlt _) (by decide) (by decide)).mono ?_⟩
        rintro e w17 ⟨rfl, rfl⟩
        refine ⟨_, rfl, Q, fun _ h => h, hd _ hQ12, (turn_spec _ 18 _ (hlt _) (by decide) (by decide)).mono ?_⟩
        rintro e w18 ⟨rfl, rfl⟩
        refine ⟨_, rfl, Q, fun _ h => h, hd _ hQ12, by omega, by omega, ?_⟩
        rw [sg0_val (hlt _), sg1_val (hlt _), add_val, add_val, add_val]
        have h9 := hd _ hQ12
        rw [hQ] at h9
        obtain ⟨w19, r19, h19⟩ := h9.stK (n := nextW W t) (i4 _ _) (uS _) (ze t) (by omega)
        rw [s4] at h19
        exact ⟨w19, r19, ⟨t + 1, wrap_succ ht' (by omega), by omega, by rw [hnx]; exact h19⟩, mu_succ ht' (by omega)⟩
    · have ht' : t = 64 := by simp at h; omega
      obtain ⟨W, hW⟩ : ∃ W, schedK B 64 = W := ⟨_, rfl⟩
      have hWt : schedK B t = W := by rw [ht', hW]
      have hWl : W.length = 64 := by rw [← hW]; exact schedK_len B 64
      have hWlt : Lt32 W := by rw [← hW]; exact schedK_lt B 64
      obtain ⟨V, hV⟩ : ∃ V, rounds W H 64 = V := ⟨_, rfl⟩
      have hcomp : compress H B = List.zipWith add32 H V := by rw [compress, hW, hV]
      rw [hWt] at h12
      clear hWt ht' ht h hW
      have i5 : ∀ (r s u : Res), (M0 ++ [r] ++ [s] ++ [u])[5]? = some u := fun r s u => by rw [hM0]; rfl
      have i4' : ∀ (r s u : Res), (M0 ++ [r] ++ [s] ++ [u])[4]? = some s := fun r s u => by rw [hM0]; rfl
      have i3' : ∀ (r s u : Res), (M0 ++ [r] ++ [s] ++ [u])[3]? = some r := fun r s u => by rw [hM0]; rfl
      have i1' : ∀ (r s u : Res), (M0 ++ [r] ++ [s] ++ [u])[1]? = some (.arr g3 99 (kv .u32 kTab)) := fun r s u => by rw [hM0]; rfl
      have s5 : ∀ (r s u u' : Res), (M0 ++ [r] ++ [s] ++ [u]).set 5 u' = M0 ++ [r] ++ [s] ++ [u'] := fun r s u u' => by rw [hM0]; rfl
      have s3' : ∀ (r r' s u : Res), (M0 ++ [r] ++ [s] ++ [u]).set 3 r' = M0 ++ [r'] ++ [s] ++ [u] := fun r r' s u => by rw [hM0]; rfl
      obtain ⟨g13, w20, r20, h20⟩ := h12.zeroA w8Z
      obtain ⟨w21, r21, h21⟩ := h20.stA (v := kv .u32 H) (i5 _ _ _) (w8S _) (by simp) (by simp [hHl]) (kv_one _ _)
      rw [s5] at h21
      refine ⟨_, h12.ldA (i3 _ _) (w8A _) (w8S _) (by simp [hHl]), g13, w20, r20, w21, r21, fun x w' => ∃ t : Nat, x = (t : Int) ∧ t ≤ 64 ∧ ∃ v : List Nat, rounds W H t = v ∧ St w [] w' (M0 ++ [.arr g6 100 (kv .u32 H)] ++ [.arr g8 99 (kv .u32 W)] ++ [.arr g13 100 (kv .u32 v)]), fun x _ => 64 - x.toNat, ⟨0, rfl, by omega, H, rfl, h21⟩, ?_⟩
      rintro x w22 ⟨t, rfl, ht, v, hv, h22⟩
      have hvlt : Lt32 v := by rw [← hv]; exact rounds_lt W hHlt t
      have hvl : v.length = 8 := by rw [← hv]; exact rounds_len W hHl t
      refine ⟨fun h => ?_, fun h => ?_⟩
      · have ht' : t < 64 := by simp at h; omega
        obtain ⟨Q, hQ⟩ : ∃ Q : World → Prop, Q = fun w' => St w [] w' (M0 ++ [.arr g6 100 (kv .u32 H)] ++ [.arr g8 99 (kv .u32 W)] ++ [.arr g13 100 (kv .u32 v)]) := ⟨_, rfl⟩
        have hQ22 : Q w22 := by rw [hQ]; exact h22
        have hd : ∀ w', Q w' → Q w'.drew := fun w' h => by rw [hQ] at h ⊢; exact h.drew
        have ldv : ∀ j : Nat, j < 8 → ∀ w', Q w' → (Instr.loadAt 98 (.pointer (some ⟨g13, j, none⟩))).run Tryd.prog w' = .ok (.int .u32 ((v.getD j 0 : Nat) : Int)) w' := fun j hj w' h => by
          rw [hQ] at h; exact h.ldK (i5 _ _ _) (uA _) rfl (by omega)
        have ldw : ∀ w', Q w' → (Instr.loadAt 98 (.pointer (some ⟨g8, 0 + Int.toNat (t : Int) * 1, none⟩))).run Tryd.prog w' = .ok (.int .u32 ((W.getD t 0 : Nat) : Int)) w' := fun w' h => by
          rw [hQ] at h; exact h.ldK (i4' _ _ _) (uA _) (ze t) (by omega)
        have ldk : ∀ w', Q w' → (Instr.loadAt 98 (.pointer (some ⟨g3, 0 + Int.toNat (t : Int) * 1, none⟩))).run Tryd.prog w' = .ok (.int .u32 ((kTab.getD t 0 : Nat) : Int)) w' := fun w' h => by
          rw [hQ] at h; exact h.ldK (i1' _ _ _) (uA _) (ze t) (by rw [kTab_len]; omega)
        refine ⟨_, ldv 4 (by decide) _ hQ22, _, ldv 5 (by decide) _ hQ22, _, ldv 4 (by decide) _ hQ22, _, ldv 6 (by decide) _ hQ22, _, ldv 0 (by decide) _ hQ22, _, ldv 1 (by decide) _ hQ22, _, ldv 0 (by decide) _ hQ22, _, ldv 2 (by decide) _ hQ22, _, ldv 1 (by decide) _ hQ22, _, ldv 2 (by decide) _ hQ22,
          Q, hd _ hQ22, by omega, by omega, by omega, by omega, _, ldv 7 (by decide), _, ldv 4 (by decide), _, ldv 4 (by decide), _, ldv 4 (by decide), _, ldk, _, ldw, (turn_spec _ 6 _ (hvlt _) (by decide) (by decide)).mono ?_⟩
        rintro e w23 ⟨rfl, rfl⟩
        refine ⟨_, rfl, Q, fun _ h => h, hd _ hQ22, (turn_spec _ 11 _ (hvlt _) (by decide) (by decide)).mono ?_⟩
        rintro e w24 ⟨rfl, rfl⟩
        refine ⟨_, rfl, Q, fun _ h => h, hd _ hQ22, (turn_spec _ 25 _ (hvlt _) (by decide) (by decide)).mono ?_⟩
        rintro e w25 ⟨rfl, rfl⟩
        refine ⟨_, rfl, Q, fun _ h => h, hd _ hQ22, Q, hd _ (hd _ hQ22), _, ldv 0 (by decide), _, ldv 0 (by decide), _, ldv 0 (by decide), (turn_spec _ 2 _ (hvlt _) (by decide) (by decide)).mono ?_⟩
        rintro e w26 ⟨rfl, rfl⟩
        refine ⟨_, rfl, Q, fun _ h => h, hd _ (hd _ hQ22), (turn_spec _ 13 _ (hvlt _) (by decide) (by decide)).mono ?_⟩
        rintro e w27 ⟨rfl, rfl⟩
        refine ⟨_, rfl, Q, fun _ h => h, hd _ (hd _ hQ22), (turn_spec _ 22 _ (hvlt _) (by decide) (by decide)).mono ?_⟩
        rintro e w28 ⟨rfl, rfl⟩
        have h28 := hd _ (hd _ hQ22)
        rw [hQ] at h28
        refine ⟨_, rfl, Q, fun _ h => h, hd _ (hd _ hQ22), fun x w' => ∃ j : Nat, x = (j : Int) ∧ j ≤ 7 ∧ St w [] w' (M0 ++ [.arr g6 100 (kv .u32 H)] ++ [.arr g8 99 (kv .u32 W)] ++ [.arr g13 100 (kv .u32 (shF v j))]), fun x _ => x.toNat, ⟨7, rfl, by omega, by rw [shF_7 hvl]; exact h28⟩, ?_⟩
        rintro x w29 ⟨j, rfl, hj, h29⟩
        refine ⟨fun h => ?_, fun h => ?_⟩
        · have hj0 : 0 < j := by simp at h; omega
          have e1 : IntKind.wrap .i64 ((j : Int) - 1) = ((j - 1 : Nat) : Int) := by rw [wrap_i64 (by omega) (by omega)]; omega
          rw [e1]
          obtain ⟨f1, f2⟩ := shF_step hvl hj0 hj
          obtain ⟨w30, r30, h30⟩ := h29.stK (n := v.getD (j - 1) 0) (i5 _ _ _) (uS _) (ze j) (by rw [shF_len hvl hj]; omega)
          rw [s5, f2] at h30
          refine ⟨by omega, by omega, _, h29.ldK (i5 _ _ _) (uA _) (ze (j - 1)) (by rw [shF_len hvl hj]; omega), by omega, by omega, w30, ?_, ⟨j - 1, rfl, by omega, h30⟩, ?_⟩
          · rw [f1]; exact r30
          · show ((j - 1 : Nat) : Int).toNat < (j : Int).toNat
            omega
        · have hj0 : j = 0 := by simp at h; omega
          subst hj0
          obtain ⟨f1, _⟩ := shF_end hvl 0 0
          rw [bg1_val (hvlt _), bg0_val (hvlt _), ch_val (hvlt _) (hvlt _) (hvlt _), maj_val (hvlt _) (hvlt _) (hvlt _)]
          simp only [add_val]
          refine ⟨_, h29.ldK (i5 _ _ _) (uA _) (rfl : 4 = 4) (by rw [shF_len hvl (by omega)]; omega), ?_⟩
          rw [f1]
          simp only [add_val]
          obtain ⟨w31, r31, h31⟩ := h29.stK (n := add32 (v.getD 3 0) (add32 (add32 (add32 (add32 (v.getD 7 0) (bg1 (v.getD 4 0))) (chF (v.getD 4 0) (v.getD 5 0) (v.getD 6 0))) (kTab.getD t 0)) (W.getD t 0))) (i5 _ _ _) (uS _) (rfl : 4 = 4) (by rw [shF_len hvl (by omega)]; omega)
          rw [s5] at h31
          obtain ⟨w32, r32, h32⟩ := h31.stK (n := add32 (add32 (add32 (add32 (add32 (v.getD 7 0) (bg1 (v.getD 4 0))) (chF (v.getD 4 0) (v.getD 5 0) (v.getD 6 0))) (kTab.getD t 0)) (W.getD t 0)) (add32 (bg0 (v.getD 0 0)) (majF (v.getD 0 0) (v.getD 1 0) (v.getD 2 0)))) (i5 _ _ _) (uS _) (rfl : 0 = 0) (by rw [List.length_set, shF_len hvl (by omega)]; omega)
          rw [s5, (shF_end hvl _ _).2] at h32
          exact ⟨w31, r31, w32, r32, ⟨t + 1, wrap_succ ht' (by omega), by omega, _, by rw [rounds, hv]; rfl, h32⟩, mu_succ ht' (by omega)⟩
      · have ht' : t = 64 := by simp at h; omega
        have hvV : v = V := by rw [← hv, ht', hV]
        obtain ⟨Z, hZ⟩ : ∃ Z, List.zipWith add32 H v = Z := ⟨_, rfl⟩
        have hZl : Z.length = 8 := by rw [← hZ]; exact zip_len hHl hvl
        have hZg : ∀ j, j < 8 → Z[j]? = some (add32 (H.getD j 0) (v.getD j 0)) := fun j hj => by rw [← hZ]; exact zip_get hHl hvl hj
        have hcZ : compress H B = Z := by rw [hcomp, ← hvV, hZ]
        clear hvV ht' ht h hv hV hcomp
        refine ⟨fun x w' => ∃ j : Nat, x = (j : Int) ∧ j ≤ 8 ∧ St w [] w' (M0 ++ [.arr g6 100 (kv .u32 (mixG Z H j))] ++ [.arr g8 99 (kv .u32 W)] ++ [.arr g13 100 (kv .u32 v)]), fun x _ => 8 - x.toNat, ⟨0, rfl, by omega, by rw [mixG_zero]; exact h22⟩, ?_⟩
        rintro x w33 ⟨j, rfl, hj, h33⟩
        have hml : (mixG Z H j).length = 8 := by rw [mixG_len (by omega) (by omega)]; exact hHl
        refine ⟨fun h => ?_, fun h => ?_⟩
        · have hj' : j < 8 := by simp at h; omega
          have hgj : (mixG Z H j).getD j 0 = H.getD j 0 := by simp only [List.getD, mixG_get (show Z.length = H.length by omega) (show j < H.length by omega)]
          obtain ⟨w34, r34, h34⟩ := h33.drew.stK (n := add32 (H.getD j 0) (v.getD j 0)) (i3' _ _ _) (uS _) (ze j) (by omega)
          rw [s3', mixG_set (by omega) (hZg j hj')] at h34
          refine ⟨fun w' => St w [] w' (M0 ++ [.arr g6 100 (kv .u32 (mixG Z H j))] ++ [.arr g8 99 (kv .u32 W)] ++ [.arr g13 100 (kv .u32 v)]), h33.drew, by omega, by omega, by omega, by omega, _, fun w' h => h.ldK (i3' _ _ _) (uA _) (ze j) (by omega), _, fun w' h => h.ldK (i5 _ _ _) (uA _) (ze j) (by omega), by omega, by omega, w34, ?_, ⟨j + 1, wrap_succ hj' (by omega), by omega, h34⟩, mu_succ hj' (by omega)⟩
          rw [hgj, add_val]; exact r34
        · have hj' : j = 8 := by simp at h; omega
          subst hj'
          have hall : mixG Z H 8 = Z := by have := mixG_all (x := Z) (l := H) (by omega); rwa [hHl] at this
          rw [hall] at h33
          have h33' := St.pop (St.pop h33)
          have ew : IntKind.wrap .i64 (((64 * b : Nat) : Int) + 64) = ((64 * (b + 1) : Nat) : Int) := by rw [wrap_i64 (by omega) (by omega)]; omega
          rw [ew]
          refine ⟨⟨b + 1, rfl, by omega, ?_⟩, ?_⟩
          · rw [hnext, hcZ]; exact h33'
          · show n6 - ((64 * (b + 1) : Nat) : Int).toNat < n6 - ((64 * b : Nat) : Int).toNat
            omega
  · have hbe : 64 * b = n6 := by simp at h; omega
    have hbd : n6 / 64 = b := by omega
    rw [hbd]
    obtain ⟨H, hH⟩ : ∃ H, blocksF b h0L L = H := ⟨_, rfl⟩
    have hHl : H.length = 8 := by rw [← hH]; exact blocksF_len _ _ rfl
    rw [hH] at h9 ⊢
    clear hH hbd hbe h
    have hz := build_arr (P := Tryd.prog) (w := w9) (d32Z w9) Tryd.underlying22 (sB _) [] (by simp) (by simp)
    simp only [List.nil_append, List.length_nil, List.drop_zero] at hz
    obtain ⟨g21, w10, r10, h10⟩ := h9.zeroA d32Z
    have i3 : ∀ (r s : Res), (M0 ++ [r] ++ [s])[3]? = some r := fun r s => by rw [hM0]; rfl
    have i4 : ∀ (r s : Res), (M0 ++ [r] ++ [s])[4]? = some s := fun r s => by rw [hM0]; rfl
    have i0 : ∀ (r s : Res), (M0 ++ [r] ++ [s])[0]? = some (.arr g2 22 (bv (List.replicate 32 0))) := fun r s => by rw [hM0]; rfl
    have s4 : ∀ (r s s' : Res), (M0 ++ [r] ++ [s]).set 4 s' = M0 ++ [r] ++ [s'] := fun r s s' => by rw [hM0]; rfl
    have hdl : (digL H).length = 32 := digL_len H
    obtain ⟨w11, r11, h11⟩ := h10.stA (v := bv (List.replicate 32 0)) (i4 _ _) (d32S _) (by simp) (by simp) (bv_one _)
    rw [s4] at h11
    refine ⟨_, hz, g21, w10, r10, w11, r11, fun x w' => ∃ i : Nat, x = (i : Int) ∧ i ≤ 32 ∧ St w [] w' (M0 ++ [.arr g6 100 (kv .u32 H)] ++ [.arr g21 22 (bv (upTo (digL H) i))]), fun x _ => 32 - x.toNat, ⟨0, rfl, by omega, by rw [upTo_zero, hdl]; exact h11⟩, ?_⟩
    rintro x w12 ⟨i, rfl, hi, h12⟩
    refine ⟨fun h => ?_, fun h => ?_⟩
    · have hi' : i < 32 := by simp at h; omega
      have e1 : IntKind.wrap .i64 (Int.tdiv (i : Int) 4) = ((i / 4 : Nat) : Int) := by rw [Int.tdiv_eq_ediv_of_nonneg (by omega), wrap_i64 (by omega) (by omega)]; omega
      have e2 : IntKind.wrap .u64 ((24 : Int) - IntKind.wrap .u64 (8 * IntKind.wrap .u64 (Int.tmod (i : Int) 4))) = ((24 - 8 * (i % 4) : Nat) : Int) := by
        rw [Int.tmod_eq_emod_of_nonneg (by omega)]
        simp only [wrap_u64]
        omega
      rw [e1, e2]
      have hval := digB_val H (i / 4) (i % 4) (by omega)
      rw [show 4 * (i / 4) + i % 4 = i by omega] at hval
      obtain ⟨w13, r13, h13⟩ := h12.stB (b := digB H i) (i4 _ _) (sB _) (ze i) (by rw [upTo_len (by omega)]; omega)
      rw [s4, upTo_set (digL_get H hi')] at h13
      refine ⟨by omega, by omega, _, h12.ldK (i3 _ _) (uA _) (ze (i / 4)) (by omega), by omega, by omega, by omega, w13, ?_, ⟨i + 1, wrap_succ hi' (by omega), by omega, h13⟩, mu_succ hi' (by omega)⟩
      rw [hval]; exact r13
    · have hi' : i = (digL H).length := by simp at h; omega
      rw [hi', upTo_all] at h12
      obtain ⟨w13, r13, h13⟩ := h12.stA (i := 0) (v := bv (digL H)) (i0 _ _) (d32S _) (by simp) (by simp [hdl]) (bv_one _)
      have i0' : ((M0 ++ [Res.arr g6 100 (kv .u32 H)] ++ [Res.arr g21 22 (bv (digL H))]).set 0 (.arr g2 22 (bv (digL H))))[0]? = some (.arr g2 22 (bv (digL H))) := by rw [hM0]; rfl
      exact ⟨_, h12.ldA (i4 _ _) (d32A _) (d32S _) (by simp [hdl]), w13, r13, _, h13.ldVarA i0' (d32A _) (d32S _) (by simp [hdl]), rfl, h13.chg⟩

end Go.Proofs.YtefnlbgkfingfaaDoor
