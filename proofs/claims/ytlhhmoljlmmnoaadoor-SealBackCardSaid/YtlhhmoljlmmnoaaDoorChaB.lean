/- Contracts of chacha's block and of the reference's, second half: the first state and the block (conditions: those that each theorem names). -/
import Derived.Test.YtlhhmoljlmmnoaaDoorChaA
namespace Go.Proofs.YtlhhmoljlmmnoaaDoor
open Go Sx
set_option maxRecDepth 8000

theorem word_spec (a : Option Addr) (n c : Nat) (l : List UInt8) (w : World) (hr : RdB w a n c l) (hn : 4 ≤ n) : Calls Tryd.prog 73 #[.slice a n c] w fun e w' => e = .returned (.int .u32 ((le4 l 0 : Nat) : Int)) ∧ Chg [] w w' := by
  have hl := hr.lenB
  apply chacha_word_vc
  have b0 := (l.getD 0 0).toNat_lt
  have b1 := (l.getD 1 0).toNat_lt
  have b2 := (l.getD 2 0).toNat_lt
  have b3 := (l.getD 3 0).toNat_lt
  have hc : Cells w.drew a (bv l) := hr.cells.keep0 (Chg.drew _ _)
  refine ⟨fun w' => Chg [] w w', Chg.drew _ _, ?_⟩
  refine ix0 hr.cells hl 0 (by omega) fun g0 o0 e0 h0 => ix0 hr.cells hl 1 (by omega) fun g1 o1 e1 h1 => ix0 hr.cells hl 2 (by omega) fun g2 o2 e2 h2 => ix0 hr.cells hl 3 (by omega) fun g3 o3 e3 h3 => ?_
  refine ⟨g0, o0, e0, by omega, by omega, g1, o1, e1, by omega, by omega, g2, o2, e2, by omega, by omega, g3, o3, e3, by omega, by omega,
    _, fun w' h => h0 w' (hr.cells.keep0 h), _, fun w' h => h1 w' (hr.cells.keep0 h), _, fun w' h => h2 w' (hr.cells.keep0 h), _, fun w' h => h3 w' (hr.cells.keep0 h), ?_, Chg.drew _ _⟩
  rw [wrap_u32_nat (show (l.getD 0 0).toNat < 4294967296 by omega), wrap_u32_nat (show (l.getD 1 0).toNat < 4294967296 by omega), wrap_u32_nat (show (l.getD 2 0).toNat < 4294967296 by omega), wrap_u32_nat (show (l.getD 3 0).toNat < 4294967296 by omega),
    show (8 : Int) = ((8 : Nat) : Int) from rfl, show (16 : Int) = ((16 : Nat) : Int) from rfl, show (24 : Int) = ((24 : Nat) : Int) from rfl, shl_val (by decide), shl_val (by decide), shl_val (by decide)]
  have m : ∀ x : Nat, x % 4294967296 < 4294967296 := fun x => Nat.mod_lt _ (by decide)
  rw [or_val (by omega) (m _), or_val (Nat.or_lt_two_pow (n := 32) (by omega) (m _)) (m _), or_val (Nat.or_lt_two_pow (n := 32) (Nat.or_lt_two_pow (n := 32) (by omega) (m _)) (m _)) (m _)]
  rfl

theorem le4_sub (l : List UInt8) (o n : Nat) (h : 4 ≤ n) : le4 ((l.drop o).take n) 0 = le4 l o := by
  have : ∀ j, j < 4 → ((l.drop o).take n).getD (0 + j) 0 = l.getD (o + j) 0 := fun j hj => by
    simp only [List.getD, List.getElem?_take, List.getElem?_drop, Nat.zero_add]
    rw [if_pos (by omega)]
  have h0 := this 0 (by omega)
  rw [Nat.add_zero, Nat.add_zero] at h0
  simp only [le4, h0, this 1 (by omega), this 2 (by omega), this 3 (by omega)]

theorem zero16 (w : World) : (zeroValue 99).run Tryd.prog w = .ok (.agg (kv .u32 (List.replicate 16 0)).toArray) w := Tryd.zeroValue99 w
theorem zero64 (w : World) : (zeroValue 83).run Tryd.prog w = .ok (.agg (bv (List.replicate 64 0)).toArray) w := Tryd.zeroValue83 w

theorem begin_spec (key nonce : List UInt8) (ctr : Nat) (w : World) (hk : key.length = 32) (hn : nonce.length = 12) (hc : ctr < 4294967296) :
    Calls Tryd.prog 69 #[.agg (bv key).toArray, .int .u32 (ctr : Int), .agg (bv nonce).toArray] w fun e w' => e = .returned (.agg (kv .u32 (firstL key ctr nonce)).toArray) ∧ Chg [] w w' := by
  apply chacha_begin_vc
  obtain ⟨g1, w1, r1, h1⟩ := (St.start w).boxA (P := Tryd.prog) 22 (bv key)
  obtain ⟨g2, w2, r2, h2⟩ := h1.boxA (P := Tryd.prog) 69 (bv nonce)
  obtain ⟨g3, w3, r3, h3⟩ := h2.zeroA zero16
  have hb := build_arr (P := Tryd.prog) (w := w3) (zero16 w3) Tryd.underlying99 (Tryd.sizeOf85 _) (kv .u32 [1634760805, 857760878, 2036477234, 1797285236]) (kv_one _ _) (by simp)
  obtain ⟨g4, w4, r4, h4⟩ := h3.zeroA zero16
  obtain ⟨w5, r5, h5⟩ := h4.stA (i := 3) (v := kv .u32 ([1634760805, 857760878, 2036477234, 1797285236] ++ List.replicate 12 0)) rfl (Tryd.sizeOf99 _) (by simp) (by simp) (kv_one _ _)
  refine ⟨_, _, r1, _, _, r2, _, _, r3, _, hb, _, _, r4, _, r5, ?_⟩
  refine ⟨fun i w' => ∃ k : Nat, i = (k : Int) ∧ k ≤ 8 ∧ St w [] w' [.arr g1 22 (bv key), .arr g2 69 (bv nonce), .arr g3 99 (kv .u32 (List.replicate 16 0)), .arr g4 99 (kv .u32 (setW 4 key k ([1634760805, 857760878, 2036477234, 1797285236] ++ List.replicate 12 0)))], fun i _ => 8 - i.toNat,
    ⟨0, rfl, by omega, h5⟩, ?_⟩
  rintro i w6 ⟨k, rfl, hk8, hS⟩
  refine ⟨fun h => ?_, fun h => ?_⟩
  · have hk' : k < 8 := by simp at h; omega
    have e1 : IntKind.wrap .i64 ((4 : Int) * (k : Int)) = ((4 * k : Nat) : Int) := by rw [wrap_i64 (by omega) (by omega)]; omega
    have e2 : IntKind.wrap .i64 ((4 : Int) + (k : Int)) = ((4 + k : Nat) : Int) := by rw [wrap_i64 (by omega) (by omega)]; omega
    have e3 : IntKind.wrap .i64 ((k : Int) + 1) = ((k + 1 : Nat) : Int) := by rw [wrap_i64 (by omega) (by omega)]; rfl
    rw [e1, e2, e3]
    refine ⟨by omega, by omega, by omega, fun a' hs => ?_⟩
    have hrd := (hS.rdA (i := 0) (n := 32) rfl (by simp [hk])).sub (l := 4 * k) (hh := 32) (m := 32) hs (by omega) (by omega) (by omega) (by omega)
    rw [Nat.mul_one, Nat.mul_one, ← bv_drop, ← bv_take] at hrd
    refine (word_spec _ _ _ _ _ hrd (by omega)).mono ?_
    rintro e w7 ⟨rfl, hc7⟩
    rw [le4_sub _ _ _ (by omega)]
    refine ⟨_, rfl, by omega, by omega, ?_⟩
    obtain ⟨w8, r8, h8⟩ := (hS.same hc7).stK (i := 3) (off := 0 + Int.toNat ((4 + k : Nat) : Int) * 1) (o := 4 + k) (n := le4 key (4 * k)) rfl (Tryd.sizeOf85 _) (by omega) (by simp; omega)
    exact ⟨w8, r8, ⟨k + 1, rfl, by omega, h8⟩, by simp; omega⟩
  · have hk' : k = 8 := by simp at h; omega
    subst hk'
    obtain ⟨w7, r7, h7⟩ := hS.stK (i := 3) (off := 12) (o := 12) (n := ctr) rfl (Tryd.sizeOf85 _) rfl (by simp)
    refine ⟨w7, r7, ?_⟩
    refine ⟨fun i w' => ∃ k : Nat, i = (k : Int) ∧ k ≤ 3 ∧ St w [] w' [.arr g1 22 (bv key), .arr g2 69 (bv nonce), .arr g3 99 (kv .u32 (List.replicate 16 0)), .arr g4 99 (kv .u32 (setW 13 nonce k ((setW 4 key 8 ([1634760805, 857760878, 2036477234, 1797285236] ++ List.replicate 12 0)).set 12 ctr)))], fun i _ => 3 - i.toNat,
      ⟨0, rfl, by omega, h7⟩, ?_⟩
    rintro i w8 ⟨k, rfl, hk8, hS⟩
    refine ⟨fun h => ?_, fun h => ?_⟩
    · have hk' : k < 3 := by simp at h; omega
      have e1 : IntKind.wrap .i64 ((4 : Int) * (k : Int)) = ((4 * k : Nat) : Int) := by rw [wrap_i64 (by omega) (by omega)]; omega
      have e2 : IntKind.wrap .i64 ((13 : Int) + (k : Int)) = ((13 + k : Nat) : Int) := by rw [wrap_i64 (by omega) (by omega)]; omega
      have e3 : IntKind.wrap .i64 ((k : Int) + 1) = ((k + 1 : Nat) : Int) := by rw [wrap_i64 (by omega) (by omega)]; rfl
      rw [e1, e2, e3]
      refine ⟨by omega, by omega, by omega, fun a' hs => ?_⟩
      have hrd := (hS.rdA (i := 1) (n := 12) rfl (by simp [hn])).sub (l := 4 * k) (hh := 12) (m := 12) hs (by omega) (by omega) (by omega) (by omega)
      rw [Nat.mul_one, Nat.mul_one, ← bv_drop, ← bv_take] at hrd
      refine (word_spec _ _ _ _ _ hrd (by omega)).mono ?_
      rintro e w9 ⟨rfl, hc9⟩
      rw [le4_sub _ _ _ (by omega)]
      refine ⟨_, rfl, by omega, by omega, ?_⟩
      obtain ⟨w10, r10, h10⟩ := (hS.same hc9).stK (i := 3) (off := 0 + Int.toNat ((13 + k : Nat) : Int) * 1) (o := 13 + k) (n := le4 nonce (4 * k)) rfl (Tryd.sizeOf85 _) (by omega) (by simp; omega)
      exact ⟨w10, r10, ⟨k + 1, rfl, by omega, h10⟩, by simp; omega⟩
    · have hk' : k = 3 := by simp at h; omega
      subst hk'
      have hA : ∀ w, (isAgg 99).run Tryd.prog w = .ok true w := fun w => Tryd.isAgg99 w
      refine ⟨_, hS.ldA (i := 3) rfl (hA _) (Tryd.sizeOf99 _) (by simp), ?_⟩
      obtain ⟨w9, r9, h9⟩ := hS.stA (i := 2) (v := kv .u32 (firstL key ctr nonce)) rfl (Tryd.sizeOf99 _) (by simp) (by simp [firstL]) (kv_one _ _)
      exact ⟨w9, r9, _, h9.ldVarA (i := 2) rfl (hA _) (Tryd.sizeOf99 _) (by simp [firstL]), rfl, h9.chg⟩

end Go.Proofs.YtlhhmoljlmmnoaaDoor
