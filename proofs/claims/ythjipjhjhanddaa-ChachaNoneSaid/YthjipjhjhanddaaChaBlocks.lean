/- The law ChachaBlocks answers true (conditions: none). -/
import Derived.Test.YthjipjhjhanddaaChaD
import Derived.Test.YthjipjhjhanddaaEqArr
import Derived.Test.YthjipjhjhanddaaVlaw03
namespace Go.Proofs.Ythjipjhjhanddaa
open Go Sx

def keyL : List UInt8 := (List.range 32).map UInt8.ofNat
theorem zero32 (w : World) : (zeroValue 22).run Try.prog w = .ok (.agg (bv (List.replicate 32 0)).toArray) w := Try.zeroValue22 w
theorem zero12 (w : World) : (zeroValue 24).run Try.prog w = .ok (.agg (bv (List.replicate 12 0)).toArray) w := Try.zeroValue24 w

theorem alive_block : (blockF keyL 1 [0, 0, 0, 9, 0, 0, 0, 74, 0, 0, 0, 0]).getD 0 0 = 16 ∧ (blockF keyL 1 [0, 0, 0, 9, 0, 0, 0, 74, 0, 0, 0, 0]).getD 1 0 = 241 ∧ (blockF keyL 1 [0, 0, 0, 9, 0, 0, 0, 74, 0, 0, 0, 0]).getD 2 0 = 231 ∧
    (blockF keyL 1 [0, 0, 0, 9, 0, 0, 0, 74, 0, 0, 0, 0]).getD 3 0 = 228 ∧ (blockF keyL 1 [0, 0, 0, 9, 0, 0, 0, 74, 0, 0, 0, 0]).getD 15 0 = 196 := by decide +kernel

theorem alive_spec (w : World) : Calls Try.prog 9 #[] w fun e w' => e = .returned (.bool true) ∧ Chg [] w w' := by
  apply amphoralaw03_alive_vc
  have sB : ∀ w, (sizeOf 5).run Try.prog w = .ok 1 w := fun w => Try.sizeOf5 w
  have s32 : ∀ w, (sizeOf 22).run Try.prog w = .ok 32 w := fun w => Try.sizeOf22 w
  have s64 : ∀ w, (sizeOf 26).run Try.prog w = .ok 64 w := fun w => Try.sizeOf26 w
  have ze : ∀ k : Nat, 0 + Int.toNat (k : Int) * 1 = k := fun k => by omega
  have hb := build_arr (P := Try.prog) (w := w) (zero32 w) Try.underlying22 (sB _) [] (by simp) (by simp)
  obtain ⟨g1, w1, r1, h1⟩ := (St.start w).zeroA zero32
  obtain ⟨w2, r2, h2⟩ := h1.stA (i := 0) (v := bv (List.replicate 32 0)) rfl (s32 _) (by simp) (by simp) (bv_one _)
  have kl : keyL.length = 32 := by simp [keyL]
  refine ⟨_, hb, _, _, r1, _, r2, fun i w' => ∃ k : Nat, i = (k : Int) ∧ k ≤ 32 ∧ St w [] w' [.arr g1 22 (bv (upTo keyL k))], fun i _ => 32 - i.toNat, ⟨0, rfl, by omega, by rw [upTo_zero, kl]; exact h2⟩, ?_⟩
  rintro i w3 ⟨k, rfl, hk, hS⟩
  refine ⟨fun h => ?_, fun h => ?_⟩
  · have hk' : k < 32 := by simp at h; omega
    have hv : IntKind.wrap .u8 (k : Int) = ((UInt8.ofNat k).toNat : Int) := by rw [wrap_u8]; simp
    rw [hv]
    obtain ⟨w4, q, s⟩ := hS.stB (i := 0) (b := UInt8.ofNat k) rfl (sB _) (ze k) (by rw [upTo_len (by omega)]; omega)
    rw [upTo_set (show keyL[k]? = some (UInt8.ofNat k) by simp [keyL, hk'])] at s
    refine ⟨by omega, by omega, w4, q, ⟨k + 1, by rw [wrap_i64 (by omega) (by omega)]; rfl, by omega, s⟩, ?_⟩
    show 32 - (IntKind.wrap .i64 ((k : Int) + 1)).toNat < 32 - ((k : Int)).toNat
    rw [wrap_i64 (by omega) (by omega)]; omega
  · have hk' : k = 32 := by simp at h; omega
    subst hk'
    rw [show 32 = keyL.length from kl.symm, upTo_all] at hS
    refine ⟨_, hS.ldA (i := 0) rfl (e32 _) (s32 _) (by simp [kl]), ?_⟩
    have hn := build_arr (P := Try.prog) (w := w3) (zero12 w3) Try.underlying24 (sB _) (bv [0, 0, 0, 9, 0, 0, 0, 74]) (bv_one _) (by simp)
    refine ⟨_, hn, (block_spec keyL [0, 0, 0, 9, 0, 0, 0, 74, 0, 0, 0, 0] 1 w3 kl rfl (by decide)).mono ?_⟩
    rintro e w5 ⟨rfl, hc5⟩
    obtain ⟨B, hB⟩ : ∃ B, blockF keyL 1 [0, 0, 0, 9, 0, 0, 0, 74, 0, 0, 0, 0] = B := ⟨_, rfl⟩
    have hBl : B.length = 64 := by rw [← hB]; simp
    obtain ⟨b0, b1, b2, b3, b15⟩ := alive_block
    rw [hB] at b0 b1 b2 b3 b15 ⊢
    obtain ⟨g6, w6, r6, h6⟩ := (hS.same hc5).zeroA zero64
    obtain ⟨w7, r7, h7⟩ := h6.stA (i := 1) (v := bv B) rfl (s64 _) (by simp) (by simp [hBl]) (bv_one _)
    have ld : ∀ j, j < 64 → (Instr.loadAt 5 (.pointer (some ⟨g6, j, none⟩))).run Try.prog w7 = .ok (.int .u8 ((B.getD j 0).toNat : Int)) w7 := fun j hj => h7.ldB (i := 1) rfl (bA _) rfl (by omega)
    have l0 := ld 0 (by omega)
    have l1 := ld 1 (by omega)
    have l2 := ld 2 (by omega)
    have l3 := ld 3 (by omega)
    have l15 := ld 15 (by omega)
    rw [b0] at l0
    rw [b1] at l1
    rw [b2] at l2
    rw [b3] at l3
    rw [b15] at l15
    refine ⟨_, rfl, _, _, r6, _, r7, _, l0, fun _ => ⟨_, l1, fun _ => ⟨_, l2, fun _ => ⟨_, l3, fun _ => ⟨_, l15, rfl, h7.chg⟩, fun h => ?_⟩, fun h => ?_⟩, fun h => ?_⟩, fun h => ?_⟩ <;> exact absurd h (by decide)

theorem eql64 (x y : Operand) (l : List UInt8) (hl : l.length = 64) (w : World) : (eqlS .eql 26 x y (.agg (bv l).toArray) (.agg (bv l).toArray)).run Try.prog w = .ok (.bool true) w := by
  have := eqlS_arr (P := Try.prog) (k := .u8) Try.underlying26 bE (fun w => Try.sizeOf5 w) (fun w => bA w) (by kernel_rfl) x y (l.map fun b => (b.toNat : Int)) (by simpa using hl) w
  rw [List.map_map] at this
  exact this

theorem chachaBlocks_walk (key nonce : List UInt8) (ctr : Nat) (w : World) (hk : key.length = 32) (hn : nonce.length = 12) (hc : ctr < 4294967296) :
    Calls Try.prog 3 #[.agg (bv key).toArray, .int .u32 (ctr : Int), .agg (bv nonce).toArray] w fun e w' => e = .returned (.bool true) ∧ Chg [] w w' := by
  apply amphoralaw03_ChachaBlocks_vc
  have s32 : ∀ w, (sizeOf 22).run Try.prog w = .ok 32 w := fun w => Try.sizeOf22 w
  have s12 : ∀ w, (sizeOf 24).run Try.prog w = .ok 12 w := fun w => Try.sizeOf24 w
  obtain ⟨g1, w1, r1, h1⟩ := (St.start w).boxA (P := Try.prog) 22 (bv key)
  obtain ⟨g2, w2, r2, h2⟩ := h1.boxA (P := Try.prog) 24 (bv nonce)
  obtain ⟨M, hM⟩ : ∃ M : List Res, M = [Res.arr g1 22 (bv key), Res.arr g2 24 (bv nonce)] := ⟨_, rfl⟩
  have h2' : St w [] w2 M := by rw [hM]; exact h2
  have i0 : M[0]? = some (.arr g1 22 (bv key)) := by rw [hM]; rfl
  have i1 : M[1]? = some (.arr g2 24 (bv nonce)) := by rw [hM]; rfl
  refine ⟨_, _, r1, _, _, r2, fun w' => St w [] w' M, h2'.drew, (alive_spec _).mono ?_⟩
  rintro e w3 ⟨rfl, hc3⟩
  have h3 := h2'.drew.same hc3
  refine ⟨_, rfl, fun w' => St w [] w' M, fun _ h => h, h3, fun _ => ?_, fun h => (by cases h)⟩
  refine ⟨_, fun w' h => h.ldA i0 (e32 _) (s32 _) (by simp [hk]), _, fun w' h => h.ldA i1 (e12 _) (s12 _) (by simp [hn]), _, fun w' h => h.ldA i0 (e32 _) (s32 _) (by simp [hk]), _, fun w' h => h.ldA i1 (e12 _) (s12 _) (by simp [hn]), ?_⟩
  refine (block_spec key nonce ctr w3 hk hn hc).mono ?_
  rintro e w4 ⟨rfl, hc4⟩
  refine ⟨_, rfl, fun w' => St w [] w' M, fun _ h => h, h3.same hc4, (rblock_spec key nonce ctr w4 hk hn hc).mono ?_⟩
  rintro e w5 ⟨rfl, hc5⟩
  refine ⟨_, rfl, fun w' => St w [] w' M, fun _ h => h, (h3.same hc4).same hc5, _, fun w' _ => eql64 _ _ _ (by simp) w', rfl, ((h3.same hc4).same hc5).chg⟩

theorem chachaBlocks_walk_int (key nonce : List UInt8) (x : Int) (w : World) (hk : key.length = 32) (hn : nonce.length = 12) (hx : 0 ≤ x ∧ x ≤ 4294967295) :
    Calls Try.prog 3 #[.agg (bv key).toArray, .int .u32 x, .agg (bv nonce).toArray] w fun e w' => e = .returned (.bool true) ∧ Chg [] w w' := by
  obtain ⟨c, rfl⟩ := Int.eq_ofNat_of_zero_le hx.1
  exact chachaBlocks_walk key nonce c w hk hn (by omega)

end Go.Proofs.Ythjipjhjhanddaa
