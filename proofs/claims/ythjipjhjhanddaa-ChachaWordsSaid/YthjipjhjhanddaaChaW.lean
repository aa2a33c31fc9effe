/- The law ChachaWords answers true (conditions: none). -/
import Derived.Test.YthjipjhjhanddaaChaG
namespace Go.Proofs.Ythjipjhjhanddaa
open Go Sx

theorem xorL_zeros (key nonce : List UInt8) (b : Nat) : xorL key nonce (64 * b) (List.replicate 64 0) = blockF key b nonce := by
  apply List.ext_getElem?
  intro i
  by_cases h : i < 64
  · rw [xorL_get (by simpa using h), strB, show (64 * b + i) / 64 = b by omega, show (64 * b + i) % 64 = i by omega]
    have hz : (List.replicate 64 (0 : UInt8)).getD i 0 = 0 := by rw [List.getD, List.getElem?_replicate, if_pos h]; rfl
    have hl : i < (blockF key b nonce).length := by simpa using h
    rw [hz, UInt8.zero_xor, List.getD, List.getElem?_eq_getElem hl]; rfl
  · rw [List.getElem?_eq_none (by simp; omega), List.getElem?_eq_none (by simp; omega)]

theorem xorL_zero1 (key nonce : List UInt8) (b : Nat) : xorL key nonce (64 * b + 17) [0] = [(blockF key b nonce).getD 17 0] := by
  simp [xorL, strB, show (64 * b + 17) / 64 = b by omega, show (64 * b + 17) % 64 = 17 by omega]

theorem chachaWords_walk (key nonce : List UInt8) (x : Int) (a : Option Addr) (n c : Nat) (l : List UInt8) (b : Nat) (w : World) (hk : key.length = 32) (hn : nonce.length = 12) (hb : b < 4294967296) :
    Calls Try.prog 6 #[.agg (caseL key nonce x a n c).toArray, .int .u32 (b : Int)] w fun e w' => e = .returned (.bool true) ∧ Chg [] w w' := by
  apply amphoralaw03_ChachaWords_vc
  obtain ⟨_, hI⟩ := eI
  have s64 : ∀ w, (sizeOf 26).run Try.prog w = .ok 64 w := fun w => Try.sizeOf26 w
  obtain ⟨g1, w1, r1, h1⟩ := (St.start w).boxA (P := Try.prog) 31 (caseL key nonce x a n c)
  refine ⟨_, _, r1, (alive_spec _).mono ?_⟩
  rintro e w2 ⟨rfl, hc2⟩
  have h2 := h1.same hc2
  refine ⟨_, rfl, fun h => by simp at h, fun _ => ⟨_, case_key hk h2 (i := 0) rfl, _, case_nonce hk hn h2 (i := 0) rfl, (block_spec key nonce b w2 hk hn hb).mono ?_⟩⟩
  rintro e w3 ⟨rfl, hc3⟩
  have h3 := h2.same hc3
  obtain ⟨B, hB⟩ : ∃ B, blockF key b nonce = B := ⟨_, rfl⟩
  have hBl : B.length = 64 := by rw [← hB]; simp
  rw [hB]
  obtain ⟨g4, w4, r4, h4⟩ := h3.zeroA zero64
  obtain ⟨w5, r5, h5⟩ := h4.stA (i := 1) (v := bv B) rfl (s64 _) (by simp) (by simp [hBl]) (bv_one _)
  obtain ⟨M, hM⟩ : ∃ M : List Res, M = [.arr g1 31 (caseL key nonce x a n c), .arr g4 26 (bv B)] := ⟨_, rfl⟩
  have h5' : St w [] w5 M := by rw [hM]; exact h5
  have i0 : M[0]? = some (.arr g1 31 (caseL key nonce x a n c)) := by rw [hM]; rfl
  have i1 : M[1]? = some (.arr g4 26 (bv B)) := by rw [hM]; rfl
  have e0 : IntKind.wrap .i64 ((64 : Int) * IntKind.wrap .i64 (b : Int)) = ((64 * b : Nat) : Int) := by rw [wrap_i64_nat _ (by omega), wrap_i64 (by omega) (by omega)]; omega
  have e1 : IntKind.wrap .i64 (((64 * b : Nat) : Int) + 17) = ((64 * b + 17 : Nat) : Int) := by rw [wrap_i64 (by omega) (by omega)]; omega
  rw [e0, e1]
  obtain ⟨g6, w6, r6, h6⟩ := h5'.drew.mkN (kl := .i64) (kc := .i64) (c := 64) bT rfl (by omega) (by omega) (by omega)
  refine ⟨_, rfl, _, _, r4, _, r5, fun w' => St w [] w' M, h5'.drew, _, fun w' h => case_key hk h i0, _, fun w' h => case_nonce hk hn h i0, _, _, _, _, r6, fun w' => St w [] w' M, fun _ h => h, St.pop h6, ?_⟩
  have hz64 : RdB w6 (some ⟨g6, 0, none⟩) 64 64 (List.replicate 64 0) := by
    have := h6.rdLast
    have e : (List.replicate (64 : Int).toNat (Value.int .u8 0)) = bv (List.replicate 64 0) := rfl
    rw [e] at this
    exact this
  have f1 : roomF ((64 * b : Nat) : Int) 64 = true := by simp only [roomF, Bool.and_eq_true, decide_eq_true_eq]; omega
  refine (xor_spec key nonce ((64 * b : Nat) : Int) _ _ _ _ w6 hk hn (by omega) (by omega) hz64 (by decide)).mono ?_
  rintro e w7 ⟨a7, n7, c7, rfl, f7⟩
  have h7' := f7.add (St.pop h6)
  have h7 := (St.pop h6).same f7.1
  have hR7 : xorR key nonce ((64 * b : Nat) : Int) (List.replicate 64 0) = B := by rw [xorR, List.length_replicate, f1, if_pos rfl, Int.toNat_natCast, xorL_zeros, hB]
  have hE7 : xorE ((64 * b : Nat) : Int) 64 = none := by unfold xorE; rw [if_pos f1]
  rw [hR7] at f7 h7'
  obtain ⟨g8, w8, r8, h8⟩ := h7'.drew.mkN (kl := .i64) (kc := .i64) (c := 1) bT rfl (by omega) (by omega) (by omega)
  refine ⟨_, _, _, _, rfl, fun w' => St w [] w' M, fun _ h => h, h7, fun w' => St w [] w' M, h7.drew, _, fun w' h => case_key hk h i0, _, fun w' h => case_nonce hk hn h i0, _, _, _, _, r8, fun w' => St w [] w' M, fun _ h => h, St.pop (St.pop h8), ?_⟩
  have hz1 : RdB w8 (some ⟨g8, 0, none⟩) 1 1 [0] := by
    have := h8.rdLast
    have e : (List.replicate (1 : Int).toNat (Value.int .u8 0)) = bv [0] := rfl
    rw [e] at this
    exact this
  have f2 : roomF ((64 * b + 17 : Nat) : Int) 1 = true := by simp only [roomF, Bool.and_eq_true, decide_eq_true_eq]; omega
  refine (xor_spec key nonce ((64 * b + 17 : Nat) : Int) _ _ _ _ w8 hk hn (by omega) (by omega) hz1 (by decide)).mono ?_
  rintro e w9 ⟨a9, n9, c9, rfl, f9⟩
  have h9' := (St.pop h8).same f9.1
  have h9 := St.pop h9'
  have hR9 : xorR key nonce ((64 * b + 17 : Nat) : Int) [0] = [B.getD 17 0] := by rw [xorR, show ([0] : List UInt8).length = 1 from rfl, f2, if_pos rfl, Int.toNat_natCast, xorL_zero1, hB]
  have hE9 : xorE ((64 * b + 17 : Nat) : Int) 1 = none := by unfold xorE; rw [if_pos f2]
  rw [hR9] at f9
  have hn9 : n9 = 1 := f9.2.1.symm
  subst hn9
  have cB : ∀ w', Chg [] w9 w' → Cells w' (some ⟨g4, 0, none⟩) (bv B) := fun w' h => .inr ⟨g4, 0, rfl, (h9.same h).cellsA i1⟩
  have hrow : (M ++ [Res.row 5 1 (.slice a7 n7 c7) n7 (bv B)])[M.length]? = some (.row 5 1 (.slice a7 n7 c7) n7 (bv B)) := by rw [List.getElem?_append_right (Nat.le_refl _), Nat.sub_self]; rfl
  refine ⟨_, _, _, _, rfl, fun w' => St w [] w' M, fun _ h => h, h9, fun w' => Chg [] w9 w', Chg.drew _ _, _, fun w' _ => eqlS_nil hI _ _ w', fun _ => ?_, fun h => (by rw [hE7] at h; cases h)⟩
  refine ⟨_, fun w' _ => eqlS_nil hI _ _ w', fun _ => ?_, fun h => (by rw [hE9] at h; cases h)⟩
  refine ⟨by decide, by decide, _, fun w' h => toStr bS bE sS ((h9'.same h).cells hrow) f7.2.1, _, fun w' h => toStr bS bE sS (cB w' h) hBl, fun _ => ⟨fun _ => ?_, fun h => by simp at h⟩, fun h => by simp at h⟩
  refine ix0 f9.cells f9.2.1 0 (by decide) fun b' o' he hld => ?_
  refine ⟨b', o', he, by decide, by decide, _, fun w' h => hld w' (f9.cells.keep0 h), _, fun w' h => (h9.same h).ldB i1 (bA _) rfl (by omega), ?_, h9.drew.chg⟩
  simp [List.getD]

theorem chachaWords_walk_int (key nonce : List UInt8) (x : Int) (a : Option Addr) (n c : Nat) (l : List UInt8) (y : Int) (w : World) (hk : key.length = 32) (hn : nonce.length = 12) (hb : 0 ≤ y ∧ y ≤ 4294967295) :
    Calls Try.prog 6 #[.agg (caseL key nonce x a n c).toArray, .int .u32 y] w fun e w' => e = .returned (.bool true) ∧ Chg [] w w' := by
  obtain ⟨b, rfl⟩ := Int.eq_ofNat_of_zero_le hb.1
  exact chachaWords_walk key nonce x a n c l b w hk hn (by omega)

end Go.Proofs.Ythjipjhjhanddaa
