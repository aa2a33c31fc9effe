/- The law WireCuts answers true (conditions: none). -/
import Derived.Test.YtpfjakmbokkkoaaWireP
import Derived.Test.YtpfjakmbokkkoaaSum
namespace Go.Proofs.Ytpfjakmbokkkoaa
open Go Sx

theorem Sx.Rd.upto {w : World} {a : Option Addr} {n c k : Nat} {l : List UInt8} (h : RdB w a n c l) (hk : k ≤ n) : RdB w a k c (l.take k) := by
  have h0 : SubA 1 a 0 c a := ⟨fun _ => rfl, fun _ => by cases a <;> simp [Addr.add]⟩
  have := h.sub h0 (hh := k) (by omega) hk (by have := h.le; omega) (Nat.le_refl _)
  have e2 : ((bv l).drop (0 * 1)).take ((k - 0) * 1) = bv (l.take k) := by simp [bv_take]
  rw [e2] at this
  exact this

theorem FreshB.rdB {w w' : World} {a : Option Addr} {n c : Nat} {l : List UInt8} (h : FreshB w w' a n c l) : RdB w' a n c l := (h.add (St.start w)).rd (i := 0) rfl

theorem wireCuts_walk (a : Option Addr) (n c : Nat) (vs : List Value) (ls : List (List UInt8)) (k : UInt8) (x : Int) (w : World) (hr : Rd w a n c 1 vs) (h2 : Row2 w vs ls) :
    Calls Try.prog 8 #[.slice a n c, .int .u8 (k.toNat : Int), .int .i64 x] w fun e w' => e = .returned (.bool true) ∧ Chg [] w w' := by
  have hln : ls.length = n := by have := hr.len; have := h2.len; omega
  obtain ⟨mI, hI⟩ := eI
  apply amphoralaw04_WireCuts_vc
  refine (alive_spec w).mono ?_
  rintro e w1 ⟨rfl, hc1⟩
  refine ⟨_, rfl, fun h => by simp at h, fun _ => ?_⟩
  refine ⟨fun b w' => w' = w1 ∧ (b = false → n ≤ 200 ∧ ls.flatten.length ≤ 16384), ⟨fun _ => ⟨rfl, by simp⟩, fun hn => (sum_spec a n c vs ls 1048576 w1 (hr.keep0 hc1) (h2.keep0 hc1) (by decide) (by simp at hn; omega)).mono ?_⟩, ?_⟩
  · rintro e w2 ⟨rfl, rfl⟩
    refine ⟨_, rfl, rfl, fun h => ?_⟩
    simp only [gt_iff_lt, decide_eq_false_iff_not] at h hn
    split at h <;> omega
  rintro b w3 ⟨rfl, hG⟩
  refine ⟨fun _ => ⟨rfl, hc1⟩, fun hb => ?_⟩
  obtain ⟨hn, hfl⟩ := hG hb
  clear hG
  have hsm : ∀ l ∈ ls, l.length ≤ 67108864 := fun l hl => by have := mem_le_flat hl; omega
  have hpl := packL_len ls fun l hl => by have := hsm l hl; omega
  refine (pack_spec a n c vs ls w3 (hr.keep0 hc1) (h2.keep0 hc1) (by omega) (by omega)).mono ?_
  rintro e w4 ⟨a4, n4, c4, rfl, hf4⟩
  have hc4 := hc1.trans hf4.1
  have hn4 := hf4.2.1
  have hp4 := hf4.rdB
  refine ⟨_, _, _, rfl, fun w' => Chg [] w4 w', ⟨fun h => ?_, fun _ => Chg.refl _ _⟩, ?_⟩
  · simp only [ge_iff_le, Bool.and_eq_true, decide_eq_true_eq] at h
    obtain ⟨m, rfl⟩ := Int.eq_ofNat_of_zero_le h.1
    have hm : m < n4 := by omega
    have hle := hp4.le
    refine ⟨by omega, by omega, thenC (unpack_spec _ _ _ _ (n : Int) w4 (hp4.upto (k := m) (by omega)) (by omega) (by omega)) ?_⟩
    have hz : unpackZ (n : Int) ((packL ls).take m) = none := by rw [unpackZ_nat, ← hln]; exact unpack_cut ls m hsm (by omega)
    rw [hz]
    rintro e w5 ⟨rfl, hc5⟩
    exact ⟨_, _, _, _, rfl, _, eqlS_nil hI (some 9) _ _, fun h => by simp at h, fun _ => hc5⟩
  rintro w6 hc6
  have hp6 := hp4.keep0 hc6
  obtain ⟨g7, w7, r7, h7⟩ := (St.start w6).lit bT [] (by simp) (by simp)
  obtain ⟨va, vc, w8, r8, h8⟩ := h7.appendB (i := 0) (xs := []) rfl (h7.rd1 hp6) (by simp; omega)
  obtain ⟨g9, w9, vb, vd, w10, r9, r10, h10, _⟩ := h8.push1 (i := 0) rfl (by simp; omega) 0 (by decide)
  simp only [List.length_nil, Nat.zero_add, List.nil_append] at r8 r9 r10 h10
  refine ⟨_, _, _, _, r7, _, _, _, _, r8, _, _, _, _, r9, _, _, _, _, r10, thenC (unpack_spec _ _ _ _ (n : Int) w10 (h10.rd (i := 0) rfl) (by omega) (by omega)) ?_⟩
  have hz : unpackZ (n : Int) (packL ls ++ [UInt8.ofNat 0]) = none := by rw [unpackZ_nat, ← hln, unpack_pack ls _ hsm, if_neg (by simp)]
  rw [hz]
  rintro e w11 ⟨rfl, hc11⟩
  have hc11' := ((hc4.trans hc6).trans h10.chg).trans hc11
  refine ⟨_, _, _, _, rfl, _, eqlS_nil hI (some 9) _ _, fun h => by simp at h, fun _ => (frame_spec k a n c vs ls w11 (hr.keep0 hc11') (h2.keep0 hc11') (by omega) (by omega)).mono ?_⟩
  rintro e w12 ⟨a12, n12, c12, rfl, hf12⟩
  have hn12 := hf12.2.1
  have hp12 := hf12.rdB
  have hc12 := hc11'.trans hf12.1
  have h9 := varL_len 9 ls.flatten.length (by omega) (by decide)
  have hfl12 : (frameL k ls.flatten).length ≤ 1 + 9 + 16384 := by simp only [frameL, List.length_cons, List.length_append]; omega
  refine ⟨_, _, _, rfl, fun w' => Chg [] w12 w', ⟨fun h => ?_, fun _ => Chg.refl _ _⟩, ?_⟩
  · simp only [ge_iff_le, Bool.and_eq_true, decide_eq_true_eq] at h
    obtain ⟨m, rfl⟩ := Int.eq_ofNat_of_zero_le h.1
    have hm : m < n12 := by omega
    have hle := hp12.le
    refine ⟨by omega, by omega, (frames_spec _ _ _ _ w12 (hp12.upto (k := m) (by omega)) (by omega)).mono ?_⟩
    rw [framesF_cut (by omega) _ m (by omega)]
    rintro e w13 ⟨a13, n13, c13, vs13, rfl, hO⟩
    have hnum := hO.num
    simp only [List.length_nil] at hnum
    subst hnum
    exact ⟨_, _, _, _, rfl, fun h => by simp at h, fun _ => hO.st.chg⟩
  rintro w14 hc14
  refine (frames_spec _ _ _ _ w14 (hp12.keep0 hc14) (by omega)).mono ?_
  rw [framesF_one (by omega)]
  rintro e w15 ⟨a15, n15, c15, vs15, rfl, hO⟩
  have hnum := hO.num
  simp only [List.length_cons, List.length_nil] at hnum
  subst hnum
  refine ⟨_, _, _, _, rfl, ?_, (hc12.trans hc14).trans hO.st.chg⟩
  simp; omega

theorem wireCuts_walk_int (a : Option Addr) (n c : Nat) (vs : List Value) (ls : List (List UInt8)) (z : Int) (x : Int) (w : World) (hr : Rd w a n c 1 vs) (h2 : Row2 w vs ls) (hz : 0 ≤ z ∧ z ≤ 255) :
    Calls Try.prog 8 #[.slice a n c, .int .u8 z, .int .i64 x] w fun e w' => e = .returned (.bool true) ∧ Chg [] w w' := by
  have h := wireCuts_walk a n c vs ls (UInt8.ofNat z.toNat) x w hr h2
  rwa [ofNat8 (by omega), Int.toNat_of_nonneg hz.1] at h

end Go.Proofs.Ytpfjakmbokkkoaa
