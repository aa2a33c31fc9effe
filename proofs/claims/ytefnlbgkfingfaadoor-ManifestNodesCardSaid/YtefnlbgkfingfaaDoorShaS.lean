/- The reference's Mac; the law ShaSums answers true (conditions: the table lies where the program laid it). -/
import Derived.Test.YtefnlbgkfingfaaDoorShaM
import Derived.Test.YtefnlbgkfingfaaDoorShaR
import Derived.Test.YtefnlbgkfingfaaDoorShaE
namespace Go.Proofs.YtefnlbgkfingfaaDoor
open Go Sx
set_option maxRecDepth 8000

theorem bv_zeros (n : Nat) : bv (List.replicate n 0) = List.replicate n (.int .u8 0) := by simp [bv]

theorem rmac_spec (a : Option Addr) (n c : Nat) (key : List UInt8) (a1 : Option Addr) (n1 c1 : Nat) (vs : List Value) (ls : List (List UInt8)) (w : World) (hr : RdB w a n c key) (hb : n ≤ 70368744170000) (hr1 : Rd w a1 n1 c1 1 vs) (h2 : Row2 w vs ls) (hb1 : ls.flatten.length ≤ 70368744170000) (hn1 : n1 ≤ 4611686018427387904) :
    Calls Tryd.prog 40 #[.slice a n c, .slice a1 n1 c1] w fun e w' => e = .returned (.agg (bv (macF key ls.flatten)).toArray) ∧ Chg [] w w' := by
  have hl := hr.lenB
  have hln : ls.length = n1 := by have := hr1.len; have := h2.len; omega
  apply amphoraref02_Mac_vc
  obtain ⟨g4, w1, r1, h1⟩ := (St.start w).zeroA d32Z
  refine ⟨_, _, r1, fun xa xn xc w' => ∃ k : List UInt8, RdB w' xa xn xc k ∧ k.length ≤ 64 ∧ macK key = k ++ List.replicate (64 - k.length) 0 ∧ St w [] w' [.arr g4 22 (bv (List.replicate 32 0))], ⟨fun h => ?_, fun h => ?_⟩, ?_⟩
  · have hn : 64 < key.length := by simp at h; omega
    obtain ⟨g2, w2, r2, h2'⟩ := h1.lit bbT [.slice a n c] (by simp [Value.oneCell']) (by simp)
    refine ⟨_, _, _, _, r2, (rsum_spec _ 1 1 _ [key] w2 (h2'.rd (i := 1) rfl) (row2_one (h2'.rd1 hr)) (by simp; omega) (by decide)).mono ?_⟩
    rintro e w3 ⟨rfl, hc3⟩
    have hk1 : shaF [key].flatten = shaF key := by simp
    rw [hk1]
    have h3 := h2'.same hc3
    obtain ⟨g5, w4, r4, h4⟩ := h3.zeroA d32Z
    obtain ⟨w5, r5, h5⟩ := h4.stA (i := 2) (v := bv (shaF key)) rfl (d32S _) (by simp) (by simp) (bv_one _)
    refine ⟨_, rfl, g5, w4, r4, w5, r5, by omega, by omega, shaF key, h5.rdA (i := 2) rfl (by simp), by simp, ?_, h5.sub (List.Sublist.cons_cons _ (List.nil_sublist _))⟩
    simp only [macK, if_pos hn]
  · have hn : ¬ 64 < key.length := by simp at h; omega
    exact ⟨key, h1.rd1 hr, by omega, by simp only [macK, if_neg hn], h1⟩
  rintro xa xn xc w6 ⟨k, hrk, hk64, hmk, h6⟩
  have hkl := hrk.lenB
  obtain ⟨K, hKk⟩ : ∃ K, macK key = K := ⟨_, rfl⟩
  have hKl : K.length = 64 := by rw [← hKk]; exact macK_len key
  have hr16 := hr1.keep0 h6.chg
  have h26 := h2.keep0 h6.chg
  obtain ⟨gi, w7, r7, h7⟩ := (St.start w6).mkN (kl := .i64) (kc := .i64) (c := 64) bT rfl (by omega) (by omega) (by omega)
  obtain ⟨go, w8, r8, h8⟩ := h7.mkN (kl := .i64) (kc := .i64) (c := 64) bT rfl (by omega) (by omega) (by omega)
  have h8' : St w6 [] w8 [.row 5 1 (.slice (some ⟨gi, 0, none⟩) 64 64) 64 (bv (mixG (ipad key) (List.replicate 64 0) 0)), .row 5 1 (.slice (some ⟨go, 0, none⟩) 64 64) 64 (bv (mixG (opad key) (List.replicate 64 0) 0))] := by
    rw [mixG_zero, mixG_zero, bv_zeros]; exact h8
  have hip := ipad_len key
  have hop := opad_len key
  refine ⟨_, _, _, _, r7, _, _, _, _, r8, fun x w' => ∃ i : Nat, x = (i : Int) ∧ i ≤ 64 ∧ St w6 [] w' [.row 5 1 (.slice (some ⟨gi, 0, none⟩) 64 64) 64 (bv (mixG (ipad key) (List.replicate 64 0) i)), .row 5 1 (.slice (some ⟨go, 0, none⟩) 64 64) 64 (bv (mixG (opad key) (List.replicate 64 0) i))], fun x _ => 64 - x.toNat,
    ⟨0, rfl, by omega, h8'⟩, ?_⟩
  rintro x w9 ⟨i, rfl, hi, h9⟩
  refine ⟨fun h => ?_, fun h => ?_⟩
  · have hi' : i < 64 := by simp at h; omega
    have hKi : K.getD i 0 = if i < k.length then k.getD i 0 else 0 := by
      rw [← hKk, hmk]
      simp only [List.getD, List.getElem?_append]
      split
      · rfl
      · rw [List.getElem?_replicate]; split <;> rfl
    refine ⟨fun x w' => x = ((K.getD i 0).toNat : Int) ∧ w' = w9, ⟨fun h => ?_, fun h => ?_⟩, ?_⟩
    · have hik : i < xn := by simp at h; omega
      refine ix0 (hrk.keep0 h9.chg).cells hkl i hik fun b o ha q => ⟨b, o, ha, by omega, by omega, _, q w9 (hrk.keep0 h9.chg).cells, ?_, rfl⟩
      rw [hKi, if_pos (by omega)]
    · have hik : ¬ i < xn := by simp at h; omega
      refine ⟨?_, rfl⟩
      rw [hKi, if_neg (by omega)]; rfl
    rintro y w10 ⟨rfl, rfl⟩
    have hb5 : (opad key)[i]? = some (K.getD i 0 ^^^ 0x5c) := by simp [opad, hKk, List.getD, show i < K.length by omega]
    have hb3 : (ipad key)[i]? = some (K.getD i 0 ^^^ 0x36) := by simp [ipad, hKk, List.getD, show i < K.length by omega]
    have x5 : bxor .u8 ((K.getD i 0).toNat : Int) 92 = ((K.getD i 0 ^^^ 0x5c).toNat : Int) := xorc_val _ 0x5c
    have x3 : bxor .u8 ((K.getD i 0).toNat : Int) 54 = ((K.getD i 0 ^^^ 0x36).toNat : Int) := xorc_val _ 0x36
    obtain ⟨w11, r11, h11⟩ := h9.stRow (i := 0) (j := i) (T := 5) (v := .int .u8 ((K.getD i 0 ^^^ 0x36).toNat : Int)) rfl (sB1 _) hi' rfl
    rw [bv_set, mixG_set (by rw [hip, List.length_replicate]) hb3] at h11
    obtain ⟨w12, r12, h12⟩ := h11.stRow (i := 1) (j := i) (T := 5) (v := .int .u8 ((K.getD i 0 ^^^ 0x5c).toNat : Int)) rfl (sB1 _) hi' rfl
    rw [bv_set, mixG_set (by rw [hop, List.length_replicate]) hb5] at h12
    have ze : 0 + Int.toNat (i : Int) * 1 = i := by omega
    refine ⟨gi, 0, rfl, by omega, by omega, w11, by rw [x3, ze]; exact r11, go, 0, rfl, by omega, by omega, w12, by rw [x5, ze]; exact r12, ⟨i + 1, wrap_succ hi' (by omega), by omega, h12⟩, mu_succ hi' (by omega)⟩
  · have hi' : i = 64 := by simp at h; omega
    have f1 : mixG (ipad key) (List.replicate 64 (0 : UInt8)) i = ipad key := by
      have := mixG_all (x := ipad key) (l := List.replicate 64 (0 : UInt8)) (by rw [hip, List.length_replicate])
      rw [List.length_replicate] at this; rw [hi', this]
    have f2 : mixG (opad key) (List.replicate 64 (0 : UInt8)) i = opad key := by
      have := mixG_all (x := opad key) (l := List.replicate 64 (0 : UInt8)) (by rw [hop, List.length_replicate])
      rw [List.length_replicate] at this; rw [hi', this]
    rw [f1, f2] at h9
    clear f1 f2 hi' h hi h8' h8 h7
    refine ⟨fun xa xn xc x w' => ∃ i : Nat, x = (i : Int) ∧ i ≤ n1 ∧ xn = 64 + (ls.take i).flatten.length ∧ St w6 [] w' [.row 5 1 (.slice xa xn xc) xn (bv (ipad key ++ (ls.take i).flatten)), .row 5 1 (.slice (some ⟨go, 0, none⟩) 64 64) 64 (bv (opad key))], fun _ _ _ x _ => n1 - x.toNat, ⟨0, rfl, by omega, by simp, by simpa using h9⟩, ?_⟩
    rintro ya yn yc y w10 ⟨i, rfl, hi, rfl, h10⟩
    have hft := flat_take_le ls i
    refine ⟨fun h => ?_, fun h => ?_⟩
    · have hi' : i < n1 := by simp at h; omega
      obtain ⟨b, o, a', n', c', ha, hv, hrd, hld⟩ := ixS hr16.cells h26 (i := i) (by omega)
      have hl' := hrd.lenB
      have hf1 := flat_take (ls := ls) (i := i) (by omega)
      have hf2 := flat_take_le ls (i + 1)
      have hf3 := congrArg List.length hf1
      rw [List.length_append, hl'] at hf3
      obtain ⟨va, vc, w11, r11, h11⟩ := h10.appendB (i := 0) rfl (h10.rd1 hrd) (by omega)
      refine ⟨b, o, ha, by omega, by omega, _, _, _, hld w10 (hr16.cells.keep0 h10.chg), _, _, _, _, r11, ⟨i + 1, wrap_succ hi' hn1, by omega, by omega, ?_⟩, mu_succ hi' hn1⟩
      rw [hf1, ← List.append_assoc]; exact h11
    · have hi' : i = n1 := by simp at h; omega
      have hta : ls.take i = ls := by rw [hi', ← hln, List.take_length]
      rw [hta] at h10 ⊢
      obtain ⟨ms, hms⟩ : ∃ ms, ls.flatten = ms := ⟨_, rfl⟩
      rw [hms] at h10 hb1 ⊢
      obtain ⟨g11, w11, r11, h11⟩ := h10.lit bbT [.slice ya (64 + ms.length) yc] (by simp [Value.oneCell']) (by simp)
      refine ⟨_, _, _, _, r11, (rsum_spec _ 1 1 _ [ipad key ++ ms] w11 (h11.rd (i := 2) rfl) (row2_one (h11.rd (i := 0) rfl)) (by simp [hip]; omega) (by decide)).mono ?_⟩
      rintro e w12 ⟨rfl, hc12⟩
      have hk1 : shaF [ipad key ++ ms].flatten = shaF (ipad key ++ ms) := by simp
      rw [hk1]
      have h12 := h11.same hc12
      obtain ⟨g13, w13, r13, h13⟩ := h12.zeroA d32Z
      obtain ⟨w14, r14, h14⟩ := h13.stA (i := 3) (v := bv (shaF (ipad key ++ ms))) rfl (d32S _) (by simp) (by simp) (bv_one _)
      obtain ⟨g15, w15, r15, h15⟩ := h14.lit bbT [.slice (some ⟨go, 0, none⟩) 64 64, .slice (some ⟨g13, 0, none⟩) 32 32] (by simp [Value.oneCell']) (by simp)
      refine ⟨_, rfl, g13, w13, r13, w14, r14, by omega, by omega, _, _, _, _, r15, (rsum_spec _ 2 2 _ [opad key, shaF (ipad key ++ ms)] w15 (h15.rd (i := 4) rfl) (row2_two (h15.rd (i := 1) rfl) (h15.rdA (i := 3) rfl (by simp))) (by simp [hop]) (by decide)).mono ?_⟩
      rintro e w16 ⟨rfl, hc16⟩
      have hm : shaF [opad key, shaF (ipad key ++ ms)].flatten = macF key ms := by rw [macF_pads]; simp
      rw [hm]
      have hfin := h6.same (h15.chg.trans hc16)
      obtain ⟨w17, r17, h17⟩ := hfin.stA (i := 0) (v := bv (macF key ms)) rfl (d32S _) (by simp) (by simp) (bv_one _)
      exact ⟨_, rfl, w17, r17, _, h17.ldVarA (i := 0) (l := bv (macF key ms)) rfl (d32A _) (d32S _) (by simp), rfl, h17.chg⟩

theorem row2_three {w : World} {a : Option Addr} {n c : Nat} {l : List UInt8} {a2 : Option Addr} {n2 c2 : Nat} {l2 : List UInt8} {a3 : Option Addr} {n3 c3 : Nat} {l3 : List UInt8} (h : RdB w a n c l) (h2 : RdB w a2 n2 c2 l2) (h3 : RdB w a3 n3 c3 l3) : Row2 w [.slice a n c, .slice a2 n2 c2, .slice a3 n3 c3] [l, l2, l3] :=
  (row2_two h2 h3).cons h

theorem eqD (x y : Operand) (l : List UInt8) (hl : l.length = 32) (w : World) : (eqlS .eql 22 x y (.agg (bv l).toArray) (.agg (bv l).toArray)).run Tryd.prog w = .ok (.bool true) w := by
  rw [bv_ints]
  exact eqlS_arr Tryd.underlying22 bE (fun w => sB1 w) bA (by kernel_rfl) x y _ (by simp [hl]) w
theorem neD (x y : Operand) (l : List UInt8) (hl : l.length = 32) (w : World) : (eqlS .neq 22 x y (.agg (bv l).toArray) (.agg (bv l).toArray)).run Tryd.prog w = .ok (.bool false) w := by
  rw [bv_ints]
  exact neqS_arr Tryd.underlying22 bE (fun w => sB1 w) bA (by kernel_rfl) x y _ (by simp [hl]) w

end Go.Proofs.YtefnlbgkfingfaaDoor
