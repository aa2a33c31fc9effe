/- The proof of CatalogNamesCardSaid, part 3: what it rests on (conditions: those that each theorem names). -/
import Derived.Test.YtpmhjnhgpplmnaaGreatDoorS2
import Derived.Test.YtpmhjnhgpplmnaaGreatDoorRows
import Derived.Lib.ConvBytes
import Derived.Lib.AppendZerosOnto
import Derived.Shelf.Strconv.Itoa3
import Derived.Ground.NamesProg
import Derived.Test.YtpmhjnhgpplmnaaGreatDoorProg
import Derived.Maps.RangeRun
import Derived.RangeFuncRecord
import Derived.Lib.ItoaLen
import Derived.Lib.ItoaMem
import Derived.Lib.AtoiAll
import Derived.Shelf.LaysC
section
namespace Go.Proofs.YtpmhjnhgpplmnaaGreatDoor
open Go Sx
set_option maxRecDepth 8000

theorem bv_zeros (n : Nat) : bv (List.replicate n 0) = List.replicate n (.int .u8 0) := by simp [bv]

theorem rmac_spec (a : Option Addr) (n c : Nat) (key : List UInt8) (a1 : Option Addr) (n1 c1 : Nat) (vs : List Value) (ls : List (List UInt8)) (w : World) (hr : RdB w a n c key) (hb : n ≤ 70368744170000) (hr1 : Rd w a1 n1 c1 1 vs) (h2 : Row2 w vs ls) (hb1 : ls.flatten.length ≤ 70368744170000) (hn1 : n1 ≤ 4611686018427387904) :
   Calls Tryz.prog 162 #[.slice a n c, .slice a1 n1 c1] w fun e w' => e = .returned (.agg (bv (macF key ls.flatten)).toArray) ∧ Chg [] w w' := by
 have hl := hr.lenB
 have hln : ls.length = n1 := by have := hr1.len; have := h2.len; omega
 apply amphoraref02_Mac_vc
 obtain ⟨g4, w1, r1, h1⟩ := (St.start w).zeroA d32Z
 refine ⟨_, _, r1, fun xa xn xc w' => ∃ k : List UInt8, RdB w' xa xn xc k ∧ k.length ≤ 64 ∧ macK key = k ++ List.replicate (64 - k.length) 0 ∧ St w [] w' [.arr g4 39 (bv (List.replicate 32 0))], ⟨fun h => ?_, fun h => ?_⟩, ?_⟩
 · have hn : 64 < key.length := by simp at h; omega
   obtain ⟨g2, w2, r2, h2'⟩ := h1.lit bbT [.slice a n c] (by simp [Value.oneCell']) (by simp)
   refine ⟨_, _, _, _, r2, (rsum_spec _ 1 1 _ [key] w2 (h2'.rd (i := 1) rfl) (row2_one (h2'.rd1 hr)) (by simp; omega) (by decide)).mono ?_⟩
   rintro e w3 ⟨rfl, hc3⟩
   have hk1 : shaF [key].flatten = shaF key := by simp
   rw [hk1]
   have h3 := h2'.same hc3
   obtain ⟨g5, w4, r4, h4⟩ := h3.zeroA d32Z
   obtain ⟨w5, r5, h5⟩ := h4.stA (i := 2) (v := bv (shaF key)) rfl (d32S _) (by simp) (by simp) (bv_one _)
   refine ⟨_, rfl, g5, w4, r4, w5, r5, by omega, by omega, shaF key, h5.rdA (i := 2) rfl (by simp), by simp, ?_, h5.sub (List.Sublist.cons_cons _ (List.nil_sublist _))⟩
   simp only [macK, if_pos hn]
 · have hn : ¬ 64 < key.length := by simp at h; omega
   exact ⟨key, h1.rd1 hr, by omega, by simp only [macK, if_neg hn], h1⟩
 rintro xa xn xc w6 ⟨k, hrk, hk64, hmk, h6⟩
 have hkl := hrk.lenB
 obtain ⟨K, hKk⟩ : ∃ K, macK key = K := ⟨_, rfl⟩
 have hKl : K.length = 64 := by rw [← hKk]; exact macK_len key
 have hr16 := hr1.keep0 h6.chg
 have h26 := h2.keep0 h6.chg
 obtain ⟨gi, w7, r7, h7⟩ := (St.start w6).mkN (kl := .i64) (kc := .i64) (c := 64) bT rfl (by omega) (by omega) (by omega)
 obtain ⟨go, w8, r8, h8⟩ := h7.mkN (kl := .i64) (kc := .i64) (c := 64) bT rfl (by omega) (by omega) (by omega)
 have h8' : St w6 [] w8 [.row 5 1 (.slice (some ⟨gi, 0, none⟩) 64 64) 64 (bv (mixG (ipad key) (List.replicate 64 0) 0)), .row 5 1 (.slice (some ⟨go, 0, none⟩) 64 64) 64 (bv (mixG (opad key) (List.replicate 64 0) 0))] := by
   rw [mixG_zero, mixG_zero, bv_zeros]; exact h8
 have hip := ipad_len key
 have hop := opad_len key
 refine ⟨_, _, _, _, r7, _, _, _, _, r8, fun x w' => ∃ i : Nat, x = (i : Int) ∧ i ≤ 64 ∧ St w6 [] w' [.row 5 1 (.slice (some ⟨gi, 0, none⟩) 64 64) 64 (bv (mixG (ipad key) (List.replicate 64 0) i)), .row 5 1 (.slice (some ⟨go, 0, none⟩) 64 64) 64 (bv (mixG (opad key) (List.replicate 64 0) i))], fun x _ => 64 - x.toNat,
   ⟨0, rfl, by omega, h8'⟩, ?_⟩
 rintro x w9 ⟨i, rfl, hi, h9⟩
 refine ⟨fun h => ?_, fun h => ?_⟩
 · have hi' : i < 64 := by simp at h; omega
   have hKi : K.getD i 0 = if i < k.length then k.getD i 0 else 0 := by
     rw [← hKk, hmk]
     simp only [List.getD, List.getElem?_append]
     split
     · rfl
     · rw [List.getElem?_replicate]; split <;> rfl
   refine ⟨fun x w' => x = ((K.getD i 0).toNat : Int) ∧ w' = w9, ⟨fun h => ?_, fun h => ?_⟩, ?_⟩
   · have hik : i < xn := by simp at h; omega
     refine ix0 (hrk.keep0 h9.chg).cells hkl i hik fun b o ha q => ⟨b, o, ha, by omega, by omega, _, q w9 (hrk.keep0 h9.chg).cells, ?_, rfl⟩
     rw [hKi, if_pos (by omega)]
   · have hik : ¬ i < xn := by simp at h; omega
     refine ⟨?_, rfl⟩
     rw [hKi, if_neg (by omega)]; rfl
   rintro y w10 ⟨rfl, rfl⟩
   have hb5 : (opad key)[i]? = some (K.getD i 0 ^^^ 0x5c) := by simp [opad, hKk, List.getD, show i < K.length by omega]
   have hb3 : (ipad key)[i]? = some (K.getD i 0 ^^^ 0x36) := by simp [ipad, hKk, List.getD, show i < K.length by omega]
   have x5 : bxor .u8 ((K.getD i 0).toNat : Int) 92 = ((K.getD i 0 ^^^ 0x5c).toNat : Int) := xorc_val _ 0x5c
   have x3 : bxor .u8 ((K.getD i 0).toNat : Int) 54 = ((K.getD i 0 ^^^ 0x36).toNat : Int) := xorc_val _ 0x36
   obtain ⟨w11, r11, h11⟩ := h9.stRow (i := 0) (j := i) (T := 5) (v := .int .u8 ((K.getD i 0 ^^^ 0x36).toNat : Int)) rfl (sB1 _) hi' rfl
   rw [bv_set, mixG_set (by rw [hip, List.length_replicate]) hb3] at h11
   obtain ⟨w12, r12, h12⟩ := h11.stRow (i := 1) (j := i) (T := 5) (v := .int .u8 ((K.getD i 0 ^^^ 0x5c).toNat : Int)) rfl (sB1 _) hi' rfl
   rw [bv_set, mixG_set (by rw [hop, List.length_replicate]) hb5] at h12
   have ze : 0 + Int.toNat (i : Int) * 1 = i := by omega
   refine ⟨gi, 0, rfl, by omega, by omega, w11, by rw [x3, ze]; exact r11, go, 0, rfl, by omega, by omega, w12, by rw [x5, ze]; exact r12, ⟨i + 1, wrap_succ hi' (by omega), by omega, h12⟩, mu_succ hi' (by omega)⟩
 · have hi' : i = 64 := by simp at h; omega
   have f1 : mixG (ipad key) (List.replicate 64 (0 : UInt8)) i = ipad key := by
     have := mixG_all (x := ipad key) (l := List.replicate 64 (0 : UInt8)) (by rw [hip, List.length_replicate])
     rw [List.length_replicate] at this; rw [hi', this]
   have f2 : mixG (opad key) (List.replicate 64 (0 : UInt8)) i = opad key := by
     have := mixG_all (x := opad key) (l := List.replicate 64 (0 : UInt8)) (by rw [hop, List.length_replicate])
     rw [List.length_replicate] at this; rw [hi', this]
   rw [f1, f2] at h9
   clear f1 f2 hi' h hi h8' h8 h7
   refine ⟨fun xa xn xc x w' => ∃ i : Nat, x = (i : Int) ∧ i ≤ n1 ∧ xn = 64 + (ls.take i).flatten.length ∧ St w6 [] w' [.row 5 1 (.slice xa xn xc) xn (bv (ipad key ++ (ls.take i).flatten)), .row 5 1 (.slice (some ⟨go, 0, none⟩) 64 64) 64 (bv (opad key))], fun _ _ _ x _ => n1 - x.toNat, ⟨0, rfl, by omega, by simp, by simpa using h9⟩, ?_⟩
   rintro ya yn yc y w10 ⟨i, rfl, hi, rfl, h10⟩
   have hft := flat_take_le ls i
   refine ⟨fun h => ?_, fun h => ?_⟩
   · have hi' : i < n1 := by simp at h; omega
     obtain ⟨b, o, a', n', c', ha, hv, hrd, hld⟩ := ixS hr16.cells h26 (i := i) (by omega)
     have hl' := hrd.lenB
     have hf1 := flat_take (ls := ls) (i := i) (by omega)
     have hf2 := flat_take_le ls (i + 1)
     have hf3 := congrArg List.length hf1
     rw [List.length_append, hl'] at hf3
     obtain ⟨va, vc, w11, r11, h11⟩ := h10.appendB (i := 0) rfl (h10.rd1 hrd) (by omega)
     refine ⟨b, o, ha, by omega, by omega, _, _, _, hld w10 (hr16.cells.keep0 h10.chg), _, _, _, _, r11, ⟨i + 1, wrap_succ hi' hn1, by omega, by omega, ?_⟩, mu_succ hi' hn1⟩
     rw [hf1, ← List.append_assoc]; exact h11
   · have hi' : i = n1 := by simp at h; omega
     have hta : ls.take i = ls := by rw [hi', ← hln, List.take_length]
     rw [hta] at h10 ⊢
     obtain ⟨ms, hms⟩ : ∃ ms, ls.flatten = ms := ⟨_, rfl⟩
     rw [hms] at h10 hb1 ⊢
     obtain ⟨g11, w11, r11, h11⟩ := h10.lit bbT [.slice ya (64 + ms.length) yc] (by simp [Value.oneCell']) (by simp)
     refine ⟨_, _, _, _, r11, (rsum_spec _ 1 1 _ [ipad key ++ ms] w11 (h11.rd (i := 2) rfl) (row2_one (h11.rd (i := 0) rfl)) (by simp [hip]; omega) (by decide)).mono ?_⟩
     rintro e w12 ⟨rfl, hc12⟩
     have hk1 : shaF [ipad key ++ ms].flatten = shaF (ipad key ++ ms) := by simp
     rw [hk1]
     have h12 := h11.same hc12
     obtain ⟨g13, w13, r13, h13⟩ := h12.zeroA d32Z
     obtain ⟨w14, r14, h14⟩ := h13.stA (i := 3) (v := bv (shaF (ipad key ++ ms))) rfl (d32S _) (by simp) (by simp) (bv_one _)
     obtain ⟨g15, w15, r15, h15⟩ := h14.lit bbT [.slice (some ⟨go, 0, none⟩) 64 64, .slice (some ⟨g13, 0, none⟩) 32 32] (by simp [Value.oneCell']) (by simp)
     refine ⟨_, rfl, g13, w13, r13, w14, r14, by omega, by omega, _, _, _, _, r15, (rsum_spec _ 2 2 _ [opad key, shaF (ipad key ++ ms)] w15 (h15.rd (i := 4) rfl) (row2_two (h15.rd (i := 1) rfl) (h15.rdA (i := 3) rfl (by simp))) (by simp [hop]) (by decide)).mono ?_⟩
     rintro e w16 ⟨rfl, hc16⟩
     have hm : shaF [opad key, shaF (ipad key ++ ms)].flatten = macF key ms := by rw [macF_pads]; simp
     rw [hm]
     have hfin := h6.same (h15.chg.trans hc16)
     obtain ⟨w17, r17, h17⟩ := hfin.stA (i := 0) (v := bv (macF key ms)) rfl (d32S _) (by simp) (by simp) (bv_one _)
     exact ⟨_, rfl, w17, r17, _, h17.ldVarA (i := 0) (l := bv (macF key ms)) rfl (d32A _) (d32S _) (by simp), rfl, h17.chg⟩

theorem row2_three {w : World} {a : Option Addr} {n c : Nat} {l : List UInt8} {a2 : Option Addr} {n2 c2 : Nat} {l2 : List UInt8} {a3 : Option Addr} {n3 c3 : Nat} {l3 : List UInt8} (h : RdB w a n c l) (h2 : RdB w a2 n2 c2 l2) (h3 : RdB w a3 n3 c3 l3) : Row2 w [.slice a n c, .slice a2 n2 c2, .slice a3 n3 c3] [l, l2, l3] :=
 (row2_two h2 h3).cons h

end Go.Proofs.YtpmhjnhgpplmnaaGreatDoor
end

section
namespace Go.Proofs.YtpmhjnhgpplmnaaGreatDoor
open Go Sx
set_option maxRecDepth 8000

theorem byteI (j : Nat) : IntKind.wrap .u8 ((j + 1 : Nat) : Int) = ((UInt8.ofNat (j + 1)).toNat : Int) := by
 rw [wrap_u8, UInt8.toNat_ofNat']; omega

theorem macF_congr {k k' : List UInt8} (h : macK k = macK k') (m : List UInt8) : macF k m = macF k' m := by simp only [macF, h]

theorem outF_bound {n j : Nat} (h1 : n ≤ 32 * j) (h2 : j = 0 ∨ 32 * (j - 1) < n) : (n + 31) / 32 = j := by omega

theorem rderive_specN (a0 : Option Addr) (n0 c0 : Nat) (salt : List UInt8) (a1 : Option Addr) (n1 c1 : Nat) (secret : List UInt8) (a2 : Option Addr) (n2 c2 : Nat) (info : List UInt8) (x : Int) (w : World) (hr0 : RdB w a0 n0 c0 salt) (hr1 : RdB w a1 n1 c1 secret) (hr2 : RdB w a2 n2 c2 info) (hb : n0 + n1 + n2 ≤ 1099511627776) :
   Calls Tryz.prog 195 #[.slice a0 n0 c0, .slice a1 n1 c1, .slice a2 n2 c2, .int .i64 x] w fun e w' =>
     ((x < 0 ∨ 8160 < x) ∧ e = .returned (.tuple #[.slice none 0 0, .int .i64 7]) ∧ w' = w) ∨
     (0 ≤ x ∧ x ≤ 8160 ∧ ∃ a n c, e = .returned (.tuple #[.slice a n c, .int .i64 0]) ∧ Chg [] w w' ∧ RdB w' a n c (deriveF salt secret info x.toNat) ∧ ∀ ad, a = some ad → w.heap.size ≤ ad.block) := by
 have e0 := hr0.lenB
 have e1 := hr1.lenB
 have e2 := hr2.lenB
 apply amphoraref02_Derive_vc
 refine ⟨fun h => .inl ⟨by simp at h; omega, rfl, rfl⟩, fun h => ?_⟩
 have hx : 0 ≤ x ∧ x ≤ 8160 := by simp at h; omega
 obtain ⟨n, rfl⟩ := Int.eq_ofNat_of_zero_le hx.1
 clear h
 refine ⟨fun xa xn xc w' => ∃ s : List UInt8, RdB w' xa xn xc s ∧ macK s = macK salt ∧ xn ≤ 1099511627776 ∧ Chg [] w w', ⟨fun h => ?_, fun _ => ⟨salt, hr0, rfl, by omega, Chg.refl _ _⟩⟩, ?_⟩
 · have hn0 : n0 = 0 := by simp at h; omega
   have hs : salt = [] := List.eq_nil_of_length_eq_zero (by omega)
   obtain ⟨g, w1, r1, h1⟩ := (St.start w).mkN (kl := .i64) (kc := .i64) (c := 32) bT rfl (by omega) (by omega) (by omega)
   have h1' : St w [] w1 [.row 5 1 (.slice (some ⟨g, 0, none⟩) 32 32) 32 (bv (List.replicate 32 0))] := by rw [bv_zeros]; exact h1
   refine ⟨_, _, _, _, r1, List.replicate 32 0, h1'.rd (i := 0) rfl, ?_, by omega, h1.chg⟩
   rw [hs]; rfl
 rintro xa xn xc w2 ⟨s, hrs, hms, hxn, hc2⟩
 have es := hrs.lenB
 obtain ⟨g3, w3, r3, h3⟩ := (St.start w2).lit bbT [.slice a1 n1 c1] (by simp [Value.oneCell']) (by simp)
 have hc3 := hc2.trans h3.chg
 refine ⟨_, _, _, _, r3, (rmac_spec xa xn xc s _ 1 1 _ [secret] w3 (h3.rd1 hrs) (by omega) (h3.rd (i := 0) rfl) (row2_one (hr1.keep0 hc3)) (by simp; omega) (by decide)).mono ?_⟩
 rintro e w4 ⟨rfl, hc4⟩
 have hk1 : macF s [secret].flatten = macF salt secret := by rw [macF_congr hms]; simp
 rw [hk1]
 obtain ⟨prk, hprk⟩ : ∃ p, macF salt secret = p := ⟨_, rfl⟩
 have hpl : prk.length = 32 := by rw [← hprk]; exact macF_len _ _
 rw [hprk]
 have hdF : deriveF salt secret info n = (outF prk info ((n + 31) / 32)).take n := by rw [deriveF, hprk]
 have hc4' := hc3.trans hc4
 obtain ⟨g5, w5, r5, h5⟩ := ((St.start w).same hc4').zeroA d32Z
 obtain ⟨w6, r6, h6⟩ := h5.stA (i := 0) (v := bv prk) rfl (d32S _) (by simp) (by simp [hpl]) (bv_one _)
 have h6n := h6.addNil 5 1
 obtain ⟨g7, w7, r7, h7⟩ := h6n.lit bT [] (by simp) (by simp)
 refine ⟨_, rfl, g5, w5, r5, w6, r6, _, _, _, _, r7, fun xa xn xc ya yn yc z w' => ∃ j : Nat, z = ((j + 1 : Nat) : Int) ∧ (j = 0 ∨ 32 * (j - 1) < n) ∧ xn = 32 * j ∧ St w [] w' [.arr g5 39 (bv prk), .row 5 1 (.slice xa xn xc) xn (bv (outF prk info j)), .row 5 1 (.slice ya yn yc) yn (bv (tF prk info j))],
   fun _ xn _ _ _ _ _ _ => n + 32 - xn, ⟨0, rfl, .inl rfl, rfl, h7⟩, ?_⟩
 rintro xa' xn' xc' ya yn yc z w8 ⟨j, rfl, hj, rfl, h8⟩
 refine ⟨fun h => ?_, fun h => ?_⟩
 · have hlt : 32 * j < n := by simp at h; omega
   have htl : (tF prk info j).length ≤ 32 := by
     cases j with
     | zero => simp [tF]
     | succ j => simp [tF]
   rw [byteI]
   obtain ⟨g9, w9, r9, h9⟩ := h8.lit bT [.int .u8 ((UInt8.ofNat (j + 1)).toNat : Int)] (by simp [Value.oneCell']) (by simp)
   obtain ⟨g10, w10, r10, h10⟩ := h9.lit bbT [.slice ya yn yc, .slice a2 n2 c2, .slice (some ⟨g9, 0, none⟩) 1 1] (by simp [Value.oneCell']) (by simp)
   have q1 : RdB w10 ya yn yc (tF prk info j) := h10.rd (i := 2) rfl
   have q3 : RdB w10 (some ⟨g9, 0, none⟩) 1 1 [UInt8.ofNat (j + 1)] := h10.rd (i := 3) rfl
   refine ⟨by omega, by omega, _, _, _, _, r9, _, _, _, _, r10, (rmac_spec _ 32 32 prk _ 3 3 _ [tF prk info j, info, [UInt8.ofNat (j + 1)]] w10 (h10.rdA (i := 0) rfl (by simp [hpl])) (by omega) (h10.rd (i := 4) rfl) (row2_three q1 (h10.rd1 hr2) q3) (by simp; omega) (by decide)).mono ?_⟩
   rintro e w11 ⟨rfl, hc11⟩
   have hk2 : macF prk [tF prk info j, info, [UInt8.ofNat (j + 1)]].flatten = tF prk info (j + 1) := by rw [tF]; simp
   rw [hk2]
   have h11 := h10.same hc11
   obtain ⟨g12, w12, r12, h12⟩ := h11.zeroA d32Z
   have htl1 : (tF prk info (j + 1)).length = 32 := by simp [tF]
   obtain ⟨w13, r13, h13⟩ := h12.stA (i := 5) (v := bv (tF prk info (j + 1))) rfl (d32S _) (by simp) (by simp [htl1]) (bv_one _)
   obtain ⟨g14, w14, r14, h14⟩ := h13.lit bT [] (by simp) (by simp)
   obtain ⟨ta, tc, w15, r15, h15⟩ := h14.appendB (i := 6) (xs := []) rfl (h14.rdA (i := 5) (l := bv (tF prk info (j + 1))) (n := 32) rfl (by simp [htl1])) (by simp)
   simp only [List.length_nil, Nat.zero_add, List.nil_append] at r15 h15
   obtain ⟨va, vc, w16, r16, h16⟩ := h15.appendB (i := 1) rfl (h15.rd (i := 6) rfl) (by omega)
   have e1' : 32 * j + 32 = 32 * (j + 1) := by omega
   rw [e1'] at r16 h16
   refine ⟨_, rfl, g12, w12, r12, w13, r13, _, _, _, _, r14, by omega, by omega, _, _, _, _, r15, _, _, _, _, r16, ⟨j + 1, ?_, .inr (by omega), rfl, ?_⟩, ?_⟩
   · rw [wrap_i64 (by omega) (by omega)]; omega
   · have : List.Sublist [Res.arr g5 39 (bv prk), .row 5 1 (.slice va (32 * (j + 1)) vc) (32 * (j + 1)) (bv (outF prk info (j + 1))), .row 5 1 (.slice ta 32 tc) 32 (bv (tF prk info (j + 1)))]
         [Res.arr g5 39 (bv prk), .row 5 1 (.slice va (32 * (j + 1)) vc) (32 * (j + 1)) (bv (outF prk info (j + 1))), .row 5 1 (.slice ya yn yc) yn (bv (tF prk info j)), .row 5 1 (.slice (some ⟨g9, 0, none⟩) 1 1) 1 (bv [UInt8.ofNat (j + 1)]), .row 26 1 (.slice (some ⟨g10, 0, none⟩) 3 3) 3 [.slice ya yn yc, .slice a2 n2 c2, .slice (some ⟨g9, 0, none⟩) 1 1], .arr g12 39 (bv (tF prk info (j + 1))), .row 5 1 (.slice ta 32 tc) 32 (bv (tF prk info (j + 1)))] :=
       List.Sublist.cons_cons _ (List.Sublist.cons_cons _ (List.Sublist.cons _ (List.Sublist.cons _ (List.Sublist.cons _ (List.Sublist.cons _ (List.Sublist.refl _))))))
     exact St.sub h16 this
   · show n + 32 - 32 * (j + 1) < n + 32 - 32 * j
     omega
 · have hge : n ≤ 32 * j := by simp at h; omega
   have hj' := outF_bound hge hj
   have hrow := h8.rd (i := 1) rfl
   have hle := hrow.le
   refine ⟨by omega, by omega, .inr ⟨by omega, by omega, _, _, _, rfl, h8.chg, ?_, fun ad e => ?_⟩⟩
   · rw [Int.toNat_natCast, hdF, hj']
     exact rdB_upto (l := outF prk info j) hrow (k := n) hge
   · subst e
     have := h8.own 1 _ rfl ad.block (by simp [Res.fp, Value.ownBlock])
     simpa using this

end Go.Proofs.YtpmhjnhgpplmnaaGreatDoor
end

section
namespace Go.Proofs.YtpmhjnhgpplmnaaGreatDoor
open Go Sx
set_option maxRecDepth 8000

def aStep (l : List Nat) (i j : Nat) : List Nat := l.set i (add32 (l.getD i 0) (l.getD j 0))
def xStep (l : List Nat) (i j n : Nat) : List Nat := l.set i (rotl (l.getD i 0 ^^^ l.getD j 0) n)
@[simp] theorem aStep_len (l : List Nat) (i j : Nat) : (aStep l i j).length = l.length := by simp [aStep]
@[simp] theorem xStep_len (l : List Nat) (i j n : Nat) : (xStep l i j n).length = l.length := by simp [xStep]
theorem Lt32.aStep {l : List Nat} (h : Lt32 l) (i j : Nat) : Lt32 (aStep l i j) := h.set i (add32_lt _ _)
theorem Lt32.xStep {l : List Nat} (h : Lt32 l) (i j n : Nat) : Lt32 (xStep l i j n) := h.set i (rotl_lt n (xor_lt (h i) (h j)))

def rnd (l : List Nat) (a b c d : Nat) : List Nat := xStep (aStep (xStep (aStep (xStep (aStep (xStep (aStep l a b) d a 16) c d) b c 12) a b) d a 8) c d) b c 7
@[simp] theorem rnd_len (l : List Nat) (a b c d : Nat) : (rnd l a b c d).length = l.length := by simp [rnd]
theorem Lt32.rnd {l : List Nat} (h : Lt32 l) (a b c d : Nat) : Lt32 (rnd l a b c d) := (((((((h.aStep a b).xStep d a 16).aStep c d).xStep b c 12).aStep a b).xStep d a 8).aStep c d).xStep b c 7

def hA (a b : Nat) : Nat := add32 a b
def hD (a b d m : Nat) : Nat := rotl (d ^^^ add32 a b) m
def hC (a b c d m : Nat) : Nat := add32 c (hD a b d m)
def hB (a b c d m n : Nat) : Nat := rotl (b ^^^ hC a b c d m) n

def qA (a b c d : Nat) : Nat := hA (hA a b) (hB a b c d 16 12)
def qD (a b c d : Nat) : Nat := hD (hA a b) (hB a b c d 16 12) (hD a b d 16) 8
def qC (a b c d : Nat) : Nat := hC (hA a b) (hB a b c d 16 12) (hC a b c d 16) (hD a b d 16) 8
def qB (a b c d : Nat) : Nat := hB (hA a b) (hB a b c d 16 12) (hC a b c d 16) (hD a b d 16) 8 7

theorem rnd_eq {l : List Nat} {a b c d : Nat} (ha : a < l.length) (hb : b < l.length) (hc : c < l.length) (hd : d < l.length) (ab : a ≠ b) (ac : a ≠ c) (ad : a ≠ d) (bc : b ≠ c) (bd : b ≠ d) (cd : c ≠ d) :
   rnd l a b c d = (((l.set a (qA (l.getD a 0) (l.getD b 0) (l.getD c 0) (l.getD d 0))).set b (qB (l.getD a 0) (l.getD b 0) (l.getD c 0) (l.getD d 0))).set c (qC (l.getD a 0) (l.getD b 0) (l.getD c 0) (l.getD d 0))).set d (qD (l.getD a 0) (l.getD b 0) (l.getD c 0) (l.getD d 0)) := by
 have h1 : ∀ (k : List Nat) (i v : Nat), i < l.length → k.length = l.length → (k.set i v).getD i 0 = v := fun k i v hi hk => getD_set_self (by omega)
 unfold rnd
 simp only [aStep, xStep]
 simp only [h1, getD_set_ne ab, getD_set_ne ac, getD_set_ne ad, getD_set_ne bc, getD_set_ne bd, getD_set_ne cd, getD_set_ne ab.symm, getD_set_ne ac.symm, getD_set_ne ad.symm, getD_set_ne bc.symm, getD_set_ne bd.symm, getD_set_ne cd.symm, ha, hb, hc, hd, List.length_set]
 simp only [qA, qB, qC, qD, hA, hB, hC, hD]
 apply List.ext_getElem?
 intro i
 simp only [List.getElem?_set, List.length_set]
 by_cases e1 : b = i
 · subst e1; simp [hb, bc.symm, bd.symm, ab, cd]
 · by_cases e2 : c = i
   · subst e2; simp [hc, e1, cd.symm]
   · by_cases e3 : d = i
     · subst e3; simp [hd, e1, e2]
     · by_cases e4 : a = i
       · subst e4; simp [ha, e1, e2, e3]
       · simp [e1, e2, e3, e4]

def colR : Nat → List Nat → List Nat
 | 0, l => l
 | k + 1, l => rnd (colR k l) k (4 + k) (8 + k) (12 + k)
def diaR : Nat → List Nat → List Nat
 | 0, l => l
 | k + 1, l => rnd (diaR k l) k (4 + (k + 1) % 4) (8 + (k + 2) % 4) (12 + (k + 3) % 4)
def dblR : Nat → List Nat → List Nat
 | 0, l => l
 | k + 1, l => diaR 4 (colR 4 (dblR k l))

@[simp] theorem colR_len : ∀ (k : Nat) (l : List Nat), (colR k l).length = l.length
 | 0, _ => rfl
 | k + 1, l => by simp [colR, colR_len k l]
@[simp] theorem diaR_len : ∀ (k : Nat) (l : List Nat), (diaR k l).length = l.length
 | 0, _ => rfl
 | k + 1, l => by simp [diaR, diaR_len k l]
@[simp] theorem dblR_len : ∀ (k : Nat) (l : List Nat), (dblR k l).length = l.length
 | 0, _ => rfl
 | k + 1, l => by simp [dblR, dblR_len k l]
theorem Lt32.colR {l : List Nat} (h : Lt32 l) : ∀ k, Lt32 (colR k l)
 | 0 => h
 | k + 1 => (Lt32.colR h k).rnd _ _ _ _
theorem Lt32.diaR {l : List Nat} (h : Lt32 l) : ∀ k, Lt32 (diaR k l)
 | 0 => h
 | k + 1 => (Lt32.diaR h k).rnd _ _ _ _
theorem Lt32.dblR {l : List Nat} (h : Lt32 l) : ∀ k, Lt32 (dblR k l)
 | 0 => h
 | k + 1 => ((Lt32.dblR h k).colR 4).diaR 4

def le4 (l : List UInt8) (o : Nat) : Nat :=
 (((l.getD o 0).toNat ||| (l.getD (o + 1) 0).toNat * 2 ^ 8 % 4294967296) ||| (l.getD (o + 2) 0).toNat * 2 ^ 16 % 4294967296) ||| (l.getD (o + 3) 0).toNat * 2 ^ 24 % 4294967296

theorem le4_lt (l : List UInt8) (o : Nat) : le4 l o < 4294967296 := by
 have h0 := (l.getD o 0).toNat_lt
 exact Nat.or_lt_two_pow (n := 32) (Nat.or_lt_two_pow (n := 32) (Nat.or_lt_two_pow (n := 32) (by omega) (Nat.mod_lt _ (by decide))) (Nat.mod_lt _ (by decide))) (Nat.mod_lt _ (by decide))

def setW (base : Nat) (key : List UInt8) : Nat → List Nat → List Nat
 | 0, l => l
 | k + 1, l => (setW base key k l).set (base + k) (le4 key (4 * k))
@[simp] theorem setW_len (base : Nat) (key : List UInt8) : ∀ (k : Nat) (l : List Nat), (setW base key k l).length = l.length
 | 0, _ => rfl
 | k + 1, l => by simp [setW, setW_len base key k l]
theorem Lt32.setW {l : List Nat} (h : Lt32 l) (base : Nat) (key : List UInt8) : ∀ k, Lt32 (setW base key k l)
 | 0 => h
 | k + 1 => (Lt32.setW h base key k).set _ (le4_lt _ _)
def firstL (key : List UInt8) (ctr : Nat) (nonce : List UInt8) : List Nat :=
 setW 13 nonce 3 ((setW 4 key 8 ([1634760805, 857760878, 2036477234, 1797285236] ++ List.replicate 12 0)).set 12 ctr)
theorem firstL_len (key : List UInt8) (ctr : Nat) (nonce : List UInt8) : (firstL key ctr nonce).length = 16 := by simp [firstL]

theorem lt32_const : Lt32 ([1634760805, 857760878, 2036477234, 1797285236] ++ List.replicate 12 0) := by
 intro i
 by_cases h : i < 16
 · have : ∀ i < 16, ([1634760805, 857760878, 2036477234, 1797285236] ++ List.replicate 12 0 : List Nat).getD i 0 < 4294967296 := by decide
   exact this i h
 · rw [List.getD, List.getElem?_eq_none (by simp; omega)]; decide
theorem lt32_first (key : List UInt8) {ctr : Nat} (nonce : List UInt8) (h : ctr < 4294967296) : Lt32 (firstL key ctr nonce) := ((lt32_const.setW 4 key 8).set 12 h).setW 13 nonce 3

def outB (x y : List Nat) (i : Nat) : UInt8 := UInt8.ofNat (add32 (x.getD (i / 4) 0) (y.getD (i / 4) 0) / 2 ^ (8 * (i % 4)) % 256)
def outL (x y : List Nat) : List UInt8 := (List.range 64).map (outB x y)
@[simp] theorem outL_len (x y : List Nat) : (outL x y).length = 64 := by simp [outL]
def blockF (key : List UInt8) (ctr : Nat) (nonce : List UInt8) : List UInt8 := outL (dblR 10 (firstL key ctr nonce)) (firstL key ctr nonce)
@[simp] theorem blockF_len (key : List UInt8) (ctr : Nat) (nonce : List UInt8) : (blockF key ctr nonce).length = 64 := by simp [blockF]

end Go.Proofs.YtpmhjnhgpplmnaaGreatDoor
end

section
namespace Go.Proofs.YtpmhjnhgpplmnaaGreatDoor
open Go Go.Proofs.YtpmhjnhgpplmnaaGreatDoor.Sx

set_option maxRecDepth 100000
theorem chacha_word_vc (a0a : Option Addr) (a0n : Nat) (a0c : Nat) (w : World) (R : Ending → World → Prop) (h : ∃ S : World → Prop, S w.drew ∧ (∃ t4b t4o, a0a = some ⟨t4b, t4o, none⟩ ∧ 0 ≤ (0 : Int) ∧ (0 : Int) < (a0n : Int) ∧ (∃ t8b t8o, a0a = some ⟨t8b, t8o, none⟩ ∧ 0 ≤ (1 : Int) ∧ (1 : Int) < (a0n : Int) ∧ (∃ t14b t14o, a0a = some ⟨t14b, t14o, none⟩ ∧ 0 ≤ (2 : Int) ∧ (2 : Int) < (a0n : Int) ∧ (∃ t20b t20o, a0a = some ⟨t20b, t20o, none⟩ ∧ 0 ≤ (3 : Int) ∧ (3 : Int) < (a0n : Int) ∧ (∃ t5, (∀ w', S w' → LdQ 5 t4b (t4o + Int.toNat (0 : Int) * 1) (.int .u8 t5) w') ∧ (∃ t9, (∀ w', S w' → LdQ 5 t8b (t8o + Int.toNat (1 : Int) * 1) (.int .u8 t9) w') ∧ (∃ t15, (∀ w', S w' → LdQ 5 t14b (t14o + Int.toNat (2 : Int) * 1) (.int .u8 t15) w') ∧ (∃ t21, (∀ w', S w' → LdQ 5 t20b (t20o + Int.toNat (3 : Int) * 1) (.int .u8 t21) w') ∧ (R (.returned (.int .u32 (bor .u32 (bor .u32 (bor .u32 (IntKind.wrap .u32 t5) (shlI .u32 (IntKind.wrap .u32 t9) (8 : Int))) (shlI .u32 (IntKind.wrap .u32 t15) (16 : Int))) (shlI .u32 (IntKind.wrap .u32 t21) (24 : Int))))) w.drew)))))))))) : Calls Tryz.prog 382 #[(.slice a0a a0n a0c)] w R := calls_of_ev2 (tc := .sq [.rg 1, .drawS (.tk 0 .p (.tk 1 .ix (.tk 4 .p (.tk 5 .ix (.tk 10 .p (.tk 11 .ix (.tk 16 .p (.tk 17 .ix (.ts 2 (.int .u8) (.tk 3 .p (.ts 6 (.int .u8) (.tks [7, 8, 9] (.ts 12 (.int .u8) (.tks [13, 14, 15] (.ts 18 (.int .u8) (.tks (lr [(19, 4)]) .nil)))))))))))))))) []] .leaf) Tryz.func382 (by kernel_rfl) (by kernel_rfl) h

theorem chacha_quarter_vc (a0 : Int) (a1 : Int) (a2 : Int) (a3 : Int) (w : World) (R : Ending → World → Prop) (h : Calls Tryz.prog 383 #[(.int .u32 (bxor .u32 a3 (IntKind.wrap .u32 (a0 + a1)))), (.int .i64 16)] w fun e18 w1 => ∃ t18, e18 = .returned (.int .u32 t18) ∧ (Calls Tryz.prog 383 #[(.int .u32 (bxor .u32 a1 (IntKind.wrap .u32 (a2 + t18)))), (.int .i64 12)] w1 fun e25 w2 => ∃ t25, e25 = .returned (.int .u32 t25) ∧ (Calls Tryz.prog 383 #[(.int .u32 (bxor .u32 t18 (IntKind.wrap .u32 ((IntKind.wrap .u32 (a0 + a1)) + t25)))), (.int .i64 8)] w2 fun e32 w3 => ∃ t32, e32 = .returned (.int .u32 t32) ∧ (Calls Tryz.prog 383 #[(.int .u32 (bxor .u32 t25 (IntKind.wrap .u32 ((IntKind.wrap .u32 (a2 + t18)) + t32)))), (.int .i64 7)] w3 fun e39 w4 => ∃ t39, e39 = .returned (.int .u32 t39) ∧ (R (.returned (.tuple #[(.int .u32 (IntKind.wrap .u32 ((IntKind.wrap .u32 (a0 + a1)) + t25))), (.int .u32 t39), (.int .u32 (IntKind.wrap .u32 ((IntKind.wrap .u32 (a2 + t18)) + t32))), (.int .u32 t32)])) w4))))) : Calls Tryz.prog 378 #[(.int .u32 a0), (.int .u32 a1), (.int .u32 a2), (.int .u32 a3)] w R := calls_of_ev2 (tc := .sq [.rg 4, .rg 4, .reg (.pp 3 (.op (.cl [.int .u32]) (.op .p .nil))), .rg 4, .reg (.pp 3 (.op (.cl [.int .u32]) (.op .p .nil))), .rg 4, .reg (.pp 3 (.op (.cl [.int .u32]) (.op .p .nil))), .rg 4, .reg (.pp 3 (.op (.cl [.int .u32]) (.op .p .nil))), .rg 8] .leaf) Tryz.func378 (by kernel_rfl) (by kernel_rfl) h

theorem chacha_begin_vc (a0 : Array Value) (a1 : Int) (a2 : Array Value) (w : World) (R : Ending → World → Prop) (h : ∃ g3 w1, (Instr.box 39 (.agg a0)).run Tryz.prog w = .ok (.pointer (some ⟨g3, 0, none⟩)) w1 ∧ (∃ g5 w2, (Instr.box 287 (.agg a2)).run Tryz.prog w1 = .ok (.pointer (some ⟨g5, 0, none⟩)) w2 ∧ (∃ g6 w3, AlQ 430 g6 w2 w3 ∧ (∃ t10, (Instr.build 430 #[(0, (.int .u32 1634760805)), (1, (.int .u32 857760878)), (2, (.int .u32 2036477234)), (3, (.int .u32 1797285236))]).run Tryz.prog w3 = .ok (.agg t10) w3 ∧ (∃ g7 w4, AlQ 430 g7 w3 w4 ∧ (∃ w5, StQ 430 g7 0 (.agg t10) w4 w5 ∧ (∃ (I : Int → World → Prop) (μ : Int → World → Nat), I 0 w5 ∧ (∀ x11, ∀ w6, I x11 w6 → ((decide (x11 < (8 : Int)) = true → (0 ≤ (IntKind.wrap .i64 ((4 : Int) * x11)) ∧ (IntKind.wrap .i64 ((4 : Int) * x11)) ≤ (32 : Int) ∧ (32 : Int) ≤ (32 : Int) ∧ ∀ t18a, SubA 1 (some ⟨g3, 0, none⟩) (Int.toNat (IntKind.wrap .i64 ((4 : Int) * x11))) 32 t18a → (Calls Tryz.prog 382 #[(.slice t18a ((32) - (Int.toNat (IntKind.wrap .i64 ((4 : Int) * x11)))) (32 - (Int.toNat (IntKind.wrap .i64 ((4 : Int) * x11)))))] w6 fun e19 w7 => ∃ t19, e19 = .returned (.int .u32 t19) ∧ (0 ≤ (IntKind.wrap .i64 ((4 : Int) + x11)) ∧ (IntKind.wrap .i64 ((4 : Int) + x11)) < (16 : Int) ∧ (∃ w8, StQ 370 g7 (0 + Int.toNat (IntKind.wrap .i64 ((4 : Int) + x11)) * 1) (.int .u32 t19) w7 w8 ∧ (I (IntKind.wrap .i64 (x11 + 1)) w8 ∧ μ (IntKind.wrap .i64 (x11 + 1)) w8 < μ x11 w6)))))) ∧ (decide (x11 < (8 : Int)) = false → (∃ w9, StQ 370 g7 12 (.int .u32 a1) w6 w9 ∧ (∃ (I_1 : Int → World → Prop) (μ_1 : Int → World → Nat), I_1 0 w9 ∧ (∀ x24, ∀ w10, I_1 x24 w10 → ((decide (x24 < (3 : Int)) = true → (0 ≤ (IntKind.wrap .i64 ((4 : Int) * x24)) ∧ (IntKind.wrap .i64 ((4 : Int) * x24)) ≤ (12 : Int) ∧ (12 : Int) ≤ (12 : Int) ∧ ∀ t31a, SubA 1 (some ⟨g5, 0, none⟩) (Int.toNat (IntKind.wrap .i64 ((4 : Int) * x24))) 12 t31a → (Calls Tryz.prog 382 #[(.slice t31a ((12) - (Int.toNat (IntKind.wrap .i64 ((4 : Int) * x24)))) (12 - (Int.toNat (IntKind.wrap .i64 ((4 : Int) * x24)))))] w10 fun e32 w11 => ∃ t32, e32 = .returned (.int .u32 t32) ∧ (0 ≤ (IntKind.wrap .i64 ((13 : Int) + x24)) ∧ (IntKind.wrap .i64 ((13 : Int) + x24)) < (16 : Int) ∧ (∃ w12, StQ 370 g7 (0 + Int.toNat (IntKind.wrap .i64 ((13 : Int) + x24)) * 1) (.int .u32 t32) w11 w12 ∧ (I_1 (IntKind.wrap .i64 (x24 + 1)) w12 ∧ μ_1 (IntKind.wrap .i64 (x24 + 1)) w12 < μ_1 x24 w10)))))) ∧ (decide (x24 < (3 : Int)) = false → (∃ t35, LdQ 430 g7 0 (.agg t35) w10 ∧ (∃ w13, StQ 430 g6 0 (.agg t35) w10 w13 ∧ (∃ r6, (loadVar 430 ⟨g6, 0, none⟩).run Tryz.prog w13 = .ok r6 w13 ∧ (R (.returned r6) w13))))))))))))))))))) : Calls Tryz.prog 377 #[(.agg a0), (.int .u32 a1), (.agg a2)] w R := calls_of_ev2 (tc := .sq [.reg (.op .bx (.op .bx (.op .bx .nil))), .reg (.op (.ld .agg) (.op .bx (.op .u .nil))), .seq (.rg 1) (.blk (.loop (lr [(8, 1), (11, 11)]) [11] [.int .i64] (.sq [.rg 1, .cond .leaf .leaf, .blk (.seq (.rg 2) (.reg (.pp 4 (.op .sl (.op (.cl [.int .u32]) (.op .ix (.op .u .nil)))))))] (.rg 2)))), .reg (.pp 2 (.op .u .nil)), .seq (.rg 1) (.blk (.loop (lr [(9, 1), (24, 11)]) [24] [.int .i64] (.sq [.rg 1, .cond .leaf .leaf, .blk (.seq (.rg 2) (.reg (.pp 4 (.op .sl (.op (.cl [.int .u32]) (.op .ix (.op .u .nil)))))))] (.rg 2)))), .reg (.op (.ld .agg) (.op .u .nil))] .leaf) Tryz.func377 (by kernel_rfl) (by kernel_rfl) h

theorem chacha_Block_vc (a0 : Array Value) (a1 : Int) (a2 : Array Value) (w : World) (R : Ending → World → Prop) (h : ∃ g3 w1, (Instr.box 39 (.agg a0)).run Tryz.prog w = .ok (.pointer (some ⟨g3, 0, none⟩)) w1 ∧ (∃ g5 w2, (Instr.box 287 (.agg a2)).run Tryz.prog w1 = .ok (.pointer (some ⟨g5, 0, none⟩)) w2 ∧ (∃ g6 w3, AlQ 368 g6 w2 w3 ∧ (∃ t17, LdQ 39 g3 0 (.agg t17) w3 ∧ (∃ t19, LdQ 287 g5 0 (.agg t19) w3 ∧ (Calls Tryz.prog 377 #[(.agg t17), (.int .u32 a1), (.agg t19)] w3 fun e20 w4 => ∃ t20, e20 = .returned (.agg t20) ∧ (∃ g7 w5, AlQ 430 g7 w4 w5 ∧ (∃ w6, StQ 430 g7 0 (.agg t20) w5 w6 ∧ (∃ t21, LdQ 430 g7 0 (.agg t21) w6 ∧ (∃ g8 w7, AlQ 430 g8 w6 w7 ∧ (∃ w8, StQ 430 g8 0 (.agg t21) w7 w8 ∧ (∃ (I : Int → World → Prop) (μ : Int → World → Nat), I 0 w8 ∧ (∀ x22, ∀ w9, I x22 w9 → ((decide (x22 < (10 : Int)) = true → (∃ (I_1 : Int → World → Prop) (μ_1 : Int → World → Nat), I_1 0 w9 ∧ (∀ x24, ∀ w10, I_1 x24 w10 → ((decide (x24 < (4 : Int)) = true → (∃ S : World → Prop, S w10.drew ∧ (0 ≤ x24 ∧ x24 < (16 : Int) ∧ (0 ≤ (IntKind.wrap .i64 ((4 : Int) + x24)) ∧ (IntKind.wrap .i64 ((4 : Int) + x24)) < (16 : Int) ∧ (0 ≤ (IntKind.wrap .i64 ((8 : Int) + x24)) ∧ (IntKind.wrap .i64 ((8 : Int) + x24)) < (16 : Int) ∧ (0 ≤ (IntKind.wrap .i64 ((12 : Int) + x24)) ∧ (IntKind.wrap .i64 ((12 : Int) + x24)) < (16 : Int) ∧ (∃ t37, (∀ w', S w' → LdQ 370 g8 (0 + Int.toNat x24 * 1) (.int .u32 t37) w') ∧ (∃ t41, (∀ w', S w' → LdQ 370 g8 (0 + Int.toNat (IntKind.wrap .i64 ((4 : Int) + x24)) * 1) (.int .u32 t41) w') ∧ (∃ t45, (∀ w', S w' → LdQ 370 g8 (0 + Int.toNat (IntKind.wrap .i64 ((8 : Int) + x24)) * 1) (.int .u32 t45) w') ∧ (∃ t49, (∀ w', S w' → LdQ 370 g8 (0 + Int.toNat (IntKind.wrap .i64 ((12 : Int) + x24)) * 1) (.int .u32 t49) w') ∧ (Calls Tryz.prog 378 #[(.int .u32 t37), (.int .u32 t41), (.int .u32 t45), (.int .u32 t49)] w10.drew fun e50 w11 => ∃ t50_0 t50_1 t50_2 t50_3, e50 = .returned (.tuple #[(.int .u32 t50_0), (.int .u32 t50_1), (.int .u32 t50_2), (.int .u32 t50_3)]) ∧ (∃ S_1 : World → Prop, (∀ w', S_1 w' → S w') ∧ S_1 w11 ∧ (0 ≤ x24 ∧ x24 < (16 : Int) ∧ (∃ w12, StQ 370 g8 (0 + Int.toNat x24 * 1) (.int .u32 t50_0) w11 w12 ∧ (0 ≤ (IntKind.wrap .i64 ((4 : Int) + x24)) ∧ (IntKind.wrap .i64 ((4 : Int) + x24)) < (16 : Int) ∧ (∃ w13, StQ 370 g8 (0 + Int.toNat (IntKind.wrap .i64 ((4 : Int) + x24)) * 1) (.int .u32 t50_1) w12 w13 ∧ (0 ≤ (IntKind.wrap .i64 ((8 : Int) + x24)) ∧ (IntKind.wrap .i64 ((8 : Int) + x24)) < (16 : Int) ∧ (∃ w14, StQ 370 g8 (0 + Int.toNat (IntKind.wrap .i64 ((8 : Int) + x24)) * 1) (.int .u32 t50_2) w13 w14 ∧ (0 ≤ (IntKind.wrap .i64 ((12 : Int) + x24)) ∧ (IntKind.wrap .i64 ((12 : Int) + x24)) < (16 : Int) ∧ (∃ w15, StQ 370 g8 (0 + Int.toNat (IntKind.wrap .i64 ((12 : Int) + x24)) * 1) (.int .u32 t50_3) w14 w15 ∧ (I_1 (IntKind.wrap .i64 (x24 + 1)) w15 ∧ μ_1 (IntKind.wrap .i64 (x24 + 1)) w15 < μ_1 x24 w10))))))))))))))))))))) ∧ (decide (x24 < (4 : Int)) = false → (∃ (I_2 : Int → World → Prop) (μ_2 : Int → World → Nat), I_2 0 w10 ∧ (∀ x60, ∀ w16, I_2 x60 w16 → ((decide (x60 < (4 : Int)) = true → (∃ S : World → Prop, S w16.drew ∧ (0 ≤ x60 ∧ x60 < (16 : Int) ∧ (0 ≤ (IntKind.wrap .i64 ((4 : Int) + (Int.tmod (IntKind.wrap .i64 (x60 + 1)) (4 : Int)))) ∧ (IntKind.wrap .i64 ((4 : Int) + (Int.tmod (IntKind.wrap .i64 (x60 + 1)) (4 : Int)))) < (16 : Int) ∧ (0 ≤ (IntKind.wrap .i64 ((8 : Int) + (Int.tmod (IntKind.wrap .i64 (x60 + (2 : Int))) (4 : Int)))) ∧ (IntKind.wrap .i64 ((8 : Int) + (Int.tmod (IntKind.wrap .i64 (x60 + (2 : Int))) (4 : Int)))) < (16 : Int) ∧ (0 ≤ (IntKind.wrap .i64 ((12 : Int) + (Int.tmod (IntKind.wrap .i64 (x60 + (3 : Int))) (4 : Int)))) ∧ (IntKind.wrap .i64 ((12 : Int) + (Int.tmod (IntKind.wrap .i64 (x60 + (3 : Int))) (4 : Int)))) < (16 : Int) ∧ (∃ t82, (∀ w', S w' → LdQ 370 g8 (0 + Int.toNat x60 * 1) (.int .u32 t82) w') ∧ (∃ t85, (∀ w', S w' → LdQ 370 g8 (0 + Int.toNat (IntKind.wrap .i64 ((4 : Int) + (Int.tmod (IntKind.wrap .i64 (x60 + 1)) (4 : Int)))) * 1) (.int .u32 t85) w') ∧ (∃ t88, (∀ w', S w' → LdQ 370 g8 (0 + Int.toNat (IntKind.wrap .i64 ((8 : Int) + (Int.tmod (IntKind.wrap .i64 (x60 + (2 : Int))) (4 : Int)))) * 1) (.int .u32 t88) w') ∧ (∃ t91, (∀ w', S w' → LdQ 370 g8 (0 + Int.toNat (IntKind.wrap .i64 ((12 : Int) + (Int.tmod (IntKind.wrap .i64 (x60 + (3 : Int))) (4 : Int)))) * 1) (.int .u32 t91) w') ∧ (Calls Tryz.prog 378 #[(.int .u32 t82), (.int .u32 t85), (.int .u32 t88), (.int .u32 t91)] w16.drew fun e92 w17 => ∃ t92_0 t92_1 t92_2 t92_3, e92 = .returned (.tuple #[(.int .u32 t92_0), (.int .u32 t92_1), (.int .u32 t92_2), (.int .u32 t92_3)]) ∧ (∃ S_1 : World → Prop, (∀ w', S_1 w' → S w') ∧ S_1 w17 ∧ (0 ≤ x60 ∧ x60 < (16 : Int) ∧ (∃ w18, StQ 370 g8 (0 + Int.toNat x60 * 1) (.int .u32 t92_0) w17 w18 ∧ (0 ≤ (IntKind.wrap .i64 ((4 : Int) + (Int.tmod (IntKind.wrap .i64 (x60 + 1)) (4 : Int)))) ∧ (IntKind.wrap .i64 ((4 : Int) + (Int.tmod (IntKind.wrap .i64 (x60 + 1)) (4 : Int)))) < (16 : Int) ∧ (∃ w19, StQ 370 g8 (0 + Int.toNat (IntKind.wrap .i64 ((4 : Int) + (Int.tmod (IntKind.wrap .i64 (x60 + 1)) (4 : Int)))) * 1) (.int .u32 t92_1) w18 w19 ∧ (0 ≤ (IntKind.wrap .i64 ((8 : Int) + (Int.tmod (IntKind.wrap .i64 (x60 + (2 : Int))) (4 : Int)))) ∧ (IntKind.wrap .i64 ((8 : Int) + (Int.tmod (IntKind.wrap .i64 (x60 + (2 : Int))) (4 : Int)))) < (16 : Int) ∧ (∃ w20, StQ 370 g8 (0 + Int.toNat (IntKind.wrap .i64 ((8 : Int) + (Int.tmod (IntKind.wrap .i64 (x60 + (2 : Int))) (4 : Int)))) * 1) (.int .u32 t92_2) w19 w20 ∧ (0 ≤ (IntKind.wrap .i64 ((12 : Int) + (Int.tmod (IntKind.wrap .i64 (x60 + (3 : Int))) (4 : Int)))) ∧ (IntKind.wrap .i64 ((12 : Int) + (Int.tmod (IntKind.wrap .i64 (x60 + (3 : Int))) (4 : Int)))) < (16 : Int) ∧ (∃ w21, StQ 370 g8 (0 + Int.toNat (IntKind.wrap .i64 ((12 : Int) + (Int.tmod (IntKind.wrap .i64 (x60 + (3 : Int))) (4 : Int)))) * 1) (.int .u32 t92_3) w20 w21 ∧ (I_2 (IntKind.wrap .i64 (x60 + 1)) w21 ∧ μ_2 (IntKind.wrap .i64 (x60 + 1)) w21 < μ_2 x60 w16))))))))))))))))))))) ∧ (decide (x60 < (4 : Int)) = false → (I (IntKind.wrap .i64 (x22 + 1)) w16 ∧ μ (IntKind.wrap .i64 (x22 + 1)) w16 < μ x22 w9)))))))))) ∧ (decide (x22 < (10 : Int)) = false → (∃ g14 w22, AlQ 368 g14 w9 w22 ∧ (∃ (I_1 : Int → World → Prop) (μ_1 : Int → World → Nat), I_1 0 w22 ∧ (∀ x103, ∀ w23, I_1 x103 w23 → ((decide (x103 < (16 : Int)) = true → (∃ S : World → Prop, S w23.drew ∧ (0 ≤ x103 ∧ x103 < (16 : Int) ∧ (0 ≤ x103 ∧ x103 < (16 : Int) ∧ (∃ t108, (∀ w', S w' → LdQ 370 g8 (0 + Int.toNat x103 * 1) (.int .u32 t108) w') ∧ (∃ t111, (∀ w', S w' → LdQ 370 g7 (0 + Int.toNat x103 * 1) (.int .u32 t111) w') ∧ (0 ≤ (IntKind.wrap .i64 ((4 : Int) * x103)) ∧ (IntKind.wrap .i64 ((4 : Int) * x103)) < (64 : Int) ∧ (∃ w24, StQ 5 g14 (0 + Int.toNat (IntKind.wrap .i64 ((4 : Int) * x103)) * 1) (.int .u8 (IntKind.wrap .u8 (IntKind.wrap .u32 (t108 + t111)))) w23.drew w24 ∧ (0 ≤ (IntKind.wrap .i64 ((IntKind.wrap .i64 ((4 : Int) * x103)) + (1 : Int))) ∧ (IntKind.wrap .i64 ((IntKind.wrap .i64 ((4 : Int) * x103)) + (1 : Int))) < (64 : Int) ∧ (∃ w25, (Instr.storeAt 5 (.pointer (some ⟨g14, 0 + Int.toNat (IntKind.wrap .i64 ((IntKind.wrap .i64 ((4 : Int) * x103)) + (1 : Int))) * 1, none⟩)) (.int .u8 (IntKind.wrap .u8 (shrI .u32 (IntKind.wrap .u32 (t108 + t111)) (8 : Int))))).run Tryz.prog w24 = .ok () w25 ∧ (0 ≤ (IntKind.wrap .i64 ((IntKind.wrap .i64 ((4 : Int) * x103)) + (2 : Int))) ∧ (IntKind.wrap .i64 ((IntKind.wrap .i64 ((4 : Int) * x103)) + (2 : Int))) < (64 : Int) ∧ (∃ w26, (Instr.storeAt 5 (.pointer (some ⟨g14, 0 + Int.toNat (IntKind.wrap .i64 ((IntKind.wrap .i64 ((4 : Int) * x103)) + (2 : Int))) * 1, none⟩)) (.int .u8 (IntKind.wrap .u8 (shrI .u32 (IntKind.wrap .u32 (t108 + t111)) (16 : Int))))).run Tryz.prog w25 = .ok () w26 ∧ (0 ≤ (IntKind.wrap .i64 ((IntKind.wrap .i64 ((4 : Int) * x103)) + (3 : Int))) ∧ (IntKind.wrap .i64 ((IntKind.wrap .i64 ((4 : Int) * x103)) + (3 : Int))) < (64 : Int) ∧ (∃ w27, (Instr.storeAt 5 (.pointer (some ⟨g14, 0 + Int.toNat (IntKind.wrap .i64 ((IntKind.wrap .i64 ((4 : Int) * x103)) + (3 : Int))) * 1, none⟩)) (.int .u8 (IntKind.wrap .u8 (shrI .u32 (IntKind.wrap .u32 (t108 + t111)) (24 : Int))))).run Tryz.prog w26 = .ok () w27 ∧ (I_1 (IntKind.wrap .i64 (x103 + 1)) w27 ∧ μ_1 (IntKind.wrap .i64 (x103 + 1)) w27 < μ_1 x103 w23))))))))))))))) ∧ (decide (x103 < (16 : Int)) = false → (∃ t140, LdQ 368 g14 0 (.agg t140) w23 ∧ (∃ w28, StQ 368 g6 0 (.agg t140) w23 w28 ∧ (∃ r6, (loadVar 368 ⟨g6, 0, none⟩).run Tryz.prog w28 = .ok r6 w28 ∧ (R (.returned r6) w28)))))))))))))))))))))))) : Calls Tryz.prog 364 #[(.agg a0), (.int .u32 a1), (.agg a2)] w R := calls_of_ev2 (tc := .sq [.reg (.op .bx (.op .bx (.op .bx .nil))), .reg (.op (.ld .agg) (.op .p (.op (.ld .agg) (.op (.cl [.agg]) (.op .bx (.op .u .nil)))))), .reg (.op (.ld .agg) (.op .bx (.op .u .nil))), .seq (.rg 1) (.blk (.loop (lr [(9, 5), (22, 81)]) [22] [.int .i64] (.sq [.rg 1, .cond .leaf .leaf, .blk (.sq [.seq (.rg 1) (.blk (.loop (lr [(9, 1), (24, 36)]) [24] [.int .i64] (.sq [.rg 1, .cond .leaf .leaf, .blk (.seq (.rg 2) (.drawS (.tks (lr [(0, 8)]) (.tk 8 .ix (.tks [10, 11] (.tk 12 .ix (.tks [14, 15] (.tk 16 .ix (.tks [18, 19] (.tk 20 .ix (.ts 9 (.int .u32) (.ts 13 (.int .u32) (.ts 17 (.int .u32) (.ts 21 (.int .u32) (.go 22 (.cl [.int .u32, .int .u32, .int .u32, .int .u32]) (.tks (lr [(23, 5)]) (.tk 28 .ix (.go 29 .u (.tk 30 .ix (.go 31 .u (.tk 32 .ix (.go 33 .u (.tk 34 .ix (.go 35 .u .nil)))))))))))))))))))))) (lr [(0, 9), (10, 3), (14, 3), (18, 3), (23, 13)])))] (.rg 2)))), .rg 1] (.blk (.loop (lr [(10, 4), (60, 42)]) [60] [.int .i64] (.sq [.rg 1, .cond .leaf .leaf, .blk (.sq [.rg 2, .rg 15] (.drawS (.tks (lr [(0, 5)]) (.tk 5 .ix (.tk 7 .p (.tk 8 .ix (.tk 10 .p (.tk 11 .ix (.tk 13 .p (.tk 14 .ix (.ts 6 (.int .u32) (.ts 9 (.int .u32) (.ts 12 (.int .u32) (.ts 15 (.int .u32) (.go 16 (.cl [.int .u32, .int .u32, .int .u32, .int .u32]) (.tks (lr [(17, 5)]) (.tk 22 .ix (.go 23 .u (.tk 24 .ix (.go 25 .u (.tk 26 .ix (.go 27 .u (.tk 28 .ix (.go 29 .u .nil)))))))))))))))))))))) (lr [(0, 6), (7, 2), (10, 2), (13, 2), (17, 13)])))] (.rg 2)))))] (.rg 2)))), .reg (.op .bx .nil), .seq (.rg 1) (.blk (.loop (lr [(15, 2), (103, 37)]) [103] [.int .i64] (.sq [.rg 1, .cond .leaf .leaf, .blk (.sq [.rg 2, .drawS (.tk 0 .p (.tk 1 .ix (.tk 3 .p (.tk 4 .ix (.ts 2 (.int .u32) (.ts 5 (.int .u32) (.tks [6, 7] .nil))))))) []] (.reg (.pp 22 (.op .ix (.op .u (.op .ix (.op .u (.op .ix (.op .u (.op .ix (.op .u .nil)))))))))))] (.rg 2)))), .reg (.op (.ld .agg) (.op .u .nil))] .leaf) Tryz.func364 (by kernel_rfl) (by kernel_rfl) h

theorem chacha_seat_over_vc (a0b : Nat) (a0o : Nat) (a1 : Int) (a2a : Option Addr) (a2n : Nat) (a2c : Nat) (w : World) (R : Ending → World → Prop) (h : ∃ g6 w1, AlQ 368 g6 w w1 ∧ (∃ (I : Int → Int → World → Prop) (μ : Int → Int → World → Nat), I (-1) 0 w1 ∧ (∀ x7 x12, ∀ w2, I x7 x12 w2 → ((decide (x12 < (a2n : Int)) = true → (∃ J : Int → World → Prop, ((((IntKind.wrap .i64 (Int.tdiv (IntKind.wrap .i64 (a1 + x12)) (64 : Int))) != x7) = true → (∃ S : World → Prop, S w2.drew ∧ (∃ t25, (∀ w', S w' → LdQ 39 a0b a0o (.agg t25) w') ∧ (∃ t31, (∀ w', S w' → LdQ 287 a0b (a0o + 32) (.agg t31) w') ∧ (Calls Tryz.prog 364 #[(.agg t25), (.int .u32 (IntKind.wrap .u32 (IntKind.wrap .i64 (Int.tdiv (IntKind.wrap .i64 (a1 + x12)) (64 : Int))))), (.agg t31)] w2.drew fun e32 w3 => ∃ t32, e32 = .returned (.agg t32) ∧ (∃ S_1 : World → Prop, (∀ w', S_1 w' → S w') ∧ S_1 w3 ∧ (∃ w4, StQ 368 g6 0 (.agg t32) w3 w4 ∧ (J (IntKind.wrap .i64 (Int.tdiv (IntKind.wrap .i64 (a1 + x12)) (64 : Int))) w4)))))))) ∧ (((IntKind.wrap .i64 (Int.tdiv (IntKind.wrap .i64 (a1 + x12)) (64 : Int))) != x7) = false → (J x7 w2))) ∧ (∀ x7_1, ∀ w5, J x7_1 w5 → (∃ S : World → Prop, S w5.drew ∧ (∃ t36b t36o, a2a = some ⟨t36b, t36o, none⟩ ∧ 0 ≤ x12 ∧ x12 < (a2n : Int) ∧ (0 ≤ (Int.tmod (IntKind.wrap .i64 (a1 + x12)) (64 : Int)) ∧ (Int.tmod (IntKind.wrap .i64 (a1 + x12)) (64 : Int)) < (64 : Int) ∧ (∃ t37, (∀ w', S w' → LdQ 5 t36b (t36o + Int.toNat x12 * 1) (.int .u8 t37) w') ∧ (∃ t43, (∀ w', S w' → LdQ 5 g6 (0 + Int.toNat (Int.tmod (IntKind.wrap .i64 (a1 + x12)) (64 : Int)) * 1) (.int .u8 t43) w') ∧ (∃ t45b t45o, a2a = some ⟨t45b, t45o, none⟩ ∧ 0 ≤ x12 ∧ x12 < (a2n : Int) ∧ (∃ w6, StQ 5 t45b (t45o + Int.toNat x12 * 1) (.int .u8 (bxor .u8 t37 t43)) w5.drew w6 ∧ (I x7_1 (IntKind.wrap .i64 (x12 + 1)) w6 ∧ μ x7_1 (IntKind.wrap .i64 (x12 + 1)) w6 < μ x7 x12 w2))))))))))) ∧ (decide (x12 < (a2n : Int)) = false → (R (.returned (.tuple #[])) w2)))))) : Calls Tryz.prog 328 #[(.pointer (some ⟨a0b, a0o, none⟩)), (.int .i64 a1), (.slice a2a a2n a2c)] w R := calls_of_ev2 (tc := .sq [.reg (.op .bx .nil), .rg 1, .rg 3] (.blk (.loop (lr [(7, 3), (12, 35)]) [7, 12] [.int .i64, .int .i64] (.sq [.rg 1, .cond .leaf .leaf, .blk (.sq [.rg 2, .sq [.rg 5, .rg 3] (.join (lr [(7, 1), (22, 12)]) [7] [.int .i64] (.cond (.drawS (.tks [0, 1, 2, 4, 5, 6, 7, 8, 11] (.ts 3 .agg (.ts 9 .agg (.go 10 (.cl [.agg]) (.go 12 .u (.tk 13 .p .nil)))))) (lr [(0, 3), (4, 5), (11, 3)])) .leaf))] (.drawS (.tks [0, 1] (.tk 2 .ix (.tks [4, 5, 6, 7] (.tk 8 .ix (.ts 3 (.int .u8) (.ts 9 (.int .u8) (.tk 10 .p (.tk 11 .ix (.go 12 .u .nil))))))))) [12]))] (.rg 2))))) Tryz.func328 (by kernel_rfl) (by kernel_rfl) h

theorem chacha_room_vc (a0 : Int) (a1 : Int) (w : World) (R : Ending → World → Prop) (h : R (.returned (.bool (((decide (a0 ≥ (0 : Int))) && (decide (a0 ≤ (274877906944 : Int)))) && (decide (a1 ≤ (IntKind.wrap .i64 ((274877906944 : Int) - a0))))))) w) : Calls Tryz.prog 327 #[(.int .i64 a0), (.int .i64 a1)] w R := calls_of_ev2 (tc := .sq [.rg 1, .reg (.pp 3 (.ap 2 (.op .p (.ap 4 (.op .p .nil)))))] .leaf) Tryz.func327 (by kernel_rfl) (by kernel_rfl) h

theorem chacha_XOR_vc (a0 : Array Value) (a1 : Array Value) (a2 : Int) (a3a : Option Addr) (a3n : Nat) (a3c : Nat) (w : World) (R : Ending → World → Prop) (h : ∃ g4 w1, (Instr.box 39 (.agg a0)).run Tryz.prog w = .ok (.pointer (some ⟨g4, 0, none⟩)) w1 ∧ (∃ g5 w2, (Instr.box 287 (.agg a1)).run Tryz.prog w1 = .ok (.pointer (some ⟨g5, 0, none⟩)) w2 ∧ (Calls Tryz.prog 327 #[(.int .i64 a2), (.int .i64 (a3n : Int))] w2 fun e14 w3 => ∃ t14, e14 = .returned (.bool t14) ∧ (((!t14) = true → (R (.returned (.tuple #[(.slice none 0 0), (.iface 65 (.int .i64 8))])) w3)) ∧ ((!t14) = false → (∃ t19a t19n t19c w4, (Instr.makeSlice 26 (.int .i64 0) (.int .i64 (a3n : Int))).run Tryz.prog w3 = .ok (.slice t19a t19n t19c) w4 ∧ (∃ t21a t21n t21c w5, (Builtin.append_ #[26, 26] 26 #[(.slice t19a t19n t19c), (.slice a3a a3n a3c)]).run Tryz.prog w4 = .ok (.slice t21a t21n t21c) w5 ∧ (∃ t22, LdQ 39 g4 0 (.agg t22) w5 ∧ (∃ t23, LdQ 287 g5 0 (.agg t23) w5 ∧ (∃ t24, (Instr.build 428 #[(0, (.agg t22)), (1, (.agg t23))]).run Tryz.prog w5 = .ok (.agg t24) w5 ∧ (∃ g25 w6, (Instr.box 428 (.agg t24)).run Tryz.prog w5 = .ok (.pointer (some ⟨g25, 0, none⟩)) w6 ∧ (Calls Tryz.prog 328 #[(.pointer (some ⟨g25, 0, none⟩)), (.int .i64 a2), (.slice t21a t21n t21c)] w6 fun e28 w7 => e28 = .returned (.tuple #[]) ∧ (R (.returned (.tuple #[(.slice t21a t21n t21c), .nilIface])) w7))))))))))))) : Calls Tryz.prog 272 #[(.agg a0), (.agg a1), (.int .i64 a2), (.slice a3a a3n a3c)] w R := calls_of_ev2 (tc := .sq [.reg (.op .bx (.op .bx (.pp 2 .nil))), .seq (.reg (.pp 3 (.op (.cl [.bool]) (.op .p .nil)))) (.cond (.seq (.rg 3) .leaf) .leaf), .reg (.pp 2 (.op (.r .slice) (.op .p (.op (.r .slice) (.op .p .nil))))), .reg (.op (.ld .agg) (.op (.ld .agg) (.op (.ld .agg) (.op .bx (.pp 2 (.op (.cl []) .nil)))))), .rg 3] .leaf) Tryz.func272 (by kernel_rfl) (by kernel_rfl) h

end Go.Proofs.YtpmhjnhgpplmnaaGreatDoor
end

section
namespace Go.Proofs.YtpmhjnhgpplmnaaGreatDoor
open Go Sx
set_option maxRecDepth 8000

theorem rot_spec (x n : Nat) (w : World) (hx : x < 4294967296) (hn : n < 32) (h0 : 0 < n) : Calls Tryz.prog 383 #[.int .u32 (x : Int), .int .i64 (n : Int)] w fun e w' => e = .returned (.int .u32 ((rotl x n : Nat) : Int)) ∧ w' = w := by
 apply bits_RotateLeft32_vc
 have h1 : band .u64 (IntKind.wrap .u64 (n : Int)) 31 = (n : Int) := by
   rw [wrap_uns rfl (by simp [kmod, IntKind.bits]; omega), show (31 : Int) = ((31 : Nat) : Int) from rfl, band_nat rfl (by simp [kmod, IntKind.bits]; omega) (by simp [kmod, IntKind.bits]), show n &&& 31 = n % 32 from Nat.and_two_pow_sub_one_eq_mod n 5, Nat.mod_eq_of_lt hn]
 have h2 : IntKind.wrap .u64 ((32 : Int) - (n : Int)) = ((32 - n : Nat) : Int) := by rw [wrap_u64]; omega
 rw [h1, h2]
 refine ⟨by omega, by omega, ?_, rfl⟩
 rw [rotl_val x n hx hn h0]

theorem quarter_spec (a b c d : Nat) (w : World) (hb : b < 4294967296) (hd : d < 4294967296) :
   Calls Tryz.prog 378 #[.int .u32 (a : Int), .int .u32 (b : Int), .int .u32 (c : Int), .int .u32 (d : Int)] w fun e w' => e = .returned (.tuple #[.int .u32 ((qA a b c d : Nat) : Int), .int .u32 ((qB a b c d : Nat) : Int), .int .u32 ((qC a b c d : Nat) : Int), .int .u32 ((qD a b c d : Nat) : Int)]) ∧ w' = w := by
 have l1 : hD a b d 16 < 4294967296 := rotl_lt _ (xor_lt hd (add32_lt _ _))
 have l2 : hB a b c d 16 12 < 4294967296 := rotl_lt _ (xor_lt hb (add32_lt _ _))
 apply chacha_quarter_vc
 simp only [add_val]
 rw [xor_val hd (add32_lt _ _)]
 refine (rot_spec _ 16 w (xor_lt hd (add32_lt _ _)) (by decide) (by decide)).mono ?_
 rintro e w1 ⟨rfl, rfl⟩
 refine ⟨_, rfl, ?_⟩
 simp only [add_val]
 rw [show rotl (d ^^^ add32 a b) 16 = hD a b d 16 from rfl, xor_val hb (add32_lt _ _)]
 refine (rot_spec _ 12 _ (xor_lt hb (add32_lt _ _)) (by decide) (by decide)).mono ?_
 rintro e w2 ⟨rfl, rfl⟩
 refine ⟨_, rfl, ?_⟩
 simp only [add_val]
 rw [show rotl (b ^^^ add32 c (hD a b d 16)) 12 = hB a b c d 16 12 from rfl, xor_val l1 (add32_lt _ _)]
 refine (rot_spec _ 8 _ (xor_lt l1 (add32_lt _ _)) (by decide) (by decide)).mono ?_
 rintro e w3 ⟨rfl, rfl⟩
 refine ⟨_, rfl, ?_⟩
 simp only [add_val]
 rw [xor_val l2 (add32_lt _ _)]
 refine (rot_spec _ 7 _ (xor_lt l2 (add32_lt _ _)) (by decide) (by decide)).mono ?_
 rintro e w4 ⟨rfl, rfl⟩
 exact ⟨_, rfl, rfl, rfl⟩

section
variable {w0 w : World} {X : List Nat} {M : List Res}

end

end Go.Proofs.YtpmhjnhgpplmnaaGreatDoor
end

section
namespace Go.Proofs.YtpmhjnhgpplmnaaGreatDoor
open Go Sx
set_option maxRecDepth 8000

theorem word_spec (a : Option Addr) (n c : Nat) (l : List UInt8) (w : World) (hr : RdB w a n c l) (hn : 4 ≤ n) : Calls Tryz.prog 382 #[.slice a n c] w fun e w' => e = .returned (.int .u32 ((le4 l 0 : Nat) : Int)) ∧ Chg [] w w' := by
 have hl := hr.lenB
 apply chacha_word_vc
 have b0 := (l.getD 0 0).toNat_lt
 have b1 := (l.getD 1 0).toNat_lt
 have b2 := (l.getD 2 0).toNat_lt
 have b3 := (l.getD 3 0).toNat_lt
 have hc : Cells w.drew a (bv l) := hr.cells.keep0 (Chg.drew _ _)
 refine ⟨fun w' => Chg [] w w', Chg.drew _ _, ?_⟩
 refine ix0 hr.cells hl 0 (by omega) fun g0 o0 e0 h0 => ix0 hr.cells hl 1 (by omega) fun g1 o1 e1 h1 => ix0 hr.cells hl 2 (by omega) fun g2 o2 e2 h2 => ix0 hr.cells hl 3 (by omega) fun g3 o3 e3 h3 => ?_
 refine ⟨g0, o0, e0, by omega, by omega, g1, o1, e1, by omega, by omega, g2, o2, e2, by omega, by omega, g3, o3, e3, by omega, by omega,
   _, fun w' h => h0 w' (hr.cells.keep0 h), _, fun w' h => h1 w' (hr.cells.keep0 h), _, fun w' h => h2 w' (hr.cells.keep0 h), _, fun w' h => h3 w' (hr.cells.keep0 h), ?_, Chg.drew _ _⟩
 rw [wrap_u32_nat (show (l.getD 0 0).toNat < 4294967296 by omega), wrap_u32_nat (show (l.getD 1 0).toNat < 4294967296 by omega), wrap_u32_nat (show (l.getD 2 0).toNat < 4294967296 by omega), wrap_u32_nat (show (l.getD 3 0).toNat < 4294967296 by omega),
   show (8 : Int) = ((8 : Nat) : Int) from rfl, show (16 : Int) = ((16 : Nat) : Int) from rfl, show (24 : Int) = ((24 : Nat) : Int) from rfl, shl_val (by decide), shl_val (by decide), shl_val (by decide)]
 have m : ∀ x : Nat, x % 4294967296 < 4294967296 := fun x => Nat.mod_lt _ (by decide)
 rw [or_val (by omega) (m _), or_val (Nat.or_lt_two_pow (n := 32) (by omega) (m _)) (m _), or_val (Nat.or_lt_two_pow (n := 32) (Nat.or_lt_two_pow (n := 32) (by omega) (m _)) (m _)) (m _)]
 rfl

theorem le4_sub (l : List UInt8) (o n : Nat) (h : 4 ≤ n) : le4 ((l.drop o).take n) 0 = le4 l o := by
 have : ∀ j, j < 4 → ((l.drop o).take n).getD (0 + j) 0 = l.getD (o + j) 0 := fun j hj => by
   simp only [List.getD, List.getElem?_take, List.getElem?_drop, Nat.zero_add]
   rw [if_pos (by omega)]
 have h0 := this 0 (by omega)
 rw [Nat.add_zero, Nat.add_zero] at h0
 simp only [le4, h0, this 1 (by omega), this 2 (by omega), this 3 (by omega)]

theorem zero16 (w : World) : (zeroValue 430).run Tryz.prog w = .ok (.agg (kv .u32 (List.replicate 16 0)).toArray) w := Tryz.zeroValue430 w
theorem zero64 (w : World) : (zeroValue 368).run Tryz.prog w = .ok (.agg (bv (List.replicate 64 0)).toArray) w := Tryz.zeroValue368 w

theorem begin_spec (key nonce : List UInt8) (ctr : Nat) (w : World) (hk : key.length = 32) (hn : nonce.length = 12) (hc : ctr < 4294967296) :
   Calls Tryz.prog 377 #[.agg (bv key).toArray, .int .u32 (ctr : Int), .agg (bv nonce).toArray] w fun e w' => e = .returned (.agg (kv .u32 (firstL key ctr nonce)).toArray) ∧ Chg [] w w' := by
 apply chacha_begin_vc
 obtain ⟨g1, w1, r1, h1⟩ := (St.start w).boxA (P := Tryz.prog) 39 (bv key)
 obtain ⟨g2, w2, r2, h2⟩ := h1.boxA (P := Tryz.prog) 287 (bv nonce)
 obtain ⟨g3, w3, r3, h3⟩ := h2.zeroA zero16
 have hb := build_arr (P := Tryz.prog) (w := w3) (zero16 w3) Tryz.underlying430 (Tryz.sizeOf370 _) (kv .u32 [1634760805, 857760878, 2036477234, 1797285236]) (kv_one _ _) (by simp)
 obtain ⟨g4, w4, r4, h4⟩ := h3.zeroA zero16
 obtain ⟨w5, r5, h5⟩ := h4.stA (i := 3) (v := kv .u32 ([1634760805, 857760878, 2036477234, 1797285236] ++ List.replicate 12 0)) rfl (Tryz.sizeOf430 _) (by simp) (by simp) (kv_one _ _)
 refine ⟨_, _, r1, _, _, r2, _, _, r3, _, hb, _, _, r4, _, r5, ?_⟩
 refine ⟨fun i w' => ∃ k : Nat, i = (k : Int) ∧ k ≤ 8 ∧ St w [] w' [.arr g1 39 (bv key), .arr g2 287 (bv nonce), .arr g3 430 (kv .u32 (List.replicate 16 0)), .arr g4 430 (kv .u32 (setW 4 key k ([1634760805, 857760878, 2036477234, 1797285236] ++ List.replicate 12 0)))], fun i _ => 8 - i.toNat,
   ⟨0, rfl, by omega, h5⟩, ?_⟩
 rintro i w6 ⟨k, rfl, hk8, hS⟩
 refine ⟨fun h => ?_, fun h => ?_⟩
 · have hk' : k < 8 := by simp at h; omega
   have e1 : IntKind.wrap .i64 ((4 : Int) * (k : Int)) = ((4 * k : Nat) : Int) := by rw [wrap_i64 (by omega) (by omega)]; omega
   have e2 : IntKind.wrap .i64 ((4 : Int) + (k : Int)) = ((4 + k : Nat) : Int) := by rw [wrap_i64 (by omega) (by omega)]; omega
   have e3 : IntKind.wrap .i64 ((k : Int) + 1) = ((k + 1 : Nat) : Int) := by rw [wrap_i64 (by omega) (by omega)]; rfl
   rw [e1, e2, e3]
   refine ⟨by omega, by omega, by omega, fun a' hs => ?_⟩
   have hrd := (hS.rdA (i := 0) (n := 32) rfl (by simp [hk])).sub (l := 4 * k) (hh := 32) (m := 32) hs (by omega) (by omega) (by omega) (by omega)
   rw [Nat.mul_one, Nat.mul_one, ← bv_drop, ← bv_take] at hrd
   refine (word_spec _ _ _ _ _ hrd (by omega)).mono ?_
   rintro e w7 ⟨rfl, hc7⟩
   rw [le4_sub _ _ _ (by omega)]
   refine ⟨_, rfl, by omega, by omega, ?_⟩
   obtain ⟨w8, r8, h8⟩ := (hS.same hc7).stK (i := 3) (off := 0 + Int.toNat ((4 + k : Nat) : Int) * 1) (o := 4 + k) (n := le4 key (4 * k)) rfl (Tryz.sizeOf370 _) (by omega) (by simp; omega)
   exact ⟨w8, r8, ⟨k + 1, rfl, by omega, h8⟩, by simp; omega⟩
 · have hk' : k = 8 := by simp at h; omega
   subst hk'
   obtain ⟨w7, r7, h7⟩ := hS.stK (i := 3) (off := 12) (o := 12) (n := ctr) rfl (Tryz.sizeOf370 _) rfl (by simp)
   refine ⟨w7, r7, ?_⟩
   refine ⟨fun i w' => ∃ k : Nat, i = (k : Int) ∧ k ≤ 3 ∧ St w [] w' [.arr g1 39 (bv key), .arr g2 287 (bv nonce), .arr g3 430 (kv .u32 (List.replicate 16 0)), .arr g4 430 (kv .u32 (setW 13 nonce k ((setW 4 key 8 ([1634760805, 857760878, 2036477234, 1797285236] ++ List.replicate 12 0)).set 12 ctr)))], fun i _ => 3 - i.toNat,
     ⟨0, rfl, by omega, h7⟩, ?_⟩
   rintro i w8 ⟨k, rfl, hk8, hS⟩
   refine ⟨fun h => ?_, fun h => ?_⟩
   · have hk' : k < 3 := by simp at h; omega
     have e1 : IntKind.wrap .i64 ((4 : Int) * (k : Int)) = ((4 * k : Nat) : Int) := by rw [wrap_i64 (by omega) (by omega)]; omega
     have e2 : IntKind.wrap .i64 ((13 : Int) + (k : Int)) = ((13 + k : Nat) : Int) := by rw [wrap_i64 (by omega) (by omega)]; omega
     have e3 : IntKind.wrap .i64 ((k : Int) + 1) = ((k + 1 : Nat) : Int) := by rw [wrap_i64 (by omega) (by omega)]; rfl
     rw [e1, e2, e3]
     refine ⟨by omega, by omega, by omega, fun a' hs => ?_⟩
     have hrd := (hS.rdA (i := 1) (n := 12) rfl (by simp [hn])).sub (l := 4 * k) (hh := 12) (m := 12) hs (by omega) (by omega) (by omega) (by omega)
     rw [Nat.mul_one, Nat.mul_one, ← bv_drop, ← bv_take] at hrd
     refine (word_spec _ _ _ _ _ hrd (by omega)).mono ?_
     rintro e w9 ⟨rfl, hc9⟩
     rw [le4_sub _ _ _ (by omega)]
     refine ⟨_, rfl, by omega, by omega, ?_⟩
     obtain ⟨w10, r10, h10⟩ := (hS.same hc9).stK (i := 3) (off := 0 + Int.toNat ((13 + k : Nat) : Int) * 1) (o := 13 + k) (n := le4 nonce (4 * k)) rfl (Tryz.sizeOf370 _) (by omega) (by simp; omega)
     exact ⟨w10, r10, ⟨k + 1, rfl, by omega, h10⟩, by simp; omega⟩
   · have hk' : k = 3 := by simp at h; omega
     subst hk'
     have hA : ∀ w, (isAgg 430).run Tryz.prog w = .ok true w := fun w => Tryz.isAgg430 w
     refine ⟨_, hS.ldA (i := 3) rfl (hA _) (Tryz.sizeOf430 _) (by simp), ?_⟩
     obtain ⟨w9, r9, h9⟩ := hS.stA (i := 2) (v := kv .u32 (firstL key ctr nonce)) rfl (Tryz.sizeOf430 _) (by simp) (by simp [firstL]) (kv_one _ _)
     exact ⟨w9, r9, _, h9.ldVarA (i := 2) rfl (hA _) (Tryz.sizeOf430 _) (by simp [firstL]), rfl, h9.chg⟩

end Go.Proofs.YtpmhjnhgpplmnaaGreatDoor
end

section
namespace Go.Proofs.YtpmhjnhgpplmnaaGreatDoor
open Go Sx
set_option maxRecDepth 8000

theorem e16 : ∀ w, (isAgg 430).run Tryz.prog w = .ok true w := fun w => Tryz.isAgg430 w
theorem e64 : ∀ w, (isAgg 368).run Tryz.prog w = .ok true w := fun w => Tryz.isAgg368 w
theorem e32 : ∀ w, (isAgg 39).run Tryz.prog w = .ok true w := fun w => Tryz.isAgg39 w
theorem e12 : ∀ w, (isAgg 287).run Tryz.prog w = .ok true w := fun w => Tryz.isAgg287 w
theorem eU : ∀ w, (isAgg 370).run Tryz.prog w = .ok false w := fun w => Tryz.isAgg370 w

theorem outB_val (x y : List Nat) (i j : Nat) (hj : j < 4) : IntKind.wrap .u8 ((add32 (x.getD i 0) (y.getD i 0) / 2 ^ (8 * j) : Nat) : Int) = ((outB x y (4 * i + j)).toNat : Int) := by
 rw [wrap_u8, outB, show (4 * i + j) / 4 = i by omega, show (4 * i + j) % 4 = j by omega]
 simp
theorem outL_get (x y : List Nat) (i : Nat) (h : i < 64) : (outL x y)[i]? = some (outB x y i) := by simp [outL, h]

theorem block_spec (key nonce : List UInt8) (ctr : Nat) (w : World) (hk : key.length = 32) (hn : nonce.length = 12) (hc : ctr < 4294967296) :
   Calls Tryz.prog 364 #[.agg (bv key).toArray, .int .u32 (ctr : Int), .agg (bv nonce).toArray] w fun e w' => e = .returned (.agg (bv (blockF key ctr nonce)).toArray) ∧ Chg [] w w' := by
 apply chacha_Block_vc
 obtain ⟨g1, w1, r1, h1⟩ := (St.start w).boxA (P := Tryz.prog) 39 (bv key)
 obtain ⟨g2, w2, r2, h2⟩ := h1.boxA (P := Tryz.prog) 287 (bv nonce)
 obtain ⟨g3, w3, r3, h3⟩ := h2.zeroA zero64
 refine ⟨_, _, r1, _, _, r2, _, _, r3, _, h3.ldA (i := 0) rfl (e32 _) (Tryz.sizeOf39 _) (by simp [hk]), _, h3.ldA (i := 1) rfl (e12 _) (Tryz.sizeOf287 _) (by simp [hn]), (begin_spec key nonce ctr w3 hk hn hc).mono ?_⟩
 rintro e w4 ⟨rfl, hc4⟩
 have h4 := h3.same hc4
 have hF := firstL_len key ctr nonce
 have hlF := lt32_first key nonce hc
 obtain ⟨F, hFd⟩ : ∃ F, firstL key ctr nonce = F := ⟨_, rfl⟩
 have hB : blockF key ctr nonce = outL (dblR 10 F) F := by rw [blockF, hFd]
 rw [hB]
 rw [hFd] at hF hlF ⊢
 obtain ⟨g5, w5, r5, h5⟩ := h4.zeroA zero16
 obtain ⟨w6, r6, h6⟩ := h5.stA (i := 3) (v := kv .u32 F) rfl (Tryz.sizeOf430 _) (by simp) (by simp [hF]) (kv_one _ _)
 obtain ⟨g7, w7, r7, h7⟩ := h6.zeroA zero16
 obtain ⟨w8, r8, h8⟩ := h7.stA (i := 4) (v := kv .u32 F) rfl (Tryz.sizeOf430 _) (by simp) (by simp [hF]) (kv_one _ _)
 refine ⟨_, rfl, _, _, r5, _, r6, _, h6.ldA (i := 3) rfl (e16 _) (Tryz.sizeOf430 _) (by simp [hF]), _, _, r7, _, r8, ?_⟩
 obtain ⟨Mx, hMx⟩ : ∃ Mx : List Nat → List Res, Mx = fun x => [.arr g1 39 (bv key), .arr g2 287 (bv nonce), .arr g3 368 (bv (List.replicate 64 0)), .arr g5 430 (kv .u32 F), .arr g7 430 (kv .u32 x)] := ⟨_, rfl⟩
 have hi4 : ∀ x, (Mx x)[4]? = some (.arr g7 430 (kv .u32 x)) := fun x => by rw [hMx]; rfl
 have hi3 : ∀ x, (Mx x)[3]? = some (.arr g5 430 (kv .u32 F)) := fun x => by rw [hMx]; rfl
 have hi2 : ∀ x, (Mx x)[2]? = some (.arr g3 368 (bv (List.replicate 64 0))) := fun x => by rw [hMx]; rfl
 have hset : ∀ x y, (Mx x).set 4 (.arr g7 430 (kv .u32 y)) = Mx y := fun x y => by rw [hMx]; rfl
 have h8' : St w [] w8 (Mx F) := by rw [hMx]; exact h8
 have hw : ∀ i : Nat, i < 100 → IntKind.wrap .i64 ((i : Int) + 1) = ((i + 1 : Nat) : Int) := fun i h => by rw [wrap_i64 (by omega) (by omega)]; rfl
 have ze : ∀ k : Nat, 0 + Int.toNat (k : Int) * 1 = k := fun k => by omega
 have sU : ∀ w, (sizeOf 370).run Tryz.prog w = .ok 1 w := fun w => Tryz.sizeOf370 w
 have sB : ∀ w, (sizeOf 5).run Tryz.prog w = .ok 1 w := fun w => Tryz.sizeOf5 w
 -- a quarter round in place
 have step : ∀ (x : List Nat) (a b c d : Nat) (wa : World) (K : World → Prop), St w [] wa (Mx x) → x.length = 16 → Lt32 x → a < 16 → b < 16 → c < 16 → d < 16 → a ≠ b → a ≠ c → a ≠ d → b ≠ c → b ≠ d → c ≠ d → (∀ wb, St w [] wb (Mx (rnd x a b c d)) → K wb) →
     (∃ S : World → Prop, S wa.drew ∧ (0 ≤ (a : Int) ∧ (a : Int) < 16 ∧ (0 ≤ (b : Int) ∧ (b : Int) < 16 ∧ (0 ≤ (c : Int) ∧ (c : Int) < 16 ∧ (0 ≤ (d : Int) ∧ (d : Int) < 16 ∧
       (∃ ta : Int, (∀ w', S w' → (Instr.loadAt 370 (.pointer (some ⟨g7, 0 + Int.toNat (a : Int) * 1, none⟩))).run Tryz.prog w' = .ok (.int .u32 ta) w') ∧
       (∃ tb : Int, (∀ w', S w' → (Instr.loadAt 370 (.pointer (some ⟨g7, 0 + Int.toNat (b : Int) * 1, none⟩))).run Tryz.prog w' = .ok (.int .u32 tb) w') ∧
       (∃ tc : Int, (∀ w', S w' → (Instr.loadAt 370 (.pointer (some ⟨g7, 0 + Int.toNat (c : Int) * 1, none⟩))).run Tryz.prog w' = .ok (.int .u32 tc) w') ∧
       (∃ td : Int, (∀ w', S w' → (Instr.loadAt 370 (.pointer (some ⟨g7, 0 + Int.toNat (d : Int) * 1, none⟩))).run Tryz.prog w' = .ok (.int .u32 td) w') ∧
         (Calls Tryz.prog 378 #[.int .u32 ta, .int .u32 tb, .int .u32 tc, .int .u32 td] wa.drew fun e w11 => ∃ t0 t1 t2 t3 : Int, e = .returned (.tuple #[.int .u32 t0, .int .u32 t1, .int .u32 t2, .int .u32 t3]) ∧
           (∃ S_1 : World → Prop, (∀ w', S_1 w' → S w') ∧ S_1 w11 ∧
             (0 ≤ (a : Int) ∧ (a : Int) < 16 ∧ (∃ w12, (Instr.storeAt 370 (.pointer (some ⟨g7, 0 + Int.toNat (a : Int) * 1, none⟩)) (.int .u32 t0)).run Tryz.prog w11 = .ok () w12 ∧
             (0 ≤ (b : Int) ∧ (b : Int) < 16 ∧ (∃ w13, (Instr.storeAt 370 (.pointer (some ⟨g7, 0 + Int.toNat (b : Int) * 1, none⟩)) (.int .u32 t1)).run Tryz.prog w12 = .ok () w13 ∧
             (0 ≤ (c : Int) ∧ (c : Int) < 16 ∧ (∃ w14, (Instr.storeAt 370 (.pointer (some ⟨g7, 0 + Int.toNat (c : Int) * 1, none⟩)) (.int .u32 t2)).run Tryz.prog w13 = .ok () w14 ∧
             (0 ≤ (d : Int) ∧ (d : Int) < 16 ∧ (∃ w15, (Instr.storeAt 370 (.pointer (some ⟨g7, 0 + Int.toNat (d : Int) * 1, none⟩)) (.int .u32 t3)).run Tryz.prog w14 = .ok () w15 ∧ K w15))))))))))))))))))) := by
   intro x a b c d wa K hS hx hlx ha hb hcc hd ab ac ad bc bd cd hK
   refine ⟨fun w' => St w [] w' (Mx x), hS.drew, by omega, by omega, by omega, by omega, by omega, by omega, by omega, by omega, _, fun w' h => h.ldK (hi4 x) (eU _) (ze a) (by omega), _, fun w' h => h.ldK (hi4 x) (eU _) (ze b) (by omega), _, fun w' h => h.ldK (hi4 x) (eU _) (ze c) (by omega), _, fun w' h => h.ldK (hi4 x) (eU _) (ze d) (by omega), ?_⟩
   refine (quarter_spec _ _ _ _ _ (hlx b) (hlx d)).mono ?_
   rintro e w11 ⟨rfl, rfl⟩
   obtain ⟨w12, q1, s1⟩ := hS.drew.stK (n := qA (x.getD a 0) (x.getD b 0) (x.getD c 0) (x.getD d 0)) (hi4 x) (sU _) (ze a) (by omega)
   rw [hset] at s1
   obtain ⟨w13, q2, s2⟩ := s1.stK (n := qB (x.getD a 0) (x.getD b 0) (x.getD c 0) (x.getD d 0)) (hi4 _) (sU _) (ze b) (by simp; omega)
   rw [hset] at s2
   obtain ⟨w14, q3, s3⟩ := s2.stK (n := qC (x.getD a 0) (x.getD b 0) (x.getD c 0) (x.getD d 0)) (hi4 _) (sU _) (ze c) (by simp; omega)
   rw [hset] at s3
   obtain ⟨w15, q4, s4⟩ := s3.stK (n := qD (x.getD a 0) (x.getD b 0) (x.getD c 0) (x.getD d 0)) (hi4 _) (sU _) (ze d) (by simp; omega)
   rw [hset] at s4
   refine ⟨_, _, _, _, rfl, fun w' => St w [] w' (Mx x), fun _ h => h, hS.drew, by omega, by omega, w12, q1, by omega, by omega, w13, q2, by omega, by omega, w14, q3, by omega, by omega, w15, q4, hK _ ?_⟩
   rw [rnd_eq (by omega) (by omega) (by omega) (by omega) ab ac ad bc bd cd]
   exact s4
 refine ⟨fun i w' => ∃ k : Nat, i = (k : Int) ∧ k ≤ 10 ∧ St w [] w' (Mx (dblR k F)), fun i _ => 10 - i.toNat, ⟨0, rfl, by omega, h8'⟩, ?_⟩
 rintro i w9 ⟨k, rfl, hk10, hS⟩
 refine ⟨fun h => ?_, fun h => ?_⟩
 · have hk' : k < 10 := by simp at h; omega
   refine ⟨fun i w' => ∃ j : Nat, i = (j : Int) ∧ j ≤ 4 ∧ St w [] w' (Mx (colR j (dblR k F))), fun i _ => 4 - i.toNat, ⟨0, rfl, by omega, hS⟩, ?_⟩
   rintro i w10 ⟨j, rfl, hj4, hS⟩
   refine ⟨fun h => ?_, fun h => ?_⟩
   · have hj' : j < 4 := by simp at h; omega
     have e1 : IntKind.wrap .i64 ((4 : Int) + (j : Int)) = ((4 + j : Nat) : Int) := by rw [wrap_i64 (by omega) (by omega)]; omega
     have e2 : IntKind.wrap .i64 ((8 : Int) + (j : Int)) = ((8 + j : Nat) : Int) := by rw [wrap_i64 (by omega) (by omega)]; omega
     have e3 : IntKind.wrap .i64 ((12 : Int) + (j : Int)) = ((12 + j : Nat) : Int) := by rw [wrap_i64 (by omega) (by omega)]; omega
     rw [e1, e2, e3, hw j (by omega)]
     refine step _ j (4 + j) (8 + j) (12 + j) _ _ hS (by simp [hF]) ((hlF.dblR k).colR j) (by omega) (by omega) (by omega) (by omega) (by omega) (by omega) (by omega) (by omega) (by omega) (by omega) fun wb hb => ?_
     exact ⟨⟨j + 1, rfl, by omega, hb⟩, by simp; omega⟩
   · have hj' : j = 4 := by simp at h; omega
     subst hj'
     refine ⟨fun i w' => ∃ j : Nat, i = (j : Int) ∧ j ≤ 4 ∧ St w [] w' (Mx (diaR j (colR 4 (dblR k F)))), fun i _ => 4 - i.toNat, ⟨0, rfl, by omega, hS⟩, ?_⟩
     rintro i w11 ⟨j, rfl, hj4, hS⟩
     refine ⟨fun h => ?_, fun h => ?_⟩
     · have hj' : j < 4 := by simp at h; omega
       have e0 : ∀ (u v : Nat), u < 100 → v < 100 → IntKind.wrap .i64 ((u : Int) + Int.tmod (IntKind.wrap .i64 ((j : Int) + (v : Int))) 4) = ((u + (j + v) % 4 : Nat) : Int) := fun u v hu hv => by
         rw [show IntKind.wrap .i64 ((j : Int) + (v : Int)) = ((j + v : Nat) : Int) by rw [wrap_i64 (by omega) (by omega)]; omega, Int.tmod_eq_emod_of_nonneg (by omega), wrap_i64 (by omega) (by omega)]; omega
       have e1 : IntKind.wrap .i64 ((4 : Int) + Int.tmod (IntKind.wrap .i64 ((j : Int) + 1)) 4) = _ := e0 4 1 (by omega) (by omega)
       have e2 : IntKind.wrap .i64 ((8 : Int) + Int.tmod (IntKind.wrap .i64 ((j : Int) + 2)) 4) = _ := e0 8 2 (by omega) (by omega)
       have e3 : IntKind.wrap .i64 ((12 : Int) + Int.tmod (IntKind.wrap .i64 ((j : Int) + 3)) 4) = _ := e0 12 3 (by omega) (by omega)
       rw [e1, e2, e3, hw j (by omega)]
       refine step _ j (4 + (j + 1) % 4) (8 + (j + 2) % 4) (12 + (j + 3) % 4) _ _ hS (by simp [hF]) (((hlF.dblR k).colR 4).diaR j) (by omega) (by omega) (by omega) (by omega) (by omega) (by omega) (by omega) (by omega) (by omega) (by omega) fun wb hb => ?_
       exact ⟨⟨j + 1, rfl, by omega, hb⟩, by simp; omega⟩
     · have hj' : j = 4 := by simp at h; omega
       subst hj'
       rw [hw k (by omega)]
       exact ⟨⟨k + 1, rfl, by omega, hS⟩, by simp; omega⟩
 · have hk' : k = 10 := by simp at h; omega
   subst hk'
   obtain ⟨g10, w10, r10, h10⟩ := hS.zeroA zero64
   obtain ⟨O, hO⟩ : ∃ O, outL (dblR 10 F) F = O := ⟨_, rfl⟩
   have hOl : O.length = 64 := by rw [← hO]; simp
   rw [hO]
   have hm5 : ∀ y, (Mx (dblR 10 F) ++ [Res.arr g10 368 (bv y)])[5]? = some (.arr g10 368 (bv y)) := fun y => by rw [hMx]; rfl
   have hm4 : ∀ y, (Mx (dblR 10 F) ++ [Res.arr g10 368 (bv y)])[4]? = some (.arr g7 430 (kv .u32 (dblR 10 F))) := fun y => by rw [hMx]; rfl
   have hm3 : ∀ y, (Mx (dblR 10 F) ++ [Res.arr g10 368 (bv y)])[3]? = some (.arr g5 430 (kv .u32 F)) := fun y => by rw [hMx]; rfl
   have hm2 : ∀ y, (Mx (dblR 10 F) ++ [Res.arr g10 368 (bv y)])[2]? = some (.arr g3 368 (bv (List.replicate 64 0))) := fun y => by rw [hMx]; rfl
   have hms : ∀ x y, (Mx (dblR 10 F) ++ [Res.arr g10 368 (bv x)]).set 5 (.arr g10 368 (bv y)) = Mx (dblR 10 F) ++ [Res.arr g10 368 (bv y)] := fun x y => by rw [hMx]; rfl
   refine ⟨_, _, r10, fun i w' => ∃ k : Nat, i = (k : Int) ∧ k ≤ 16 ∧ St w [] w' (Mx (dblR 10 F) ++ [.arr g10 368 (bv (upTo O (4 * k)))]), fun i _ => 16 - i.toNat, ⟨0, rfl, by omega, by rw [Nat.mul_zero, upTo_zero, hOl]; exact h10⟩, ?_⟩
   rintro i w11 ⟨k, rfl, hk16, hT⟩
   refine ⟨fun h => ?_, fun h => ?_⟩
   · have hk' : k < 16 := by simp at h; omega
     have e1 : IntKind.wrap .i64 ((4 : Int) * (k : Int)) = ((4 * k : Nat) : Int) := by rw [wrap_i64 (by omega) (by omega)]; omega
     have e2 : ∀ j : Nat, j < 4 → IntKind.wrap .i64 (((4 * k : Nat) : Int) + (j : Int)) = ((4 * k + j : Nat) : Int) := fun j hj => by rw [wrap_i64 (by omega) (by omega)]; omega
     have e21 := e2 1 (by omega)
     have e22 := e2 2 (by omega)
     have e23 := e2 3 (by omega)
     rw [show ((1 : Nat) : Int) = 1 from rfl] at e21
     rw [show ((2 : Nat) : Int) = 2 from rfl] at e22
     rw [show ((3 : Nat) : Int) = 3 from rfl] at e23
     rw [e1, e21, e22, e23, hw k (by omega)]
     have ot : ∀ j, j < 4 → O[4 * k + j]? = some (outB (dblR 10 F) F (4 * k + j)) := fun j hj => by rw [← hO]; exact outL_get _ _ _ (by omega)
     have v0 : IntKind.wrap .u8 (IntKind.wrap .u32 (((dblR 10 F).getD k 0 : Nat) + (F.getD k 0 : Nat) : Int)) = ((outB (dblR 10 F) F (4 * k)).toNat : Int) := by
       rw [add_val]; have := outB_val (dblR 10 F) F k 0 (by omega); simpa using this
     have vj : ∀ (j : Nat), j < 4 → IntKind.wrap .u8 (shrI .u32 (IntKind.wrap .u32 (((dblR 10 F).getD k 0 : Nat) + (F.getD k 0 : Nat) : Int)) ((8 * j : Nat) : Int)) = ((outB (dblR 10 F) F (4 * k + j)).toNat : Int) := fun j hj => by
       rw [add_val, shr_nat _ _ _ (show 8 * j ≤ 32 by omega)]; exact outB_val (dblR 10 F) F k j hj
     have v1 : IntKind.wrap .u8 (shrI .u32 (IntKind.wrap .u32 (((dblR 10 F).getD k 0 : Nat) + (F.getD k 0 : Nat) : Int)) 8) = _ := vj 1 (by omega)
     have v2 : IntKind.wrap .u8 (shrI .u32 (IntKind.wrap .u32 (((dblR 10 F).getD k 0 : Nat) + (F.getD k 0 : Nat) : Int)) 16) = _ := vj 2 (by omega)
     have v3 : IntKind.wrap .u8 (shrI .u32 (IntKind.wrap .u32 (((dblR 10 F).getD k 0 : Nat) + (F.getD k 0 : Nat) : Int)) 24) = _ := vj 3 (by omega)
     refine ⟨fun w' => St w [] w' (Mx (dblR 10 F) ++ [.arr g10 368 (bv (upTo O (4 * k)))]), hT.drew, by omega, by omega, by omega, by omega, _, fun w' h => h.ldK (hm4 _) (eU _) (ze k) (by simp [hF]; omega), _, fun w' h => h.ldK (hm3 _) (eU _) (ze k) (by omega), by omega, by omega, ?_⟩
     rw [v0, v1, v2, v3]
     obtain ⟨w12, q1, s1⟩ := hT.drew.stB (b := outB (dblR 10 F) F (4 * k)) (hm5 _) (sB _) (ze (4 * k)) (by rw [upTo_len (by omega)]; omega)
     rw [hms, upTo_set (show O[4 * k]? = some (outB (dblR 10 F) F (4 * k)) from ot 0 (by omega))] at s1
     obtain ⟨w13, q2, s2⟩ := s1.stB (b := outB (dblR 10 F) F (4 * k + 1)) (hm5 _) (sB _) (ze (4 * k + 1)) (by rw [upTo_len (by omega)]; omega)
     rw [hms, upTo_set (ot 1 (by omega))] at s2
     obtain ⟨w14, q3, s3⟩ := s2.stB (b := outB (dblR 10 F) F (4 * k + 2)) (hm5 _) (sB _) (ze (4 * k + 2)) (by rw [upTo_len (by omega)]; omega)
     rw [hms, upTo_set (ot 2 (by omega))] at s3
     obtain ⟨w15, q4, s4⟩ := s3.stB (b := outB (dblR 10 F) F (4 * k + 3)) (hm5 _) (sB _) (ze (4 * k + 3)) (by rw [upTo_len (by omega)]; omega)
     rw [hms, upTo_set (ot 3 (by omega))] at s4
     exact ⟨w12, q1, by omega, by omega, w13, q2, by omega, by omega, w14, q3, by omega, by omega, w15, q4, ⟨k + 1, rfl, by omega, s4⟩, by simp; omega⟩
   · have hk' : k = 16 := by simp at h; omega
     subst hk'
     rw [show 4 * 16 = O.length by omega, upTo_all] at hT
     refine ⟨_, hT.ldA (hm5 _) (e64 _) (Tryz.sizeOf368 _) (by simp [hOl]), ?_⟩
     obtain ⟨w12, q1, s1⟩ := hT.stA (v := bv O) (hm2 _) (Tryz.sizeOf368 _) (by simp) (by simp [hOl]) (bv_one _)
     refine ⟨w12, q1, _, s1.ldVarA (i := 2) (l := bv O) (by rw [hMx]; rfl) (e64 _) (Tryz.sizeOf368 _) (by simp [hOl]), rfl, s1.chg⟩

end Go.Proofs.YtpmhjnhgpplmnaaGreatDoor
end

section
namespace Go.Proofs.YtpmhjnhgpplmnaaGreatDoor
open Go Sx
set_option maxRecDepth 8000

def strB (key nonce : List UInt8) (p : Nat) : UInt8 := (blockF key (p / 64) nonce).getD (p % 64) 0
def xorL (key nonce : List UInt8) (at' : Nat) (l : List UInt8) : List UInt8 := l.mapIdx fun i b => b ^^^ strB key nonce (at' + i)
@[simp] theorem xorL_len (key nonce : List UInt8) (at' : Nat) (l : List UInt8) : (xorL key nonce at' l).length = l.length := by simp [xorL]
theorem xorL_get {key nonce : List UInt8} {at' : Nat} {l : List UInt8} {i : Nat} (h : i < l.length) : (xorL key nonce at' l)[i]? = some (l.getD i 0 ^^^ strB key nonce (at' + i)) := by simp [xorL, List.getD, h]

def mix (x l : List UInt8) (i : Nat) : List UInt8 := x.take i ++ l.drop i
theorem mix_zero (x l : List UInt8) : mix x l 0 = l := by simp [mix]
theorem mix_all {x l : List UInt8} {n : Nat} (h : x.length = n) (h' : l.length = n) : mix x l n = x := by simp [mix, ← h, show l.length = x.length by omega]
theorem mix_len {x l : List UInt8} {i : Nat} (h : x.length = l.length) (hi : i ≤ l.length) : (mix x l i).length = l.length := by simp [mix]; omega
theorem mix_get {x l : List UInt8} {i : Nat} (h : x.length = l.length) (hi : i < l.length) : (mix x l i).getD i 0 = l.getD i 0 := by
 have hl : (x.take i).length = i := by rw [List.length_take]; omega
 simp [mix, List.getD, List.getElem?_append_right, hl]
theorem mix_set {x l : List UInt8} {i : Nat} {b : UInt8} (h : x.length = l.length) (hb : x[i]? = some b) : (mix x l i).set i b = mix x l (i + 1) := by
 have hi : i < x.length := (List.getElem?_eq_some_iff.1 hb).1
 have hl : (x.take i).length = i := by rw [List.length_take]; omega
 rw [mix, mix, List.set_append_right _ _ (by omega), hl, Nat.sub_self, List.drop_eq_getElem_cons (by omega : i < l.length), List.set_cons_zero, List.take_add_one, hb]
 simp

theorem xor_u8 (a b : UInt8) : bxor .u8 (a.toNat : Int) (b.toNat : Int) = ((a ^^^ b).toNat : Int) := by
 rw [bxor_nat rfl (by simpa [kmod, IntKind.bits] using a.toNat_lt) (by simpa [kmod, IntKind.bits] using b.toNat_lt), UInt8.toNat_xor]

theorem Sx.Chg.range {w w' : World} {X : List Nat} {b o : Nat} {cs : List Value} (hc : Chg X w w') (h : w.rangeAt b o cs) (hb : b ∉ X) : w'.rangeAt b o cs := by
 have hk : Cells w (some ⟨b, o, none⟩) cs := .inr ⟨b, o, rfl, h⟩
 rcases hk.keep hc (by rintro ad ⟨⟩; exact hb) with h0 | ⟨b', o', he, hr⟩
 · subst h0; intro j v hj; simp at hj
 · simp only [Option.some.injEq, Addr.mk.injEq, and_true] at he
   obtain ⟨rfl, rfl⟩ := he
   exact hr

theorem Sx.St.ofRowC {w : World} {e : TypeId} {sz : Nat} {g n m c : Nat} {xs : List Value} (h : w.ownsRow 0 e sz (.slice (some ⟨g, 0, none⟩) n c) m xs) : St w [g] w [.row e sz (.slice (some ⟨g, 0, none⟩) n c) m xs] := by
 have one : ∀ (i : Nat) (r : Res), [Res.row e sz (.slice (some ⟨g, 0, none⟩) n c) m xs][i]? = some r → i = 0 ∧ r = .row e sz (.slice (some ⟨g, 0, none⟩) n c) m xs := by
   intro i r hr
   cases i with
   | zero => exact ⟨rfl, (Option.some.inj hr).symm⟩
   | succ i => simp at hr
 refine ⟨Chg.refl _ _, ?_, ?_, ?_⟩
 · intro i r hr; obtain ⟨_, rfl⟩ := one i r hr; exact h
 · intro i r hr k hk; obtain ⟨_, rfl⟩ := one i r hr; right; simpa [Res.fp, Value.ownBlock] using hk
 · intro i j r s hij hi hj; have := (one i r hi).1; have := (one j s hj).1; omega

theorem seatOver_spec (gs o g n c at' : Nat) (key nonce l : List UInt8) (w : World) (hk : key.length = 32) (hn : nonce.length = 12) (rk : w.rangeAt gs o (bv key)) (rn : w.rangeAt gs (o + 32) (bv nonce)) (hne : gs ≠ g)
   (hrow : w.ownsRow 0 5 1 (.slice (some ⟨g, 0, none⟩) n c) n (bv l)) (hat : at' + n ≤ 274877906944) :
   Calls Tryz.prog 328 #[.pointer (some ⟨gs, o, none⟩), .int .i64 (at' : Int), .slice (some ⟨g, 0, none⟩) n c] w fun e w' => e = .returned (.tuple #[]) ∧ Chg [g] w w' ∧ w'.ownsRow 0 5 1 (.slice (some ⟨g, 0, none⟩) n c) n (bv (xorL key nonce at' l)) := by
 apply chacha_seat_over_vc
 have hl : l.length = n := by have := hrow.1; simpa using this
 have ze : ∀ k : Nat, 0 + Int.toNat (k : Int) * 1 = k := fun k => by omega
 have sB : ∀ w, (sizeOf 5).run Tryz.prog w = .ok 1 w := fun w => Tryz.sizeOf5 w
 have s64 : ∀ w, (sizeOf 368).run Tryz.prog w = .ok 64 w := fun w => Tryz.sizeOf368 w
 have s32 : ∀ w, (sizeOf 39).run Tryz.prog w = .ok 32 w := fun w => Tryz.sizeOf39 w
 have s12 : ∀ w, (sizeOf 287).run Tryz.prog w = .ok 12 w := fun w => Tryz.sizeOf287 w
 obtain ⟨X, hX⟩ : ∃ X, xorL key nonce at' l = X := ⟨_, rfl⟩
 have hXl : X.length = l.length := by rw [← hX]; simp
 rw [hX]
 obtain ⟨g6, w1, r1, h1⟩ := (St.ofRowC hrow).zeroA zero64
 obtain ⟨M, hM⟩ : ∃ M : List UInt8 → List UInt8 → List Res, M = fun x B => [.row 5 1 (.slice (some ⟨g, 0, none⟩) n c) n (bv x), .arr g6 368 (bv B)] := ⟨_, rfl⟩
 have i0 : ∀ x B, (M x B)[0]? = some (.row 5 1 (.slice (some ⟨g, 0, none⟩) n c) n (bv x)) := fun x B => by rw [hM]; rfl
 have i1 : ∀ x B, (M x B)[1]? = some (.arr g6 368 (bv B)) := fun x B => by rw [hM]; rfl
 have q0 : ∀ x B y, (M x B).set 0 (.row 5 1 (.slice (some ⟨g, 0, none⟩) n c) n (bv y)) = M y B := fun x B y => by rw [hM]; rfl
 have q1 : ∀ x B y, (M x B).set 1 (.arr g6 368 (bv y)) = M x y := fun x B y => by rw [hM]; rfl
 have h1' : St w [g] w1 (M (mix X l 0) (List.replicate 64 0)) := by rw [hM, mix_zero]; exact h1
 refine ⟨_, _, r1, fun x y w' => ∃ (i : Nat) (B : List UInt8), y = (i : Int) ∧ i ≤ n ∧ B.length = 64 ∧ (x = -1 ∨ ∃ h : Nat, x = (h : Int) ∧ B = blockF key h nonce) ∧ St w [g] w' (M (mix X l i) B), fun _ y _ => n - y.toNat,
   ⟨0, _, rfl, by omega, by simp, .inl rfl, h1'⟩, ?_⟩
 rintro x y w2 ⟨i, B, rfl, hi, hBl, hB, hS⟩
 refine ⟨fun h => ?_, fun h => ?_⟩
 · have hi' : i < n := by simp at h; omega
   have ea : IntKind.wrap .i64 ((at' : Int) + (i : Int)) = ((at' + i : Nat) : Int) := by rw [wrap_i64 (by omega) (by omega)]; omega
   have ed : IntKind.wrap .i64 (Int.tdiv ((at' + i : Nat) : Int) 64) = (((at' + i) / 64 : Nat) : Int) := by rw [Int.tdiv_eq_ediv_of_nonneg (by omega), wrap_i64 (by omega) (by omega)]; omega
   have em : Int.tmod ((at' + i : Nat) : Int) 64 = (((at' + i) % 64 : Nat) : Int) := by rw [Int.tmod_eq_emod_of_nonneg (by omega)]; omega
   have ew : IntKind.wrap .u32 (((at' + i) / 64 : Nat) : Int) = (((at' + i) / 64 : Nat) : Int) := wrap_u32_nat (by omega)
   have e1 : IntKind.wrap .i64 ((i : Int) + 1) = ((i + 1 : Nat) : Int) := by rw [wrap_i64 (by omega) (by omega)]; rfl
   rw [ea, ed, em, ew, e1]
   refine ⟨fun x' w' => x' = (((at' + i) / 64 : Nat) : Int) ∧ St w [g] w' (M (mix X l i) (blockF key ((at' + i) / 64) nonce)), ⟨fun hd => ?_, fun hd => ?_⟩, ?_⟩
   · have kd := fun (w' : World) (h : St w [g] w' (M (mix X l i) B)) => h.chg.range rk (by simp [hne])
     have nd := fun (w' : World) (h : St w [g] w' (M (mix X l i) B)) => h.chg.range rn (by simp [hne])
     refine ⟨fun w' => St w [g] w' (M (mix X l i) B), hS.drew, _, fun w' h => ldRange (kd w' h) (e32 _) (s32 _) (by simp [hk]), _, fun w' h => ldRange (nd w' h) (e12 _) (s12 _) (by simp [hn]), (block_spec key nonce ((at' + i) / 64) _ hk hn (by omega)).mono ?_⟩
     rintro e w3 ⟨rfl, hc3⟩
     obtain ⟨w4, r4, h4⟩ := (hS.drew.same hc3).stA (v := bv (blockF key ((at' + i) / 64) nonce)) (i1 _ _) (s64 _) (by simp [hBl]) (by simp) (bv_one _)
     rw [q1] at h4
     exact ⟨_, rfl, fun w' => St w [g] w' (M (mix X l i) B), fun _ h => h, hS.drew.same hc3, w4, r4, rfl, h4⟩
   · have hx : x = (((at' + i) / 64 : Nat) : Int) := by simp at hd; exact hd.symm
     rcases hB with h0 | ⟨h', h0, hBh⟩
     · omega
     · have : h' = (at' + i) / 64 := by omega
       rw [this] at hBh
       exact ⟨hx, by rw [← hBh]; exact hS⟩
   · rintro x' w5 ⟨rfl, h5⟩
     have hlt : (at' + i) % 64 < 64 := Nat.mod_lt _ (by decide)
     have hml := mix_len hXl (show i ≤ l.length by omega)
     have ldm : ∀ w', St w [g] w' (M (mix X l i) (blockF key ((at' + i) / 64) nonce)) → (Instr.loadAt 5 (.pointer (some ⟨g, 0 + Int.toNat (i : Int) * 1, none⟩))).run Tryz.prog w' = .ok (.int .u8 ((l.getD i 0).toNat : Int)) w' := fun w' h => by
       have hc := h.cells (i0 _ _)
       have hv : (bv (mix X l i))[i]? = some (.int .u8 ((l.getD i 0).toNat : Int)) := by rw [bv_getD (by omega), mix_get hXl (by omega)]
       obtain ⟨b, o', he, hcell⟩ := hc.at_ hv
       simp only [Option.some.injEq, Addr.mk.injEq, and_true] at he
       obtain ⟨rfl, rfl⟩ := he
       rw [show 0 + Int.toNat (i : Int) * 1 = 0 + i by omega]
       exact ld1 (bA _) hcell
     refine ⟨fun w' => St w [g] w' (M (mix X l i) (blockF key ((at' + i) / 64) nonce)), h5.drew, g, 0, rfl, by omega, by omega, by omega, by omega, _, ldm, _, fun w' h => h.ldB (i1 _ _) (bA _) (ze ((at' + i) % 64)) (by simpa using hlt), g, 0, rfl, by omega, by omega, ?_⟩
     rw [xor_u8, show 0 + Int.toNat (i : Int) * 1 = i by omega]
     obtain ⟨w6, r6, h6⟩ := h5.drew.stRow (v := .int .u8 ((l.getD i 0 ^^^ (blockF key ((at' + i) / 64) nonce).getD ((at' + i) % 64) 0).toNat : Int)) (i0 _ _) (sB _) hi' rfl
     rw [bv_set, q0, mix_set hXl (by rw [← hX]; exact xorL_get (by omega))] at h6
     exact ⟨w6, r6, ⟨i + 1, _, rfl, by omega, by simp, .inr ⟨_, rfl, rfl⟩, h6⟩, by simp; omega⟩
 · have hi' : i = n := by simp at h; omega
   subst hi'
   rw [mix_all (by omega) (by omega)] at hS
   exact ⟨rfl, hS.chg, hS.holds 0 _ (i0 _ _)⟩

def roomF (x : Int) (n : Nat) : Bool := decide (0 ≤ x) && decide (x + n ≤ 274877906944)
def xorE (x : Int) (n : Nat) : Option Int := if roomF x n then none else some 8
def xorR (key nonce : List UInt8) (x : Int) (l : List UInt8) : List UInt8 := if roomF x l.length then xorL key nonce x.toNat l else []

theorem room_spec (x : Int) (n : Nat) (w : World) (h1 : -9223372036854775808 ≤ x) (h2 : x ≤ 9223372036854775807) (hn : n ≤ 9223372036854775807) : Calls Tryz.prog 327 #[.int .i64 x, .int .i64 (n : Int)] w fun e w' => e = .returned (.bool (roomF x n)) ∧ w' = w := by
 apply chacha_room_vc
 refine ⟨?_, rfl⟩
 have : (((decide (x ≥ (0 : Int))) && (decide (x ≤ (274877906944 : Int)))) && (decide ((n : Int) ≤ (IntKind.wrap .i64 ((274877906944 : Int) - x))))) = roomF x n := by
   by_cases h0 : 0 ≤ x
   · rw [wrap_i64 (by omega) (by omega)]
     simp only [roomF]
     rw [Bool.eq_iff_iff]
     simp only [Bool.and_eq_true, decide_eq_true_eq]
     omega
   · simp [roomF, h0]
 rw [this]

theorem built_seat : Tryz.prog.built 428 = fun parts => Instr.fill (fun i => (#[(0, 32), (32, 12)] : Array (Nat × Nat))[i]?) (bv (List.replicate 44 0)).toArray parts := by kernel_rfl

theorem seat_build (key nonce : List UInt8) (hk : key.length = 32) (hn : nonce.length = 12) (w : World) : (Instr.build 428 #[(0, .agg (bv key).toArray), (1, .agg (bv nonce).toArray)]).run Tryz.prog w = .ok (.agg (bv key ++ bv nonce).toArray) w := by
 apply run_build
 rw [built_seat]
 show Instr.fill _ _ [(0, .agg (bv key).toArray), (1, .agg (bv nonce).toArray)] = _
 rw [fill_step (off := 0) (sz := 32) rfl (by simp [Value.cells, hk]) (by simp), fill_step (off := 32) (sz := 12) rfl (by simp [Value.cells, hn]) (by simp [Value.cells, hk])]
 simp [Instr.fill, Value.cells, hk, hn]

theorem xor_spec (key nonce : List UInt8) (x : Int) (a : Option Addr) (n c : Nat) (l : List UInt8) (w : World) (hk : key.length = 32) (hn : nonce.length = 12) (h1 : -9223372036854775808 ≤ x) (h2 : x ≤ 9223372036854775807) (hr : RdB w a n c l) (hb : n ≤ 9223372036854775807) :
   Calls Tryz.prog 272 #[.agg (bv key).toArray, .agg (bv nonce).toArray, .int .i64 x, .slice a n c] w fun e w' => ∃ a' n' c', e = .returned (.tuple #[.slice a' n' c', errV (xorE x n)]) ∧ FreshB w w' a' n' c' (xorR key nonce x l) := by
 have hl := hr.lenB
 apply chacha_XOR_vc
 have s32 : ∀ w, (sizeOf 39).run Tryz.prog w = .ok 32 w := fun w => Tryz.sizeOf39 w
 have s12 : ∀ w, (sizeOf 287).run Tryz.prog w = .ok 12 w := fun w => Tryz.sizeOf287 w
 obtain ⟨g1, w1, r1, k1⟩ := (St.start w).boxA (P := Tryz.prog) 39 (bv key)
 obtain ⟨g2, w2, r2, k2⟩ := k1.boxA (P := Tryz.prog) 287 (bv nonce)
 refine ⟨_, _, r1, _, _, r2, (room_spec x n w2 h1 h2 hb).mono ?_⟩
 rintro e w3 ⟨rfl, rfl⟩
 refine ⟨_, rfl, fun h => ?_, fun h => ?_⟩
 · have hf : roomF x n = false := by simpa using h
   refine ⟨none, 0, 0, by simp [xorE, hf, errV], ?_⟩
   rw [xorR, hl, hf]
   exact ⟨k2.chg, rfl, World.ownsRow_nil _ _ _ _⟩
 · have hf : roomF x n = true := by simpa using h
   have hx0 : 0 ≤ x ∧ x + n ≤ 274877906944 := by simpa [roomF] using hf
   obtain ⟨at', rfl⟩ := Int.eq_ofNat_of_zero_le hx0.1
   obtain ⟨g, w4, r4, k4⟩ := k2.mk0n (kl := .i64) (kc := .i64) (c := n) bT (by omega) (by omega)
   obtain ⟨va, vc, w5, r5, k5, hin, _⟩ := k4.append (i := 2) (ty := 26) bT rfl (k4.rd1 hr) (bv_one l) (by omega) (by simp only [maxLen]; omega)
   have hv := hin (by omega)
   rw [Nat.zero_add, hv.1, hv.2] at r5 k5
   refine ⟨_, _, _, _, r4, _, _, _, _, r5, _, k5.ldA (i := 0) rfl (e32 _) (s32 _) (by simp [hk]), _, k5.ldA (i := 1) rfl (e12 _) (s12 _) (by simp [hn]), _, seat_build key nonce hk hn _, ?_⟩
   obtain ⟨g6, w6, r6, k6⟩ := k5.boxA (P := Tryz.prog) 428 (bv key ++ bv nonce)
   refine ⟨_, _, r6, ?_⟩
   have rng := k6.cellsA (i := 3) rfl
   have hne : g6 ≠ g := fun e => k6.apart 3 2 _ _ (by decide) rfl rfl g6 (by simp [Res.fp]) (by simp [Res.fp, Value.ownBlock, e])
   have rk : w6.rangeAt g6 0 (bv key) := fun j v hj => rng j v (by rw [List.getElem?_append_left (List.getElem?_eq_some_iff.1 hj).1]; exact hj)
   have rn : w6.rangeAt g6 (0 + 32) (bv nonce) := fun j v hj => by
     have := rng (32 + j) v (by rw [List.getElem?_append_right (by simp [hk]), bv_length, hk, Nat.add_sub_cancel_left]; exact hj)
     rw [show 0 + 32 + j = 0 + (32 + j) by omega]; exact this
   refine (seatOver_spec g6 0 g n n at' key nonce l w6 hk hn rk rn hne (k6.holds 2 _ rfl) (by omega)).mono ?_
   rintro e w7 ⟨rfl, hc7, hrow⟩
   have he : errV (xorE (at' : Int) n) = .nilIface := by simp [xorE, hf, errV]
   rw [he]
   refine ⟨rfl, _, _, _, rfl, ?_⟩
   rw [xorR, hl, hf, if_pos rfl, Int.toNat_natCast]
   have := k6.upd (i := 2) (r' := .row 5 1 (.slice (some ⟨g, 0, none⟩) n n) n (bv (xorL key nonce at' l))) rfl (by simpa [Res.fp, Value.ownBlock] using hc7) hrow (by simp [Res.fp, Value.ownBlock])
   exact this.freshB (i := 2) rfl

end Go.Proofs.YtpmhjnhgpplmnaaGreatDoor
end

section
namespace Go.Proofs.YtpmhjnhgpplmnaaGreatDoor
open Go Sx
set_option maxRecDepth 8000

def der32 (salt secret info : List UInt8) : List UInt8 := deriveF salt secret info 32
@[simp] theorem der32_len (salt secret info : List UInt8) : (der32 salt secret info).length = 32 := deriveF_len _ _ _ _
def amphL : List UInt8 := [97, 109, 112, 104, 111, 114, 97]
def masterF (m : List UInt8) : List UInt8 := der32 amphL m [99, 105, 112, 104, 101, 114] ++ der32 amphL m [109, 97, 99] ++ der32 amphL m [110, 97, 109, 101]
@[simp] theorem masterF_len (m : List UInt8) : (masterF m).length = 96 := by simp [masterF]

def ciphK (K : List UInt8) : List UInt8 := K.take 32
def macKy (K : List UInt8) : List UInt8 := (K.drop 32).take 32
def nameK (K : List UInt8) : List UInt8 := (K.drop 64).take 32

def tagF (K : List UInt8) (kind : UInt8) (ctx nonce body : List UInt8) : List UInt8 := macF (macKy K) (packL [[kind], ctx, nonce, body])
@[simp] theorem tagF_len (K : List UInt8) (kind : UInt8) (ctx nonce body : List UInt8) : (tagF K kind ctx nonce body).length = 32 := macF_len _ _
def nonceF (K : List UInt8) (kind : UInt8) (ctx plain : List UInt8) : List UInt8 := (macF (nameK K) (packL [[kind], ctx, plain])).take 12
@[simp] theorem nonceF_len (K : List UInt8) (kind : UInt8) (ctx plain : List UInt8) : (nonceF K kind ctx plain).length = 12 := by rw [nonceF, List.length_take, macF_len]; rfl
def overF (K nonce b : List UInt8) : List UInt8 := xorR (ciphK K) nonce 0 b
def sealF (K : List UInt8) (kind : UInt8) (ctx plain : List UInt8) : List UInt8 :=
 [kind] ++ nonceF K kind ctx plain ++ overF K (nonceF K kind ctx plain) plain ++ tagF K kind ctx (nonceF K kind ctx plain) (overF K (nonceF K kind ctx plain) plain)
def bNonce (b : List UInt8) : List UInt8 := (b.drop 1).take 12
def bBody (b : List UInt8) : List UInt8 := (b.drop 13).take (b.length - 45)
def bTag (b : List UInt8) : List UInt8 := b.drop (b.length - 32)
def openF (K : List UInt8) (kind : UInt8) (ctx b : List UInt8) : Option (List UInt8) :=
 if b.length < 45 ∨ b.getD 0 0 ≠ kind then none else if tagF K kind ctx (bNonce b) (bBody b) = bTag b then some (overF K (bNonce b) (bBody b)) else none
theorem toBytes (s : ByteArray) (l : List UInt8) (hs : s = ⟨l.toArray⟩) (w : World) : ∃ g c w', (convert 9 26 (.string s)).run Tryz.prog w = .ok (.slice (some ⟨g, 0, none⟩) l.length c) w' ∧ Chg [] w w' ∧ RdB w' (some ⟨g, 0, none⟩) l.length c l ∧ w.heap.size ≤ g := by
 subst hs
 have hsz : (ByteArray.mk l.toArray).size = l.length := by simp [ByteArray.size]
 have hr := Lib.run_convert_string_bytes (P := Tryz.prog) w 9 26 5 ⟨l.toArray⟩ sS bS bE
 rw [hsz] at hr
 refine ⟨_, _, _, hr, ⟨?_, ?_, ?_, by rw [Lib.bytesWorld_size]; omega, fun k hk _ => Lib.bytesWorld_at_old w _ _ k hk⟩, ⟨.inr ⟨_, 0, rfl, fun j v hj => ?_⟩, by simp, grownCap_ge _ _ _ _, by simp⟩, Nat.le_refl _⟩
 · (simp only [Lib.bytesWorld, World.freeze]; split <;> rfl)
 · (simp only [Lib.bytesWorld, World.freeze]; split <;> rfl)
 · (simp only [Lib.bytesWorld, World.freeze]; split <;> rfl)
 · have hjl : j < l.length := by have := (List.getElem?_eq_some_iff.1 hj).1; simpa using this
   rw [Nat.zero_add, Lib.bytesWorld_cell w _ _ j (by rw [hsz]; exact hjl)]
   rw [bv_getD hjl] at hj
   simpa using hj

theorem sameSlice (g n c : Nat) (l : List UInt8) (w : World) (hr : RdB w (some ⟨g, 0, none⟩) n c l) (hg : g < w.heap.size) : ∃ w', (convert 26 26 (.slice (some ⟨g, 0, none⟩) n c)).run Tryz.prog w = .ok (.slice (some ⟨g, 0, none⟩) n c) w' ∧ Chg [g] w w' ∧ RdB w' (some ⟨g, 0, none⟩) n c l := by
 have hfz : ∀ (o m : Nat), Chg [g] w (w.freeze ⟨g, o, none⟩ m) ∧ ∀ j, (w.freeze ⟨g, o, none⟩ m).cell? ⟨g, j, none⟩ = w.cell? ⟨g, j, none⟩ := by
   intro o m
   unfold World.freeze
   split
   · exact ⟨Chg.refl _ _, fun _ => rfl⟩
   · refine ⟨⟨rfl, rfl, rfl, by simp, fun k hk hx => ?_⟩, fun j => ?_⟩
     · have : g ≠ k := fun e => hx (by simp [e])
       simp [Array.getElem?_modify, this]
     · simp only [World.cell?, Array.getElem?_modify, if_true]
       cases hc : w.heap[g]? with
       | none => rfl
       | some o => cases o <;> rfl
 have hrd : ∀ w', (∀ j, w'.cell? ⟨g, j, none⟩ = w.cell? ⟨g, j, none⟩) → RdB w' (some ⟨g, 0, none⟩) n c l := fun w' h => by
   refine ⟨?_, hr.len, hr.le, hr.nil⟩
   rcases hr.cells with h0 | ⟨b, o, e, h1⟩
   · exact .inl h0
   · simp only [Option.some.injEq, Addr.mk.injEq, and_true] at e
     obtain ⟨rfl, rfl⟩ := e
     exact .inr ⟨_, _, rfl, fun j v hj => by rw [h]; exact h1 j v hj⟩
 cases hsh : w.shape? g with
 | none => exact ⟨w, by simp [convert, run_underlying bS, run_underlying bE, markStringish, hsh], Chg.refl _ _, hr⟩
 | some p => exact ⟨w.freeze ⟨g, p.2, none⟩ 1, by simp [convert, run_underlying bS, run_underlying bE, markStringish, hsh], (hfz _ _).1, hrd _ (hfz _ _).2⟩

theorem Sx.St.rdPart {w0 w : World} {X : List Nat} {M : List Res} (h : St w0 X w M) {i g T o n : Nat} {l : List UInt8} (hi : M[i]? = some (.arr g T (bv l))) (ho : o + n ≤ l.length) : RdB w (some ⟨g, o, none⟩) n n ((l.drop o).take n) := by
 refine ⟨.inr ⟨g, o, rfl, fun j u hj => ?_⟩, by simp; omega, Nat.le_refl _, by simp⟩
 have hjn : j < n := by have := (List.getElem?_eq_some_iff.1 hj).1; simp at this; omega
 have h1 : (bv l)[o + j]? = some u := by
   rw [← hj, bv_take, bv_drop, List.getElem?_take, if_pos hjn, List.getElem?_drop]
 have := h.cellsA hi (o + j) u h1
 rwa [Nat.zero_add] at this

end Go.Proofs.YtpmhjnhgpplmnaaGreatDoor
end

section
namespace Go.Proofs.YtpmhjnhgpplmnaaGreatDoor.Sx
open Go
set_option maxRecDepth 8000

theorem flatMap_len {α β : Type} {enc : α → List β} {k : Nat} : ∀ {l : List α}, (∀ x ∈ l, (enc x).length = k) → (l.flatMap enc).length = k * l.length
 | [], _ => by simp
 | x :: l, h => by
   rw [List.flatMap_cons, List.length_append, flatMap_len fun y hy => h y (by simp [hy]), h x (by simp), List.length_cons, Nat.mul_succ]
   omega

theorem flatMap_drop {α β : Type} {enc : α → List β} {k : Nat} : ∀ {l : List α} (i : Nat), (∀ x ∈ l, (enc x).length = k) → (l.flatMap enc).drop (i * k) = (l.drop i).flatMap enc
 | l, 0, _ => by simp
 | [], i + 1, _ => by simp
 | x :: l, i + 1, h => by
   have hx := h x (by simp)
   rw [List.flatMap_cons, List.drop_succ_cons, ← flatMap_drop i fun y hy => h y (by simp [hy])]
   rw [show (i + 1) * k = (enc x).length + i * k by rw [hx, Nat.succ_mul]; omega, List.drop_append]
   rw [List.drop_of_length_le (by omega), List.nil_append]
   congr 1
   omega

theorem flatMap_take {α β : Type} {enc : α → List β} {k : Nat} : ∀ {l : List α} (i : Nat), (∀ x ∈ l, (enc x).length = k) → (l.flatMap enc).take (i * k) = (l.take i).flatMap enc
 | l, 0, _ => by simp
 | [], i + 1, _ => by simp
 | x :: l, i + 1, h => by
   have hx := h x (by simp)
   rw [List.flatMap_cons, List.take_succ_cons, List.flatMap_cons, ← flatMap_take i fun y hy => h y (by simp [hy])]
   rw [show (i + 1) * k = (enc x).length + i * k by rw [hx, Nat.succ_mul]; omega, List.take_append]
   rw [List.take_of_length_le (by omega)]
   congr 2
   omega

theorem flatMap_at {α β : Type} {enc : α → List β} {k : Nat} {l : List α} (h : ∀ x ∈ l, (enc x).length = k) {i j : Nat} {x : α} (hx : l[i]? = some x) (hj : j < k) : (l.flatMap enc)[i * k + j]? = (enc x)[j]? := by
 rw [← List.getElem?_drop, flatMap_drop i h]
 have hi := (List.getElem?_eq_some_iff.1 hx).1
 rw [List.drop_eq_getElem_cons hi]
 have e : l[i] = x := (List.getElem?_eq_some_iff.1 hx).2
 rw [e, List.flatMap_cons, List.getElem?_append_left (by rw [h x (List.mem_of_getElem? hx)]; exact hj)]

structure RdE {α : Type} (enc : α → List Value) (k : Nat) (w : World) (a : Option Addr) (n c : Nat) (l : List α) : Prop where
 rd : Rd w a n c k (l.flatMap enc)
 len : ∀ x ∈ l, (enc x).length = k

section
variable {P : Program} {α : Type} {enc : α → List Value} {k : Nat} {w w' : World} {a : Option Addr} {n c : Nat} {l : List α}

theorem RdE.num (h : RdE enc k w a n c l) (hk : 0 < k) : l.length = n := by
 have h1 := h.rd.len
 rw [flatMap_len h.len, Nat.mul_comm] at h1
 exact Nat.eq_of_mul_eq_mul_right hk h1
theorem RdE.keep0 (h : RdE enc k w a n c l) (hc : Chg [] w w') : RdE enc k w' a n c l := ⟨h.rd.keep0 hc, h.len⟩
theorem RdE.nil (w : World) : RdE enc k w none 0 0 [] := ⟨⟨Cells.nil _ _, by simp, Nat.le_refl _, fun _ => rfl⟩, by simp⟩

theorem RdE.at_ (h : RdE enc k w a n c l) (hk : 0 < k) {i : Nat} {x : α} (hx : l[i]? = some x) : ∃ b o, a = some ⟨b, o, none⟩ ∧ ∀ w', RdE enc k w' a n c l → w'.rangeAt b (o + i * k) (enc x) := by
 have key : ∀ w', RdE enc k w' a n c l → ∃ b o, a = some ⟨b, o, none⟩ ∧ w'.rangeAt b (o + i * k) (enc x) := by
   intro w' h'
   rcases h'.rd.cells with h0 | ⟨b, o, rfl, hr⟩
   · have h1 := flatMap_len h'.len
     rw [h0] at h1
     have := (List.getElem?_eq_some_iff.1 hx).1
     simp only [List.length_nil] at h1
     rcases Nat.mul_eq_zero.1 h1.symm with h2 | h2 <;> omega
   · refine ⟨b, o, rfl, fun j v hv => ?_⟩
     have hj : j < k := by have := (List.getElem?_eq_some_iff.1 hv).1; have := h'.len x (List.mem_of_getElem? hx); omega
     have := hr (i * k + j) v (by rw [flatMap_at h'.len hx hj]; exact hv)
     rw [Nat.add_assoc]
     exact this
 obtain ⟨b, o, rfl, _⟩ := key w h
 refine ⟨b, o, rfl, fun w' h' => ?_⟩
 obtain ⟨b', o', e, hr⟩ := key w' h'
 simp only [Option.some.injEq, Addr.mk.injEq, and_true] at e
 obtain ⟨rfl, rfl⟩ := e
 exact hr

theorem RdE.ld (h : RdE enc k w a n c l) (hk : 0 < k) {T : TypeId} (hA : ∀ w, (isAgg T).run P w = .ok true w) (hS : ∀ w, (sizeOf T).run P w = .ok k w) {i : Nat} {x : α} (hx : l[i]? = some x) :
   ∃ b o, a = some ⟨b, o, none⟩ ∧ ∀ w', RdE enc k w' a n c l → (Instr.loadAt T (.pointer (some ⟨b, o + Int.toNat (i : Int) * k, none⟩))).run P w' = .ok (.agg (enc x).toArray) w' := by
 obtain ⟨b, o, rfl, hr⟩ := h.at_ hk hx
 refine ⟨b, o, rfl, fun w' h' => ?_⟩
 have := loadCells_cells (P := P) (hr w' h')
 rw [h'.len x (List.mem_of_getElem? hx)] at this
 rw [Int.toNat_natCast]
 simp [Instr.loadAt, Instr.sureAddr, loadVar, hA, hS, this]

theorem RdE.sub (h : RdE enc k w a n c l) {a' : Option Addr} {lo hh m : Nat} (hs : SubA k a lo m a') (h1 : lo ≤ hh) (h2 : hh ≤ n) (h3 : hh ≤ m) (h4 : m ≤ c) : RdE enc k w a' (hh - lo) (m - lo) ((l.drop lo).take (hh - lo)) := by
 have hl : ∀ x ∈ (l.drop lo).take (hh - lo), (enc x).length = k := fun x hx => h.len x (List.mem_of_mem_drop (List.mem_of_mem_take hx))
 refine ⟨?_, hl⟩
 have := h.rd.sub hs h1 h2 h3 h4
 rw [flatMap_drop lo h.len, flatMap_take (hh - lo) fun x hx => h.len x (List.mem_of_mem_drop hx)] at this
 exact this
end

theorem RdE.fld {P : Program} {α : Type} {enc : α → List Value} {k : Nat} {w : World} {a : Option Addr} {n c : Nat} {l : List α} (h : RdE enc k w a n c l) (hk : 0 < k) {T : TypeId} (hA : ∀ w, (isAgg T).run P w = .ok false w) {i j : Nat} {x : α} {v : Value} (hx : l[i]? = some x) (hv : (enc x)[j]? = some v) :
   ∃ b o, a = some ⟨b, o, none⟩ ∧ ∀ w', RdE enc k w' a n c l → (Instr.loadAt T (.pointer (some ⟨b, o + Int.toNat (i : Int) * k + j, none⟩))).run P w' = .ok v w' := by
 obtain ⟨b, o, rfl, hr⟩ := h.at_ hk hx
 refine ⟨b, o, rfl, fun w' h' => ?_⟩
 rw [Int.toNat_natCast]
 exact ld1 (hA _) (hr w' h' j v hv)

end Go.Proofs.YtpmhjnhgpplmnaaGreatDoor.Sx
end

section
namespace Go.Proofs.YtpmhjnhgpplmnaaGreatDoor
open Go Go.Proofs.YtpmhjnhgpplmnaaGreatDoor.Sx

set_option maxRecDepth 100000
theorem amphoranum_Decimal_vc (a0 : Int) (w : World) (R : Ending → World → Prop) (h : ((a0 == ((-9223372036854775808) : Int)) = true → (R (.returned (.string (ByteArray.mk #[45, 57, 50, 50, 51, 51, 55, 50, 48, 51, 54, 56, 53, 52, 55, 55, 53, 56, 48, 56]))) w)) ∧ ((a0 == ((-9223372036854775808) : Int)) = false → (∃ J : Int → World → Prop, ((decide (a0 < (0 : Int)) = true → (J (IntKind.wrap .i64 (0 - a0)) w)) ∧ (decide (a0 < (0 : Int)) = false → (J a0 w))) ∧ (∀ x0, ∀ w1, J x0 w1 → (∃ (I : Int → ByteArray → World → Prop) (μ : Int → ByteArray → World → Nat), I x0 (ByteArray.mk #[]) w1 ∧ (∀ x0_1 x3, ∀ w2, I x0_1 x3 w2 → ((((x3.toList == (ByteArray.mk #[]).toList) || (decide (x0_1 > (0 : Int)))) = true → (∃ t22a t22n t22c w3, (Instr.buildSlice 26 1 #[(0, (.int .u8 (IntKind.wrap .u8 (IntKind.wrap .i64 ((48 : Int) + (Int.tmod x0_1 (10 : Int)))))))]).run Tryz.prog w2 = .ok (.slice t22a t22n t22c) w3 ∧ (∃ t23, (convert 26 9 (.slice t22a t22n t22c)).run Tryz.prog w3 = .ok (.string t23) w3 ∧ (∃ t25, (eqlS .add 9 (.tmp 23) (.tmp 24) (.string t23) (.string x3)).run Tryz.prog w3 = .ok (.string t25) w3 ∧ (I (IntKind.wrap .i64 (Int.tdiv x0_1 (10 : Int))) t25 w3 ∧ μ (IntKind.wrap .i64 (Int.tdiv x0_1 (10 : Int))) t25 w3 < μ x0_1 x3 w2))))) ∧ (((x3.toList == (ByteArray.mk #[]).toList) || (decide (x0_1 > (0 : Int)))) = false → ((decide (a0 < (0 : Int)) = true → (∃ t30, (eqlS .add 9 (.const (.string (ByteArray.mk #[45]))) (.tmp 29) (.string (ByteArray.mk #[45])) (.string x3)).run Tryz.prog w2 = .ok (.string t30) w2 ∧ (R (.returned (.string t30)) w2))) ∧ (decide (a0 < (0 : Int)) = false → (R (.returned (.string x3)) w2))))))))))) : Calls Tryz.prog 96 #[(.int .i64 a0)] w R := calls_of_ev2 (tc := .sq [.rg 1, .seq (.rg 2) (.cond (.seq (.rg 1) .leaf) .leaf), .rg 1, .rg 3, .seq (.rg 1) (.join [0, 10, 11] [0] [.int .i64] (.cond (.rg 3) .leaf)), .blk (.loop (lr [(0, 1), (3, 1), (12, 16)]) [0, 3] [.int .i64, .str] (.seq (.seq (.reg (.pp 3 (.ap 2 .nil))) (.cond .leaf .leaf)) (.blk (.seq (.reg (.pp 4 (.op (.r .slice) (.op (.ld .str) (.op .p (.op (.ld .str) (.op .p .nil))))))) (.rg 3))))), .seq (.rg 1) (.cond (.seq (.reg (.op .p (.op (.ld .str) (.op .p .nil)))) .leaf) .leaf), .rg 2] .leaf) Tryz.func96 (by kernel_rfl) (by kernel_rfl) h

end Go.Proofs.YtpmhjnhgpplmnaaGreatDoor
end

section
namespace Go.Proofs.YtpmhjnhgpplmnaaGreatDoor
open Go Sx
set_option maxRecDepth 8000

structure RefD where
 id : List UInt8
 pack : Int
 at_ : Int
 len : Int
 idl : id.length = 32
 pk : -9223372036854775808 ≤ pack ∧ pack ≤ 9223372036854775807
 ak : -9223372036854775808 ≤ at_ ∧ at_ ≤ 9223372036854775807
 lk : -9223372036854775808 ≤ len ∧ len ≤ 9223372036854775807
def ref0 : RefD := ⟨List.replicate 32 0, 0, 0, 0, by simp, by omega, by omega, by omega⟩
instance : Inhabited RefD := ⟨ref0⟩
def refC (r : RefD) : List Value := bv r.id ++ [.int .i64 r.pack, .int .i64 r.at_, .int .i64 r.len]
@[simp] theorem refC_len (r : RefD) : (refC r).length = 35 := by simp [refC, r.idl]
theorem RefD.ext {r s : RefD} (h1 : r.id = s.id) (h2 : r.pack = s.pack) (h3 : r.at_ = s.at_) (h4 : r.len = s.len) : r = s := by
 cases r; cases s; simp_all

section
variable {w0 w w' : World} {X : List Nat}
end

end Go.Proofs.YtpmhjnhgpplmnaaGreatDoor
end

section
namespace Go.Proofs.YtpmhjnhgpplmnaaGreatDoor
open Go Sx
set_option maxRecDepth 8000

abbrev Itm := List UInt8 × List UInt8
def frmT (x : Itm) : List UInt8 := frameL 2 (x.1 ++ x.2)
structure ItD where
 id : List UInt8
 a : Option Addr
 n : Nat
 c : Nat
 blob : List UInt8
 idl : id.length = 32
def ItD.t (x : ItD) : Itm := (x.id, x.blob)
def itC (x : ItD) : List Value := bv x.id ++ [.slice x.a x.n x.c]
@[simp] theorem itC_len (x : ItD) : (itC x).length = 33 := by simp [itC, x.idl]
structure ItR (w : World) (a : Option Addr) (n c : Nat) (l : List ItD) : Prop where
 rd : RdE itC 33 w a n c l
 blobs : ∀ x ∈ l, RdB w x.a x.n x.c x.blob
theorem ItR.keep0 {w w' : World} {a : Option Addr} {n c : Nat} {l : List ItD} (h : ItR w a n c l) (hc : Chg [] w w') : ItR w' a n c l := ⟨h.rd.keep0 hc, fun x hx => (h.blobs x hx).keep0 hc⟩

structure SmallI (xs : List Itm) : Prop where
 num : xs.length ≤ 4096
 idl : ∀ x ∈ xs, x.1.length = 32
 sum : (xs.map fun x => x.2.length).sum ≤ 16777216
theorem sum_mem : ∀ {l : List Nat} {x : Nat}, x ∈ l → x ≤ l.sum
 | y :: l, x, h => by
   rw [List.sum_cons]
   rcases List.mem_cons.1 h with rfl | h
   · omega
   · have := sum_mem h; omega
theorem SmallI.blob {xs : List Itm} (h : SmallI xs) {x : Itm} (hx : x ∈ xs) : x.2.length ≤ 16777216 :=
 Nat.le_trans (sum_mem (List.mem_map_of_mem (f := fun x : Itm => x.2.length) hx)) h.sum

end Go.Proofs.YtpmhjnhgpplmnaaGreatDoor
end

section
namespace Go.Proofs.YtpmhjnhgpplmnaaGreatDoor
open Go Go.Proofs.YtpmhjnhgpplmnaaGreatDoor.Sx

set_option maxRecDepth 100000
theorem seal_tag_vc (a0 : Array Value) (a1 : Int) (a2a : Option Addr) (a2n : Nat) (a2c : Nat) (a3a : Option Addr) (a3n : Nat) (a3c : Nat) (a4a : Option Addr) (a4n : Nat) (a4c : Nat) (w : World) (R : Ending → World → Prop) (h : ∃ g5 w1, (Instr.box 41 (.agg a0)).run Tryz.prog w = .ok (.pointer (some ⟨g5, 0, none⟩)) w1 ∧ (∃ g10 w2, AlQ 39 g10 w1 w2 ∧ (0 ≤ (32 : Int) ∧ (32 : Int) ≤ (32 : Int) ∧ (∃ t14a t14n t14c w3, (Instr.buildSlice 26 1 #[(0, (.int .u8 a1))]).run Tryz.prog w2.drew = .ok (.slice t14a t14n t14c) w3 ∧ (∃ t18a t18n t18c w4, (Instr.buildSlice 24 4 #[(0, (.slice t14a t14n t14c)), (1, (.slice a2a a2n a2c)), (2, (.slice a3a a3n a3c)), (3, (.slice a4a a4n a4c))]).run Tryz.prog w3 = .ok (.slice t18a t18n t18c) w4 ∧ (Calls Tryz.prog 100 #[(.slice t18a t18n t18c)] w4 fun e19 w5 => ∃ t19a t19n t19c, e19 = .returned (.slice t19a t19n t19c) ∧ (∃ t20a t20n t20c w6, (Instr.buildSlice 24 1 #[(0, (.slice t19a t19n t19c))]).run Tryz.prog w5 = .ok (.slice t20a t20n t20c) w6 ∧ (Calls Tryz.prog 198 #[(.slice (some ⟨g5, 32, none⟩) (32) 32), (.slice t20a t20n t20c)] w6 fun e21 w7 => ∃ t21, e21 = .returned (.agg t21) ∧ (∃ w8, StQ 39 g10 0 (.agg t21) w7 w8 ∧ (∃ r10, (loadVar 39 ⟨g10, 0, none⟩).run Tryz.prog w8 = .ok r10 w8 ∧ (R (.returned r10) w8))))))))))) : Calls Tryz.prog 200 #[(.agg a0), (.int .u8 a1), (.slice a2a a2n a2c), (.slice a3a a3n a3c), (.slice a4a a4n a4c)] w R := calls_of_ev2 (tc := .sq [.reg (.op .bx (.op .bx .nil)), .draw (.tk 0 .p (.tk 1 .sl (.tks [2, 4, 5, 6] (.go 3 (.r .slice) (.go 7 (.r .slice) (.go 8 (.cl [.slice]) (.go 9 (.r .slice) (.go 10 (.cl [.agg]) (.go 11 .u .nil))))))))) (lr [(0, 12)])] .leaf) Tryz.func200 (by kernel_rfl) (by kernel_rfl) h

theorem seal_over_vc (a0 : Array Value) (a1a : Option Addr) (a1n : Nat) (a1c : Nat) (a2a : Option Addr) (a2n : Nat) (a2c : Nat) (w : World) (R : Ending → World → Prop) (h : ∃ g3 w1, (Instr.box 41 (.agg a0)).run Tryz.prog w = .ok (.pointer (some ⟨g3, 0, none⟩)) w1 ∧ (∃ g7 w2, AlQ 287 g7 w1 w2 ∧ (0 ≤ (12 : Int) ∧ (12 : Int) ≤ (12 : Int) ∧ (∃ t12 w3, (Builtin.copy_ #[26, 26] 3 #[(.slice (some ⟨g7, 0, none⟩) (12) 12), (.slice a1a a1n a1c)]).run Tryz.prog w2 = .ok (.int .i64 t12) w3 ∧ (∃ t15, LdQ 39 g3 0 (.agg t15) w3 ∧ (∃ t16, LdQ 287 g7 0 (.agg t16) w3 ∧ (Calls Tryz.prog 272 #[(.agg t15), (.agg t16), (.int .i64 0), (.slice a2a a2n a2c)] w3 fun e18 w4 => ∃ t18_0a t18_0n t18_0c t18_1, e18 = .returned (.tuple #[(.slice t18_0a t18_0n t18_0c), t18_1]) ∧ (R (.returned (.slice t18_0a t18_0n t18_0c)) w4)))))))) : Calls Tryz.prog 199 #[(.agg a0), (.slice a1a a1n a1c), (.slice a2a a2n a2c)] w R := calls_of_ev2 (tc := .sq [.reg (.op .bx (.op .p .nil)), .reg (.op .bx .nil), .reg (.op .sl (.op .p (.op (.r (.int .i64)) .nil))), .reg (.op .p (.op (.ld .agg) (.op (.ld .agg) (.op .p (.op (.cl [.slice, .val]) (.pp 5 .nil)))))), .rg 2] .leaf) Tryz.func199 (by kernel_rfl) (by kernel_rfl) h

theorem seal_Seal_vc (a0 : Array Value) (a1 : Int) (a2a : Option Addr) (a2n : Nat) (a2c : Nat) (a3a : Option Addr) (a3n : Nat) (a3c : Nat) (w : World) (R : Ending → World → Prop) (h : ∃ g4 w1, (Instr.box 41 (.agg a0)).run Tryz.prog w = .ok (.pointer (some ⟨g4, 0, none⟩)) w1 ∧ (0 ≤ (32 : Int) ∧ (32 : Int) ≤ (32 : Int) ∧ ((∃ t17a t17n t17c w2, (Instr.buildSlice 26 1 #[(0, (.int .u8 a1))]).run Tryz.prog w1.drew = .ok (.slice t17a t17n t17c) w2 ∧ ((∃ t20a t20n t20c w3, (Instr.buildSlice 24 3 #[(0, (.slice t17a t17n t17c)), (1, (.slice a2a a2n a2c)), (2, (.slice a3a a3n a3c))]).run Tryz.prog w2 = .ok (.slice t20a t20n t20c) w3 ∧ ((Calls Tryz.prog 100 #[(.slice t20a t20n t20c)] w3 fun e21 w4 => ∃ t21a t21n t21c, e21 = .returned (.slice t21a t21n t21c) ∧ ((∃ t22a t22n t22c w5, (Instr.buildSlice 24 1 #[(0, (.slice t21a t21n t21c))]).run Tryz.prog w4 = .ok (.slice t22a t22n t22c) w5 ∧ ((Calls Tryz.prog 198 #[(.slice (some ⟨g4, 64, none⟩) (32) 32), (.slice t22a t22n t22c)] w5 fun e23 w6 => ∃ t23, e23 = .returned (.agg t23) ∧ (∃ g9 w7, AlQ 39 g9 w6 w7 ∧ (∃ w8, StQ 39 g9 0 (.agg t23) w7 w8 ∧ (0 ≤ (12 : Int) ∧ (12 : Int) ≤ (32 : Int) ∧ (∃ t25, LdQ 41 g4 0 (.agg t25) w8 ∧ (Calls Tryz.prog 199 #[(.agg t25), (.slice (some ⟨g9, 0, none⟩) 12 32), (.slice a3a a3n a3c)] w8 fun e28 w9 => ∃ t28a t28n t28c, e28 = .returned (.slice t28a t28n t28c) ∧ (∃ t29, LdQ 41 g4 0 (.agg t29) w9 ∧ (Calls Tryz.prog 200 #[(.agg t29), (.int .u8 a1), (.slice a2a a2n a2c), (.slice (some ⟨g9, 0, none⟩) 12 32), (.slice t28a t28n t28c)] w9 fun e34 w10 => ∃ t34, e34 = .returned (.agg t34) ∧ (∃ g12 w11, AlQ 39 g12 w10 w11 ∧ (∃ w12, StQ 39 g12 0 (.agg t34) w11 w12 ∧ (∃ t38a t38n t38c w13, (Instr.makeSlice 26 (.int .i64 0) (.int .i64 (IntKind.wrap .i64 ((45 : Int) + (a3n : Int))))).run Tryz.prog w12 = .ok (.slice t38a t38n t38c) w13 ∧ (∃ t40a t40n t40c w14, (Instr.buildSlice 26 1 #[(0, (.int .u8 a1))]).run Tryz.prog w13 = .ok (.slice t40a t40n t40c) w14 ∧ (∃ t41a t41n t41c w15, (Builtin.append_ #[26, 26] 26 #[(.slice t38a t38n t38c), (.slice t40a t40n t40c)]).run Tryz.prog w14 = .ok (.slice t41a t41n t41c) w15 ∧ (∃ t44a t44n t44c w16, (Builtin.append_ #[26, 26] 26 #[(.slice t41a t41n t41c), (.slice (some ⟨g9, 0, none⟩) 12 32)]).run Tryz.prog w15 = .ok (.slice t44a t44n t44c) w16 ∧ (∃ t47a t47n t47c w17, (Builtin.append_ #[26, 26] 26 #[(.slice t44a t44n t44c), (.slice t28a t28n t28c)]).run Tryz.prog w16 = .ok (.slice t47a t47n t47c) w17 ∧ (0 ≤ (32 : Int) ∧ (32 : Int) ≤ (32 : Int) ∧ (∃ t50a t50n t50c w18, (Builtin.append_ #[26, 26] 26 #[(.slice t47a t47n t47c), (.slice (some ⟨g12, 0, none⟩) (32) 32)]).run Tryz.prog w17 = .ok (.slice t50a t50n t50c) w18 ∧ (R (.returned (.slice t50a t50n t50c)) w18)))))))))))))))))) ∧ (∃ g9 w19, AlQ 39 g9 w5 w19 ∧ (Calls Tryz.prog 198 #[(.slice (some ⟨g4, 64, none⟩) (32) 32), (.slice t22a t22n t22c)] w19 fun e23 w20 => ∃ t23, e23 = .returned (.agg t23) ∧ (∃ w21, StQ 39 g9 0 (.agg t23) w20 w21 ∧ (0 ≤ (12 : Int) ∧ (12 : Int) ≤ (32 : Int) ∧ (∃ t25, LdQ 41 g4 0 (.agg t25) w21 ∧ (Calls Tryz.prog 199 #[(.agg t25), (.slice (some ⟨g9, 0, none⟩) 12 32), (.slice a3a a3n a3c)] w21 fun e28 w22 => ∃ t28a t28n t28c, e28 = .returned (.slice t28a t28n t28c) ∧ (∃ t29, LdQ 41 g4 0 (.agg t29) w22 ∧ (Calls Tryz.prog 200 #[(.agg t29), (.int .u8 a1), (.slice a2a a2n a2c), (.slice (some ⟨g9, 0, none⟩) 12 32), (.slice t28a t28n t28c)] w22 fun e34 w23 => ∃ t34, e34 = .returned (.agg t34) ∧ (∃ g12 w24, AlQ 39 g12 w23 w24 ∧ (∃ w25, StQ 39 g12 0 (.agg t34) w24 w25 ∧ (∃ t38a t38n t38c w26, (Instr.makeSlice 26 (.int .i64 0) (.int .i64 (IntKind.wrap .i64 ((45 : Int) + (a3n : Int))))).run Tryz.prog w25 = .ok (.slice t38a t38n t38c) w26 ∧ (∃ t40a t40n t40c w27, (Instr.buildSlice 26 1 #[(0, (.int .u8 a1))]).run Tryz.prog w26 = .ok (.slice t40a t40n t40c) w27 ∧ (∃ t41a t41n t41c w28, (Builtin.append_ #[26, 26] 26 #[(.slice t38a t38n t38c), (.slice t40a t40n t40c)]).run Tryz.prog w27 = .ok (.slice t41a t41n t41c) w28 ∧ (∃ t44a t44n t44c w29, (Builtin.append_ #[26, 26] 26 #[(.slice t41a t41n t41c), (.slice (some ⟨g9, 0, none⟩) 12 32)]).run Tryz.prog w28 = .ok (.slice t44a t44n t44c) w29 ∧ (∃ t47a t47n t47c w30, (Builtin.append_ #[26, 26] 26 #[(.slice t44a t44n t44c), (.slice t28a t28n t28c)]).run Tryz.prog w29 = .ok (.slice t47a t47n t47c) w30 ∧ (0 ≤ (32 : Int) ∧ (32 : Int) ≤ (32 : Int) ∧ (∃ t50a t50n t50c w31, (Builtin.append_ #[26, 26] 26 #[(.slice t47a t47n t47c), (.slice (some ⟨g12, 0, none⟩) (32) 32)]).run Tryz.prog w30 = .ok (.slice t50a t50n t50c) w31 ∧ (R (.returned (.slice t50a t50n t50c)) w31)))))))))))))))))))) ∧ (∃ g9 w32, AlQ 39 g9 w4 w32 ∧ (∃ t22a t22n t22c w33, (Instr.buildSlice 24 1 #[(0, (.slice t21a t21n t21c))]).run Tryz.prog w32 = .ok (.slice t22a t22n t22c) w33 ∧ (Calls Tryz.prog 198 #[(.slice (some ⟨g4, 64, none⟩) (32) 32), (.slice t22a t22n t22c)] w33 fun e23 w34 => ∃ t23, e23 = .returned (.agg t23) ∧ (∃ w35, StQ 39 g9 0 (.agg t23) w34 w35 ∧ (0 ≤ (12 : Int) ∧ (12 : Int) ≤ (32 : Int) ∧ (∃ t25, LdQ 41 g4 0 (.agg t25) w35 ∧ (Calls Tryz.prog 199 #[(.agg t25), (.slice (some ⟨g9, 0, none⟩) 12 32), (.slice a3a a3n a3c)] w35 fun e28 w36 => ∃ t28a t28n t28c, e28 = .returned (.slice t28a t28n t28c) ∧ (∃ t29, LdQ 41 g4 0 (.agg t29) w36 ∧ (Calls Tryz.prog 200 #[(.agg t29), (.int .u8 a1), (.slice a2a a2n a2c), (.slice (some ⟨g9, 0, none⟩) 12 32), (.slice t28a t28n t28c)] w36 fun e34 w37 => ∃ t34, e34 = .returned (.agg t34) ∧ (∃ g12 w38, AlQ 39 g12 w37 w38 ∧ (∃ w39, StQ 39 g12 0 (.agg t34) w38 w39 ∧ (∃ t38a t38n t38c w40, (Instr.makeSlice 26 (.int .i64 0) (.int .i64 (IntKind.wrap .i64 ((45 : Int) + (a3n : Int))))).run Tryz.prog w39 = .ok (.slice t38a t38n t38c) w40 ∧ (∃ t40a t40n t40c w41, (Instr.buildSlice 26 1 #[(0, (.int .u8 a1))]).run Tryz.prog w40 = .ok (.slice t40a t40n t40c) w41 ∧ (∃ t41a t41n t41c w42, (Builtin.append_ #[26, 26] 26 #[(.slice t38a t38n t38c), (.slice t40a t40n t40c)]).run Tryz.prog w41 = .ok (.slice t41a t41n t41c) w42 ∧ (∃ t44a t44n t44c w43, (Builtin.append_ #[26, 26] 26 #[(.slice t41a t41n t41c), (.slice (some ⟨g9, 0, none⟩) 12 32)]).run Tryz.prog w42 = .ok (.slice t44a t44n t44c) w43 ∧ (∃ t47a t47n t47c w44, (Builtin.append_ #[26, 26] 26 #[(.slice t44a t44n t44c), (.slice t28a t28n t28c)]).run Tryz.prog w43 = .ok (.slice t47a t47n t47c) w44 ∧ (0 ≤ (32 : Int) ∧ (32 : Int) ≤ (32 : Int) ∧ (∃ t50a t50n t50c w45, (Builtin.append_ #[26, 26] 26 #[(.slice t47a t47n t47c), (.slice (some ⟨g12, 0, none⟩) (32) 32)]).run Tryz.prog w44 = .ok (.slice t50a t50n t50c) w45 ∧ (R (.returned (.slice t50a t50n t50c)) w45))))))))))))))))))))) ∧ (∃ g9 w46, AlQ 39 g9 w3 w46 ∧ (Calls Tryz.prog 100 #[(.slice t20a t20n t20c)] w46 fun e21 w47 => ∃ t21a t21n t21c, e21 = .returned (.slice t21a t21n t21c) ∧ (∃ t22a t22n t22c w48, (Instr.buildSlice 24 1 #[(0, (.slice t21a t21n t21c))]).run Tryz.prog w47 = .ok (.slice t22a t22n t22c) w48 ∧ (Calls Tryz.prog 198 #[(.slice (some ⟨g4, 64, none⟩) (32) 32), (.slice t22a t22n t22c)] w48 fun e23 w49 => ∃ t23, e23 = .returned (.agg t23) ∧ (∃ w50, StQ 39 g9 0 (.agg t23) w49 w50 ∧ (0 ≤ (12 : Int) ∧ (12 : Int) ≤ (32 : Int) ∧ (∃ t25, LdQ 41 g4 0 (.agg t25) w50 ∧ (Calls Tryz.prog 199 #[(.agg t25), (.slice (some ⟨g9, 0, none⟩) 12 32), (.slice a3a a3n a3c)] w50 fun e28 w51 => ∃ t28a t28n t28c, e28 = .returned (.slice t28a t28n t28c) ∧ (∃ t29, LdQ 41 g4 0 (.agg t29) w51 ∧ (Calls Tryz.prog 200 #[(.agg t29), (.int .u8 a1), (.slice a2a a2n a2c), (.slice (some ⟨g9, 0, none⟩) 12 32), (.slice t28a t28n t28c)] w51 fun e34 w52 => ∃ t34, e34 = .returned (.agg t34) ∧ (∃ g12 w53, AlQ 39 g12 w52 w53 ∧ (∃ w54, StQ 39 g12 0 (.agg t34) w53 w54 ∧ (∃ t38a t38n t38c w55, (Instr.makeSlice 26 (.int .i64 0) (.int .i64 (IntKind.wrap .i64 ((45 : Int) + (a3n : Int))))).run Tryz.prog w54 = .ok (.slice t38a t38n t38c) w55 ∧ (∃ t40a t40n t40c w56, (Instr.buildSlice 26 1 #[(0, (.int .u8 a1))]).run Tryz.prog w55 = .ok (.slice t40a t40n t40c) w56 ∧ (∃ t41a t41n t41c w57, (Builtin.append_ #[26, 26] 26 #[(.slice t38a t38n t38c), (.slice t40a t40n t40c)]).run Tryz.prog w56 = .ok (.slice t41a t41n t41c) w57 ∧ (∃ t44a t44n t44c w58, (Builtin.append_ #[26, 26] 26 #[(.slice t41a t41n t41c), (.slice (some ⟨g9, 0, none⟩) 12 32)]).run Tryz.prog w57 = .ok (.slice t44a t44n t44c) w58 ∧ (∃ t47a t47n t47c w59, (Builtin.append_ #[26, 26] 26 #[(.slice t44a t44n t44c), (.slice t28a t28n t28c)]).run Tryz.prog w58 = .ok (.slice t47a t47n t47c) w59 ∧ (0 ≤ (32 : Int) ∧ (32 : Int) ≤ (32 : Int) ∧ (∃ t50a t50n t50c w60, (Builtin.append_ #[26, 26] 26 #[(.slice t47a t47n t47c), (.slice (some ⟨g12, 0, none⟩) (32) 32)]).run Tryz.prog w59 = .ok (.slice t50a t50n t50c) w60 ∧ (R (.returned (.slice t50a t50n t50c)) w60)))))))))))))))))))))) ∧ (∃ g9 w61, AlQ 39 g9 w2 w61 ∧ (∃ t20a t20n t20c w62, (Instr.buildSlice 24 3 #[(0, (.slice t17a t17n t17c)), (1, (.slice a2a a2n a2c)), (2, (.slice a3a a3n a3c))]).run Tryz.prog w61 = .ok (.slice t20a t20n t20c) w62 ∧ (Calls Tryz.prog 100 #[(.slice t20a t20n t20c)] w62 fun e21 w63 => ∃ t21a t21n t21c, e21 = .returned (.slice t21a t21n t21c) ∧ (∃ t22a t22n t22c w64, (Instr.buildSlice 24 1 #[(0, (.slice t21a t21n t21c))]).run Tryz.prog w63 = .ok (.slice t22a t22n t22c) w64 ∧ (Calls Tryz.prog 198 #[(.slice (some ⟨g4, 64, none⟩) (32) 32), (.slice t22a t22n t22c)] w64 fun e23 w65 => ∃ t23, e23 = .returned (.agg t23) ∧ (∃ w66, StQ 39 g9 0 (.agg t23) w65 w66 ∧ (0 ≤ (12 : Int) ∧ (12 : Int) ≤ (32 : Int) ∧ (∃ t25, LdQ 41 g4 0 (.agg t25) w66 ∧ (Calls Tryz.prog 199 #[(.agg t25), (.slice (some ⟨g9, 0, none⟩) 12 32), (.slice a3a a3n a3c)] w66 fun e28 w67 => ∃ t28a t28n t28c, e28 = .returned (.slice t28a t28n t28c) ∧ (∃ t29, LdQ 41 g4 0 (.agg t29) w67 ∧ (Calls Tryz.prog 200 #[(.agg t29), (.int .u8 a1), (.slice a2a a2n a2c), (.slice (some ⟨g9, 0, none⟩) 12 32), (.slice t28a t28n t28c)] w67 fun e34 w68 => ∃ t34, e34 = .returned (.agg t34) ∧ (∃ g12 w69, AlQ 39 g12 w68 w69 ∧ (∃ w70, StQ 39 g12 0 (.agg t34) w69 w70 ∧ (∃ t38a t38n t38c w71, (Instr.makeSlice 26 (.int .i64 0) (.int .i64 (IntKind.wrap .i64 ((45 : Int) + (a3n : Int))))).run Tryz.prog w70 = .ok (.slice t38a t38n t38c) w71 ∧ (∃ t40a t40n t40c w72, (Instr.buildSlice 26 1 #[(0, (.int .u8 a1))]).run Tryz.prog w71 = .ok (.slice t40a t40n t40c) w72 ∧ (∃ t41a t41n t41c w73, (Builtin.append_ #[26, 26] 26 #[(.slice t38a t38n t38c), (.slice t40a t40n t40c)]).run Tryz.prog w72 = .ok (.slice t41a t41n t41c) w73 ∧ (∃ t44a t44n t44c w74, (Builtin.append_ #[26, 26] 26 #[(.slice t41a t41n t41c), (.slice (some ⟨g9, 0, none⟩) 12 32)]).run Tryz.prog w73 = .ok (.slice t44a t44n t44c) w74 ∧ (∃ t47a t47n t47c w75, (Builtin.append_ #[26, 26] 26 #[(.slice t44a t44n t44c), (.slice t28a t28n t28c)]).run Tryz.prog w74 = .ok (.slice t47a t47n t47c) w75 ∧ (0 ≤ (32 : Int) ∧ (32 : Int) ≤ (32 : Int) ∧ (∃ t50a t50n t50c w76, (Builtin.append_ #[26, 26] 26 #[(.slice t47a t47n t47c), (.slice (some ⟨g12, 0, none⟩) (32) 32)]).run Tryz.prog w75 = .ok (.slice t50a t50n t50c) w76 ∧ (R (.returned (.slice t50a t50n t50c)) w76))))))))))))))))))))))) ∧ (∃ g9 w77, AlQ 39 g9 w1.drew w77 ∧ (∃ t17a t17n t17c w78, (Instr.buildSlice 26 1 #[(0, (.int .u8 a1))]).run Tryz.prog w77 = .ok (.slice t17a t17n t17c) w78 ∧ (∃ t20a t20n t20c w79, (Instr.buildSlice 24 3 #[(0, (.slice t17a t17n t17c)), (1, (.slice a2a a2n a2c)), (2, (.slice a3a a3n a3c))]).run Tryz.prog w78 = .ok (.slice t20a t20n t20c) w79 ∧ (Calls Tryz.prog 100 #[(.slice t20a t20n t20c)] w79 fun e21 w80 => ∃ t21a t21n t21c, e21 = .returned (.slice t21a t21n t21c) ∧ (∃ t22a t22n t22c w81, (Instr.buildSlice 24 1 #[(0, (.slice t21a t21n t21c))]).run Tryz.prog w80 = .ok (.slice t22a t22n t22c) w81 ∧ (Calls Tryz.prog 198 #[(.slice (some ⟨g4, 64, none⟩) (32) 32), (.slice t22a t22n t22c)] w81 fun e23 w82 => ∃ t23, e23 = .returned (.agg t23) ∧ (∃ w83, StQ 39 g9 0 (.agg t23) w82 w83 ∧ (0 ≤ (12 : Int) ∧ (12 : Int) ≤ (32 : Int) ∧ (∃ t25, LdQ 41 g4 0 (.agg t25) w83 ∧ (Calls Tryz.prog 199 #[(.agg t25), (.slice (some ⟨g9, 0, none⟩) 12 32), (.slice a3a a3n a3c)] w83 fun e28 w84 => ∃ t28a t28n t28c, e28 = .returned (.slice t28a t28n t28c) ∧ (∃ t29, LdQ 41 g4 0 (.agg t29) w84 ∧ (Calls Tryz.prog 200 #[(.agg t29), (.int .u8 a1), (.slice a2a a2n a2c), (.slice (some ⟨g9, 0, none⟩) 12 32), (.slice t28a t28n t28c)] w84 fun e34 w85 => ∃ t34, e34 = .returned (.agg t34) ∧ (∃ g12 w86, AlQ 39 g12 w85 w86 ∧ (∃ w87, StQ 39 g12 0 (.agg t34) w86 w87 ∧ (∃ t38a t38n t38c w88, (Instr.makeSlice 26 (.int .i64 0) (.int .i64 (IntKind.wrap .i64 ((45 : Int) + (a3n : Int))))).run Tryz.prog w87 = .ok (.slice t38a t38n t38c) w88 ∧ (∃ t40a t40n t40c w89, (Instr.buildSlice 26 1 #[(0, (.int .u8 a1))]).run Tryz.prog w88 = .ok (.slice t40a t40n t40c) w89 ∧ (∃ t41a t41n t41c w90, (Builtin.append_ #[26, 26] 26 #[(.slice t38a t38n t38c), (.slice t40a t40n t40c)]).run Tryz.prog w89 = .ok (.slice t41a t41n t41c) w90 ∧ (∃ t44a t44n t44c w91, (Builtin.append_ #[26, 26] 26 #[(.slice t41a t41n t41c), (.slice (some ⟨g9, 0, none⟩) 12 32)]).run Tryz.prog w90 = .ok (.slice t44a t44n t44c) w91 ∧ (∃ t47a t47n t47c w92, (Builtin.append_ #[26, 26] 26 #[(.slice t44a t44n t44c), (.slice t28a t28n t28c)]).run Tryz.prog w91 = .ok (.slice t47a t47n t47c) w92 ∧ (0 ≤ (32 : Int) ∧ (32 : Int) ≤ (32 : Int) ∧ (∃ t50a t50n t50c w93, (Builtin.append_ #[26, 26] 26 #[(.slice t47a t47n t47c), (.slice (some ⟨g12, 0, none⟩) (32) 32)]).run Tryz.prog w92 = .ok (.slice t50a t50n t50c) w93 ∧ (R (.returned (.slice t50a t50n t50c)) w93))))))))))))))))))))))))) : Calls Tryz.prog 101 #[(.agg a0), (.int .u8 a1), (.slice a2a a2n a2c), (.slice a3a a3n a3c)] w R := calls_of_ev2 (tc := .sq [.reg (.op .bx (.op .p .nil)), .draw (.tk 0 .p (.tk 1 .sl (.tks [2, 4, 5] (.two 3 (.r .slice) (.two 6 (.r .slice) (.two 7 (.cl [.slice]) (.two 8 (.r .slice) (.two 9 (.cl [.agg]) (.go 10 .bx (.go 11 .u .nil)) 10 .bx (.go 9 (.cl [.agg]) (.go 11 .u .nil))) 10 .bx (.go 8 (.r .slice) (.go 9 (.cl [.agg]) (.go 11 .u .nil)))) 10 .bx (.go 7 (.cl [.slice]) (.go 8 (.r .slice) (.go 9 (.cl [.agg]) (.go 11 .u .nil))))) 10 .bx (.go 6 (.r .slice) (.go 7 (.cl [.slice]) (.go 8 (.r .slice) (.go 9 (.cl [.agg]) (.go 11 .u .nil)))))) 10 .bx (.go 3 (.r .slice) (.go 6 (.r .slice) (.go 7 (.cl [.slice]) (.go 8 (.r .slice) (.go 9 (.cl [.agg]) (.go 11 .u .nil)))))))))) (lr [(0, 12)]), .reg (.op .sl (.op .p .nil)), .reg (.op (.ld .agg) (.pp 2 (.op (.cl [.slice]) (.op .p .nil)))), .reg (.op (.ld .agg) (.pp 4 (.op (.cl [.agg]) (.op .bx (.op .u .nil))))), .reg (.pp 3 (.op (.r .slice) (.op .p (.op (.r .slice) (.op (.r .slice) (.op .p .nil)))))), .reg (.pp 2 (.op (.r .slice) (.op .p .nil))), .reg (.pp 2 (.op (.r .slice) (.op .p .nil))), .reg (.op .p (.op .sl (.op (.r .slice) (.op .p .nil))))] .leaf) Tryz.func101 (by kernel_rfl) (by kernel_rfl) h

theorem seal_Open_vc (a0 : Array Value) (a1 : Int) (a2a : Option Addr) (a2n : Nat) (a2c : Nat) (a3a : Option Addr) (a3n : Nat) (a3c : Nat) (w : World) (R : Ending → World → Prop) (h : ∃ g4 w1, (Instr.box 41 (.agg a0)).run Tryz.prog w = .ok (.pointer (some ⟨g4, 0, none⟩)) w1 ∧ (∃ J : Bool → World → Prop, ((decide ((a3n : Int) < (45 : Int)) = true → (J true w1)) ∧ (decide ((a3n : Int) < (45 : Int)) = false → (∃ t19b t19o, a3a = some ⟨t19b, t19o, none⟩ ∧ 0 ≤ (0 : Int) ∧ (0 : Int) < (a3n : Int) ∧ (∃ t20, LdQ 5 t19b (t19o + Int.toNat (0 : Int) * 1) (.int .u8 t20) w1 ∧ (J (t20 != a1) w1))))) ∧ (∀ x23, ∀ w2, J x23 w2 → ((x23 = true → (R (.returned (.tuple #[(.slice none 0 0), (.iface 65 (.int .i64 10))])) w2)) ∧ (x23 = false → (0 ≤ (1 : Int) ∧ (1 : Int) ≤ (13 : Int) ∧ (13 : Int) ≤ (a3c : Int) ∧ ∀ t29a, SubA 1 a3a 1 a3c t29a → (0 ≤ (13 : Int) ∧ (13 : Int) ≤ (IntKind.wrap .i64 ((a3n : Int) - (32 : Int))) ∧ (IntKind.wrap .i64 ((a3n : Int) - (32 : Int))) ≤ (a3c : Int) ∧ ∀ t32a, SubA 1 a3a 13 a3c t32a → (∃ t33, LdQ 41 g4 0 (.agg t33) w2.drew ∧ (Calls Tryz.prog 200 #[(.agg t33), (.int .u8 a1), (.slice a2a a2n a2c), (.slice t29a 12 (a3c - 1)), (.slice t32a ((Int.toNat (IntKind.wrap .i64 ((a3n : Int) - (32 : Int)))) - 13) (a3c - 13))] w2.drew fun e38 w3 => ∃ t38, e38 = .returned (.agg t38) ∧ (∃ g13 w4, AlQ 39 g13 w3 w4 ∧ (∃ w5, StQ 39 g13 0 (.agg t38) w4 w5 ∧ (0 ≤ (32 : Int) ∧ (32 : Int) ≤ (32 : Int) ∧ (0 ≤ (IntKind.wrap .i64 ((a3n : Int) - (32 : Int))) ∧ (IntKind.wrap .i64 ((a3n : Int) - (32 : Int))) ≤ (a3n : Int) ∧ (a3n : Int) ≤ (a3c : Int) ∧ ∀ t42a, SubA 1 a3a (Int.toNat (IntKind.wrap .i64 ((a3n : Int) - (32 : Int)))) a3c t42a → (Calls Tryz.prog 207 #[(.slice (some ⟨g13, 0, none⟩) (32) 32), (.slice t42a ((a3n) - (Int.toNat (IntKind.wrap .i64 ((a3n : Int) - (32 : Int))))) (a3c - (Int.toNat (IntKind.wrap .i64 ((a3n : Int) - (32 : Int))))))] w5.drew fun e43 w6 => ∃ t43, e43 = .returned (.bool t43) ∧ (((!t43) = true → (R (.returned (.tuple #[(.slice none 0 0), (.iface 65 (.int .i64 10))])) w6)) ∧ ((!t43) = false → (∃ t46, LdQ 41 g4 0 (.agg t46) w6 ∧ (Calls Tryz.prog 199 #[(.agg t46), (.slice t29a 12 (a3c - 1)), (.slice t32a ((Int.toNat (IntKind.wrap .i64 ((a3n : Int) - (32 : Int)))) - 13) (a3c - 13))] w6 fun e49 w7 => ∃ t49a t49n t49c, e49 = .returned (.slice t49a t49n t49c) ∧ (R (.returned (.tuple #[(.slice t49a t49n t49c), .nilIface])) w7))))))))))))))))))) : Calls Tryz.prog 111 #[(.agg a0), (.int .u8 a1), (.slice a2a a2n a2c), (.slice a3a a3n a3c)] w R := calls_of_ev2 (tc := .sq [.reg (.op .bx (.pp 2 .nil)), .seq (.join (lr [(14, 10)]) [23] [.bool] (.reg (.pp 4 (.sp 17 (.pp 6 .nil) (.op .p (.op .ix (.op (.ld (.int .u8)) (.pp 3 .nil)))))))) (.cond (.seq (.rg 3) .leaf) .leaf), .rg 4, .draw (.tk 0 .p (.tk 1 .sl (.tks [2, 3] (.tk 4 .sl (.tks [5, 6] .nil))))) (lr [(0, 7)]), .reg (.op (.ld .agg) (.pp 4 (.op (.cl [.agg]) (.op .bx (.op .u .nil))))), .seq (.draw (.tk 0 .sl (.tks [1, 2] (.tk 3 .sl (.go 4 (.cl [.bool]) (.tk 5 .p .nil))))) (lr [(0, 6)])) (.cond (.seq (.rg 3) .leaf) .leaf), .reg (.op (.ld .agg) (.pp 2 (.op (.cl [.slice]) (.pp 2 .nil))))] .leaf) Tryz.func111 (by kernel_rfl) (by kernel_rfl) h

end Go.Proofs.YtpmhjnhgpplmnaaGreatDoor
end

section
namespace Go.Proofs.YtpmhjnhgpplmnaaGreatDoor
open Go Sx
set_option maxRecDepth 8000

theorem Sx.St.zeroAC {w0 w : World} {X : List Nat} {M : List Res} (h : St w0 X w M) {T : TypeId} {z : List Value} (hz : ∀ w, (zeroValue T).run Tryz.prog w = .ok (.agg z.toArray) w) :
   ∃ g w', (Instr.alloc T true (.tuple #[])).run Tryz.prog w = .ok (.pointer (some ⟨g, 0, none⟩)) w' ∧ St w0 X w' (M ++ [.arr g T z]) ∧ Chg [] w w' := by
 obtain ⟨g, w1, r, h1⟩ := h.zeroA hz
 obtain ⟨g', w1', r', h1'⟩ := (St.start w).zeroA hz
 have e := r.symm.trans r'
 simp only [Result.ok.injEq] at e
 obtain ⟨_, rfl⟩ := e
 exact ⟨g, w1, r, h1, h1'.chg⟩

theorem litC {t e by_ : Nat} {z : Value} (E : ElemT Tryz.prog t e 1 by_ z) (vs : List Value) (h1 : ∀ v ∈ vs, v.oneCell' = true) (hb : vs.length ≤ 16777216) (w : World) :
   ∃ g w', (Instr.buildSlice t vs.length ((vs.zipIdx 0).map fun p => (p.2, p.1)).toArray).run Tryz.prog w = .ok (.slice (some ⟨g, 0, none⟩) vs.length vs.length) w' ∧ Chg [] w w' ∧ Rd w' (some ⟨g, 0, none⟩) vs.length vs.length 1 vs ∧ w.heap.size ≤ g ∧ g < w'.heap.size := by
 obtain ⟨g, w', r, h⟩ := (St.start w).lit E vs h1 hb
 refine ⟨g, w', r, h.chg, h.rd (i := 0) rfl, ?_, Res.lt (h.holds 0 _ rfl) g (by simp [Res.fp, Value.ownBlock])⟩
 have h2 := h.own 0 _ rfl g (by simp [Res.fp, Value.ownBlock])
 simpa using h2

theorem litK (k : UInt8) (w : World) : ∃ g w', (Instr.buildSlice 26 1 #[(0, .int .u8 (k.toNat : Int))]).run Tryz.prog w = .ok (.slice (some ⟨g, 0, none⟩) 1 1) w' ∧ Chg [] w w' ∧ RdB w' (some ⟨g, 0, none⟩) 1 1 [k] := by
 obtain ⟨g, w', r, c, h, _⟩ := litC bT [.int .u8 (k.toNat : Int)] (by simp [Value.oneCell']) (by simp) w
 exact ⟨g, w', r, c, h⟩

theorem kyA (w : World) : (isAgg 41).run Tryz.prog w = .ok true w := Tryz.isAgg41 w
theorem kyS (w : World) : (sizeOf 41).run Tryz.prog w = .ok 96 w := Tryz.sizeOf41 w
theorem kyZ (w : World) : (zeroValue 41).run Tryz.prog w = .ok (.agg (bv (List.replicate 96 0)).toArray) w := Tryz.zeroValue41 w
theorem d12A (w : World) : (isAgg 287).run Tryz.prog w = .ok true w := Tryz.isAgg287 w
theorem d12S (w : World) : (sizeOf 287).run Tryz.prog w = .ok 12 w := Tryz.sizeOf287 w
theorem d12Z (w : World) : (zeroValue 287).run Tryz.prog w = .ok (.agg (bv (List.replicate 12 0)).toArray) w := Tryz.zeroValue287 w

theorem built_keys : Tryz.prog.built 41 = fun parts => Instr.fill (fun i => (#[(0, 32), (32, 32), (64, 32)] : Array (Nat × Nat))[i]?) (bv (List.replicate 96 0)).toArray parts := by kernel_rfl

theorem keys_build {a b c : List UInt8} (ha : a.length = 32) (hb : b.length = 32) (hc : c.length = 32) (w : World) : (Instr.build 41 #[(0, .agg (bv a).toArray), (1, .agg (bv b).toArray), (2, .agg (bv c).toArray)]).run Tryz.prog w = .ok (.agg (bv (a ++ b ++ c)).toArray) w := by
 apply run_build
 rw [built_keys]
 show Instr.fill _ _ [(0, .agg (bv a).toArray), (1, .agg (bv b).toArray), (2, .agg (bv c).toArray)] = _
 have z : ∀ n, (bv (List.replicate 96 0)).drop n = bv (List.replicate (96 - n) 0) := fun n => by rw [← bv_drop, List.drop_replicate]
 rw [fill_step (off := 0) (sz := 32) rfl (by simp [Value.cells, ha]) (by simp)]
 simp only [Value.cells, List.take_zero, List.nil_append, Nat.zero_add, z]
 rw [fill_step (off := 32) (sz := 32) rfl (by simp [Value.cells, hb]) (by simp [ha])]
 simp only [Value.cells]
 rw [List.take_left' (by simp [ha]), show 32 + 32 = (bv a).length + 32 by simp [ha], List.drop_append, List.drop_of_length_le (by omega), show (bv a).length + 32 - (bv a).length = 32 by omega, ← bv_drop, List.drop_replicate]
 rw [fill_step (off := 64) (sz := 32) rfl (by simp [Value.cells, hc]) (by simp [ha, hb])]
 simp only [Value.cells, List.nil_append]
 rw [List.take_left' (by simp [ha, hb]), List.drop_of_length_le (by simp [ha, hb])]
 simp [Instr.fill]

theorem litMark (l : List UInt8) (hb : l.length ≤ 16777216) (w : World) : ∃ g w1 w2, (Instr.buildSlice 26 l.length (((bv l).zipIdx 0).map fun p => (p.2, p.1)).toArray).run Tryz.prog w = .ok (.slice (some ⟨g, 0, none⟩) l.length l.length) w1 ∧
   (convert 26 26 (.slice (some ⟨g, 0, none⟩) l.length l.length)).run Tryz.prog w1 = .ok (.slice (some ⟨g, 0, none⟩) l.length l.length) w2 ∧ Chg [] w w2 ∧ RdB w2 (some ⟨g, 0, none⟩) l.length l.length l := by
 obtain ⟨g, w1, r1, c1, h1, hg, hg1⟩ := litC bT (bv l) (bv_one l) (by simpa using hb) w
 rw [bv_length] at r1 h1
 obtain ⟨w2, r2, c2, h2⟩ := sameSlice g _ _ l w1 h1 hg1
 exact ⟨g, w1, w2, r1, r2, c1.trans' c2 (fun i hi => .inl (by simp at hi; omega)), h2⟩

theorem over_spec' (K : List UInt8) (a1 : Option Addr) (c1 : Nat) (nonce : List UInt8) (a2 : Option Addr) (n2 c2 : Nat) (b : List UInt8) (w : World) (hk : K.length = 96) (hr1 : RdB w a1 12 c1 nonce) (hr2 : RdB w a2 n2 c2 b) (hb : n2 ≤ 1099511627776) :
   Calls Tryz.prog 199 #[.agg (bv K).toArray, .slice a1 12 c1, .slice a2 n2 c2] w fun e w' => ∃ a n c, e = .returned (.slice a n c) ∧ FreshB w w' a n c (overF K nonce b) := by
 have hl := hr1.lenB
 apply seal_over_vc
 obtain ⟨g1, w1, r1, h1⟩ := (St.start w).boxA 41 (bv K)
 obtain ⟨g2, w2, r2, h2⟩ := h1.zeroA d12Z
 obtain ⟨w3, r3, h3⟩ := h2.copyB (i := 1) (d := 12) rfl (by simp) (h2.rd1 hr1) (by omega)
 rw [List.drop_of_length_le (by simp), List.append_nil] at h3
 have hld := h3.ldPre (i := 0) (l := bv K) rfl (d32A _) (d32S _) (by simp [hk])
 rw [← bv_take] at hld
 refine ⟨g1, w1, r1, g2, w2, r2, by omega, by omega, _, w3, r3, _, hld, _, h3.ldA (i := 1) (l := bv nonce) rfl (d12A _) (d12S _) (by simp [hl]), (xor_spec (K.take 32) nonce 0 a2 n2 c2 b w3 (by simp [hk]) hl (by omega) (by omega) (h3.rd1 hr2) (by omega)).mono ?_⟩
 rintro e w4 ⟨a, n, c, rfl, hf⟩
 exact ⟨_, _, _, _, rfl, _, _, _, rfl, FreshB.after hf h3.chg⟩

theorem macK_rd {w0 w : World} {M : List Res} (h : St w0 [] w M) {i g T : Nat} {K : List UInt8} (hi : M[i]? = some (.arr g T (bv K))) (hk : K.length = 96) : RdB w (some ⟨g, 32, none⟩) 32 32 (macKy K) ∧ RdB w (some ⟨g, 64, none⟩) 32 32 (nameK K) :=
 ⟨h.rdPart hi (by omega), h.rdPart hi (by omega)⟩

theorem tag_spec (K : List UInt8) (k : UInt8) (a2 : Option Addr) (n2 c2 : Nat) (ctx : List UInt8) (a3 : Option Addr) (n3 c3 : Nat) (nonce : List UInt8) (a4 : Option Addr) (n4 c4 : Nat) (body : List UInt8) (w : World) (hk : K.length = 96) (hK : KTab w) (hr2 : RdB w a2 n2 c2 ctx) (hr3 : RdB w a3 n3 c3 nonce) (hr4 : RdB w a4 n4 c4 body) (hb : n2 + n3 + n4 ≤ 67108000) :
   Calls Tryz.prog 200 #[.agg (bv K).toArray, .int .u8 (k.toNat : Int), .slice a2 n2 c2, .slice a3 n3 c3, .slice a4 n4 c4] w fun e w' => e = .returned (.agg (bv (tagF K k ctx nonce body)).toArray) ∧ Chg [] w w' := by
 have e2 := hr2.lenB
 have e3 := hr3.lenB
 have e4 := hr4.lenB
 apply seal_tag_vc
 obtain ⟨g1, w1, r1, h1⟩ := (St.start w).boxA 41 (bv K)
 obtain ⟨g2, w2, r2, h2⟩ := h1.zeroA d32Z
 have h2d := h2.drew
 obtain ⟨g3, w3, r3, c3', q3⟩ := litK k w2.drew
 have h3 := h2d.same c3'
 obtain ⟨g4, w4, r4, c4', q4, _⟩ := litC bbT [.slice (some ⟨g3, 0, none⟩) 1 1, .slice a2 n2 c2, .slice a3 n3 c3, .slice a4 n4 c4] (by simp [Value.oneCell']) (by simp) w3
 have h4 := h3.same c4'
 have hrow : Row2 w4 [.slice (some ⟨g3, 0, none⟩) 1 1, .slice a2 n2 c2, .slice a3 n3 c3, .slice a4 n4 c4] [[k], ctx, nonce, body] :=
   (row2_three (h4.rd1 hr2) (h4.rd1 hr3) (h4.rd1 hr4)).cons (q3.keep0 c4')
 refine ⟨g1, w1, r1, g2, w2, r2, by omega, by omega, _, _, _, _, r3, _, _, _, _, r4, (pack_spec _ 4 4 _ [[k], ctx, nonce, body] w4 q4 hrow (by simp; omega) (by simp)).mono ?_⟩
 rintro e w5 ⟨a5, n5, c5, rfl, hf5⟩
 have h5 := h4.same hf5.1
 obtain ⟨g6, w6, r6, c6', q6, _⟩ := litC bbT [.slice a5 n5 c5] (by simp [Value.oneCell']) (by simp) w5
 have h6 := h5.same c6'
 have hpl : (packL [[k], ctx, nonce, body]).length ≤ 67109864 := by
   have := packL_len [[k], ctx, nonce, body] (by simp; omega)
   simp at this ⊢
   omega
 refine ⟨_, _, _, rfl, _, _, _, _, r6, (mac_spec _ 32 32 (macKy K) _ 1 1 _ [packL [[k], ctx, nonce, body]] w6 (hK.keep0 h6.chg) (macK_rd h6 (i := 0) rfl hk).1 (by omega) q6 (row2_one (hf5.rdB.keep0 c6')) (by rw [List.flatten_cons, List.flatten_nil, List.append_nil]; omega) (by decide)).mono ?_⟩
 rintro e w7 ⟨rfl, c7⟩
 have e1 : [packL [[k], ctx, nonce, body]].flatten = packL [[k], ctx, nonce, body] := by rw [List.flatten_cons, List.flatten_nil, List.append_nil]
 rw [e1]
 obtain ⟨w8, r8, h8⟩ := (h6.same c7).stA (i := 1) (v := bv (tagF K k ctx nonce body)) rfl (d32S _) (by simp) (by simp) (bv_one _)
 exact ⟨_, rfl, w8, r8, _, h8.ldVarA (i := 1) (l := bv (tagF K k ctx nonce body)) rfl (d32A _) (d32S _) (by simp), rfl, h8.chg⟩

end Go.Proofs.YtpmhjnhgpplmnaaGreatDoor
end

section
namespace Go.Proofs.YtpmhjnhgpplmnaaGreatDoor
open Go Sx
set_option maxRecDepth 8000

def sealTail (a1 : Int) (a2a : Option Addr) (a2n a2c : Nat) (a3a : Option Addr) (a3n a3c : Nat) (g4 g9 : Nat) (t23 : Array Value) (R : Ending → World → Prop) (w7 : World) : Prop :=
 (∃ w8 : World, (Instr.storeAt 39 (.pointer (some ⟨g9, 0, none⟩)) (.agg t23)).run Tryz.prog w7 = .ok () w8 ∧
   (0 ≤ (12 : Int) ∧ (12 : Int) ≤ ((32 : Nat) : Int) ∧
   (∃ (t25 : Array Value), (Instr.loadAt 41 (.pointer (some ⟨g4, 0, none⟩))).run Tryz.prog w8 = .ok (.agg t25) w8 ∧
   (Calls Tryz.prog 199 #[(.agg t25), (.slice (some ⟨g9, 0, none⟩) 12 32), (.slice a3a a3n a3c)] w8 fun (e28 : Ending) (w9 : World) => ∃ (t28a : Option Addr) (t28n : Nat) (t28c : Nat), e28 = .returned (.slice t28a t28n t28c) ∧
   (∃ (t29 : Array Value), (Instr.loadAt 41 (.pointer (some ⟨g4, 0, none⟩))).run Tryz.prog w9 = .ok (.agg t29) w9 ∧
   (Calls Tryz.prog 200 #[(.agg t29), (.int .u8 a1), (.slice a2a a2n a2c), (.slice (some ⟨g9, 0, none⟩) 12 32), (.slice t28a t28n t28c)] w9 fun (e34 : Ending) (w10 : World) => ∃ (t34 : Array Value), e34 = .returned (.agg t34) ∧
   (∃ (g12 : Nat) (w11 : World), (Instr.alloc 39 true (.tuple #[])).run Tryz.prog w10 = .ok (.pointer (some ⟨g12, 0, none⟩)) w11 ∧
   (∃ w12 : World, (Instr.storeAt 39 (.pointer (some ⟨g12, 0, none⟩)) (.agg t34)).run Tryz.prog w11 = .ok () w12 ∧
   (∃ (t38a : Option Addr) (t38n : Nat) (t38c : Nat) (w13 : World), (Instr.makeSlice 26 (.int .i64 0) (.int .i64 (IntKind.wrap .i64 ((45 : Int) + ((a3n : Nat) : Int))))).run Tryz.prog w12 = .ok (.slice t38a t38n t38c) w13 ∧
   (∃ (t40a : Option Addr) (t40n : Nat) (t40c : Nat) (w14 : World), (Instr.buildSlice 26 1 #[(0, (.int .u8 a1))]).run Tryz.prog w13 = .ok (.slice t40a t40n t40c) w14 ∧
   (∃ (t41a : Option Addr) (t41n : Nat) (t41c : Nat) (w15 : World), (Builtin.append_ #[26, 26] 26 #[(.slice t38a t38n t38c), (.slice t40a t40n t40c)]).run Tryz.prog w14 = .ok (.slice t41a t41n t41c) w15 ∧
   (∃ (t44a : Option Addr) (t44n : Nat) (t44c : Nat) (w16 : World), (Builtin.append_ #[26, 26] 26 #[(.slice t41a t41n t41c), (.slice (some ⟨g9, 0, none⟩) 12 32)]).run Tryz.prog w15 = .ok (.slice t44a t44n t44c) w16 ∧
   (∃ (t47a : Option Addr) (t47n : Nat) (t47c : Nat) (w17 : World), (Builtin.append_ #[26, 26] 26 #[(.slice t44a t44n t44c), (.slice t28a t28n t28c)]).run Tryz.prog w16 = .ok (.slice t47a t47n t47c) w17 ∧
   (0 ≤ ((32 : Nat) : Int) ∧ ((32 : Nat) : Int) ≤ ((32 : Nat) : Int) ∧
   (∃ (t50a : Option Addr) (t50n : Nat) (t50c : Nat) (w18 : World), (Builtin.append_ #[26, 26] 26 #[(.slice t47a t47n t47c), (.slice (some ⟨g12, 0, none⟩) (32) 32)]).run Tryz.prog w17 = .ok (.slice t50a t50n t50c) w18 ∧
   (R (.returned (.slice t50a t50n t50c)) w18))))))))))))))))

theorem overF_len (K nonce b : List UInt8) : (overF K nonce b).length ≤ b.length := by
 rw [overF, xorR]; split <;> simp

theorem sealTail_of (K : List UInt8) (k : UInt8) (a2 : Option Addr) (n2 c2 : Nat) (ctx : List UInt8) (a3 : Option Addr) (n3 c3 : Nat) (plain d : List UInt8) (g4 g9 : Nat) (w w7 : World) (z : List UInt8) (R : Ending → World → Prop)
   (hk : K.length = 96) (hK : KTab w) (hr2 : RdB w a2 n2 c2 ctx) (hr3 : RdB w a3 n3 c3 plain) (hb : n2 + n3 ≤ 67100000) (hd : d.length = 32) (hz : z.length = 32) (h7 : St w [] w7 [.arr g4 41 (bv K), .arr g9 39 (bv z)])
   (hR : ∀ a n c w', FreshB w w' a n c ([k] ++ d.take 12 ++ overF K (d.take 12) plain ++ tagF K k ctx (d.take 12) (overF K (d.take 12) plain)) → R (.returned (.slice a n c)) w') :
   sealTail (k.toNat : Int) a2 n2 c2 a3 n3 c3 g4 g9 (bv d).toArray R w7 := by
 have e2 := hr2.lenB
 have e3 := hr3.lenB
 have hv := overF_len K (d.take 12) plain
 obtain ⟨body, hbody⟩ : ∃ b, overF K (d.take 12) plain = b := ⟨_, rfl⟩
 rw [hbody] at hR hv
 obtain ⟨w8, r8, h8⟩ := h7.stA (i := 1) (v := bv d) rfl (d32S _) (by simp [hz]) (by simp [hd]) (bv_one _)
 have hn : ∀ w', Chg [] w8 w' → RdB w' (some ⟨g9, 0, none⟩) 12 32 (d.take 12) := fun w' hc => rdB_upto (l := d) ((h8.same hc).rdA (i := 1) rfl (by simp [hd])) (by omega)
 have hl4 : ∀ w', Chg [] w8 w' → (Instr.loadAt 41 (.pointer (some ⟨g4, 0, none⟩))).run Tryz.prog w' = .ok (.agg (bv K).toArray) w' := fun w' hc => (h8.same hc).ldA (i := 0) (l := bv K) rfl (kyA _) (kyS _) (by simp [hk])
 have hzr := Chg.refl [] w8
 refine ⟨w8, r8, by omega, by omega, _, hl4 _ hzr, (over_spec' K _ 32 (d.take 12) a3 n3 c3 plain w8 hk (hn _ hzr) (h8.rd1 hr3) (by omega)).mono ?_⟩
 rintro e w9 ⟨a9, n9, c9, rfl, hf9⟩
 rw [hbody] at hf9
 have e9 := hf9.2.1
 refine ⟨_, _, _, rfl, _, hl4 _ hf9.1, (tag_spec K k a2 n2 c2 ctx _ 12 32 (d.take 12) a9 n9 c9 body w9 hk (hK.keep0 (h8.chg.trans hf9.1)) ((h8.same hf9.1).rd1 hr2) (hn _ hf9.1) hf9.rdB (by omega)).mono ?_⟩
 rintro e w10 ⟨rfl, hc10⟩
 obtain ⟨tg, htg⟩ : ∃ t, tagF K k ctx (d.take 12) body = t := ⟨_, rfl⟩
 have htl : tg.length = 32 := by rw [← htg]; simp
 rw [htg] at hR ⊢
 have h10 : St w [] w10 [.arr g4 41 (bv K), .arr g9 39 (bv d), .row 5 1 (.slice a9 n9 c9) n9 (bv body)] := (hf9.add h8).same hc10
 obtain ⟨g11, w11, r11, h11⟩ := h10.zeroA d32Z
 obtain ⟨w12, r12, h12⟩ := h11.stA (i := 3) (v := bv tg) rfl (d32S _) (by simp) (by simp [htl]) (bv_one _)
 have hw : IntKind.wrap .i64 ((45 : Int) + (n3 : Int)) = ((45 + n3 : Nat) : Int) := by rw [wrap_i64 (by omega) (by omega)]; omega
 obtain ⟨g13, w13, r13, h13⟩ := h12.mk0n (kl := .i64) (kc := .i64) (c := 45 + n3) bT (by omega) (by omega)
 obtain ⟨g14, w14, r14, c14, q14⟩ := litK k w13
 have h14 : St w [] w14 [.arr g4 41 (bv K), .arr g9 39 (bv d), .row 5 1 (.slice a9 n9 c9) n9 (bv body), .arr g11 39 (bv tg), .row 5 1 (.slice (some ⟨g13, 0, none⟩) 0 (45 + n3)) 0 (bv [])] := h13.same c14
 obtain ⟨va, vc, w15, r15, h15⟩ := h14.appendB (i := 4) (xs := []) rfl q14 (by omega)
 have h15' : St w [] w15 [.arr g4 41 (bv K), .arr g9 39 (bv d), .row 5 1 (.slice a9 n9 c9) n9 (bv body), .arr g11 39 (bv tg), .row 5 1 (.slice va 1 vc) 1 (bv [k])] := h15
 obtain ⟨vb, vd, w16, r16, h16⟩ := h15'.appendB (i := 4) rfl (rdB_upto (l := d) (n := 32) (c := 32) (k := 12) (h15'.rdA (i := 1) (n := 32) rfl (by simp [hd])) (by omega)) (by omega)
 have h16' : St w [] w16 [.arr g4 41 (bv K), .arr g9 39 (bv d), .row 5 1 (.slice a9 n9 c9) n9 (bv body), .arr g11 39 (bv tg), .row 5 1 (.slice vb (1 + 12) vd) (1 + 12) (bv ([k] ++ d.take 12))] := h16
 obtain ⟨ve, vf, w17, r17, h17⟩ := h16'.appendB (i := 4) rfl (h16'.rd (i := 2) (xs := bv body) rfl) (by omega)
 have h17' : St w [] w17 [.arr g4 41 (bv K), .arr g9 39 (bv d), .row 5 1 (.slice a9 n9 c9) n9 (bv body), .arr g11 39 (bv tg), .row 5 1 (.slice ve (1 + 12 + n9) vf) (1 + 12 + n9) (bv ([k] ++ d.take 12 ++ body))] := h17
 obtain ⟨vg, vh, w18, r18, h18⟩ := h17'.appendB (i := 4) (m := 32) (l := tg) rfl (h17'.rdA (i := 3) rfl (by simp [htl])) (by omega)
 rw [hw]
 exact ⟨_, rfl, g11, w11, r11, w12, r12, _, _, _, w13, r13, _, _, _, w14, r14, _, _, _, w15, r15, _, _, _, w16, r16, _, _, _, w17, r17, by omega, by omega, _, _, _, w18, r18, hR _ _ _ _ (h18.freshB (i := 4) rfl)⟩

theorem seal_spec (K : List UInt8) (k : UInt8) (a2 : Option Addr) (n2 c2 : Nat) (ctx : List UInt8) (a3 : Option Addr) (n3 c3 : Nat) (plain : List UInt8) (w : World)
   (hk : K.length = 96) (hK : KTab w) (hr2 : RdB w a2 n2 c2 ctx) (hr3 : RdB w a3 n3 c3 plain) (hb : n2 + n3 ≤ 67100000) :
   Calls Tryz.prog 101 #[.agg (bv K).toArray, .int .u8 (k.toNat : Int), .slice a2 n2 c2, .slice a3 n3 c3] w fun e w' => ∃ a n c, e = .returned (.slice a n c) ∧ FreshB w w' a n c (sealF K k ctx plain) := by
 have e2 := hr2.lenB
 have e3 := hr3.lenB
 apply seal_Seal_vc
 obtain ⟨g1, w1, r1, h1⟩ := (St.start w).boxA 41 (bv K)
 have hd := Chg.drew [] w1
 have P20 : ∀ w' g, Chg [] w1 w' → RdB w' (some ⟨g, 0, none⟩) 1 1 [k] → ∃ g2 w'', (Instr.buildSlice 24 3 #[(0, .slice (some ⟨g, 0, none⟩) 1 1), (1, .slice a2 n2 c2), (2, .slice a3 n3 c3)]).run Tryz.prog w' = .ok (.slice (some ⟨g2, 0, none⟩) 3 3) w'' ∧ Chg [] w' w'' ∧
     Rd w'' (some ⟨g2, 0, none⟩) 3 3 1 [.slice (some ⟨g, 0, none⟩) 1 1, .slice a2 n2 c2, .slice a3 n3 c3] ∧ Row2 w'' [.slice (some ⟨g, 0, none⟩) 1 1, .slice a2 n2 c2, .slice a3 n3 c3] [[k], ctx, plain] := fun w' g hc hr => by
   obtain ⟨g2, w2, r2, c2', q2, _⟩ := litC bbT [.slice (some ⟨g, 0, none⟩) 1 1, .slice a2 n2 c2, .slice a3 n3 c3] (by simp [Value.oneCell']) (by simp) w'
   have hcc := h1.chg.trans (hc.trans c2')
   exact ⟨g2, w2, r2, c2', q2, row2_three (hr.keep0 c2') (hr2.keep0 hcc) (hr3.keep0 hcc)⟩
 obtain ⟨P, hP⟩ : ∃ P, packL [[k], ctx, plain] = P := ⟨_, rfl⟩
 have hpl : P.length ≤ 67109864 := by
   have := packL_len [[k], ctx, plain] (by simp; omega)
   rw [hP] at this
   simp at this
   omega
 have Ppk : ∀ w' g2 vs, Rd w' (some ⟨g2, 0, none⟩) 3 3 1 vs → Row2 w' vs [[k], ctx, plain] → Calls Tryz.prog 100 #[.slice (some ⟨g2, 0, none⟩) 3 3] w' fun e w'' => ∃ a n c, e = .returned (.slice a n c) ∧ FreshB w' w'' a n c P := fun w' g2 vs q qr => by
   have := pack_spec _ 3 3 vs [[k], ctx, plain] w' q qr (by simp; omega) (by simp)
   rw [hP] at this; exact this
 have P22 : ∀ w' a n c, RdB w' a n c P → ∃ g2 w'', (Instr.buildSlice 24 1 #[(0, .slice a n c)]).run Tryz.prog w' = .ok (.slice (some ⟨g2, 0, none⟩) 1 1) w'' ∧ Chg [] w' w'' ∧ Rd w'' (some ⟨g2, 0, none⟩) 1 1 1 [.slice a n c] ∧ Row2 w'' [.slice a n c] [P] := fun w' a n c hr => by
   obtain ⟨g2, w2, r2, c2', q2, _⟩ := litC bbT [.slice a n c] (by simp [Value.oneCell']) (by simp) w'
   exact ⟨g2, w2, r2, c2', q2, row2_one (hr.keep0 c2')⟩
 have Pm : ∀ w' g2 vs, Chg [] w1 w' → Rd w' (some ⟨g2, 0, none⟩) 1 1 1 vs → Row2 w' vs [P] → Calls Tryz.prog 198 #[.slice (some ⟨g1, 64, none⟩) 32 32, .slice (some ⟨g2, 0, none⟩) 1 1] w' fun e w'' => e = .returned (.agg (bv (macF (nameK K) P)).toArray) ∧ Chg [] w' w'' := fun w' g2 vs hc q qr => by
   have e1 : [P].flatten = P := by rw [List.flatten_cons, List.flatten_nil, List.append_nil]
   have := mac_spec _ 32 32 (nameK K) _ 1 1 vs [P] w' (hK.keep0 (h1.chg.trans hc)) (macK_rd (h1.same hc) (i := 0) rfl hk).2 (by omega) q qr (by rw [e1]; omega) (by decide)
   rw [e1] at this; exact this
 have hR : ∀ a n c w', FreshB w w' a n c ([k] ++ (macF (nameK K) P).take 12 ++ overF K ((macF (nameK K) P).take 12) plain ++ tagF K k ctx ((macF (nameK K) P).take 12) (overF K ((macF (nameK K) P).take 12) plain)) → ∃ a' n' c', Ending.returned (.slice a n c) = .returned (.slice a' n' c') ∧ FreshB w w' a' n' c' (sealF K k ctx plain) := fun a n c w' hf => ⟨a, n, c, rfl, by rw [sealF, nonceF, hP]; exact hf⟩
 have tail : ∀ g9 w7, St w [] w7 [.arr g1 41 (bv K), .arr g9 39 (bv (List.replicate 32 0))] → sealTail (k.toNat : Int) a2 n2 c2 a3 n3 c3 g1 g9 (bv (macF (nameK K) P)).toArray (fun e w' => ∃ a n c, e = .returned (.slice a n c) ∧ FreshB w w' a n c (sealF K k ctx plain)) w7 := fun g9 w7 h7 =>
   sealTail_of K k a2 n2 c2 ctx a3 n3 c3 plain _ g1 g9 w w7 _ _ hk hK hr2 hr3 hb (macF_len _ _) (by simp) h7 hR
 obtain ⟨g3, w3, r3, c3', q3⟩ := litK k w1.drew
 have d3 := hd.trans c3'
 obtain ⟨g4, w4, r4, c4', q4, qr4⟩ := P20 w3 g3 d3 q3
 have d4 := d3.trans c4'
 refine ⟨g1, w1, r1, by omega, by omega, ⟨_, _, _, _, r3, ⟨_, _, _, _, r4, (Ppk w4 g4 _ q4 qr4).mono ?_, ?_⟩, ?_⟩, ?_⟩
 · rintro e w5 ⟨a5, n5, c5, rfl, hf5⟩
   have d5 := d4.trans hf5.1
   refine ⟨_, _, _, rfl, ?_, ?_⟩
   · obtain ⟨g6, w6, r6, c6', q6, qr6⟩ := P22 w5 _ _ _ hf5.rdB
     have d6 := d5.trans c6'
     refine ⟨_, _, _, _, r6, (Pm w6 g6 _ d6 q6 qr6).mono ?_, ?_⟩
     · rintro e w7 ⟨rfl, c7⟩
       obtain ⟨g9, w9, r9, h9⟩ := (h1.same (d6.trans c7)).zeroA d32Z
       exact ⟨_, rfl, g9, w9, r9, tail g9 w9 h9⟩
     · obtain ⟨g9, w9, r9, h9, c9⟩ := (h1.same d6).zeroAC d32Z
       refine ⟨g9, w9, r9, (Pm w9 g6 _ (d6.trans c9) (q6.keep0 c9) (qr6.keep0 c9)).mono ?_⟩
       rintro e w10 ⟨rfl, c10⟩
       exact ⟨_, rfl, tail g9 w10 (h9.same c10)⟩
   · obtain ⟨g9, w9, r9, h9, c9⟩ := (h1.same d5).zeroAC d32Z
     obtain ⟨g6, w6, r6, c6', q6, qr6⟩ := P22 w9 _ _ _ (hf5.rdB.keep0 c9)
     refine ⟨g9, w9, r9, _, _, _, _, r6, (Pm w6 g6 _ ((d5.trans c9).trans c6') q6 qr6).mono ?_⟩
     rintro e w10 ⟨rfl, c10⟩
     exact ⟨_, rfl, tail g9 w10 (h9.same (c6'.trans c10))⟩
 · obtain ⟨g9, w9, r9, h9, c9⟩ := (h1.same d4).zeroAC d32Z
   refine ⟨g9, w9, r9, (Ppk w9 g4 _ (q4.keep0 c9) (qr4.keep0 c9)).mono ?_⟩
   rintro e w5 ⟨a5, n5, c5, rfl, hf5⟩
   have d5 := (d4.trans c9).trans hf5.1
   obtain ⟨g6, w6, r6, c6', q6, qr6⟩ := P22 w5 _ _ _ hf5.rdB
   refine ⟨_, _, _, rfl, _, _, _, _, r6, (Pm w6 g6 _ (d5.trans c6') q6 qr6).mono ?_⟩
   rintro e w10 ⟨rfl, c10⟩
   exact ⟨_, rfl, tail g9 w10 (h9.same (hf5.1.trans (c6'.trans c10)))⟩
 · obtain ⟨g9, w9, r9, h9, c9⟩ := (h1.same d3).zeroAC d32Z
   obtain ⟨g4, w4, r4, c4', q4, qr4⟩ := P20 w9 g3 (d3.trans c9) (q3.keep0 c9)
   refine ⟨g9, w9, r9, _, _, _, _, r4, (Ppk w4 g4 _ q4 qr4).mono ?_⟩
   rintro e w5 ⟨a5, n5, c5, rfl, hf5⟩
   have d5 := ((d3.trans c9).trans c4').trans hf5.1
   obtain ⟨g6, w6, r6, c6', q6, qr6⟩ := P22 w5 _ _ _ hf5.rdB
   refine ⟨_, _, _, rfl, _, _, _, _, r6, (Pm w6 g6 _ (d5.trans c6') q6 qr6).mono ?_⟩
   rintro e w10 ⟨rfl, c10⟩
   exact ⟨_, rfl, tail g9 w10 (h9.same ((c4'.trans hf5.1).trans (c6'.trans c10)))⟩
 · obtain ⟨g9, w9, r9, h9, c9⟩ := (h1.same hd).zeroAC d32Z
   obtain ⟨g3, w3, r3, c3', q3⟩ := litK k w9
   have d3 := (hd.trans c9).trans c3'
   obtain ⟨g4, w4, r4, c4', q4, qr4⟩ := P20 w3 g3 d3 q3
   refine ⟨g9, w9, r9, _, _, _, _, r3, _, _, _, _, r4, (Ppk w4 g4 _ q4 qr4).mono ?_⟩
   rintro e w5 ⟨a5, n5, c5, rfl, hf5⟩
   have d5 := (d3.trans c4').trans hf5.1
   obtain ⟨g6, w6, r6, c6', q6, qr6⟩ := P22 w5 _ _ _ hf5.rdB
   refine ⟨_, _, _, rfl, _, _, _, _, r6, (Pm w6 g6 _ (d5.trans c6') q6 qr6).mono ?_⟩
   rintro e w10 ⟨rfl, c10⟩
   exact ⟨_, rfl, tail g9 w10 (h9.same ((c3'.trans (c4'.trans hf5.1)).trans (c6'.trans c10)))⟩

def openE (K : List UInt8) (kind : UInt8) (ctx b : List UInt8) : Option Int := if (openF K kind ctx b).isSome then none else some 10

theorem open_spec (K : List UInt8) (k : UInt8) (a2 : Option Addr) (n2 c2 : Nat) (ctx : List UInt8) (a3 : Option Addr) (n3 c3 : Nat) (b : List UInt8) (w : World)
   (hk : K.length = 96) (hK : KTab w) (hr2 : RdB w a2 n2 c2 ctx) (hr3 : RdB w a3 n3 c3 b) (hb : n2 + n3 ≤ 67100000) :
   Calls Tryz.prog 111 #[.agg (bv K).toArray, .int .u8 (k.toNat : Int), .slice a2 n2 c2, .slice a3 n3 c3] w fun e w' => ∃ a n c, e = .returned (.tuple #[.slice a n c, errV (openE K k ctx b)]) ∧ FreshB w w' a n c ((openF K k ctx b).getD []) := by
 have e2 := hr2.lenB
 have e3 := hr3.lenB
 have hle := hr3.le
 apply seal_Open_vc
 obtain ⟨g1, w1, r1, h1⟩ := (St.start w).boxA 41 (bv K)
 have bad : ∀ w', Chg [] w w' → openF K k ctx b = none → ∃ a n c, Ending.returned (.tuple #[.slice none 0 0, .iface 65 (.int .i64 10)]) = .returned (.tuple #[.slice a n c, errV (openE K k ctx b)]) ∧ FreshB w w' a n c ((openF K k ctx b).getD []) := fun w' hc hn => by
   refine ⟨none, 0, 0, ?_, ?_⟩
   · rw [openE, hn]; rfl
   · rw [hn]; exact ⟨hc, rfl, World.ownsRow_nil _ _ _ _⟩
 refine ⟨g1, w1, r1, fun x w' => x = decide (b.length < 45 ∨ b.getD 0 0 ≠ k) ∧ w' = w1, ⟨fun h => ?_, fun h => ?_⟩, ?_⟩
 · have : b.length < 45 := by simp at h; omega
   exact ⟨by simp [this], rfl⟩
 · have h45 : ¬ b.length < 45 := by simp at h; omega
   refine ixB (bA _) (h1.rd1 hr3).cells e3 (by omega) (by omega) fun bl o hbo => ⟨?_, rfl⟩
   have : (0 : Int).toNat = 0 := rfl
   rw [this]
   by_cases hx : b.getD 0 0 = k
   · rw [hx]; simp [h45]
   · have hx2 : ((b.getD 0 0).toNat : Int) ≠ (k.toNat : Int) := fun e => hx (by apply UInt8.toNat_inj.1; omega)
     rw [bne_iff_ne.2 hx2]
     exact (decide_eq_true (.inr hx)).symm
 rintro x w2 ⟨rfl, rfl⟩
 refine ⟨fun h => bad _ h1.chg ?_, fun h => ?_⟩
 · have h' : b.length < 45 ∨ b.getD 0 0 ≠ k := by simpa using h
   rw [openF, if_pos h']
 have h' : ¬ (b.length < 45 ∨ b.getD 0 0 ≠ k) := by simpa using h
 have hof : openF K k ctx b = if tagF K k ctx (bNonce b) (bBody b) = bTag b then some (overF K (bNonce b) (bBody b)) else none := by rw [openF, if_neg h']
 have h45 : 45 ≤ b.length := by
   rcases Nat.lt_or_ge b.length 45 with h | h
   · exact absurd (.inl h) h'
   · exact h
 clear h h'
 have hw : IntKind.wrap .i64 ((n3 : Int) - 32) = ((n3 - 32 : Nat) : Int) := by rw [wrap_i64 (by omega) (by omega)]; omega
 rw [hw]
 have hdw := Chg.drew [] w2
 have h1d := h1.same hdw
 refine ⟨by omega, by omega, by omega, fun t29 hs29 => ⟨by omega, by omega, by omega, fun t32 hs32 => ?_⟩⟩
 have q3 := h1d.rd1 hr3
 have qn : RdB w2.drew t29 12 (c3 - 1) (bNonce b) := by
   have := q3.sub hs29 (hh := 13) (by omega) (by omega) (by omega) (Nat.le_refl _)
   have e1 : ((bv b).drop (1 * 1)).take ((13 - 1) * 1) = bv (bNonce b) := by rw [bNonce, bv_take, bv_drop]
   rw [e1] at this
   exact this
 have qb : RdB w2.drew t32 (n3 - 32 - 13) (c3 - 13) (bBody b) := by
   have := q3.sub hs32 (hh := n3 - 32) (by omega) (by omega) (by omega) (Nat.le_refl _)
   have e1 : ((bv b).drop (13 * 1)).take ((n3 - 32 - 13) * 1) = bv (bBody b) := by rw [bBody, bv_take, bv_drop, e3]; congr 1; omega
   rw [e1] at this
   exact this
 have hl4 : ∀ w', Chg [] w2.drew w' → (Instr.loadAt 41 (.pointer (some ⟨g1, 0, none⟩))).run Tryz.prog w' = .ok (.agg (bv K).toArray) w' := fun w' hc => (h1d.same hc).ldA (i := 0) (l := bv K) rfl (kyA _) (kyS _) (by simp [hk])
 rw [Int.toNat_natCast]
 refine ⟨_, hl4 _ (Chg.refl _ _), (tag_spec K k a2 n2 c2 ctx t29 12 (c3 - 1) (bNonce b) t32 (n3 - 32 - 13) (c3 - 13) (bBody b) _ hk (hK.keep0 h1d.chg) (h1d.rd1 hr2) qn qb (by omega)).mono ?_⟩
 rintro e w3 ⟨rfl, c3'⟩
 obtain ⟨tg, htg⟩ : ∃ t, tagF K k ctx (bNonce b) (bBody b) = t := ⟨_, rfl⟩
 have htl : tg.length = 32 := by rw [← htg]; simp
 rw [htg] at hof ⊢
 obtain ⟨g4, w4, r4, h4⟩ := (St.start w2.drew |>.same c3').zeroA d32Z
 obtain ⟨w5, r5, h5⟩ := h4.stA (i := 0) (v := bv tg) rfl (d32S _) (by simp) (by simp [htl]) (bv_one _)
 have h5d := h5.drew
 refine ⟨_, rfl, g4, w4, r4, w5, r5, by omega, by omega, by omega, by omega, by omega, fun t42 hs42 => ?_⟩
 have qt : RdB w5.drew t42 (n3 - (n3 - 32)) (c3 - (n3 - 32)) (bTag b) := by
   have := (q3.keep0 h5d.chg).sub hs42 (hh := n3) (by omega) (Nat.le_refl _) (by omega) (Nat.le_refl _)
   have e1 : ((bv b).drop ((n3 - 32) * 1)).take ((n3 - (n3 - 32)) * 1) = bv (bTag b) := by
     rw [bTag, bv_drop, e3, List.take_of_length_le (by simp; omega)]; congr 1; omega
   rw [e1] at this
   exact this
 refine (equal_spec _ 32 32 tg t42 _ _ (bTag b) _ (h5d.rdA (i := 0) rfl (by simp [htl])) qt (by omega)).mono ?_
 rintro e w6 ⟨rfl, c6⟩
 have d6 := h5d.chg.trans c6
 refine ⟨_, rfl, fun h => bad _ (h1d.chg.trans d6) ?_, fun h => ?_⟩
 · have : ¬ tg = bTag b := by simpa using h
   rw [hof, if_neg this]
 · have ht : tg = bTag b := by simpa using h
   rw [if_pos ht] at hof
   refine ⟨_, hl4 _ d6, (over_spec' K t29 (c3 - 1) (bNonce b) t32 (n3 - 32 - 13) (c3 - 13) (bBody b) w6 hk (qn.keep0 d6) (qb.keep0 d6) (by omega)).mono ?_⟩
   rintro e w7 ⟨a7, n7, c7, rfl, hf7⟩
   refine ⟨_, _, _, rfl, a7, n7, c7, ?_, ?_⟩
   · rw [openE, hof]; rfl
   · rw [hof]
     exact FreshB.after hf7 (h1d.chg.trans d6)

end Go.Proofs.YtpmhjnhgpplmnaaGreatDoor
end

section
namespace Go.Proofs.YtpmhjnhgpplmnaaGreatDoor
open Go Sx
set_option maxRecDepth 8000
set_option maxRecDepth 100000

theorem xorL_two (key nonce : List UInt8) (p : Nat) (l : List UInt8) : xorL key nonce p (xorL key nonce p l) = l := by
 apply List.ext_getElem?
 intro i
 simp only [xorL, List.getElem?_mapIdx]
 cases l[i]? with
 | none => rfl
 | some b => simp [UInt8.xor_assoc]

theorem overF_two (K nonce plain : List UInt8) (h : plain.length ≤ 274877906944) : overF K nonce (overF K nonce plain) = plain ∧ (overF K nonce plain).length = plain.length := by
 have h1 : ∀ l : List UInt8, l.length ≤ 274877906944 → overF K nonce l = xorL (ciphK K) nonce 0 l := fun l hl => by
   have : roomF 0 l.length = true := by simp [roomF]; omega
   rw [overF, xorR, if_pos this]; rfl
 rw [h1 plain h, h1 _ (by rw [xorL_len]; exact h), xorL_two, xorL_len]
 exact ⟨rfl, rfl⟩

theorem sealF_len (K : List UInt8) (k : UInt8) (ctx plain : List UInt8) (h : plain.length ≤ 274877906944) : (sealF K k ctx plain).length = plain.length + 45 := by
 simp [sealF, (overF_two K (nonceF K k ctx plain) plain h).2]; omega

theorem sealF_parts (K : List UInt8) (k : UInt8) (ctx plain : List UInt8) (h : plain.length ≤ 274877906944) : (sealF K k ctx plain).getD 0 0 = k ∧ bNonce (sealF K k ctx plain) = nonceF K k ctx plain ∧ bBody (sealF K k ctx plain) = overF K (nonceF K k ctx plain) plain ∧
   bTag (sealF K k ctx plain) = tagF K k ctx (nonceF K k ctx plain) (overF K (nonceF K k ctx plain) plain) := by
 have hl := sealF_len K k ctx plain h
 have h2 := (overF_two K (nonceF K k ctx plain) plain h).2
 have hn := nonceF_len K k ctx plain
 obtain ⟨nn, hnn⟩ : ∃ n, nonceF K k ctx plain = n := ⟨_, rfl⟩
 obtain ⟨bd, hbd⟩ : ∃ n, overF K nn plain = n := ⟨_, rfl⟩
 rw [hnn] at h2 hn ⊢
 rw [hbd] at h2 ⊢
 obtain ⟨tg, htg⟩ : ∃ n, tagF K k ctx nn bd = n := ⟨_, rfl⟩
 have ht : tg.length = 32 := by rw [← htg]; simp
 have hs : sealF K k ctx plain = [k] ++ nn ++ bd ++ tg := by rw [sealF, hnn, hbd, htg]
 rw [htg]
 rw [bBody, bTag, hl, hs, bNonce]
 have d1 : ([k] ++ nn ++ bd ++ tg).drop 1 = nn ++ (bd ++ tg) := by simp
 have d13 : ([k] ++ nn ++ bd ++ tg).drop 13 = bd ++ tg := by
   rw [List.append_assoc]; exact List.drop_left' (by simp [hn])
 refine ⟨by simp, ?_, ?_, ?_⟩
 · rw [d1]; exact List.take_left' hn
 · rw [d13]; exact List.take_left' (by omega)
 · exact List.drop_left' (by simp [hn, h2]; omega)

theorem open_sealF (K : List UInt8) (k : UInt8) (ctx plain : List UInt8) (h : plain.length ≤ 274877906944) : openF K k ctx (sealF K k ctx plain) = some plain := by
 obtain ⟨p1, p2, p3, p4⟩ := sealF_parts K k ctx plain h
 have hl := sealF_len K k ctx plain h
 rw [openF, if_neg (by rw [p1, hl]; simp), p2, p3, p4, if_pos rfl, (overF_two K _ plain h).1]

end Go.Proofs.YtpmhjnhgpplmnaaGreatDoor
end

section
namespace Go.Proofs.YtpmhjnhgpplmnaaGreatDoor
open Go Sx
set_option maxRecDepth 8000

theorem eqlS_err {T : TypeId} {m} (hT : Tryz.prog.underlying T = some (.interface m)) (o : Option Int) (n : Int) (x y : Operand) (w : World) : (eqlS .eql T x y (errV o) (.iface 65 (.int .i64 n))).run Tryz.prog w = .ok (.bool (decide (o = some n))) w := by
 have hE := Tryz.underlying65
 have hI : (typeInfo 65).run Tryz.prog w = .ok Tryz.t65 w := by
   simp [typeInfo, show Tryz.prog.info? 65 = some Tryz.t65 by kernel_rfl]
 have hc : Tryz.t65.comparable = true := by kernel_rfl
 have h1 : ∀ d k, (Op.equalIn (d + 2) T (.iface 65 (.int .i64 k)) (.iface 65 (.int .i64 n))).run Tryz.prog w = .ok (k == n) w := fun d k => by
   simp [Op.equalIn, run_underlying hT, run_underlying hE, hI, hc]
 have h2 : ∀ d U v, (Op.equalIn (d + 1) T .nilIface (.iface U v)).run Tryz.prog w = .ok false w := fun d U v => by simp [Op.equalIn, run_underlying hT]
 cases o with
 | none => simp [eqlS, eqGuard, errV, binOp, Op.equal, show Op.maxDepth = 9999 + 1 from rfl, h2 9999]
 | some k =>
   have h3 : (some k = some n) = (k = n) := by simp
   simp only [h3]
   have h4 : decide (k = n) = (k == n) := rfl
   rw [h4]
   simp [eqlS, eqGuard, errV, binOp, Op.equal, show Op.maxDepth = 9998 + 2 from rfl, h1 9998]

end Go.Proofs.YtpmhjnhgpplmnaaGreatDoor
end

section
namespace Go.Proofs.YtpmhjnhgpplmnaaGreatDoor
open Go Sx
set_option maxRecDepth 8000

structure PcD where
 a : Option Addr
 c : Nat
 l : List UInt8
def PcD.v (p : PcD) : Value := .slice p.a p.l.length p.c
def PcD.row (p : PcD) : Res := .row 5 1 (.slice p.a p.l.length p.c) p.l.length (bv p.l)
structure FP where
 la : Option Addr
 lc : Nat
 ps : List PcD
 ra : Option Addr
 rc : Nat
 rs : List RefD
def fileL (num : Int) (f : FP) : List Value := [.slice f.la f.ps.length f.lc, .int .i64 (((f.ps.map PcD.l).flatten.length : Nat) : Int), .int .i64 num, .slice f.ra f.rs.length f.rc]
def fileR (g : Nat) (num : Int) (f : FP) : List Res := [.arr g 388 (fileL num f), .row 26 1 (.slice f.la f.ps.length f.lc) f.ps.length (f.ps.map PcD.v), .row 100 35 (.slice f.ra f.rs.length f.rc) f.rs.length (f.rs.flatMap refC)]
def FileIn (w0 : World) (X : List Nat) (w : World) (g : Nat) (num : Int) (ps : List (List UInt8)) (rs : List RefD) (N : List Res) : Prop := ∃ f : FP, f.ps.map PcD.l = ps ∧ f.rs = rs ∧ St w0 X w (fileR g num f ++ (f.ps.map PcD.row ++ N))

section
variable {w0 w w' : World} {X : List Nat} {N N' T : List Res} {g : Nat} {num : Int} {ps : List (List UInt8)} {rs : List RefD}

theorem FileIn.same (h : FileIn w0 X w g num ps rs N) (hc : Chg [] w w') : FileIn w0 X w' g num ps rs N := by obtain ⟨f, h1, h2, hS⟩ := h; exact ⟨f, h1, h2, hS.same hc⟩
theorem FileIn.chg (h : FileIn w0 X w g num ps rs N) : Chg X w0 w := by obtain ⟨f, h1, h2, hS⟩ := h; exact hS.chg
theorem FileIn.rest (h : FileIn w0 X w g num ps rs N) : St w0 X w N := by
 obtain ⟨f, h1, h2, hS⟩ := h
 exact hS.sub ((List.sublist_append_right _ _).trans (List.sublist_append_right _ _))
theorem FileIn.addSt (h : FileIn w0 X w g num ps rs N) (h' : St w [] w' T) : FileIn w0 X w' g num ps rs (N ++ T) := by
 obtain ⟨f, h1, h2, hS⟩ := h
 refine ⟨f, h1, h2, ?_⟩
 have := Sx.St.callPart (N := []) (by rw [List.append_nil]; exact hS) h'
 rw [List.append_assoc, List.append_assoc] at this
 exact this
end

end Go.Proofs.YtpmhjnhgpplmnaaGreatDoor
end

section
namespace Go.Proofs.YtpmhjnhgpplmnaaGreatDoor
open Go Sx
set_option maxRecDepth 8000

section
variable {w0 w w' : World} {X : List Nat} {M N N' T : List Res} {g : Nat} {num : Int} {ps : List (List UInt8)} {rs : List RefD}

theorem frmT_len (x : Itm) (h : x.1.length = 32) (hb : x.2.length ≤ 67108832) : 33 + x.2.length ≤ (frmT x).length ∧ (frmT x).length ≤ 42 + x.2.length := by
 have := varL_len 9 (x.1 ++ x.2).length (by rw [List.length_append, h]; omega) (by decide)
 have := varL_pos (x.1 ++ x.2).length
 simp only [frmT, frameL, List.length_cons, List.length_append, h] at *
 omega

end

end Go.Proofs.YtpmhjnhgpplmnaaGreatDoor
end

section
namespace Go.Proofs.YtpmhjnhgpplmnaaGreatDoor
open Go Sx
set_option maxRecDepth 8000

theorem SmallI.take {xs : List Itm} (h : SmallI xs) (i : Nat) : SmallI (xs.take i) := by
 refine ⟨by have := h.num; simp; omega, fun x hx => h.idl x (List.mem_of_mem_take hx), ?_⟩
 have e : (xs.take i ++ xs.drop i).map (fun x => x.2.length) = xs.map (fun x => x.2.length) := by rw [List.take_append_drop]
 have h2 := congrArg List.sum e
 rw [List.map_append, List.sum_append] at h2
 have := h.sum
 omega
theorem frames_len : ∀ (xs : List Itm), (∀ x ∈ xs, x.1.length = 32 ∧ x.2.length ≤ 67108832) → (xs.map frmT).flatten.length ≤ 42 * xs.length + (xs.map fun x => x.2.length).sum
 | [], _ => by simp
 | x :: r, h => by
   obtain ⟨h1, h2⟩ := h x (by simp)
   have := (frmT_len x h1 h2).2
   have := frames_len r fun y hy => h y (by simp [hy])
   simp only [List.map_cons, List.flatten_cons, List.length_append, List.length_cons, List.sum_cons]
   omega
theorem SmallI.bytes {xs : List Itm} (h : SmallI xs) : (xs.map frmT).flatten.length ≤ 16950000 := by
 have h1 := frames_len xs fun x hx => ⟨h.idl x hx, by have := h.blob hx; omega⟩
 have h2 := h.num
 have h3 := h.sum
 omega
section
variable {w0 w w' : World} {X : List Nat} {M N N' T : List Res} {g : Nat} {num : Int} {ps : List (List UInt8)} {rs : List RefD}

theorem kyA' (w : World) : (isAgg 41).run Tryz.prog w = .ok true w := Tryz.isAgg41 w
theorem kyS' (w : World) : (sizeOf 41).run Tryz.prog w = .ok 96 w := Tryz.sizeOf41 w

end

end Go.Proofs.YtpmhjnhgpplmnaaGreatDoor
end

section
namespace Go.Proofs.YtpmhjnhgpplmnaaGreatDoor
open Go Sx
set_option maxRecDepth 8000

structure RdF (w : World) (a : Option Addr) (n c : Nat) (vs : List Value) (fs : List (UInt8 × List UInt8 × Nat)) : Prop where
 rd : Rd w a n c 3 (frCells vs fs)
 row : Row2 w vs (fs.map fun f => f.2.1)
 num : fs.length = n

theorem RdF.keep0 {w w' : World} {a : Option Addr} {n c : Nat} {vs : List Value} {fs : List (UInt8 × List UInt8 × Nat)} (h : RdF w a n c vs fs) (hc : Chg [] w w') : RdF w' a n c vs fs := ⟨h.rd.keep0 hc, h.row.keep0 hc, h.num⟩

theorem OwnF.same {w0 w w' : World} {a : Option Addr} {n c : Nat} {vs : List Value} {fs : List (UInt8 × List UInt8 × Nat)} (h : OwnF w0 w a n c vs fs) (hc : Chg [] w w') : OwnF w0 w' a n c vs fs := ⟨h.st.same hc, h.len, h.num, h.hd⟩

end Go.Proofs.YtpmhjnhgpplmnaaGreatDoor
end

section
namespace Go.Proofs.YtpmhjnhgpplmnaaGreatDoor
open Go Sx
set_option maxRecDepth 8000

structure FrD where
 k : UInt8
 a : Option Addr
 c : Nat
 body : List UInt8
 at_ : Nat
abbrev Frm := UInt8 × List UInt8 × Nat
def FrD.t (x : FrD) : Frm := (x.k, x.body, x.at_)
def FrD.v (x : FrD) : Value := .slice x.a x.body.length x.c
def frC (x : FrD) : List Value := [.int .i64 (x.k.toNat : Int), .slice x.a x.body.length x.c, .int .i64 (x.at_ : Int)]
structure RdFr (w : World) (a : Option Addr) (n c : Nat) (L : List FrD) : Prop where
 rd : RdE frC 3 w a n c L
 body : ∀ x ∈ L, RdB w x.a x.body.length x.c x.body
theorem RdFr.keep0 {w w' : World} {a : Option Addr} {n c : Nat} {L : List FrD} (h : RdFr w a n c L) (hc : Chg [] w w') : RdFr w' a n c L := ⟨h.rd.keep0 hc, fun x hx => (h.body x hx).keep0 hc⟩

section
variable {w0 w w' : World} {X : List Nat} {M N N' T : List Res}

end

end Go.Proofs.YtpmhjnhgpplmnaaGreatDoor
end

section
namespace Go.Proofs.YtpmhjnhgpplmnaaGreatDoor
open Go Sx
set_option maxRecDepth 8000

theorem ofNat8 {n : Nat} (h : n < 256) : (UInt8.ofNat n).toNat = n := by rw [UInt8.toNat_ofNat']; exact Nat.mod_eq_of_lt h

theorem rdVar_varL : ∀ (f m i n : Nat) (r : List UInt8), m < 128 ^ f → (m ≠ 0 ∨ i = 0) → 0 < f → rdVar f (varL m ++ r) i n = some (n + m * 128 ^ i, i + (varL m).length)
 | 0, _, _, _, _, _, _, h => by omega
 | f + 1, m, i, n, r, hm, h0, _ => by
   have hp : 128 ^ (f + 1) = 128 ^ f * 128 := Nat.pow_succ ..
   by_cases h : m < 128
   · rw [varL_small h]
     simp only [List.cons_append, List.nil_append, rdVar, ofNat8 (show m < 256 by omega), if_pos h, List.length_cons, List.length_nil, Nat.zero_add]
     rw [if_neg (by omega)]
   · have hf : 0 < f := by
       rcases Nat.eq_zero_or_pos f with rfl | h' 
       · simp at hm; omega
       · exact h'
     have hq : m / 128 < 128 ^ f := Nat.div_lt_of_lt_mul (by rw [Nat.mul_comm]; omega)
     have ih := rdVar_varL f (m / 128) (i + 1) (n + m % 128 * 128 ^ i) r hq (.inl (by omega)) hf
     rw [varL_big h]
     simp only [List.cons_append, rdVar, ofNat8 (show m % 128 + 128 < 256 by omega)]
     rw [if_neg (by omega), Nat.add_sub_cancel, ih]
     have e : n + m % 128 * 128 ^ i + m / 128 * 128 ^ (i + 1) = n + m * 128 ^ i := by
       have h1 : 128 ^ (i + 1) = 128 * 128 ^ i := by rw [Nat.pow_succ, Nat.mul_comm]
       rw [h1, ← Nat.mul_assoc, Nat.add_assoc, ← Nat.add_mul]
       congr 2
       omega
     rw [e, List.length_cons]
     congr 2
     omega

theorem readVar_varL {m : Nat} (h : m < 9223372036854775808) (r : List UInt8) : readVarF (varL m ++ r) = some (m, (varL m).length) := by
 rw [readVarF, rdVar_varL 9 m 0 0 r (by simpa using h) (.inr rfl) (by decide)]
 simp

theorem beNat_numL (u : Nat) (h : u < 18446744073709551616) : beNat (numL u) = u := by
 have key : ∀ k, k ≤ 8 → beNat ((List.range k).map fun j => UInt8.ofNat (u / 256 ^ (7 - j) % 256)) = u / 256 ^ (8 - k) := by
   intro k
   induction k with
   | zero => intro _; simp [beNat]; exact (Nat.div_eq_of_lt h).symm
   | succ k ih =>
     intro hk
     rw [List.range_succ, List.map_append, List.map_cons, List.map_nil, beNat_snoc, ih (by omega), ofNat8 (Nat.mod_lt _ (by decide)), show 8 - k = (7 - k) + 1 by omega, show 8 - (k + 1) = 7 - k by omega, Nat.pow_succ, ← Nat.div_div_eq_div_mul]
     omega
 have := key 8 (by decide)
 simpa [numL] using this

theorem readNum_numL (x : Int) (h1 : -9223372036854775808 ≤ x) (h2 : x ≤ 9223372036854775807) : readNumF (numL (x % 18446744073709551616).toNat) = some x := by
 rw [readNumF, if_pos (numL_len _), beNat_numL _ (by omega), Int.toNat_of_nonneg (by omega), wrap_i64_of]
 congr 1
 split <;> omega

theorem fieldF_pack {f : List UInt8} (h : f.length ≤ 67108864) (r : List UInt8) : fieldF (varL f.length ++ f ++ r) = some (f, r) := by
 rw [List.append_assoc, fieldF, readVar_varL (by omega)]
 simp only [Option.bind_some]
 rw [if_pos ⟨h, by simp; omega⟩]
 have e1 : (varL f.length ++ (f ++ r)).drop (varL f.length).length = f ++ r := by simp
 have e2 : (varL f.length ++ (f ++ r)).drop ((varL f.length).length + f.length) = r := by
   rw [← List.drop_drop, e1]; simp
 rw [e1, e2]; simp

end Go.Proofs.YtpmhjnhgpplmnaaGreatDoor
end

section
namespace Go.Proofs.YtpmhjnhgpplmnaaGreatDoor
open Go Go.Proofs.YtpmhjnhgpplmnaaGreatDoor.Sx

set_option maxRecDepth 100000
theorem amphoraref05_derived_vc (a0a : Option Addr) (a0n : Nat) (a0c : Nat) (a1a : Option Addr) (a1n : Nat) (a1c : Nat) (a2 : ByteArray) (w : World) (R : Ending → World → Prop) (h : ∃ g6 w1, AlQ 39 g6 w w1 ∧ (∃ t11, (Instr.build 39 #[]).run Tryz.prog w1 = .ok (.agg t11) w1 ∧ (∃ g7 w2, AlQ 39 g7 w1 w2 ∧ (∃ w3, StQ 39 g7 0 (.agg t11) w2 w3 ∧ (∃ t16a t16n t16c w4, (convert 9 26 (.string a2)).run Tryz.prog w3 = .ok (.slice t16a t16n t16c) w4 ∧ (Calls Tryz.prog 195 #[(.slice a0a a0n a0c), (.slice a1a a1n a1c), (.slice t16a t16n t16c), (.int .i64 32)] w4 fun e17 w5 => ∃ t17_0a t17_0n t17_0c t17_1, e17 = .returned (.tuple #[(.slice t17_0a t17_0n t17_0c), (.int .i64 t17_1)]) ∧ (∃ (I : Int → World → Prop) (μ : Int → World → Nat), I 0 w5 ∧ (∀ x10, ∀ w6, I x10 w6 → ((decide (x10 < (32 : Int)) = true → (∃ t27b t27o, t17_0a = some ⟨t27b, t27o, none⟩ ∧ 0 ≤ x10 ∧ x10 < (t17_0n : Int) ∧ (∃ t28, LdQ 5 t27b (t27o + Int.toNat x10 * 1) (.int .u8 t28) w6 ∧ (0 ≤ x10 ∧ x10 < (32 : Int) ∧ (∃ w7, StQ 5 g7 (0 + Int.toNat x10 * 1) (.int .u8 t28) w6 w7 ∧ (I (IntKind.wrap .i64 (x10 + 1)) w7 ∧ μ (IntKind.wrap .i64 (x10 + 1)) w7 < μ x10 w6)))))) ∧ (decide (x10 < (32 : Int)) = false → (∃ t30, LdQ 39 g7 0 (.agg t30) w6 ∧ (∃ w8, StQ 39 g6 0 (.agg t30) w6 w8 ∧ (∃ r6, (loadVar 39 ⟨g6, 0, none⟩).run Tryz.prog w8 = .ok r6 w8 ∧ (R (.returned r6) w8)))))))))))))) : Calls Tryz.prog 97 #[(.slice a0a a0n a0c), (.slice a1a a1n a1c), (.string a2)] w R := calls_of_ev2 (tc := .sq [.reg (.op .bx .nil), .reg (.op (.ld .agg) (.op .bx (.op .u .nil))), .reg (.pp 3 (.op (.r .slice) (.op (.cl [.slice, .int .i64]) (.pp 5 .nil)))), .seq (.rg 1) (.blk (.loop (lr [(10, 1), (20, 10)]) [10] [.int .i64] (.sq [.seq (.rg 2) (.cond .leaf .leaf), .blk (.reg (.pp 3 (.op .ix (.op (.ld (.int .u8)) (.op .ix (.op .u .nil))))))] (.rg 3)))), .reg (.op (.ld .agg) (.op .u .nil))] .leaf) Tryz.func97 (by kernel_rfl) (by kernel_rfl) h

theorem amphoraref05_FromMaster_vc (a0 : Array Value) (w : World) (R : Ending → World → Prop) (h : ∃ g1 w1, (Instr.box 39 (.agg a0)).run Tryz.prog w = .ok (.pointer (some ⟨g1, 0, none⟩)) w1 ∧ (∃ g2 w2, AlQ 41 g2 w1 w2 ∧ (∃ t4a t4n t4c w3, (Instr.buildSlice 26 7 #[(0, (.int .u8 97)), (1, (.int .u8 109)), (2, (.int .u8 112)), (3, (.int .u8 104)), (4, (.int .u8 111)), (5, (.int .u8 114)), (6, (.int .u8 97))]).run Tryz.prog w2 = .ok (.slice t4a t4n t4c) w3 ∧ (∃ t5a t5n t5c w4, (convert 26 26 (.slice t4a t4n t4c)).run Tryz.prog w3 = .ok (.slice t5a t5n t5c) w4 ∧ (∃ S : World → Prop, S w4.drew ∧ (0 ≤ (32 : Int) ∧ (32 : Int) ≤ (32 : Int) ∧ (0 ≤ (32 : Int) ∧ (32 : Int) ≤ (32 : Int) ∧ (0 ≤ (32 : Int) ∧ (32 : Int) ≤ (32 : Int) ∧ (Calls Tryz.prog 97 #[(.slice t5a t5n t5c), (.slice (some ⟨g1, 0, none⟩) (32) 32), (.string (ByteArray.mk #[99, 105, 112, 104, 101, 114]))] w4.drew fun e8 w5 => ∃ t8, e8 = .returned (.agg t8) ∧ (∃ S_1 : World → Prop, (∀ w', S_1 w' → S w') ∧ S_1 w5 ∧ (Calls Tryz.prog 97 #[(.slice t5a t5n t5c), (.slice (some ⟨g1, 0, none⟩) (32) 32), (.string (ByteArray.mk #[109, 97, 99]))] w5 fun e11 w6 => ∃ t11, e11 = .returned (.agg t11) ∧ (∃ S_2 : World → Prop, (∀ w', S_2 w' → S_1 w') ∧ S_2 w6 ∧ (Calls Tryz.prog 97 #[(.slice t5a t5n t5c), (.slice (some ⟨g1, 0, none⟩) (32) 32), (.string (ByteArray.mk #[110, 97, 109, 101]))] w6 fun e14 w7 => ∃ t14, e14 = .returned (.agg t14) ∧ (∃ S_3 : World → Prop, (∀ w', S_3 w' → S_2 w') ∧ S_3 w7 ∧ (∃ t15, (∀ w', S_3 w' → (Instr.build 41 #[(0, (.agg t8)), (1, (.agg t11)), (2, (.agg t14))]).run Tryz.prog w' = .ok (.agg t15) w') ∧ (∃ w8, StQ 41 g2 0 (.agg t15) w7 w8 ∧ (∃ r2, (loadVar 41 ⟨g2, 0, none⟩).run Tryz.prog w8 = .ok r2 w8 ∧ (R (.returned r2) w8)))))))))))))))))) : Calls Tryz.prog 33 #[(.agg a0)] w R := calls_of_ev2 (tc := .sq [.reg (.op .bx (.op .bx .nil)), .reg (.op (.r .slice) (.op (.r .slice) (.op .p .nil))), .drawS (.tk 0 .p (.tk 1 .sl (.tk 3 .p (.tk 4 .sl (.tk 6 .p (.tk 7 .sl (.go 2 (.cl [.agg]) (.go 5 (.cl [.agg]) (.go 8 (.cl [.agg]) (.ts 9 .agg (.go 10 .u .nil))))))))))) [10]] .leaf) Tryz.func33 (by kernel_rfl) (by kernel_rfl) h

end Go.Proofs.YtpmhjnhgpplmnaaGreatDoor
end

section
namespace Go.Proofs.YtpmhjnhgpplmnaaGreatDoor
open Go Sx
set_option maxRecDepth 8000

theorem d32B (w : World) : (Instr.build 39 #[]).run Tryz.prog w = .ok (.agg (bv (List.replicate 32 0)).toArray) w := by
 have := build_arr (P := Tryz.prog) (w := w) (T := 39) (d32Z w) Tryz.underlying39 (sB1 w) [] (by simp) (by simp)
 simpa using this

theorem rderived_spec (a0 : Option Addr) (n0 c0 : Nat) (salt : List UInt8) (a1 : Option Addr) (n1 c1 : Nat) (secret : List UInt8) (s : ByteArray) (info : List UInt8) (w : World) (hs : s = ⟨info.toArray⟩) (hr0 : RdB w a0 n0 c0 salt) (hr1 : RdB w a1 n1 c1 secret) (hb : n0 + n1 + info.length ≤ 1099511627776) :
   Calls Tryz.prog 97 #[.slice a0 n0 c0, .slice a1 n1 c1, .string s] w fun e w' => e = .returned (.agg (bv (der32 salt secret info)).toArray) ∧ Chg [] w w' := by
 apply amphoraref05_derived_vc
 obtain ⟨D, hD⟩ : ∃ D, der32 salt secret info = D := ⟨_, rfl⟩
 have hDl : D.length = 32 := by rw [← hD]; simp
 obtain ⟨g6, w1, r1, h1⟩ := (St.start w).zeroA d32Z
 obtain ⟨g7, w2, r2, h2⟩ := h1.zeroA d32Z
 obtain ⟨w3, r3, h3⟩ := h2.stA (i := 1) (v := bv (mixG D (List.replicate 32 0) 0)) rfl (d32S _) (by simp) (by rw [mixG_zero]; simp) (bv_one _)
 rw [mixG_zero] at r3
 obtain ⟨g4, c4, w4, r4, hc4, hr4, _⟩ := toBytes s info hs w3
 have h4 := h3.same hc4
 refine ⟨g6, w1, r1, _, d32B _, g7, w2, r2, w3, r3, _, _, _, _, r4, (rderive_specN a0 n0 c0 salt a1 n1 c1 secret _ info.length c4 info 32 w4 (h4.rd1 hr0) (h4.rd1 hr1) hr4 hb).mono ?_⟩
 rintro e w5 (⟨hx, _⟩ | ⟨_, _, a, n, c, rfl, hc5, hr5, hf5⟩)
 · omega
 have hd : deriveF salt secret info (Int.toNat 32) = der32 salt secret info := rfl
 rw [hd, hD] at hr5
 rw [hD]
 have hn : n = 32 := by rw [← hr5.lenB, hDl]
 subst hn
 have h5 := h4.same hc5
 have hg7 : g7 < w4.heap.size := Res.lt (h4.holds 1 _ rfl) g7 (by simp [Res.fp])
 refine ⟨_, _, _, _, rfl, fun x w' => ∃ i : Nat, x = (i : Int) ∧ i ≤ 32 ∧ RdB w' a 32 c D ∧ St w [] w' [.arr g6 39 (bv (List.replicate 32 0)), .arr g7 39 (bv (mixG D (List.replicate 32 0) i))], fun x _ => 32 - x.toNat, ⟨0, rfl, by omega, hr5, h5⟩, ?_⟩
 rintro x w6 ⟨i, rfl, hi, hr6, h6⟩
 refine ⟨fun h => ?_, fun h => ?_⟩
 · have hi' : i < 32 := by simp at h; omega
   refine ix0 hr6.cells hDl i (by omega) fun bl o ha q => ⟨bl, o, ha, by omega, by omega, _, q w6 hr6.cells, by omega, by omega, ?_⟩
   have hbi : D[i]? = some (D.getD i 0) := by
     rw [List.getD, List.getElem?_eq_getElem (by omega)]
     rfl
   have hml : (mixG D (List.replicate 32 (0 : UInt8)) i).length = 32 := by simp [mixG]; omega
   have h6s := h6.self
   obtain ⟨w7, r7, h7⟩ := h6.stB (i := 1) (o := i) (T := 5) (b := D.getD i 0) rfl (sB1 _) (show 0 + Int.toNat (i : Int) * 1 = i by omega) (by omega)
   obtain ⟨w7', r7', h7'⟩ := (St.ofBlk (h6.holds 1 _ rfl)).stB (i := 0) (o := i) (T := 5) (l := mixG D (List.replicate 32 (0 : UInt8)) i) (b := D.getD i 0) rfl (sB1 _) (show 0 + Int.toNat (i : Int) * 1 = i by omega) (by omega)
   have ew : w7' = w7 := by
     have := r7'.symm.trans r7
     simp only [Result.ok.injEq, true_and] at this
     exact this
   rw [mixG_set (by rw [hDl, List.length_replicate]) hbi] at h7
   refine ⟨w7, r7, ⟨i + 1, wrap_succ hi' (by omega), by omega, ?_, h7⟩, mu_succ hi' (by omega)⟩
   rw [ew] at h7'
   refine hr6.keep h7'.chg fun ad e => ?_
   have := hf5 ad e
   simp
   omega
 · have hi' : i = 32 := by simp at h; omega
   have f1 : mixG D (List.replicate 32 (0 : UInt8)) i = D := by
     have := mixG_all (x := D) (l := List.replicate 32 (0 : UInt8)) (by rw [hDl, List.length_replicate])
     rw [List.length_replicate] at this; rw [hi', this]
   rw [f1] at h6
   obtain ⟨w8, r8, h8⟩ := h6.stA (i := 0) (v := bv D) rfl (d32S _) (by simp) (by simp [hDl]) (bv_one _)
   exact ⟨_, h6.ldA (i := 1) rfl (d32A _) (d32S _) (by simp [hDl]), w8, r8, _, h8.ldVarA (i := 0) (l := bv D) rfl (d32A _) (d32S _) (by simp [hDl]), rfl, h8.chg⟩

theorem rfromMaster_spec (m : List UInt8) (w : World) (hm : m.length = 32) :
   Calls Tryz.prog 33 #[.agg (bv m).toArray] w fun e w' => e = .returned (.agg (bv (masterF m)).toArray) ∧ Chg [] w w' := by
 apply amphoraref05_FromMaster_vc
 obtain ⟨g1, w1, r1, h1⟩ := (St.start w).boxA 39 (bv m)
 obtain ⟨g2, w2, r2, h2⟩ := h1.zeroA kyZ
 obtain ⟨g3, w3, w4, r3, r4, c4, hr4⟩ := litMark amphL (by decide) w2
 have h4 := (h2.same c4).drew
 have hd := Chg.drew [] w4
 have dd : ∀ w' (i : List UInt8) (s : ByteArray), s = ⟨i.toArray⟩ → i.length ≤ 1000 → Chg [] w4.drew w' → Calls Tryz.prog 97 #[.slice (some ⟨g3, 0, none⟩) 7 7, .slice (some ⟨g1, 0, none⟩) 32 32, .string s] w' fun e w'' => e = .returned (.agg (bv (der32 amphL m i)).toArray) ∧ Chg [] w' w'' := fun w' i s hs hi hc =>
   rderived_spec _ 7 7 amphL _ 32 32 m s i w' hs (hr4.keep0 (hd.trans hc)) ((h4.same hc).rdA (i := 0) rfl (by simp [hm])) (by omega)
 refine ⟨g1, w1, r1, g2, w2, r2, _, _, _, _, r3, _, _, _, _, r4, fun w' => Chg [] w4.drew w', Chg.refl _ _, by omega, by omega, by omega, by omega, by omega, by omega, (dd _ [99, 105, 112, 104, 101, 114] _ rfl (by decide) (Chg.refl _ _)).mono ?_⟩
 rintro e w5 ⟨rfl, c5⟩
 refine ⟨_, rfl, fun w' => Chg [] w4.drew w', fun _ h => h, c5, (dd _ [109, 97, 99] _ rfl (by decide) c5).mono ?_⟩
 rintro e w6 ⟨rfl, c6⟩
 have d6 := c5.trans c6
 refine ⟨_, rfl, fun w' => Chg [] w4.drew w', fun _ h => h, d6, (dd _ [110, 97, 109, 101] _ rfl (by decide) d6).mono ?_⟩
 rintro e w7 ⟨rfl, c7⟩
 have d7 := d6.trans c7
 obtain ⟨w8, r8, h8⟩ := (h4.same d7).stA (i := 1) (v := bv (masterF m)) rfl (kyS _) (by simp) (by simp) (bv_one _)
 exact ⟨_, rfl, fun w' => Chg [] w4.drew w', fun _ h => h, d7, _, fun w' _ => keys_build (der32_len _ _ _) (der32_len _ _ _) (der32_len _ _ _) w', w8, r8, _, h8.ldVarA (i := 1) (l := bv (masterF m)) rfl (kyA _) (kyS _) (by simp), rfl, h8.chg⟩

end Go.Proofs.YtpmhjnhgpplmnaaGreatDoor
end

section
namespace Go.Proofs.YtpmhjnhgpplmnaaGreatDoor
open Go.Shelf
def laysItoa_ren : Go.Shelf.Ren := ⟨fun | 171 => 95 | 243 => 194 | 246 => 268 | 283 => 319 | 284 => 320 | 285 => 321 | 286 => 322 | 129 => 274 | 317 => 357 | 318 => 358 | 319 => 359 | 320 => 360 | 337 => 374 | 338 => 375 | n => n, fun | 3 => 3 | 9 => 9 | 2 => 2 | 4 => 4 | 171 => 417 | 0 => 0 | 53 => 42 | 37 => 26 | 5 => 5 | 173 => 419 | 212 => 459 | 51 => 370 | 20 => 20 | 213 => 460 | 46 => 299 | 232 => 39 | 233 => 368 | n => n, fun | 17 => 3 | 18 => 4 | 19 => 5 | n => n⟩
theorem laysItoa : Go.Proofs.LaysM.n171 Tryz.prog laysItoa_ren := {
 mixed := by kernel_rfl
 f129 := Tryz.func274.trans (congrArg some (by kernel_rfl))
 f171 := Tryz.func95.trans (congrArg some (by kernel_rfl))
 f243 := Tryz.func194.trans (congrArg some (by kernel_rfl))
 f246 := Tryz.func268.trans (congrArg some (by kernel_rfl))
 f283 := Tryz.func319.trans (congrArg some (by kernel_rfl))
 f284 := Tryz.func320.trans (congrArg some (by kernel_rfl))
 f285 := Tryz.func321.trans (congrArg some (by kernel_rfl))
 f286 := Tryz.func322.trans (congrArg some (by kernel_rfl))
 f317 := Tryz.func357.trans (congrArg some (by kernel_rfl))
 f318 := Tryz.func358.trans (congrArg some (by kernel_rfl))
 f319 := Tryz.func359.trans (congrArg some (by kernel_rfl))
 f320 := Tryz.func360.trans (congrArg some (by kernel_rfl))
 f337 := Tryz.func374.trans (congrArg some (by kernel_rfl))
 f338 := Tryz.func375.trans (congrArg some (by kernel_rfl))
 t0 := Tryz.underlying0
 a0 := Tryz.isAgg0
 z0 := Tryz.sizeOf0
 v0 := Tryz.zeroValue0
 t2 := Tryz.underlying2
 a2 := Tryz.isAgg2
 z2 := Tryz.sizeOf2
 v2 := Tryz.zeroValue2
 t3 := Tryz.underlying3
 a3 := Tryz.isAgg3
 z3 := Tryz.sizeOf3
 v3 := Tryz.zeroValue3
 t4 := Tryz.underlying4
 a4 := Tryz.isAgg4
 z4 := Tryz.sizeOf4
 v4 := Tryz.zeroValue4
 t5 := Tryz.underlying5
 a5 := Tryz.isAgg5
 z5 := Tryz.sizeOf5
 v5 := Tryz.zeroValue5
 t9 := Tryz.underlying9
 a9 := Tryz.isAgg9
 z9 := Tryz.sizeOf9
 v9 := Tryz.zeroValue9
 t20 := Tryz.underlying20
 a20 := Tryz.isAgg20
 z20 := Tryz.sizeOf20
 v20 := Tryz.zeroValue20
 t37 := Tryz.underlying26
 a37 := Tryz.isAgg26
 z37 := Tryz.sizeOf26
 v37 := Tryz.zeroValue26
 t46 := Tryz.underlying299
 a46 := Tryz.isAgg299
 z46 := Tryz.sizeOf299
 v46 := Tryz.zeroValue299
 t51 := Tryz.underlying370
 a51 := Tryz.isAgg370
 z51 := Tryz.sizeOf370
 v51 := Tryz.zeroValue370
 t53 := Tryz.underlying42
 a53 := Tryz.isAgg42
 z53 := Tryz.sizeOf42
 v53 := Tryz.zeroValue42
 t171 := Tryz.underlying417
 a171 := Tryz.isAgg417
 z171 := Tryz.sizeOf417
 v171 := Tryz.zeroValue417
 t173 := Tryz.underlying419
 a173 := Tryz.isAgg419
 z173 := Tryz.sizeOf419
 v173 := Tryz.zeroValue419
 t212 := Tryz.underlying459
 a212 := Tryz.isAgg459
 z212 := Tryz.sizeOf459
 v212 := Tryz.zeroValue459
 t213 := Tryz.underlying460
 a213 := Tryz.isAgg460
 z213 := Tryz.sizeOf460
 t232 := Tryz.underlying39
 a232 := Tryz.isAgg39
 z232 := Tryz.sizeOf39
 v232 := Tryz.zeroValue39
 t233 := Tryz.underlying368
 a233 := Tryz.isAgg368
 z233 := Tryz.sizeOf368
 v233 := Tryz.zeroValue368
 g17 := by kernel_rfl
 g18 := by kernel_rfl
 g19 := by kernel_rfl
 i0 := by kernel_rfl
 i2 := by kernel_rfl
 i3 := by kernel_rfl
 i4 := by kernel_rfl
 i5 := by kernel_rfl
 i9 := by kernel_rfl
 i20 := by kernel_rfl
 i37 := by kernel_rfl
 i46 := by kernel_rfl
 i51 := by kernel_rfl
 i53 := by kernel_rfl
 i171 := by kernel_rfl
 i173 := by kernel_rfl
 i212 := by kernel_rfl
 i232 := by kernel_rfl
 i233 := by kernel_rfl
 m17 := by kernel_rfl
 m18 := by kernel_rfl
 m19 := by kernel_rfl }
end Go.Proofs.YtpmhjnhgpplmnaaGreatDoor
end

section
namespace Go.Proofs.YtpmhjnhgpplmnaaGreatDoor

def lexLt : List UInt8 → List UInt8 → Bool
 | [], [] => false
 | [], _ :: _ => true
 | _ :: _, [] => false
 | a :: l, b :: m => if a.toNat < b.toNat then true else if b.toNat < a.toNat then false else lexLt l m
theorem lex_irrefl : ∀ l, lexLt l l = false
 | [] => rfl
 | a :: l => by simp [lexLt, lex_irrefl l]
theorem lex_trans : ∀ l m k, lexLt l m = true → lexLt m k = true → lexLt l k = true
 | [], [], _, h, _ => by simp [lexLt] at h
 | [], _ :: _, [], _, h => by simp [lexLt] at h
 | [], _ :: _, _ :: _, _, _ => rfl
 | _ :: _, [], _, h, _ => by simp [lexLt] at h
 | _ :: _, _ :: _, [], _, h => by simp [lexLt] at h
 | a :: l, b :: m, c :: k, h1, h2 => by
   simp only [lexLt] at h1 h2 ⊢
   split at h1
   · split at h2
     · rw [if_pos (by omega)]
     · split at h2
       · cases h2
       · rw [if_pos (by omega)]
   · split at h1
     · cases h1
     · split at h2
       · rw [if_pos (by omega)]
       · split at h2
         · cases h2
         · rw [if_neg (by omega), if_neg (by omega)]
           exact lex_trans l m k h1 h2
theorem lex_tri : ∀ l m, lexLt l m = false → lexLt m l = false → l = m
 | [], [], _, _ => rfl
 | [], _ :: _, h, _ => by simp [lexLt] at h
 | _ :: _, [], _, h => by simp [lexLt] at h
 | a :: l, b :: m, h1, h2 => by
   simp only [lexLt] at h1 h2
   split at h1
   · cases h1
   · split at h2
     · cases h2
     · rename_i n1 n2
       rw [if_neg (by omega)] at h1
       have e : a = b := UInt8.toNat_inj.1 (by omega)
       rw [e, lex_tri l m h1 h2]
theorem lex_asymm {l m : List UInt8} (h : lexLt l m = true) : lexLt m l = false := by
 cases h2 : lexLt m l with
 | false => rfl
 | true => have := lex_trans l m l h h2; rw [lex_irrefl] at this; cases this
theorem lex_ne {l m : List UInt8} (h : lexLt l m = true) : l ≠ m := fun e => by subst e; rw [lex_irrefl] at h; cases h
def AscBy {α : Type} (key : α → List UInt8) : List α → Prop := List.Pairwise fun x y => lexLt (key x) (key y) = true

theorem asc_nodup {α : Type} {key : α → List UInt8} {l : List α} (h : AscBy key l) {x y : α} (hx : x ∈ l) (hy : y ∈ l) (he : key x = key y) : x = y := by
 induction l with
 | nil => simp at hx
 | cons z l ih =>
   have a := List.pairwise_cons.1 h
   rcases List.mem_cons.1 hx with e1 | h1 <;> rcases List.mem_cons.1 hy with e2 | h2
   · rw [e1, e2]
   · rw [e1] at he; exact absurd he (lex_ne (a.1 y h2))
   · rw [e2] at he; exact absurd he.symm (lex_ne (a.1 x h1))
   · exact ih a.2 h1 h2

theorem less_lex : ∀ l m : List UInt8, Op.bytesLess l m = lexLt l m
 | [], [] => rfl
 | _ :: _, [] => rfl
 | [], _ :: _ => rfl
 | a :: l, b :: m => by
   simp only [Op.bytesLess, lexLt, less_lex l m]
   by_cases h1 : a.toNat < b.toNat
   · have : a < b := UInt8.lt_iff_toNat_lt.2 h1
     simp [h1, this]
   · have h2 : ¬ a < b := fun h => h1 (UInt8.lt_iff_toNat_lt.1 h)
     by_cases h3 : b.toNat < a.toNat
     · have : a ≠ b := fun e => by rw [e] at h3; omega
       simp [h1, h2, h3, this]
     · have : a = b := UInt8.toNat_inj.1 (by omega)
       simp [h1, h2, h3, this]
namespace Sx
def strV (l : List UInt8) : Value := .string ⟨l.toArray⟩
end Sx

end Go.Proofs.YtpmhjnhgpplmnaaGreatDoor
end

section
namespace Go.Proofs.YtpmhjnhgpplmnaaGreatDoor.Sx
open Go
set_option maxRecDepth 8000

structure MapE {α : Type} (key val : α → Value) (es : Array MapEntry) (clock : Nat) (M : List α) : Prop where
 ents : es.toList.map (fun x => (x.key, x.val)) = M.map fun r => (key r, val r)
 born : (es.toList.map (·.born)).Nodup
 old : ∀ x ∈ es.toList, x.born < clock

theorem MapE.nil {α : Type} (key val : α → Value) : MapE key val #[] 0 ([] : List α) := ⟨rfl, by simp, by simp⟩
theorem MapE.len {α : Type} {key val : α → Value} {es : Array MapEntry} {clock : Nat} {M : List α} (h : MapE key val es clock M) : es.size = M.length := by
 have := congrArg List.length h.ents
 simpa using this
theorem MapE.at_ {α : Type} {key val : α → Value} {es : Array MapEntry} {clock : Nat} {M : List α} (h : MapE key val es clock M) {i : Nat} {x : MapEntry} (hx : es.toList[i]? = some x) : ∃ r, M[i]? = some r ∧ x.key = key r ∧ x.val = val r := by
 have := congrArg (fun l => l[i]?) h.ents
 simp only [List.getElem?_map, hx, Option.map_some] at this
 cases hm : M[i]? with
 | none => rw [hm] at this; cases this
 | some r =>
   rw [hm] at this
   simp only [Option.map_some, Option.some.injEq, Prod.mk.injEq] at this
   exact ⟨r, rfl, this.1, this.2⟩

section
variable {P : Program} {α : Type} {key val : α → Value} {kid : α → List UInt8} {KT : TypeId} {kv : List UInt8 → Value} {ok : List UInt8 → Prop}

structure KeyOps (P : Program) (KT : TypeId) (kv : List UInt8 → Value) (ok : List UInt8 → Prop) : Prop where
 chk : ∀ id, ok id → ∀ (em : Bool) (w : World), (Instr.checkKey em 10000 KT (kv id)).run P w = .ok () w
 find : ∀ (α : Type) (val : α → Value) (kid : α → List UInt8) (L : List MapEntry) (M : List α) (id : List UInt8), ok id → ∀ w : World, L.map (fun x => (x.key, x.val)) = M.map (fun r => (kv (kid r), val r)) → (∀ r ∈ M, ok (kid r)) →
   (Instr.findKey KT (kv id) L).run P w = .ok (((M.findIdx? fun r => kid r == id).bind fun j => (M[j]?).map fun r => (j, val r))) w
 stay : ∀ id, ∀ w : World, (Instr.keyThatStays (kv id) (kv id)).run P w = .ok (kv id) w

def fndM (kid : α → List UInt8) (M : List α) (id : List UInt8) : Option (Nat × α) := (M.findIdx? fun r => kid r == id).bind fun j => (M[j]?).map fun r => (j, r)
theorem fnd_some {M : List α} {id : List UInt8} {j : Nat} {r : α} (h : fndM kid M id = some (j, r)) : M[j]? = some r ∧ kid r = id := by
 unfold fndM at h
 simp only [Option.bind_eq_some_iff, Option.map_eq_some_iff, Prod.mk.injEq] at h
 obtain ⟨j', h1, r', h2, rfl, rfl⟩ := h
 refine ⟨h2, ?_⟩
 rw [List.findIdx?_eq_some_iff_getElem] at h1
 obtain ⟨hl, h3, _⟩ := h1
 rw [List.getElem?_eq_getElem hl, Option.some.injEq] at h2
 rw [h2] at h3
 simpa using h3
theorem fnd_none {M : List α} {id : List UInt8} (h : fndM kid M id = none) : ∀ r ∈ M, kid r ≠ id := by
 intro r hr e
 unfold fndM at h
 cases hf : M.findIdx? fun r => kid r == id with
 | none =>
   have := List.findIdx?_eq_none_iff.1 hf r hr
   simp [e] at this
 | some j =>
   rw [hf] at h
   rw [List.findIdx?_eq_some_iff_getElem] at hf
   obtain ⟨hl, _⟩ := hf
   simp [List.getElem?_eq_getElem hl] at h

variable {w : World} {g : Nat} {es : Array MapEntry} {clock : Nat} {M : List α} {mt ET : TypeId}

structure KeyM (P : Program) (KT : TypeId) (kv : List UInt8 → Value) (ok : List UInt8 → Prop) (key : α → Value) (kid : α → List UInt8) (M : List α) : Prop where
 ops : KeyOps P KT kv ok
 key : ∀ r, key r = kv (kid r)
 len : ∀ r ∈ M, ok (kid r)

theorem MapE.findK (hE : MapE key val es clock M) (hK : KeyM P KT kv ok key kid M) {id : List UInt8} (hl : ok id) (w : World) : (Instr.findKey KT (kv id) es.toList).run P w = .ok ((fndM kid M id).map fun p => (p.1, val p.2)) w := by
 have he : es.toList.map (fun x => (x.key, x.val)) = M.map (fun r => (kv (kid r), val r)) := by
   rw [hE.ents]
   refine List.map_congr_left fun r _ => ?_
   rw [hK.key]
 rw [hK.ops.find α val kid es.toList M id hl w he hK.len]
 unfold fndM
 cases M.findIdx? fun r => kid r == id with
 | none => rfl
 | some j => cases h : M[j]? <;> simp [h]

def updM (kid : α → List UInt8) (M : List α) (r : α) : List α := match fndM kid M (kid r) with
 | some (j, _) => M.set j r
 | none => M ++ [r]

theorem MapE.updateK (hE : MapE key val es clock M) (hK : KeyM P KT kv ok key kid M) (hm : P.underlying mt = some (.map KT ET)) (hg : w.heap[g]? = some (.map es clock)) (r : α) (hr : ok (kid r)) :
   ∃ es' clock', (Instr.mapUpdate mt (.map (some g)) (kv (kid r)) (val r)).run P w = .ok () (w.putObj g (.map es' clock')) ∧ MapE key val es' clock' (updM kid M r) := by
 have hf := hE.findK hK hr w
 have hc := hK.ops.chk _ hr false w
 have hset : ∀ o : Obj, (setObj g o).run P w = .ok () (w.putObj g o) := fun o => by simp [setObj, Sem.run, hg, World.putObj]
 unfold updM
 cases h : fndM kid M (kid r) with
 | none =>
   rw [h] at hf
   refine ⟨es.push { key := kv (kid r), val := val r, born := clock }, clock + 1, ?_, ?_⟩
   · simp only [Instr.mapUpdate, getObj, Sem.run_bind, run_underlying hm, Result.andThen_ok, Sem.run, hg, Result.andThen, hc, hf, Option.map_none]
     exact hset _
   · refine ⟨?_, ?_, ?_⟩
     · rw [Array.toList_push, List.map_append, List.map_append, hE.ents]
       simp [hK.key]
     · rw [Array.toList_push, List.map_append, List.nodup_append]
       refine ⟨hE.born, by simp, ?_⟩
       intro a ha b hb
       simp only [List.map_cons, List.map_nil, List.mem_singleton] at hb
       obtain ⟨x, hx, rfl⟩ := List.mem_map.1 ha
       have := hE.old x hx
       omega
     · intro x hx
       rw [Array.toList_push, List.mem_append, List.mem_singleton] at hx
       rcases hx with hx | rfl
       · have := hE.old x hx; omega
       · show clock < clock + 1; omega
 | some p =>
   obtain ⟨j, s⟩ := p
   rw [h] at hf
   obtain ⟨hj, hs⟩ := fnd_some h
   have hjl : j < M.length := (List.getElem?_eq_some_iff.1 hj).1
   have hsz := hE.len
   have hx : es.toList[j]? = some es[j] := by simp [show j < es.size by omega]
   obtain ⟨s', h1, h2, h3⟩ := hE.at_ hx
   rw [hj, Option.some.injEq] at h1
   subst h1
   refine ⟨es.modify j fun e => { e with key := kv (kid r), val := val r }, clock, ?_, ?_⟩
   · have hk : (((es[j]?).map (·.key)).getD (kv (kid r))) = kv (kid r) := by
       rw [Array.getElem?_eq_getElem (by omega)]
       simp only [Option.map_some, Option.getD_some]
       rw [h2, hK.key, hs]
     have hst : (Instr.keyThatStays (kv (kid r)) (kv (kid r))).run P w = .ok (kv (kid r)) w := by
       exact hK.ops.stay _ w
     simp only [Instr.mapUpdate, getObj, Sem.run_bind, run_underlying hm, Result.andThen_ok, Sem.run, hg, Result.andThen, hc, hf, Option.map_some, hk, hst]
     exact hset _
   · have hl : (es.modify j fun e => { e with key := kv (kid r), val := val r }).toList = es.toList.modify j fun e => { e with key := kv (kid r), val := val r } := Array.toList_modify ..
     refine ⟨?_, ?_, ?_⟩
     · rw [hl]
       apply List.ext_getElem?
       intro i
       have := congrArg (fun l => l[i]?) hE.ents
       simp only [List.getElem?_map] at this
       rw [List.getElem?_map, List.getElem?_modify, List.getElem?_map, List.getElem?_set]
       by_cases hi : j = i
       · subst hi
         rw [hx]
         simp [hjl, hK.key]
       · simp only [if_neg hi]
         cases hq : es.toList[i]? <;> rw [hq] at this <;> simpa using this
     · rw [hl]
       have : (es.toList.modify j fun e => { e with key := kv (kid r), val := val r }).map (·.born) = es.toList.map (·.born) := by
         apply List.ext_getElem?
         intro i
         rw [List.getElem?_map, List.getElem?_modify, List.getElem?_map]
         by_cases hi : j = i
         · subst hi; rw [hx]; simp
         · simp only [if_neg hi]; cases es.toList[i]? <;> rfl
       rw [this]
       exact hE.born
     · intro x hxm
       rw [hl] at hxm
       obtain ⟨i, hi⟩ := List.getElem?_of_mem hxm
       rw [List.getElem?_modify] at hi
       by_cases hji : j = i
       · subst hji
         rw [hx] at hi
         simp at hi
         subst hi
         exact hE.old es[j] (by simp)
       · simp only [if_neg hji] at hi
         cases hq : es.toList[i]? with
         | none => rw [hq] at hi; simp at hi
         | some y => rw [hq] at hi; simp at hi; subst hi; exact hE.old y (List.mem_of_getElem? hq)

theorem MapE.deleteK (hE : MapE key val es clock M) (hK : KeyM P KT kv ok key kid M) (hm : P.underlying mt = some (.map KT ET)) (hg : w.heap[g]? = some (.map es clock)) {id : List UInt8} (hl : ok id) (ts : Array TypeId) (hts : ts[0]? = some mt) (ty : TypeId) :
   ∃ es', (Builtin.delete_ ts ty #[.map (some g), kv id]).run P w = .ok (.tuple #[]) (w.putObj g (.map es' clock)) ∧ (∀ j r, fndM kid M id = some (j, r) → es' = es.eraseIdxIfInBounds j ∧ MapE key val es' clock (M.eraseIdx j)) ∧ (fndM kid M id = none → es' = es ∧ MapE key val es' clock M) := by
 have hf := hE.findK hK hl w
 have hc := hK.ops.chk _ hl es.isEmpty w
 have hset : ∀ o : Obj, (setObj g o).run P w = .ok () (w.putObj g o) := fun o => by simp [setObj, Sem.run, hg, World.putObj]
 cases h : fndM kid M id with
 | none =>
   rw [h] at hf
   refine ⟨es, ?_, by simp, fun _ => ⟨rfl, hE⟩⟩
   simp [Builtin.delete_, getObj, hts, run_underlying hm, Sem.run, hg, Result.andThen, hc, hf, hset]
 | some p =>
   obtain ⟨j, s⟩ := p
   rw [h] at hf
   obtain ⟨hj, hs⟩ := fnd_some h
   have hjl : j < M.length := (List.getElem?_eq_some_iff.1 hj).1
   have hsz := hE.len
   refine ⟨es.eraseIdxIfInBounds j, ?_, ?_, by simp⟩
   · simp [Builtin.delete_, getObj, hts, run_underlying hm, Sem.run, hg, Result.andThen, hc, hf, hset]
   · rintro j' r' h'
     simp only [Option.some.injEq, Prod.mk.injEq] at h'
     obtain ⟨rfl, rfl⟩ := h'
     have hle : (es.eraseIdxIfInBounds j).toList = es.toList.eraseIdx j := by simp [Array.eraseIdxIfInBounds, show j < es.size by omega]
     refine ⟨rfl, ?_, ?_, ?_⟩
     · rw [hle, Go.ChangeMaps.map_eraseIdx, Go.ChangeMaps.map_eraseIdx, hE.ents]
     · rw [hle, Go.ChangeMaps.map_eraseIdx]
       exact hE.born.sublist (List.eraseIdx_sublist _ _)
     · intro x hx
       rw [hle] at hx
       exact hE.old x ((List.eraseIdx_sublist _ _).subset hx)

theorem MapE.lookupK (hE : MapE key val es clock M) (hK : KeyM P KT kv ok key kid M) (hm : P.underlying mt = some (.map KT ET)) (hg : w.heap[g]? = some (.map es clock)) {id : List UInt8} (hl : ok id) {z : Value} (hz : ∀ w, (zeroValue ET).run P w = .ok z w) :
   (Instr.lookup mt (.map (some g)) (kv id) true).run P w = .ok (.tuple #[((fndM kid M id).map fun p => val p.2).getD z, .bool (fndM kid M id).isSome]) w := by
 have hf := hE.findK hK hl w
 have hc := hK.ops.chk _ hl es.isEmpty w
 cases h : fndM kid M id with
 | none =>
   rw [h] at hf
   simp [Instr.lookup, getObj, run_underlying hm, Sem.run, hg, Result.andThen, hc, hf, hz]
 | some p =>
   rw [h] at hf
   simp [Instr.lookup, getObj, run_underlying hm, Sem.run, hg, Result.andThen, hc, hf]

theorem MapE.lenOf (hE : MapE key val es clock M) (hm : P.underlying mt = some (.map KT ET)) (hg : w.heap[g]? = some (.map es clock)) (ty : TypeId) : (Builtin.len_ #[mt] ty #[.map (some g)]).run P w = .ok (.int .i64 (M.length : Int)) w := by
 have := hE.len
 simp [Builtin.len_, getObj, run_underlying hm, Sem.run, hg, Result.andThen, goInt, this]
end

end Go.Proofs.YtpmhjnhgpplmnaaGreatDoor.Sx
end

section
namespace Go.Proofs.YtpmhjnhgpplmnaaGreatDoor
open Go Sx
set_option maxRecDepth 8000

section
variable {α : Type} (kid : α → List UInt8)
def insA (S : List α) (r : α) : List α := S.filter (fun s => lexLt (kid s) (kid r)) ++ r :: S.filter (fun s => lexLt (kid r) (kid s))
def delA (S : List α) (id : List UInt8) : List α := S.filter fun s => !decide (kid s = id)
def findA (S : List α) (id : List UInt8) : Option α := S.find? fun r => kid r == id
end

section
variable {α : Type} {kid : α → List UInt8} {S M : List α}

theorem lex_total {l m : List UInt8} (h : l ≠ m) : lexLt l m = true ∨ lexLt m l = true := by
 cases h1 : lexLt l m with
 | true => exact .inl rfl
 | false =>
   cases h2 : lexLt m l with
   | true => exact .inr rfl
   | false => exact absurd (lex_tri _ _ h1 h2) h

theorem mem_insA {x r : α} : x ∈ insA kid S r ↔ x = r ∨ (x ∈ S ∧ kid x ≠ kid r) := by
 unfold insA
 simp only [List.mem_append, List.mem_cons, List.mem_filter]
 constructor
 · rintro (⟨h1, h2⟩ | rfl | ⟨h1, h2⟩)
   · exact .inr ⟨h1, lex_ne h2⟩
   · exact .inl rfl
   · exact .inr ⟨h1, (lex_ne h2).symm⟩
 · rintro (rfl | ⟨h1, h2⟩)
   · exact .inr (.inl rfl)
   · rcases lex_total h2 with h | h
     · exact .inl ⟨h1, h⟩
     · exact .inr (.inr ⟨h1, h⟩)
theorem mem_delA {x : α} {id : List UInt8} : x ∈ delA kid S id ↔ x ∈ S ∧ kid x ≠ id := by simp [delA]
theorem asc_insA (h : AscBy kid S) (r : α) : AscBy kid (insA kid S r) := by
 unfold insA AscBy
 refine List.pairwise_append.2 ⟨h.sublist List.filter_sublist, List.pairwise_cons.2 ⟨fun x hx => (List.mem_filter.1 hx).2, h.sublist List.filter_sublist⟩, fun x hx y hy => ?_⟩
 have h1 := (List.mem_filter.1 hx).2
 rcases List.mem_cons.1 hy with rfl | hy
 · exact h1
 · exact lex_trans _ _ _ h1 (List.mem_filter.1 hy).2
theorem asc_delA (h : AscBy kid S) (id : List UInt8) : AscBy kid (delA kid S id) := h.sublist List.filter_sublist
theorem asc_ne (h : AscBy kid S) : S.Pairwise fun x y => kid x ≠ kid y := h.imp fun h => lex_ne h

theorem findA_mem {id : List UInt8} {r : α} (h : findA kid S id = some r) : r ∈ S ∧ kid r = id := ⟨List.mem_of_find?_eq_some h, by simpa using List.find?_some h⟩
theorem findA_none {id : List UInt8} (h : findA kid S id = none) : ∀ r ∈ S, kid r ≠ id := by
 intro r hr
 rw [findA, List.find?_eq_none] at h
 simpa using h r hr
theorem findA_iff (h : AscBy kid S) {r : α} : findA kid S (kid r) = some r ↔ r ∈ S := by
 constructor
 · exact fun hf => (findA_mem hf).1
 · intro hr
   cases hq : findA kid S (kid r) with
   | none => exact absurd rfl (findA_none hq r hr)
   | some z =>
     obtain ⟨h1, h2⟩ := findA_mem hq
     rw [asc_nodup h h1 hr h2]
theorem insA_len (S : List α) (r : α) : (insA kid S r).length ≤ S.length + 1 := by
 have key : ∀ T : List α, (T.filter fun s => lexLt (kid s) (kid r)).length + (T.filter fun s => lexLt (kid r) (kid s)).length ≤ T.length := by
   intro T
   induction T with
   | nil => simp
   | cons x T ih =>
     cases h1 : lexLt (kid x) (kid r) with
     | true =>
       have h2 := lex_asymm h1
       simp [List.filter_cons, h1, h2]; omega
     | false => cases h2 : lexLt (kid r) (kid x) <;> simp [List.filter_cons, h1, h2] <;> omega
 have := key S
 simp only [insA, List.length_append, List.length_cons]
 omega
theorem insA_len_in {S : List α} (hS : AscBy kid S) {r : α} (h : findA kid S (kid r) ≠ none) : (insA kid S r).length ≤ S.length := by
 obtain ⟨y, hy⟩ : ∃ y, findA kid S (kid r) = some y := by
   cases hq : findA kid S (kid r) with
   | none => exact absurd hq h
   | some y => exact ⟨y, rfl⟩
 obtain ⟨h1, h2⟩ := findA_mem hy
 obtain ⟨A, B, rfl⟩ := List.append_of_mem h1
 have hp := List.pairwise_append.1 hS
 have hA : A.filter (fun s => lexLt (kid r) (kid s)) = [] := List.filter_eq_nil_iff.2 fun x hx => by
   have := hp.2.2 x hx y (by simp)
   rw [h2] at this
   rw [lex_asymm this]; simp
 have hB : B.filter (fun s => lexLt (kid s) (kid r)) = [] := List.filter_eq_nil_iff.2 fun x hx => by
   have := (List.pairwise_cons.1 hp.2.1).1 x hx
   rw [h2] at this
   rw [lex_asymm this]; simp
 have l1 := List.length_filter_le (fun s => lexLt (kid s) (kid r)) A
 have l2 := List.length_filter_le (fun s => lexLt (kid r) (kid s)) B
 simp only [insA, List.filter_append, List.filter_cons, hA, hB, h2, lex_irrefl, List.length_append, List.length_cons, List.nil_append, List.append_nil, Bool.false_eq_true, if_false]
 omega
theorem delA_len (S : List α) (id : List UInt8) : (delA kid S id).length ≤ S.length := List.length_filter_le _ _
theorem delA_len_in {S : List α} {id : List UInt8} {y : α} (h : findA kid S id = some y) : (delA kid S id).length + 1 ≤ S.length := by
 obtain ⟨h1, h2⟩ := findA_mem h
 obtain ⟨A, B, rfl⟩ := List.append_of_mem h1
 have l1 := List.length_filter_le (fun s => !decide (kid s = id)) A
 have l2 := List.length_filter_le (fun s => !decide (kid s = id)) B
 simp only [delA, List.filter_append, List.filter_cons, h2, List.length_append, List.length_cons, decide_true, Bool.not_true, Bool.false_eq_true, if_false]
 omega

structure MapIsA (kid : α → List UInt8) (M S : List α) : Prop where
 perm : M.Perm S
 asc : AscBy kid S
theorem MapIsA.nil : MapIsA kid [] [] := ⟨List.Perm.refl _, List.Pairwise.nil⟩

theorem fnd_find (hp : M.Perm S) (hS : AscBy kid S) (id : List UInt8) : (fndM kid M id).map (·.2) = findA kid S id := by
 cases hf : fndM kid M id with
 | none =>
   have hn := fnd_none hf
   symm
   rw [Option.map_none, findA, List.find?_eq_none]
   intro r hr
   have := hn r (hp.mem_iff.2 hr)
   simpa using this
 | some p =>
   obtain ⟨j, y⟩ := p
   obtain ⟨hj, hy⟩ := fnd_some hf
   have hyS : y ∈ S := hp.mem_iff.1 (List.mem_of_getElem? hj)
   rw [Option.map_some, ← hy]
   exact ((findA_iff hS).2 hyS).symm
theorem MapIsA.find (h : MapIsA kid M S) (id : List UInt8) : (fndM kid M id).map (·.2) = findA kid S id := fnd_find h.perm h.asc id

theorem split_at {M : List α} {j : Nat} {y : α} (hj : M[j]? = some y) : M = M.take j ++ y :: M.drop (j + 1) ∧ (∀ r, M.set j r = M.take j ++ r :: M.drop (j + 1)) ∧ M.eraseIdx j = M.take j ++ M.drop (j + 1) := by
 obtain ⟨hl, e⟩ := List.getElem?_eq_some_iff.1 hj
 refine ⟨?_, fun r => ?_, List.eraseIdx_eq_take_drop_succ ..⟩
 · rw [← e, ← List.drop_eq_getElem_cons hl, List.take_append_drop]
 · rw [List.set_eq_take_append_cons_drop, if_pos hl]

theorem MapIsA.nd (h : MapIsA kid M S) : M.Pairwise fun x y => kid x ≠ kid y := (asc_ne h.asc).perm h.perm.symm fun h => h.symm

theorem nodup_of_ne {M : List α} (h : M.Pairwise fun x y => kid x ≠ kid y) : M.Nodup := h.imp fun h e => h (by rw [e])

theorem MapIsA.upd (h : MapIsA kid M S) (r : α) : MapIsA kid (updM kid M r) (insA kid S r) := by
 refine ⟨?_, asc_insA h.asc r⟩
 have hnd : (updM kid M r).Pairwise fun x y => kid x ≠ kid y := by
   unfold updM
   cases hf : fndM kid M (kid r) with
   | none =>
     have hn := fnd_none hf
     exact List.pairwise_append.2 ⟨h.nd, by simp, fun x hx y hy => by simp at hy; rw [hy]; exact hn x hx⟩
   | some p =>
     obtain ⟨j, y⟩ := p
     obtain ⟨hj, hy⟩ := fnd_some hf
     obtain ⟨h1, h2, _⟩ := split_at hj
     have hM := h.nd
     rw [h1] at hM
     show (M.set j r).Pairwise _
     rw [h2]
     have hp := List.pairwise_append.1 hM
     have hc := List.pairwise_cons.1 hp.2.1
     refine List.pairwise_append.2 ⟨hp.1, List.pairwise_cons.2 ⟨fun x hx => by rw [← hy]; exact hc.1 x hx, hc.2⟩, fun x hx z hz => ?_⟩
     rcases List.mem_cons.1 hz with rfl | hz
     · rw [← hy]; exact hp.2.2 x hx y (by simp)
     · exact hp.2.2 x hx z (by simp [hz])
 refine (List.perm_ext_iff_of_nodup (nodup_of_ne hnd) (nodup_of_ne (asc_ne (asc_insA h.asc r)))).2 fun x => ?_
 rw [mem_insA, ← h.perm.mem_iff]
 unfold updM
 cases hf : fndM kid M (kid r) with
 | none =>
   have hn := fnd_none hf
   show x ∈ M ++ [r] ↔ _
   rw [List.mem_append, List.mem_singleton]
   constructor
   · rintro (h1 | rfl)
     · exact .inr ⟨h1, hn x h1⟩
     · exact .inl rfl
   · rintro (rfl | ⟨h1, _⟩)
     · exact .inr rfl
     · exact .inl h1
 | some p =>
   obtain ⟨j, y⟩ := p
   obtain ⟨hj, hy⟩ := fnd_some hf
   obtain ⟨h1, h2, _⟩ := split_at hj
   show x ∈ M.set j r ↔ _
   rw [h2]
   have hM := h.nd
   rw [h1] at hM
   have hp := List.pairwise_append.1 hM
   have hc := List.pairwise_cons.1 hp.2.1
   constructor
   · intro hx
     rcases List.mem_append.1 hx with hx | hx
     · refine .inr ⟨by rw [h1]; simp [hx], ?_⟩
       rw [← hy]; exact hp.2.2 x hx y (by simp)
     · rcases List.mem_cons.1 hx with rfl | hx
       · exact .inl rfl
       · refine .inr ⟨by rw [h1]; simp [hx], ?_⟩
         rw [← hy]; exact (hc.1 x hx).symm
   · rintro (rfl | ⟨hx, hne⟩)
     · simp
     · rw [h1] at hx
       rcases List.mem_append.1 hx with hx | hx
       · simp [hx]
       · rcases List.mem_cons.1 hx with rfl | hx
         · exact absurd hy hne
         · simp [hx]

theorem MapIsA.del (h : MapIsA kid M S) {id : List UInt8} {j : Nat} {y : α} (hf : fndM kid M id = some (j, y)) : MapIsA kid (M.eraseIdx j) (delA kid S id) := by
 obtain ⟨hj, hy⟩ := fnd_some hf
 obtain ⟨h1, _, h3⟩ := split_at hj
 refine ⟨?_, asc_delA h.asc id⟩
 have hM := h.nd
 refine (List.perm_ext_iff_of_nodup (nodup_of_ne (hM.sublist (List.eraseIdx_sublist _ _))) (nodup_of_ne (asc_ne (asc_delA h.asc id)))).2 fun x => ?_
 rw [mem_delA, ← h.perm.mem_iff, h3]
 rw [h1] at hM
 have hp := List.pairwise_append.1 hM
 have hc := List.pairwise_cons.1 hp.2.1
 constructor
 · intro hx
   rcases List.mem_append.1 hx with hx | hx
   · refine ⟨by rw [h1]; simp [hx], ?_⟩
     rw [← hy]; exact hp.2.2 x hx y (by simp)
   · refine ⟨by rw [h1]; simp [hx], ?_⟩
     rw [← hy]; exact (hc.1 x hx).symm
 · rintro ⟨hx, hne⟩
   rw [h1] at hx
   rcases List.mem_append.1 hx with hx | hx
   · simp [hx]
   · rcases List.mem_cons.1 hx with rfl | hx
     · exact absurd hy hne
     · simp [hx]
theorem MapE.congr {key val val' : α → Value} {es : Array MapEntry} {ck : Nat} (h : MapE key val es ck M) (hv : ∀ r ∈ M, val r = val' r) : MapE key val' es ck M := by
 refine ⟨?_, h.born, h.old⟩
 rw [h.ents]
 exact List.map_congr_left fun r hr => by rw [hv r hr]
end

end Go.Proofs.YtpmhjnhgpplmnaaGreatDoor
end

section
namespace Go.Proofs.YtpmhjnhgpplmnaaGreatDoor
open Go Sx
set_option maxRecDepth 8000

abbrev Nm := List UInt8
structure Ent where
 name : Nm
 file : Nat
abbrev Dir := List Ent
structure ChM where
 made : Option Nat
 fr : Nm
 to : Nm
structure FileM where
 data : List UInt8
 syn : Nat
structure DiskM where
 size : Int
 files : List FileM
 now : Dir
 syn : Dir
 chs : List ChM
 steps : Nat
 down : Bool
 arm : Option Nat
 fails : List Nat

def goodB (b : UInt8) : Bool := decide (33 ≤ b.toNat) && decide (b.toNat ≤ 126) && !decide (b.toNat = 47)
def goodN (l : Nm) : Bool := decide (0 < l.length) && decide (l.length ≤ 64) && l.all goodB

abbrev findD (d : Dir) (n : Nm) : Option Ent := findA Ent.name d n
def mkD (d : Dir) (c : ChM) : Dir := match c.made with
 | some i => insA Ent.name d ⟨c.to, i⟩
 | none => match findD d c.fr with
   | none => d
   | some e => if c.to = [] then delA Ent.name d c.fr else insA Ent.name (delA Ent.name d c.fr) ⟨c.to, e.file⟩
def replay (d : Dir) (cs : List ChM) : Dir := cs.foldl mkD d
theorem replay_snoc (d : Dir) (cs : List ChM) (c : ChM) : replay d (cs ++ [c]) = mkD (replay d cs) c := by simp [replay]

def file0 : FileM := ⟨[], 0⟩
def fileAt (fs : List FileM) (i : Nat) : FileM := fs.getD i file0
def usedM (m : DiskM) : Nat := (m.now.map fun e => (fileAt m.files e.file).data.length).sum
def setF (fs : List FileM) (i : Nat) (f : FileM → FileM) : List FileM := fs.set i (f (fileAt fs i))

def stepM (m : DiskM) : DiskM × Option Int :=
 if m.arm = some 0 then ({ m with down := true }, some 1)
 else match m.fails with
   | [] => ({ m with steps := m.steps + 1, arm := m.arm.map (· - 1) }, none)
   | 0 :: r => ({ m with steps := m.steps + 1, arm := m.arm.map (· - 1), fails := r }, some 2)
   | (k + 1) :: r => ({ m with steps := m.steps + 1, arm := m.arm.map (· - 1), fails := k :: r }, none)
def readyM (m : DiskM) (ns : List Nm) : Option Int := if m.down then some 1 else if ns.all goodN then none else some 6
def foundE (m : DiskM) (n : Nm) : Option Int := if m.down then some 1 else if !goodN n then some 6 else if (findD m.now n).isNone then some 5 else none
def foundI (m : DiskM) (n : Nm) : Nat := ((findD m.now n).map (·.file)).getD 0

def stepsM (m : DiskM) (f : DiskM → DiskM) : DiskM × Option Int := match (stepM m).2 with
 | some e => ((stepM m).1, some e)
 | none => (f (stepM m).1, none)
def chMade (m : DiskM) (n : Nm) : ChM := ⟨some m.files.length, [], n⟩
def doCh (m : DiskM) (c : ChM) : DiskM := { m with now := mkD m.now c, chs := m.chs ++ [c] }
def createF (m : DiskM) (n : Nm) : DiskM := { doCh m (chMade m n) with files := m.files ++ [file0] }
def createM (m : DiskM) (n : Nm) : DiskM × Option Int := match readyM m [n] with
 | some e => (m, some e)
 | none => if (findD m.now n).isSome then (m, some 4) else if 4096 ≤ m.now.length then (m, some 19) else stepsM m fun m => createF m n
def fits : Int → List (List UInt8) → Bool
 | _, [] => true
 | r, p :: ps => decide ((p.length : Int) ≤ r) && fits (r - p.length) ps
def appendF (m : DiskM) (i : Nat) (ps : List (List UInt8)) : DiskM := { m with files := setF m.files i fun f => ⟨f.data ++ ps.flatten, f.syn⟩ }
def appendM (m : DiskM) (n : Nm) (ps : List (List UInt8)) : DiskM × Option Int := match foundE m n with
 | some e => (m, some e)
 | none => if fits (m.size - usedM m) ps then stepsM m fun m' => appendF m' (foundI m n) ps else (m, some 3)
def syncF (m : DiskM) (i : Nat) : DiskM := { m with files := setF m.files i fun f => ⟨f.data, f.data.length⟩ }
def syncM (m : DiskM) (n : Nm) : DiskM × Option Int := match foundE m n with
 | some e => (m, some e)
 | none => stepsM m fun m' => syncF m' (foundI m n)
def syncDirF (m : DiskM) : DiskM := { m with syn := m.now, chs := [] }
def syncDirM (m : DiskM) : DiskM × Option Int := match readyM m [] with
 | some e => (m, some e)
 | none => stepsM m syncDirF
def renameM (m : DiskM) (a b : Nm) : DiskM × Option Int := match readyM m [a, b] with
 | some e => (m, some e)
 | none => match foundE m a with
   | some e => (m, some e)
   | none => stepsM m fun m => doCh m ⟨none, a, b⟩
def removeM (m : DiskM) (n : Nm) : DiskM × Option Int := match foundE m n with
 | some e => (m, some e)
 | none => stepsM m fun m => doCh m ⟨none, n, []⟩
def readF (m : DiskM) (n : Nm) : List UInt8 := if (foundE m n).isSome then [] else (fileAt m.files (foundI m n)).data
def newM (size : Int) : DiskM := ⟨size, [], [], [], [], 0, false, none, []⟩

structure OkDir (k : Nat) (d : Dir) : Prop where
 asc : AscBy Ent.name d
 len : d.length ≤ 4096
 ent : ∀ e ∈ d, e.file < k ∧ goodN e.name = true
 inj : d.Pairwise fun x y => x.file ≠ y.file
structure WFD (m : DiskM) : Prop where
 now : m.now = replay m.syn m.chs
 dirs : ∀ k, OkDir m.files.length (replay m.syn (m.chs.take k))
 made : ∀ c ∈ m.chs, ∀ i, c.made = some i → i < m.files.length
 syn : ∀ f ∈ m.files, f.syn ≤ f.data.length ∧ f.data.length ≤ 1099511627776
 size : 0 ≤ m.size ∧ m.size ≤ 67108864

theorem WFD.okNow {m : DiskM} (h : WFD m) : OkDir m.files.length m.now := by
 have := h.dirs m.chs.length
 rw [List.take_length, ← h.now] at this
 exact this
theorem WFD.okSyn {m : DiskM} (h : WFD m) : OkDir m.files.length m.syn := h.dirs 0
theorem OkDir.mono {k k' : Nat} {d : Dir} (h : OkDir k d) (hk : k ≤ k') : OkDir k' d := ⟨h.asc, h.len, fun e he => ⟨by have := (h.ent e he).1; omega, (h.ent e he).2⟩, h.inj⟩
theorem okDir_nil (k : Nat) : OkDir k [] := ⟨List.Pairwise.nil, by simp, by simp, List.Pairwise.nil⟩
theorem OkDir.del {k : Nat} {d : Dir} (h : OkDir k d) (n : Nm) : OkDir k (delA Ent.name d n) :=
 ⟨asc_delA h.asc n, Nat.le_trans (delA_len _ _) h.len, fun e he => h.ent e (mem_delA.1 he).1, h.inj.sublist List.filter_sublist⟩
theorem OkDir.inj' {k : Nat} {d : Dir} (h : OkDir k d) {x y : Ent} (hx : x ∈ d) (hy : y ∈ d) (he : x.file = y.file) : x = y := by
 have hi := h.inj
 clear h
 induction d with
 | nil => simp at hx
 | cons z d ih =>
   have a := List.pairwise_cons.1 hi
   rcases List.mem_cons.1 hx with e1 | h1 <;> rcases List.mem_cons.1 hy with e2 | h2
   · rw [e1, e2]
   · rw [e1] at he; exact absurd he (a.1 y h2)
   · rw [e2] at he; exact absurd he.symm (a.1 x h1)
   · exact ih h1 h2 a.2
theorem OkDir.ins {k : Nat} {d : Dir} (h : OkDir k d) {n : Nm} {i : Nat} (hi : i < k) (hn : goodN n = true) (hl : d.length + 1 ≤ 4096 ∨ findD d n ≠ none) (hne : ∀ e ∈ d, e.name ≠ n → e.file ≠ i) : OkDir k (insA Ent.name d ⟨n, i⟩) := by
 refine ⟨asc_insA h.asc _, ?_, fun e he => ?_, ?_⟩
 · rcases hl with hl | hl
   · exact Nat.le_trans (insA_len d _) hl
   · exact Nat.le_trans (insA_len_in h.asc hl) h.len
 · rcases mem_insA.1 he with rfl | ⟨he, _⟩
   · exact ⟨hi, hn⟩
   · exact h.ent e he
 · unfold insA
   refine List.pairwise_append.2 ⟨h.inj.sublist List.filter_sublist, List.pairwise_cons.2 ⟨fun x hx => ?_, h.inj.sublist List.filter_sublist⟩, fun x hx y hy => ?_⟩
   · have h1 := List.mem_filter.1 hx
     exact (hne x h1.1 (lex_ne h1.2).symm).symm
   · have h1 := List.mem_filter.1 hx
     rcases List.mem_cons.1 hy with rfl | hy
     · exact hne x h1.1 (lex_ne h1.2)
     · have h2 := List.mem_filter.1 hy
       intro e
       have e2 := h.inj' h1.1 h2.1 e
       subst e2
       have := lex_trans _ _ _ h1.2 h2.2
       rw [lex_irrefl] at this
       cases this

theorem WFD.snoc {m : DiskM} (h : WFD m) {c : ChM} {fs : List FileM} (hfs : m.files.length ≤ fs.length) (hs : ∀ f ∈ fs, f.syn ≤ f.data.length ∧ f.data.length ≤ 1099511627776) (hc : ∀ i, c.made = some i → i < fs.length) (hd : OkDir fs.length (mkD m.now c)) :
   WFD { doCh m c with files := fs } := by
 refine ⟨?_, fun k => ?_, fun c' hc' => ?_, hs, h.size⟩
 · show mkD m.now c = replay m.syn (m.chs ++ [c])
   rw [replay_snoc, ← h.now]
 · show OkDir fs.length (replay m.syn ((m.chs ++ [c]).take k))
   by_cases hk : k ≤ m.chs.length
   · rw [List.take_append_of_le_length hk]
     exact (h.dirs k).mono hfs
   · rw [List.take_of_length_le (by simp; omega), replay_snoc, ← h.now]
     exact hd
 · rcases List.mem_append.1 hc' with h1 | h1
   · exact fun i hi => Nat.lt_of_lt_of_le (h.made c' h1 i hi) hfs
   · simp at h1; rw [h1]; exact hc
theorem stepM_cases (m : DiskM) : ∃ (s : Nat) (d : Bool) (a : Option Nat) (f : List Nat), (stepM m).1 = { m with steps := s, down := d, arm := a, fails := f } := by
 unfold stepM
 split
 · exact ⟨m.steps, true, m.arm, m.fails, by cases m; rfl⟩
 · split
   · rename_i h; exact ⟨_, m.down, _, [], by rw [← h]⟩
   · rename_i r h; exact ⟨_, m.down, _, _, rfl⟩
   · rename_i k r h; exact ⟨_, m.down, _, _, rfl⟩
theorem WFD.upd {m : DiskM} (h : WFD m) (s : Nat) (d : Bool) (a : Option Nat) (f : List Nat) : WFD { m with steps := s, down := d, arm := a, fails := f } := ⟨h.now, h.dirs, h.made, h.syn, h.size⟩
theorem WFD.step {m : DiskM} (h : WFD m) : WFD (stepM m).1 := by
 obtain ⟨s, d, a, f, e⟩ := stepM_cases m
 rw [e]; exact h.upd s d a f

end Go.Proofs.YtpmhjnhgpplmnaaGreatDoor
end

section
namespace Go.Proofs.YtpmhjnhgpplmnaaGreatDoor
open Go Sx
set_option maxRecDepth 8000

def PTab (w : World) : Prop := Lib.TabIs Tryz.prog w "internal/strconv.uint64pow10" .u64 Lib.pow10Tab
theorem PTab.keep0 {w w' : World} (h : PTab w) (hc : Chg [] w w') : PTab w' := by
 have hg : Tryz.prog.globalNamed "internal/strconv.uint64pow10" = some 3 := by kernel_rfl
 unfold PTab Lib.TabIs World.var? at *
 rw [hg] at h ⊢
 simp only [Option.bind_some] at h ⊢
 cases hh : w.heap[3]? with
 | none => rw [hh] at h; simp at h
 | some o =>
   have hlt := (Array.getElem?_eq_some_iff.1 hh).1
   rw [hc.block _ hlt (by simp), hh]
   rw [hh] at h
   exact h

theorem grow_chg (w : World) (q : Nat) (os : Array Obj) : Chg [] w (Sort.grow (w.drewN q) os) := ⟨rfl, rfl, rfl, by simp [Sort.grow, World.drewN], fun k hk _ => by simp [Sort.grow, World.drewN, Array.getElem?_append_left hk]⟩

theorem itoa_spec (num : Int) (h : -9223372036854775808 ≤ num ∧ num ≤ 9223372036854775807) (w : World) (hT : PTab w) : Calls Tryz.prog 95 #[.int .i64 num] w fun e w' => e = .returned (.string ⟨(Lib.itoa num).toArray⟩) ∧ Chg [] w w' := by
 refine Calls.mono (Any.strconv_Itoa laysItoa num h.1 h.2 w hT) ?_
 rintro e w' ⟨rfl, q, os, rfl⟩
 exact ⟨rfl, grow_chg w q os⟩

end Go.Proofs.YtpmhjnhgpplmnaaGreatDoor
end

section
namespace Go.Proofs.YtpmhjnhgpplmnaaGreatDoor
open Go Sx
set_option maxRecDepth 8000

theorem parse_snoc : ∀ (l : List UInt8) (acc v : Nat), Lib.parseUint10 acc l = .ok v → ∀ c : UInt8, 48 ≤ c.toNat → c.toNat ≤ 57 → v < 1844674407370955162 → v * 10 + (c.toNat - 48) < 18446744073709551616 → Lib.parseUint10 acc (l ++ [c]) = .ok (v * 10 + (c.toNat - 48))
 | [], acc, v, h, c, h1, h2, h3, h4 => by
   simp only [Lib.parseUint10] at h
   injection h with h
   subst h
   simp only [List.nil_append, Lib.parseUint10]
   rw [if_pos ⟨h1, h2⟩, if_neg (by omega), if_neg (by omega)]
 | b :: l, acc, v, h, c, h1, h2, h3, h4 => by
   simp only [Lib.parseUint10] at h
   simp only [List.cons_append, Lib.parseUint10]
   split at h
   · rename_i hb
     rw [if_pos hb]
     split at h
     · cases h
     · rename_i ha
       rw [if_neg ha]
       split at h
       · cases h
       · rename_i hc
         rw [if_neg hc]
         exact parse_snoc l _ v h c h1 h2 h3 h4
   · cases h
theorem dig_nat {k : Nat} (h : k < 10) : (UInt8.ofNat (48 + k)).toNat = 48 + k := by rw [UInt8.toNat_ofNat']; omega
theorem parse_dec : ∀ u : Nat, u < 9223372036854775808 → Lib.parseUint10 0 (Lib.decDigits u) = .ok u := by
 intro u
 induction u using Nat.strongRecOn with
 | ind u ih =>
   intro hu
   rw [Lib.decDigits]
   split
   · rename_i h
     have := parse_snoc [] 0 0 rfl (UInt8.ofNat (48 + u)) (by rw [dig_nat h]; omega) (by rw [dig_nat h]; omega) (by omega) (by rw [dig_nat h]; omega)
     rw [List.nil_append, dig_nat h] at this
     rw [this]
     congr 1; omega
   · rename_i h
     have hm : u % 10 < 10 := Nat.mod_lt _ (by decide)
     have := parse_snoc (Lib.decDigits (u / 10)) 0 (u / 10) (ih (u / 10) (by omega) (by omega)) (UInt8.ofNat (48 + u % 10)) (by rw [dig_nat hm]; omega) (by rw [dig_nat hm]; omega) (by omega) (by rw [dig_nat hm]; omega)
     rw [dig_nat hm] at this
     rw [this]
     congr 1; omega
theorem dec_ne (u : Nat) : Lib.decDigits u ≠ [] := by
 rw [Lib.decDigits]
 split <;> simp
theorem dec_byte : ∀ (u : Nat), ∀ b ∈ Lib.decDigits u, 48 ≤ b.toNat ∧ b.toNat ≤ 57 := by
 intro u
 induction u using Nat.strongRecOn with
 | ind u ih =>
   intro b hb
   rw [Lib.decDigits] at hb
   split at hb
   · rename_i h
     simp only [List.mem_singleton] at hb
     subst hb
     rw [dig_nat h]; omega
   · rcases List.mem_append.1 hb with hb | hb
     · exact ih (u / 10) (by omega) b hb
     · simp only [List.mem_singleton] at hb
       subst hb
       rw [dig_nat (Nat.mod_lt _ (by decide))]; omega
theorem atoi_dec {u : Nat} (hu : u < 9223372036854775808) : Lib.atoiAll (Lib.decDigits u) = .ok (u : Int) := by
 have hp := parse_dec u hu
 have hb := dec_byte u
 have hn := dec_ne u
 revert hp hb hn
 generalize Lib.decDigits u = l
 intro hp hb hn
 cases l with
 | nil => exact absurd rfl hn
 | cons c r =>
   have hc := hb c (by simp)
   have h1 : ¬ (c.toNat = 43 ∨ c.toNat = 45) := by omega
   have h2 : ¬ c.toNat = 45 := by omega
   have hm : Lib.parseMag (c :: r) = .ok u := by unfold Lib.parseMag; rw [if_neg (by simp)]; exact hp
   have hu2 : ¬ (9223372036854775808 ≤ u) := by omega
   unfold Lib.atoiAll
   dsimp only
   rw [if_neg h1, hm]
   simp only [h2, hu2, if_false, not_false_eq_true, true_and, false_and]
theorem itoa_nat (u : Nat) : Lib.itoa (u : Int) = Lib.decDigits u := Lib.itoa_nonneg u
theorem atoi_itoa {n : Int} (h0 : 0 ≤ n) (h1 : n ≤ 9223372036854775807) : Lib.atoiAll (Lib.itoa n) = .ok n := by
 obtain ⟨u, rfl⟩ : ∃ u : Nat, n = (u : Int) := ⟨n.toNat, by omega⟩
 rw [itoa_nat]
 exact atoi_dec (by omega)

def foldD (l : List UInt8) : Nat := l.foldl (fun n c => 10 * n + (c.toNat - 48)) 0
theorem foldD_snoc (l : List UInt8) (c : UInt8) : foldD (l ++ [c]) = 10 * foldD l + (c.toNat - 48) := by simp [foldD]
theorem foldD_dec : ∀ u : Nat, foldD (Lib.decDigits u) = u := by
 intro u
 induction u using Nat.strongRecOn with
 | ind u ih =>
   rw [Lib.decDigits]
   split
   · rename_i h
     have := foldD_snoc [] (UInt8.ofNat (48 + u))
     rw [List.nil_append, dig_nat h] at this
     rw [this]; simp [foldD]
   · rw [foldD_snoc, ih (u / 10) (by omega), dig_nat (Nat.mod_lt _ (by decide))]; omega
theorem foldl_lt : ∀ (l : List UInt8) (a : Nat), (∀ b ∈ l, 48 ≤ b.toNat ∧ b.toNat ≤ 57) → l.foldl (fun n c => 10 * n + (c.toNat - 48)) a < (a + 1) * 10 ^ l.length
 | [], a, _ => by simp
 | c :: l, a, h => by
   have h1 := foldl_lt l (10 * a + (c.toNat - 48)) fun b hb => h b (by simp [hb])
   have h2 := h c (by simp)
   rw [List.foldl_cons, List.length_cons, Nat.pow_succ]
   have h3 : (10 * a + (c.toNat - 48) + 1) * 10 ^ l.length ≤ (a + 1) * 10 * 10 ^ l.length := Nat.mul_le_mul_right _ (by omega)
   have h4 : (a + 1) * 10 * 10 ^ l.length = (a + 1) * (10 ^ l.length * 10) := by rw [Nat.mul_assoc, Nat.mul_comm 10]
   omega
theorem foldD_lt (l : List UInt8) (h : ∀ b ∈ l, 48 ≤ b.toNat ∧ b.toNat ≤ 57) : foldD l < 10 ^ l.length := by
 have := foldl_lt l 0 h
 rw [Nat.zero_add, Nat.one_mul] at this
 exact this
theorem dec_len : ∀ (k u : Nat), u < 10 ^ (k + 1) → (Lib.decDigits u).length ≤ k + 1
 | 0, u, h => by rw [Lib.decDigits, dif_pos (by simpa using h)]; simp
 | k + 1, u, h => by
   rw [Lib.decDigits]
   split
   · simp
   · rw [List.length_append, List.length_singleton]
     rw [Nat.pow_succ] at h
     have := dec_len k (u / 10) (by omega)
     omega

def nameD (c : UInt8) (n : Int) : List UInt8 := c :: Lib.itoa n
def numO (c : UInt8) (lo hi : Int) (s : List UInt8) : Option Int := match s with
 | [] => none
 | _ :: r => match Lib.atoiAll r with
   | .ok v => if lo ≤ v ∧ v ≤ hi ∧ nameD c v = s then some v else none
   | _ => none
theorem numO_iff {c : UInt8} {lo hi : Int} (h0 : 0 ≤ lo) (h1 : hi ≤ 9223372036854775807) {s : List UInt8} {v : Int} : numO c lo hi s = some v ↔ lo ≤ v ∧ v ≤ hi ∧ nameD c v = s := by
 constructor
 · intro h
   unfold numO at h
   split at h
   · cases h
   · split at h
     · split at h
       · rename_i hc
         obtain rfl := Option.some.inj h
         exact hc
       · cases h
     · cases h
 · rintro ⟨a, b, rfl⟩
   unfold numO nameD
   simp only [atoi_itoa (by omega : 0 ≤ v) (by omega)]
   rw [if_pos ⟨a, b, trivial⟩]
theorem numO_none {c : UInt8} {lo hi : Int} (h0 : 0 ≤ lo) (h1 : hi ≤ 9223372036854775807) {s : List UInt8} (h : ∀ v, lo ≤ v → v ≤ hi → nameD c v ≠ s) : numO c lo hi s = none := by
 cases hn : numO c lo hi s with
 | none => rfl
 | some v => obtain ⟨a, b, d⟩ := (numO_iff h0 h1).1 hn; exact absurd d (h v a b)
theorem nameD_form {c : UInt8} {v : Int} (h0 : 0 ≤ v) (h1 : v ≤ 1099511627776) : ∃ r, nameD c v = c :: r ∧ r ≠ [] ∧ r.length ≤ 13 ∧ (∀ b ∈ r, 48 ≤ b.toNat ∧ b.toNat ≤ 57) ∧ (foldD r : Int) = v := by
 obtain ⟨u, rfl⟩ : ∃ u : Nat, v = (u : Int) := ⟨v.toNat, by omega⟩
 refine ⟨Lib.decDigits u, by rw [nameD, itoa_nat], dec_ne u, dec_len 12 u (by omega), dec_byte u, by rw [foldD_dec]⟩

end Go.Proofs.YtpmhjnhgpplmnaaGreatDoor
end

section
namespace Go.Proofs.YtpmhjnhgpplmnaaGreatDoor
open Go.Shelf
def laysAtoi_ren : Go.Shelf.Ren := ⟨fun | 172 => 94 | 244 => 192 | 245 => 193 | 247 => 263 | 279 => 264 | 280 => 265 | 281 => 266 | 282 => 267 | 287 => 316 | 316 => 317 | 171 => 95 | 205 => 318 | 321 => 355 | 322 => 356 | 243 => 194 | 246 => 268 | 283 => 319 | 284 => 320 | 285 => 321 | 286 => 322 | 129 => 274 | 317 => 357 | 318 => 358 | 319 => 359 | 320 => 360 | 337 => 374 | 338 => 375 | n => n, fun | 9 => 9 | 3 => 3 | 75 => 58 | 76 => 182 | 4 => 4 | 5 => 5 | 167 => 356 | 37 => 26 | 0 => 0 | 85 => 357 | 2 => 2 | 168 => 359 | 53 => 42 | 175 => 412 | 46 => 299 | 210 => 416 | 127 => 454 | 145 => 457 | 143 => 455 | 21 => 21 | 171 => 417 | 173 => 419 | 212 => 459 | 51 => 370 | 20 => 20 | 213 => 460 | 232 => 39 | 233 => 368 | 80 => 482 | n => n, fun | 15 => 0 | 16 => 1 | 17 => 3 | 18 => 4 | 19 => 5 | n => n⟩
theorem laysAtoi : Go.Proofs.LaysC.n172 Tryz.prog laysAtoi_ren := {
 mixed := by kernel_rfl
 f129 := Tryz.func274.trans (congrArg some (by kernel_rfl))
 f171 := Tryz.func95.trans (congrArg some (by kernel_rfl))
 f172 := Tryz.func94.trans (congrArg some (by kernel_rfl))
 f205 := Tryz.func318.trans (congrArg some (by kernel_rfl))
 f243 := Tryz.func194.trans (congrArg some (by kernel_rfl))
 f244 := Tryz.func192.trans (congrArg some (by kernel_rfl))
 f245 := Tryz.func193.trans (congrArg some (by kernel_rfl))
 f246 := Tryz.func268.trans (congrArg some (by kernel_rfl))
 f247 := Tryz.func263.trans (congrArg some (by kernel_rfl))
 f279 := Tryz.func264.trans (congrArg some (by kernel_rfl))
 f280 := Tryz.func265.trans (congrArg some (by kernel_rfl))
 f281 := Tryz.func266.trans (congrArg some (by kernel_rfl))
 f282 := Tryz.func267.trans (congrArg some (by kernel_rfl))
 f283 := Tryz.func319.trans (congrArg some (by kernel_rfl))
 f284 := Tryz.func320.trans (congrArg some (by kernel_rfl))
 f285 := Tryz.func321.trans (congrArg some (by kernel_rfl))
 f286 := Tryz.func322.trans (congrArg some (by kernel_rfl))
 f287 := Tryz.func316.trans (congrArg some (by kernel_rfl))
 f316 := Tryz.func317.trans (congrArg some (by kernel_rfl))
 f317 := Tryz.func357.trans (congrArg some (by kernel_rfl))
 f318 := Tryz.func358.trans (congrArg some (by kernel_rfl))
 f319 := Tryz.func359.trans (congrArg some (by kernel_rfl))
 f320 := Tryz.func360.trans (congrArg some (by kernel_rfl))
 f321 := Tryz.func355.trans (congrArg some (by kernel_rfl))
 f322 := Tryz.func356.trans (congrArg some (by kernel_rfl))
 f337 := Tryz.func374.trans (congrArg some (by kernel_rfl))
 f338 := Tryz.func375.trans (congrArg some (by kernel_rfl))
 t0 := Tryz.underlying0
 a0 := Tryz.isAgg0
 z0 := Tryz.sizeOf0
 v0 := Tryz.zeroValue0
 t2 := Tryz.underlying2
 a2 := Tryz.isAgg2
 z2 := Tryz.sizeOf2
 v2 := Tryz.zeroValue2
 t3 := Tryz.underlying3
 a3 := Tryz.isAgg3
 z3 := Tryz.sizeOf3
 v3 := Tryz.zeroValue3
 t4 := Tryz.underlying4
 a4 := Tryz.isAgg4
 z4 := Tryz.sizeOf4
 v4 := Tryz.zeroValue4
 t5 := Tryz.underlying5
 a5 := Tryz.isAgg5
 z5 := Tryz.sizeOf5
 v5 := Tryz.zeroValue5
 t9 := Tryz.underlying9
 a9 := Tryz.isAgg9
 z9 := Tryz.sizeOf9
 v9 := Tryz.zeroValue9
 t20 := Tryz.underlying20
 a20 := Tryz.isAgg20
 z20 := Tryz.sizeOf20
 v20 := Tryz.zeroValue20
 t21 := Tryz.underlying21
 a21 := Tryz.isAgg21
 z21 := Tryz.sizeOf21
 v21 := Tryz.zeroValue21
 t37 := Tryz.underlying26
 a37 := Tryz.isAgg26
 z37 := Tryz.sizeOf26
 v37 := Tryz.zeroValue26
 t46 := Tryz.underlying299
 a46 := Tryz.isAgg299
 z46 := Tryz.sizeOf299
 v46 := Tryz.zeroValue299
 t51 := Tryz.underlying370
 a51 := Tryz.isAgg370
 z51 := Tryz.sizeOf370
 v51 := Tryz.zeroValue370
 t53 := Tryz.underlying42
 a53 := Tryz.isAgg42
 z53 := Tryz.sizeOf42
 v53 := Tryz.zeroValue42
 t75 := Tryz.underlying58
 a75 := Tryz.isAgg58
 z75 := Tryz.sizeOf58
 v75 := Tryz.zeroValue58
 t76 := Tryz.underlying182
 a76 := Tryz.isAgg182
 z76 := Tryz.sizeOf182
 v76 := Tryz.zeroValue182
 t85 := Tryz.underlying357
 a85 := Tryz.isAgg357
 z85 := Tryz.sizeOf357
 v85 := Tryz.zeroValue357
 t127 := Tryz.underlying454
 a127 := Tryz.isAgg454
 z127 := Tryz.sizeOf454
 v127 := Tryz.zeroValue454
 t143 := Tryz.underlying455
 a143 := Tryz.isAgg455
 z143 := Tryz.sizeOf455
 v143 := Tryz.zeroValue455
 t145 := Tryz.underlying457
 a145 := Tryz.isAgg457
 z145 := Tryz.sizeOf457
 v145 := Tryz.zeroValue457
 t167 := Tryz.underlying356
 a167 := Tryz.isAgg356
 z167 := Tryz.sizeOf356
 v167 := Tryz.zeroValue356
 t168 := Tryz.underlying359
 a168 := Tryz.isAgg359
 z168 := Tryz.sizeOf359
 v168 := Tryz.zeroValue359
 t171 := Tryz.underlying417
 a171 := Tryz.isAgg417
 z171 := Tryz.sizeOf417
 v171 := Tryz.zeroValue417
 t173 := Tryz.underlying419
 a173 := Tryz.isAgg419
 z173 := Tryz.sizeOf419
 v173 := Tryz.zeroValue419
 t175 := Tryz.underlying412
 a175 := Tryz.isAgg412
 z175 := Tryz.sizeOf412
 v175 := Tryz.zeroValue412
 t210 := Tryz.underlying416
 a210 := Tryz.isAgg416
 z210 := Tryz.sizeOf416
 v210 := Tryz.zeroValue416
 t212 := Tryz.underlying459
 a212 := Tryz.isAgg459
 z212 := Tryz.sizeOf459
 v212 := Tryz.zeroValue459
 t213 := Tryz.underlying460
 a213 := Tryz.isAgg460
 z213 := Tryz.sizeOf460
 t232 := Tryz.underlying39
 a232 := Tryz.isAgg39
 z232 := Tryz.sizeOf39
 v232 := Tryz.zeroValue39
 t233 := Tryz.underlying368
 a233 := Tryz.isAgg368
 z233 := Tryz.sizeOf368
 v233 := Tryz.zeroValue368
 g15 := by kernel_rfl
 g16 := by kernel_rfl
 g17 := by kernel_rfl
 g18 := by kernel_rfl
 g19 := by kernel_rfl
 t80 := Tryz.underlying482
 a80 := Tryz.isAgg482
 z80 := Tryz.sizeOf482
 v80 := Tryz.zeroValue482
 i0 := by kernel_rfl
 i2 := by kernel_rfl
 i3 := by kernel_rfl
 i4 := by kernel_rfl
 i5 := by kernel_rfl
 i9 := by kernel_rfl
 i20 := by kernel_rfl
 i21 := by kernel_rfl
 i37 := by kernel_rfl
 i46 := by kernel_rfl
 i51 := by kernel_rfl
 i53 := by kernel_rfl
 i75 := by kernel_rfl
 i76 := by kernel_rfl
 i80 := by kernel_rfl
 i85 := by kernel_rfl
 i127 := by kernel_rfl
 i143 := by kernel_rfl
 i145 := by kernel_rfl
 i167 := by kernel_rfl
 i168 := by kernel_rfl
 i171 := by kernel_rfl
 i173 := by kernel_rfl
 i175 := by kernel_rfl
 i210 := by kernel_rfl
 i212 := by kernel_rfl
 i232 := by kernel_rfl
 i233 := by kernel_rfl
 m15 := by kernel_rfl
 m16 := by kernel_rfl
 m17 := by kernel_rfl
 m18 := by kernel_rfl
 m19 := by kernel_rfl
 c0 := by kernel_rfl
 c2 := by kernel_rfl
 c3 := by kernel_rfl
 c4 := by kernel_rfl
 c5 := by kernel_rfl
 c9 := by kernel_rfl
 c20 := by kernel_rfl
 c21 := by kernel_rfl
 c37 := by kernel_rfl
 c46 := by kernel_rfl
 c51 := by kernel_rfl
 c53 := by kernel_rfl
 c75 := by kernel_rfl
 c76 := by kernel_rfl
 c80 := by kernel_rfl
 c85 := by kernel_rfl
 c127 := by kernel_rfl
 c143 := by kernel_rfl
 c145 := by kernel_rfl
 c167 := by kernel_rfl
 c168 := by kernel_rfl
 c171 := by kernel_rfl
 c173 := by kernel_rfl
 c175 := by kernel_rfl
 c210 := by kernel_rfl
 c212 := by kernel_rfl
 c213 := by kernel_rfl
 c232 := by kernel_rfl
 c233 := by kernel_rfl }
end Go.Proofs.YtpmhjnhgpplmnaaGreatDoor
end
