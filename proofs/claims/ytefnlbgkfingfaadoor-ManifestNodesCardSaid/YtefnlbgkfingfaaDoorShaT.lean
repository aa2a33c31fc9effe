/- Contracts of Derive and of the reference's Derive (conditions: the table lies where the program laid it). -/
import Derived.Test.YtefnlbgkfingfaaDoorShaS
namespace Go.Proofs.YtefnlbgkfingfaaDoor
open Go Sx
set_option maxRecDepth 8000

theorem byteI (j : Nat) : IntKind.wrap .u8 ((j + 1 : Nat) : Int) = ((UInt8.ofNat (j + 1)).toNat : Int) := by
  rw [wrap_u8, UInt8.toNat_ofNat']; omega

theorem macF_congr {k k' : List UInt8} (h : macK k = macK k') (m : List UInt8) : macF k m = macF k' m := by simp only [macF, h]

theorem outF_bound {n j : Nat} (h1 : n ≤ 32 * j) (h2 : j = 0 ∨ 32 * (j - 1) < n) : (n + 31) / 32 = j := by omega

theorem rderive_specN (a0 : Option Addr) (n0 c0 : Nat) (salt : List UInt8) (a1 : Option Addr) (n1 c1 : Nat) (secret : List UInt8) (a2 : Option Addr) (n2 c2 : Nat) (info : List UInt8) (x : Int) (w : World) (hr0 : RdB w a0 n0 c0 salt) (hr1 : RdB w a1 n1 c1 secret) (hr2 : RdB w a2 n2 c2 info) (hb : n0 + n1 + n2 ≤ 1099511627776) :
    Calls Tryd.prog 42 #[.slice a0 n0 c0, .slice a1 n1 c1, .slice a2 n2 c2, .int .i64 x] w fun e w' =>
      ((x < 0 ∨ 8160 < x) ∧ e = .returned (.tuple #[.slice none 0 0, .int .i64 7]) ∧ w' = w) ∨
      (0 ≤ x ∧ x ≤ 8160 ∧ ∃ a n c, e = .returned (.tuple #[.slice a n c, .int .i64 0]) ∧ Chg [] w w' ∧ RdB w' a n c (deriveF salt secret info x.toNat) ∧ ∀ ad, a = some ad → w.heap.size ≤ ad.block) := by
  have e0 := hr0.lenB
  have e1 := hr1.lenB
  have e2 := hr2.lenB
  apply amphoraref02_Derive_vc
  refine ⟨fun h => .inl ⟨by simp at h; omega, rfl, rfl⟩, fun h => ?_⟩
  have hx : 0 ≤ x ∧ x ≤ 8160 := by simp at h; omega
  obtain ⟨n, rfl⟩ := Int.eq_ofNat_of_zero_le hx.1
  clear h
  refine ⟨fun xa xn xc w' => ∃ s : List UInt8, RdB w' xa xn xc s ∧ macK s = macK salt ∧ xn ≤ 1099511627776 ∧ Chg [] w w', ⟨fun h => ?_, fun _ => ⟨salt, hr0, rfl, by omega, Chg.refl _ _⟩⟩, ?_⟩
  · have hn0 : n0 = 0 := by simp at h; omega
    have hs : salt = [] := List.eq_nil_of_length_eq_zero (by omega)
    obtain ⟨g, w1, r1, h1⟩ := (St.start w).mkN (kl := .i64) (kc := .i64) (c := 32) bT rfl (by omega) (by omega) (by omega)
    have h1' : St w [] w1 [.row 5 1 (.slice (some ⟨g, 0, none⟩) 32 32) 32 (bv (List.replicate 32 0))] := by rw [bv_zeros]; exact h1
    refine ⟨_, _, _, _, r1, List.replicate 32 0, h1'.rd (i := 0) rfl, ?_, by omega, h1.chg⟩
    rw [hs]; rfl
  rintro xa xn xc w2 ⟨s, hrs, hms, hxn, hc2⟩
  have es := hrs.lenB
  obtain ⟨g3, w3, r3, h3⟩ := (St.start w2).lit bbT [.slice a1 n1 c1] (by simp [Value.oneCell']) (by simp)
  have hc3 := hc2.trans h3.chg
  refine ⟨_, _, _, _, r3, (rmac_spec xa xn xc s _ 1 1 _ [secret] w3 (h3.rd1 hrs) (by omega) (h3.rd (i := 0) rfl) (row2_one (hr1.keep0 hc3)) (by simp; omega) (by decide)).mono ?_⟩
  rintro e w4 ⟨rfl, hc4⟩
  have hk1 : macF s [secret].flatten = macF salt secret := by rw [macF_congr hms]; simp
  rw [hk1]
  obtain ⟨prk, hprk⟩ : ∃ p, macF salt secret = p := ⟨_, rfl⟩
  have hpl : prk.length = 32 := by rw [← hprk]; exact macF_len _ _
  rw [hprk]
  have hdF : deriveF salt secret info n = (outF prk info ((n + 31) / 32)).take n := by rw [deriveF, hprk]
  have hc4' := hc3.trans hc4
  obtain ⟨g5, w5, r5, h5⟩ := ((St.start w).same hc4').zeroA d32Z
  obtain ⟨w6, r6, h6⟩ := h5.stA (i := 0) (v := bv prk) rfl (d32S _) (by simp) (by simp [hpl]) (bv_one _)
  have h6n := h6.addNil 5 1
  obtain ⟨g7, w7, r7, h7⟩ := h6n.lit bT [] (by simp) (by simp)
  refine ⟨_, rfl, g5, w5, r5, w6, r6, _, _, _, _, r7, fun xa xn xc ya yn yc z w' => ∃ j : Nat, z = ((j + 1 : Nat) : Int) ∧ (j = 0 ∨ 32 * (j - 1) < n) ∧ xn = 32 * j ∧ St w [] w' [.arr g5 22 (bv prk), .row 5 1 (.slice xa xn xc) xn (bv (outF prk info j)), .row 5 1 (.slice ya yn yc) yn (bv (tF prk info j))],
    fun _ xn _ _ _ _ _ _ => n + 32 - xn, ⟨0, rfl, .inl rfl, rfl, h7⟩, ?_⟩
  rintro xa' xn' xc' ya yn yc z w8 ⟨j, rfl, hj, rfl, h8⟩
  refine ⟨fun h => ?_, fun h => ?_⟩
  · have hlt : 32 * j < n := by simp at h; omega
    have htl : (tF prk info j).length ≤ 32 := by
      cases j with
      | zero => simp [tF]
      | succ j => simp [tF]
    rw [byteI]
    obtain ⟨g9, w9, r9, h9⟩ := h8.lit bT [.int .u8 ((UInt8.ofNat (j + 1)).toNat : Int)] (by simp [Value.oneCell']) (by simp)
    obtain ⟨g10, w10, r10, h10⟩ := h9.lit bbT [.slice ya yn yc, .slice a2 n2 c2, .slice (some ⟨g9, 0, none⟩) 1 1] (by simp [Value.oneCell']) (by simp)
    have q1 : RdB w10 ya yn yc (tF prk info j) := h10.rd (i := 2) rfl
    have q3 : RdB w10 (some ⟨g9, 0, none⟩) 1 1 [UInt8.ofNat (j + 1)] := h10.rd (i := 3) rfl
    refine ⟨by omega, by omega, _, _, _, _, r9, _, _, _, _, r10, (rmac_spec _ 32 32 prk _ 3 3 _ [tF prk info j, info, [UInt8.ofNat (j + 1)]] w10 (h10.rdA (i := 0) rfl (by simp [hpl])) (by omega) (h10.rd (i := 4) rfl) (row2_three q1 (h10.rd1 hr2) q3) (by simp; omega) (by decide)).mono ?_⟩
    rintro e w11 ⟨rfl, hc11⟩
    have hk2 : macF prk [tF prk info j, info, [UInt8.ofNat (j + 1)]].flatten = tF prk info (j + 1) := by rw [tF]; simp
    rw [hk2]
    have h11 := h10.same hc11
    obtain ⟨g12, w12, r12, h12⟩ := h11.zeroA d32Z
    have htl1 : (tF prk info (j + 1)).length = 32 := by simp [tF]
    obtain ⟨w13, r13, h13⟩ := h12.stA (i := 5) (v := bv (tF prk info (j + 1))) rfl (d32S _) (by simp) (by simp [htl1]) (bv_one _)
    obtain ⟨g14, w14, r14, h14⟩ := h13.lit bT [] (by simp) (by simp)
    obtain ⟨ta, tc, w15, r15, h15⟩ := h14.appendB (i := 6) (xs := []) rfl (h14.rdA (i := 5) (l := bv (tF prk info (j + 1))) (n := 32) rfl (by simp [htl1])) (by simp)
    simp only [List.length_nil, Nat.zero_add, List.nil_append] at r15 h15
    obtain ⟨va, vc, w16, r16, h16⟩ := h15.appendB (i := 1) rfl (h15.rd (i := 6) rfl) (by omega)
    have e1' : 32 * j + 32 = 32 * (j + 1) := by omega
    rw [e1'] at r16 h16
    refine ⟨_, rfl, g12, w12, r12, w13, r13, _, _, _, _, r14, by omega, by omega, _, _, _, _, r15, _, _, _, _, r16, ⟨j + 1, ?_, .inr (by omega), rfl, ?_⟩, ?_⟩
    · rw [wrap_i64 (by omega) (by omega)]; omega
    · have : List.Sublist [Res.arr g5 22 (bv prk), .row 5 1 (.slice va (32 * (j + 1)) vc) (32 * (j + 1)) (bv (outF prk info (j + 1))), .row 5 1 (.slice ta 32 tc) 32 (bv (tF prk info (j + 1)))]
          [Res.arr g5 22 (bv prk), .row 5 1 (.slice va (32 * (j + 1)) vc) (32 * (j + 1)) (bv (outF prk info (j + 1))), .row 5 1 (.slice ya yn yc) yn (bv (tF prk info j)), .row 5 1 (.slice (some ⟨g9, 0, none⟩) 1 1) 1 (bv [UInt8.ofNat (j + 1)]), .row 23 1 (.slice (some ⟨g10, 0, none⟩) 3 3) 3 [.slice ya yn yc, .slice a2 n2 c2, .slice (some ⟨g9, 0, none⟩) 1 1], .arr g12 22 (bv (tF prk info (j + 1))), .row 5 1 (.slice ta 32 tc) 32 (bv (tF prk info (j + 1)))] :=
        List.Sublist.cons_cons _ (List.Sublist.cons_cons _ (List.Sublist.cons _ (List.Sublist.cons _ (List.Sublist.cons _ (List.Sublist.cons _ (List.Sublist.refl _))))))
      exact St.sub h16 this
    · show n + 32 - 32 * (j + 1) < n + 32 - 32 * j
      omega
  · have hge : n ≤ 32 * j := by simp at h; omega
    have hj' := outF_bound hge hj
    have hrow := h8.rd (i := 1) rfl
    have hle := hrow.le
    refine ⟨by omega, by omega, .inr ⟨by omega, by omega, _, _, _, rfl, h8.chg, ?_, fun ad e => ?_⟩⟩
    · rw [Int.toNat_natCast, hdF, hj']
      exact rdB_upto (l := outF prk info j) hrow (k := n) hge
    · subst e
      have := h8.own 1 _ rfl ad.block (by simp [Res.fp, Value.ownBlock])
      simpa using this

theorem rderive_spec (a0 : Option Addr) (n0 c0 : Nat) (salt : List UInt8) (a1 : Option Addr) (n1 c1 : Nat) (secret : List UInt8) (a2 : Option Addr) (n2 c2 : Nat) (info : List UInt8) (x : Int) (w : World) (hr0 : RdB w a0 n0 c0 salt) (hr1 : RdB w a1 n1 c1 secret) (hr2 : RdB w a2 n2 c2 info) (hb : n0 + n1 + n2 ≤ 1099511627776) :
    Calls Tryd.prog 42 #[.slice a0 n0 c0, .slice a1 n1 c1, .slice a2 n2 c2, .int .i64 x] w fun e w' =>
      ((x < 0 ∨ 8160 < x) ∧ e = .returned (.tuple #[.slice none 0 0, .int .i64 7]) ∧ w' = w) ∨
      (0 ≤ x ∧ x ≤ 8160 ∧ ∃ a n c, e = .returned (.tuple #[.slice a n c, .int .i64 0]) ∧ Chg [] w w' ∧ RdB w' a n c (deriveF salt secret info x.toNat)) := by
  refine (rderive_specN a0 n0 c0 salt a1 n1 c1 secret a2 n2 c2 info x w hr0 hr1 hr2 hb).mono ?_
  rintro e w' (h | ⟨h1, h2, a, n, c, h3, h4, h5, _⟩)
  · exact .inl h
  · exact .inr ⟨h1, h2, a, n, c, h3, h4, h5⟩

end Go.Proofs.YtefnlbgkfingfaaDoor
