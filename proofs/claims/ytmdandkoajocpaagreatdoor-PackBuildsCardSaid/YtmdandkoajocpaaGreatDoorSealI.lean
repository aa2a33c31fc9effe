/- The contract of the reference's Seal (conditions: those that the theorem names). -/
import Derived.Test.YtmdandkoajocpaaGreatDoorSealH
import Derived.Test.YtmdandkoajocpaaGreatDoorSealE
namespace Go.Proofs.YtmdandkoajocpaaGreatDoor
open Go Sx
set_option maxRecDepth 8000

theorem rseal_spec (K : List UInt8) (k : UInt8) (a2 : Option Addr) (n2 c2 : Nat) (ctx : List UInt8) (a3 : Option Addr) (n3 c3 : Nat) (plain : List UInt8) (w : World)
    (hk : K.length = 96) (hr2 : RdB w a2 n2 c2 ctx) (hr3 : RdB w a3 n3 c3 plain) (hb : n2 + n3 ≤ 67100000) :
    Calls Tryz.prog 76 #[.agg (bv K).toArray, .int .u8 (k.toNat : Int), .slice a2 n2 c2, .slice a3 n3 c3] w fun e w' => ∃ a n c, e = .returned (.slice a n c) ∧ FreshB w w' a n c (sealF K k ctx plain) := by
  have e2 := hr2.lenB
  have e3 := hr3.lenB
  apply amphoraref05_Seal_vc
  obtain ⟨g1, w1, r1, h1⟩ := (St.start w).boxA 28 (bv K)
  have hd := Chg.drew [] w1
  have P20 : ∀ w' g, Chg [] w1 w' → RdB w' (some ⟨g, 0, none⟩) 1 1 [k] → ∃ g2 w'', (Instr.buildSlice 23 3 #[(0, .slice (some ⟨g, 0, none⟩) 1 1), (1, .slice a2 n2 c2), (2, .slice a3 n3 c3)]).run Tryz.prog w' = .ok (.slice (some ⟨g2, 0, none⟩) 3 3) w'' ∧ Chg [] w' w'' ∧
      Rd w'' (some ⟨g2, 0, none⟩) 3 3 1 [.slice (some ⟨g, 0, none⟩) 1 1, .slice a2 n2 c2, .slice a3 n3 c3] ∧ Row2 w'' [.slice (some ⟨g, 0, none⟩) 1 1, .slice a2 n2 c2, .slice a3 n3 c3] [[k], ctx, plain] := fun w' g hc hr => by
    obtain ⟨g2, w2, r2, c2', q2, _⟩ := litC bbT [.slice (some ⟨g, 0, none⟩) 1 1, .slice a2 n2 c2, .slice a3 n3 c3] (by simp [Value.oneCell']) (by simp) w'
    have hcc := h1.chg.trans (hc.trans c2')
    exact ⟨g2, w2, r2, c2', q2, row2_three (hr.keep0 c2') (hr2.keep0 hcc) (hr3.keep0 hcc)⟩
  obtain ⟨P, hP⟩ : ∃ P, packL [[k], ctx, plain] = P := ⟨_, rfl⟩
  have hpl : P.length ≤ 67109864 := by
    have := packL_len [[k], ctx, plain] (by simp; omega)
    rw [hP] at this
    simp at this
    omega
  have Ppk : ∀ w' g2 vs, Rd w' (some ⟨g2, 0, none⟩) 3 3 1 vs → Row2 w' vs [[k], ctx, plain] → Calls Tryz.prog 105 #[.slice (some ⟨g2, 0, none⟩) 3 3] w' fun e w'' => ∃ a n c, e = .returned (.slice a n c) ∧ FreshB w' w'' a n c P := fun w' g2 vs q qr => by
    have := rpack_spec _ 3 3 vs [[k], ctx, plain] w' q qr (by simp; omega) (by simp)
    rw [hP] at this; exact this
  have P22 : ∀ w' a n c, RdB w' a n c P → ∃ g2 w'', (Instr.buildSlice 23 1 #[(0, .slice a n c)]).run Tryz.prog w' = .ok (.slice (some ⟨g2, 0, none⟩) 1 1) w'' ∧ Chg [] w' w'' ∧ Rd w'' (some ⟨g2, 0, none⟩) 1 1 1 [.slice a n c] ∧ Row2 w'' [.slice a n c] [P] := fun w' a n c hr => by
    obtain ⟨g2, w2, r2, c2', q2, _⟩ := litC bbT [.slice a n c] (by simp [Value.oneCell']) (by simp) w'
    exact ⟨g2, w2, r2, c2', q2, row2_one (hr.keep0 c2')⟩
  obtain ⟨d, hdd⟩ : ∃ d, macF (nameK K) P = d := ⟨_, rfl⟩
  have hdl : d.length = 32 := by rw [← hdd]; exact macF_len _ _
  have Pm : ∀ w' g2 vs, Chg [] w1 w' → Rd w' (some ⟨g2, 0, none⟩) 1 1 1 vs → Row2 w' vs [P] → Calls Tryz.prog 101 #[.slice (some ⟨g1, 64, none⟩) 32 32, .slice (some ⟨g2, 0, none⟩) 1 1] w' fun e w'' => e = .returned (.agg (bv d).toArray) ∧ Chg [] w' w'' := fun w' g2 vs hc q qr => by
    have e1 : [P].flatten = P := by rw [List.flatten_cons, List.flatten_nil, List.append_nil]
    have := rmac_spec _ 32 32 (nameK K) _ 1 1 vs [P] w' (macK_rd (h1.same hc) (i := 0) rfl hk).2 (by omega) q qr (by rw [e1]; omega) (by decide)
    rw [e1, hdd] at this; exact this
  have hsf : sealF K k ctx plain = [k] ++ d.take 12 ++ overF K (d.take 12) plain ++ tagF K k ctx (d.take 12) (overF K (d.take 12) plain) := by rw [sealF, nonceF, hP, hdd]
  have fin : ∀ g9 w7, St w [] w7 [.arr g1 28 (bv K), .arr g9 22 (bv (List.replicate 32 0))] → ∃ w8, (Instr.storeAt 22 (.pointer (some ⟨g9, 0, none⟩)) (.agg (bv d).toArray)).run Tryz.prog w7 = .ok () w8 ∧ (0 = 0 ∧ St w [] w8 [.arr g1 28 (bv K), .arr g9 22 (bv d)]) := fun g9 w7 h7 => by
    obtain ⟨w8, r8, h8⟩ := h7.stA (i := 1) (v := bv d) rfl (d32S _) (by simp) (by simp [hdl]) (bv_one _)
    exact ⟨w8, r8, rfl, h8⟩
  obtain ⟨g3, w3, r3, c3', q3⟩ := litK k w1.drew
  have d3 := hd.trans c3'
  obtain ⟨g4, w4, r4, c4', q4, qr4⟩ := P20 w3 g3 d3 q3
  have d4 := d3.trans c4'
  refine ⟨g1, w1, r1, fun b o w' => o = 0 ∧ St w [] w' [.arr g1 28 (bv K), .arr b 22 (bv d)], ⟨by omega, by omega, ⟨_, _, _, _, r3, ⟨_, _, _, _, r4, (Ppk w4 g4 _ q4 qr4).mono ?_, ?_⟩, ?_⟩, ?_⟩, ?_⟩
  · rintro e w5 ⟨a5, n5, c5, rfl, hf5⟩
    have d5 := d4.trans hf5.1
    refine ⟨_, _, _, rfl, ?_, ?_⟩
    · obtain ⟨g6, w6, r6, c6', q6, qr6⟩ := P22 w5 _ _ _ hf5.rdB
      have d6 := d5.trans c6'
      refine ⟨_, _, _, _, r6, (Pm w6 g6 _ d6 q6 qr6).mono ?_, ?_⟩
      · rintro e w7 ⟨rfl, c7⟩
        obtain ⟨g9, w9, r9, h9⟩ := (h1.same (d6.trans c7)).zeroA d32Z
        exact ⟨_, rfl, g9, w9, r9, fin g9 w9 h9⟩
      · obtain ⟨g9, w9, r9, h9, c9⟩ := (h1.same d6).zeroAC d32Z
        refine ⟨g9, w9, r9, (Pm w9 g6 _ (d6.trans c9) (q6.keep0 c9) (qr6.keep0 c9)).mono ?_⟩
        rintro e w10 ⟨rfl, c10⟩
        exact ⟨_, rfl, fin g9 w10 (h9.same c10)⟩
    · obtain ⟨g9, w9, r9, h9, c9⟩ := (h1.same d5).zeroAC d32Z
      obtain ⟨g6, w6, r6, c6', q6, qr6⟩ := P22 w9 _ _ _ (hf5.rdB.keep0 c9)
      refine ⟨g9, w9, r9, _, _, _, _, r6, (Pm w6 g6 _ ((d5.trans c9).trans c6') q6 qr6).mono ?_⟩
      rintro e w10 ⟨rfl, c10⟩
      exact ⟨_, rfl, fin g9 w10 (h9.same (c6'.trans c10))⟩
  · obtain ⟨g9, w9, r9, h9, c9⟩ := (h1.same d4).zeroAC d32Z
    refine ⟨g9, w9, r9, (Ppk w9 g4 _ (q4.keep0 c9) (qr4.keep0 c9)).mono ?_⟩
    rintro e w5 ⟨a5, n5, c5, rfl, hf5⟩
    have d5 := (d4.trans c9).trans hf5.1
    obtain ⟨g6, w6, r6, c6', q6, qr6⟩ := P22 w5 _ _ _ hf5.rdB
    refine ⟨_, _, _, rfl, _, _, _, _, r6, (Pm w6 g6 _ (d5.trans c6') q6 qr6).mono ?_⟩
    rintro e w10 ⟨rfl, c10⟩
    exact ⟨_, rfl, fin g9 w10 (h9.same (hf5.1.trans (c6'.trans c10)))⟩
  · obtain ⟨g9, w9, r9, h9, c9⟩ := (h1.same d3).zeroAC d32Z
    obtain ⟨g4, w4, r4, c4', q4, qr4⟩ := P20 w9 g3 (d3.trans c9) (q3.keep0 c9)
    refine ⟨g9, w9, r9, _, _, _, _, r4, (Ppk w4 g4 _ q4 qr4).mono ?_⟩
    rintro e w5 ⟨a5, n5, c5, rfl, hf5⟩
    have d5 := ((d3.trans c9).trans c4').trans hf5.1
    obtain ⟨g6, w6, r6, c6', q6, qr6⟩ := P22 w5 _ _ _ hf5.rdB
    refine ⟨_, _, _, rfl, _, _, _, _, r6, (Pm w6 g6 _ (d5.trans c6') q6 qr6).mono ?_⟩
    rintro e w10 ⟨rfl, c10⟩
    exact ⟨_, rfl, fin g9 w10 (h9.same ((c4'.trans hf5.1).trans (c6'.trans c10)))⟩
  · obtain ⟨g9, w9, r9, h9, c9⟩ := (h1.same hd).zeroAC d32Z
    obtain ⟨g3, w3, r3, c3', q3⟩ := litK k w9
    have d3 := (hd.trans c9).trans c3'
    obtain ⟨g4, w4, r4, c4', q4, qr4⟩ := P20 w3 g3 d3 q3
    refine ⟨g9, w9, r9, _, _, _, _, r3, _, _, _, _, r4, (Ppk w4 g4 _ q4 qr4).mono ?_⟩
    rintro e w5 ⟨a5, n5, c5, rfl, hf5⟩
    have d5 := (d3.trans c4').trans hf5.1
    obtain ⟨g6, w6, r6, c6', q6, qr6⟩ := P22 w5 _ _ _ hf5.rdB
    refine ⟨_, _, _, rfl, _, _, _, _, r6, (Pm w6 g6 _ (d5.trans c6') q6 qr6).mono ?_⟩
    rintro e w10 ⟨rfl, c10⟩
    exact ⟨_, rfl, fin g9 w10 (h9.same ((c3'.trans (c4'.trans hf5.1)).trans (c6'.trans c10)))⟩
  clear fin Pm P22 Ppk P20 q4 qr4 r4 r3 q3 c3' c4' d3 d4
  obtain ⟨nn, hnn⟩ : ∃ n, d.take 12 = n := ⟨_, rfl⟩
  have hnl : nn.length = 12 := by rw [← hnn, List.length_take]; omega
  rw [hnn] at hsf
  rintro g9 o w7 ⟨rfl, h7⟩
  obtain ⟨g10, w8, r8, h8⟩ := h7.zeroA d12Z
  obtain ⟨w9, r9, h9⟩ := h8.stA (i := 2) (v := bv (mixG nn (List.replicate 12 0) 0)) rfl (d12S _) (by simp) (by rw [mixG_zero]; simp) (bv_one _)
  rw [mixG_zero] at r9
  refine ⟨_, d12B _, g10, w8, r8, w9, r9, fun x w' => ∃ i : Nat, x = (i : Int) ∧ i ≤ 12 ∧ St w [] w' [.arr g1 28 (bv K), .arr g9 22 (bv d), .arr g10 187 (bv (mixG nn (List.replicate 12 0) i))], fun x _ => 12 - x.toNat, ⟨0, rfl, by omega, h9⟩, ?_⟩
  rintro x w10 ⟨i, rfl, hi, h10⟩
  refine ⟨fun h => ?_, fun h => ?_⟩
  · have hi' : i < 12 := by simp at h; omega
    have hbi : nn[i]? = some (d.getD i 0) := by
      rw [← hnn, List.getElem?_take, if_pos hi', List.getD, List.getElem?_eq_getElem (by omega)]
      rfl
    have hml : (mixG nn (List.replicate 12 (0 : UInt8)) i).length = 12 := by simp [mixG]; omega
    obtain ⟨w11, r11, h11⟩ := h10.stB (i := 2) (o := i) (T := 5) (b := d.getD i 0) rfl (sB1 _) (show 0 + Int.toNat (i : Int) * 1 = i by omega) (by omega)
    rw [mixG_set (by rw [hnl, List.length_replicate]) hbi] at h11
    exact ⟨by omega, by omega, _, h10.ldB (i := 1) (o := i) rfl (bA _) (show 0 + Int.toNat (i : Int) * 1 = i by omega) (by omega), by omega, by omega, w11, r11, ⟨i + 1, wrap_succ hi' (by omega), by omega, h11⟩, mu_succ hi' (by omega)⟩
  have hi' : i = 12 := by simp at h; omega
  have f1 : mixG nn (List.replicate 12 (0 : UInt8)) i = nn := by
    have := mixG_all (x := nn) (l := List.replicate 12 (0 : UInt8)) (by rw [hnl, List.length_replicate])
    rw [List.length_replicate] at this; rw [hi', this]
  rw [f1] at h10
  clear f1 hi' h hi h9 h8 r8 r9 h7
  have hov := overF_len K nn plain
  refine ⟨_, h10.ldPre (T := 22) (i := 0) (l := bv K) rfl (d32A _) (d32S _) (by simp [hk]), _, h10.ldA (i := 2) (l := bv nn) rfl (d12A _) (d12S _) (by simp [hnl]), ?_⟩
  rw [← bv_take]
  refine (rxor_spec (ciphK K) nn 0 a3 n3 c3 plain w10 (by simp [ciphK, hk]) hnl (by omega) (by omega) (h10.rd1 hr3) (by omega)).mono ?_
  rintro e w11 ⟨a11, n11, c11, rfl, hf11⟩
  have hbody : xorR (ciphK K) nn (Int.toNat 0) plain = overF K nn plain := rfl
  obtain ⟨body, hbd⟩ : ∃ b, overF K nn plain = b := ⟨_, rfl⟩
  have hf11' : FreshB w10 w11 a11 n11 c11 body := by rw [← hbd]; exact hf11
  rw [hbd] at hsf hov
  have e11 := hf11'.2.1
  have h11 := (hf11'.add h10).drew
  have hz := Chg.refl [] w11.drew
  have ld : ∀ w', Chg [] w11.drew w' → (Instr.loadAt 28 (.pointer (some ⟨g1, 0, none⟩))).run Tryz.prog w' = .ok (.agg (bv K).toArray) w' := fun w' hc => (h11.same hc).ldA (i := 0) (l := bv K) rfl (kyA _) (kyS _) (by simp [hk])
  obtain ⟨tg, htg⟩ : ∃ t, tagF K k ctx nn body = t := ⟨_, rfl⟩
  have htl : tg.length = 32 := by rw [← htg]; simp
  rw [htg] at hsf
  have Pt : ∀ w', Chg [] w11.drew w' → Calls Tryz.prog 107 #[.agg (bv K).toArray, .int .u8 (k.toNat : Int), .slice a2 n2 c2, .slice (some ⟨g10, 0, none⟩) 12 12, .slice a11 n11 c11] w' fun e w'' => e = .returned (.agg (bv tg).toArray) ∧ Chg [] w' w'' := fun w' hc => by
    have := rtag_spec K k a2 n2 c2 ctx _ 12 12 nn a11 n11 c11 body w' hk ((h11.same hc).rd1 hr2) ((h11.same hc).rdA (i := 2) rfl (by simp [hnl])) ((h11.same hc).rd (i := 3) rfl) (by omega)
    rw [htg] at this
    exact this
  have fin : ∀ g w', St w [] w' [.arr g1 28 (bv K), .arr g9 22 (bv d), .arr g10 187 (bv nn), .row 5 1 (.slice a11 n11 c11) n11 (bv body), .arr g 22 (bv (List.replicate 32 0))] → ∃ w8, (Instr.storeAt 22 (.pointer (some ⟨g, 0, none⟩)) (.agg (bv tg).toArray)).run Tryz.prog w' = .ok () w8 ∧ (0 = 0 ∧ St w [] w8 [.arr g1 28 (bv K), .arr g9 22 (bv d), .arr g10 187 (bv nn), .row 5 1 (.slice a11 n11 c11) n11 (bv body), .arr g 22 (bv tg)]) := fun g w' h => by
    obtain ⟨w8, r8, h8⟩ := h.stA (i := 4) (v := bv tg) rfl (d32S _) (by simp) (by simp [htl]) (bv_one _)
    exact ⟨w8, r8, rfl, h8⟩
  refine ⟨_, _, _, _, rfl, fun b o w' => o = 0 ∧ St w [] w' [.arr g1 28 (bv K), .arr g9 22 (bv d), .arr g10 187 (bv nn), .row 5 1 (.slice a11 n11 c11) n11 (bv body), .arr b 22 (bv tg)], ⟨fun w' => Chg [] w11.drew w', hz, by omega, by omega, _, ld, (Pt _ hz).mono ?_, ?_⟩, ?_⟩
  · rintro e w12 ⟨rfl, c12⟩
    obtain ⟨g14, w13, r13, h13, c13⟩ := (h11.same c12).zeroAC d32Z
    exact ⟨_, rfl, fun w' => Chg [] w11.drew w', fun _ h => h, c12, g14, w13, r13, fun w' => Chg [] w11.drew w', fun _ h => h, c12.trans c13, fin g14 w13 h13⟩
  · obtain ⟨g14, w13, r13, h13, c13⟩ := h11.zeroAC d32Z
    refine ⟨g14, w13, r13, fun w' => Chg [] w11.drew w', fun _ h => h, c13, (Pt _ c13).mono ?_⟩
    rintro e w12 ⟨rfl, c12⟩
    exact ⟨_, rfl, fun w' => Chg [] w11.drew w', fun _ h => h, c13.trans c12, fin g14 w12 (h13.same c12)⟩
  rintro g14 o w12 ⟨rfl, h12⟩
  obtain ⟨g15, w13, r13, h13⟩ := h12.lit bT [.int .u8 (k.toNat : Int)] (by simp [Value.oneCell']) (by simp)
  have h13' : St w [] w13 [.arr g1 28 (bv K), .arr g9 22 (bv d), .arr g10 187 (bv nn), .row 5 1 (.slice a11 n11 c11) n11 (bv body), .arr g14 22 (bv tg), .row 5 1 (.slice (some ⟨g15, 0, none⟩) 1 1) 1 (bv [k])] := h13
  obtain ⟨vb, vd, w16, r16, h16⟩ := h13'.appendB (i := 5) (m := 12) (l := nn) rfl (h13'.rdA (i := 2) rfl (by simp [hnl])) (by omega)
  have h16' : St w [] w16 [.arr g1 28 (bv K), .arr g9 22 (bv d), .arr g10 187 (bv nn), .row 5 1 (.slice a11 n11 c11) n11 (bv body), .arr g14 22 (bv tg), .row 5 1 (.slice vb (1 + 12) vd) (1 + 12) (bv ([k] ++ nn))] := h16
  obtain ⟨ve, vf, w17, r17, h17⟩ := h16'.appendB (i := 5) rfl (h16'.rd (i := 3) (xs := bv body) rfl) (by omega)
  have h17' : St w [] w17 [.arr g1 28 (bv K), .arr g9 22 (bv d), .arr g10 187 (bv nn), .row 5 1 (.slice a11 n11 c11) n11 (bv body), .arr g14 22 (bv tg), .row 5 1 (.slice ve (1 + 12 + n11) vf) (1 + 12 + n11) (bv ([k] ++ nn ++ body))] := h17
  obtain ⟨vg, vh, w18, r18, h18⟩ := h17'.appendB (i := 5) (m := 32) (l := tg) rfl (h17'.rdA (i := 4) rfl (by simp [htl])) (by omega)
  refine ⟨_, _, _, _, r13, by omega, by omega, _, _, _, _, r16, _, _, _, _, r17, by omega, by omega, _, _, _, _, r18, _, _, _, rfl, ?_⟩
  rw [hsf]
  exact h18.freshB (i := 5) rfl

end Go.Proofs.YtmdandkoajocpaaGreatDoor
