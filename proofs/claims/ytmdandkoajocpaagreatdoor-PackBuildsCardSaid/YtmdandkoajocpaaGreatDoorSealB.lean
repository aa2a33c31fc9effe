/- Contracts of seal: Seal, Open (conditions: those that each theorem names). -/
import Derived.Test.YtmdandkoajocpaaGreatDoorSealA
namespace Go.Proofs.YtmdandkoajocpaaGreatDoor
open Go Sx
set_option maxRecDepth 8000

/-- What Seal does behind its first digest. -/
def sealTail (a1 : Int) (a2a : Option Addr) (a2n a2c : Nat) (a3a : Option Addr) (a3n a3c : Nat) (g4 g9 : Nat) (t23 : Array Value) (R : Ending → World → Prop) (w7 : World) : Prop :=
  (∃ w8 : World, (Instr.storeAt 22 (.pointer (some ⟨g9, 0, none⟩)) (.agg t23)).run Tryz.prog w7 = .ok () w8 ∧
    (0 ≤ (12 : Int) ∧ (12 : Int) ≤ ((32 : Nat) : Int) ∧
    (∃ (t25 : Array Value), (Instr.loadAt 28 (.pointer (some ⟨g4, 0, none⟩))).run Tryz.prog w8 = .ok (.agg t25) w8 ∧
    (Calls Tryz.prog 93 #[(.agg t25), (.slice (some ⟨g9, 0, none⟩) 12 32), (.slice a3a a3n a3c)] w8 fun (e28 : Ending) (w9 : World) => ∃ (t28a : Option Addr) (t28n : Nat) (t28c : Nat), e28 = .returned (.slice t28a t28n t28c) ∧
    (∃ (t29 : Array Value), (Instr.loadAt 28 (.pointer (some ⟨g4, 0, none⟩))).run Tryz.prog w9 = .ok (.agg t29) w9 ∧
    (Calls Tryz.prog 91 #[(.agg t29), (.int .u8 a1), (.slice a2a a2n a2c), (.slice (some ⟨g9, 0, none⟩) 12 32), (.slice t28a t28n t28c)] w9 fun (e34 : Ending) (w10 : World) => ∃ (t34 : Array Value), e34 = .returned (.agg t34) ∧
    (∃ (g12 : Nat) (w11 : World), (Instr.alloc 22 true (.tuple #[])).run Tryz.prog w10 = .ok (.pointer (some ⟨g12, 0, none⟩)) w11 ∧
    (∃ w12 : World, (Instr.storeAt 22 (.pointer (some ⟨g12, 0, none⟩)) (.agg t34)).run Tryz.prog w11 = .ok () w12 ∧
    (∃ (t38a : Option Addr) (t38n : Nat) (t38c : Nat) (w13 : World), (Instr.makeSlice 33 (.int .i64 0) (.int .i64 (IntKind.wrap .i64 ((45 : Int) + ((a3n : Nat) : Int))))).run Tryz.prog w12 = .ok (.slice t38a t38n t38c) w13 ∧
    (∃ (t40a : Option Addr) (t40n : Nat) (t40c : Nat) (w14 : World), (Instr.buildSlice 33 1 #[(0, (.int .u8 a1))]).run Tryz.prog w13 = .ok (.slice t40a t40n t40c) w14 ∧
    (∃ (t41a : Option Addr) (t41n : Nat) (t41c : Nat) (w15 : World), (Builtin.append_ #[33, 33] 33 #[(.slice t38a t38n t38c), (.slice t40a t40n t40c)]).run Tryz.prog w14 = .ok (.slice t41a t41n t41c) w15 ∧
    (∃ (t44a : Option Addr) (t44n : Nat) (t44c : Nat) (w16 : World), (Builtin.append_ #[33, 33] 33 #[(.slice t41a t41n t41c), (.slice (some ⟨g9, 0, none⟩) 12 32)]).run Tryz.prog w15 = .ok (.slice t44a t44n t44c) w16 ∧
    (∃ (t47a : Option Addr) (t47n : Nat) (t47c : Nat) (w17 : World), (Builtin.append_ #[33, 33] 33 #[(.slice t44a t44n t44c), (.slice t28a t28n t28c)]).run Tryz.prog w16 = .ok (.slice t47a t47n t47c) w17 ∧
    (0 ≤ ((32 : Nat) : Int) ∧ ((32 : Nat) : Int) ≤ ((32 : Nat) : Int) ∧
    (∃ (t50a : Option Addr) (t50n : Nat) (t50c : Nat) (w18 : World), (Builtin.append_ #[33, 33] 33 #[(.slice t47a t47n t47c), (.slice (some ⟨g12, 0, none⟩) (32) 32)]).run Tryz.prog w17 = .ok (.slice t50a t50n t50c) w18 ∧
    (R (.returned (.slice t50a t50n t50c)) w18))))))))))))))))

theorem overF_len (K nonce b : List UInt8) : (overF K nonce b).length ≤ b.length := by
  rw [overF, xorR]; split <;> simp

theorem sealTail_of (K : List UInt8) (k : UInt8) (a2 : Option Addr) (n2 c2 : Nat) (ctx : List UInt8) (a3 : Option Addr) (n3 c3 : Nat) (plain d : List UInt8) (g4 g9 : Nat) (w w7 : World) (z : List UInt8) (R : Ending → World → Prop)
    (hk : K.length = 96) (hK : KTab w) (hr2 : RdB w a2 n2 c2 ctx) (hr3 : RdB w a3 n3 c3 plain) (hb : n2 + n3 ≤ 67100000) (hd : d.length = 32) (hz : z.length = 32) (h7 : St w [] w7 [.arr g4 28 (bv K), .arr g9 22 (bv z)])
    (hR : ∀ a n c w', FreshB w w' a n c ([k] ++ d.take 12 ++ overF K (d.take 12) plain ++ tagF K k ctx (d.take 12) (overF K (d.take 12) plain)) → R (.returned (.slice a n c)) w') :
    sealTail (k.toNat : Int) a2 n2 c2 a3 n3 c3 g4 g9 (bv d).toArray R w7 := by
  have e2 := hr2.lenB
  have e3 := hr3.lenB
  have hv := overF_len K (d.take 12) plain
  obtain ⟨body, hbody⟩ : ∃ b, overF K (d.take 12) plain = b := ⟨_, rfl⟩
  rw [hbody] at hR hv
  obtain ⟨w8, r8, h8⟩ := h7.stA (i := 1) (v := bv d) rfl (d32S _) (by simp [hz]) (by simp [hd]) (bv_one _)
  have hn : ∀ w', Chg [] w8 w' → RdB w' (some ⟨g9, 0, none⟩) 12 32 (d.take 12) := fun w' hc => rdB_upto (l := d) ((h8.same hc).rdA (i := 1) rfl (by simp [hd])) (by omega)
  have hl4 : ∀ w', Chg [] w8 w' → (Instr.loadAt 28 (.pointer (some ⟨g4, 0, none⟩))).run Tryz.prog w' = .ok (.agg (bv K).toArray) w' := fun w' hc => (h8.same hc).ldA (i := 0) (l := bv K) rfl (kyA _) (kyS _) (by simp [hk])
  have hzr := Chg.refl [] w8
  refine ⟨w8, r8, by omega, by omega, _, hl4 _ hzr, (over_spec' K _ 32 (d.take 12) a3 n3 c3 plain w8 hk (hn _ hzr) (h8.rd1 hr3) (by omega)).mono ?_⟩
  rintro e w9 ⟨a9, n9, c9, rfl, hf9⟩
  rw [hbody] at hf9
  have e9 := hf9.2.1
  refine ⟨_, _, _, rfl, _, hl4 _ hf9.1, (tag_spec K k a2 n2 c2 ctx _ 12 32 (d.take 12) a9 n9 c9 body w9 hk (hK.keep0 (h8.chg.trans hf9.1)) ((h8.same hf9.1).rd1 hr2) (hn _ hf9.1) hf9.rdB (by omega)).mono ?_⟩
  rintro e w10 ⟨rfl, hc10⟩
  obtain ⟨tg, htg⟩ : ∃ t, tagF K k ctx (d.take 12) body = t := ⟨_, rfl⟩
  have htl : tg.length = 32 := by rw [← htg]; simp
  rw [htg] at hR ⊢
  have h10 : St w [] w10 [.arr g4 28 (bv K), .arr g9 22 (bv d), .row 5 1 (.slice a9 n9 c9) n9 (bv body)] := (hf9.add h8).same hc10
  obtain ⟨g11, w11, r11, h11⟩ := h10.zeroA d32Z
  obtain ⟨w12, r12, h12⟩ := h11.stA (i := 3) (v := bv tg) rfl (d32S _) (by simp) (by simp [htl]) (bv_one _)
  have hw : IntKind.wrap .i64 ((45 : Int) + (n3 : Int)) = ((45 + n3 : Nat) : Int) := by rw [wrap_i64 (by omega) (by omega)]; omega
  obtain ⟨g13, w13, r13, h13⟩ := h12.mk0n (kl := .i64) (kc := .i64) (c := 45 + n3) bT (by omega) (by omega)
  obtain ⟨g14, w14, r14, c14, q14⟩ := litK k w13
  have h14 : St w [] w14 [.arr g4 28 (bv K), .arr g9 22 (bv d), .row 5 1 (.slice a9 n9 c9) n9 (bv body), .arr g11 22 (bv tg), .row 5 1 (.slice (some ⟨g13, 0, none⟩) 0 (45 + n3)) 0 (bv [])] := h13.same c14
  obtain ⟨va, vc, w15, r15, h15⟩ := h14.appendB (i := 4) (xs := []) rfl q14 (by omega)
  have h15' : St w [] w15 [.arr g4 28 (bv K), .arr g9 22 (bv d), .row 5 1 (.slice a9 n9 c9) n9 (bv body), .arr g11 22 (bv tg), .row 5 1 (.slice va 1 vc) 1 (bv [k])] := h15
  obtain ⟨vb, vd, w16, r16, h16⟩ := h15'.appendB (i := 4) rfl (rdB_upto (l := d) (n := 32) (c := 32) (k := 12) (h15'.rdA (i := 1) (n := 32) rfl (by simp [hd])) (by omega)) (by omega)
  have h16' : St w [] w16 [.arr g4 28 (bv K), .arr g9 22 (bv d), .row 5 1 (.slice a9 n9 c9) n9 (bv body), .arr g11 22 (bv tg), .row 5 1 (.slice vb (1 + 12) vd) (1 + 12) (bv ([k] ++ d.take 12))] := h16
  obtain ⟨ve, vf, w17, r17, h17⟩ := h16'.appendB (i := 4) rfl (h16'.rd (i := 2) (xs := bv body) rfl) (by omega)
  have h17' : St w [] w17 [.arr g4 28 (bv K), .arr g9 22 (bv d), .row 5 1 (.slice a9 n9 c9) n9 (bv body), .arr g11 22 (bv tg), .row 5 1 (.slice ve (1 + 12 + n9) vf) (1 + 12 + n9) (bv ([k] ++ d.take 12 ++ body))] := h17
  obtain ⟨vg, vh, w18, r18, h18⟩ := h17'.appendB (i := 4) (m := 32) (l := tg) rfl (h17'.rdA (i := 3) rfl (by simp [htl])) (by omega)
  rw [hw]
  exact ⟨_, rfl, g11, w11, r11, w12, r12, _, _, _, w13, r13, _, _, _, w14, r14, _, _, _, w15, r15, _, _, _, w16, r16, _, _, _, w17, r17, by omega, by omega, _, _, _, w18, r18, hR _ _ _ _ (h18.freshB (i := 4) rfl)⟩

theorem seal_spec (K : List UInt8) (k : UInt8) (a2 : Option Addr) (n2 c2 : Nat) (ctx : List UInt8) (a3 : Option Addr) (n3 c3 : Nat) (plain : List UInt8) (w : World)
    (hk : K.length = 96) (hK : KTab w) (hr2 : RdB w a2 n2 c2 ctx) (hr3 : RdB w a3 n3 c3 plain) (hb : n2 + n3 ≤ 67100000) :
    Calls Tryz.prog 104 #[.agg (bv K).toArray, .int .u8 (k.toNat : Int), .slice a2 n2 c2, .slice a3 n3 c3] w fun e w' => ∃ a n c, e = .returned (.slice a n c) ∧ FreshB w w' a n c (sealF K k ctx plain) := by
  have e2 := hr2.lenB
  have e3 := hr3.lenB
  apply seal_Seal_vc
  obtain ⟨g1, w1, r1, h1⟩ := (St.start w).boxA 28 (bv K)
  have hd := Chg.drew [] w1
  have P20 : ∀ w' g, Chg [] w1 w' → RdB w' (some ⟨g, 0, none⟩) 1 1 [k] → ∃ g2 w'', (Instr.buildSlice 23 3 #[(0, .slice (some ⟨g, 0, none⟩) 1 1), (1, .slice a2 n2 c2), (2, .slice a3 n3 c3)]).run Tryz.prog w' = .ok (.slice (some ⟨g2, 0, none⟩) 3 3) w'' ∧ Chg [] w' w'' ∧
      Rd w'' (some ⟨g2, 0, none⟩) 3 3 1 [.slice (some ⟨g, 0, none⟩) 1 1, .slice a2 n2 c2, .slice a3 n3 c3] ∧ Row2 w'' [.slice (some ⟨g, 0, none⟩) 1 1, .slice a2 n2 c2, .slice a3 n3 c3] [[k], ctx, plain] := fun w' g hc hr => by
    obtain ⟨g2, w2, r2, c2', q2, _⟩ := litC bbT [.slice (some ⟨g, 0, none⟩) 1 1, .slice a2 n2 c2, .slice a3 n3 c3] (by simp [Value.oneCell']) (by simp) w'
    have hcc := h1.chg.trans (hc.trans c2')
    exact ⟨g2, w2, r2, c2', q2, row2_three (hr.keep0 c2') (hr2.keep0 hcc) (hr3.keep0 hcc)⟩
  obtain ⟨P, hP⟩ : ∃ P, packL [[k], ctx, plain] = P := ⟨_, rfl⟩
  have hpl : P.length ≤ 67109864 := by
    have := packL_len [[k], ctx, plain] (by simp; omega)
    rw [hP] at this
    simp at this
    omega
  have Ppk : ∀ w' g2 vs, Rd w' (some ⟨g2, 0, none⟩) 3 3 1 vs → Row2 w' vs [[k], ctx, plain] → Calls Tryz.prog 121 #[.slice (some ⟨g2, 0, none⟩) 3 3] w' fun e w'' => ∃ a n c, e = .returned (.slice a n c) ∧ FreshB w' w'' a n c P := fun w' g2 vs q qr => by
    have := pack_spec _ 3 3 vs [[k], ctx, plain] w' q qr (by simp; omega) (by simp)
    rw [hP] at this; exact this
  have P22 : ∀ w' a n c, RdB w' a n c P → ∃ g2 w'', (Instr.buildSlice 23 1 #[(0, .slice a n c)]).run Tryz.prog w' = .ok (.slice (some ⟨g2, 0, none⟩) 1 1) w'' ∧ Chg [] w' w'' ∧ Rd w'' (some ⟨g2, 0, none⟩) 1 1 1 [.slice a n c] ∧ Row2 w'' [.slice a n c] [P] := fun w' a n c hr => by
    obtain ⟨g2, w2, r2, c2', q2, _⟩ := litC bbT [.slice a n c] (by simp [Value.oneCell']) (by simp) w'
    exact ⟨g2, w2, r2, c2', q2, row2_one (hr.keep0 c2')⟩
  have Pm : ∀ w' g2 vs, Chg [] w1 w' → Rd w' (some ⟨g2, 0, none⟩) 1 1 1 vs → Row2 w' vs [P] → Calls Tryz.prog 120 #[.slice (some ⟨g1, 64, none⟩) 32 32, .slice (some ⟨g2, 0, none⟩) 1 1] w' fun e w'' => e = .returned (.agg (bv (macF (nameK K) P)).toArray) ∧ Chg [] w' w'' := fun w' g2 vs hc q qr => by
    have e1 : [P].flatten = P := by rw [List.flatten_cons, List.flatten_nil, List.append_nil]
    have := mac_spec _ 32 32 (nameK K) _ 1 1 vs [P] w' (hK.keep0 (h1.chg.trans hc)) (macK_rd (h1.same hc) (i := 0) rfl hk).2 (by omega) q qr (by rw [e1]; omega) (by decide)
    rw [e1] at this; exact this
  have hR : ∀ a n c w', FreshB w w' a n c ([k] ++ (macF (nameK K) P).take 12 ++ overF K ((macF (nameK K) P).take 12) plain ++ tagF K k ctx ((macF (nameK K) P).take 12) (overF K ((macF (nameK K) P).take 12) plain)) → ∃ a' n' c', Ending.returned (.slice a n c) = .returned (.slice a' n' c') ∧ FreshB w w' a' n' c' (sealF K k ctx plain) := fun a n c w' hf => ⟨a, n, c, rfl, by rw [sealF, nonceF, hP]; exact hf⟩
  have tail : ∀ g9 w7, St w [] w7 [.arr g1 28 (bv K), .arr g9 22 (bv (List.replicate 32 0))] → sealTail (k.toNat : Int) a2 n2 c2 a3 n3 c3 g1 g9 (bv (macF (nameK K) P)).toArray (fun e w' => ∃ a n c, e = .returned (.slice a n c) ∧ FreshB w w' a n c (sealF K k ctx plain)) w7 := fun g9 w7 h7 =>
    sealTail_of K k a2 n2 c2 ctx a3 n3 c3 plain _ g1 g9 w w7 _ _ hk hK hr2 hr3 hb (macF_len _ _) (by simp) h7 hR
  obtain ⟨g3, w3, r3, c3', q3⟩ := litK k w1.drew
  have d3 := hd.trans c3'
  obtain ⟨g4, w4, r4, c4', q4, qr4⟩ := P20 w3 g3 d3 q3
  have d4 := d3.trans c4'
  refine ⟨g1, w1, r1, by omega, by omega, ⟨_, _, _, _, r3, ⟨_, _, _, _, r4, (Ppk w4 g4 _ q4 qr4).mono ?_, ?_⟩, ?_⟩, ?_⟩
  · rintro e w5 ⟨a5, n5, c5, rfl, hf5⟩
    have d5 := d4.trans hf5.1
    refine ⟨_, _, _, rfl, ?_, ?_⟩
    · obtain ⟨g6, w6, r6, c6', q6, qr6⟩ := P22 w5 _ _ _ hf5.rdB
      have d6 := d5.trans c6'
      refine ⟨_, _, _, _, r6, (Pm w6 g6 _ d6 q6 qr6).mono ?_, ?_⟩
      · rintro e w7 ⟨rfl, c7⟩
        obtain ⟨g9, w9, r9, h9⟩ := (h1.same (d6.trans c7)).zeroA d32Z
        exact ⟨_, rfl, g9, w9, r9, tail g9 w9 h9⟩
      · obtain ⟨g9, w9, r9, h9, c9⟩ := (h1.same d6).zeroAC d32Z
        refine ⟨g9, w9, r9, (Pm w9 g6 _ (d6.trans c9) (q6.keep0 c9) (qr6.keep0 c9)).mono ?_⟩
        rintro e w10 ⟨rfl, c10⟩
        exact ⟨_, rfl, tail g9 w10 (h9.same c10)⟩
    · obtain ⟨g9, w9, r9, h9, c9⟩ := (h1.same d5).zeroAC d32Z
      obtain ⟨g6, w6, r6, c6', q6, qr6⟩ := P22 w9 _ _ _ (hf5.rdB.keep0 c9)
      refine ⟨g9, w9, r9, _, _, _, _, r6, (Pm w6 g6 _ ((d5.trans c9).trans c6') q6 qr6).mono ?_⟩
      rintro e w10 ⟨rfl, c10⟩
      exact ⟨_, rfl, tail g9 w10 (h9.same (c6'.trans c10))⟩
  · obtain ⟨g9, w9, r9, h9, c9⟩ := (h1.same d4).zeroAC d32Z
    refine ⟨g9, w9, r9, (Ppk w9 g4 _ (q4.keep0 c9) (qr4.keep0 c9)).mono ?_⟩
    rintro e w5 ⟨a5, n5, c5, rfl, hf5⟩
    have d5 := (d4.trans c9).trans hf5.1
    obtain ⟨g6, w6, r6, c6', q6, qr6⟩ := P22 w5 _ _ _ hf5.rdB
    refine ⟨_, _, _, rfl, _, _, _, _, r6, (Pm w6 g6 _ (d5.trans c6') q6 qr6).mono ?_⟩
    rintro e w10 ⟨rfl, c10⟩
    exact ⟨_, rfl, tail g9 w10 (h9.same (hf5.1.trans (c6'.trans c10)))⟩
  · obtain ⟨g9, w9, r9, h9, c9⟩ := (h1.same d3).zeroAC d32Z
    obtain ⟨g4, w4, r4, c4', q4, qr4⟩ := P20 w9 g3 (d3.trans c9) (q3.keep0 c9)
    refine ⟨g9, w9, r9, _, _, _, _, r4, (Ppk w4 g4 _ q4 qr4).mono ?_⟩
    rintro e w5 ⟨a5, n5, c5, rfl, hf5⟩
    have d5 := ((d3.trans c9).trans c4').trans hf5.1
    obtain ⟨g6, w6, r6, c6', q6, qr6⟩ := P22 w5 _ _ _ hf5.rdB
    refine ⟨_, _, _, rfl, _, _, _, _, r6, (Pm w6 g6 _ (d5.trans c6') q6 qr6).mono ?_⟩
    rintro e w10 ⟨rfl, c10⟩
    exact ⟨_, rfl, tail g9 w10 (h9.same ((c4'.trans hf5.1).trans (c6'.trans c10)))⟩
  · obtain ⟨g9, w9, r9, h9, c9⟩ := (h1.same hd).zeroAC d32Z
    obtain ⟨g3, w3, r3, c3', q3⟩ := litK k w9
    have d3 := (hd.trans c9).trans c3'
    obtain ⟨g4, w4, r4, c4', q4, qr4⟩ := P20 w3 g3 d3 q3
    refine ⟨g9, w9, r9, _, _, _, _, r3, _, _, _, _, r4, (Ppk w4 g4 _ q4 qr4).mono ?_⟩
    rintro e w5 ⟨a5, n5, c5, rfl, hf5⟩
    have d5 := (d3.trans c4').trans hf5.1
    obtain ⟨g6, w6, r6, c6', q6, qr6⟩ := P22 w5 _ _ _ hf5.rdB
    refine ⟨_, _, _, rfl, _, _, _, _, r6, (Pm w6 g6 _ (d5.trans c6') q6 qr6).mono ?_⟩
    rintro e w10 ⟨rfl, c10⟩
    exact ⟨_, rfl, tail g9 w10 (h9.same ((c3'.trans (c4'.trans hf5.1)).trans (c6'.trans c10)))⟩

def openE (K : List UInt8) (kind : UInt8) (ctx b : List UInt8) : Option Int := if (openF K kind ctx b).isSome then none else some 10

theorem open_spec (K : List UInt8) (k : UInt8) (a2 : Option Addr) (n2 c2 : Nat) (ctx : List UInt8) (a3 : Option Addr) (n3 c3 : Nat) (b : List UInt8) (w : World)
    (hk : K.length = 96) (hK : KTab w) (hr2 : RdB w a2 n2 c2 ctx) (hr3 : RdB w a3 n3 c3 b) (hb : n2 + n3 ≤ 67100000) :
    Calls Tryz.prog 57 #[.agg (bv K).toArray, .int .u8 (k.toNat : Int), .slice a2 n2 c2, .slice a3 n3 c3] w fun e w' => ∃ a n c, e = .returned (.tuple #[.slice a n c, errV (openE K k ctx b)]) ∧ FreshB w w' a n c ((openF K k ctx b).getD []) := by
  have e2 := hr2.lenB
  have e3 := hr3.lenB
  have hle := hr3.le
  apply seal_Open_vc
  obtain ⟨g1, w1, r1, h1⟩ := (St.start w).boxA 28 (bv K)
  have bad : ∀ w', Chg [] w w' → openF K k ctx b = none → ∃ a n c, Ending.returned (.tuple #[.slice none 0 0, .iface 69 (.int .i64 10)]) = .returned (.tuple #[.slice a n c, errV (openE K k ctx b)]) ∧ FreshB w w' a n c ((openF K k ctx b).getD []) := fun w' hc hn => by
    refine ⟨none, 0, 0, ?_, ?_⟩
    · rw [openE, hn]; rfl
    · rw [hn]; exact ⟨hc, rfl, World.ownsRow_nil _ _ _ _⟩
  refine ⟨g1, w1, r1, fun x w' => x = decide (b.length < 45 ∨ b.getD 0 0 ≠ k) ∧ w' = w1, ⟨fun h => ?_, fun h => ?_⟩, ?_⟩
  · have : b.length < 45 := by simp at h; omega
    exact ⟨by simp [this], rfl⟩
  · have h45 : ¬ b.length < 45 := by simp at h; omega
    refine ixB (bA _) (h1.rd1 hr3).cells e3 (by omega) (by omega) fun bl o hbo => ⟨?_, rfl⟩
    have : (0 : Int).toNat = 0 := rfl
    rw [this]
    by_cases hx : b.getD 0 0 = k
    · rw [hx]; simp [h45]
    · have hx2 : ((b.getD 0 0).toNat : Int) ≠ (k.toNat : Int) := fun e => hx (by apply UInt8.toNat_inj.1; omega)
      rw [bne_iff_ne.2 hx2]
      exact (decide_eq_true (.inr hx)).symm
  rintro x w2 ⟨rfl, rfl⟩
  refine ⟨fun h => bad _ h1.chg ?_, fun h => ?_⟩
  · have h' : b.length < 45 ∨ b.getD 0 0 ≠ k := by simpa using h
    rw [openF, if_pos h']
  have h' : ¬ (b.length < 45 ∨ b.getD 0 0 ≠ k) := by simpa using h
  have hof : openF K k ctx b = if tagF K k ctx (bNonce b) (bBody b) = bTag b then some (overF K (bNonce b) (bBody b)) else none := by rw [openF, if_neg h']
  have h45 : 45 ≤ b.length := by
    rcases Nat.lt_or_ge b.length 45 with h | h
    · exact absurd (.inl h) h'
    · exact h
  clear h h'
  have hw : IntKind.wrap .i64 ((n3 : Int) - 32) = ((n3 - 32 : Nat) : Int) := by rw [wrap_i64 (by omega) (by omega)]; omega
  rw [hw]
  have hdw := Chg.drew [] w2
  have h1d := h1.same hdw
  refine ⟨by omega, by omega, by omega, fun t29 hs29 => ⟨by omega, by omega, by omega, fun t32 hs32 => ?_⟩⟩
  have q3 := h1d.rd1 hr3
  have qn : RdB w2.drew t29 12 (c3 - 1) (bNonce b) := by
    have := q3.sub hs29 (hh := 13) (by omega) (by omega) (by omega) (Nat.le_refl _)
    have e1 : ((bv b).drop (1 * 1)).take ((13 - 1) * 1) = bv (bNonce b) := by rw [bNonce, bv_take, bv_drop]
    rw [e1] at this
    exact this
  have qb : RdB w2.drew t32 (n3 - 32 - 13) (c3 - 13) (bBody b) := by
    have := q3.sub hs32 (hh := n3 - 32) (by omega) (by omega) (by omega) (Nat.le_refl _)
    have e1 : ((bv b).drop (13 * 1)).take ((n3 - 32 - 13) * 1) = bv (bBody b) := by rw [bBody, bv_take, bv_drop, e3]; congr 1; omega
    rw [e1] at this
    exact this
  have hl4 : ∀ w', Chg [] w2.drew w' → (Instr.loadAt 28 (.pointer (some ⟨g1, 0, none⟩))).run Tryz.prog w' = .ok (.agg (bv K).toArray) w' := fun w' hc => (h1d.same hc).ldA (i := 0) (l := bv K) rfl (kyA _) (kyS _) (by simp [hk])
  rw [Int.toNat_natCast]
  refine ⟨_, hl4 _ (Chg.refl _ _), (tag_spec K k a2 n2 c2 ctx t29 12 (c3 - 1) (bNonce b) t32 (n3 - 32 - 13) (c3 - 13) (bBody b) _ hk (hK.keep0 h1d.chg) (h1d.rd1 hr2) qn qb (by omega)).mono ?_⟩
  rintro e w3 ⟨rfl, c3'⟩
  obtain ⟨tg, htg⟩ : ∃ t, tagF K k ctx (bNonce b) (bBody b) = t := ⟨_, rfl⟩
  have htl : tg.length = 32 := by rw [← htg]; simp
  rw [htg] at hof ⊢
  obtain ⟨g4, w4, r4, h4⟩ := (St.start w2.drew |>.same c3').zeroA d32Z
  obtain ⟨w5, r5, h5⟩ := h4.stA (i := 0) (v := bv tg) rfl (d32S _) (by simp) (by simp [htl]) (bv_one _)
  have h5d := h5.drew
  refine ⟨_, rfl, g4, w4, r4, w5, r5, by omega, by omega, by omega, by omega, by omega, fun t42 hs42 => ?_⟩
  have qt : RdB w5.drew t42 (n3 - (n3 - 32)) (c3 - (n3 - 32)) (bTag b) := by
    have := (q3.keep0 h5d.chg).sub hs42 (hh := n3) (by omega) (Nat.le_refl _) (by omega) (Nat.le_refl _)
    have e1 : ((bv b).drop ((n3 - 32) * 1)).take ((n3 - (n3 - 32)) * 1) = bv (bTag b) := by
      rw [bTag, bv_drop, e3, List.take_of_length_le (by simp; omega)]; congr 1; omega
    rw [e1] at this
    exact this
  refine (equal_spec _ 32 32 tg t42 _ _ (bTag b) _ (h5d.rdA (i := 0) rfl (by simp [htl])) qt (by omega)).mono ?_
  rintro e w6 ⟨rfl, c6⟩
  have d6 := h5d.chg.trans c6
  refine ⟨_, rfl, fun h => bad _ (h1d.chg.trans d6) ?_, fun h => ?_⟩
  · have : ¬ tg = bTag b := by simpa using h
    rw [hof, if_neg this]
  · have ht : tg = bTag b := by simpa using h
    rw [if_pos ht] at hof
    refine ⟨_, hl4 _ d6, (over_spec' K t29 (c3 - 1) (bNonce b) t32 (n3 - 32 - 13) (c3 - 13) (bBody b) w6 hk (qn.keep0 d6) (qb.keep0 d6) (by omega)).mono ?_⟩
    rintro e w7 ⟨a7, n7, c7, rfl, hf7⟩
    refine ⟨_, _, _, rfl, a7, n7, c7, ?_, ?_⟩
    · rw [openE, hof]; rfl
    · rw [hof]
      exact FreshB.after hf7 (h1d.chg.trans d6)

end Go.Proofs.YtmdandkoajocpaaGreatDoor
