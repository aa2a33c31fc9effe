/- The laws of chapter 5: alive, large; SealOwns answers true (conditions: the table lies where the program laid it). -/
import Derived.Test.YtlhhmoljlmmnoaaDoorSealB
import Derived.Test.YtlhhmoljlmmnoaaDoorSealG
import Derived.Test.YtlhhmoljlmmnoaaDoorNum
import Derived.Test.YtlhhmoljlmmnoaaDoorShaS
import Derived.Test.YtlhhmoljlmmnoaaDoorSum
import Derived.Test.YtlhhmoljlmmnoaaDoorApart
import Derived.Test.YtlhhmoljlmmnoaaDoorVlaw05
namespace Go.Proofs.YtlhhmoljlmmnoaaDoor
open Go Sx
set_option maxRecDepth 8000

theorem build_masL (w : World) : (Instr.build 22 #[(0, .int .u8 1), (1, .int .u8 2), (2, .int .u8 3)]).run Tryd.prog w = .ok (.agg (bv masL).toArray) w := by
  have := build_arr (P := Tryd.prog) (w := w) (T := 22) (d32Z w) Tryd.underlying22 (sB1 w) [.int .u8 1, .int .u8 2, .int .u8 3] (by simp [Value.oneCell']) (by simp)
  exact this

theorem lalive_spec (w : World) (hK : KTab w) : Calls Tryd.prog 10 #[] w fun e w' => e = .returned (.bool true) ∧ Chg [] w w' := by
  apply amphoralaw05_alive_vc
  obtain ⟨m, hI⟩ := eI
  refine ⟨_, build_masL w, (fromMaster_spec masL w (by decide) hK).mono ?_⟩
  rintro e w1 ⟨rfl, c1⟩
  obtain ⟨K, hKK⟩ : ∃ K, masterF masL = K := ⟨_, rfl⟩
  have hk : K.length = 96 := by rw [← hKK]; simp
  have hov := over_masL
  rw [hKK] at hov ⊢
  obtain ⟨g2, w2, r2, h2⟩ := ((St.start w).same c1).zeroA kyZ
  obtain ⟨w3, r3, h3⟩ := h2.stA (i := 0) (v := bv K) rfl (kyS _) (by simp) (by simp [hk]) (bv_one _)
  have ld : ∀ w', Chg [] w3 w' → (Instr.loadAt 24 (.pointer (some ⟨g2, 0, none⟩))).run Tryd.prog w' = .ok (.agg (bv K).toArray) w' := fun w' hc => (h3.same hc).ldA (i := 0) (l := bv K) rfl (kyA _) (kyS _) (by simp [hk])
  have kK : ∀ w', Chg [] w3 w' → KTab w' := fun w' hc => hK.keep0 (h3.chg.trans hc)
  have hz := Chg.refl [] w3
  obtain ⟨g4, w4, w5, r4, r5, c5, q5⟩ := litMark [99] (by decide) w3
  obtain ⟨g6, w6, w7, r6, r7, c7, q7⟩ := litMark helloL (by decide) w5
  have d7 := c5.trans c7
  refine ⟨_, rfl, g2, w2, r2, w3, r3, _, ld _ hz, _, _, _, _, r4, _, _, _, _, r5, _, _, _, _, r6, _, _, _, _, r7, (seal_spec K 2 _ 1 1 [99] _ 5 5 helloL w7 hk (kK _ d7) (q5.keep0 c7) q7 (by omega)).mono ?_⟩
  rintro e w8 ⟨a8, n8, c8, rfl, hf8⟩
  have d8 := d7.trans hf8.1
  obtain ⟨b, hb⟩ : ∃ b, sealF K 2 [99] helloL = b := ⟨_, rfl⟩
  have hbl : b.length = 50 := by rw [← hb, sealF_len _ _ _ _ (by decide)]; rfl
  have hparts := sealF_parts K 2 [99] helloL (by decide)
  have ho := open_sealF K 2 [99] helloL (by decide)
  have ho2 := open_other K 2 3 [99] helloL (by decide) (by decide)
  rw [hb] at hf8 hparts ho ho2
  have hn8 : n8 = 50 := by rw [← hf8.2.1, hbl]
  subst hn8
  obtain ⟨g9, w9, w10, r9, r10, c10, q10⟩ := litMark [99] (by decide) w8
  have d10 := d8.trans c10
  refine ⟨_, _, _, rfl, _, ld _ d8, _, _, _, _, r9, _, _, _, _, r10, (open_spec K 2 _ 1 1 [99] a8 50 c8 b w10 hk (kK _ d10) q10 (hf8.rdB.keep0 c10) (by omega)).mono ?_⟩
  rintro e w11 ⟨a11, n11, c11, rfl, hf11⟩
  rw [openE, ho] at *
  have d11 := d10.trans hf11.1
  obtain ⟨g12, w12, w13, r12, r13, c13, q13⟩ := litMark [99] (by decide) w11
  have d13 := d11.trans c13
  have t13 := (c10.trans hf11.1).trans c13
  refine ⟨_, _, _, _, rfl, _, ld _ d11, _, _, _, _, r12, _, _, _, _, r13, (open_spec K 3 _ 1 1 [99] a8 50 c8 b w13 hk (kK _ d13) q13 (hf8.rdB.keep0 t13) (by omega)).mono ?_⟩
  rintro e w14 ⟨a14, n14, c14, rfl, hf14⟩
  rw [openE, ho2]
  have t14 := t13.trans hf14.1
  have q8 := hf8.rdB.keep0 t14
  have hle := q8.le
  refine ⟨_, _, _, _, rfl, fun _ => ⟨_, eqlS_nil hI none _ _, fun _ => ⟨_, toStr bS bE sS ((hf11.cells.keep0 c13).keep0 hf14.1) hf11.rdB.lenB, fun _ => ⟨_, eqlS_err hI (some 10) 10 _ _ _, fun _ => ⟨by omega, by omega, by omega, fun t50 hs50 => ?_⟩, fun h => by simp at h⟩, fun h => ?_⟩, fun h => by simp at h⟩, fun h => by simp at h⟩
  · have hsub := q8.sub hs50 (hh := 18) (by omega) (by omega) (by omega) (Nat.le_refl _)
    have e1 : ((bv b).drop (13 * 1)).take ((18 - 13) * 1) = bv (bBody b) := by rw [bBody, hbl, bv_take, bv_drop]
    rw [e1, hparts.2.2.1] at hsub
    refine ⟨_, toStr bS bE sS hsub.cells (by have := hsub.lenB; omega), ?_, h3.chg.trans ((d8.trans t14))⟩
    have : ¬ (overF K (nonceF K 2 [99] helloL) helloL = helloL) := hov
    simpa [helloL] using this
  · simp [helloL] at h

theorem llarge_spec (a : Option Addr) (n c : Nat) (vs : List Value) (ls : List (List UInt8)) (w : World) (hr : Rd w a n c 1 vs) (h2 : Row2 w vs ls) (hn : n ≤ 4611686018427387904) :
    Calls Tryd.prog 11 #[.slice a n c] w fun e w' => e = .returned (.bool (decide (8192 < ls.flatten.length))) ∧ w' = w := by
  apply amphoralaw05_large_vc
  refine (sum_spec a n c vs ls 1048576 w hr h2 (by decide) hn).mono ?_
  rintro e w1 ⟨rfl, rfl⟩
  refine ⟨_, rfl, ?_, rfl⟩
  congr 2
  apply decide_eq_decide.2
  split <;> omega

/-- The cells of a Case. -/
def caseL (m : List UInt8) (k : UInt8) (a1 : Option Addr) (n1 c1 : Nat) (a2 : Option Addr) (n2 c2 : Nat) : List Value := bv m ++ [.int .u8 (k.toNat : Int), .slice a1 n1 c1, .slice a2 n2 c2]

theorem caseL_ld {w0 w : World} {M : List Res} {i g : Nat} {m : List UInt8} {k : UInt8} {a1 : Option Addr} {n1 c1 : Nat} {a2 : Option Addr} {n2 c2 : Nat} (h : St w0 [] w M) (hi : M[i]? = some (.arr g 31 (caseL m k a1 n1 c1 a2 n2 c2))) (hm : m.length = 32) :
    (Instr.loadAt 22 (.pointer (some ⟨g, 0, none⟩))).run Tryd.prog w = .ok (.agg (bv m).toArray) w ∧ (Instr.loadAt 5 (.pointer (some ⟨g, 32, none⟩))).run Tryd.prog w = .ok (.int .u8 (k.toNat : Int)) w ∧
    (Instr.loadAt 25 (.pointer (some ⟨g, 33, none⟩))).run Tryd.prog w = .ok (.slice a1 n1 c1) w ∧ (Instr.loadAt 25 (.pointer (some ⟨g, 34, none⟩))).run Tryd.prog w = .ok (.slice a2 n2 c2) w := by
  have hb : (bv m).length = 32 := by simp [hm]
  have hg : ∀ j, (caseL m k a1 n1 c1 a2 n2 c2)[32 + j]? = ([.int .u8 (k.toNat : Int), .slice a1 n1 c1, .slice a2 n2 c2] : List Value)[j]? := fun j => by
    rw [caseL, List.getElem?_append_right (by omega), hb]; congr 1; omega
  refine ⟨?_, h.ldL hi (bA _) rfl (hg 0), h.ldL hi (bsA _) rfl (hg 1), h.ldL hi (bsA _) rfl (hg 2)⟩
  have := h.ldPre (T := 22) (n := 32) hi (d32A _) (d32S _) (by simp [caseL, hm])
  rw [caseL, List.take_left' hb] at this
  exact this

theorem sealOwns_walk (m : List UInt8) (k : UInt8) (a1 : Option Addr) (n1 c1 : Nat) (ctx : List UInt8) (a2 : Option Addr) (n2 c2 : Nat) (plain : List UInt8) (w : World) (hK : KTab w) (hm : m.length = 32) (hr1 : RdB w a1 n1 c1 ctx) (hr2 : RdB w a2 n2 c2 plain) :
    Calls Tryd.prog 5 #[.agg (caseL m k a1 n1 c1 a2 n2 c2).toArray] w fun e w' => e = .returned (.bool true) ∧ Chg [] w w' := by
  have e1 := hr1.lenB
  have e2 := hr2.lenB
  apply amphoralaw05_SealOwns_vc
  obtain ⟨g1, w1, r1, h1⟩ := (St.start w).boxA 31 (caseL m k a1 n1 c1 a2 n2 c2)
  refine ⟨g1, w1, r1, (lalive_spec w1 (hK.keep0 h1.chg)).mono ?_⟩
  rintro e w2 ⟨rfl, hc2⟩
  have h2 := h1.same hc2
  have L := fun w' (hc : Chg [] w2 w') => caseL_ld (h2.same hc) (i := 0) rfl hm
  have k1 : ∀ w', Chg [] w2 w' → RdB w' a1 n1 c1 ctx := fun w' h => hr1.keep0 (h2.chg.trans h)
  have k2 : ∀ w', Chg [] w2 w' → RdB w' a2 n2 c2 plain := fun w' h => hr2.keep0 (h2.chg.trans h)
  have kK : ∀ w', Chg [] w2 w' → KTab w' := fun w' h => hK.keep0 (h2.chg.trans h)
  have hz := Chg.refl [] w2
  obtain ⟨g3, w3, r3, c3', q3, _⟩ := litC bbT [.slice a1 n1 c1, .slice a2 n2 c2] (by simp [Value.oneCell']) (by simp) w2
  refine ⟨_, rfl, fun h => by simp at h, fun _ => ⟨_, _, _, (L _ hz).2.2.1, _, _, _, (L _ hz).2.2.2, _, _, _, _, r3, (llarge_spec _ 2 2 _ [ctx, plain] w3 q3 (row2_two (k1 _ c3') (k2 _ c3')) (by decide)).mono ?_⟩⟩
  rintro e w4 ⟨rfl, rfl⟩
  refine ⟨_, rfl, fun _ => ⟨rfl, h2.chg.trans c3'⟩, fun h => ?_⟩
  have hsm : n1 + n2 ≤ 8192 := by
    simp only [List.flatten_cons, List.flatten_nil, List.append_nil, List.length_append, decide_eq_false_iff_not] at h
    omega
  clear h
  refine ⟨_, (L _ c3').1, (fromMaster_spec m w4 hm (kK _ c3')).mono ?_⟩
  rintro e w5 ⟨rfl, c5⟩
  have d5 := c3'.trans c5
  obtain ⟨K, hKK⟩ : ∃ K, masterF m = K := ⟨_, rfl⟩
  have hk : K.length = 96 := by rw [← hKK]; simp
  rw [hKK]
  obtain ⟨g6, w6, r6, h6⟩ := (St.start w2 |>.same d5).zeroA kyZ
  obtain ⟨w7, r7, h7⟩ := h6.stA (i := 0) (v := bv K) rfl (kyS _) (by simp) (by simp [hk]) (bv_one _)
  have d7 := h7.chg
  have ld : ∀ w', Chg [] w7 w' → (Instr.loadAt 24 (.pointer (some ⟨g6, 0, none⟩))).run Tryd.prog w' = .ok (.agg (bv K).toArray) w' := fun w' hc => (h7.same hc).ldA (i := 0) (l := bv K) rfl (kyA _) (kyS _) (by simp [hk])
  have hz7 := Chg.refl [] w7
  obtain ⟨_, l1, l2, l3⟩ := L _ d7
  refine ⟨_, rfl, g6, w6, r6, w7, r7, _, ld _ hz7, _, l1, _, _, _, l2, _, _, _, l3, (seal_spec K k a1 n1 c1 ctx a2 n2 c2 plain w7 hk (kK _ d7) (k1 _ d7) (k2 _ d7) (by omega)).mono ?_⟩
  rintro e w8 ⟨a8, n8, c8, rfl, hf8⟩
  have t8 := hf8.1
  have d8 := d7.trans t8
  obtain ⟨_, l1, l2, l3⟩ := L _ d8
  refine ⟨_, _, _, rfl, _, ld _ t8, _, l1, _, _, _, l2, _, _, _, l3, (seal_spec K k a1 n1 c1 ctx a2 n2 c2 plain w8 hk (kK _ d8) (k1 _ d8) (k2 _ d8) (by omega)).mono ?_⟩
  rintro e w9 ⟨a9, n9, c9, rfl, hf9⟩
  obtain ⟨b, hb⟩ : ∃ b, sealF K k ctx plain = b := ⟨_, rfl⟩
  have hbl : b.length = n2 + 45 := by rw [← hb, sealF_len _ _ _ _ (by omega), e2]
  have ho := open_sealF K k ctx plain (by omega)
  rw [hb] at hf8 hf9 ho
  have en8 := hf8.2.1
  have en9 := hf9.2.1
  have t9 := t8.trans hf9.1
  have d9 := d7.trans t9
  obtain ⟨_, l1, l2, l3⟩ := L _ d9
  refine ⟨_, _, _, rfl, _, ld _ t9, _, l1, _, _, _, l2, (open_spec K k a1 n1 c1 ctx a8 n8 c8 b w9 hk (kK _ d9) (k1 _ d9) (hf8.rdB.keep0 hf9.1) (by omega)).mono ?_⟩
  rintro e w10 ⟨a10, n10, c10, rfl, hf10⟩
  have t10 := t9.trans hf10.1
  have d10 := d7.trans t10
  obtain ⟨_, l1, l2, l3⟩ := L _ d10
  refine ⟨_, _, _, _, rfl, _, ld _ t10, _, l1, _, _, _, l2, (open_spec K k a1 n1 c1 ctx a8 n8 c8 b w10 hk (kK _ d10) (k1 _ d10) (hf8.rdB.keep0 (hf9.1.trans hf10.1)) (by omega)).mono ?_⟩
  rintro e w11 ⟨a11, n11, c11, rfl, hf11⟩
  rw [ho] at hf10 hf11
  have hf10' : FreshB w9 w10 a10 n10 c10 plain := hf10
  have hf11' : FreshB w10 w11 a11 n11 c11 plain := hf11
  clear hf10 hf11
  have en10 := hf10'.2.1
  have en11 := hf11'.2.1
  subst en8 en10
  obtain rfl : n9 = b.length := en9.symm
  obtain rfl : n11 = plain.length := en11.symm
  have hS := hf11'.add (hf10'.add (hf9.add (hf8.add (St.start w7))))
  have hS' : St w7 [] w11 [.row 5 1 (.slice a8 b.length c8) b.length (bv b), .row 5 1 (.slice a9 b.length c9) b.length (bv b), .row 5 1 (.slice a10 plain.length c10) plain.length (bv plain), .row 5 1 (.slice a11 plain.length c11) plain.length (bv plain)] := hS
  obtain ⟨g12, w12, r12, h12⟩ := hS'.lit bbT [.slice a8 b.length c8, .slice a9 b.length c9, .slice a10 plain.length c10, .slice a11 plain.length c11] (by simp [Value.oneCell']) (by simp)
  have h13 : St w7 [] w12 (.row 25 1 (.slice (some ⟨g12, 0, none⟩) 4 4) 4 [.slice a8 b.length c8, .slice a9 b.length c9, .slice a10 plain.length c10, .slice a11 plain.length c11] :: rowsL [.slice a8 b.length c8, .slice a9 b.length c9, .slice a10 plain.length c10, .slice a11 plain.length c11] [b, b, plain, plain]) :=
    h12.perm (List.perm_append_comm (l₁ := [_, _, _, _]) (l₂ := [_]))
  refine ⟨_, _, _, _, rfl, _, toStr bS bE sS (hS'.rd (i := 0) rfl).cells rfl, _, toStr bS bE sS (hS'.rd (i := 1) rfl).cells rfl, fun _ => ⟨_, toStr bS bE sS (hS'.rd (i := 2) rfl).cells rfl, _, toStr bS bE sS (hS'.rd (i := 3) rfl).cells rfl, fun _ => ⟨_, _, _, _, r12, ?_⟩, fun h => by simp at h⟩, fun h => by simp at h⟩
  refine (apart_spec _ _ 4 4 _ [b, b, plain, plain] w12 h13.self rfl ?_ (by decide) ?_).mono ?_
  · intro i hi
    match i, hi with
    | 0, _ => exact ⟨_, _, rfl⟩
    | 1, _ => exact ⟨_, _, rfl⟩
    | 2, _ => exact ⟨_, _, rfl⟩
    | 3, _ => exact ⟨_, _, rfl⟩
  · intro i hi
    match i, hi with
    | 0, _ => show b.length ≤ _; omega
    | 1, _ => show b.length ≤ _; omega
    | 2, _ => show plain.length ≤ _; omega
    | 3, _ => show plain.length ≤ _; omega
  · rintro e w15 ⟨rfl, hc⟩
    exact ⟨_, rfl, rfl, h2.chg.trans (d7.trans (h13.chg.trans' hc fun k hk => .inl (h13.fps_own k hk)))⟩

end Go.Proofs.YtlhhmoljlmmnoaaDoor
