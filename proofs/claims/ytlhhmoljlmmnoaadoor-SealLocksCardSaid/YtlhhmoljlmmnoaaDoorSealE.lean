/- Contracts of the reference of chapter 5: Tag, Open; the law SealTakes answers true (conditions: the table lies where the program laid it). -/
import Derived.Test.YtlhhmoljlmmnoaaDoorSealC
import Derived.Test.YtlhhmoljlmmnoaaDoorWireB
import Derived.Test.YtlhhmoljlmmnoaaDoorShaS
namespace Go.Proofs.YtlhhmoljlmmnoaaDoor
open Go Sx
set_option maxRecDepth 8000

theorem d12B (w : World) : (Instr.build 69 #[]).run Tryd.prog w = .ok (.agg (bv (List.replicate 12 0)).toArray) w := by
  have := build_arr (P := Tryd.prog) (w := w) (T := 69) (d12Z w) Tryd.underlying69 (sB1 w) [] (by simp) (by simp)
  simpa using this

theorem rtag_spec (K : List UInt8) (k : UInt8) (a2 : Option Addr) (n2 c2 : Nat) (ctx : List UInt8) (a3 : Option Addr) (n3 c3 : Nat) (nonce : List UInt8) (a4 : Option Addr) (n4 c4 : Nat) (body : List UInt8) (w : World) (hk : K.length = 96) (hr2 : RdB w a2 n2 c2 ctx) (hr3 : RdB w a3 n3 c3 nonce) (hr4 : RdB w a4 n4 c4 body) (hb : n2 + n3 + n4 ≤ 67108000) :
    Calls Tryd.prog 39 #[.agg (bv K).toArray, .int .u8 (k.toNat : Int), .slice a2 n2 c2, .slice a3 n3 c3, .slice a4 n4 c4] w fun e w' => e = .returned (.agg (bv (tagF K k ctx nonce body)).toArray) ∧ Chg [] w w' := by
  have e2 := hr2.lenB
  have e3 := hr3.lenB
  have e4 := hr4.lenB
  apply amphoraref05_Tag_vc
  obtain ⟨g1, w1, r1, h1⟩ := (St.start w).boxA 24 (bv K)
  obtain ⟨g2, w2, r2, h2⟩ := h1.zeroA d32Z
  have h2d := h2.drew
  obtain ⟨g3, w3, r3, c3', q3⟩ := litK k w2.drew
  have h3 := h2d.same c3'
  obtain ⟨g4, w4, r4, c4', q4, _⟩ := litC bbT [.slice (some ⟨g3, 0, none⟩) 1 1, .slice a2 n2 c2, .slice a3 n3 c3, .slice a4 n4 c4] (by simp [Value.oneCell']) (by simp) w3
  have h4 := h3.same c4'
  have hrow : Row2 w4 [.slice (some ⟨g3, 0, none⟩) 1 1, .slice a2 n2 c2, .slice a3 n3 c3, .slice a4 n4 c4] [[k], ctx, nonce, body] :=
    (row2_three (h4.rd1 hr2) (h4.rd1 hr3) (h4.rd1 hr4)).cons (q3.keep0 c4')
  refine ⟨g1, w1, r1, g2, w2, r2, by omega, by omega, _, _, _, _, r3, _, _, _, _, r4, (rpack_spec _ 4 4 _ [[k], ctx, nonce, body] w4 q4 hrow (by simp; omega) (by simp)).mono ?_⟩
  rintro e w5 ⟨a5, n5, c5, rfl, hf5⟩
  have h5 := h4.same hf5.1
  obtain ⟨g6, w6, r6, c6', q6, _⟩ := litC bbT [.slice a5 n5 c5] (by simp [Value.oneCell']) (by simp) w5
  have h6 := h5.same c6'
  have hpl : (packL [[k], ctx, nonce, body]).length ≤ 67109864 := by
    have := packL_len [[k], ctx, nonce, body] (by simp; omega)
    simp at this ⊢
    omega
  refine ⟨_, _, _, rfl, _, _, _, _, r6, (rmac_spec _ 32 32 (macKy K) _ 1 1 _ [packL [[k], ctx, nonce, body]] w6 (macK_rd h6 (i := 0) rfl hk).1 (by omega) q6 (row2_one (hf5.rdB.keep0 c6')) (by rw [List.flatten_cons, List.flatten_nil, List.append_nil]; omega) (by decide)).mono ?_⟩
  rintro e w7 ⟨rfl, c7⟩
  have e1 : [packL [[k], ctx, nonce, body]].flatten = packL [[k], ctx, nonce, body] := by rw [List.flatten_cons, List.flatten_nil, List.append_nil]
  rw [e1]
  obtain ⟨w8, r8, h8⟩ := (h6.same c7).stA (i := 1) (v := bv (tagF K k ctx nonce body)) rfl (d32S _) (by simp) (by simp) (bv_one _)
  exact ⟨_, rfl, w8, r8, _, h8.ldVarA (i := 1) (l := bv (tagF K k ctx nonce body)) rfl (d32A _) (d32S _) (by simp), rfl, h8.chg⟩

theorem FreshB.blk {w w' : World} {a : Option Addr} {n c : Nat} {l : List UInt8} (h : FreshB w w' a n c l) : ∀ ad, a = some ad → w.heap.size ≤ ad.block := by
  intro ad e
  subst e
  rcases h.2.2.2 with ⟨hv, _⟩ | ⟨g, cap, cur, hv, hb, _⟩
  · simp at hv
  · simp only [Value.slice.injEq, Option.some.injEq] at hv
    rw [hv.1]
    exact hb

theorem ropen_specN (K : List UInt8) (k : UInt8) (a2 : Option Addr) (n2 c2 : Nat) (ctx : List UInt8) (a3 : Option Addr) (n3 c3 : Nat) (b : List UInt8) (w : World)
    (hk : K.length = 96) (hr2 : RdB w a2 n2 c2 ctx) (hr3 : RdB w a3 n3 c3 b) (hb : n2 + n3 ≤ 67100000) :
    Calls Tryd.prog 27 #[.agg (bv K).toArray, .int .u8 (k.toNat : Int), .slice a2 n2 c2, .slice a3 n3 c3] w fun e w' => ∃ a n c, e = .returned (.tuple #[.slice a n c, .int .i64 ((openE K k ctx b).getD 0)]) ∧ Chg [] w w' ∧ RdB w' a n c ((openF K k ctx b).getD []) ∧ ∀ ad, a = some ad → w.heap.size ≤ ad.block := by
  have e2 := hr2.lenB
  have e3 := hr3.lenB
  have hle := hr3.le
  apply amphoraref05_Open_vc
  obtain ⟨g1, w1, r1, h1⟩ := (St.start w).boxA 24 (bv K)
  have bad : ∀ w', Chg [] w w' → openF K k ctx b = none → ∃ a n c, Ending.returned (.tuple #[.slice none 0 0, .int .i64 10]) = .returned (.tuple #[.slice a n c, .int .i64 ((openE K k ctx b).getD 0)]) ∧ Chg [] w w' ∧ RdB w' a n c ((openF K k ctx b).getD []) ∧ ∀ ad, a = some ad → w.heap.size ≤ ad.block := fun w' hc hn => by
    refine ⟨none, 0, 0, ?_, hc, ?_, by simp⟩
    · rw [openE, hn]; rfl
    · rw [hn]; exact rdB_nil0 w'
  have hw : IntKind.wrap .i64 ((n3 : Int) - 45) = (n3 : Int) - 45 := wrap_i64 (by omega) (by omega)
  have hw2 : IntKind.wrap .i64 (13 + ((n3 : Int) - 45)) = (n3 : Int) - 32 := by rw [wrap_i64 (by omega) (by omega)]; omega
  rw [hw, hw2]
  refine ⟨g1, w1, r1, fun x w' => x = decide (b.length < 45 ∨ b.getD 0 0 ≠ k) ∧ w' = w1, ⟨fun h => ?_, fun h => ?_⟩, ?_⟩
  · have : b.length < 45 := by simp at h; omega
    exact ⟨by simp [this], rfl⟩
  · have h45 : ¬ b.length < 45 := by simp at h; omega
    refine ixB (bA _) (h1.rd1 hr3).cells e3 (by omega) (by omega) fun bl o hbo => ⟨?_, rfl⟩
    have : (0 : Int).toNat = 0 := rfl
    rw [this]
    by_cases hx : b.getD 0 0 = k
    · rw [hx]; simp [h45]
    · have hx2 : ((b.getD 0 0).toNat : Int) ≠ (k.toNat : Int) := fun e => hx (by apply UInt8.toNat_inj.1; omega)
      rw [bne_iff_ne.2 hx2]
      exact (decide_eq_true (.inr hx)).symm
  rintro x w2 ⟨rfl, rfl⟩
  refine ⟨fun h => bad _ h1.chg ?_, fun h => ?_⟩
  · have h' : b.length < 45 ∨ b.getD 0 0 ≠ k := by simpa using h
    rw [openF, if_pos h']
  have h' : ¬ (b.length < 45 ∨ b.getD 0 0 ≠ k) := by simpa using h
  have hof : openF K k ctx b = if tagF K k ctx (bNonce b) (bBody b) = bTag b then some (overF K (bNonce b) (bBody b)) else none := by rw [openF, if_neg h']
  have h45 : 45 ≤ b.length := by
    rcases Nat.lt_or_ge b.length 45 with h | h
    · exact absurd (.inl h) h'
    · exact h
  clear h h'
  have hnl : (bNonce b).length = 12 := by simp [bNonce]; omega
  obtain ⟨g3, w3, r3, h3⟩ := h1.zeroA d12Z
  obtain ⟨w4, r4, h4⟩ := h3.stA (i := 1) (v := bv (mixG (bNonce b) (List.replicate 12 0) 0)) rfl (d12S _) (by simp) (by rw [mixG_zero]; simp) (bv_one _)
  rw [mixG_zero] at r4
  refine ⟨_, d12B _, g3, w3, r3, w4, r4, fun x w' => ∃ i : Nat, x = (i : Int) ∧ i ≤ 12 ∧ St w [] w' [.arr g1 24 (bv K), .arr g3 69 (bv (mixG (bNonce b) (List.replicate 12 0) i))], fun x _ => 12 - x.toNat, ⟨0, rfl, by omega, h4⟩, ?_⟩
  rintro x w5 ⟨i, rfl, hi, h5⟩
  refine ⟨fun h => ?_, fun h => ?_⟩
  · have hi' : i < 12 := by simp at h; omega
    have hwi : IntKind.wrap .i64 (1 + (i : Int)) = ((1 + i : Nat) : Int) := by rw [wrap_i64 (by omega) (by omega)]; omega
    rw [hwi]
    refine ix0 (h5.rd1 hr3).cells e3 (1 + i) (by omega) fun bl o ha q => ⟨bl, o, ha, by omega, by omega, _, q w5 (h5.rd1 hr3).cells, by omega, by omega, ?_⟩
    have hbi : (bNonce b)[i]? = some (b.getD (1 + i) 0) := by
      rw [bNonce, List.getElem?_take, if_pos hi', List.getElem?_drop, List.getD, List.getElem?_eq_getElem (by omega)]
      rfl
    have hml : (mixG (bNonce b) (List.replicate 12 (0 : UInt8)) i).length = 12 := by simp [mixG]; omega
    obtain ⟨w6, r6, h6⟩ := h5.stB (i := 1) (o := i) (T := 5) (b := b.getD (1 + i) 0) rfl (sB1 _) (show 0 + Int.toNat (i : Int) * 1 = i by omega) (by omega)
    rw [mixG_set (by rw [hnl, List.length_replicate]) hbi] at h6
    exact ⟨w6, r6, ⟨i + 1, wrap_succ hi' (by omega), by omega, h6⟩, mu_succ hi' (by omega)⟩
  have hi' : i = 12 := by simp at h; omega
  have f1 : mixG (bNonce b) (List.replicate 12 (0 : UInt8)) i = bNonce b := by
    have := mixG_all (x := bNonce b) (l := List.replicate 12 (0 : UInt8)) (by rw [hnl, List.length_replicate])
    rw [List.length_replicate] at this; rw [hi', this]
  rw [f1] at h5
  clear f1 hi' h hi h4 h3 r4
  refine ⟨by omega, by omega, by omega, fun t44 hs44 => ?_⟩
  have hn3 : (Int.toNat ((n3 : Int) - 32)) = n3 - 32 := by omega
  rw [hn3]
  have hz := Chg.drew [] w5
  have q3 := h5.rd1 hr3
  have qb : RdB w5 t44 (n3 - 32 - 13) (c3 - 13) (bBody b) := by
    have := q3.sub hs44 (hh := n3 - 32) (by omega) (by omega) (by omega) (Nat.le_refl _)
    have e1 : ((bv b).drop (13 * 1)).take ((n3 - 32 - 13) * 1) = bv (bBody b) := by rw [bBody, bv_take, bv_drop, e3]; congr 1; omega
    rw [e1] at this
    exact this
  have ld : ∀ w', Chg [] w5 w' → (Instr.loadAt 24 (.pointer (some ⟨g1, 0, none⟩))).run Tryd.prog w' = .ok (.agg (bv K).toArray) w' := fun w' hc => (h5.same hc).ldA (i := 0) (l := bv K) rfl (kyA _) (kyS _) (by simp [hk])
  have qn : ∀ w', Chg [] w5 w' → RdB w' (some ⟨g3, 0, none⟩) 12 12 (bNonce b) := fun w' hc => (h5.same hc).rdA (i := 1) rfl (by simp [hnl])
  obtain ⟨tg, htg⟩ : ∃ t, tagF K k ctx (bNonce b) (bBody b) = t := ⟨_, rfl⟩
  have htl : tg.length = 32 := by rw [← htg]; simp
  rw [htg] at hof
  have Pt : ∀ w', Chg [] w5 w' → Calls Tryd.prog 39 #[.agg (bv K).toArray, .int .u8 (k.toNat : Int), .slice a2 n2 c2, .slice (some ⟨g3, 0, none⟩) 12 12, .slice t44 (n3 - 32 - 13) (c3 - 13)] w' fun e w'' => e = .returned (.agg (bv tg).toArray) ∧ Chg [] w' w'' := fun w' hc => by
    have := rtag_spec K k a2 n2 c2 ctx _ 12 12 (bNonce b) t44 (n3 - 32 - 13) (c3 - 13) (bBody b) w' hk ((h5.same hc).rd1 hr2) (qn _ hc) (qb.keep0 hc) (by omega)
    rw [htg] at this
    exact this
  have hx0 := fun w' (hc : Chg [] w5 w') => rxor_spec (ciphK K) (bNonce b) 0 t44 (n3 - 32 - 13) (c3 - 13) (bBody b) w' (by simp [ciphK, hk]) hnl (by omega) (by omega) (qb.keep0 hc) (by omega)
  have hld : ∀ w', Chg [] w5 w' → (Instr.loadAt 22 (.pointer (some ⟨g1, 0, none⟩))).run Tryd.prog w' = .ok (.agg (bv (ciphK K)).toArray) w' := fun w' hc => by
    have := (h5.same hc).ldPre (T := 22) (i := 0) (l := bv K) rfl (d32A _) (d32S _) (by simp [hk])
    rw [← bv_take] at this
    exact this
  refine ⟨fun w' => Chg [] w5 w', hz, by omega, by omega, _, ld, ?o1, ?o2⟩
  case' o1 =>
    refine (Pt _ hz).mono ?_
    rintro e w7 ⟨rfl, c7⟩
    have d7 := hz.trans c7
    obtain ⟨g14, w8, r8, h8⟩ := ((St.start w5).same d7).zeroA d32Z
    obtain ⟨w9, r9, h9⟩ := h8.stA (i := 0) (v := bv tg) rfl (d32S _) (by simp) (by simp [htl]) (bv_one _)
    refine ⟨_, rfl, fun w' => Chg [] w5 w', fun _ h => h, d7, g14, w8, r8, fun w' => Chg [] w5 w', fun _ h => h, h8.chg, w9, r9, ?_⟩
  case' o2 =>
    obtain ⟨g14, w8, r8, h8⟩ := ((St.start w5).same hz).zeroA d32Z
    refine ⟨g14, w8, r8, fun w' => Chg [] w5 w', fun _ h => h, h8.chg, (Pt _ h8.chg).mono ?_⟩
    rintro e w7 ⟨rfl, c7⟩
    obtain ⟨w9, r9, h9⟩ := (h8.same c7).stA (i := 0) (v := bv tg) rfl (d32S _) (by simp) (by simp [htl]) (bv_one _)
    refine ⟨_, rfl, fun w' => Chg [] w5 w', fun _ h => h, (h8.same c7).chg, w9, r9, ?_⟩
  all_goals
    have dd := h9.chg.trans (Chg.drew [] w9)
    refine ⟨fun w' => Chg [] w9.drew w', Chg.refl _ _, by omega, by omega, by omega, by omega, by omega, fun t56 hs56 => ?_⟩
    have qt : RdB w9.drew t56 (n3 - (n3 - 32)) (c3 - (n3 - 32)) (bTag b) := by
      have := (q3.keep0 dd).sub hs56 (hh := n3) (by omega) (Nat.le_refl _) (by omega) (Nat.le_refl _)
      have e1 : ((bv b).drop ((n3 - 32) * 1)).take ((n3 - (n3 - 32)) * 1) = bv (bTag b) := by
        rw [bTag, bv_drop, e3, List.take_of_length_le (by simp; omega)]; congr 1; omega
      rw [e1] at this
      exact this
    refine ⟨_, fun w' h => toStr bS bE sS ((h9.drew.same h).rdA (i := 0) (l := bv tg) (n := 32) rfl (by simp [htl])).cells htl, _, fun w' h => toStr bS bE sS (qt.keep0 h).cells qt.lenB, fun h => ?_, fun h => ?_⟩
    · have : ¬ tg = bTag b := by simpa using h
      exact bad _ (h5.chg.trans dd) (by rw [hof, if_neg this])
    · have ht : tg = bTag b := by simpa using h
      rw [if_pos ht] at hof
      refine ⟨_, hld _ dd, _, (h5.same dd).ldA (i := 1) (l := bv (bNonce b)) rfl (d12A _) (d12S _) (by simp [hnl]), (hx0 _ dd).mono ?_⟩
      rintro e w10 ⟨a, n, c, rfl, hf⟩
      refine ⟨_, _, _, _, rfl, a, n, c, ?_, h5.chg.trans (dd.trans hf.1), ?_, fun ad e => ?_⟩
      · rw [openE, hof]; rfl
      · rw [hof]; exact hf.rdB
      · have := hf.blk ad e
        have := (h5.chg.trans dd).size
        omega

theorem ropen_spec (K : List UInt8) (k : UInt8) (a2 : Option Addr) (n2 c2 : Nat) (ctx : List UInt8) (a3 : Option Addr) (n3 c3 : Nat) (b : List UInt8) (w : World)
    (hk : K.length = 96) (hr2 : RdB w a2 n2 c2 ctx) (hr3 : RdB w a3 n3 c3 b) (hb : n2 + n3 ≤ 67100000) :
    Calls Tryd.prog 27 #[.agg (bv K).toArray, .int .u8 (k.toNat : Int), .slice a2 n2 c2, .slice a3 n3 c3] w fun e w' => ∃ a n c, e = .returned (.tuple #[.slice a n c, .int .i64 ((openE K k ctx b).getD 0)]) ∧ Chg [] w w' ∧ RdB w' a n c ((openF K k ctx b).getD []) := by
  refine (ropen_specN K k a2 n2 c2 ctx a3 n3 c3 b w hk hr2 hr3 hb).mono ?_
  rintro e w' ⟨a, n, c, h1, h2, h3, _⟩
  exact ⟨a, n, c, h1, h2, h3⟩

theorem openE_ne (K : List UInt8) (k : UInt8) (ctx b : List UInt8) : openE K k ctx b ≠ some 0 := by rw [openE]; split <;> simp

theorem opens_spec (K : List UInt8) (k : UInt8) (a1 : Option Addr) (n1 c1 : Nat) (ctx : List UInt8) (a2 : Option Addr) (n2 c2 : Nat) (b : List UInt8) (w : World) (hK : KTab w) (hk : K.length = 96) (hr1 : RdB w a1 n1 c1 ctx) (hr2 : RdB w a2 n2 c2 b) :
    Calls Tryd.prog 9 #[.agg (bv K).toArray, .int .u8 (k.toNat : Int), .slice a1 n1 c1, .slice a2 n2 c2] w fun e w' => e = .returned (.bool true) ∧ Chg [] w w' := by
  have e1 := hr1.lenB
  have e2 := hr2.lenB
  apply amphoralaw05_opens_vc
  obtain ⟨g1, w1, r1, h1⟩ := (St.start w).boxA 24 (bv K)
  refine ⟨g1, w1, r1, (lalive_spec w1 (hK.keep0 h1.chg)).mono ?_⟩
  rintro e w2 ⟨rfl, hc2⟩
  have h2 := h1.same hc2
  have ld : ∀ w', Chg [] w2 w' → (Instr.loadAt 24 (.pointer (some ⟨g1, 0, none⟩))).run Tryd.prog w' = .ok (.agg (bv K).toArray) w' := fun w' hc => (h2.same hc).ldA (i := 0) (l := bv K) rfl (kyA _) (kyS _) (by simp [hk])
  have k1 : ∀ w', Chg [] w2 w' → RdB w' a1 n1 c1 ctx := fun w' h => hr1.keep0 (h2.chg.trans h)
  have k2 : ∀ w', Chg [] w2 w' → RdB w' a2 n2 c2 b := fun w' h => hr2.keep0 (h2.chg.trans h)
  obtain ⟨g3, w3, r3, c3', q3, _⟩ := litC bbT [.slice a1 n1 c1, .slice a2 n2 c2] (by simp [Value.oneCell']) (by simp) w2
  refine ⟨_, rfl, fun h => by simp at h, fun _ => ⟨_, _, _, _, r3, (llarge_spec _ 2 2 _ [ctx, b] w3 q3 (row2_two (k1 _ c3') (k2 _ c3')) (by decide)).mono ?_⟩⟩
  rintro e w4 ⟨rfl, rfl⟩
  refine ⟨_, rfl, fun _ => ⟨rfl, h2.chg.trans c3'⟩, fun h => ?_⟩
  have hsm : n1 + n2 ≤ 8192 := by
    simp only [List.flatten_cons, List.flatten_nil, List.append_nil, List.length_append, decide_eq_false_iff_not] at h
    omega
  clear h
  refine (copy_spec a1 n1 c1 ctx w4 (k1 _ c3') (by omega)).mono ?_
  rintro e w5 ⟨g5, c5, cur5, rfl, hc5, hg5, hm5⟩
  have d5 := c3'.trans hc5
  refine ⟨_, _, _, rfl, (copy_spec a2 n2 c2 b w5 (k2 _ d5) (by omega)).mono ?_⟩
  rintro e w6 ⟨g6, c6, cur6, rfl, hc6, hg6, hm6⟩
  have d6 := d5.trans hc6
  have mk5 : ∀ w', Chg [] w6 w' → MarkB w' g5 n1 c5 ctx cur5 := fun w' h => hm5.keep ((hc6.trans h).block g5 (getElem?_eq_some_iff.1 hm5.blk).1 (by simp))
  have mk6 : ∀ w', Chg [] w6 w' → MarkB w' g6 n2 c6 b cur6 := fun w' h => hm6.keep (h.block g6 (getElem?_eq_some_iff.1 hm6.blk).1 (by simp))
  have hz6 := Chg.refl [] w6
  refine ⟨_, _, _, rfl, _, ld _ d6, (open_spec K k _ n1 c5 ctx _ n2 c6 b w6 hk (hK.keep0 (h2.chg.trans d6)) (mk5 _ hz6).rd (mk6 _ hz6).rd (by omega)).mono ?_⟩
  rintro e w7 ⟨a7, n7, c7, rfl, hf7⟩
  have d7 := d6.trans hf7.1
  refine ⟨_, _, _, _, rfl, _, ld _ d7, (ropen_spec K k a1 n1 c1 ctx a2 n2 c2 b w7 hk (k1 _ d7) (k2 _ d7) (by omega)).mono ?_⟩
  rintro e w8 ⟨a8, n8, c8, rfl, hc8, hr8⟩
  have t8 := hf7.1.trans hc8
  have d8 := d6.trans t8
  refine ⟨_, _, _, _, rfl, _, toStr bS bE sS (hf7.cells.keep0 hc8) hf7.rdB.lenB, _, toStr bS bE sS hr8.cells hr8.lenB, fun _ => ?_, fun h => by simp at h⟩
  refine (num_spec (openE K k ctx b) w8 (openE_ne K k ctx b)).mono ?_
  rintro e w9 ⟨rfl, rfl⟩
  refine ⟨_, rfl, fun _ => (kept_spec _ _ _ _ _ _ _ _ _ (mk5 _ t8) (k1 _ d8) (by omega)).mono ?_, fun h => by simp at h⟩
  rintro e w9 ⟨rfl, rfl⟩
  refine ⟨_, rfl, fun _ => (kept_spec _ _ _ _ _ _ _ _ _ (mk6 _ t8) (k2 _ d8) (by omega)).mono ?_, fun h => by simp at h⟩
  rintro e w9 ⟨rfl, rfl⟩
  exact ⟨_, rfl, rfl, h2.chg.trans d8⟩

/-- The cells of a Blob. -/
def blobL (K : List UInt8) (k : UInt8) (a1 : Option Addr) (n1 c1 : Nat) (a2 : Option Addr) (n2 c2 : Nat) : List Value := bv K ++ [.int .u8 (k.toNat : Int), .slice a1 n1 c1, .slice a2 n2 c2]

theorem sealTakes_walk (K : List UInt8) (k : UInt8) (a1 : Option Addr) (n1 c1 : Nat) (ctx : List UInt8) (a2 : Option Addr) (n2 c2 : Nat) (b : List UInt8) (w : World) (hK : KTab w) (hk : K.length = 96) (hr1 : RdB w a1 n1 c1 ctx) (hr2 : RdB w a2 n2 c2 b) :
    Calls Tryd.prog 3 #[.agg (blobL K k a1 n1 c1 a2 n2 c2).toArray] w fun e w' => e = .returned (.bool true) ∧ Chg [] w w' := by
  have hb : (bv K).length = 96 := by simp [hk]
  have hg : ∀ j, (blobL K k a1 n1 c1 a2 n2 c2)[96 + j]? = ([.int .u8 (k.toNat : Int), .slice a1 n1 c1, .slice a2 n2 c2] : List Value)[j]? := fun j => by
    rw [blobL, List.getElem?_append_right (by omega), hb]; congr 1; omega
  apply amphoralaw05_SealTakes_vc
  obtain ⟨g1, w1, r1, h1⟩ := (St.start w).boxA 27 (blobL K k a1 n1 c1 a2 n2 c2)
  have hl := h1.ldPre (T := 24) (n := 96) (i := 0) rfl (kyA _) (kyS _) (by simp [blobL, hk])
  rw [blobL, List.take_left' hb] at hl
  refine ⟨g1, w1, r1, _, hl, _, h1.ldL (i := 0) rfl (bA _) rfl (hg 0), _, _, _, h1.ldL (i := 0) rfl (bsA _) rfl (hg 1), _, _, _, h1.ldL (i := 0) rfl (bsA _) rfl (hg 2), (opens_spec K k a1 n1 c1 ctx a2 n2 c2 b w1 (hK.keep0 h1.chg) hk (h1.rd1 hr1) (h1.rd1 hr2)).mono ?_⟩
  rintro e w2 ⟨rfl, hc2⟩
  exact ⟨_, rfl, rfl, h1.chg.trans hc2⟩

end Go.Proofs.YtlhhmoljlmmnoaaDoor
