/- The law SealBack answers true (conditions: the table lies where the program laid it). -/
import Derived.Test.YtlhhmoljlmmnoaaDoorSealC
namespace Go.Proofs.YtlhhmoljlmmnoaaDoor
open Go Sx
set_option maxRecDepth 8000

theorem kind_next (k : UInt8) : IntKind.wrap .u8 ((k.toNat : Int) + 1) = ((k + 1).toNat : Int) ∧ k ≠ k + 1 := by
  have h := k.toNat_lt
  have h2 : (k + 1).toNat = (k.toNat + 1) % 256 := by rw [UInt8.toNat_add]; rfl
  refine ⟨?_, fun e => ?_⟩
  · rw [wrap_u8, h2]; omega
  · have := congrArg UInt8.toNat e
    rw [h2] at this
    omega

theorem neqS_err {T : TypeId} {m} (hT : Tryd.prog.underlying T = some (.interface m)) (o : Option Int) (n : Int) (x y : Operand) (w : World) : (eqlS .neq T x y (errV o) (.iface 39 (.int .i64 n))).run Tryd.prog w = .ok (.bool (!decide (o = some n))) w := by
  have hE := Tryd.underlying39
  have hI : (typeInfo 39).run Tryd.prog w = .ok Tryd.t39 w := by
    simp [typeInfo, show Tryd.prog.info? 39 = some Tryd.t39 by kernel_rfl]
  have hc : Tryd.t39.comparable = true := by kernel_rfl
  have h1 : ∀ d k, (Op.equalIn (d + 2) T (.iface 39 (.int .i64 k)) (.iface 39 (.int .i64 n))).run Tryd.prog w = .ok (k == n) w := fun d k => by
    simp [Op.equalIn, run_underlying hT, run_underlying hE, hI, hc]
  have h2 : ∀ d U v, (Op.equalIn (d + 1) T .nilIface (.iface U v)).run Tryd.prog w = .ok false w := fun d U v => by simp [Op.equalIn, run_underlying hT]
  cases o with
  | none => simp [eqlS, eqGuard, errV, binOp, Op.equal, show Op.maxDepth = 9999 + 1 from rfl, h2 9999]
  | some k =>
    have h3 : (some k = some n) = (k = n) := by simp
    simp only [h3]
    have h4 : decide (k = n) = (k == n) := rfl
    rw [h4]
    simp [eqlS, eqGuard, errV, binOp, Op.equal, show Op.maxDepth = 9998 + 2 from rfl, h1 9998]

theorem openF_short {K : List UInt8} {k : UInt8} {ctx b : List UInt8} (h : b.length < 45) : openF K k ctx b = none := by rw [openF, if_pos (.inl h)]

theorem sealBack_walk (K m : List UInt8) (k : UInt8) (a1 : Option Addr) (n1 c1 : Nat) (ctx : List UInt8) (a2 : Option Addr) (n2 c2 : Nat) (plain : List UInt8) (a3 : Option Addr) (n3 c3 : Nat) (short : List UInt8) (w : World) (hK : KTab w) (hk : K.length = 96) (hm : m.length = 32) (hr1 : RdB w a1 n1 c1 ctx) (hr2 : RdB w a2 n2 c2 plain) (hr3 : RdB w a3 n3 c3 short) :
    Calls Tryd.prog 4 #[.agg (bv K).toArray, .agg (caseL m k a1 n1 c1 a2 n2 c2).toArray, .slice a3 n3 c3] w fun e w' => e = .returned (.bool true) ∧ Chg [] w w' := by
  have e1 := hr1.lenB
  have e2 := hr2.lenB
  have e3 := hr3.lenB
  obtain ⟨mI, hI⟩ := eI
  apply amphoralaw05_SealBack_vc
  obtain ⟨g0, w0, r0, h0⟩ := (St.start w).boxA 24 (bv K)
  obtain ⟨g1, w1, r1, h1⟩ := h0.boxA 31 (caseL m k a1 n1 c1 a2 n2 c2)
  refine ⟨g0, w0, r0, g1, w1, r1, (lalive_spec w1 (hK.keep0 h1.chg)).mono ?_⟩
  rintro e w2 ⟨rfl, hc2⟩
  have h2 := h1.same hc2
  have L := fun w' (hc : Chg [] w2 w') => caseL_ld (h2.same hc) (i := 1) rfl hm
  have ld : ∀ w', Chg [] w2 w' → (Instr.loadAt 24 (.pointer (some ⟨g0, 0, none⟩))).run Tryd.prog w' = .ok (.agg (bv K).toArray) w' := fun w' hc => (h2.same hc).ldA (i := 0) (l := bv K) rfl (kyA _) (kyS _) (by simp [hk])
  have k1 : ∀ w', Chg [] w2 w' → RdB w' a1 n1 c1 ctx := fun w' h => hr1.keep0 (h2.chg.trans h)
  have k2 : ∀ w', Chg [] w2 w' → RdB w' a2 n2 c2 plain := fun w' h => hr2.keep0 (h2.chg.trans h)
  have k3 : ∀ w', Chg [] w2 w' → RdB w' a3 n3 c3 short := fun w' h => hr3.keep0 (h2.chg.trans h)
  have kK : ∀ w', Chg [] w2 w' → KTab w' := fun w' h => hK.keep0 (h2.chg.trans h)
  have hz := Chg.refl [] w2
  obtain ⟨g3, w3, r3, c3', q3, _⟩ := litC bbT [.slice a1 n1 c1, .slice a2 n2 c2, .slice a3 n3 c3] (by simp [Value.oneCell']) (by simp) w2
  refine ⟨_, rfl, fun h => by simp at h, fun _ => ⟨_, _, _, (L _ hz).2.2.1, _, _, _, (L _ hz).2.2.2, _, _, _, _, r3, (llarge_spec _ 3 3 _ [ctx, plain, short] w3 q3 (row2_three (k1 _ c3') (k2 _ c3') (k3 _ c3')) (by decide)).mono ?_⟩⟩
  rintro e w4 ⟨rfl, rfl⟩
  refine ⟨_, rfl, fun _ => ⟨rfl, h2.chg.trans c3'⟩, fun h => ?_⟩
  have hsm : n1 + n2 + n3 ≤ 8192 := by
    simp only [List.flatten_cons, List.flatten_nil, List.append_nil, List.length_append, decide_eq_false_iff_not] at h
    omega
  clear h
  obtain ⟨_, l1, l2, l3⟩ := L _ c3'
  refine ⟨_, ld _ c3', _, l1, _, _, _, l2, _, _, _, l3, (seal_spec K k a1 n1 c1 ctx a2 n2 c2 plain w4 hk (kK _ c3') (k1 _ c3') (k2 _ c3') (by omega)).mono ?_⟩
  rintro e w6 ⟨a6, n6, c6, rfl, hf6⟩
  obtain ⟨b, hb⟩ : ∃ b, sealF K k ctx plain = b := ⟨_, rfl⟩
  have hbl : b.length = n2 + 45 := by rw [← hb, sealF_len _ _ _ _ (by omega), e2]
  have ho := open_sealF K k ctx plain (by omega)
  have ho2 := open_other K k (k + 1) ctx plain (by omega) (kind_next k).2
  have hparts := (sealF_parts K k ctx plain (by omega)).1
  rw [hb] at hf6 ho ho2 hparts
  have en6 := hf6.2.1
  have d6 := c3'.trans hf6.1
  obtain ⟨_, l1, l2, l3⟩ := L _ d6
  refine ⟨_, _, _, rfl, _, ld _ d6, _, l1, _, _, _, l2, (open_spec K k a1 n1 c1 ctx a6 n6 c6 b w6 hk (kK _ d6) (k1 _ d6) hf6.rdB (by omega)).mono ?_⟩
  rintro e w7 ⟨a7, n7, c7, rfl, hf7⟩
  have d7 := d6.trans hf7.1
  obtain ⟨_, l1, l2, l3⟩ := L _ d7
  refine ⟨_, _, _, _, rfl, _, ld _ d7, _, l1, _, _, _, l2, ?_⟩
  rw [(kind_next k).1]
  refine (open_spec K (k + 1) a1 n1 c1 ctx a6 n6 c6 b w7 hk (kK _ d7) (k1 _ d7) (hf6.rdB.keep0 hf7.1) (by omega)).mono ?_
  rintro e w8 ⟨a8, n8, c8, rfl, hf8⟩
  have d8 := d7.trans hf8.1
  have t8 := hf7.1.trans hf8.1
  have hoe : openE K k ctx b = none := by rw [openE, ho]; rfl
  have hoe2 : openE K (k + 1) ctx b = some 10 := by rw [openE, ho2]; rfl
  rw [hoe, hoe2]
  rw [ho] at hf7
  have hf7' : FreshB w6 w7 a7 n7 c7 plain := hf7
  have dd := d8.trans (Chg.drew [] w8)
  have hw45 : IntKind.wrap .i64 ((n2 : Int) + 45) = ((n2 + 45 : Nat) : Int) := by rw [wrap_i64 (by omega) (by omega)]; omega
  refine ⟨_, _, _, _, rfl, fun x w' => x = false ∧ Chg [] w2 w', ⟨fun w' => Chg [] w8.drew w', Chg.refl _ _, _, _, _, fun w' h => (L w' (dd.trans h)).2.2.2, fun h => ?_, fun _ => ?_⟩, ?_⟩
  · rw [hw45] at h
    simp at h
    omega
  · have q6 : ∀ w', Chg [] w8.drew w' → RdB w' a6 n6 c6 b := fun w' h => hf6.rdB.keep0 ((t8.trans (Chg.drew [] w8)).trans h)
    have hcell := (q6 _ (Chg.refl _ _)).cells
    have q7 : ∀ w', Chg [] w8.drew w' → RdB w' a7 n7 c7 plain := fun w' h => hf7'.rdB.keep0 ((hf8.1.trans (Chg.drew [] w8)).trans h)
    refine ix0 hcell en6 0 (by omega) fun bl o ha q => ⟨bl, o, ha, by omega, by omega, _, fun w' h => q w' (q6 w' h).cells, _, fun w' h => (L w' (dd.trans h)).2.1, fun h => ?_, fun _ => ?_⟩
    · rw [hparts] at h
      simp at h
    · refine ⟨_, fun w' _ => neqS_nil hI none _ _, fun h => by simp at h, fun _ => ⟨_, fun w' h => toStr bS bE sS (q7 w' h).cells (q7 w' h).lenB, _, _, _, fun w' h => (L w' (dd.trans h)).2.2.2, _, fun w' h => toStr bS bE sS (k2 w' (dd.trans h)).cells e2, fun h => ?_, fun _ => ⟨_, fun w' _ => neqS_err hI (some 10) 10 _ _ _, ?_, dd⟩⟩⟩
      · simp at h
      · simp
  rintro x w9 ⟨rfl, d9⟩
  refine ⟨fun h => (by cases h), fun _ => ⟨fun h => ?_, fun _ => ⟨rfl, h2.chg.trans d9⟩⟩⟩
  have h45 : short.length < 45 := by simp at h; omega
  obtain ⟨_, l1, l2, l3⟩ := L _ d9
  refine ⟨_, ld _ d9, _, l1, _, _, _, l2, (open_spec K k a1 n1 c1 ctx a3 n3 c3 short w9 hk (kK _ d9) (k1 _ d9) (k3 _ d9) (by omega)).mono ?_⟩
  rintro e w10 ⟨a10, n10, c10, rfl, hf10⟩
  rw [openE, openF_short h45]
  rw [openF_short h45] at hf10
  have hn0 : n10 = 0 := hf10.2.1.symm
  refine ⟨_, _, _, _, rfl, _, eqlS_err hI (some 10) 10 _ _ _, ?_, h2.chg.trans (d9.trans hf10.1)⟩
  rw [hn0]
  rfl

end Go.Proofs.YtlhhmoljlmmnoaaDoor
