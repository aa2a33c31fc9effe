/- The law SealWrites answers true (conditions: the table lies where the program laid it). -/
import Derived.Test.YtlhhmoljlmmnoaaDoorSealI
import Derived.Test.YtlhhmoljlmmnoaaDoorEqS
namespace Go.Proofs.YtlhhmoljlmmnoaaDoor
open Go Sx
set_option maxRecDepth 8000

theorem key_fields : ((Tryd.prog.fieldsOf 24).toList.map fun f => (f.type, f.offset)) = [(22, 0), (22, 32), (22, 64)] := by kernel_rfl
theorem key_names : ((Tryd.prog.fieldsOf 24).toList.all fun f => f.name != "_") = true := by kernel_rfl

theorem eqKeys (x y : Operand) (K : List UInt8) (hk : K.length = 96) (w : World) : (eqlS .neq 24 x y (.agg (bv K).toArray) (.agg (bv K).toArray)).run Tryd.prog w = .ok (.bool false) w := by
  have hp : ∀ o, o + 32 ≤ 96 → (part 22 (bv K).toArray o).run Tryd.prog w = .ok (.agg (bv ((K.drop o).take 32)).toArray) w := fun o ho => by
    have : (bv K).toArray.extract o (o + 32) = (bv ((K.drop o).take 32)).toArray := by
      apply Array.ext'
      simp only [List.extract_toArray, List.extract_eq_take_drop, bv_take, bv_drop]
      congr 2
      omega
    simp only [part, Sem.run_bind, d32A, Result.andThen_ok, if_true, d32S, Sem.run_pure, this]
  have he : ∀ l : List UInt8, l.length = 32 → (Op.equalIn 9999 22 (.agg (bv l).toArray) (.agg (bv l).toArray)).run Tryd.prog w = .ok true w := fun l hl => by
    rw [bv_ints]
    exact eq_arr' (d := 9998) Tryd.underlying22 sB1 bA (fun a w => by rw [run_equalIn_int w 9997 _ .u8 .u8 a a bE]; simp) _ (by simp [hl]) w
  have key : ∀ fs : List Field, (fs.map fun f => (f.type, f.offset)) = [(22, 0), (22, 32), (22, 64)] → (fs.all fun f => f.name != "_") = true → (Op.eqFields 9999 (bv K).toArray (bv K).toArray fs).run Tryd.prog w = .ok true w := by
    intro fs h1 h2
    rcases fs with _ | ⟨f0, _ | ⟨f1, _ | ⟨f2, _ | ⟨f3, fs⟩⟩⟩⟩
    case cons.cons.cons.nil =>
      simp only [List.map_cons, List.map_nil, List.cons.injEq, Prod.mk.injEq, and_true] at h1
      simp only [List.all_cons, List.all_nil, Bool.and_true, Bool.and_eq_true, bne_iff_ne] at h2
      obtain ⟨⟨a0, b0⟩, ⟨a1, b1⟩, a2, b2⟩ := h1
      obtain ⟨n0, n1, n2⟩ := h2
      have st : ∀ (f : Field) (gs : List Field) (o : Nat), f.type = 22 → f.offset = o → o + 32 ≤ 96 → f.name ≠ "_" → (Op.eqFields 9999 (bv K).toArray (bv K).toArray gs).run Tryd.prog w = .ok true w → (Op.eqFields 9999 (bv K).toArray (bv K).toArray (f :: gs)).run Tryd.prog w = .ok true w := by
        intro f gs o h1 h2 h3 h4 h5
        have := hp o h3
        rw [← h1, ← h2] at this
        exact eqFields_step h4 this this (by rw [h1]; exact he _ (by simp; omega)) h5
      exact st f0 _ 0 a0 b0 (by omega) n0 (st f1 _ 32 a1 b1 (by omega) n1 (st f2 _ 64 a2 b2 (by omega) n2 (by simp [Op.eqFields])))
    all_goals simp at h1
  exact (eqS_struct (by kernel_rfl) (by kernel_rfl) (by kernel_rfl) x y (key _ key_fields key_names)).2

theorem eqId (x y : Operand) (l : List UInt8) (hl : l.length = 32) (w : World) : (eqlS .eql 46 x y (.agg (bv l).toArray) (.agg (bv l).toArray)).run Tryd.prog w = .ok (.bool true) w := by
  rw [bv_ints]
  exact eqlS_arr (P := Tryd.prog) (T := 46) Tryd.underlying46 bE sB1 bA (by kernel_rfl) x y _ (by simp [hl]) w

theorem sealWrites_walk (m : List UInt8) (k : UInt8) (a1 : Option Addr) (n1 c1 : Nat) (ctx : List UInt8) (a2 : Option Addr) (n2 c2 : Nat) (plain : List UInt8) (w : World) (hK : KTab w) (hm : m.length = 32) (hr1 : RdB w a1 n1 c1 ctx) (hr2 : RdB w a2 n2 c2 plain) :
    Calls Tryd.prog 6 #[.agg (caseL m k a1 n1 c1 a2 n2 c2).toArray] w fun e w' => e = .returned (.bool true) ∧ Chg [] w w' := by
  have e1 := hr1.lenB
  have e2 := hr2.lenB
  apply amphoralaw05_SealWrites_vc
  obtain ⟨g1, w1, r1, h1⟩ := (St.start w).boxA 31 (caseL m k a1 n1 c1 a2 n2 c2)
  refine ⟨g1, w1, r1, (lalive_spec w1 (hK.keep0 h1.chg)).mono ?_⟩
  rintro e w2 ⟨rfl, hc2⟩
  have h2 := h1.same hc2
  have L := fun w' (hc : Chg [] w2 w') => caseL_ld (h2.same hc) (i := 0) rfl hm
  have k1 : ∀ w', Chg [] w2 w' → RdB w' a1 n1 c1 ctx := fun w' h => hr1.keep0 (h2.chg.trans h)
  have k2 : ∀ w', Chg [] w2 w' → RdB w' a2 n2 c2 plain := fun w' h => hr2.keep0 (h2.chg.trans h)
  have kK : ∀ w', Chg [] w2 w' → KTab w' := fun w' h => hK.keep0 (h2.chg.trans h)
  have hz := Chg.refl [] w2
  obtain ⟨g3, w3, r3, c3', q3, _⟩ := litC bbT [.slice a1 n1 c1, .slice a2 n2 c2] (by simp [Value.oneCell']) (by simp) w2
  refine ⟨_, rfl, fun h => by simp at h, fun _ => ⟨_, _, _, (L _ hz).2.2.1, _, _, _, (L _ hz).2.2.2, _, _, _, _, r3, (llarge_spec _ 2 2 _ [ctx, plain] w3 q3 (row2_two (k1 _ c3') (k2 _ c3')) (by decide)).mono ?_⟩⟩
  rintro e w4 ⟨rfl, rfl⟩
  refine ⟨_, rfl, fun _ => ⟨rfl, h2.chg.trans c3'⟩, fun h => ?_⟩
  have hsm : n1 + n2 ≤ 8192 := by
    simp only [List.flatten_cons, List.flatten_nil, List.append_nil, List.length_append, decide_eq_false_iff_not] at h
    omega
  clear h
  refine ⟨_, (L _ c3').1, (fromMaster_spec m w4 hm (kK _ c3')).mono ?_⟩
  rintro e w5 ⟨rfl, c5⟩
  have d5 := c3'.trans c5
  obtain ⟨K, hKK⟩ : ∃ K, masterF m = K := ⟨_, rfl⟩
  have hk : K.length = 96 := by rw [← hKK]; simp
  rw [hKK]
  obtain ⟨g6, w6, r6, h6⟩ := (St.start w2 |>.same d5).zeroA kyZ
  obtain ⟨w7, r7, h7⟩ := h6.stA (i := 0) (v := bv K) rfl (kyS _) (by simp) (by simp [hk]) (bv_one _)
  have d7 := h7.chg
  have ld : ∀ w', Chg [] w7 w' → (Instr.loadAt 24 (.pointer (some ⟨g6, 0, none⟩))).run Tryd.prog w' = .ok (.agg (bv K).toArray) w' := fun w' hc => (h7.same hc).ldA (i := 0) (l := bv K) rfl (kyA _) (kyS _) (by simp [hk])
  have t7 := Chg.drew [] w7
  refine ⟨_, rfl, g6, w6, r6, w7, r7, fun w' => Chg [] w7.drew w', Chg.refl _ _, _, fun w' h => ld w' (t7.trans h), _, fun w' h => (L w' (d7.trans (t7.trans h))).1, (rfromMaster_spec m w7.drew hm).mono ?_⟩
  rintro e w8 ⟨rfl, c8⟩
  have t8 := t7.trans c8
  rw [hKK]
  refine ⟨_, rfl, fun w' => Chg [] w7.drew w', fun _ h => h, c8, _, fun w' _ => eqKeys _ _ K hk w', fun h => by simp at h, fun _ => ?_⟩
  have t9 := t8.trans (Chg.drew [] w8)
  have kk : ∀ w', Chg [] w8.drew w' → Chg [] w2 w' := fun w' h => d7.trans (t9.trans h)
  have hz8 := Chg.refl [] w8.drew
  refine ⟨fun w' => Chg [] w8.drew w', hz8, _, _, _, fun w' h => (L w' (kk _ h)).2.2.1, _, _, _, fun w' h => (L w' (kk _ h)).2.2.2, (copy_spec a1 n1 c1 ctx w8.drew (k1 _ (kk _ hz8)) (by omega)).mono ?_⟩
  rintro e w9 ⟨g9, c9, cur9, rfl, hc9, hg9, hm9⟩
  refine ⟨_, _, _, rfl, fun w' => Chg [] w8.drew w', fun _ h => h, hc9, (copy_spec a2 n2 c2 plain w9 (k2 _ (kk _ hc9)) (by omega)).mono ?_⟩
  rintro e w10 ⟨g10, c10, cur10, rfl, hc10, hg10, hm10⟩
  have d10 := hc9.trans hc10
  have mk9 : ∀ w', Chg [] w10 w' → MarkB w' g9 n1 c9 ctx cur9 := fun w' h => hm9.keep ((hc10.trans h).block g9 (getElem?_eq_some_iff.1 hm9.blk).1 (by simp))
  have mk10 : ∀ w', Chg [] w10 w' → MarkB w' g10 n2 c10 plain cur10 := fun w' h => hm10.keep (h.block g10 (getElem?_eq_some_iff.1 hm10.blk).1 (by simp))
  have hz10 := Chg.refl [] w10
  refine ⟨_, _, _, rfl, fun w' => Chg [] w8.drew w', fun _ h => h, d10, _, ld _ (t9.trans d10), _, (L _ (kk _ d10)).2.1, (seal_spec K k _ n1 c9 ctx _ n2 c10 plain w10 hk (kK _ (kk _ d10)) (mk9 _ hz10).rd (mk10 _ hz10).rd (by omega)).mono ?_⟩
  rintro e w11 ⟨a11, n11, c11, rfl, hf11⟩
  have t11 := hf11.1.trans (Chg.drew [] w11)
  have kk2 : ∀ w', Chg [] w11.drew w' → Chg [] w8.drew w' := fun w' h => d10.trans (t11.trans h)
  have q11 := hf11.rdB.keep0 (Chg.drew [] w11)
  have hz11 := Chg.refl [] w11.drew
  have dz11 := kk2 _ hz11
  refine ⟨_, _, _, rfl, fun w' => Chg [] w11.drew w', hz11, _, fun w' h => toStr bS bE sS (q11.keep0 h).cells q11.lenB, _, fun w' h => ld w' (t9.trans (kk2 _ h)), _, fun w' h => (L w' (kk _ (kk2 _ h))).2.1, _, _, _, fun w' h => (L w' (kk _ (kk2 _ h))).2.2.1, _, _, _, fun w' h => (L w' (kk _ (kk2 _ h))).2.2.2,
    (rseal_spec K k a1 n1 c1 ctx a2 n2 c2 plain w11.drew hk (k1 _ (kk _ dz11)) (k2 _ (kk _ dz11)) (by omega)).mono ?_⟩
  rintro e w12 ⟨a12, n12, c12, rfl, hf12⟩
  have d12 := hf12.1
  have t12 := t11.trans d12
  have hz12 := Chg.refl [] w12
  have u12 : ∀ w', Chg [] w12 w' → Chg [] w8.drew w' := fun w' h => d10.trans (t12.trans h)
  refine ⟨_, _, _, rfl, fun w' => Chg [] w12 w', fun _ h => d12.trans h, hz12, _, fun w' h => toStr bS bE sS (hf12.rdB.keep0 h).cells hf12.rdB.lenB, fun _ => ⟨_, fun w' h => ld w' (t9.trans (u12 _ h)), _, fun w' h => ld w' (t9.trans (u12 _ h)), _, _, _, fun w' h => (L w' (kk _ (u12 _ h))).2.2.2,
    (id_spec K _ n2 c10 plain w12 hk (kK _ (kk _ (u12 _ hz12))) (mk10 _ t12).rd (by omega)).mono ?_⟩, fun h => by simp at h⟩
  rintro e w13 ⟨rfl, c13⟩
  have u13 := u12 _ c13
  refine ⟨_, rfl, fun w' => Chg [] w12 w', fun _ h => h, c13, (rid_spec K a2 n2 c2 plain w13 hk (k2 _ (kk _ u13)) (by omega)).mono ?_⟩
  rintro e w14 ⟨rfl, c14⟩
  have d14 := c13.trans c14
  have u14 := u12 _ d14
  refine ⟨_, rfl, fun w' => Chg [] w12 w', fun _ h => h, d14, _, fun w' _ => eqId _ _ _ (by simp [idF]) w', fun _ => ⟨_, _, _, fun w' h => (L w' (kk _ (u12 _ h))).2.2.1, (kept_spec _ _ _ _ _ _ _ _ _ (mk9 _ (t12.trans d14)) (k1 _ (kk _ u14)) (by omega)).mono ?_⟩, fun h => by simp at h⟩
  rintro e w15 ⟨rfl, rfl⟩
  refine ⟨_, rfl, fun w' => Chg [] w12 w', fun _ h => h, d14, fun _ => ⟨_, _, _, fun w' h => (L w' (kk _ (u12 _ h))).2.2.2, (kept_spec _ _ _ _ _ _ _ _ _ (mk10 _ (t12.trans d14)) (k2 _ (kk _ u14)) (by omega)).mono ?_⟩, fun h => by simp at h⟩
  rintro e w16 ⟨rfl, rfl⟩
  exact ⟨_, rfl, fun w' => Chg [] w12 w', fun _ h => h, d14, rfl, h2.chg.trans (kk _ u14)⟩

end Go.Proofs.YtlhhmoljlmmnoaaDoor
