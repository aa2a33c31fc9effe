/- Contracts of seal: derived, FromMaster, tag, over, Id (conditions: those that each theorem names). -/
import Derived.Test.YtmdandkoajocpaaGreatDoorSealF
import Derived.Test.YtmdandkoajocpaaGreatDoorVseal
namespace Go.Proofs.YtmdandkoajocpaaGreatDoor
open Go Sx
set_option maxRecDepth 8000

theorem Sx.St.zeroAC {w0 w : World} {X : List Nat} {M : List Res} (h : St w0 X w M) {T : TypeId} {z : List Value} (hz : ∀ w, (zeroValue T).run Tryz.prog w = .ok (.agg z.toArray) w) :
    ∃ g w', (Instr.alloc T true (.tuple #[])).run Tryz.prog w = .ok (.pointer (some ⟨g, 0, none⟩)) w' ∧ St w0 X w' (M ++ [.arr g T z]) ∧ Chg [] w w' := by
  obtain ⟨g, w1, r, h1⟩ := h.zeroA hz
  obtain ⟨g', w1', r', h1'⟩ := (St.start w).zeroA hz
  have e := r.symm.trans r'
  simp only [Result.ok.injEq] at e
  obtain ⟨_, rfl⟩ := e
  exact ⟨g, w1, r, h1, h1'.chg⟩

theorem litC {t e by_ : Nat} {z : Value} (E : ElemT Tryz.prog t e 1 by_ z) (vs : List Value) (h1 : ∀ v ∈ vs, v.oneCell' = true) (hb : vs.length ≤ 16777216) (w : World) :
    ∃ g w', (Instr.buildSlice t vs.length ((vs.zipIdx 0).map fun p => (p.2, p.1)).toArray).run Tryz.prog w = .ok (.slice (some ⟨g, 0, none⟩) vs.length vs.length) w' ∧ Chg [] w w' ∧ Rd w' (some ⟨g, 0, none⟩) vs.length vs.length 1 vs ∧ w.heap.size ≤ g ∧ g < w'.heap.size := by
  obtain ⟨g, w', r, h⟩ := (St.start w).lit E vs h1 hb
  refine ⟨g, w', r, h.chg, h.rd (i := 0) rfl, ?_, Res.lt (h.holds 0 _ rfl) g (by simp [Res.fp, Value.ownBlock])⟩
  have h2 := h.own 0 _ rfl g (by simp [Res.fp, Value.ownBlock])
  simpa using h2

theorem litK (k : UInt8) (w : World) : ∃ g w', (Instr.buildSlice 33 1 #[(0, .int .u8 (k.toNat : Int))]).run Tryz.prog w = .ok (.slice (some ⟨g, 0, none⟩) 1 1) w' ∧ Chg [] w w' ∧ RdB w' (some ⟨g, 0, none⟩) 1 1 [k] := by
  obtain ⟨g, w', r, c, h, _⟩ := litC bT [.int .u8 (k.toNat : Int)] (by simp [Value.oneCell']) (by simp) w
  exact ⟨g, w', r, c, h⟩

theorem kyA (w : World) : (isAgg 28).run Tryz.prog w = .ok true w := Tryz.isAgg28 w
theorem kyS (w : World) : (sizeOf 28).run Tryz.prog w = .ok 96 w := Tryz.sizeOf28 w
theorem kyZ (w : World) : (zeroValue 28).run Tryz.prog w = .ok (.agg (bv (List.replicate 96 0)).toArray) w := Tryz.zeroValue28 w
theorem idS (w : World) : (sizeOf 44).run Tryz.prog w = .ok 32 w := Tryz.sizeOf44 w
theorem idA (w : World) : (isAgg 44).run Tryz.prog w = .ok true w := Tryz.isAgg44 w
theorem idZ (w : World) : (zeroValue 44).run Tryz.prog w = .ok (.agg (bv (List.replicate 32 0)).toArray) w := Tryz.zeroValue44 w
theorem d12A (w : World) : (isAgg 187).run Tryz.prog w = .ok true w := Tryz.isAgg187 w
theorem d12S (w : World) : (sizeOf 187).run Tryz.prog w = .ok 12 w := Tryz.sizeOf187 w
theorem d12Z (w : World) : (zeroValue 187).run Tryz.prog w = .ok (.agg (bv (List.replicate 12 0)).toArray) w := Tryz.zeroValue187 w

theorem built_keys : Tryz.prog.built 28 = fun parts => Instr.fill (fun i => (#[(0, 32), (32, 32), (64, 32)] : Array (Nat × Nat))[i]?) (bv (List.replicate 96 0)).toArray parts := by kernel_rfl

theorem keys_build {a b c : List UInt8} (ha : a.length = 32) (hb : b.length = 32) (hc : c.length = 32) (w : World) : (Instr.build 28 #[(0, .agg (bv a).toArray), (1, .agg (bv b).toArray), (2, .agg (bv c).toArray)]).run Tryz.prog w = .ok (.agg (bv (a ++ b ++ c)).toArray) w := by
  apply run_build
  rw [built_keys]
  show Instr.fill _ _ [(0, .agg (bv a).toArray), (1, .agg (bv b).toArray), (2, .agg (bv c).toArray)] = _
  have z : ∀ n, (bv (List.replicate 96 0)).drop n = bv (List.replicate (96 - n) 0) := fun n => by rw [← bv_drop, List.drop_replicate]
  rw [fill_step (off := 0) (sz := 32) rfl (by simp [Value.cells, ha]) (by simp)]
  simp only [Value.cells, List.take_zero, List.nil_append, Nat.zero_add, z]
  rw [fill_step (off := 32) (sz := 32) rfl (by simp [Value.cells, hb]) (by simp [ha])]
  simp only [Value.cells]
  rw [List.take_left' (by simp [ha]), show 32 + 32 = (bv a).length + 32 by simp [ha], List.drop_append, List.drop_of_length_le (by omega), show (bv a).length + 32 - (bv a).length = 32 by omega, ← bv_drop, List.drop_replicate]
  rw [fill_step (off := 64) (sz := 32) rfl (by simp [Value.cells, hc]) (by simp [ha, hb])]
  simp only [Value.cells, List.nil_append]
  rw [List.take_left' (by simp [ha, hb]), List.drop_of_length_le (by simp [ha, hb])]
  simp [Instr.fill]

/-- A literal's row that is marked as a string's. -/
theorem litMark (l : List UInt8) (hb : l.length ≤ 16777216) (w : World) : ∃ g w1 w2, (Instr.buildSlice 33 l.length (((bv l).zipIdx 0).map fun p => (p.2, p.1)).toArray).run Tryz.prog w = .ok (.slice (some ⟨g, 0, none⟩) l.length l.length) w1 ∧
    (convert 33 33 (.slice (some ⟨g, 0, none⟩) l.length l.length)).run Tryz.prog w1 = .ok (.slice (some ⟨g, 0, none⟩) l.length l.length) w2 ∧ Chg [] w w2 ∧ RdB w2 (some ⟨g, 0, none⟩) l.length l.length l := by
  obtain ⟨g, w1, r1, c1, h1, hg, hg1⟩ := litC bT (bv l) (bv_one l) (by simpa using hb) w
  rw [bv_length] at r1 h1
  obtain ⟨w2, r2, c2, h2⟩ := sameSlice g _ _ l w1 h1 hg1
  exact ⟨g, w1, w2, r1, r2, c1.trans' c2 (fun i hi => .inl (by simp at hi; omega)), h2⟩

theorem over_spec' (K : List UInt8) (a1 : Option Addr) (c1 : Nat) (nonce : List UInt8) (a2 : Option Addr) (n2 c2 : Nat) (b : List UInt8) (w : World) (hk : K.length = 96) (hr1 : RdB w a1 12 c1 nonce) (hr2 : RdB w a2 n2 c2 b) (hb : n2 ≤ 1099511627776) :
    Calls Tryz.prog 93 #[.agg (bv K).toArray, .slice a1 12 c1, .slice a2 n2 c2] w fun e w' => ∃ a n c, e = .returned (.slice a n c) ∧ FreshB w w' a n c (overF K nonce b) := by
  have hl := hr1.lenB
  apply seal_over_vc
  obtain ⟨g1, w1, r1, h1⟩ := (St.start w).boxA 28 (bv K)
  obtain ⟨g2, w2, r2, h2⟩ := h1.zeroA d12Z
  obtain ⟨w3, r3, h3⟩ := h2.copyB (i := 1) (d := 12) rfl (by simp) (h2.rd1 hr1) (by omega)
  rw [List.drop_of_length_le (by simp), List.append_nil] at h3
  have hld := h3.ldPre (i := 0) (l := bv K) rfl (d32A _) (d32S _) (by simp [hk])
  rw [← bv_take] at hld
  refine ⟨g1, w1, r1, g2, w2, r2, by omega, by omega, _, w3, r3, _, hld, _, h3.ldA (i := 1) (l := bv nonce) rfl (d12A _) (d12S _) (by simp [hl]), (xor_spec (K.take 32) nonce 0 a2 n2 c2 b w3 (by simp [hk]) hl (by omega) (by omega) (h3.rd1 hr2) (by omega)).mono ?_⟩
  rintro e w4 ⟨a, n, c, rfl, hf⟩
  exact ⟨_, _, _, _, rfl, _, _, _, rfl, FreshB.after hf h3.chg⟩

theorem macK_rd {w0 w : World} {M : List Res} (h : St w0 [] w M) {i g T : Nat} {K : List UInt8} (hi : M[i]? = some (.arr g T (bv K))) (hk : K.length = 96) : RdB w (some ⟨g, 32, none⟩) 32 32 (macKy K) ∧ RdB w (some ⟨g, 64, none⟩) 32 32 (nameK K) :=
  ⟨h.rdPart hi (by omega), h.rdPart hi (by omega)⟩

theorem tag_spec (K : List UInt8) (k : UInt8) (a2 : Option Addr) (n2 c2 : Nat) (ctx : List UInt8) (a3 : Option Addr) (n3 c3 : Nat) (nonce : List UInt8) (a4 : Option Addr) (n4 c4 : Nat) (body : List UInt8) (w : World) (hk : K.length = 96) (hK : KTab w) (hr2 : RdB w a2 n2 c2 ctx) (hr3 : RdB w a3 n3 c3 nonce) (hr4 : RdB w a4 n4 c4 body) (hb : n2 + n3 + n4 ≤ 67108000) :
    Calls Tryz.prog 91 #[.agg (bv K).toArray, .int .u8 (k.toNat : Int), .slice a2 n2 c2, .slice a3 n3 c3, .slice a4 n4 c4] w fun e w' => e = .returned (.agg (bv (tagF K k ctx nonce body)).toArray) ∧ Chg [] w w' := by
  have e2 := hr2.lenB
  have e3 := hr3.lenB
  have e4 := hr4.lenB
  apply seal_tag_vc
  obtain ⟨g1, w1, r1, h1⟩ := (St.start w).boxA 28 (bv K)
  obtain ⟨g2, w2, r2, h2⟩ := h1.zeroA d32Z
  have h2d := h2.drew
  obtain ⟨g3, w3, r3, c3', q3⟩ := litK k w2.drew
  have h3 := h2d.same c3'
  obtain ⟨g4, w4, r4, c4', q4, _⟩ := litC bbT [.slice (some ⟨g3, 0, none⟩) 1 1, .slice a2 n2 c2, .slice a3 n3 c3, .slice a4 n4 c4] (by simp [Value.oneCell']) (by simp) w3
  have h4 := h3.same c4'
  have hrow : Row2 w4 [.slice (some ⟨g3, 0, none⟩) 1 1, .slice a2 n2 c2, .slice a3 n3 c3, .slice a4 n4 c4] [[k], ctx, nonce, body] :=
    (row2_three (h4.rd1 hr2) (h4.rd1 hr3) (h4.rd1 hr4)).cons (q3.keep0 c4')
  refine ⟨g1, w1, r1, g2, w2, r2, by omega, by omega, _, _, _, _, r3, _, _, _, _, r4, (pack_spec _ 4 4 _ [[k], ctx, nonce, body] w4 q4 hrow (by simp; omega) (by simp)).mono ?_⟩
  rintro e w5 ⟨a5, n5, c5, rfl, hf5⟩
  have h5 := h4.same hf5.1
  obtain ⟨g6, w6, r6, c6', q6, _⟩ := litC bbT [.slice a5 n5 c5] (by simp [Value.oneCell']) (by simp) w5
  have h6 := h5.same c6'
  have hpl : (packL [[k], ctx, nonce, body]).length ≤ 67109864 := by
    have := packL_len [[k], ctx, nonce, body] (by simp; omega)
    simp at this ⊢
    omega
  refine ⟨_, _, _, rfl, _, _, _, _, r6, (mac_spec _ 32 32 (macKy K) _ 1 1 _ [packL [[k], ctx, nonce, body]] w6 (hK.keep0 h6.chg) (macK_rd h6 (i := 0) rfl hk).1 (by omega) q6 (row2_one (hf5.rdB.keep0 c6')) (by rw [List.flatten_cons, List.flatten_nil, List.append_nil]; omega) (by decide)).mono ?_⟩
  rintro e w7 ⟨rfl, c7⟩
  have e1 : [packL [[k], ctx, nonce, body]].flatten = packL [[k], ctx, nonce, body] := by rw [List.flatten_cons, List.flatten_nil, List.append_nil]
  rw [e1]
  obtain ⟨w8, r8, h8⟩ := (h6.same c7).stA (i := 1) (v := bv (tagF K k ctx nonce body)) rfl (d32S _) (by simp) (by simp) (bv_one _)
  exact ⟨_, rfl, w8, r8, _, h8.ldVarA (i := 1) (l := bv (tagF K k ctx nonce body)) rfl (d32A _) (d32S _) (by simp), rfl, h8.chg⟩

end Go.Proofs.YtmdandkoajocpaaGreatDoor
