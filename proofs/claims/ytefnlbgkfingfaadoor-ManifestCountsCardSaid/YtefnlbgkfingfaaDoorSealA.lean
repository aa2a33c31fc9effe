/- Contracts of seal: derived, FromMaster, tag, over, Id (conditions: those that each theorem names). -/
import Derived.Test.YtefnlbgkfingfaaDoorSealF
import Derived.Test.YtefnlbgkfingfaaDoorVseal
namespace Go.Proofs.YtefnlbgkfingfaaDoor
open Go Sx
set_option maxRecDepth 8000

theorem Sx.St.zeroAC {w0 w : World} {X : List Nat} {M : List Res} (h : St w0 X w M) {T : TypeId} {z : List Value} (hz : ∀ w, (zeroValue T).run Tryd.prog w = .ok (.agg z.toArray) w) :
    ∃ g w', (Instr.alloc T true (.tuple #[])).run Tryd.prog w = .ok (.pointer (some ⟨g, 0, none⟩)) w' ∧ St w0 X w' (M ++ [.arr g T z]) ∧ Chg [] w w' := by
  obtain ⟨g, w1, r, h1⟩ := h.zeroA hz
  obtain ⟨g', w1', r', h1'⟩ := (St.start w).zeroA hz
  have e := r.symm.trans r'
  simp only [Result.ok.injEq] at e
  obtain ⟨_, rfl⟩ := e
  exact ⟨g, w1, r, h1, h1'.chg⟩

theorem litC {t e by_ : Nat} {z : Value} (E : ElemT Tryd.prog t e 1 by_ z) (vs : List Value) (h1 : ∀ v ∈ vs, v.oneCell' = true) (hb : vs.length ≤ 16777216) (w : World) :
    ∃ g w', (Instr.buildSlice t vs.length ((vs.zipIdx 0).map fun p => (p.2, p.1)).toArray).run Tryd.prog w = .ok (.slice (some ⟨g, 0, none⟩) vs.length vs.length) w' ∧ Chg [] w w' ∧ Rd w' (some ⟨g, 0, none⟩) vs.length vs.length 1 vs ∧ w.heap.size ≤ g ∧ g < w'.heap.size := by
  obtain ⟨g, w', r, h⟩ := (St.start w).lit E vs h1 hb
  refine ⟨g, w', r, h.chg, h.rd (i := 0) rfl, ?_, Res.lt (h.holds 0 _ rfl) g (by simp [Res.fp, Value.ownBlock])⟩
  have h2 := h.own 0 _ rfl g (by simp [Res.fp, Value.ownBlock])
  simpa using h2

theorem litK (k : UInt8) (w : World) : ∃ g w', (Instr.buildSlice 23 1 #[(0, .int .u8 (k.toNat : Int))]).run Tryd.prog w = .ok (.slice (some ⟨g, 0, none⟩) 1 1) w' ∧ Chg [] w w' ∧ RdB w' (some ⟨g, 0, none⟩) 1 1 [k] := by
  obtain ⟨g, w', r, c, h, _⟩ := litC bT [.int .u8 (k.toNat : Int)] (by simp [Value.oneCell']) (by simp) w
  exact ⟨g, w', r, c, h⟩

theorem kyA (w : World) : (isAgg 28).run Tryd.prog w = .ok true w := Tryd.isAgg28 w
theorem kyS (w : World) : (sizeOf 28).run Tryd.prog w = .ok 96 w := Tryd.sizeOf28 w
theorem kyZ (w : World) : (zeroValue 28).run Tryd.prog w = .ok (.agg (bv (List.replicate 96 0)).toArray) w := Tryd.zeroValue28 w
theorem idS (w : World) : (sizeOf 33).run Tryd.prog w = .ok 32 w := Tryd.sizeOf33 w
theorem idA (w : World) : (isAgg 33).run Tryd.prog w = .ok true w := Tryd.isAgg33 w
theorem idZ (w : World) : (zeroValue 33).run Tryd.prog w = .ok (.agg (bv (List.replicate 32 0)).toArray) w := Tryd.zeroValue33 w
theorem built_keys : Tryd.prog.built 28 = fun parts => Instr.fill (fun i => (#[(0, 32), (32, 32), (64, 32)] : Array (Nat × Nat))[i]?) (bv (List.replicate 96 0)).toArray parts := by kernel_rfl

theorem keys_build {a b c : List UInt8} (ha : a.length = 32) (hb : b.length = 32) (hc : c.length = 32) (w : World) : (Instr.build 28 #[(0, .agg (bv a).toArray), (1, .agg (bv b).toArray), (2, .agg (bv c).toArray)]).run Tryd.prog w = .ok (.agg (bv (a ++ b ++ c)).toArray) w := by
  apply run_build
  rw [built_keys]
  show Instr.fill _ _ [(0, .agg (bv a).toArray), (1, .agg (bv b).toArray), (2, .agg (bv c).toArray)] = _
  have z : ∀ n, (bv (List.replicate 96 0)).drop n = bv (List.replicate (96 - n) 0) := fun n => by rw [← bv_drop, List.drop_replicate]
  rw [fill_step (off := 0) (sz := 32) rfl (by simp [Value.cells, ha]) (by simp)]
  simp only [Value.cells, List.take_zero, List.nil_append, Nat.zero_add, z]
  rw [fill_step (off := 32) (sz := 32) rfl (by simp [Value.cells, hb]) (by simp [ha])]
  simp only [Value.cells]
  rw [List.take_left' (by simp [ha]), show 32 + 32 = (bv a).length + 32 by simp [ha], List.drop_append, List.drop_of_length_le (by omega), show (bv a).length + 32 - (bv a).length = 32 by omega, ← bv_drop, List.drop_replicate]
  rw [fill_step (off := 64) (sz := 32) rfl (by simp [Value.cells, hc]) (by simp [ha, hb])]
  simp only [Value.cells, List.nil_append]
  rw [List.take_left' (by simp [ha, hb]), List.drop_of_length_le (by simp [ha, hb])]
  simp [Instr.fill]

/-- A literal's row that is marked as a string's. -/
theorem litMark (l : List UInt8) (hb : l.length ≤ 16777216) (w : World) : ∃ g w1 w2, (Instr.buildSlice 23 l.length (((bv l).zipIdx 0).map fun p => (p.2, p.1)).toArray).run Tryd.prog w = .ok (.slice (some ⟨g, 0, none⟩) l.length l.length) w1 ∧
    (convert 23 23 (.slice (some ⟨g, 0, none⟩) l.length l.length)).run Tryd.prog w1 = .ok (.slice (some ⟨g, 0, none⟩) l.length l.length) w2 ∧ Chg [] w w2 ∧ RdB w2 (some ⟨g, 0, none⟩) l.length l.length l := by
  obtain ⟨g, w1, r1, c1, h1, hg, hg1⟩ := litC bT (bv l) (bv_one l) (by simpa using hb) w
  rw [bv_length] at r1 h1
  obtain ⟨w2, r2, c2, h2⟩ := sameSlice g _ _ l w1 h1 hg1
  exact ⟨g, w1, w2, r1, r2, c1.trans' c2 (fun i hi => .inl (by simp at hi; omega)), h2⟩

theorem macK_rd {w0 w : World} {M : List Res} (h : St w0 [] w M) {i g T : Nat} {K : List UInt8} (hi : M[i]? = some (.arr g T (bv K))) (hk : K.length = 96) : RdB w (some ⟨g, 32, none⟩) 32 32 (macKy K) ∧ RdB w (some ⟨g, 64, none⟩) 32 32 (nameK K) :=
  ⟨h.rdPart hi (by omega), h.rdPart hi (by omega)⟩

theorem id_spec (K : List UInt8) (a : Option Addr) (n c : Nat) (plain : List UInt8) (w : World) (hk : K.length = 96) (hK : KTab w) (hr : RdB w a n c plain) (hb : n ≤ 67108000) :
    Calls Tryd.prog 26 #[.agg (bv K).toArray, .slice a n c] w fun e w' => e = .returned (.agg (bv (idF K plain)).toArray) ∧ Chg [] w w' := by
  have e2 := hr.lenB
  apply seal_Id_vc
  obtain ⟨g1, w1, r1, h1⟩ := (St.start w).boxA 28 (bv K)
  obtain ⟨g2, w2, r2, h2⟩ := h1.zeroA idZ
  obtain ⟨g3, w3, w4, r3, r4, c4, q4⟩ := litMark [99, 104, 117, 110, 107] (by decide) w2.drew
  have h4 := h2.drew.same c4
  obtain ⟨g5, w5, r5, c5', q5, _⟩ := litC bbT [.slice (some ⟨g3, 0, none⟩) 5 5, .slice a n c] (by simp [Value.oneCell']) (by simp) w4
  have h5 := h4.same c5'
  refine ⟨g1, w1, r1, g2, w2, r2, by omega, by omega, _, _, _, _, r3, _, _, _, _, r4, _, _, _, _, r5, (pack_spec _ 2 2 _ [[99, 104, 117, 110, 107], plain] w5 q5 (row2_two (q4.keep0 c5') (h5.rd1 hr)) (by simp; omega) (by simp)).mono ?_⟩
  rintro e w6 ⟨a6, n6, c6, rfl, hf6⟩
  have h6 := h5.same hf6.1
  obtain ⟨g7, w7, r7, c7', q7, _⟩ := litC bbT [.slice a6 n6 c6] (by simp [Value.oneCell']) (by simp) w6
  have h7 := h6.same c7'
  have hpl : (packL [[99, 104, 117, 110, 107], plain]).length ≤ 67109864 := by
    have := packL_len [[99, 104, 117, 110, 107], plain] (by simp; omega)
    simp at this ⊢
    omega
  refine ⟨_, _, _, rfl, _, _, _, _, r7, (mac_spec _ 32 32 (nameK K) _ 1 1 _ [packL [[99, 104, 117, 110, 107], plain]] w7 (hK.keep0 h7.chg) (macK_rd h7 (i := 0) rfl hk).2 (by omega) q7 (row2_one (hf6.rdB.keep0 c7')) (by rw [List.flatten_cons, List.flatten_nil, List.append_nil]; omega) (by decide)).mono ?_⟩
  rintro e w8 ⟨rfl, c8⟩
  have e1 : [packL [[99, 104, 117, 110, 107], plain]].flatten = packL [[99, 104, 117, 110, 107], plain] := by rw [List.flatten_cons, List.flatten_nil, List.append_nil]
  rw [e1]
  obtain ⟨w9, r9, h9⟩ := (h7.same c8).stA (i := 1) (v := bv (idF K plain)) rfl (idS _) (by simp) (by simp [idF]) (bv_one _)
  exact ⟨_, rfl, w9, r9, _, h9.ldVarA (i := 1) (l := bv (idF K plain)) rfl (idA _) (idS _) (by simp [idF]), rfl, h9.chg⟩

end Go.Proofs.YtefnlbgkfingfaaDoor
