/- Contracts, several texts in one (conditions: those that each theorem names). -/
import Derived.Test.YtefnlbgkfingfaaDoorShaT
import Derived.Test.YtefnlbgkfingfaaDoorChaE
import Derived.Test.YtefnlbgkfingfaaDoorWireB
import Derived.Lib.ConvBytes
import Derived.Test.YtefnlbgkfingfaaDoorVseal
import Derived.Test.YtefnlbgkfingfaaDoorShaS
import Derived.Test.YtefnlbgkfingfaaDoorEqG
namespace Go.Proofs.YtefnlbgkfingfaaDoor
open Go Sx
set_option maxRecDepth 8000

def der32 (salt secret info : List UInt8) : List UInt8 := deriveF salt secret info 32
@[simp] theorem der32_len (salt secret info : List UInt8) : (der32 salt secret info).length = 32 := deriveF_len _ _ _ _
def amphL : List UInt8 := [97, 109, 112, 104, 111, 114, 97]
def masterF (m : List UInt8) : List UInt8 := der32 amphL m [99, 105, 112, 104, 101, 114] ++ der32 amphL m [109, 97, 99] ++ der32 amphL m [110, 97, 109, 101]
@[simp] theorem masterF_len (m : List UInt8) : (masterF m).length = 96 := by simp [masterF]

def ciphK (K : List UInt8) : List UInt8 := K.take 32
def macKy (K : List UInt8) : List UInt8 := (K.drop 32).take 32
def nameK (K : List UInt8) : List UInt8 := (K.drop 64).take 32

def tagF (K : List UInt8) (kind : UInt8) (ctx nonce body : List UInt8) : List UInt8 := macF (macKy K) (packL [[kind], ctx, nonce, body])
@[simp] theorem tagF_len (K : List UInt8) (kind : UInt8) (ctx nonce body : List UInt8) : (tagF K kind ctx nonce body).length = 32 := macF_len _ _
def nonceF (K : List UInt8) (kind : UInt8) (ctx plain : List UInt8) : List UInt8 := (macF (nameK K) (packL [[kind], ctx, plain])).take 12
@[simp] theorem nonceF_len (K : List UInt8) (kind : UInt8) (ctx plain : List UInt8) : (nonceF K kind ctx plain).length = 12 := by rw [nonceF, List.length_take, macF_len]; rfl
def overF (K nonce b : List UInt8) : List UInt8 := xorR (ciphK K) nonce 0 b
def sealF (K : List UInt8) (kind : UInt8) (ctx plain : List UInt8) : List UInt8 :=
  [kind] ++ nonceF K kind ctx plain ++ overF K (nonceF K kind ctx plain) plain ++ tagF K kind ctx (nonceF K kind ctx plain) (overF K (nonceF K kind ctx plain) plain)
def bNonce (b : List UInt8) : List UInt8 := (b.drop 1).take 12
def bBody (b : List UInt8) : List UInt8 := (b.drop 13).take (b.length - 45)
def bTag (b : List UInt8) : List UInt8 := b.drop (b.length - 32)
def openF (K : List UInt8) (kind : UInt8) (ctx b : List UInt8) : Option (List UInt8) :=
  if b.length < 45 ∨ b.getD 0 0 ≠ kind then none else if tagF K kind ctx (bNonce b) (bBody b) = bTag b then some (overF K (bNonce b) (bBody b)) else none
def idF (K plain : List UInt8) : List UInt8 := macF (nameK K) (packL [[99, 104, 117, 110, 107], plain])
def underF (pw salt : List UInt8) : List UInt8 := masterF (der32 salt pw [107, 101, 121])

/-- A string's bytes, as a slice. -/
theorem toBytes (s : ByteArray) (l : List UInt8) (hs : s = ⟨l.toArray⟩) (w : World) : ∃ g c w', (convert 9 23 (.string s)).run Tryd.prog w = .ok (.slice (some ⟨g, 0, none⟩) l.length c) w' ∧ Chg [] w w' ∧ RdB w' (some ⟨g, 0, none⟩) l.length c l ∧ w.heap.size ≤ g := by
  subst hs
  have hsz : (ByteArray.mk l.toArray).size = l.length := by simp [ByteArray.size]
  have hr := Lib.run_convert_string_bytes (P := Tryd.prog) w 9 23 5 ⟨l.toArray⟩ sS bS bE
  rw [hsz] at hr
  refine ⟨_, _, _, hr, ⟨?_, ?_, ?_, by rw [Lib.bytesWorld_size]; omega, fun k hk _ => Lib.bytesWorld_at_old w _ _ k hk⟩, ⟨.inr ⟨_, 0, rfl, fun j v hj => ?_⟩, by simp, grownCap_ge _ _ _ _, by simp⟩, Nat.le_refl _⟩
  · (simp only [Lib.bytesWorld, World.freeze]; split <;> rfl)
  · (simp only [Lib.bytesWorld, World.freeze]; split <;> rfl)
  · (simp only [Lib.bytesWorld, World.freeze]; split <;> rfl)
  · have hjl : j < l.length := by have := (List.getElem?_eq_some_iff.1 hj).1; simpa using this
    rw [Nat.zero_add, Lib.bytesWorld_cell w _ _ j (by rw [hsz]; exact hjl)]
    rw [bv_getD hjl] at hj
    simpa using hj

/-- A slice that is marked as a string's stays what it is. -/
theorem sameSlice (g n c : Nat) (l : List UInt8) (w : World) (hr : RdB w (some ⟨g, 0, none⟩) n c l) (hg : g < w.heap.size) : ∃ w', (convert 23 23 (.slice (some ⟨g, 0, none⟩) n c)).run Tryd.prog w = .ok (.slice (some ⟨g, 0, none⟩) n c) w' ∧ Chg [g] w w' ∧ RdB w' (some ⟨g, 0, none⟩) n c l := by
  have hfz : ∀ (o m : Nat), Chg [g] w (w.freeze ⟨g, o, none⟩ m) ∧ ∀ j, (w.freeze ⟨g, o, none⟩ m).cell? ⟨g, j, none⟩ = w.cell? ⟨g, j, none⟩ := by
    intro o m
    unfold World.freeze
    split
    · exact ⟨Chg.refl _ _, fun _ => rfl⟩
    · refine ⟨⟨rfl, rfl, rfl, by simp, fun k hk hx => ?_⟩, fun j => ?_⟩
      · have : g ≠ k := fun e => hx (by simp [e])
        simp [Array.getElem?_modify, this]
      · simp only [World.cell?, Array.getElem?_modify, if_true]
        cases hc : w.heap[g]? with
        | none => rfl
        | some o => cases o <;> rfl
  have hrd : ∀ w', (∀ j, w'.cell? ⟨g, j, none⟩ = w.cell? ⟨g, j, none⟩) → RdB w' (some ⟨g, 0, none⟩) n c l := fun w' h => by
    refine ⟨?_, hr.len, hr.le, hr.nil⟩
    rcases hr.cells with h0 | ⟨b, o, e, h1⟩
    · exact .inl h0
    · simp only [Option.some.injEq, Addr.mk.injEq, and_true] at e
      obtain ⟨rfl, rfl⟩ := e
      exact .inr ⟨_, _, rfl, fun j v hj => by rw [h]; exact h1 j v hj⟩
  cases hsh : w.shape? g with
  | none => exact ⟨w, by simp [convert, run_underlying bS, run_underlying bE, markStringish, hsh], Chg.refl _ _, hr⟩
  | some p => exact ⟨w.freeze ⟨g, p.2, none⟩ 1, by simp [convert, run_underlying bS, run_underlying bE, markStringish, hsh], (hfz _ _).1, hrd _ (hfz _ _).2⟩

/-- A part of an array of bytes. -/
theorem Sx.St.rdPart {w0 w : World} {X : List Nat} {M : List Res} (h : St w0 X w M) {i g T o n : Nat} {l : List UInt8} (hi : M[i]? = some (.arr g T (bv l))) (ho : o + n ≤ l.length) : RdB w (some ⟨g, o, none⟩) n n ((l.drop o).take n) := by
  refine ⟨.inr ⟨g, o, rfl, fun j u hj => ?_⟩, by simp; omega, Nat.le_refl _, by simp⟩
  have hjn : j < n := by have := (List.getElem?_eq_some_iff.1 hj).1; simp at this; omega
  have h1 : (bv l)[o + j]? = some u := by
    rw [← hj, bv_take, bv_drop, List.getElem?_take, if_pos hjn, List.getElem?_drop]
  have := h.cellsA hi (o + j) u h1
  rwa [Nat.zero_add] at this

open Go Sx
set_option maxRecDepth 8000

theorem Sx.St.zeroAC {w0 w : World} {X : List Nat} {M : List Res} (h : St w0 X w M) {T : TypeId} {z : List Value} (hz : ∀ w, (zeroValue T).run Tryd.prog w = .ok (.agg z.toArray) w) :
    ∃ g w', (Instr.alloc T true (.tuple #[])).run Tryd.prog w = .ok (.pointer (some ⟨g, 0, none⟩)) w' ∧ St w0 X w' (M ++ [.arr g T z]) ∧ Chg [] w w' := by
  obtain ⟨g, w1, r, h1⟩ := h.zeroA hz
  obtain ⟨g', w1', r', h1'⟩ := (St.start w).zeroA hz
  have e := r.symm.trans r'
  simp only [Result.ok.injEq] at e
  obtain ⟨_, rfl⟩ := e
  exact ⟨g, w1, r, h1, h1'.chg⟩

theorem litC {t e by_ : Nat} {z : Value} (E : ElemT Tryd.prog t e 1 by_ z) (vs : List Value) (h1 : ∀ v ∈ vs, v.oneCell' = true) (hb : vs.length ≤ 16777216) (w : World) :
    ∃ g w', (Instr.buildSlice t vs.length ((vs.zipIdx 0).map fun p => (p.2, p.1)).toArray).run Tryd.prog w = .ok (.slice (some ⟨g, 0, none⟩) vs.length vs.length) w' ∧ Chg [] w w' ∧ Rd w' (some ⟨g, 0, none⟩) vs.length vs.length 1 vs ∧ w.heap.size ≤ g ∧ g < w'.heap.size := by
  obtain ⟨g, w', r, h⟩ := (St.start w).lit E vs h1 hb
  refine ⟨g, w', r, h.chg, h.rd (i := 0) rfl, ?_, Res.lt (h.holds 0 _ rfl) g (by simp [Res.fp, Value.ownBlock])⟩
  have h2 := h.own 0 _ rfl g (by simp [Res.fp, Value.ownBlock])
  simpa using h2

theorem litK (k : UInt8) (w : World) : ∃ g w', (Instr.buildSlice 23 1 #[(0, .int .u8 (k.toNat : Int))]).run Tryd.prog w = .ok (.slice (some ⟨g, 0, none⟩) 1 1) w' ∧ Chg [] w w' ∧ RdB w' (some ⟨g, 0, none⟩) 1 1 [k] := by
  obtain ⟨g, w', r, c, h, _⟩ := litC bT [.int .u8 (k.toNat : Int)] (by simp [Value.oneCell']) (by simp) w
  exact ⟨g, w', r, c, h⟩

theorem kyA (w : World) : (isAgg 28).run Tryd.prog w = .ok true w := Tryd.isAgg28 w
theorem kyS (w : World) : (sizeOf 28).run Tryd.prog w = .ok 96 w := Tryd.sizeOf28 w
theorem kyZ (w : World) : (zeroValue 28).run Tryd.prog w = .ok (.agg (bv (List.replicate 96 0)).toArray) w := Tryd.zeroValue28 w
theorem idS (w : World) : (sizeOf 33).run Tryd.prog w = .ok 32 w := Tryd.sizeOf33 w
theorem idA (w : World) : (isAgg 33).run Tryd.prog w = .ok true w := Tryd.isAgg33 w
theorem idZ (w : World) : (zeroValue 33).run Tryd.prog w = .ok (.agg (bv (List.replicate 32 0)).toArray) w := Tryd.zeroValue33 w
theorem built_keys : Tryd.prog.built 28 = fun parts => Instr.fill (fun i => (#[(0, 32), (32, 32), (64, 32)] : Array (Nat × Nat))[i]?) (bv (List.replicate 96 0)).toArray parts := by kernel_rfl

theorem keys_build {a b c : List UInt8} (ha : a.length = 32) (hb : b.length = 32) (hc : c.length = 32) (w : World) : (Instr.build 28 #[(0, .agg (bv a).toArray), (1, .agg (bv b).toArray), (2, .agg (bv c).toArray)]).run Tryd.prog w = .ok (.agg (bv (a ++ b ++ c)).toArray) w := by
  apply run_build
  rw [built_keys]
  show Instr.fill _ _ [(0, .agg (bv a).toArray), (1, .agg (bv b).toArray), (2, .agg (bv c).toArray)] = _
  have z : ∀ n, (bv (List.replicate 96 0)).drop n = bv (List.replicate (96 - n) 0) := fun n => by rw [← bv_drop, List.drop_replicate]
  rw [fill_step (off := 0) (sz := 32) rfl (by simp [Value.cells, ha]) (by simp)]
  simp only [Value.cells, List.take_zero, List.nil_append, Nat.zero_add, z]
  rw [fill_step (off := 32) (sz := 32) rfl (by simp [Value.cells, hb]) (by simp [ha])]
  simp only [Value.cells]
  rw [List.take_left' (by simp [ha]), show 32 + 32 = (bv a).length + 32 by simp [ha], List.drop_append, List.drop_of_length_le (by omega), show (bv a).length + 32 - (bv a).length = 32 by omega, ← bv_drop, List.drop_replicate]
  rw [fill_step (off := 64) (sz := 32) rfl (by simp [Value.cells, hc]) (by simp [ha, hb])]
  simp only [Value.cells, List.nil_append]
  rw [List.take_left' (by simp [ha, hb]), List.drop_of_length_le (by simp [ha, hb])]
  simp [Instr.fill]

/-- A literal's row that is marked as a string's. -/
theorem litMark (l : List UInt8) (hb : l.length ≤ 16777216) (w : World) : ∃ g w1 w2, (Instr.buildSlice 23 l.length (((bv l).zipIdx 0).map fun p => (p.2, p.1)).toArray).run Tryd.prog w = .ok (.slice (some ⟨g, 0, none⟩) l.length l.length) w1 ∧
    (convert 23 23 (.slice (some ⟨g, 0, none⟩) l.length l.length)).run Tryd.prog w1 = .ok (.slice (some ⟨g, 0, none⟩) l.length l.length) w2 ∧ Chg [] w w2 ∧ RdB w2 (some ⟨g, 0, none⟩) l.length l.length l := by
  obtain ⟨g, w1, r1, c1, h1, hg, hg1⟩ := litC bT (bv l) (bv_one l) (by simpa using hb) w
  rw [bv_length] at r1 h1
  obtain ⟨w2, r2, c2, h2⟩ := sameSlice g _ _ l w1 h1 hg1
  exact ⟨g, w1, w2, r1, r2, c1.trans' c2 (fun i hi => .inl (by simp at hi; omega)), h2⟩

theorem macK_rd {w0 w : World} {M : List Res} (h : St w0 [] w M) {i g T : Nat} {K : List UInt8} (hi : M[i]? = some (.arr g T (bv K))) (hk : K.length = 96) : RdB w (some ⟨g, 32, none⟩) 32 32 (macKy K) ∧ RdB w (some ⟨g, 64, none⟩) 32 32 (nameK K) :=
  ⟨h.rdPart hi (by omega), h.rdPart hi (by omega)⟩

theorem id_spec (K : List UInt8) (a : Option Addr) (n c : Nat) (plain : List UInt8) (w : World) (hk : K.length = 96) (hK : KTab w) (hr : RdB w a n c plain) (hb : n ≤ 67108000) :
    Calls Tryd.prog 26 #[.agg (bv K).toArray, .slice a n c] w fun e w' => e = .returned (.agg (bv (idF K plain)).toArray) ∧ Chg [] w w' := by
  have e2 := hr.lenB
  apply seal_Id_vc
  obtain ⟨g1, w1, r1, h1⟩ := (St.start w).boxA 28 (bv K)
  obtain ⟨g2, w2, r2, h2⟩ := h1.zeroA idZ
  obtain ⟨g3, w3, w4, r3, r4, c4, q4⟩ := litMark [99, 104, 117, 110, 107] (by decide) w2.drew
  have h4 := h2.drew.same c4
  obtain ⟨g5, w5, r5, c5', q5, _⟩ := litC bbT [.slice (some ⟨g3, 0, none⟩) 5 5, .slice a n c] (by simp [Value.oneCell']) (by simp) w4
  have h5 := h4.same c5'
  refine ⟨g1, w1, r1, g2, w2, r2, by omega, by omega, _, _, _, _, r3, _, _, _, _, r4, _, _, _, _, r5, (pack_spec _ 2 2 _ [[99, 104, 117, 110, 107], plain] w5 q5 (row2_two (q4.keep0 c5') (h5.rd1 hr)) (by simp; omega) (by simp)).mono ?_⟩
  rintro e w6 ⟨a6, n6, c6, rfl, hf6⟩
  have h6 := h5.same hf6.1
  obtain ⟨g7, w7, r7, c7', q7, _⟩ := litC bbT [.slice a6 n6 c6] (by simp [Value.oneCell']) (by simp) w6
  have h7 := h6.same c7'
  have hpl : (packL [[99, 104, 117, 110, 107], plain]).length ≤ 67109864 := by
    have := packL_len [[99, 104, 117, 110, 107], plain] (by simp; omega)
    simp at this ⊢
    omega
  refine ⟨_, _, _, rfl, _, _, _, _, r7, (mac_spec _ 32 32 (nameK K) _ 1 1 _ [packL [[99, 104, 117, 110, 107], plain]] w7 (hK.keep0 h7.chg) (macK_rd h7 (i := 0) rfl hk).2 (by omega) q7 (row2_one (hf6.rdB.keep0 c7')) (by rw [List.flatten_cons, List.flatten_nil, List.append_nil]; omega) (by decide)).mono ?_⟩
  rintro e w8 ⟨rfl, c8⟩
  have e1 : [packL [[99, 104, 117, 110, 107], plain]].flatten = packL [[99, 104, 117, 110, 107], plain] := by rw [List.flatten_cons, List.flatten_nil, List.append_nil]
  rw [e1]
  obtain ⟨w9, r9, h9⟩ := (h7.same c8).stA (i := 1) (v := bv (idF K plain)) rfl (idS _) (by simp) (by simp [idF]) (bv_one _)
  exact ⟨_, rfl, w9, r9, _, h9.ldVarA (i := 1) (l := bv (idF K plain)) rfl (idA _) (idS _) (by simp [idF]), rfl, h9.chg⟩

open Go Sx
set_option maxRecDepth 8000

theorem d32B (w : World) : (Instr.build 22 #[]).run Tryd.prog w = .ok (.agg (bv (List.replicate 32 0)).toArray) w := by
  have := build_arr (P := Tryd.prog) (w := w) (T := 22) (d32Z w) Tryd.underlying22 (sB1 w) [] (by simp) (by simp)
  simpa using this

theorem rderived_spec (a0 : Option Addr) (n0 c0 : Nat) (salt : List UInt8) (a1 : Option Addr) (n1 c1 : Nat) (secret : List UInt8) (s : ByteArray) (info : List UInt8) (w : World) (hs : s = ⟨info.toArray⟩) (hr0 : RdB w a0 n0 c0 salt) (hr1 : RdB w a1 n1 c1 secret) (hb : n0 + n1 + info.length ≤ 1099511627776) :
    Calls Tryd.prog 28 #[.slice a0 n0 c0, .slice a1 n1 c1, .string s] w fun e w' => e = .returned (.agg (bv (der32 salt secret info)).toArray) ∧ Chg [] w w' := by
  apply amphoraref05_derived_vc
  obtain ⟨D, hD⟩ : ∃ D, der32 salt secret info = D := ⟨_, rfl⟩
  have hDl : D.length = 32 := by rw [← hD]; simp
  obtain ⟨g6, w1, r1, h1⟩ := (St.start w).zeroA d32Z
  obtain ⟨g7, w2, r2, h2⟩ := h1.zeroA d32Z
  obtain ⟨w3, r3, h3⟩ := h2.stA (i := 1) (v := bv (mixG D (List.replicate 32 0) 0)) rfl (d32S _) (by simp) (by rw [mixG_zero]; simp) (bv_one _)
  rw [mixG_zero] at r3
  obtain ⟨g4, c4, w4, r4, hc4, hr4, _⟩ := toBytes s info hs w3
  have h4 := h3.same hc4
  refine ⟨g6, w1, r1, _, d32B _, g7, w2, r2, w3, r3, _, _, _, _, r4, (rderive_specN a0 n0 c0 salt a1 n1 c1 secret _ info.length c4 info 32 w4 (h4.rd1 hr0) (h4.rd1 hr1) hr4 hb).mono ?_⟩
  rintro e w5 (⟨hx, _⟩ | ⟨_, _, a, n, c, rfl, hc5, hr5, hf5⟩)
  · omega
  have hd : deriveF salt secret info (Int.toNat 32) = der32 salt secret info := rfl
  rw [hd, hD] at hr5
  rw [hD]
  have hn : n = 32 := by rw [← hr5.lenB, hDl]
  subst hn
  have h5 := h4.same hc5
  have hg7 : g7 < w4.heap.size := Res.lt (h4.holds 1 _ rfl) g7 (by simp [Res.fp])
  refine ⟨_, _, _, _, rfl, fun x w' => ∃ i : Nat, x = (i : Int) ∧ i ≤ 32 ∧ RdB w' a 32 c D ∧ St w [] w' [.arr g6 22 (bv (List.replicate 32 0)), .arr g7 22 (bv (mixG D (List.replicate 32 0) i))], fun x _ => 32 - x.toNat, ⟨0, rfl, by omega, hr5, h5⟩, ?_⟩
  rintro x w6 ⟨i, rfl, hi, hr6, h6⟩
  refine ⟨fun h => ?_, fun h => ?_⟩
  · have hi' : i < 32 := by simp at h; omega
    refine ix0 hr6.cells hDl i (by omega) fun bl o ha q => ⟨bl, o, ha, by omega, by omega, _, q w6 hr6.cells, by omega, by omega, ?_⟩
    have hbi : D[i]? = some (D.getD i 0) := by
      rw [List.getD, List.getElem?_eq_getElem (by omega)]
      rfl
    have hml : (mixG D (List.replicate 32 (0 : UInt8)) i).length = 32 := by simp [mixG]; omega
    have h6s := h6.self
    obtain ⟨w7, r7, h7⟩ := h6.stB (i := 1) (o := i) (T := 5) (b := D.getD i 0) rfl (sB1 _) (show 0 + Int.toNat (i : Int) * 1 = i by omega) (by omega)
    obtain ⟨w7', r7', h7'⟩ := (St.ofBlk (h6.holds 1 _ rfl)).stB (i := 0) (o := i) (T := 5) (l := mixG D (List.replicate 32 (0 : UInt8)) i) (b := D.getD i 0) rfl (sB1 _) (show 0 + Int.toNat (i : Int) * 1 = i by omega) (by omega)
    have ew : w7' = w7 := by
      have := r7'.symm.trans r7
      simp only [Result.ok.injEq, true_and] at this
      exact this
    rw [mixG_set (by rw [hDl, List.length_replicate]) hbi] at h7
    refine ⟨w7, r7, ⟨i + 1, wrap_succ hi' (by omega), by omega, ?_, h7⟩, mu_succ hi' (by omega)⟩
    rw [ew] at h7'
    refine hr6.keep h7'.chg fun ad e => ?_
    have := hf5 ad e
    simp
    omega
  · have hi' : i = 32 := by simp at h; omega
    have f1 : mixG D (List.replicate 32 (0 : UInt8)) i = D := by
      have := mixG_all (x := D) (l := List.replicate 32 (0 : UInt8)) (by rw [hDl, List.length_replicate])
      rw [List.length_replicate] at this; rw [hi', this]
    rw [f1] at h6
    obtain ⟨w8, r8, h8⟩ := h6.stA (i := 0) (v := bv D) rfl (d32S _) (by simp) (by simp [hDl]) (bv_one _)
    exact ⟨_, h6.ldA (i := 1) rfl (d32A _) (d32S _) (by simp [hDl]), w8, r8, _, h8.ldVarA (i := 0) (l := bv D) rfl (d32A _) (d32S _) (by simp [hDl]), rfl, h8.chg⟩

theorem rfromMaster_spec (m : List UInt8) (w : World) (hm : m.length = 32) :
    Calls Tryd.prog 10 #[.agg (bv m).toArray] w fun e w' => e = .returned (.agg (bv (masterF m)).toArray) ∧ Chg [] w w' := by
  apply amphoraref05_FromMaster_vc
  obtain ⟨g1, w1, r1, h1⟩ := (St.start w).boxA 22 (bv m)
  obtain ⟨g2, w2, r2, h2⟩ := h1.zeroA kyZ
  obtain ⟨g3, w3, w4, r3, r4, c4, hr4⟩ := litMark amphL (by decide) w2
  have h4 := (h2.same c4).drew
  have hd := Chg.drew [] w4
  have dd : ∀ w' (i : List UInt8) (s : ByteArray), s = ⟨i.toArray⟩ → i.length ≤ 1000 → Chg [] w4.drew w' → Calls Tryd.prog 28 #[.slice (some ⟨g3, 0, none⟩) 7 7, .slice (some ⟨g1, 0, none⟩) 32 32, .string s] w' fun e w'' => e = .returned (.agg (bv (der32 amphL m i)).toArray) ∧ Chg [] w' w'' := fun w' i s hs hi hc =>
    rderived_spec _ 7 7 amphL _ 32 32 m s i w' hs (hr4.keep0 (hd.trans hc)) ((h4.same hc).rdA (i := 0) rfl (by simp [hm])) (by omega)
  refine ⟨g1, w1, r1, g2, w2, r2, _, _, _, _, r3, _, _, _, _, r4, fun w' => Chg [] w4.drew w', Chg.refl _ _, by omega, by omega, by omega, by omega, by omega, by omega, (dd _ [99, 105, 112, 104, 101, 114] _ rfl (by decide) (Chg.refl _ _)).mono ?_⟩
  rintro e w5 ⟨rfl, c5⟩
  refine ⟨_, rfl, fun w' => Chg [] w4.drew w', fun _ h => h, c5, (dd _ [109, 97, 99] _ rfl (by decide) c5).mono ?_⟩
  rintro e w6 ⟨rfl, c6⟩
  have d6 := c5.trans c6
  refine ⟨_, rfl, fun w' => Chg [] w4.drew w', fun _ h => h, d6, (dd _ [110, 97, 109, 101] _ rfl (by decide) d6).mono ?_⟩
  rintro e w7 ⟨rfl, c7⟩
  have d7 := d6.trans c7
  obtain ⟨w8, r8, h8⟩ := (h4.same d7).stA (i := 1) (v := bv (masterF m)) rfl (kyS _) (by simp) (by simp) (bv_one _)
  exact ⟨_, rfl, fun w' => Chg [] w4.drew w', fun _ h => h, d7, _, fun w' _ => keys_build (der32_len _ _ _) (der32_len _ _ _) (der32_len _ _ _) w', w8, r8, _, h8.ldVarA (i := 1) (l := bv (masterF m)) rfl (kyA _) (kyS _) (by simp), rfl, h8.chg⟩

theorem rid_spec (K : List UInt8) (a : Option Addr) (n c : Nat) (plain : List UInt8) (w : World) (hk : K.length = 96) (hr : RdB w a n c plain) (hb : n ≤ 67108000) :
    Calls Tryd.prog 27 #[.agg (bv K).toArray, .slice a n c] w fun e w' => e = .returned (.agg (bv (idF K plain)).toArray) ∧ Chg [] w w' := by
  have e2 := hr.lenB
  apply amphoraref05_Id_vc
  obtain ⟨g1, w1, r1, h1⟩ := (St.start w).boxA 28 (bv K)
  obtain ⟨g2, w2, r2, h2⟩ := h1.zeroA idZ
  obtain ⟨g3, w3, w4, r3, r4, c4, q4⟩ := litMark [99, 104, 117, 110, 107] (by decide) w2.drew
  have h4 := h2.drew.same c4
  obtain ⟨g5, w5, r5, c5', q5, _⟩ := litC bbT [.slice (some ⟨g3, 0, none⟩) 5 5, .slice a n c] (by simp [Value.oneCell']) (by simp) w4
  have h5 := h4.same c5'
  refine ⟨g1, w1, r1, g2, w2, r2, by omega, by omega, _, _, _, _, r3, _, _, _, _, r4, _, _, _, _, r5, (rpack_spec _ 2 2 _ [[99, 104, 117, 110, 107], plain] w5 q5 (row2_two (q4.keep0 c5') (h5.rd1 hr)) (by simp; omega) (by simp)).mono ?_⟩
  rintro e w6 ⟨a6, n6, c6, rfl, hf6⟩
  have h6 := h5.same hf6.1
  obtain ⟨g7, w7, r7, c7', q7, _⟩ := litC bbT [.slice a6 n6 c6] (by simp [Value.oneCell']) (by simp) w6
  have h7 := h6.same c7'
  have hpl : (packL [[99, 104, 117, 110, 107], plain]).length ≤ 67109864 := by
    have := packL_len [[99, 104, 117, 110, 107], plain] (by simp; omega)
    simp at this ⊢
    omega
  refine ⟨_, _, _, rfl, _, _, _, _, r7, (rmac_spec _ 32 32 (nameK K) _ 1 1 _ [packL [[99, 104, 117, 110, 107], plain]] w7 (macK_rd h7 (i := 0) rfl hk).2 (by omega) q7 (row2_one (hf6.rdB.keep0 c7')) (by rw [List.flatten_cons, List.flatten_nil, List.append_nil]; omega) (by decide)).mono ?_⟩
  rintro e w8 ⟨rfl, c8⟩
  have e1 : [packL [[99, 104, 117, 110, 107], plain]].flatten = packL [[99, 104, 117, 110, 107], plain] := by rw [List.flatten_cons, List.flatten_nil, List.append_nil]
  rw [e1]
  obtain ⟨w9, r9, h9⟩ := (h7.same c8).stA (i := 1) (v := bv (idF K plain)) rfl (idS _) (by simp) (by simp [idF]) (bv_one _)
  exact ⟨_, rfl, w9, r9, _, h9.ldVarA (i := 1) (l := bv (idF K plain)) rfl (idA _) (idS _) (by simp [idF]), rfl, h9.chg⟩

end Go.Proofs.YtefnlbgkfingfaaDoor
