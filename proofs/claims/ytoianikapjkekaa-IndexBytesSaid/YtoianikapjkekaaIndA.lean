/- Refs in memory; the order of identifiers: bytes.Compare, index.compare (conditions: none). -/
import Derived.Test.YtoianikapjkekaaLex
import Derived.Test.YtoianikapjkekaaRdE
import Derived.Test.YtoianikapjkekaaVindex
import Derived.Laws.Externs
import Derived.Lib.BytesEntry
import Derived.Sort.Grow
import Derived.Sort.Row
import Derived.Deep.Draws
namespace Go.Proofs.Ytoianikapjkekaa
open Go Sx
set_option maxRecDepth 8000

/-- A ref. -/
structure RefD where
  id : List UInt8
  pack : Int
  at_ : Int
  len : Int
  idl : id.length = 32
  pk : -9223372036854775808 ≤ pack ∧ pack ≤ 9223372036854775807
  ak : -9223372036854775808 ≤ at_ ∧ at_ ≤ 9223372036854775807
  lk : -9223372036854775808 ≤ len ∧ len ≤ 9223372036854775807
def ref0 : RefD := ⟨List.replicate 32 0, 0, 0, 0, by simp, by omega, by omega, by omega⟩
instance : Inhabited RefD := ⟨ref0⟩
def refC (r : RefD) : List Value := bv r.id ++ [.int .i64 r.pack, .int .i64 r.at_, .int .i64 r.len]
@[simp] theorem refC_len (r : RefD) : (refC r).length = 35 := by simp [refC, r.idl]
theorem refC_one (r : RefD) : ∀ v ∈ refC r, v.oneCell' = true := fun v hv => by
  simp only [refC, List.mem_append, List.mem_cons, List.not_mem_nil, or_false] at hv
  rcases hv with hv | rfl | rfl | rfl
  · exact bv_one _ v hv
  · rfl
  · rfl
  · rfl
theorem RefD.ext {r s : RefD} (h1 : r.id = s.id) (h2 : r.pack = s.pack) (h3 : r.at_ = s.at_) (h4 : r.len = s.len) : r = s := by
  cases r; cases s; simp_all

def cmpL (l m : List UInt8) : Int := match (List.range (min l.length m.length)).find? fun i => l.getD i 0 != m.getD i 0 with
  | some i => if l.getD i 0 < m.getD i 0 then -1 else 1
  | none => if l.length < m.length then -1 else if l.length > m.length then 1 else 0

theorem cmpL_lex : ∀ l m, cmpL l m = lexCmp l m
  | [], [] => by simp [cmpL, lexCmp, lexLt]
  | [], b :: m => by simp [cmpL, lexCmp, lexLt]
  | a :: l, [] => by simp [cmpL, lexCmp, lexLt]
  | a :: l, b :: m => by
    have ih := cmpL_lex l m
    have e : min (a :: l).length (b :: m).length = min l.length m.length + 1 := by simp only [List.length_cons]; omega
    by_cases h : a = b
    · subst h
      have h1 : lexCmp (a :: l) (a :: m) = lexCmp l m := by simp [lexCmp, lexLt]
      rw [h1, ← ih]
      unfold cmpL
      rw [e, List.range_succ_eq_map, List.find?_cons]
      simp only [List.getD_cons_zero, bne_self_eq_false, List.find?_map]
      have h2 : ((fun i => (a :: l).getD i 0 != (a :: m).getD i 0) ∘ Nat.succ) = fun i => l.getD i 0 != m.getD i 0 := by
        funext i; simp only [Function.comp_apply, Nat.succ_eq_add_one, List.getD_cons_succ]
      rw [h2]
      cases (List.range (min l.length m.length)).find? fun i => l.getD i 0 != m.getD i 0 with
      | none => simp
      | some i => simp only [Option.map_some, Nat.succ_eq_add_one, List.getD_cons_succ]
    · unfold cmpL
      rw [e, List.range_succ_eq_map, List.find?_cons]
      have hb : (a != b) = true := by simpa using h
      simp only [List.getD_cons_zero, hb]
      have hn : a.toNat ≠ b.toNat := fun e => h (UInt8.toNat_inj.1 e)
      unfold lexCmp
      simp only [lexLt, UInt8.lt_iff_toNat_lt]
      by_cases hlt : a.toNat < b.toNat
      · simp [hlt]
      · simp [hlt, show b.toNat < a.toNat by omega]

theorem extern_cmp (l m : List UInt8) : Extern.BytealgCompare.cmp ⟨l.toArray⟩ ⟨m.toArray⟩ = cmpL l m := by
  have g : ∀ (q : List UInt8) (i : Nat), (⟨q.toArray⟩ : ByteArray)[i]! = q.getD i 0 := by
    intro q i
    by_cases h : i < q.length
    · have h2 : i < (⟨q.toArray⟩ : ByteArray).size := by simpa [ByteArray.size] using h
      rw [getElem!_pos _ i h2]
      show (q.toArray)[i]'(by simpa using h) = _
      simp [List.getD, h]
    · have h2 : ¬ i < (⟨q.toArray⟩ : ByteArray).size := by simpa [ByteArray.size] using h
      rw [getElem!_neg _ i h2]
      simp [List.getD, h]
      rfl
  unfold Extern.BytealgCompare.cmp cmpL
  simp only [g, ByteArray.size, List.size_toArray]
  cases List.find? (fun i => l.getD i 0 != m.getD i 0) (List.range (min l.length m.length)) <;> rfl

theorem bytesOf_run {P : Program} {w : World} {a : Option Addr} {c n : Nat} {l : List UInt8} (hc : Cells w a (bv l)) (hn : l.length = n) : (Extern.Bytes.bytesOf (.slice a n c)).run P w = .ok ⟨l.toArray⟩ w := by
  subst hn
  cases a with
  | none =>
    have hl : l = [] := by
      rcases hc with h | ⟨b, o, h, _⟩
      · cases l with
        | nil => rfl
        | cons x y => simp [bv] at h
      · cases h
    subst hl
    rfl
  | some ad =>
    have h1 : ∀ (j : Nat) (x : Int), (l.map fun b => (b.toNat : Int))[j]? = some x → w.cell? (ad.add j) = some (.int .u8 x) := by
      intro j x hx
      rw [List.getElem?_map] at hx
      cases hq : l[j]? with
      | none => rw [hq] at hx; cases hx
      | some y =>
        rw [hq] at hx
        simp only [Option.map_some, Option.some.injEq] at hx
        subst hx
        obtain ⟨b, o, ha, hcell⟩ := hc.at_ (i := j) (v := .int .u8 (y.toNat : Int)) (by rw [bv_get, hq]; rfl)
        simp only [Option.some.injEq] at ha
        subst ha
        rw [Addr.add_mid]
        exact hcell
    have := Lib.run_loadBytesX (P := P) (w := w) (l.map fun b => (b.toNat : Int)) ad .empty h1
    rw [List.length_map] at this
    simp only [Extern.Bytes.bytesOf]
    rw [this]
    have e : Lib.bytesOf (l.map fun b => (b.toNat : Int)) = l := by
      simp [Lib.bytesOf, Function.comp_def]
    rw [e]
    simp

theorem bytesCompare_spec (a a2 : Option Addr) (n c n2 c2 : Nat) (l m : List UInt8) (w : World) (h1 : Cells w a (bv l)) (hl : l.length = n) (h2 : Cells w a2 (bv m)) (hm : m.length = n2) :
    Calls Try.prog 56 #[.slice a n c, .slice a2 n2 c2] w fun e w' => e = .returned (.int .i64 (lexCmp l m)) ∧ w' = w := by
  apply bytes_Compare_vc
  refine ⟨lexCmp l m, w, ?_, rfl, rfl⟩
  rw [run_callFunc_extern Try.func69 (by kernel_rfl) (by kernel_rfl) (by kernel_rfl) (e := Extern.BytealgCompare.compare) (by kernel_rfl)]
  have e : Extern.BytealgCompare.compare #[.slice a n c, .slice a2 n2 c2] = (do pure (goInt (Extern.BytealgCompare.cmp (← Extern.Bytes.bytesOf (.slice a n c)) (← Extern.Bytes.bytesOf (.slice a2 n2 c2))))) := rfl
  rw [e]
  simp [bytesOf_run h1 hl, bytesOf_run h2 hm, extern_cmp, cmpL_lex, goInt]

/-- The world has only grown: blocks behind, draws. -/
def Gr (w w' : World) : Prop := ∃ q os, w' = Sort.grow (w.drewN q) os
theorem Gr.refl (w : World) : Gr w w := ⟨0, #[], by simp [World.drewN]⟩
theorem Gr.trans {a b c : World} (h : Gr a b) (k : Gr b c) : Gr a c := by
  obtain ⟨q, os, rfl⟩ := h
  obtain ⟨q2, os2, rfl⟩ := k
  refine ⟨q + q2, os ++ os2, ?_⟩
  simp [Sort.grow, World.drewN, Nat.add_assoc, Array.append_assoc]
theorem Gr.alloc (w : World) (o : Obj) : Gr w (w.alloc o) := ⟨0, #[o], by rw [Sort.alloc_eq_grow]; simp [World.drewN]⟩
theorem Gr.drew (w : World) : Gr w w.drew := ⟨1, #[], by rw [Sort.grow_empty]; rfl⟩

theorem boxG {P : Program} (w : World) (T : TypeId) (l : List Value) : (Instr.box T (.agg l.toArray)).run P w = .ok (.pointer (some ⟨w.heap.size, 0, none⟩)) (w.alloc (.cells l.toArray T)) := by simp [Instr.box, newVar, newRow, Value.cells]

theorem idA' (w : World) : (isAgg 40).run Try.prog w = .ok true w := Try.isAgg40 w
theorem idS' (w : World) : (sizeOf 40).run Try.prog w = .ok 32 w := Try.sizeOf40 w

theorem compareG (l m : List UInt8) (w : World) (hl : l.length = 32) (hm : m.length = 32) :
    Calls Try.prog 37 #[.agg (bv l).toArray, .agg (bv m).toArray] w fun e w' => e = .returned (.int .i64 (lexCmp l m)) ∧ Gr w w' := by
  apply index_compare_vc
  obtain ⟨g1, w1, r1, h1⟩ := (St.start w).boxA (P := Try.prog) 40 (bv l)
  obtain ⟨g2, w2, r2, h2⟩ := h1.boxA (P := Try.prog) 40 (bv m)
  have e1 := r1.symm.trans (boxG w _ _)
  have e2 := r2.symm.trans (boxG w1 _ _)
  simp only [Result.ok.injEq] at e1 e2
  have hG : Gr w w2 := by rw [e2.2, e1.2]; exact (Gr.alloc _ _).trans (Gr.alloc _ _)
  have h2d := h2.drew
  refine ⟨g1, w1, r1, g2, w2, r2, by omega, by omega, by omega, by omega, (bytesCompare_spec _ _ 32 32 32 32 l m w2.drew (h2d.rdA (i := 0) (n := 32) (l := bv l) rfl (by simp [hl])).cells hl (h2d.rdA (i := 1) (n := 32) (l := bv m) rfl (by simp [hm])).cells hm).mono ?_⟩
  rintro e w3 ⟨rfl, rfl⟩
  exact ⟨_, rfl, rfl, hG.trans (Gr.drew _)⟩

theorem refId {w0 w : World} {X : List Nat} {M : List Res} (h : St w0 X w M) {i g : Nat} {T : TypeId} {r : RefD} (hi : M[i]? = some (.arr g T (refC r))) : (Instr.loadAt 40 (.pointer (some ⟨g, 0, none⟩))).run Try.prog w = .ok (.agg (bv r.id).toArray) w := by
  have rng := h.cellsA hi
  refine ldRange (fun j v hj => rng j v ?_) (idA' _) (idS' _) (by simp [r.idl])
  rw [refC, List.getElem?_append_left (List.getElem?_eq_some_iff.1 hj).1]; exact hj

/-- The closure that index.All sorts by. -/
theorem all1G (x y : RefD) (w : World) : Calls Try.prog 44 #[.agg (refC x).toArray, .agg (refC y).toArray] w fun e w' => e = .returned (.int .i64 (lexCmp x.id y.id)) ∧ Gr w w' := by
  apply index_Index_All_1_vc
  obtain ⟨g1, w1, r1, h1⟩ := (St.start w).boxA (P := Try.prog) 52 (refC x)
  obtain ⟨g2, w2, r2, h2⟩ := h1.boxA (P := Try.prog) 52 (refC y)
  have e1 := r1.symm.trans (boxG w _ _)
  have e2 := r2.symm.trans (boxG w1 _ _)
  simp only [Result.ok.injEq] at e1 e2
  have hG : Gr w w2 := by rw [e2.2, e1.2]; exact (Gr.alloc _ _).trans (Gr.alloc _ _)
  refine ⟨g1, w1, r1, g2, w2, r2, _, refId h2 (i := 0) rfl, _, refId h2 (i := 1) rfl, (compareG x.id y.id w2 x.idl y.idl).mono ?_⟩
  rintro e w3 ⟨rfl, hg⟩
  exact ⟨_, rfl, rfl, hG.trans hg⟩

end Go.Proofs.Ytoianikapjkekaa
