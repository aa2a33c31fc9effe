/- The fixed fact of chapter 14; a nil Index: IndexNone (conditions: none). -/
import Derived.Test.YtoianikapjkekaaIndE
import Derived.Test.YtoianikapjkekaaEqR
namespace Go.Proofs.Ytoianikapjkekaa
open Go Sx
set_option maxRecDepth 8000

theorem rfZ' (w : World) : (zeroValue 40).run Try.prog w = .ok (.agg (bv (List.replicate 32 0)).toArray) w := Try.zeroValue40 w
def idB (b : UInt8) : List UInt8 := [b] ++ List.replicate 31 0
theorem idB_build (b : UInt8) (w : World) : (Instr.build 40 #[(0, .int .u8 (b.toNat : Int))]).run Try.prog w = .ok (.agg (bv (idB b)).toArray) w := by
  have := build_arr (P := Try.prog) (w := w) (T := 40) (rfZ' w) Try.underlying40 (sB1' w) [.int .u8 (b.toNat : Int)] (by simp [Value.oneCell']) (by simp)
  exact this
def mkR (b : UInt8) (p : Int) (hp : 0 ≤ p ∧ p ≤ 9) : RefD := ⟨idB b, p, 0, 0, by simp [idB], by omega, by omega, by omega⟩

theorem built_ref : Try.prog.built 52 = fun parts => Instr.fill (fun i => (#[(0, 32), (32, 1), (33, 1), (34, 1)] : Array (Nat × Nat))[i]?) (refC ref0).toArray parts := by kernel_rfl

theorem mkR_build (b : UInt8) (p : Int) (hp : 0 ≤ p ∧ p ≤ 9) (w : World) : (Instr.build 52 #[(0, .agg (bv (idB b)).toArray), (1, .int .i64 p)]).run Try.prog w = .ok (.agg (refC (mkR b p hp)).toArray) w := by
  apply run_build
  rw [built_ref]
  show Instr.fill _ _ [(0, .agg (bv (idB b)).toArray), (1, .int .i64 p)] = _
  rw [fill_step (off := 0) (sz := 32) rfl (by simp [Value.cells, idB]) (by simp), fill_step (off := 32) (sz := 1) rfl rfl (by simp [Value.cells, idB])]
  simp [Instr.fill, Value.cells, refC, mkR, ref0, idB]
  rfl

theorem ref0_build (w : World) : (Instr.build 52 #[]).run Try.prog w = .ok (.agg (refC ref0).toArray) w := by
  apply run_build
  rw [built_ref]
  rfl

/-- A field of a thing of a row; its identifier. -/
theorem Sx.RdE.fld {P : Program} {α : Type} {enc : α → List Value} {k : Nat} {w : World} {a : Option Addr} {n c : Nat} {l : List α} (h : RdE enc k w a n c l) (hk : 0 < k) {T : TypeId} (hA : ∀ w, (isAgg T).run P w = .ok false w) {i j : Nat} {x : α} {v : Value} (hx : l[i]? = some x) (hv : (enc x)[j]? = some v) :
    ∃ b o, a = some ⟨b, o, none⟩ ∧ ∀ w', RdE enc k w' a n c l → (Instr.loadAt T (.pointer (some ⟨b, o + Int.toNat (i : Int) * k + j, none⟩))).run P w' = .ok v w' := by
  obtain ⟨b, o, rfl, hr⟩ := h.at_ hk hx
  refine ⟨b, o, rfl, fun w' h' => ?_⟩
  rw [Int.toNat_natCast]
  exact ld1 (hA _) (hr w' h' j v hv)

theorem RdR_id {w : World} {a : Option Addr} {n c : Nat} {l : Refs} (h : RdR w a n c l) {i : Nat} {r : RefD} (hx : l[i]? = some r) : ∃ b o, a = some ⟨b, o, none⟩ ∧ ∀ w', RdR w' a n c l → (Instr.loadAt 40 (.pointer (some ⟨b, o + Int.toNat (i : Int) * 35, none⟩))).run Try.prog w' = .ok (.agg (bv r.id).toArray) w' := by
  obtain ⟨b, o, rfl, hr⟩ := h.at_ (by decide) hx
  refine ⟨b, o, rfl, fun w' h' => ?_⟩
  rw [Int.toNat_natCast]
  refine ldRange (fun j v hj => hr w' h' j v ?_) (idA' _) (idS' _) (by simp [r.idl])
  rw [refC, List.getElem?_append_left (List.getElem?_eq_some_iff.1 hj).1]; exact hj

theorem ref_pack (r : RefD) : (refC r)[32]? = some (.int .i64 r.pack) := by rw [refC, List.getElem?_append_right (by simp [r.idl])]; simp [r.idl]

def l3 : Refs := [mkR 2 1 (by omega), mkR 1 1 (by omega), mkR 2 3 (by omega)]
theorem l3_add : addF [] l3 = [mkR 1 1 (by omega), mkR 2 3 (by omega)] := by kernel_rfl
theorem l3_good : l3.all goodF = true := by kernel_rfl

theorem alive14_spec (w : World) : Calls Try.prog 9 #[] w fun e w' => e = .returned (.bool true) ∧ Chg [] w w' := by
  obtain ⟨mI, hI⟩ := eI
  apply amphoralaw14_alive_vc
  obtain ⟨g, w1, r1, h1⟩ := (St.start w).litE (enc := refC) rfT refC_len l3 (by decide) (by decide)
  have hr1 : RdR w1 (some ⟨g, 0, none⟩) 3 3 l3 := ⟨h1.rd (i := 0) rfl, fun x _ => refC_len x⟩
  refine ⟨_, idB_build 2 w, _, mkR_build 2 1 (by omega) w, _, idB_build 1 w, _, mkR_build 1 1 (by omega) w, _, idB_build 2 w, _, mkR_build 2 3 (by omega) w, _, _, _, w1, r1, (iSegment_spec _ 3 3 l3 w1 hr1 (by omega)).mono ?_⟩
  rintro e w2 (⟨_, a', n', c', rfl, h2⟩ | ⟨hbad, _⟩)
  · rw [l3_add] at h2
    have hr2 : RdR w2 a' n' c' [mkR 1 1 (by omega), mkR 2 3 (by omega)] := ⟨h2.rd (i := 0) rfl, fun x _ => refC_len x⟩
    have hn2 : n' = 2 := (hr2.num (by decide)).symm
    subst hn2
    obtain ⟨b0, o0, ha0, q0⟩ := RdR_id hr2 (i := 0) rfl
    obtain ⟨b1, o1, ha1, q1⟩ := hr2.fld (P := Try.prog) (by decide) inA (i := 1) (j := 32) rfl (ref_pack _)
    refine ⟨_, _, _, _, rfl, _, eqlS_nil hI none _ _, fun _ => ⟨b0, o0, ha0, by omega, by omega, _, q0 w2 hr2, _, idB_build 1 w2, _, (eqIds _ _ _ _ (by simp [mkR, idB]) (by simp [idB]) w2).1, fun _ => ⟨b1, o1, ha1, by omega, by omega, _, q1 w2 hr2, rfl, h1.chg.trans h2.chg⟩, fun h => by simp [mkR] at h⟩, fun h => by simp at h⟩
  · rw [l3_good] at hbad; cases hbad

theorem iFind_nil (id : List UInt8) (w : World) : Calls Try.prog 24 #[.pointer none, .agg (bv id).toArray] w fun e w' => e = .returned (.tuple #[.agg (refC ref0).toArray, .bool false]) ∧ Chg [] w w' := by
  apply index_Index_Find_vc_nil
  obtain ⟨g3, w1, r1, h1⟩ := (St.start w).boxA (P := Try.prog) 40 (bv id)
  obtain ⟨g4, w2, r2, h2⟩ := h1.zeroA rfZ
  obtain ⟨w3, r3, h3⟩ := h2.stA (i := 1) (v := refC ref0) rfl (rfS _) (refC_len _) (refC_len _) (refC_one _)
  exact ⟨g3, w1, r1, g4, w2, r2, _, ref0_build w2, w3, r3, _, h3.ldVarA (i := 1) (l := refC ref0) rfl (rfA _) (rfS _) (refC_len _), rfl, h3.chg⟩

theorem isT : ElemT Try.prog 43 3 1 8 (.int .i64 0) := ⟨by kernel_rfl, ⟨Try.t3, by kernel_rfl, by kernel_rfl, by kernel_rfl, by kernel_rfl⟩, rfl, by decide⟩

theorem indexNone_walk (r : RefD) (w : World) : Calls Try.prog 6 #[.agg (refC r).toArray] w fun e w' => e = .returned (.bool true) ∧ Chg [] w w' := by
  obtain ⟨mI, hI⟩ := eI
  apply amphoralaw14_IndexNone_vc
  obtain ⟨g1, w1, r1, h1⟩ := (St.start w).boxA (P := Try.prog) 52 (refC r)
  refine ⟨g1, w1, r1, (alive14_spec w1).mono ?_⟩
  rintro e w2 ⟨rfl, c2⟩
  have h2 := h1.same c2
  obtain ⟨g3, w3, r3, h3⟩ := h2.lit isT [.int .i64 r.pack] (by simp [Value.oneCell']) (by simp)
  refine ⟨_, rfl, fun h => by simp at h, fun _ => ⟨_, (refFld h2 (i := 0) rfl).1, _, _, _, w3, r3, ?_⟩⟩
  apply index_Index_Drop_vc_nil
  refine ⟨rfl, _, refId h3 (i := 0) rfl, (iFind_nil r.id w3).mono ?_⟩
  rintro e w5 ⟨rfl, c5⟩
  have h5 := h3.same c5
  obtain ⟨g4, w6, r6, h6⟩ := h5.zeroA rfZ
  obtain ⟨w7, r7, h7⟩ := h6.stA (i := 2) (v := refC ref0) rfl (rfS _) (refC_len _) (refC_len _) (refC_one _)
  obtain ⟨g8, w8, r8, h8⟩ := h7.litA rfT (refC r) (refC_len r) (by decide)
  refine ⟨_, _, rfl, g4, w6, r6, w7, r7, _, h7.ldA (i := 0) (l := refC r) rfl (rfA _) (rfS _) (refC_len _), _, _, _, w8, r8, ?_⟩
  apply index_Index_Add_vc_nil
  refine ⟨errV (some 28), rfl, _, eqlS_err hI (some 28) 28 _ _ _, fun _ => ⟨_, h8.ldA (i := 2) (l := refC ref0) rfl (rfA _) (rfS _) (refC_len _), _, ref0_build w8, _, (eqRefs _ _ ref0 ref0 w8).1, fun _ => ?_, fun h => ?_⟩, fun h => by simp at h⟩
  · apply index_Index_Len_vc_nil
    refine ⟨_, rfl, fun _ => ?_, fun h => by simp at h⟩
    apply index_Index_All_vc_nil
    exact ⟨_, _, _, rfl, rfl, h8.chg⟩
  · rw [(refEqB_iff _ _).2 rfl] at h
    cases h

end Go.Proofs.Ytoianikapjkekaa
