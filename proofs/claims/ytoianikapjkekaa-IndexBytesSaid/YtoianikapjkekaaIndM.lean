/- Chapter 14: copies with a mark in the spare room: mine, kept (conditions: none). -/
import Derived.Test.YtoianikapjkekaaIndS
namespace Go.Proofs.Ytoianikapjkekaa
open Go Sx
set_option maxRecDepth 8000

def markR : RefD := ⟨List.replicate 32 0, -9, 0, 0, by simp, by omega, by omega, by omega⟩
theorem markR_build (w : World) : (Instr.build 52 #[(1, .int .i64 (-9))]).run Try.prog w = .ok (.agg (refC markR).toArray) w := by
  apply run_build
  rw [built_ref]
  show Instr.fill _ _ [(1, .int .i64 (-9))] = _
  rw [fill_step (off := 32) (sz := 1) rfl rfl (by simp)]
  rfl

/-- make with length 0 and a capacity. -/
theorem Sx.St.make0 {w0 w : World} {X : List Nat} {M : List Res} (h : St w0 X w M) {t e sz by_ : Nat} {z : Value} (E : ElemT Try.prog t e sz by_ z) (c : Nat) (hb : by_ * c ≤ 281474976710656) (hm : c ≤ maxLen) :
    ∃ g w', (Instr.makeSlice t (.int .i64 0) (.int .i64 (c : Int))).run Try.prog w = .ok (.slice (some ⟨g, 0, none⟩) 0 c) w' ∧ St w0 X w' (M ++ [.row e sz (.slice (some ⟨g, 0, none⟩) 0 c) 0 []]) := by
  obtain ⟨inf, hinf, hz, hsz, hby⟩ := E.inf
  have hr := run_make (P := Try.prog) w t e inf z E.ht hinf hz .i64 .i64 0 (c : Int) (by omega) (by omega) (by rw [hby, ← Int.natCast_mul]; omega) (by simp only [maxLen] at hm; omega)
  rw [Int.toNat_natCast] at hr
  refine ⟨_, _, hr, h.add (Chg.alloc _ _) ⟨by rw [Nat.zero_mul]; rfl, .inr ⟨w.heap.size, c, _, rfl, Nat.zero_le _, heap_alloc_new w _, Nat.zero_le _, hm, by rw [size_madeCells, hsz], by rw [Nat.zero_mul, List.take_zero]⟩⟩ (fun k hk => by simp only [Res.fp, Value.ownBlock, Option.mem_toList, Option.some.injEq] at hk; omega)⟩

theorem mine_spec (a : Option Addr) (n c : Nat) (l : Refs) (w : World) (hr : RdR w a n c l) (hb : n ≤ 1000000) :
    Calls Try.prog 10 #[.slice a n c] w fun e w' => ∃ g, e = .returned (.slice (some ⟨g, 0, none⟩) n (n + 1)) ∧ St w [] w' [.row 52 35 (.slice (some ⟨g, 0, none⟩) (n + 1) (n + 1)) (n + 1) ((l ++ [markR]).flatMap refC)] := by
  have hln := hr.num (by decide)
  have wn : IntKind.wrap .i64 ((n : Int) + 1) = ((n + 1 : Nat) : Int) := by rw [wrap_i64 (by omega) (by omega)]; rfl
  apply amphoralaw14_mine_vc
  rw [wn]
  obtain ⟨g, w1, r1, h1⟩ := (St.start w).make0 rfT (n + 1) (by omega) (by simp only [maxLen]; omega)
  have h1 : St w [] w1 [.row 52 35 (.slice (some ⟨g, 0, none⟩) 0 (n + 1)) 0 []] := h1
  obtain ⟨va, vc, w2, r2, h2, hin, _⟩ := h1.append (i := 0) (ty := 24) rfT rfl (hr.keep0 h1.chg).rd (fun u hu => by
    obtain ⟨x, _, hx⟩ := List.mem_flatMap.1 hu
    exact refC_one x u hx) (by omega) (by simp only [maxLen]; omega)
  obtain ⟨rfl, rfl⟩ := hin (by omega)
  simp only [Nat.zero_add, List.nil_append] at r2 h2
  have h2 : St w [] w2 [.row 52 35 (.slice (some ⟨g, 0, none⟩) n (n + 1)) n (l.flatMap refC)] := h2
  obtain ⟨g3, w3, r3, h3⟩ := h2.litA rfT (refC markR) (refC_len _) (by decide)
  have h3 : St w [] w3 [.row 52 35 (.slice (some ⟨g, 0, none⟩) n (n + 1)) n (l.flatMap refC), .row 52 35 (.slice (some ⟨g3, 0, none⟩) 1 1) 1 (refC markR)] := h3
  obtain ⟨va, vc, w4, r4, h4, hin, _⟩ := h3.append (i := 0) (ty := 24) rfT rfl (h3.rd (i := 1) rfl) (refC_one markR) (by omega) (by simp only [maxLen]; omega)
  obtain ⟨rfl, rfl⟩ := hin (Nat.le_refl _)
  refine ⟨_, _, _, w1, r1, _, _, _, w2, r2, _, markR_build w2, _, _, _, w3, r3, _, _, _, w4, r4, by omega, by omega, g, rfl, ?_⟩
  have e : (l ++ [markR]).flatMap refC = l.flatMap refC ++ refC markR := flat_snoc l markR
  rw [e]
  exact h4.sub (List.Sublist.cons_cons _ (List.nil_sublist _))

theorem kept14_spec (g n : Nat) (a2 : Option Addr) (c2 : Nat) (l : Refs) (w : World) (hm : RdR w (some ⟨g, 0, none⟩) (n + 1) (n + 1) (l ++ [markR])) (hr : RdR w a2 n c2 l) (hb : n ≤ 1000000) :
    Calls Try.prog 13 #[.slice (some ⟨g, 0, none⟩) n (n + 1), .slice a2 n c2] w fun e w' => e = .returned (.bool true) ∧ Chg [] w w' := by
  have hln := hr.num (by decide)
  have wn : IntKind.wrap .i64 ((n : Int) + 1) = ((n + 1 : Nat) : Int) := by rw [wrap_i64 (by omega) (by omega)]; rfl
  have hp : RdR w (some ⟨g, 0, none⟩) n (n + 1) l := by
    have := hm.sub (lo := 0) (hh := n) (m := n + 1) (a' := some ⟨g, 0, none⟩) ⟨fun e => by omega, fun _ => by simp [Addr.add]⟩ (by omega) (by omega) (by omega) (Nat.le_refl _)
    simpa [← hln] using this
  apply amphoralaw14_kept_vc
  rw [wn, Int.toNat_natCast]
  refine (rsame13_spec _ _ _ l _ _ _ l w hp hr (by omega)).mono ?_
  rintro e w1 ⟨hcase, c1⟩
  rcases hcase with ⟨rfl, _⟩ | ⟨_, hne⟩
  · have hx : (l ++ [markR])[n]? = some markR := by rw [List.getElem?_append_right (by omega), hln, Nat.sub_self]; rfl
    obtain ⟨b, o, ha, q⟩ := hm.fld (P := Try.prog) (by decide) inA (i := n) (j := 32) hx (ref_pack _)
    exact ⟨_, rfl, fun _ => ⟨by omega, by omega, b, o, ha, by omega, by omega, _, q w1 (hm.keep0 c1), rfl, c1⟩, fun h => by simp at h⟩
  · exact absurd rfl hne

end Go.Proofs.Ytoianikapjkekaa
