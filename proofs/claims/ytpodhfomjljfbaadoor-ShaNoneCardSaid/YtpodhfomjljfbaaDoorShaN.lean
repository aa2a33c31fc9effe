/- The law ShaNone answers true (conditions: the table lies where the program laid it). -/
import Derived.Test.YtpodhfomjljfbaaDoorShaV
import Derived.Test.YtpodhfomjljfbaaDoorApart
namespace Go.Proofs.YtpodhfomjljfbaaDoor
open Go Sx

theorem d32B (w : World) : (Instr.build 27 #[]).run Tryd.prog w = .ok (.agg (bv (List.replicate 32 0)).toArray) w := by
  have := build_arr (P := Tryd.prog) (w := w) (T := 27) (d32Z w) Tryd.underlying27 (sB1 w) [] (by simp) (by simp)
  simpa using this

theorem hSum_nil (w : World) : Calls Tryd.prog 26 #[.pointer none] w fun e w' => e = .returned (.agg (bv (List.replicate 32 0)).toArray) ∧ Chg [] w w' := by
  apply sha_Hasher_Sum_vc_nil
  obtain ⟨g1, w1, r1, h1⟩ := (St.start w).zeroA d32Z
  obtain ⟨w2, r2, h2⟩ := h1.stA (i := 0) (v := bv (List.replicate 32 0)) rfl (d32S _) (by simp) (by simp) (bv_one _)
  exact ⟨g1, w1, r1, _, d32B _, w2, r2, _, h2.ldVarA (i := 0) (l := bv (List.replicate 32 0)) rfl (d32A _) (d32S _) (by simp), rfl, h2.chg⟩

theorem kSum_nil (w : World) : Calls Tryd.prog 27 #[.pointer none] w fun e w' => e = .returned (.agg (bv (List.replicate 32 0)).toArray) ∧ Chg [] w w' := by
  apply sha_Keyed_Sum_vc_nil
  obtain ⟨g1, w1, r1, h1⟩ := (St.start w).zeroA d32Z
  obtain ⟨w2, r2, h2⟩ := h1.stA (i := 0) (v := bv (List.replicate 32 0)) rfl (d32S _) (by simp) (by simp) (bv_one _)
  exact ⟨g1, w1, r1, _, d32B _, w2, r2, _, h2.ldVarA (i := 0) (l := bv (List.replicate 32 0)) rfl (d32A _) (d32S _) (by simp), rfl, h2.chg⟩

theorem shaNone_walk (a : Option Addr) (n c : Nat) (l : List UInt8) (w : World) (hK : KTab w) (hr : RdB w a n c l) :
    Calls Tryd.prog 8 #[.slice a n c] w fun e w' => e = .returned (.bool true) ∧ Chg [] w w' := by
  have e0 := hr.lenB
  apply amphoralaw02_ShaNone_vc
  refine (alive_spec w hK).mono ?_
  rintro e w1 ⟨rfl, hc1⟩
  refine ⟨_, rfl, fun h => by simp at h, fun _ => ?_⟩
  obtain ⟨g2, w2, r2, h2⟩ := ((St.start w).same hc1).lit bbT [.slice a n c] (by simp [Value.oneCell']) (by simp)
  refine ⟨_, _, _, _, r2, (large_spec _ 1 1 _ [l] w2 (h2.rd (i := 0) rfl) (row2_one (h2.rd1 hr)) (by decide)).mono ?_⟩
  rintro e w3 ⟨rfl, rfl⟩
  refine ⟨_, rfl, fun _ => ⟨rfl, h2.chg⟩, fun h => ?_⟩
  have hsm : n ≤ 65536 := by
    simp only [List.flatten_cons, List.flatten_nil, List.append_nil, decide_eq_false_iff_not] at h
    omega
  clear h
  obtain ⟨g4, w4, r4, h4⟩ := h2.lit bbT [.slice a n c] (by simp [Value.oneCell']) (by simp)
  refine ⟨_, _, _, _, r4, (hWrite_nil _ _ _ w4).mono ?_⟩
  rintro e w5 ⟨rfl, rfl⟩
  obtain ⟨g6, w6, r6, h6⟩ := h4.lit bbT [.slice a n c] (by simp [Value.oneCell']) (by simp)
  refine ⟨rfl, _, _, _, _, r6, (kWrite_nil _ _ _ w6).mono ?_⟩
  rintro e w7 ⟨rfl, rfl⟩
  refine ⟨rfl, fun b w' => b = false ∧ Chg [] w w', (hLen_nil w7).mono ?_, ?_⟩
  · rintro e w8 ⟨rfl, rfl⟩
    refine ⟨_, rfl, fun h => by simp at h, fun _ => (kLen_nil _).mono ?_⟩
    rintro e w8 ⟨rfl, rfl⟩
    refine ⟨_, rfl, fun h => by simp at h, fun _ => (hSum_nil _).mono ?_⟩
    rintro e w8 ⟨rfl, hc8⟩
    refine ⟨_, rfl, _, d32B _, _, neD _ _ _ (by simp) _, fun h => by simp at h, fun _ => (kSum_nil _).mono ?_⟩
    rintro e w9 ⟨rfl, hc9⟩
    exact ⟨_, rfl, _, d32B _, _, neD _ _ _ (by simp) _, rfl, (h6.chg.trans hc8).trans hc9⟩
  rintro b w10 ⟨rfl, d10⟩
  refine ⟨fun h => (by cases h), fun _ => (derive_spec a n c l a n c l a n c l 40 w10 (hK.keep0 d10) (hr.keep0 d10) (hr.keep0 d10) (hr.keep0 d10) (by omega)).mono ?_⟩
  rintro e w11 (⟨hx, _⟩ | ⟨_, _, a11, n11, c11, rfl, hf11⟩)
  · omega
  have d11 := d10.trans hf11.1
  refine ⟨_, _, _, _, rfl, (derive_spec a n c l a n c l a n c l 40 w11 (hK.keep0 d11) (hr.keep0 d11) (hr.keep0 d11) (hr.keep0 d11) (by omega)).mono ?_⟩
  rintro e w12 (⟨hx, _⟩ | ⟨_, _, a12, n12, c12, rfl, hf12⟩)
  · omega
  obtain ⟨d, hd⟩ : ∃ d, deriveF l l l (Int.toNat 40) = d := ⟨_, rfl⟩
  have hdl : d.length = 40 := by rw [← hd, deriveF_len]; rfl
  rw [hd] at hf11 hf12
  have m11 := hf11.2.1
  have m12 := hf12.2.1
  obtain rfl : n11 = d.length := m11.symm
  obtain rfl : n12 = d.length := m12.symm
  have h11 := hf11.add (St.start w10)
  have h12 := hf12.add h11
  obtain ⟨g13, w13, r13, h13⟩ := h12.lit bbT [.slice a11 d.length c11, .slice a12 d.length c12] (by simp [Value.oneCell']) (by simp)
  have h14 : St w10 [] w13 (.row 22 1 (.slice (some ⟨g13, 0, none⟩) 2 2) 2 [.slice a11 d.length c11, .slice a12 d.length c12] :: rowsL [.slice a11 d.length c11, .slice a12 d.length c12] [d, d]) :=
    h13.perm (List.perm_append_comm (l₁ := [_, _]) (l₂ := [_]))
  refine ⟨_, _, _, _, rfl, _, toStr bS bE sS (hf11.cells.keep0 hf12.1) rfl, _, toStr bS bE sS hf12.cells rfl, fun _ => ⟨_, _, _, _, r13, ?_⟩, fun h => by simp at h⟩
  refine (apart_spec _ _ 2 2 _ [d, d] w13 h14.self rfl ?_ (by decide) ?_).mono ?_
  · intro i hi
    match i, hi with
    | 0, _ => exact ⟨_, _, rfl⟩
    | 1, _ => exact ⟨_, _, rfl⟩
  · intro i hi
    match i, hi with
    | 0, _ => show d.length ≤ _; omega
    | 1, _ => show d.length ≤ _; omega
  · rintro e w15 ⟨rfl, hc⟩
    exact ⟨_, rfl, rfl, d10.trans (h14.chg.trans' hc fun k hk => .inl (h14.fps_own k hk))⟩

end Go.Proofs.YtpodhfomjljfbaaDoor
