/- The law WireNumbers answers true (conditions: at most 140737488355000 bytes). -/
import Derived.Test.YtpfjakmbokkkoaaNum
import Derived.Test.YtpfjakmbokkkoaaRef04A
import Derived.Test.YtpfjakmbokkkoaaVlaw04
namespace Go.Proofs.Ytpfjakmbokkkoaa
open Go Sx

theorem alive_spec (w : World) : Calls Try.prog 10 #[] w fun e w' => e = .returned (.bool true) ∧ Chg [] w w' := by
  apply amphoralaw04_alive_vc
  obtain ⟨g, w1, hr1, h1⟩ := (St.start w).lit bT [.int .u8 172, .int .u8 2, .int .u8 255] (by simp [Value.oneCell']) (by simp)
  refine ⟨_, _, _, _, hr1, ?_⟩
  have hrd : RdB w1 (some ⟨g, 0, none⟩) 3 3 [172, 2, 255] := h1.rd (i := 0) rfl
  refine (readVar_spec _ _ _ _ _ hrd).mono ?_
  rintro e w2 ⟨rfl, rfl⟩
  have hv : readVarF [172, 2, 255] = some (300, 2) := by decide +kernel
  rw [hv]
  refine ⟨_, _, _, rfl, (var_spec 300 _ (by omega)).mono ?_⟩
  rintro e w3 ⟨a3, n3, c3, rfl, hf3⟩
  have h300 : varL 300 = [172, 2] := by rw [varL_big (by decide), varL_small (by decide)]; rfl
  rw [h300] at hf3
  refine ⟨_, _, _, rfl, _, toStr bS bE sS hf3.cells hf3.2.1, fun _ => ⟨true, ?_, rfl, h1.chg.trans hf3.1⟩, fun h => ?_⟩
  · obtain ⟨_, hI⟩ := eI
    exact eqlS_nil hI none _ _
  · simp at h

theorem wireNumbers_walk (x : Int) (a : Option Addr) (n c : Nat) (l : List UInt8) (w : World) (hx : -9223372036854775808 ≤ x ∧ x ≤ 9223372036854775807) (hr : RdB w a n c l) (hb : n ≤ 140737488355000) :
    Calls Try.prog 3 #[.int .i64 x, .slice a n c] w fun e w' => e = .returned (.bool true) ∧ Chg [] w w' := by
  apply amphoralaw04_WireNumbers_vc
  refine (alive_spec w).mono ?_
  rintro e w1 ⟨rfl, hc1⟩
  refine ⟨_, rfl, fun h => by simp at h, fun _ => ?_⟩
  refine (copy_spec a n c l w1 (hr.keep0 hc1) hb).mono ?_
  rintro e w2 ⟨g, c2, cur, rfl, hc2, hg, hm⟩
  have hc12 := hc1.trans hc2
  refine ⟨_, _, _, rfl, (readVar_spec _ _ _ _ _ hm.rd).mono ?_⟩
  rintro e w3 ⟨rfl, rfl⟩
  obtain ⟨m, s, o, hv, hv', ho⟩ : ∃ (m s : Int) (o : Option Int), rvOut (readVarF l) = .tuple #[.int .i64 m, .int .i64 s, errV o] ∧ rvOutR (readVarF l) = .tuple #[.int .i64 m, .int .i64 s, .int .i64 (o.getD 0)] ∧ o ≠ some 0 := by
    cases readVarF l with
    | none => exact ⟨0, 0, some 9, rfl, rfl, by decide⟩
    | some p => exact ⟨p.1, p.2, none, rfl, rfl, by decide⟩
  obtain ⟨y, o2, hn, hn', ho2⟩ : ∃ (y : Int) (o : Option Int), rnOut (readNumF l) = .tuple #[.int .i64 y, errV o] ∧ rnOutR (readNumF l) = .tuple #[.int .i64 y, .int .i64 (o.getD 0)] ∧ o ≠ some 0 := by
    cases readNumF l with
    | none => exact ⟨0, some 9, rfl, rfl, by decide⟩
    | some p => exact ⟨p, none, rfl, rfl, by decide⟩
  rw [hv]
  refine ⟨_, _, _, rfl, (rreadVar_spec _ _ _ _ _ (hr.keep0 hc12)).mono ?_⟩
  rintro e w4 ⟨rfl, hc4⟩
  rw [hv']
  have hm4 : MarkB w4 g n c2 l cur := hm.keep (hc4.block g (by have := (getElem?_eq_some_iff.1 hm.blk).1; omega) (by simp))
  refine ⟨_, _, _, rfl, (readNum_spec _ _ _ _ _ hm4.rd).mono ?_⟩
  rintro e w5 ⟨rfl, rfl⟩
  rw [hn]
  refine ⟨_, _, rfl, (rreadNum_spec _ _ _ _ _ ((hr.keep0 hc12).keep0 hc4)).mono ?_⟩
  rintro e w6 ⟨rfl, rfl⟩
  rw [hn']
  have hc6 := hc12.trans hc4
  refine ⟨_, _, rfl, fun b w' => b = false ∧ w' = w6, ⟨fun h => by simp at h, fun _ => ?_⟩, ?_⟩
  · refine (num_spec o w6 ho).mono ?_
    rintro e w7 ⟨rfl, rfl⟩
    refine ⟨_, rfl, fun h => by simp at h, fun _ => (num_spec o2 w7 ho2).mono ?_⟩
    rintro e w8 ⟨rfl, rfl⟩
    refine ⟨_, rfl, fun h => by simp at h, fun _ => (kept_spec _ _ _ _ _ _ _ _ _ hm4 (hr.keep0 hc6) hb).mono ?_⟩
    rintro e w9 ⟨rfl, rfl⟩
    exact ⟨_, rfl, rfl, rfl⟩
  · rintro b w7 ⟨rfl, rfl⟩
    refine ⟨fun h => (by cases h), fun _ => ?_⟩
    have hcd := hc6.trans (Chg.drew _ w7)
    obtain ⟨lv, hlv, hlv'⟩ : ∃ lv, (∀ w, Calls Try.prog 18 #[.int .i64 x] w fun e w' => ∃ a n c, e = .returned (.slice a n c) ∧ FreshB w w' a n c lv) ∧ (∀ w, Calls Try.prog 19 #[.int .i64 x] w fun e w' => ∃ a n c, e = .returned (.slice a n c) ∧ FreshB w w' a n c lv) := by
      rcases Int.lt_or_le x 0 with h | h
      · refine ⟨[], fun w => (var_neg x w h).mono ?_, fun w => (rvar_neg x w h).mono ?_⟩
        · rintro e w' ⟨rfl, rfl⟩; exact ⟨_, _, _, rfl, FreshB.nil _⟩
        · rintro e w' ⟨rfl, rfl⟩; exact ⟨_, _, _, rfl, FreshB.nil _⟩
      · obtain ⟨m, rfl⟩ := Int.eq_ofNat_of_zero_le h
        exact ⟨varL m, fun w => var_spec m w (by omega), fun w => rvar_spec m w (by omega)⟩
    refine ⟨fun w' => Chg [] w7 w', Chg.drew _ _, (hlv _).mono ?_⟩
    rintro e w8 ⟨a8, n8, c8, rfl, hf8⟩
    refine ⟨_, _, _, rfl, fun w' => Chg [] w8 w', fun w' h => ((Chg.drew _ _).trans hf8.1).trans h, Chg.refl _ _, _, fun w' h => toStr bS bE sS (hf8.cells.keep0 h) hf8.2.1, (hlv' _).mono ?_⟩
    rintro e w9 ⟨a9, n9, c9, rfl, hf9⟩
    refine ⟨_, _, _, rfl, fun w' => Chg [] w9 w', fun w' h => hf9.1.trans h, Chg.refl _ _, _, fun w' h => toStr bS bE sS (hf9.cells.keep0 h) hf9.2.1, fun _ => (num_bytes x _).mono ?_, fun h => by simp at h⟩
    rintro e w10 ⟨a10, n10, c10, rfl, hf10⟩
    refine ⟨_, _, _, rfl, fun w' => Chg [] w10 w', fun w' h => hf10.1.trans h, Chg.refl _ _, _, fun w' h => toStr bS bE sS (hf10.cells.keep0 h) hf10.2.1, (rnum_bytes x _).mono ?_⟩
    rintro e w11 ⟨a11, n11, c11, rfl, hf11⟩
    refine ⟨_, _, _, rfl, fun w' => Chg [] w11 w', fun w' h => hf11.1.trans h, Chg.refl _ _, _, fun w' h => toStr bS bE sS (hf11.cells.keep0 h) hf11.2.1, by simp, ?_⟩
    exact ((((hcd.trans hf8.1).trans hf9.1).trans hf10.1).trans hf11.1)

end Go.Proofs.Ytpfjakmbokkkoaa
