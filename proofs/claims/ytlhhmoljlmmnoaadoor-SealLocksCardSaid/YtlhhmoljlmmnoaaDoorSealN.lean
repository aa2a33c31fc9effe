/- The law SealLocks answers true (conditions: the table lies where the program laid it). -/
import Derived.Test.YtlhhmoljlmmnoaaDoorSealM
import Derived.Test.YtlhhmoljlmmnoaaDoorSealL
import Derived.Test.YtlhhmoljlmmnoaaDoorSum
namespace Go.Proofs.YtlhhmoljlmmnoaaDoor
open Go Sx
set_option maxRecDepth 8000

theorem lockE_ne (pw : List UInt8) : lockE pw ≠ some 0 := by rw [lockE]; split <;> simp
theorem unlockE_ne (pw f : List UInt8) : unlockE pw f ≠ some 0 := by
  rw [unlockE]
  split
  · split <;> simp
  · simp

theorem sealLocks_walk (s : ByteArray) (salt m : List UInt8) (a : Option Addr) (n c : Nat) (f : List UInt8) (w : World) (hK : KTab w) (hs : salt.length = 16) (hm : m.length = 32) (hr : RdB w a n c f) :
    Calls Tryd.prog 7 #[.agg (lockL s salt m a n c).toArray] w fun e w' => e = .returned (.bool true) ∧ Chg [] w w' := by
  have e0 := hr.lenB
  apply amphoralaw05_SealLocks_vc
  obtain ⟨mI, hI⟩ := eI
  obtain ⟨g1, w1, r1, h1⟩ := (St.start w).boxA 51 (lockL s salt m a n c)
  refine ⟨g1, w1, r1, (lalive_spec w1 (hK.keep0 h1.chg)).mono ?_⟩
  rintro e w2 ⟨rfl, c2⟩
  have h2 := h1.same c2
  have kK : ∀ w', Chg [] w2 w' → KTab w' := fun w' h => hK.keep0 (h2.chg.trans h)
  have kf : ∀ w', Chg [] w2 w' → RdB w' a n c f := fun w' h => hr.keep0 (h2.chg.trans h)
  have L := fun w' (hc : Chg [] w2 w') => lockL_ld (h2.same hc) (i := 0) rfl hs hm
  have hz := Chg.refl [] w2
  refine ⟨_, rfl, fun h => by simp at h, fun _ => ⟨fun x w' => Chg [] w2 w' ∧ (x = false → n ≤ 8192), ⟨_, (L _ hz).1, fun _ => ⟨hz, fun h => by simp at h⟩, fun _ => ⟨_, _, _, (L _ hz).2.2.2, ?_⟩⟩, ?_⟩⟩
  · obtain ⟨g3, w3, r3, c3', q3, _⟩ := litC bbT [.slice a n c] (by simp [Value.oneCell']) (by simp) w2
    refine ⟨_, _, _, _, r3, (llarge_spec _ 1 1 _ [f] w3 q3 (row2_one (kf _ c3')) (by decide)).mono ?_⟩
    rintro e w4 ⟨rfl, rfl⟩
    refine ⟨_, rfl, c3', fun h => ?_⟩
    simp only [List.flatten_cons, List.flatten_nil, List.append_nil, decide_eq_false_iff_not] at h
    omega
  rintro x w5 ⟨c5, hx⟩
  refine ⟨fun _ => ⟨rfl, h2.chg.trans c5⟩, fun h => ?_⟩
  have hsm := hx h
  refine ⟨_, _, _, (L _ c5).2.2.2, (copy_spec a n c f w5 (kf _ c5) (by omega)).mono ?_⟩
  rintro e w6 ⟨g6, c6, cur6, rfl, hc6, hg6, hm6⟩
  have d6 := c5.trans hc6
  have mk : ∀ w', Chg [] w6 w' → MarkB w' g6 n c6 f cur6 := fun w' h => hm6.keep (h.block g6 (getElem?_eq_some_iff.1 hm6.blk).1 (by simp))
  obtain ⟨l0, l1, l2, _⟩ := L _ d6
  refine ⟨_, _, _, rfl, _, l0, _, l1, _, l2, (lock_spec s salt m w6 (kK _ d6) hs hm).mono ?_⟩
  rintro e w7 ⟨a7, n7, c7, rfl, hf7⟩
  have d7 := d6.trans hf7.1
  obtain ⟨l0, l1, l2, _⟩ := L _ d7
  refine ⟨_, _, _, _, rfl, _, l0, _, l1, _, l2, (rlock_spec s salt m w7 hs hm).mono ?_⟩
  rintro e w8 ⟨a8, n8, c8, rfl, hf8⟩
  have d8 := d7.trans hf8.1
  have t8 := hf7.1.trans hf8.1
  refine ⟨_, _, _, _, rfl, _, (L _ d8).1, (unlock_spec s _ n c6 f w8 (kK _ d8) (mk _ t8).rd).mono ?_⟩
  rintro e w9 ⟨rfl, c9⟩
  have hul := unlockF_len (strL s) f
  obtain ⟨uF, huF⟩ : ∃ q, unlockF (strL s) f = q := ⟨_, rfl⟩
  rw [huF] at hul
  have d9 := d8.trans c9
  obtain ⟨g10, w10, r10, h10⟩ := (St.start w8 |>.same c9).zeroA d32Z
  obtain ⟨w11, r11, h11⟩ := h10.stA (i := 0) (v := bv uF) rfl (d32S _) (by simp) (by simp [hul]) (bv_one _)
  have d11 := d8.trans h11.chg
  rw [huF]
  refine ⟨_, _, rfl, g10, w10, r10, w11, r11, _, (L _ d11).1, _, _, _, (L _ d11).2.2.2, (runlock_spec s a n c f w11 (kf _ d11)).mono ?_⟩
  rintro e w12 ⟨rfl, c12⟩
  rw [huF]
  have h12 := h11.same c12
  obtain ⟨g13, w13, r13, h13⟩ := h12.zeroA d32Z
  obtain ⟨w14, r14, h14⟩ := h13.stA (i := 1) (v := bv uF) rfl (d32S _) (by simp) (by simp [hul]) (bv_one _)
  have x14 := h14.chg
  have d14 := d8.trans x14
  have t14 := t8.trans x14
  have q7 := hf7.rdB.keep0 (hf8.1.trans x14)
  have q8 := hf8.rdB.keep0 x14
  refine ⟨_, _, rfl, g13, w13, r13, w14, r14, _, toStr bS bE sS q7.cells q7.lenB, _, toStr bS bE sS q8.cells q8.lenB, fun _ => (num_spec (lockE (strL s)) w14 (lockE_ne _)).mono ?_, fun h => by simp at h⟩
  rintro e w15 ⟨rfl, rfl⟩
  refine ⟨_, rfl, fun _ => ⟨_, h14.ldA (i := 0) (l := bv uF) rfl (d32A _) (d32S _) (by simp [hul]), _, h14.ldA (i := 1) (l := bv uF) rfl (d32A _) (d32S _) (by simp [hul]), _, eqD _ _ uF hul _, fun _ => (num_spec (unlockE (strL s) f) w15 (unlockE_ne _ _)).mono ?_, fun h => by simp at h⟩, fun h => by simp at h⟩
  rintro e w16 ⟨rfl, rfl⟩
  refine ⟨_, rfl, fun _ => ⟨_, _, _, (L _ d14).2.2.2, (kept_spec _ _ _ _ _ _ _ _ _ (mk _ t14) (kf _ d14) (by omega)).mono ?_⟩, fun h => by simp at h⟩
  rintro e w17 ⟨rfl, rfl⟩
  exact ⟨_, rfl, rfl, h2.chg.trans d14⟩

end Go.Proofs.YtlhhmoljlmmnoaaDoor
