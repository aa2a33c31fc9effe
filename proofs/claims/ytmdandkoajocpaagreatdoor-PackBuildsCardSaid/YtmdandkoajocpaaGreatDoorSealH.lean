/- Contracts of the reference of chapter 5: derived, FromMaster, Id, Seal (conditions: those that each theorem names). -/
import Derived.Test.YtmdandkoajocpaaGreatDoorSealA
import Derived.Test.YtmdandkoajocpaaGreatDoorWireB
import Derived.Test.YtmdandkoajocpaaGreatDoorShaT
import Derived.Test.YtmdandkoajocpaaGreatDoorEqS
import Derived.Test.YtmdandkoajocpaaGreatDoorVseal
namespace Go.Proofs.YtmdandkoajocpaaGreatDoor
open Go Sx
set_option maxRecDepth 8000

theorem d32B (w : World) : (Instr.build 22 #[]).run Tryz.prog w = .ok (.agg (bv (List.replicate 32 0)).toArray) w := by
  have := build_arr (P := Tryz.prog) (w := w) (T := 22) (d32Z w) Tryz.underlying22 (sB1 w) [] (by simp) (by simp)
  simpa using this

theorem rderived_spec (a0 : Option Addr) (n0 c0 : Nat) (salt : List UInt8) (a1 : Option Addr) (n1 c1 : Nat) (secret : List UInt8) (s : ByteArray) (info : List UInt8) (w : World) (hs : s = ⟨info.toArray⟩) (hr0 : RdB w a0 n0 c0 salt) (hr1 : RdB w a1 n1 c1 secret) (hb : n0 + n1 + info.length ≤ 1099511627776) :
    Calls Tryz.prog 37 #[.slice a0 n0 c0, .slice a1 n1 c1, .string s] w fun e w' => e = .returned (.agg (bv (der32 salt secret info)).toArray) ∧ Chg [] w w' := by
  apply amphoraref05_derived_vc
  obtain ⟨D, hD⟩ : ∃ D, der32 salt secret info = D := ⟨_, rfl⟩
  have hDl : D.length = 32 := by rw [← hD]; simp
  obtain ⟨g6, w1, r1, h1⟩ := (St.start w).zeroA d32Z
  obtain ⟨g7, w2, r2, h2⟩ := h1.zeroA d32Z
  obtain ⟨w3, r3, h3⟩ := h2.stA (i := 1) (v := bv (mixG D (List.replicate 32 0) 0)) rfl (d32S _) (by simp) (by rw [mixG_zero]; simp) (bv_one _)
  rw [mixG_zero] at r3
  obtain ⟨g4, c4, w4, r4, hc4, hr4, _⟩ := toBytes s info hs w3
  have h4 := h3.same hc4
  refine ⟨g6, w1, r1, _, d32B _, g7, w2, r2, w3, r3, _, _, _, _, r4, (rderive_specN a0 n0 c0 salt a1 n1 c1 secret _ info.length c4 info 32 w4 (h4.rd1 hr0) (h4.rd1 hr1) hr4 hb).mono ?_⟩
  rintro e w5 (⟨hx, _⟩ | ⟨_, _, a, n, c, rfl, hc5, hr5, hf5⟩)
  · omega
  have hd : deriveF salt secret info (Int.toNat 32) = der32 salt secret info := rfl
  rw [hd, hD] at hr5
  rw [hD]
  have hn : n = 32 := by rw [← hr5.lenB, hDl]
  subst hn
  have h5 := h4.same hc5
  have hg7 : g7 < w4.heap.size := Res.lt (h4.holds 1 _ rfl) g7 (by simp [Res.fp])
  refine ⟨_, _, _, _, rfl, fun x w' => ∃ i : Nat, x = (i : Int) ∧ i ≤ 32 ∧ RdB w' a 32 c D ∧ St w [] w' [.arr g6 22 (bv (List.replicate 32 0)), .arr g7 22 (bv (mixG D (List.replicate 32 0) i))], fun x _ => 32 - x.toNat, ⟨0, rfl, by omega, hr5, h5⟩, ?_⟩
  rintro x w6 ⟨i, rfl, hi, hr6, h6⟩
  refine ⟨fun h => ?_, fun h => ?_⟩
  · have hi' : i < 32 := by simp at h; omega
    refine ix0 hr6.cells hDl i (by omega) fun bl o ha q => ⟨bl, o, ha, by omega, by omega, _, q w6 hr6.cells, by omega, by omega, ?_⟩
    have hbi : D[i]? = some (D.getD i 0) := by
      rw [List.getD, List.getElem?_eq_getElem (by omega)]
      rfl
    have hml : (mixG D (List.replicate 32 (0 : UInt8)) i).length = 32 := by simp [mixG]; omega
    have h6s := h6.self
    obtain ⟨w7, r7, h7⟩ := h6.stB (i := 1) (o := i) (T := 5) (b := D.getD i 0) rfl (sB1 _) (show 0 + Int.toNat (i : Int) * 1 = i by omega) (by omega)
    obtain ⟨w7', r7', h7'⟩ := (St.ofBlk (h6.holds 1 _ rfl)).stB (i := 0) (o := i) (T := 5) (l := mixG D (List.replicate 32 (0 : UInt8)) i) (b := D.getD i 0) rfl (sB1 _) (show 0 + Int.toNat (i : Int) * 1 = i by omega) (by omega)
    have ew : w7' = w7 := by
      have := r7'.symm.trans r7
      simp only [Result.ok.injEq, true_and] at this
      exact this
    rw [mixG_set (by rw [hDl, List.length_replicate]) hbi] at h7
    refine ⟨w7, r7, ⟨i + 1, wrap_succ hi' (by omega), by omega, ?_, h7⟩, mu_succ hi' (by omega)⟩
    rw [ew] at h7'
    refine hr6.keep h7'.chg fun ad e => ?_
    have := hf5 ad e
    simp
    omega
  · have hi' : i = 32 := by simp at h; omega
    have f1 : mixG D (List.replicate 32 (0 : UInt8)) i = D := by
      have := mixG_all (x := D) (l := List.replicate 32 (0 : UInt8)) (by rw [hDl, List.length_replicate])
      rw [List.length_replicate] at this; rw [hi', this]
    rw [f1] at h6
    obtain ⟨w8, r8, h8⟩ := h6.stA (i := 0) (v := bv D) rfl (d32S _) (by simp) (by simp [hDl]) (bv_one _)
    exact ⟨_, h6.ldA (i := 1) rfl (d32A _) (d32S _) (by simp [hDl]), w8, r8, _, h8.ldVarA (i := 0) (l := bv D) rfl (d32A _) (d32S _) (by simp [hDl]), rfl, h8.chg⟩

theorem rfromMaster_spec (m : List UInt8) (w : World) (hm : m.length = 32) :
    Calls Tryz.prog 9 #[.agg (bv m).toArray] w fun e w' => e = .returned (.agg (bv (masterF m)).toArray) ∧ Chg [] w w' := by
  apply amphoraref05_FromMaster_vc
  obtain ⟨g1, w1, r1, h1⟩ := (St.start w).boxA 22 (bv m)
  obtain ⟨g2, w2, r2, h2⟩ := h1.zeroA kyZ
  obtain ⟨g3, w3, w4, r3, r4, c4, hr4⟩ := litMark amphL (by decide) w2
  have h4 := (h2.same c4).drew
  have hd := Chg.drew [] w4
  have dd : ∀ w' (i : List UInt8) (s : ByteArray), s = ⟨i.toArray⟩ → i.length ≤ 1000 → Chg [] w4.drew w' → Calls Tryz.prog 37 #[.slice (some ⟨g3, 0, none⟩) 7 7, .slice (some ⟨g1, 0, none⟩) 32 32, .string s] w' fun e w'' => e = .returned (.agg (bv (der32 amphL m i)).toArray) ∧ Chg [] w' w'' := fun w' i s hs hi hc =>
    rderived_spec _ 7 7 amphL _ 32 32 m s i w' hs (hr4.keep0 (hd.trans hc)) ((h4.same hc).rdA (i := 0) rfl (by simp [hm])) (by omega)
  refine ⟨g1, w1, r1, g2, w2, r2, _, _, _, _, r3, _, _, _, _, r4, fun w' => Chg [] w4.drew w', Chg.refl _ _, by omega, by omega, by omega, by omega, by omega, by omega, (dd _ [99, 105, 112, 104, 101, 114] _ rfl (by decide) (Chg.refl _ _)).mono ?_⟩
  rintro e w5 ⟨rfl, c5⟩
  refine ⟨_, rfl, fun w' => Chg [] w4.drew w', fun _ h => h, c5, (dd _ [109, 97, 99] _ rfl (by decide) c5).mono ?_⟩
  rintro e w6 ⟨rfl, c6⟩
  have d6 := c5.trans c6
  refine ⟨_, rfl, fun w' => Chg [] w4.drew w', fun _ h => h, d6, (dd _ [110, 97, 109, 101] _ rfl (by decide) d6).mono ?_⟩
  rintro e w7 ⟨rfl, c7⟩
  have d7 := d6.trans c7
  obtain ⟨w8, r8, h8⟩ := (h4.same d7).stA (i := 1) (v := bv (masterF m)) rfl (kyS _) (by simp) (by simp) (bv_one _)
  exact ⟨_, rfl, fun w' => Chg [] w4.drew w', fun _ h => h, d7, _, fun w' _ => keys_build (der32_len _ _ _) (der32_len _ _ _) (der32_len _ _ _) w', w8, r8, _, h8.ldVarA (i := 1) (l := bv (masterF m)) rfl (kyA _) (kyS _) (by simp), rfl, h8.chg⟩

end Go.Proofs.YtmdandkoajocpaaGreatDoor
