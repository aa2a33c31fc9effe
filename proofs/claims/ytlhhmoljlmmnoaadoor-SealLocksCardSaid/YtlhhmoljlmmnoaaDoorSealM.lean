/- The law SealUnlocks answers true (conditions: the table lies where the program laid it). -/
import Derived.Test.YtlhhmoljlmmnoaaDoorSealK
import Derived.Test.YtlhhmoljlmmnoaaDoorSealC
import Derived.Test.YtlhhmoljlmmnoaaDoorShaS
import Derived.Test.YtlhhmoljlmmnoaaDoorVlaw05
namespace Go.Proofs.YtlhhmoljlmmnoaaDoor
open Go Sx
set_option maxRecDepth 8000

/-- A part of what lies in a block, read as an array. -/
theorem Sx.St.ldSub {w0 w : World} {X : List Nat} {M : List Res} (h : St w0 X w M) {i g o n : Nat} {l : List Value} {T' T : TypeId} (hi : M[i]? = some (.arr g T' l)) (hT : (isAgg T).run Tryd.prog w = .ok true w) (hS : (sizeOf T).run Tryd.prog w = .ok n w) (hl : o + n ≤ l.length) :
    (Instr.loadAt T (.pointer (some ⟨g, o, none⟩))).run Tryd.prog w = .ok (.agg ((l.drop o).take n).toArray) w := by
  have hr : w.rangeAt g o ((l.drop o).take n) := fun j v hj => by
    rw [List.getElem?_take] at hj
    split at hj
    · rw [List.getElem?_drop] at hj
      have := h.cellsA hi (o + j) v hj
      rwa [Nat.zero_add] at this
    · cases hj
  have := loadCells_cells (P := Tryd.prog) hr
  rw [List.length_take, List.length_drop, Nat.min_eq_left (by omega)] at this
  simp [Instr.loadAt, Instr.sureAddr, loadVar, hT, hS, this]

/-- The cells of a Locked. -/
def lockL (s : ByteArray) (salt m : List UInt8) (a : Option Addr) (n c : Nat) : List Value := [.string s] ++ (bv salt ++ (bv m ++ [.slice a n c]))

theorem lockL_ld {w0 w : World} {X : List Nat} {M : List Res} {i g : Nat} {s : ByteArray} {salt m : List UInt8} {a : Option Addr} {n c : Nat} (h : St w0 X w M) (hi : M[i]? = some (.arr g 51 (lockL s salt m a n c))) (hs : salt.length = 16) (hm : m.length = 32) :
    (Instr.loadAt 9 (.pointer (some ⟨g, 0, none⟩))).run Tryd.prog w = .ok (.string s) w ∧ (Instr.loadAt 49 (.pointer (some ⟨g, 1, none⟩))).run Tryd.prog w = .ok (.agg (bv salt).toArray) w ∧
    (Instr.loadAt 22 (.pointer (some ⟨g, 17, none⟩))).run Tryd.prog w = .ok (.agg (bv m).toArray) w ∧ (Instr.loadAt 25 (.pointer (some ⟨g, 49, none⟩))).run Tryd.prog w = .ok (.slice a n c) w := by
  have d1 : (lockL s salt m a n c).drop 1 = bv salt ++ (bv m ++ [.slice a n c]) := rfl
  have d17 : (lockL s salt m a n c).drop 17 = bv m ++ [.slice a n c] := by
    rw [show (17 : Nat) = 1 + 16 from rfl, ← List.drop_drop, d1, List.drop_left' (by simp [hs])]
  have d49 : (lockL s salt m a n c).drop 49 = [.slice a n c] := by
    rw [show (49 : Nat) = 17 + 32 from rfl, ← List.drop_drop, d17, List.drop_left' (by simp [hm])]
  have g49 : (lockL s salt m a n c)[49]? = some (.slice a n c) := by
    have := congrArg (fun l => l[0]?) d49
    simpa using this
  have hl : (lockL s salt m a n c).length = 50 := by simp [lockL, hs, hm]
  refine ⟨h.ldL hi (Tryd.isAgg9 w) rfl rfl, ?_, ?_, h.ldL hi (bsA _) rfl g49⟩
  · have := h.ldSub (T := 49) (o := 1) (n := 16) hi (Tryd.isAgg49 w) (Tryd.sizeOf49 w) (by omega)
    rw [d1, List.take_left' (by simp [hs])] at this
    exact this
  · have := h.ldSub (T := 22) (o := 17) (n := 32) hi (d32A _) (d32S _) (by omega)
    rw [d17, List.take_left' (by simp [hm])] at this
    exact this

theorem lockF_ok {pw salt m : List UInt8} (hok : okPw pw = true) (hs : salt.length = 16) (hm : m.length = 32) : (lockF pw salt m).length = 101 ∧ unlockO pw (lockF pw salt m) = some m := by
  have hl8 := sealF_len (underF pw salt) 1 salt m (by omega)
  obtain ⟨b, hb⟩ : ∃ b, sealF (underF pw salt) 1 salt m = b := ⟨_, rfl⟩
  have ho := open_sealF (underF pw salt) 1 salt m (by omega)
  rw [hb] at hl8 ho
  have hf : lockF pw salt m = amph1L ++ (salt ++ b) := by rw [lockF, if_pos hok, hb, List.append_assoc]
  have h8 : amph1L.length = 8 := rfl
  have hlen : (lockF pw salt m).length = 101 := by rw [hf]; simp [h8, hs, hl8, hm]
  refine ⟨hlen, ?_⟩
  have t8 : (lockF pw salt m).take 8 = amph1L := by rw [hf]; exact List.take_left' h8
  have dd8 : (lockF pw salt m).drop 8 = salt ++ b := by rw [hf]; exact List.drop_left' h8
  have s16 : ((lockF pw salt m).drop 8).take 16 = salt := by rw [dd8]; exact List.take_left' hs
  have d24 : (lockF pw salt m).drop 24 = b := by
    rw [show (24 : Nat) = 8 + 16 from rfl, ← List.drop_drop, dd8]; exact List.drop_left' hs
  rw [unlockO, if_pos ⟨hok, hlen, t8⟩, s16, d24, ho]

theorem unlock_long {pw file : List UInt8} (hok : okPw pw = true) (h : file.length ≠ 101) : unlockF pw file = List.replicate 32 0 ∧ unlockE pw file = some 10 := by
  have : unlockO pw file = none := by rw [unlockO, if_neg (fun q => h q.2.1)]
  rw [unlockF, unlockE, this, hok]
  exact ⟨rfl, rfl⟩

theorem sealUnlocks_walk (s : ByteArray) (salt m : List UInt8) (a : Option Addr) (n c : Nat) (f : List UInt8) (x : Int) (w : World) (hK : KTab w) (hs : salt.length = 16) (hm : m.length = 32) (hr : RdB w a n c f) :
    Calls Tryd.prog 8 #[.agg (lockL s salt m a n c).toArray, .int .i64 x] w fun e w' => e = .returned (.bool true) ∧ Chg [] w w' := by
  apply amphoralaw05_SealUnlocks_vc
  obtain ⟨mI, hI⟩ := eI
  obtain ⟨g1, w1, r1, h1⟩ := (St.start w).boxA 51 (lockL s salt m a n c)
  refine ⟨g1, w1, r1, (lalive_spec w1 (hK.keep0 h1.chg)).mono ?_⟩
  rintro e w2 ⟨rfl, c2⟩
  have h2 := h1.same c2
  have kK : ∀ w', Chg [] w2 w' → KTab w' := fun w' h => hK.keep0 (h2.chg.trans h)
  have L := fun w' (hc : Chg [] w2 w') => lockL_ld (h2.same hc) (i := 0) rfl hs hm
  have hz := Chg.refl [] w2
  obtain ⟨l0, l1, l2, l3⟩ := L _ hz
  refine ⟨_, rfl, fun h => by simp at h, fun _ => ⟨_, l0, _, l1, _, l2, (lock_spec s salt m w2 (kK _ hz) hs hm).mono ?_⟩⟩
  rintro e w3 ⟨a3, n3, c3, rfl, hf3⟩
  have d3 := hf3.1
  refine ⟨_, _, _, _, rfl, fun y w' => y = (!okPw (strL s)) ∧ w' = w3, ⟨_, (L _ d3).1, fun h => ⟨?_, rfl⟩, fun h => ⟨_, (L _ d3).1, ?_, rfl⟩⟩, ?_⟩
  · rw [strL_size] at h
    have : (strL s).length = 0 := by have := of_decide_eq_true h; omega
    simp [okPw, this]
  · rw [strL_size] at h ⊢
    have h0 := of_decide_eq_false h
    have key : ∀ k : Nat, ¬ (k : Int) < 1 → decide ((k : Int) > 1024) = !decide (1 ≤ k ∧ k ≤ 1024) := fun k hk => by rw [Bool.eq_iff_iff]; simp; omega
    rw [okPw]
    exact key _ h0
  rintro y w4 ⟨rfl, rfl⟩
  cases hok : okPw (strL s) with
  | false =>
    refine ⟨fun _ => ⟨_, (L _ d3).1, _, _, _, (L _ d3).2.2.2, (unlock_spec s a n c f w4 (kK _ d3) (hr.keep0 (h2.chg.trans d3))).mono ?_⟩, fun h => by simp at h⟩
    rintro e w5 ⟨rfl, c5⟩
    obtain ⟨g6, w6, r6, h6⟩ := (h2.same (d3.trans c5)).zeroA d32Z
    obtain ⟨w7, r7, h7⟩ := h6.stA (i := 1) (v := bv (unlockF (strL s) f)) rfl (d32S _) (by simp) (by simp [unlockF_len]) (bv_one _)
    have hE : lockE (strL s) = some 28 := by rw [lockE, hok]; rfl
    have hU : unlockE (strL s) f = some 28 := by rw [unlockE, hok]; rfl
    have hn : n3 = 0 := by have := hf3.2.1; rw [lockF, hok] at this; simpa using this.symm
    refine ⟨_, _, rfl, g6, w6, r6, w7, r7, _, eqlS_err hI _ 28 _ _ _, fun _ => ⟨_, eqlS_err hI _ 28 _ _ _, ?_, h7.chg⟩, fun h => ?_⟩
    · rw [hU]; rfl
    · rw [hE, hn] at h; simp at h
  | true =>
    obtain ⟨hfl, hfo⟩ := lockF_ok hok hs hm
    obtain ⟨file, hfile⟩ : ∃ q, lockF (strL s) salt m = q := ⟨_, rfl⟩
    rw [hfile] at hfl hfo hf3
    have hn : n3 = 101 := by rw [← hf3.2.1]; exact hfl
    subst hn
    have hE : lockE (strL s) = none := by rw [lockE, hok]; rfl
    have hU : unlockE (strL s) file = none := by rw [unlockE, hok, hfo]; rfl
    have hUF : unlockF (strL s) file = m := by rw [unlockF, hfo]; rfl
    refine ⟨fun h => by simp at h, fun _ => ⟨_, (L _ d3).1, (unlock_spec s a3 101 c3 file w4 (kK _ d3) hf3.rdB).mono ?_⟩⟩
    rintro e w5 ⟨rfl, c5⟩
    have d5 := d3.trans c5
    rw [hUF, hU]
    obtain ⟨g6, w6, r6, h6⟩ := (h2.same d5).zeroA d32Z
    obtain ⟨w7, r7, h7⟩ := h6.stA (i := 1) (v := bv m) rfl (d32S _) (by simp) (by simp [hm]) (bv_one _)
    have h7' := ((St.start w5).zeroA d32Z)
    have x7 : Chg [] w5 w7 := by
      obtain ⟨g6', w6', r6', h6'⟩ := (St.start w5).zeroA d32Z
      have e := r6.symm.trans r6'
      simp only [Result.ok.injEq, Value.pointer.injEq, Option.some.injEq, Addr.mk.injEq, and_true] at e
      obtain ⟨rfl, rfl⟩ := e
      obtain ⟨w7', r7', h7'⟩ := h6'.stA (i := 0) (v := bv m) rfl (d32S _) (by simp) (by simp [hm]) (bv_one _)
      have e := r7.symm.trans r7'
      simp only [Result.ok.injEq, true_and] at e
      subst e
      exact h7'.chg
    have d7 := d5.trans x7
    refine ⟨_, _, rfl, g6, w6, r6, w7, r7, fun y w' => y = false ∧ w' = w7, ⟨_, neqS_nil hI _ _ _, fun h => by rw [hE] at h; simp at h, fun _ => ⟨_, neqS_nil hI none _ _, fun h => by simp at h, fun _ => ⟨_, h7.ldA (i := 1) (l := bv m) rfl (d32A _) (d32S _) (by simp [hm]), _, (L _ d7).2.2.1, _, neD _ _ m hm _, ?_, rfl⟩⟩⟩, ?_⟩
    · simp
    rintro y w8 ⟨rfl, rfl⟩
    refine ⟨fun h => by simp at h, fun _ => ?_⟩
    have tdr := Chg.drew [] w8
    have q0 : ∀ w', Chg [] w8.drew w' → RdB w' a3 101 c3 file := fun w' h => hf3.rdB.keep0 ((c5.trans x7).trans (tdr.trans h))
    have hle := hf3.rdB.le
    have uu : ∀ w', Chg [] w8.drew w' → Chg [] w2 w' := fun w' h => d7.trans (tdr.trans h)
    have hz8 := Chg.refl [] w8.drew
    refine ⟨fun h => ?_, fun h => ?_⟩
    · have hx : 0 ≤ x ∧ x < 101 := by simpa using h
      have hk : x.toNat < 101 := by omega
      have q1 := rdB_upto (k := x.toNat) (q0 _ hz8) (by omega)
      obtain ⟨u1, u2⟩ := unlock_long (file := file.take x.toNat) hok (by simp; omega)
      refine ⟨fun w' => Chg [] w8.drew w', hz8, by omega, by omega, _, fun w' h => (L w' (uu _ h)).1, (unlock_spec s a3 x.toNat c3 (file.take x.toNat) w8.drew (kK _ (uu _ hz8)) q1).mono ?_⟩
      rintro e w9 ⟨rfl, c9⟩
      rw [u1, u2]
      obtain ⟨w10, r10, h10⟩ := (h7.drew.same c9).stA (i := 1) (v := bv (List.replicate 32 0)) rfl (d32S _) (by simp [hm]) (by simp) (bv_one _)
      exact ⟨_, _, rfl, fun w' => Chg [] w8.drew w', fun _ h => h, c9, w10, r10, _, eqlS_err hI _ 10 _ _ _, fun _ => ⟨_, h10.ldA (i := 1) (l := bv (List.replicate 32 0)) rfl (d32A _) (d32S _) (by simp), _, d32Bk _, _, eqD _ _ _ (by simp) _, rfl, h10.chg⟩, fun h => by simp at h⟩
    · obtain ⟨u1, u2⟩ := unlock_long (file := file ++ [0]) hok (by simp [hfl])
      have S0 := St.start w8.drew
      obtain ⟨gA, wA, rA, hA⟩ := S0.lit bT [] (by simp) (by simp)
      have hA : St w8.drew [] wA [.row 5 1 (.slice (some ⟨gA, 0, none⟩) 0 0) 0 (bv [])] := hA
      obtain ⟨vB, cB, wB, rB, hB⟩ := hA.appendB (i := 0) (xs := []) rfl (q0 _ hA.chg) (by omega)
      obtain ⟨gC, wC, rC, cC, qC⟩ := litK 0 wB
      have hC := hB.same cC
      obtain ⟨gD, wD, rD, hD⟩ := hA.lit bT [.int .u8 ((0 : UInt8).toNat : Int)] (by simp [Value.oneCell']) (by simp)
      have hD : St w8.drew [] wD [.row 5 1 (.slice (some ⟨gA, 0, none⟩) 0 0) 0 (bv []), .row 5 1 (.slice (some ⟨gD, 0, none⟩) 1 1) 1 (bv [0])] := hD
      obtain ⟨vE, cE, wE, rE, hE2⟩ := hD.appendB (i := 0) (xs := []) rfl (q0 _ hD.chg) (by omega)
      obtain ⟨gF, wF, rF, hF⟩ := S0.lit bT [.int .u8 ((0 : UInt8).toNat : Int)] (by simp [Value.oneCell']) (by simp)
      have hF : St w8.drew [] wF [.row 5 1 (.slice (some ⟨gF, 0, none⟩) 1 1) 1 (bv [0])] := hF
      obtain ⟨gG, wG, rG, hG⟩ := hF.lit bT [] (by simp) (by simp)
      have hG : St w8.drew [] wG [.row 5 1 (.slice (some ⟨gF, 0, none⟩) 1 1) 1 (bv [0]), .row 5 1 (.slice (some ⟨gG, 0, none⟩) 0 0) 0 (bv [])] := hG
      obtain ⟨vH, cH, wH, rH, hH⟩ := hG.appendB (i := 1) (xs := []) rfl (q0 _ hG.chg) (by omega)
      have qDE : RdB wE (some ⟨gD, 0, none⟩) 1 1 [0] := hE2.rd (i := 1) rfl
      have qFH : RdB wH (some ⟨gF, 0, none⟩) 1 1 [0] := hH.rd (i := 0) rfl
      refine ⟨fun w' => Chg [] w8.drew w', hz8, _, fun w' h => (L w' (uu _ h)).1, ⟨_, _, _, _, rA, fun w' => Chg [] w8.drew w', fun _ h => h, hA.chg, ⟨_, _, _, _, rB, fun w' => Chg [] w8.drew w', fun _ h => h, hB.chg, _, _, _, _, rC, fun w' => Chg [] w8.drew w', fun _ h => h, hC.chg, ?o1⟩,
        ⟨_, _, _, _, rD, fun w' => Chg [] w8.drew w', fun _ h => h, hD.chg, _, _, _, _, rE, fun w' => Chg [] w8.drew w', fun _ h => h, hE2.chg, ?o2⟩⟩,
        ⟨_, _, _, _, rF, fun w' => Chg [] w8.drew w', fun _ h => h, hF.chg, _, _, _, _, rG, fun w' => Chg [] w8.drew w', fun _ h => h, hG.chg, _, _, _, _, rH, fun w' => Chg [] w8.drew w', fun _ h => h, hH.chg, ?o3⟩⟩
      case' o1 =>
        have hX := hC
        have qX := qC
      case' o2 =>
        have hX := hE2
        have qX := qDE
      case' o3 =>
        have hX := hH.tail
        have qX := qFH
      all_goals
        obtain ⟨vY, cY, wY, rY, hY⟩ := hX.appendB (i := 0) rfl qX (by omega)
        have qY : RdB wY vY (0 + 101 + 1) cY (file ++ [0]) := hY.rd (i := 0) rfl
        refine ⟨_, _, _, _, rY, fun w' => Chg [] w8.drew w', fun _ h => h, hY.chg, (unlock_spec s vY (0 + 101 + 1) cY (file ++ [0]) wY (kK _ (uu _ hY.chg)) qY).mono ?_⟩
        rintro e wZ ⟨rfl, cZ⟩
        rw [u1, u2]
        exact ⟨_, _, rfl, fun w' => Chg [] w8.drew w', fun _ h => h, hY.chg.trans cZ, _, eqlS_err hI _ 10 _ _ _, rfl, h2.chg.trans (uu _ (hY.chg.trans cZ))⟩

end Go.Proofs.YtlhhmoljlmmnoaaDoor
