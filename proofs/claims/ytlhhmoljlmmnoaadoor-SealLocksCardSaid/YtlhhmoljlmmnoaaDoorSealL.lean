/- Contracts of the reference of chapter 5: under, Lock, Unlock (conditions: those that each theorem names). -/
import Derived.Test.YtlhhmoljlmmnoaaDoorSealI
import Derived.Test.YtlhhmoljlmmnoaaDoorSealK
namespace Go.Proofs.YtlhhmoljlmmnoaaDoor
open Go Sx
set_option maxRecDepth 8000

theorem runder_spec (s : ByteArray) (a : Option Addr) (n c : Nat) (salt : List UInt8) (w : World) (hr : RdB w a n c salt) (hb : n + (strL s).length ≤ 1000000000000) :
    Calls Tryd.prog 42 #[.string s, .slice a n c] w fun e w' => e = .returned (.agg (bv (underF (strL s) salt)).toArray) ∧ Chg [] w w' := by
  apply amphoraref05_under_vc
  obtain ⟨g1, w1, r1, h1⟩ := (St.start w).zeroA kyZ
  obtain ⟨g2, c2, w2, r2, hc2, hr2, _⟩ := toBytes s (strL s) (strL_eq s) w1
  have h2 := h1.same hc2
  refine ⟨g1, w1, r1, _, _, _, _, r2, (rderived_spec a n c salt _ _ c2 (strL s) _ [107, 101, 121] w2 rfl (h2.rd1 hr) hr2 (by simp; omega)).mono ?_⟩
  rintro e w3 ⟨rfl, c3⟩
  have h3 := h2.same c3
  refine ⟨_, rfl, (rfromMaster_spec _ w3 (by simp)).mono ?_⟩
  rintro e w4 ⟨rfl, c4⟩
  obtain ⟨w5, r5, h5⟩ := (h3.same c4).stA (i := 0) (v := bv (underF (strL s) salt)) rfl (kyS _) (by simp) (by simp) (bv_one _)
  exact ⟨_, rfl, w5, r5, _, h5.ldVarA (i := 0) (l := bv (underF (strL s) salt)) rfl (kyA _) (kyS _) (by simp), rfl, h5.chg⟩

theorem okPw_ref (s : ByteArray) : ((decide ((s.size : Int) < (1 : Int))) || (decide ((s.size : Int) > (1024 : Int)))) = !okPw (strL s) := by
  have key : ∀ n : Nat, (decide ((n : Int) < 1) || decide ((n : Int) > 1024)) = !decide (1 ≤ n ∧ n ≤ 1024) := fun n => by rw [Bool.eq_iff_iff]; simp; omega
  rw [strL_size, okPw, key]

theorem rlock_spec (s : ByteArray) (salt m : List UInt8) (w : World) (hs : salt.length = 16) (hm : m.length = 32) :
    Calls Tryd.prog 23 #[.string s, .agg (bv salt).toArray, .agg (bv m).toArray] w fun e w' => ∃ a n c, e = .returned (.tuple #[.slice a n c, .int .i64 ((lockE (strL s)).getD 0)]) ∧ FreshB w w' a n c (lockF (strL s) salt m) := by
  apply amphoraref05_Lock_vc
  obtain ⟨g1, w1, r1, h1⟩ := (St.start w).boxA 49 (bv salt)
  obtain ⟨g2, w2, r2, h2⟩ := h1.boxA 22 (bv m)
  refine ⟨g1, w1, r1, g2, w2, r2, ?_⟩
  rw [okPw_ref]
  cases hok : okPw (strL s) with
  | false =>
    refine ⟨fun _ => ⟨none, 0, 0, by rw [lockE, hok]; rfl, ?_⟩, fun h => by simp at h⟩
    rw [lockF, hok]
    exact ⟨h2.chg, rfl, World.ownsRow_nil _ _ _ _⟩
  | true =>
    have hlen : 1 ≤ (strL s).length ∧ (strL s).length ≤ 1024 := by simpa [okPw] using hok
    refine ⟨fun h => by simp at h, fun _ => ?_⟩
    obtain ⟨g3, w4, w5, r4, r5, c5, q5⟩ := litMark amph1L (by decide) w2
    have h5 := h2.same c5
    obtain ⟨va, vc, w6, r6, h6⟩ := h5.appendRdB q5 (by simp) (h5.rdA (i := 0) (n := 16) rfl (by simp [hs])) (by decide) (by decide)
    have h6d := h6.drew
    obtain ⟨K, hKK⟩ : ∃ K, underF (strL s) salt = K := ⟨_, rfl⟩
    have hk : K.length = 96 := by rw [← hKK]; simp
    have qs : ∀ w', Chg [] w6.drew w' → RdB w' (some ⟨g1, 0, none⟩) 16 16 salt := fun w' h => (h6d.same h).rdA (i := 0) rfl (by simp [hs])
    have qm : ∀ w', Chg [] w6.drew w' → RdB w' (some ⟨g2, 0, none⟩) 32 32 m := fun w' h => (h6d.same h).rdA (i := 1) rfl (by simp [hm])
    have hu := runder_spec s _ 16 16 salt w6.drew (qs _ (Chg.refl _ _)) (by omega)
    rw [hKK] at hu
    refine ⟨_, _, _, _, r4, _, _, _, _, r5, by omega, by omega, _, _, _, _, r6, by omega, by omega, by omega, by omega, by omega, by omega, hu.mono ?_⟩
    rintro e w7 ⟨rfl, c7⟩
    have h7 := h6d.same c7
    refine ⟨_, rfl, (rseal_spec K 1 _ 16 16 salt _ 32 32 m w7 hk (qs _ c7) (qm _ c7) (by omega)).mono ?_⟩
    rintro e w8 ⟨a8, n8, c8, rfl, hf8⟩
    have h8 : St w [] w8 [.arr g1 49 (bv salt), .arr g2 22 (bv m), .row 5 1 (.slice va (8 + 16) vc) (8 + 16) (bv (amph1L ++ salt)), .row 5 1 (.slice a8 n8 c8) n8 (bv (sealF K 1 salt m))] := hf8.add h7
    have e8 := hf8.2.1
    have hl8 := sealF_len K 1 salt m (by omega)
    obtain ⟨vb, vd, w9, r9, h9⟩ := h8.appendB (i := 2) rfl (h8.rd (i := 3) (xs := bv (sealF K 1 salt m)) rfl) (by omega)
    refine ⟨_, _, _, rfl, _, _, _, _, r9, _, _, _, by rw [lockE, hok]; rfl, ?_⟩
    rw [lockF, if_pos hok, hKK]
    exact h9.freshB (i := 2) rfl

theorem runlock_spec (s : ByteArray) (a : Option Addr) (n c : Nat) (file : List UInt8) (w : World) (hr : RdB w a n c file) :
    Calls Tryd.prog 25 #[.string s, .slice a n c] w fun e w' => e = .returned (.tuple #[.agg (bv (unlockF (strL s) file)).toArray, .int .i64 ((unlockE (strL s) file).getD 0)]) ∧ Chg [] w w' := by
  have hl := hr.lenB
  have hle := hr.le
  apply amphoraref05_Unlock_vc
  obtain ⟨g1, w1, r1, h1⟩ := (St.start w).zeroA d32Z
  obtain ⟨g2, w2, r2, h2⟩ := h1.zeroA d32Z
  obtain ⟨w3, r3, h3⟩ := h2.stA (i := 1) (v := bv (List.replicate 32 0)) rfl (d32S _) (by simp) (by simp) (bv_one _)
  have fin : ∀ w' (D : List UInt8), D.length = 32 → St w [] w' [.arr g1 22 (bv (List.replicate 32 0)), .arr g2 22 (bv D)] → ∃ w4, (Instr.storeAt 22 (.pointer (some ⟨g1, 0, none⟩)) (.agg (bv D).toArray)).run Tryd.prog w' = .ok () w4 ∧ (loadVar 22 ⟨g1, 0, none⟩).run Tryd.prog w4 = .ok (.agg (bv D).toArray) w4 ∧ Chg [] w w4 := fun w' D hD h => by
    obtain ⟨w4, r4, h4⟩ := h.stA (i := 0) (v := bv D) rfl (d32S _) (by simp) (by simp [hD]) (bv_one _)
    exact ⟨w4, r4, h4.ldVarA (i := 0) (l := bv D) rfl (d32A _) (d32S _) (by simp [hD]), h4.chg⟩
  refine ⟨g1, w1, r1, _, d32Bk _, g2, w2, r2, w3, r3, ?_⟩
  rw [okPw_ref]
  have ldz := h3.ldA (i := 1) (T := 22) (l := bv (List.replicate 32 0)) rfl (d32A _) (d32S _) (by simp)
  cases hok : okPw (strL s) with
  | false =>
    obtain ⟨w4, r4, l4, c4⟩ := fin w3 (List.replicate 32 0) (by simp) h3
    refine ⟨fun _ => ⟨_, ldz, w4, r4, _, l4, ?_, c4⟩, fun h => by simp at h⟩
    rw [unlockF, unlockO, if_neg (by simp [hok]), unlockE, hok]
    rfl
  | true =>
    have hlen : 1 ≤ (strL s).length ∧ (strL s).length ≤ 1024 := by simpa [okPw] using hok
    refine ⟨fun h => by simp at h, fun _ => ⟨fun x w' => x = decide (¬ (file.length = 101 ∧ file.take 8 = amph1L)) ∧ w' = w3, ⟨fun h => ?_, fun h => ?_⟩, ?_⟩⟩
    · have : ¬ file.length = 101 := by simp at h; omega
      exact ⟨by simp [this], rfl⟩
    · have h101 : file.length = 101 := by simp at h; omega
      have q8 := rdB_upto (k := 8) (h3.rd1 hr) (by omega)
      refine ⟨by omega, by omega, _, toStr bS bE sS q8.cells q8.lenB, ?_, rfl⟩
      have := bytes_beq (file.take 8) amph1L
      rw [show (ByteArray.mk #[97, 109, 112, 104, 111, 114, 97, 49]) = ByteArray.mk amph1L.toArray from rfl, this]
      simp [h101]
    rintro x w4 ⟨rfl, rfl⟩
    refine ⟨fun h => ?_, fun h => ?_⟩
    · have h' : ¬ (file.length = 101 ∧ file.take 8 = amph1L) := of_decide_eq_true h
      obtain ⟨w5, r5, l5, c5⟩ := fin w4 (List.replicate 32 0) (by simp) h3
      refine ⟨_, ldz, w5, r5, _, l5, ?_, c5⟩
      have ho : unlockO (strL s) file = none := by rw [unlockO, if_neg (fun q => h' q.2)]
      rw [unlockF, unlockE, ho, hok]
      rfl
    have h' : file.length = 101 ∧ file.take 8 = amph1L := Decidable.not_not.1 (of_decide_eq_false h)
    clear h
    have hn : n = 101 := by omega
    subst hn
    obtain ⟨salt, hsalt⟩ : ∃ x, (file.drop 8).take 16 = x := ⟨_, rfl⟩
    obtain ⟨blob, hblob⟩ : ∃ x, file.drop 24 = x := ⟨_, rfl⟩
    have ho : unlockO (strL s) file = openF (underF (strL s) salt) 1 salt blob := by rw [unlockO, if_pos ⟨hok, h'⟩, hsalt, hblob]
    have hw := Chg.drew [] w4
    have q := (h3.same hw).rd1 hr
    have qs : ∀ t, SubA 1 a 8 c t → RdB w4.drew t 16 (c - 8) salt := fun t27 hs27 => by
      have := q.sub hs27 (hh := 24) (by omega) (by omega) (by omega) (Nat.le_refl _)
      have e1 : ((bv file).drop (8 * 1)).take ((24 - 8) * 1) = bv salt := by rw [← hsalt, bv_take, bv_drop]
      rw [e1] at this
      exact this
    refine ⟨by omega, by omega, by omega, fun t27 hs27 => ⟨by omega, by omega, by omega, fun t36 hs36 => ⟨by omega, by omega, by omega, fun t29 hs29 => ?_⟩⟩⟩
    have q1 := qs _ hs27
    have q3 := qs _ hs36
    have q2 : RdB w4.drew t29 (101 - 24) (c - 24) blob := by
      have := q.sub hs29 (hh := 101) (by omega) (by omega) (by omega) (Nat.le_refl _)
      have e1 : ((bv file).drop (24 * 1)).take ((101 - 24) * 1) = bv blob := by rw [← hblob, bv_drop, List.take_of_length_le (by simp; omega)]
      rw [e1] at this
      exact this
    obtain ⟨K, hKK⟩ : ∃ K, underF (strL s) salt = K := ⟨_, rfl⟩
    have hk : K.length = 96 := by rw [← hKK]; simp
    have hu := runder_spec s _ 16 _ salt w4.drew q1 (by omega)
    rw [hKK] at hu ho
    refine hu.mono ?_
    rintro e w5 ⟨rfl, c5⟩
    have d5 := hw.trans c5
    refine ⟨_, rfl, (ropen_specN K 1 t36 16 (c - 8) salt t29 (101 - 24) (c - 24) blob w5 hk (q3.keep0 c5) (q2.keep0 c5) (by omega)).mono ?_⟩
    rintro e w6 ⟨a6, n6, c6, rfl, hc6, hr6, hb6⟩
    obtain ⟨p, hp⟩ : ∃ p, (openF K 1 salt blob).getD [] = p := ⟨_, rfl⟩
    rw [hp] at hr6
    have hbl := q2.lenB
    have hpl : p.length = 32 ∨ p = [] := by
      cases hop : openF K 1 salt blob with
      | none => right; rw [← hp, hop]; rfl
      | some x => left; have := openF_len hop (by omega); rw [← hp, hop]; simp; omega
    have hp6 := hr6.lenB
    have hn6 : n6 ≤ 32 := by rcases hpl with h | h <;> simp [h] at hp6 <;> omega
    have d6 := d5.trans hc6
    have h6 := h3.same d6
    have hg2 : g2 < w5.heap.size := Nat.lt_of_lt_of_le (Res.lt (h3.holds 1 _ rfl) g2 (by simp [Res.fp])) d5.size
    refine ⟨_, _, _, _, rfl, fun x w' => ∃ i : Nat, x = (i : Int) ∧ i ≤ n6 ∧ RdB w' a6 n6 c6 p ∧ St w [] w' [.arr g1 22 (bv (List.replicate 32 0)), .arr g2 22 (bv (mixG p (List.replicate 32 0) i))], fun x _ => n6 - x.toNat, ⟨0, rfl, by omega, hr6, by rw [mixG_zero]; exact h6⟩, ?_⟩
    rintro x w7 ⟨i, rfl, hi, hr7, h7⟩
    refine ⟨fun h => ?_, fun h => ?_⟩
    · have hi' : i < n6 := by simp at h; omega
      have hp32 : p.length = 32 := by rcases hpl with h | h <;> simp [h] at hp6 ⊢ <;> omega
      refine ix0 hr7.cells hp6 i (by omega) fun bl o ha q => ⟨bl, o, ha, by omega, by omega, _, q w7 hr7.cells, by omega, by omega, ?_⟩
      have hbi : p[i]? = some (p.getD i 0) := by
        rw [List.getD, List.getElem?_eq_getElem (by omega)]
        rfl
      have hml : (mixG p (List.replicate 32 (0 : UInt8)) i).length = 32 := by simp [mixG]; omega
      obtain ⟨w8, r8, h8⟩ := h7.stB (i := 1) (o := i) (T := 5) (b := p.getD i 0) rfl (sB1 _) (show 0 + Int.toNat (i : Int) * 1 = i by omega) (by omega)
      obtain ⟨w8', r8', h8'⟩ := (St.ofBlk (h7.holds 1 _ rfl)).stB (i := 0) (o := i) (T := 5) (l := mixG p (List.replicate 32 (0 : UInt8)) i) (b := p.getD i 0) rfl (sB1 _) (show 0 + Int.toNat (i : Int) * 1 = i by omega) (by omega)
      have ew : w8' = w8 := by
        have := r8'.symm.trans r8
        simp only [Result.ok.injEq, true_and] at this
        exact this
      rw [mixG_set (by rw [hp32, List.length_replicate]) hbi] at h8
      refine ⟨w8, r8, ⟨i + 1, wrap_succ hi' (by omega), by omega, ?_, h8⟩, mu_succ hi' (by omega)⟩
      rw [ew] at h8'
      refine hr7.keep h8'.chg fun ad e => ?_
      have := hb6 ad e
      simp
      omega
    · have hi' : i = n6 := by simp at h; omega
      have f1 : mixG p (List.replicate 32 (0 : UInt8)) i = unlockF (strL s) file := by
        rw [unlockF, ho]
        cases hop : openF K 1 salt blob with
        | none =>
          have : p = [] := by rw [← hp, hop]; rfl
          subst this
          have : i = 0 := by simp at hp6; omega
          subst this
          rw [mixG_zero]
          rfl
        | some x =>
          have hx : p = x := by rw [← hp, hop]; rfl
          have hp32 : p.length = 32 := by have := openF_len hop (by omega); rw [hx]; omega
          have := mixG_all (x := p) (l := List.replicate 32 (0 : UInt8)) (by rw [hp32, List.length_replicate])
          rw [List.length_replicate] at this
          have hi32 : i = 32 := by omega
          rw [hi32, this, hx]
          rfl
      have hfl := unlockF_len (strL s) file
      rw [f1] at h7
      obtain ⟨w9, r9, l9, c9⟩ := fin w7 _ hfl h7
      refine ⟨_, h7.ldA (i := 1) rfl (d32A _) (d32S _) (by simp [hfl]), w9, r9, _, l9, ?_, c9⟩
      have : unlockE (strL s) file = openE K 1 salt blob := by
        rw [unlockE, hok, ho, openE]; rfl
      rw [this]

end Go.Proofs.YtlhhmoljlmmnoaaDoor
