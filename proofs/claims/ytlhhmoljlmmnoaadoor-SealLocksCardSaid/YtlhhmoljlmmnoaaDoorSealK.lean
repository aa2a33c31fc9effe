/- Contracts of seal: under, goodSecret, Lock, Unlock (conditions: those that each theorem names). -/
import Derived.Test.YtlhhmoljlmmnoaaDoorSealB
import Derived.Test.YtlhhmoljlmmnoaaDoorSealG
import Derived.Test.YtlhhmoljlmmnoaaDoorNum
import Derived.Test.YtlhhmoljlmmnoaaDoorShaT
import Derived.Laws.Cover3
namespace Go.Proofs.YtlhhmoljlmmnoaaDoor
open Go Sx
set_option maxRecDepth 8000

/-- Appending to bytes that may be read and have no room: a new row. -/
theorem Sx.St.appendRdB {w0 w : World} {X : List Nat} {M : List Res} (h : St w0 X w M) {b a : Option Addr} {n vc m c : Nat} {xs l : List UInt8} (hv : RdB w b n vc xs) (hb0 : b ≠ none) (hr : RdB w a m c l) (hroom : vc < n + m) (hb : n + m ≤ 140737488355000) :
    ∃ va' vc' w', (Builtin.append_ #[25, 25] 25 #[.slice b n vc, .slice a m c]).run Tryd.prog w = .ok (.slice va' (n + m) vc') w' ∧ St w0 X w' (M ++ [.row 5 1 (.slice va' (n + m) vc') (n + m) (bv (xs ++ l))]) := by
  obtain ⟨inf, hinf, hz, hsz, hby⟩ := (bT).inf
  have hle := hv.le
  have hle2 := hr.le
  have lv := hv.lenB
  have lr := hr.lenB
  cases b with
  | none => exact absurd rfl hb0
  | some bd =>
    cases a with
    | none => have := hr.nil rfl; omega
    | some ad =>
      have holds : ∀ j u, (bv xs)[j]? = some u → w.cell? (bd.add j) = some u := by
        intro j u hu
        obtain ⟨b, o, he, hc⟩ := hv.cells.at_ hu
        simp only [Option.some.injEq] at he
        subst he
        rw [Addr.add_mid]
        exact hc
      have hnews : ∀ j u, (bv l)[j]? = some u → w.cell? (ad.add j) = some u := by
        intro j u hu
        obtain ⟨b, o, he, hc⟩ := hr.cells.at_ hu
        simp only [Option.some.injEq] at he
        subst he
        rw [Addr.add_mid]
        exact hc
      have hr2 := run_append_grow (P := Tryd.prog) w 25 25 5 inf (.int .u8 0) (bT).ht hinf hz bd n vc (bv xs) (by rw [hsz, bv_length]; omega) holds ad m c (bv l) (by rw [hsz, bv_length]; omega) hnews hroom (by omega) (growslice_fits (by omega) (by rw [hby]; omega))
      have hge := grownCap_ge w (n + m) vc 5
      have hm : n + m ≤ maxLen := by simp only [maxLen]; omega
      have hcm := grownCap_le_maxLen w (n + m) vc 5 hm
      have hlen : (bv xs ++ bv l).length = (n + m) * 1 := by simp; omega
      refine ⟨_, _, _, hr2, h.add ((Chg.drew [] w).trans (Chg.alloc _ _)) ⟨by simpa using hlen, .inr ⟨w.heap.size, _, _, rfl, Nat.zero_le _, heap_alloc_new w.drew _, hge, hcm, ?_, ?_⟩⟩ (by simp [Res.fp, Value.ownBlock])⟩
      · simp only [Array.size_append, List.size_toArray, size_zeroCells, bv_length, (bT).zs]
        omega
      · simp only [Array.toList_append, bv_append]
        exact List.take_left' hlen

/-- A string's bytes. -/
def strL (s : ByteArray) : List UInt8 := s.data.toList
theorem strL_eq (s : ByteArray) : s = ⟨(strL s).toArray⟩ := by simp [strL]
theorem strL_size (s : ByteArray) : s.size = (strL s).length := rfl

theorem strL_nil (s : ByteArray) : (s.toList == (ByteArray.mk #[]).toList) = decide ((strL s).length = 0) := by
  rw [ByteArray.toList_eq, ByteArray.toList_eq, strL]
  cases s.data.toList <;> rfl

def amph1L : List UInt8 := [97, 109, 112, 104, 111, 114, 97, 49]
def okPw (pw : List UInt8) : Bool := decide (1 ≤ pw.length ∧ pw.length ≤ 1024)
def lockF (pw salt m : List UInt8) : List UInt8 := if okPw pw then amph1L ++ salt ++ sealF (underF pw salt) 1 salt m else []
def lockE (pw : List UInt8) : Option Int := if okPw pw then none else some 28
def unlockO (pw file : List UInt8) : Option (List UInt8) :=
  if okPw pw ∧ file.length = 101 ∧ file.take 8 = amph1L then openF (underF pw ((file.drop 8).take 16)) 1 ((file.drop 8).take 16) (file.drop 24) else none
def unlockF (pw file : List UInt8) : List UInt8 := (unlockO pw file).getD (List.replicate 32 0)
def unlockE (pw file : List UInt8) : Option Int := if okPw pw then if (unlockO pw file).isSome then none else some 10 else some 28

@[simp] theorem underF_len (pw salt : List UInt8) : (underF pw salt).length = 96 := masterF_len _

theorem openF_len {K : List UInt8} {k : UInt8} {ctx b p : List UInt8} (h : openF K k ctx b = some p) (hb : b.length ≤ 274877906944) : p.length = b.length - 45 := by
  unfold openF at h
  split at h
  · cases h
  · split at h
    · simp only [Option.some.injEq] at h
      have hlb : (bBody b).length = b.length - 45 := by rw [bBody, List.length_take, List.length_drop]; omega
      rw [← h, (overF_two _ _ _ (by omega)).2, hlb]
    · cases h

theorem unlockF_len (pw file : List UInt8) : (unlockF pw file).length = 32 := by
  rw [unlockF, unlockO]
  split
  · rename_i h
    cases ho : openF (underF pw ((file.drop 8).take 16)) 1 ((file.drop 8).take 16) (file.drop 24) with
    | none => simp
    | some p =>
      have := openF_len ho (by simp; omega)
      simp at this ⊢
      omega
  · simp

theorem under_spec (s : ByteArray) (a : Option Addr) (n c : Nat) (salt : List UInt8) (w : World) (hK : KTab w) (hr : RdB w a n c salt) (hb : n + (strL s).length ≤ 1000000000000) :
    Calls Tryd.prog 41 #[.string s, .slice a n c] w fun e w' => e = .returned (.agg (bv (underF (strL s) salt)).toArray) ∧ Chg [] w w' := by
  apply seal_under_vc
  obtain ⟨g1, w1, r1, h1⟩ := (St.start w).zeroA kyZ
  obtain ⟨g2, c2, w2, r2, hc2, hr2, _⟩ := toBytes s (strL s) (strL_eq s) w1
  have h2 := h1.same hc2
  refine ⟨g1, w1, r1, _, _, _, _, r2, (derived_spec a n c salt _ _ c2 (strL s) _ [107, 101, 121] w2 rfl (hK.keep0 h2.chg) (h2.rd1 hr) hr2 (by simp; omega)).mono ?_⟩
  rintro e w3 ⟨rfl, c3⟩
  have h3 := h2.same c3
  refine ⟨_, rfl, (fromMaster_spec _ w3 (by simp) (hK.keep0 h3.chg)).mono ?_⟩
  rintro e w4 ⟨rfl, c4⟩
  obtain ⟨w5, r5, h5⟩ := (h3.same c4).stA (i := 0) (v := bv (underF (strL s) salt)) rfl (kyS _) (by simp) (by simp) (bv_one _)
  exact ⟨_, rfl, w5, r5, _, h5.ldVarA (i := 0) (l := bv (underF (strL s) salt)) rfl (kyA _) (kyS _) (by simp), rfl, h5.chg⟩

theorem goodSecret_spec (s : ByteArray) (w : World) : Calls Tryd.prog 40 #[.string s] w fun e w' => e = .returned (.bool (okPw (strL s))) ∧ w' = w := by
  apply seal_goodSecret_vc
  refine ⟨?_, rfl⟩
  rw [strL_nil, strL_size, okPw]
  have key : ∀ n : Nat, (!(decide (n = 0)) && decide ((n : Int) ≤ 1024)) = decide (1 ≤ n ∧ n ≤ 1024) := fun n => by rw [Bool.eq_iff_iff]; simp; omega
  rw [key]

theorem lock_spec (s : ByteArray) (salt m : List UInt8) (w : World) (hK : KTab w) (hs : salt.length = 16) (hm : m.length = 32) :
    Calls Tryd.prog 22 #[.string s, .agg (bv salt).toArray, .agg (bv m).toArray] w fun e w' => ∃ a n c, e = .returned (.tuple #[.slice a n c, errV (lockE (strL s))]) ∧ FreshB w w' a n c (lockF (strL s) salt m) := by
  apply seal_Lock_vc
  obtain ⟨g1, w1, r1, h1⟩ := (St.start w).boxA 49 (bv salt)
  obtain ⟨g2, w2, r2, h2⟩ := h1.boxA 22 (bv m)
  refine ⟨g1, w1, r1, g2, w2, r2, (goodSecret_spec s w2).mono ?_⟩
  rintro e w3 ⟨rfl, rfl⟩
  cases hok : okPw (strL s) with
  | false =>
    refine ⟨_, rfl, fun _ => ⟨none, 0, 0, by rw [lockE, hok]; rfl, ?_⟩, fun h => by simp at h⟩
    rw [lockF, hok]
    exact ⟨h2.chg, rfl, World.ownsRow_nil _ _ _ _⟩
  | true =>
    have hlen : 1 ≤ (strL s).length ∧ (strL s).length ≤ 1024 := by simpa [okPw] using hok
    refine ⟨_, rfl, fun h => by simp at h, fun _ => ?_⟩
    obtain ⟨g3, w4, w5, r4, r5, c5, q5⟩ := litMark amph1L (by decide) w3
    have h5 := h2.same c5
    obtain ⟨va, vc, w6, r6, h6⟩ := h5.appendRdB q5 (by simp) (h5.rdA (i := 0) (n := 16) rfl (by simp [hs])) (by decide) (by decide)
    have h6d := h6.drew
    obtain ⟨K, hKK⟩ : ∃ K, underF (strL s) salt = K := ⟨_, rfl⟩
    have hk : K.length = 96 := by rw [← hKK]; simp
    have qs : ∀ w', Chg [] w6.drew w' → RdB w' (some ⟨g1, 0, none⟩) 16 16 salt := fun w' h => (h6d.same h).rdA (i := 0) rfl (by simp [hs])
    have qm : ∀ w', Chg [] w6.drew w' → RdB w' (some ⟨g2, 0, none⟩) 32 32 m := fun w' h => (h6d.same h).rdA (i := 1) rfl (by simp [hm])
    have hu := under_spec s _ 16 16 salt w6.drew (hK.keep0 h6d.chg) (qs _ (Chg.refl _ _)) (by omega)
    rw [hKK] at hu
    refine ⟨_, _, _, _, r4, _, _, _, _, r5, by omega, by omega, _, _, _, _, r6, by omega, by omega, by omega, by omega, by omega, by omega, hu.mono ?_⟩
    rintro e w7 ⟨rfl, c7⟩
    have h7 := h6d.same c7
    refine ⟨_, rfl, (seal_spec K 1 _ 16 16 salt _ 32 32 m w7 hk (hK.keep0 h7.chg) (qs _ c7) (qm _ c7) (by omega)).mono ?_⟩
    rintro e w8 ⟨a8, n8, c8, rfl, hf8⟩
    have h8 : St w [] w8 [.arr g1 49 (bv salt), .arr g2 22 (bv m), .row 5 1 (.slice va (8 + 16) vc) (8 + 16) (bv (amph1L ++ salt)), .row 5 1 (.slice a8 n8 c8) n8 (bv (sealF K 1 salt m))] := hf8.add h7
    have e8 := hf8.2.1
    have hl8 := sealF_len K 1 salt m (by omega)
    obtain ⟨vb, vd, w9, r9, h9⟩ := h8.appendB (i := 2) rfl (h8.rd (i := 3) (xs := bv (sealF K 1 salt m)) rfl) (by omega)
    refine ⟨_, _, _, rfl, _, _, _, _, r9, _, _, _, by rw [lockE, hok]; rfl, ?_⟩
    rw [lockF, if_pos hok, hKK]
    exact h9.freshB (i := 2) rfl

theorem d32Bk (w : World) : (Instr.build 22 #[]).run Tryd.prog w = .ok (.agg (bv (List.replicate 32 0)).toArray) w := by
  have := build_arr (P := Tryd.prog) (w := w) (T := 22) (d32Z w) Tryd.underlying22 (sB1 w) [] (by simp) (by simp)
  simpa using this

theorem ldCells32 {w : World} {b o c : Nat} {l : List UInt8} (h : RdB w (some ⟨b, o, none⟩) 32 c l) : (Instr.loadAt 22 (.pointer (some ⟨b, o, none⟩))).run Tryd.prog w = .ok (.agg (bv l).toArray) w := by
  have hl := h.lenB
  rcases h.cells with h0 | ⟨b', o', e, hr⟩
  · have : (bv l).length = 0 := by rw [h0]; rfl
    simp at this; subst this; simp at hl
  · simp only [Option.some.injEq, Addr.mk.injEq, and_true] at e
    obtain ⟨rfl, rfl⟩ := e
    have := loadCells_cells (P := Tryd.prog) hr
    rw [bv_length, hl] at this
    simp [Instr.loadAt, Instr.sureAddr, loadVar, d32A, d32S, this]

theorem bytes_beq (l m : List UInt8) : ((ByteArray.mk l.toArray).toList == (ByteArray.mk m.toArray).toList) = decide (l = m) := by
  rw [ByteArray.toList_eq, ByteArray.toList_eq]
  by_cases h : l = m <;> simp [h]

theorem unlock_spec (s : ByteArray) (a : Option Addr) (n c : Nat) (file : List UInt8) (w : World) (hK : KTab w) (hr : RdB w a n c file) :
    Calls Tryd.prog 24 #[.string s, .slice a n c] w fun e w' => e = .returned (.tuple #[.agg (bv (unlockF (strL s) file)).toArray, errV (unlockE (strL s) file)]) ∧ Chg [] w w' := by
  have hl := hr.lenB
  have hle := hr.le
  apply seal_Unlock_vc
  obtain ⟨m, hI⟩ := eI
  obtain ⟨g1, w1, r1, h1⟩ := (St.start w).zeroA d32Z
  have fin : ∀ w' (D : List UInt8), D.length = 32 → Chg [] w1 w' → ∃ w3, (Instr.storeAt 22 (.pointer (some ⟨g1, 0, none⟩)) (.agg (bv D).toArray)).run Tryd.prog w' = .ok () w3 ∧ (loadVar 22 ⟨g1, 0, none⟩).run Tryd.prog w3 = .ok (.agg (bv D).toArray) w3 ∧ Chg [] w w3 := fun w' D hD hc => by
    obtain ⟨w3, r3, h3⟩ := (h1.same hc).stA (i := 0) (v := bv D) rfl (d32S _) (by simp) (by simp [hD]) (bv_one _)
    exact ⟨w3, r3, h3.ldVarA (i := 0) (l := bv D) rfl (d32A _) (d32S _) (by simp [hD]), h3.chg⟩
  refine ⟨g1, w1, r1, (goodSecret_spec s w1).mono ?_⟩
  rintro e w2 ⟨rfl, rfl⟩
  have hz := Chg.refl [] w2
  cases hok : okPw (strL s) with
  | false =>
    obtain ⟨w3, r3, l3, c3⟩ := fin w2 (List.replicate 32 0) (by simp) hz
    refine ⟨_, rfl, fun _ => ⟨_, d32Bk _, w3, r3, _, l3, ?_, c3⟩, fun h => by simp at h⟩
    rw [unlockF, unlockO, if_neg (by simp [hok]), unlockE, hok]
    rfl
  | true =>
    have hlen : 1 ≤ (strL s).length ∧ (strL s).length ≤ 1024 := by simpa [okPw] using hok
    refine ⟨_, rfl, fun h => by simp at h, fun _ => ⟨fun x w' => x = decide (¬ (file.length = 101 ∧ file.take 8 = amph1L)) ∧ w' = w2, ⟨fun h => ?_, fun h => ?_⟩, ?_⟩⟩
    · have : ¬ file.length = 101 := by simp at h; omega
      exact ⟨by simp [this], rfl⟩
    · have h101 : file.length = 101 := by simp at h; omega
      have q8 := rdB_upto (k := 8) (h1.rd1 hr) (by omega)
      refine ⟨by omega, by omega, _, toStr bS bE sS q8.cells q8.lenB, ?_, rfl⟩
      have := bytes_beq (file.take 8) amph1L
      rw [show (ByteArray.mk #[97, 109, 112, 104, 111, 114, 97, 49]) = ByteArray.mk amph1L.toArray from rfl, this]
      simp [h101]
    rintro x w4 ⟨rfl, rfl⟩
    refine ⟨fun h => ?_, fun h => ?_⟩
    · have h' : ¬ (file.length = 101 ∧ file.take 8 = amph1L) := of_decide_eq_true h
      obtain ⟨w3, r3, l3, c3⟩ := fin w4 (List.replicate 32 0) (by simp) hz
      refine ⟨_, d32Bk _, w3, r3, _, l3, ?_, c3⟩
      have ho : unlockO (strL s) file = none := by rw [unlockO, if_neg (fun q => h' q.2)]
      rw [unlockF, unlockE, ho, hok]
      rfl
    have h' : file.length = 101 ∧ file.take 8 = amph1L := Decidable.not_not.1 (of_decide_eq_false h)
    clear h
    have hn : n = 101 := by omega
    subst hn
    obtain ⟨salt, hsalt⟩ : ∃ x, (file.drop 8).take 16 = x := ⟨_, rfl⟩
    obtain ⟨blob, hblob⟩ : ∃ x, file.drop 24 = x := ⟨_, rfl⟩
    have ho : unlockO (strL s) file = openF (underF (strL s) salt) 1 salt blob := by rw [unlockO, if_pos ⟨hok, h'⟩, hsalt, hblob]
    have hw := Chg.drew [] w4
    have q := (h1.same hw).rd1 hr
    refine ⟨by omega, by omega, by omega, fun t27 hs27 => ⟨by omega, by omega, by omega, fun t29 hs29 => ?_⟩⟩
    have q1 : RdB w4.drew t27 16 (c - 8) salt := by
      have := q.sub hs27 (hh := 24) (by omega) (by omega) (by omega) (Nat.le_refl _)
      have e1 : ((bv file).drop (8 * 1)).take ((24 - 8) * 1) = bv salt := by rw [← hsalt, bv_take, bv_drop]
      rw [e1] at this
      exact this
    have q2 : RdB w4.drew t29 (101 - 24) (c - 24) blob := by
      have := q.sub hs29 (hh := 101) (by omega) (by omega) (by omega) (Nat.le_refl _)
      have e1 : ((bv file).drop (24 * 1)).take ((101 - 24) * 1) = bv blob := by rw [← hblob, bv_drop, List.take_of_length_le (by simp; omega)]
      rw [e1] at this
      exact this
    obtain ⟨K, hKK⟩ : ∃ K, underF (strL s) salt = K := ⟨_, rfl⟩
    have hk : K.length = 96 := by rw [← hKK]; simp
    have hu := under_spec s _ 16 _ salt w4.drew (hK.keep0 (h1.chg.trans hw)) q1 (by omega)
    rw [hKK] at hu ho
    refine hu.mono ?_
    rintro e w5 ⟨rfl, c5⟩
    have d5 := hw.trans c5
    refine ⟨_, rfl, (open_spec K 1 t27 16 (c - 8) salt t29 (101 - 24) (c - 24) blob w5 hk (hK.keep0 (h1.chg.trans d5)) (q1.keep0 c5) (q2.keep0 c5) (by omega)).mono ?_⟩
    rintro e w6 ⟨a6, n6, c6, rfl, hf6⟩
    have d6 := d5.trans hf6.1
    refine ⟨_, _, _, _, rfl, _, neqS_nil hI _ _ _, fun h => ?_, fun h => ?_⟩
    · cases hop : openF K 1 salt blob with
      | some p => rw [openE, hop] at h; simp at h
      | none =>
        obtain ⟨w3, r3, l3, c3⟩ := fin w6 (List.replicate 32 0) (by simp) d6
        refine ⟨_, d32Bk _, w3, r3, _, l3, ?_, c3⟩
        rw [unlockF, unlockE, ho, hok, openE, hop]
        rfl
    · cases hop : openF K 1 salt blob with
      | none => rw [openE, hop] at h; simp at h
      | some p =>
        rw [hop] at hf6
        have hbl := q2.lenB
        have hpl := openF_len hop (by omega)
        have hp6 : n6 = 32 := by have := hf6.2.1; simp at this; omega
        subst hp6
        have hrd := hf6.rdB
        have ha6 : ∃ b o, a6 = some ⟨b, o, none⟩ := by
          rcases hrd.cells with h0 | ⟨b, o, e, _⟩
          · have h00 : (bv ((some p).getD [])).length = 0 := by rw [h0]; rfl
            rw [bv_length, Option.getD_some] at h00
            omega
          · exact ⟨b, o, e⟩
        obtain ⟨b, o, rfl⟩ := ha6
        obtain ⟨w3, r3, l3, c3⟩ := fin w6 p (by omega) d6
        refine ⟨_, run_arrayAt w6 22 _ 32 _ 32 _ Tryd.underlying22 (Nat.le_refl _), _, ldCells32 hrd, w3, r3, _, l3, ?_, c3⟩
        rw [unlockF, unlockE, ho, hok, hop]
        rfl

end Go.Proofs.YtlhhmoljlmmnoaaDoor
