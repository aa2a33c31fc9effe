/- The law ShaEquals answers true; a fixed digest (conditions: the table lies where the program laid it). -/
import Derived.Test.YtpodhfomjljfbaaDoorShaD
import Derived.Test.YtpodhfomjljfbaaDoorNum
import Derived.Test.YtpodhfomjljfbaaDoorSum
import Derived.Test.YtpodhfomjljfbaaDoorVlaw02
namespace Go.Proofs.YtpodhfomjljfbaaDoor
open Go Sx

theorem Row2.nil (w : World) : Row2 w [] [] := ⟨rfl, by simp⟩
theorem Row2.cons {w : World} {vs : List Value} {ls : List (List UInt8)} {a : Option Addr} {n c : Nat} {l : List UInt8} (h : RdB w a n c l) (h2 : Row2 w vs ls) : Row2 w (.slice a n c :: vs) (l :: ls) := by
  refine ⟨by simp [h2.len], fun i hi => ?_⟩
  cases i with
  | zero => exact ⟨a, n, c, rfl, h⟩
  | succ i => exact h2.rd i (by simpa using hi)

/-- []byte("..") of a row of one's own. -/
theorem convRow {w0 w : World} {M : List Res} (hS : St w0 [] w M) {i : Nat} {g n c : Nat} {l : List UInt8} (hi : M[i]? = some (.row 5 1 (.slice (some ⟨g, 0, none⟩) n c) n (bv l))) :
    ∃ w', (convert 22 22 (.slice (some ⟨g, 0, none⟩) n c)).run Tryd.prog w = .ok (.slice (some ⟨g, 0, none⟩) n c) w' ∧ Chg [] w0 w' ∧ RdB w' (some ⟨g, 0, none⟩) n c l := by
  have hown : w.ownsRow 0 5 1 (.slice (some ⟨g, 0, none⟩) n c) n (bv l) := hS.holds i _ hi
  have hge := hS.own i _ hi g (by simp [Res.fp, Value.ownBlock])
  simp only [List.not_mem_nil, or_false] at hge
  rcases hown.2 with ⟨hv, _⟩ | ⟨g', cap, cur, hv, _, hg, hle, _, hcs, ht⟩
  · simp at hv
  · simp only [Value.slice.injEq, Option.some.injEq, Addr.mk.injEq, and_true, true_and] at hv
    obtain ⟨rfl, rfl⟩ := hv
    have hglt := (Array.getElem?_eq_some_iff.1 hg).1
    refine ⟨w.freeze ⟨g, cur.size, none⟩ 1, ?_, ?_, ?_⟩
    · simp [convert, run_underlying bS, run_underlying bE, markStringish, World.shape?, hg]
    · refine hS.chg.trans' (X := []) (Y := [g]) ?_ (fun k hk => .inl (by simp at hk; omega))
      refine ⟨by simp [World.freeze], by simp [World.freeze], by simp [World.freeze], by simp [World.freeze], fun k _ hk => ?_⟩
      simp only [World.freeze, Nat.succ_ne_zero, if_false, Array.getElem?_modify]
      rw [if_neg (by simpa using fun h => hk (by simp [h]))]
    · have hg' : ∃ fr, (w.freeze ⟨g, cur.size, none⟩ 1).heap[g]? = some (.cells cur 5 fr) := by
        simp only [World.freeze, Nat.succ_ne_zero, if_false, Array.getElem?_modify, if_true, hg, Option.map_some]
        exact ⟨_, rfl⟩
      obtain ⟨fr, hg'⟩ := hg'
      have h1 := cells_blk (o := 0) (n := n) hg'
      rw [List.drop_zero, show cur.toList.take n = bv l by rw [← ht, Nat.mul_one]] at h1
      exact ⟨h1, by have := hown.1; simpa using this, hle, by simp⟩

theorem abc0 : ((shaF [97, 98, 99]).getD 0 0).toNat = 186 := by kernel_rfl
theorem abc1 : ((shaF [97, 98, 99]).getD 1 0).toNat = 120 := by kernel_rfl
theorem abc2 : ((shaF [97, 98, 99]).getD 2 0).toNat = 22 := by kernel_rfl
theorem abc3 : ((shaF [97, 98, 99]).getD 3 0).toNat = 191 := by kernel_rfl
theorem abc31 : ((shaF [97, 98, 99]).getD 31 0).toNat = 173 := by kernel_rfl

theorem alive_spec (w : World) (hK : KTab w) : Calls Tryd.prog 9 #[] w fun e w' => e = .returned (.bool true) ∧ Chg [] w w' := by
  apply amphoralaw02_alive_vc
  obtain ⟨g1, w1, r1, h1⟩ := (St.start w).lit bT [.int .u8 97] (by simp [Value.oneCell']) (by simp)
  obtain ⟨w2, r2, hc2, hr2⟩ := convRow (l := [97]) h1 (i := 0) rfl
  obtain ⟨g3, w3, r3, h3⟩ := (St.start w2).lit bT [.int .u8 98, .int .u8 99] (by simp [Value.oneCell']) (by simp)
  obtain ⟨w4, r4, hc4, hr4⟩ := convRow (l := [98, 99]) h3 (i := 0) rfl
  obtain ⟨g5, w5, r5, h5⟩ := (St.start w4).lit bbT [.slice (some ⟨g1, 0, none⟩) 1 1, .slice (some ⟨g3, 0, none⟩) 2 2] (by simp [Value.oneCell']) (by simp)
  have hc5 := (hc2.trans hc4).trans h5.chg
  refine ⟨_, _, _, _, r1, _, _, _, _, r2, _, _, _, _, r3, _, _, _, _, r4, _, _, _, _, r5, (shaSum_spec _ 2 2 _ [[97], [98, 99]] w5 (hK.keep0 hc5) (h5.rd (i := 0) rfl) (((Row2.nil _).cons (hr4.keep0 h5.chg)).cons (hr2.keep0 (hc4.trans h5.chg))) (by decide) (by decide)).mono ?_⟩
  rintro e w6 ⟨rfl, hc6⟩
  obtain ⟨D, hD⟩ : ∃ D, shaF [[97], [98, 99]].flatten = D := ⟨_, rfl⟩
  have hDl : D.length = 32 := by rw [← hD]; exact shaF_len _
  have e0 : (D.getD 0 0).toNat = 186 := by rw [← hD]; exact abc0
  have e1 : (D.getD 1 0).toNat = 120 := by rw [← hD]; exact abc1
  have e2 : (D.getD 2 0).toNat = 22 := by rw [← hD]; exact abc2
  have e3 : (D.getD 3 0).toNat = 191 := by rw [← hD]; exact abc3
  have e31 : (D.getD 31 0).toNat = 173 := by rw [← hD]; exact abc31
  rw [hD]
  obtain ⟨g7, w7, r7, h7⟩ := (St.start w6).zeroA d32Z
  obtain ⟨w8, r8, h8⟩ := h7.stA (i := 0) (v := bv D) rfl (d32S _) (by simp) (by simp [hDl]) (bv_one _)
  have ld : ∀ j, j < 32 → (Instr.loadAt 5 (.pointer (some ⟨g7, j, none⟩))).run Tryd.prog w8 = .ok (.int .u8 ((D.getD j 0).toNat : Int)) w8 := fun j hj => h8.ldB (i := 0) rfl (bA _) rfl (by omega)
  refine ⟨_, rfl, g7, w7, r7, w8, r8, _, ld 0 (by decide), fun _ => ⟨_, ld 1 (by decide), fun _ => ⟨_, ld 2 (by decide), fun _ => ⟨_, ld 3 (by decide), fun _ => ⟨_, ld 31 (by decide), ?_, (hc5.trans hc6).trans h8.chg⟩, fun h => by rw [e3] at h; simp at h⟩, fun h => by rw [e2] at h; simp at h⟩, fun h => by rw [e1] at h; simp at h⟩, fun h => by rw [e0] at h; simp at h⟩
  rw [e31]; rfl

theorem shaEquals_walk (a : Option Addr) (n c : Nat) (l : List UInt8) (a2 : Option Addr) (n2 c2 : Nat) (l2 : List UInt8) (w : World) (hK : KTab w) (hr : RdB w a n c l) (hr2 : RdB w a2 n2 c2 l2) (hb : n ≤ 4611686018427387904) :
    Calls Tryd.prog 3 #[.slice a n c, .slice a2 n2 c2] w fun e w' => e = .returned (.bool true) ∧ Chg [] w w' := by
  apply amphoralaw02_ShaEquals_vc
  refine (alive_spec w hK).mono ?_
  rintro e w1 ⟨rfl, hc1⟩
  have hcd := hc1.trans (Chg.drew [] w1)
  refine ⟨_, rfl, fun h => by simp at h, fun _ => ⟨fun w' => Chg [] w w', hcd, _, fun w' h => toStr bS bE sS (hr.keep0 h).cells hr.lenB, _, fun w' h => toStr bS bE sS (hr2.keep0 h).cells hr2.lenB, (equal_spec a n c l a2 n2 c2 l2 _ (hr.keep0 hcd) (hr2.keep0 hcd) hb).mono ?_⟩⟩
  rintro e w2 ⟨rfl, hc2⟩
  have hc12 := hcd.trans hc2
  refine ⟨_, rfl, fun w' => Chg [] w w', fun _ h => h, hc12, fun _ => (equal_spec a n c l a n c l w2 (hr.keep0 hc12) (hr.keep0 hc12) hb).mono ?_, fun h => ?_⟩
  · rintro e w3 ⟨rfl, hc3⟩
    exact ⟨_, rfl, fun w' => Chg [] w w', fun _ h => h, hc12.trans hc3, by simp, hc12.trans hc3⟩
  · exfalso
    simp only [ByteArray.toList_mk] at h
    by_cases he : l = l2
    · subst he; simp at h
    · have : (l == l2) = false := by simpa using he
      simp [he] at h

end Go.Proofs.YtpodhfomjljfbaaDoor
