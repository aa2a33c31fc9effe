/- Chapter 14: IndexBytes (conditions: none). -/
import Derived.Test.YtoianikapjkekaaIndZ
namespace Go.Proofs.Ytoianikapjkekaa
open Go Sx
set_option maxRecDepth 8000

set_option maxHeartbeats 1000000 in
theorem indexBytes_walk (a : Option Addr) (n c : Nat) (l : Refs) (a2 : Option Addr) (n2 c2 : Nat) (b : List UInt8) (w : World) (hr : RdR w a n c l) (hr2 : RdB w a2 n2 c2 b) :
    Calls Try.prog 8 #[.slice a n c, .slice a2 n2 c2] w fun e w' => e = .returned (.bool true) ∧ Chg [] w w' := by
  have hln := hr.num (by decide)
  have hln2 := hr2.lenB
  obtain ⟨mI, hI⟩ := eI
  apply amphoralaw14_IndexBytes_vc
  refine (alive14_spec w).mono ?_
  rintro e w1 ⟨rfl, c1⟩
  refine ⟨_, rfl, fun h => by simp at h, fun _ => ⟨fun _ => ⟨rfl, c1⟩, fun hle => ?_⟩⟩
  have hb : n ≤ 300 ∧ n2 ≤ 16384 := by simp at hle; omega
  obtain ⟨hb, hb2⟩ := hb
  refine (mine_spec a n c l w1 (hr.keep0 c1) (by omega)).mono ?_
  rintro e w2 ⟨gq, rfl, hm2⟩
  have c2' := c1.trans hm2.chg
  have hmm : RdR w2 (some ⟨gq, 0, none⟩) (n + 1) (n + 1) (l ++ [markR]) := ⟨hm2.rd (i := 0) rfl, fun x _ => refC_len x⟩
  have hp : RdR w2 (some ⟨gq, 0, none⟩) n (n + 1) l := by
    have := hmm.sub (lo := 0) (hh := n) (m := n + 1) (a' := some ⟨gq, 0, none⟩) ⟨fun e => by omega, fun _ => by simp [Addr.add]⟩ (by omega) (by omega) (by omega) (Nat.le_refl _)
    simpa [← hln] using this
  refine ⟨_, _, _, rfl, (iEncode_spec _ n (n + 1) l w2 hp (by omega)).mono ?_⟩
  rintro e w3 ⟨xa, xn, xc, rfl, hx3, d3⟩
  obtain ⟨X, hX⟩ : ∃ X, (if isSeg l then encF l else []) = X := ⟨_, rfl⟩
  rw [hX] at hx3
  have c3 := c2'.trans d3
  refine ⟨_, _, _, _, rfl, (rEncode_spec a n c l w3 (hr.keep0 c3) (by omega)).mono ?_⟩
  rintro e w4 ⟨ya, yn, yc, rfl, hy4, d4⟩
  rw [hX] at hy4
  have c4 := c3.trans d4
  refine ⟨_, _, _, _, rfl, (copy_spec a2 n2 c2 b w4 (hr2.keep0 c4) (by omega)).mono ?_⟩
  rintro e w5 ⟨gc, cc, cur, rfl, d5, hgc, hM5⟩
  have c5 := c4.trans d5
  have hc5 := hM5.rd
  refine ⟨_, _, _, rfl, (iDecode_spec _ n2 cc b w5 hc5 (by omega)).mono ?_⟩
  rintro e w6 ⟨sa, sn, sc, rfl, hs6, d6⟩
  have c6 := c5.trans d6
  refine ⟨_, _, _, _, rfl, (rDecode_spec a2 n2 c2 b w6 (hr2.keep0 c6) (by omega)).mono ?_⟩
  rintro e w7 ⟨ta, tn, tc, rfl, ht7, d7⟩
  have c7 := c6.trans d7
  have d27 := d3.trans (d4.trans (d5.trans (d6.trans d7)))
  have d37 := d4.trans (d5.trans (d6.trans d7))
  have d47 := d5.trans (d6.trans d7)
  have d57 := d6.trans d7
  have hx7 := hx3.keep0 d37
  have hy7 := hy4.keep0 d47
  have hs7 := hs6.keep0 d7
  have hDl : ((decF b).getD []).length ≤ 16384 := by
    unfold decF
    have := decH_len _ (some b) [] (Nat.le_refl _)
    split
    · simp only [Option.getD_some]; simp [leftN] at this; omega
    · simp
  have hsn := hs7.num (by decide)
  have SAME : ∀ (a : Option Addr) (n c : Nat) (b : Option Addr) (m d : Nat) (l : Refs) (w : World), RdR w a n c l → RdR w b m d l → l.length ≤ 100000 → Calls Try.prog 14 #[.slice a n c, .slice b m d] w fun e w' => e = .returned (.bool true) ∧ Chg [] w w' := by
    intro a n c b m d l w h1 h2 hl
    have hn := h1.num (by decide)
    refine (rsame13_spec a n c l b m d l w h1 h2 (by omega)).mono ?_
    rintro e w' ⟨⟨rfl, _⟩ | ⟨_, hne⟩, hc⟩
    · exact ⟨rfl, hc⟩
    · exact absurd rfl hne
  refine ⟨_, _, _, _, rfl, fun x w' => x = false ∧ Chg [] w7 w', ⟨_, toStr bS bE sS hx7.cells hx7.lenB, _, toStr bS bE sS hy7.cells hy7.lenB, fun hne => by simp at hne, fun _ => (num_spec _ w7 (by split <;> simp)).mono ?_⟩, ?_⟩
  · rintro e w8 ⟨rfl, rfl⟩
    refine ⟨_, rfl, fun hne => ?_, fun _ => (SAME _ _ _ _ _ _ _ w8 hs7 ht7 (by omega)).mono ?_⟩
    · exfalso
      cases hg : isSeg l <;> simp [hg] at hne
    rintro e w9 ⟨rfl, d9⟩
    refine ⟨_, rfl, fun h => by simp at h, fun _ => (num_spec _ w9 (by unfold errW; split <;> simp)).mono ?_⟩
    rintro e w10 ⟨rfl, rfl⟩
    refine ⟨_, rfl, fun hne => by simp at hne, fun _ => (kept14_spec gq n a c l w10 (hmm.keep0 (d27.trans d9)) (hr.keep0 (c7.trans d9)) (by omega)).mono ?_⟩
    rintro e w11 ⟨rfl, d11⟩
    have d711 := d9.trans d11
    refine ⟨_, rfl, fun h => by simp at h, fun _ => (kept_spec gc n2 cc a2 n2 c2 b cur w11 (hM5.keep ((d57.trans d711).block gc (Array.getElem?_eq_some_iff.1 hM5.blk).1 (by simp))) (hr2.keep0 (c7.trans d711)) (by omega)).mono ?_⟩
    rintro e w12 ⟨rfl, rfl⟩
    exact ⟨_, rfl, rfl, d711⟩
  rintro x86 w13 ⟨rfl, d13⟩
  have c13 := c7.trans d13
  refine ⟨fun h => by simp at h, fun _ => ⟨_, eqlS_nil hI _ _ _, fun w' => Chg [] w13 w', ⟨fun hok => ?_, fun _ => Chg.refl _ _⟩, ?_⟩⟩
  · have hseg : isSeg l = true := by
      cases hg : isSeg l with
      | true => rfl
      | false => rw [hg] at hok; simp at hok
    rw [hseg, if_pos rfl] at hX
    have hXl : X.length ≤ 20000 := by rw [← hX]; have := encF_len l; omega
    have hx13 := hx7.keep0 d13
    have hxn := hx13.lenB
    refine (iDecode_spec xa xn xc X w13 hx13 (by omega)).mono ?_
    rintro e w14 ⟨ba, bn, bc, rfl, hb14, d14⟩
    have hdx : decF X = some l := by rw [← hX]; exact decF_enc hseg
    rw [hdx] at hb14 ⊢
    refine ⟨_, _, _, _, rfl, fun x w' => x = false ∧ Chg [] w13 w', ⟨_, neqS_nil hI _ _ _, fun h => by simp [errW] at h, fun _ => (SAME _ _ _ _ _ _ l w14 hb14 (hr.keep0 (c13.trans d14)) (by omega)).mono ?_⟩, ?_⟩
    · rintro e w15 ⟨rfl, d15⟩
      exact ⟨_, rfl, rfl, d14.trans d15⟩
    · rintro x101 w16 ⟨rfl, d16⟩
      exact ⟨fun h => by simp at h, fun _ => d16⟩
  · intro w17 d17
    have c17 := c13.trans d17
    refine ⟨_, neqS_nil hI _ _ _, fun _ => ⟨rfl, c17⟩, fun hno => ?_⟩
    obtain ⟨s, hs⟩ : ∃ s, decF b = some s := by
      cases hq : decF b with
      | some s => exact ⟨s, rfl⟩
      | none => rw [hq] at hno; simp [errW] at hno
    obtain ⟨hseg, henc⟩ := decF_back hs
    rw [hs, Option.getD_some] at hs7 hDl
    rw [hs, Option.getD_some] at hsn
    refine (iEncode_spec sa sn sc s w17 (hs7.keep0 (d13.trans d17)) (by omega)).mono ?_
    rintro e w18 ⟨ea, en, ec, rfl, he18, d18⟩
    rw [hseg, if_pos rfl, henc] at he18
    have hb18 := hr2.keep0 (c17.trans d18)
    refine ⟨_, _, _, _, rfl, _, eqlS_nil hI _ _ _, fun _ => ⟨_, toStr bS bE sS he18.cells he18.lenB, _, toStr bS bE sS hb18.cells hb18.lenB, by simp, c17.trans d18⟩, fun h => ?_⟩
    rw [hseg] at h
    simp at h

end Go.Proofs.Ytoianikapjkekaa
