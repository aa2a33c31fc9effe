/- The law ShaDerives answers true (conditions: the table lies where the program laid it). -/
import Derived.Test.YtpodhfomjljfbaaDoorShaT
namespace Go.Proofs.YtpodhfomjljfbaaDoor
open Go Sx

def derE (x : Int) : Option Int := if x < 0 ∨ 8160 < x then some 7 else none
def derL (salt secret info : List UInt8) (x : Int) : List UInt8 := if x < 0 ∨ 8160 < x then [] else deriveF salt secret info x.toNat
theorem derE_ne (x : Int) : derE x ≠ some 0 := by rw [derE]; split <;> simp

theorem derive_any (a0 : Option Addr) (n0 c0 : Nat) (salt : List UInt8) (a1 : Option Addr) (n1 c1 : Nat) (secret : List UInt8) (a2 : Option Addr) (n2 c2 : Nat) (info : List UInt8) (x : Int) (w : World) (hK : KTab w) (hr0 : RdB w a0 n0 c0 salt) (hr1 : RdB w a1 n1 c1 secret) (hr2 : RdB w a2 n2 c2 info) (hb : n0 + n1 + n2 ≤ 1099511627776) :
    Calls Tryd.prog 28 #[.slice a0 n0 c0, .slice a1 n1 c1, .slice a2 n2 c2, .int .i64 x] w fun e w' =>
      ∃ a n c, e = .returned (.tuple #[.slice a n c, errV (derE x)]) ∧ FreshB w w' a n c (derL salt secret info x) := by
  refine (derive_spec a0 n0 c0 salt a1 n1 c1 secret a2 n2 c2 info x w hK hr0 hr1 hr2 hb).mono ?_
  rintro e w' (⟨hx, rfl, rfl⟩ | ⟨h0, h1, a, n, c, rfl, hf⟩)
  · refine ⟨none, 0, 0, ?_, ?_⟩
    · rw [derE, if_pos hx]
    · rw [derL, if_pos hx]; exact FreshB.nil _
  · have hx : ¬ (x < 0 ∨ 8160 < x) := by omega
    refine ⟨a, n, c, ?_, ?_⟩
    · rw [derE, if_neg hx]
    · rw [derL, if_neg hx]; exact hf

theorem rderive_any (a0 : Option Addr) (n0 c0 : Nat) (salt : List UInt8) (a1 : Option Addr) (n1 c1 : Nat) (secret : List UInt8) (a2 : Option Addr) (n2 c2 : Nat) (info : List UInt8) (x : Int) (w : World) (hr0 : RdB w a0 n0 c0 salt) (hr1 : RdB w a1 n1 c1 secret) (hr2 : RdB w a2 n2 c2 info) (hb : n0 + n1 + n2 ≤ 1099511627776) :
    Calls Tryd.prog 29 #[.slice a0 n0 c0, .slice a1 n1 c1, .slice a2 n2 c2, .int .i64 x] w fun e w' =>
      ∃ a n c, e = .returned (.tuple #[.slice a n c, .int .i64 ((derE x).getD 0)]) ∧ Chg [] w w' ∧ RdB w' a n c (derL salt secret info x) := by
  refine (rderive_spec a0 n0 c0 salt a1 n1 c1 secret a2 n2 c2 info x w hr0 hr1 hr2 hb).mono ?_
  rintro e w' (⟨hx, rfl, rfl⟩ | ⟨h0, h1, a, n, c, rfl, hc, hr⟩)
  · refine ⟨none, 0, 0, ?_, Chg.refl _ _, ?_⟩
    · rw [derE, if_pos hx]; rfl
    · rw [derL, if_pos hx]; exact rdB_nil0 _
  · have hx : ¬ (x < 0 ∨ 8160 < x) := by omega
    refine ⟨a, n, c, ?_, hc, ?_⟩
    · rw [derE, if_neg hx]; rfl
    · rw [derL, if_neg hx]; exact hr

/-- The cells of a Wanted. -/
def wantL (a0 : Option Addr) (n0 c0 : Nat) (a1 : Option Addr) (n1 c1 : Nat) (a2 : Option Addr) (n2 c2 : Nat) (x : Int) : List Value := [.slice a0 n0 c0, .slice a1 n1 c1, .slice a2 n2 c2, .int .i64 x]
theorem iA (w : World) : (isAgg 3).run Tryd.prog w = .ok false w := Tryd.isAgg3 w

theorem shaDerives_walk (a0 : Option Addr) (n0 c0 : Nat) (l0 : List UInt8) (a1 : Option Addr) (n1 c1 : Nat) (l1 : List UInt8) (a2 : Option Addr) (n2 c2 : Nat) (l2 : List UInt8) (x : Int) (w : World) (hK : KTab w) (hr0 : RdB w a0 n0 c0 l0) (hr1 : RdB w a1 n1 c1 l1) (hr2 : RdB w a2 n2 c2 l2) :
    Calls Tryd.prog 6 #[.agg (wantL a0 n0 c0 a1 n1 c1 a2 n2 c2 x).toArray] w fun e w' => e = .returned (.bool true) ∧ Chg [] w w' := by
  have e0 := hr0.lenB
  have e1 := hr1.lenB
  have e2 := hr2.lenB
  apply amphoralaw02_ShaDerives_vc
  obtain ⟨g1, w1, r1, h1⟩ := (St.start w).boxA 43 (wantL a0 n0 c0 a1 n1 c1 a2 n2 c2 x)
  refine ⟨g1, w1, r1, (alive_spec w1 (hK.keep0 h1.chg)).mono ?_⟩
  rintro e w2 ⟨rfl, hc2⟩
  have h2 := h1.same hc2
  have L0 : ∀ w', Chg [] w2 w' → (Instr.loadAt 22 (.pointer (some ⟨g1, 0, none⟩))).run Tryd.prog w' = .ok (.slice a0 n0 c0) w' := fun w' hc => (h2.same hc).ldL (i := 0) (o := 0) rfl (bsA _) rfl rfl
  have L1 : ∀ w', Chg [] w2 w' → (Instr.loadAt 22 (.pointer (some ⟨g1, 1, none⟩))).run Tryd.prog w' = .ok (.slice a1 n1 c1) w' := fun w' hc => (h2.same hc).ldL (i := 0) (o := 1) rfl (bsA _) rfl rfl
  have L2 : ∀ w', Chg [] w2 w' → (Instr.loadAt 22 (.pointer (some ⟨g1, 2, none⟩))).run Tryd.prog w' = .ok (.slice a2 n2 c2) w' := fun w' hc => (h2.same hc).ldL (i := 0) (o := 2) rfl (bsA _) rfl rfl
  have L3 : ∀ w', Chg [] w2 w' → (Instr.loadAt 3 (.pointer (some ⟨g1, 3, none⟩))).run Tryd.prog w' = .ok (.int .i64 x) w' := fun w' hc => (h2.same hc).ldL (i := 0) (o := 3) rfl (iA _) rfl rfl
  obtain ⟨g3, w3, r3, h3⟩ := (St.start w2).lit bbT [.slice a0 n0 c0, .slice a1 n1 c1, .slice a2 n2 c2] (by simp [Value.oneCell']) (by simp)
  have d3 := h3.chg
  have k0 : ∀ w', Chg [] w2 w' → RdB w' a0 n0 c0 l0 := fun w' h => hr0.keep0 (h2.chg.trans h)
  have k1 : ∀ w', Chg [] w2 w' → RdB w' a1 n1 c1 l1 := fun w' h => hr1.keep0 (h2.chg.trans h)
  have k2 : ∀ w', Chg [] w2 w' → RdB w' a2 n2 c2 l2 := fun w' h => hr2.keep0 (h2.chg.trans h)
  have hz := Chg.refl [] w2
  refine ⟨_, rfl, fun h => by simp at h, fun _ => ⟨_, _, _, L0 _ hz, _, _, _, L1 _ hz, _, _, _, L2 _ hz, _, _, _, _, r3, (large_spec _ 3 3 _ [l0, l1, l2] w3 (h3.rd (i := 0) rfl) (row2_three (k0 _ d3) (k1 _ d3) (k2 _ d3)) (by decide)).mono ?_⟩⟩
  rintro e w4 ⟨rfl, rfl⟩
  refine ⟨_, rfl, fun _ => ⟨rfl, h2.chg.trans d3⟩, fun h => ?_⟩
  have hsm : n0 + n1 + n2 ≤ 65536 := by
    simp only [List.flatten_cons, List.flatten_nil, List.append_nil, List.length_append, decide_eq_false_iff_not] at h
    omega
  clear h
  have dd := d3.trans (Chg.drew [] _)
  refine ⟨fun w' => Chg [] w2 w', dd, _, _, _, fun w' h => L0 w' h, _, _, _, fun w' h => L1 w' h, _, _, _, fun w' h => L2 w' h, (copy_spec a0 n0 c0 l0 _ (k0 _ dd) (by omega)).mono ?_⟩
  rintro e w4 ⟨g4, c4, cur4, rfl, hc4, hg4, hm4⟩
  have d4 := dd.trans hc4
  refine ⟨_, _, _, rfl, fun w' => Chg [] w4 w', fun w' h => d4.trans h, Chg.refl _ _, (copy_spec a1 n1 c1 l1 w4 (k1 _ d4) (by omega)).mono ?_⟩
  rintro e w5 ⟨g5, c5, cur5, rfl, hc5, hg5, hm5⟩
  have d5 := d4.trans hc5
  refine ⟨_, _, _, rfl, fun w' => Chg [] w5 w', fun w' h => hc5.trans h, Chg.refl _ _, (copy_spec a2 n2 c2 l2 w5 (k2 _ d5) (by omega)).mono ?_⟩
  rintro e w6 ⟨g6, c6, cur6, rfl, hc6, hg6, hm6⟩
  have d6 := d5.trans hc6
  have mk4 : ∀ w', Chg [] w6 w' → MarkB w' g4 n0 c4 l0 cur4 := fun w' h => hm4.keep (((hc5.trans hc6).trans h).block g4 (getElem?_eq_some_iff.1 hm4.blk).1 (by simp))
  have mk5 : ∀ w', Chg [] w6 w' → MarkB w' g5 n1 c5 l1 cur5 := fun w' h => hm5.keep ((hc6.trans h).block g5 (getElem?_eq_some_iff.1 hm5.blk).1 (by simp))
  have mk6 : ∀ w', Chg [] w6 w' → MarkB w' g6 n2 c6 l2 cur6 := fun w' h => hm6.keep (h.block g6 (getElem?_eq_some_iff.1 hm6.blk).1 (by simp))
  have hz6 := Chg.refl [] w6
  refine ⟨_, _, _, rfl, fun w' => Chg [] w6 w', fun w' h => hc6.trans h, hz6, _, L3 _ d6, (derive_any _ n0 c4 l0 _ n1 c5 l1 _ n2 c6 l2 x w6 (hK.keep0 (h2.chg.trans d6)) (mk4 _ hz6).rd (mk5 _ hz6).rd (mk6 _ hz6).rd (by omega)).mono ?_⟩
  rintro e w7 ⟨a7, n7, c7, rfl, hf7⟩
  have t7 := hf7.1
  have d7 := d6.trans t7
  refine ⟨_, _, _, _, rfl, _, _, _, L0 _ d7, _, _, _, L1 _ d7, _, _, _, L2 _ d7, _, L3 _ d7, (rderive_any a0 n0 c0 l0 a1 n1 c1 l1 a2 n2 c2 l2 x w7 (k0 _ d7) (k1 _ d7) (k2 _ d7) (by omega)).mono ?_⟩
  rintro e w8 ⟨a8, n8, c8, rfl, hc8, hr8⟩
  have t8 := t7.trans hc8
  have d8 := d6.trans t8
  refine ⟨_, _, _, _, rfl, _, toStr bS bE sS (hf7.cells.keep0 hc8) hf7.rdB.lenB, _, toStr bS bE sS hr8.cells hr8.lenB, fun _ => ?_, fun h => by simp at h⟩
  refine (num_spec (derE x) w8 (derE_ne x)).mono ?_
  rintro e w9 ⟨rfl, rfl⟩
  refine ⟨_, rfl, fun _ => ⟨_, _, _, L0 _ d8, (kept_spec _ _ _ _ _ _ _ _ _ (mk4 _ t8) (k0 _ d8) (by omega)).mono ?_⟩, fun h => by simp at h⟩
  rintro e w9 ⟨rfl, rfl⟩
  refine ⟨_, rfl, fun _ => ⟨_, _, _, L1 _ d8, (kept_spec _ _ _ _ _ _ _ _ _ (mk5 _ t8) (k1 _ d8) (by omega)).mono ?_⟩, fun h => by simp at h⟩
  rintro e w9 ⟨rfl, rfl⟩
  refine ⟨_, rfl, fun _ => ⟨_, _, _, L2 _ d8, (kept_spec _ _ _ _ _ _ _ _ _ (mk6 _ t8) (k2 _ d8) (by omega)).mono ?_⟩, fun h => by simp at h⟩
  rintro e w9 ⟨rfl, rfl⟩
  exact ⟨_, rfl, rfl, h2.chg.trans d8⟩

end Go.Proofs.YtpodhfomjljfbaaDoor
