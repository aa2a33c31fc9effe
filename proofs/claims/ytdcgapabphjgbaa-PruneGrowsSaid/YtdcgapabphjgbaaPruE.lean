/- The law PruneGrows (conditions: none). -/
import Derived.Test.YtdcgapabphjgbaaPruD
namespace Go.Proofs.Ytdcgapabphjgbaa
open Go Sx
set_option maxRecDepth 8000

/-! ### in plain words -/
theorem andnK : ∀ k : Fin 6, ∀ u v : Fin (2 ^ k.1), bandn .i64 (u.1 : Int) (v.1 : Int) = 0 → bandn .i64 ((u.1 + 2 ^ k.1 : Nat) : Int) ((v.1 + 2 ^ k.1 : Nat) : Int) = 0 ∧ bandn .i64 (u.1 : Int) ((v.1 + 2 ^ k.1 : Nat) : Int) = 0 := by decide +kernel
theorem grows_bits {ns qs : List Int} {l : List SnapD} {L : List Nat} (h : ∀ k, (ns.getD k 0).toNat ≤ (qs.getD k 0).toNat) (i : Nat) : ∀ k, k ≤ 6 → bandn .i64 ((whyN ns l L k i : Nat) : Int) ((whyN qs l L k i : Nat) : Int) = 0
  | 0, _ => by simp only [whyN]; decide
  | k + 1, hk => by
    have ih := grows_bits (l := l) (L := L) h i k (by omega)
    obtain ⟨h1, h2⟩ := andnK ⟨k, by omega⟩ ⟨_, whyN_lt ns l L k i⟩ ⟨_, whyN_lt qs l L k i⟩ ih
    have hsub : i ∈ pickK ns l L k → i ∈ pickK qs l L k := pick_more _ L _ _ _ (h k) i
    rw [whyN, whyN]
    by_cases ha : i ∈ pickK ns l L k
    · rw [if_pos ha, if_pos (hsub ha)]; exact h1
    · rw [if_neg ha]
      by_cases hb : i ∈ pickK qs l L k
      · rw [if_pos hb]; exact h2
      · rw [if_neg hb]; exact ih

def growI (n m : Int) : Int := if n < (if (1048576 : Int) < m then (1048576 : Int) else m) then (if (1048576 : Int) < m then (1048576 : Int) else m) else n
theorem growI_le (n m : Int) : n ≤ growI n m := by unfold growI; split <;> omega
theorem grown_spec (n m : Int) (w : World) : Calls Try.prog 23 #[.int .i64 n, .int .i64 m] w fun e w' => e = .returned (.int .i64 (growI n m)) ∧ w' = w := by
  apply amphoralaw20_grown_vc
  exact ⟨rfl, rfl⟩
theorem polZ (w : World) : (zeroValue 23).run Try.prog w = .ok (.agg (iv [0, 0, 0, 0, 0, 0]).toArray) w := Try.zeroValue23 w
theorem long_spec (a : Option Addr) (n c : Nat) (w : World) : Calls Try.prog 8 #[.slice a n c] w fun e w' => e = .returned (.bool (decide ((n : Int) > 150))) ∧ w' = w := by
  apply amphoralaw20_long_vc
  exact ⟨rfl, rfl⟩

set_option maxHeartbeats 4000000 in
theorem pruneGrows_walk (p0 p1 p2 p3 p4 p5 q0 q1 q2 q3 q4 q5 : Int) (a : Option Addr) (n c : Nat) (l : List SnapD) (w : World) (hr : RdS w a n c l) :
    Calls Try.prog 5 #[.agg (iv [p0, p1, p2, p3, p4, p5]).toArray, .agg (iv [q0, q1, q2, q3, q4, q5]).toArray, .slice a n c] w fun e w' => e = .returned (.bool true) ∧ Chg [] w w' := by
  obtain ⟨mI, hI⟩ := eI
  have hln := hr.num (by decide)
  apply amphoralaw20_PruneGrows_vc
  obtain ⟨g3, w1, r1, k1⟩ := (St.start w).boxA (P := Try.prog) 23 (iv [p0, p1, p2, p3, p4, p5])
  obtain ⟨g4, w2, r2, k2⟩ := k1.boxA (P := Try.prog) 23 (iv [q0, q1, q2, q3, q4, q5])
  have k2 : St w [] w2 [.arr g3 23 (iv [p0, p1, p2, p3, p4, p5]), .arr g4 23 (iv [q0, q1, q2, q3, q4, q5])] := k2
  let S : World → Prop := fun w' => St w [] w' [.arr g3 23 (iv [p0, p1, p2, p3, p4, p5]), .arr g4 23 (iv [q0, q1, q2, q3, q4, q5])]
  refine ⟨g3, w1, r1, g4, w2, r2, (alive20_spec w2).mono ?_⟩
  rintro e w3 ⟨rfl, c3⟩
  refine ⟨_, rfl, fun h => (by cases h), fun _ => (long_spec a n c w3).mono ?_⟩
  rintro e w4 ⟨rfl, rfl⟩
  have k4 : S w4 := St.same k2 c3
  refine ⟨_, rfl, fun _ => ⟨rfl, Sx.St.chg k4⟩, fun hlong => ?_⟩
  have hn : n ≤ 150 := by simp at hlong; omega
  refine ⟨_, Sx.St.ldA k4 (i := 0) (l := iv [p0, p1, p2, p3, p4, p5]) rfl (poA _) (poS _) rfl, (why_spec [p0, p1, p2, p3, p4, p5] rfl a n c l w4 (hr.keep0 (Sx.St.chg k4)) (by omega)).mono ?_⟩
  rintro e w5 ⟨ra, rn, rc, v, rfl, c5, hv, _, hgood⟩
  have k5 : S w5 := Sx.St.same k4 c5
  have k5d : S w5.drew := Sx.St.drew k5
  obtain ⟨qs, hqs⟩ : ∃ qs, [growI p0 q0, growI p1 q1, growI p2 q2, growI p3 q3, growI p4 q4, growI p5 q5] = qs := ⟨_, rfl⟩
  obtain ⟨g9, w6, r6, k6⟩ := ((St.start w5).drew).zeroA polZ
  obtain ⟨w7, r7, k7⟩ := k6.stA (i := 0) (v := iv qs) rfl (poS _) rfl (by rw [← hqs]; rfl) (iv_one _)
  have k7 : St w5 [] w7 [.arr g9 23 (iv qs)] := k7
  have kS6 : S w6 := by
    have : Chg [] w5 w6 := k6.chg
    exact Sx.St.same k5 this
  refine ⟨_, _, _, _, rfl, fun xb xo w' => xo = 0 ∧ St w5 [] w' [.arr xb 23 (iv qs)], ⟨S, k5d,
    _, fun w' hw => Sx.St.ldL hw (i := 0) (o := 0) (v := .int .i64 p0) rfl (iA _) rfl rfl, _, fun w' hw => Sx.St.ldL hw (i := 1) (o := 0) (v := .int .i64 q0) rfl (iA _) rfl rfl,
    _, fun w' hw => Sx.St.ldL hw (i := 0) (o := 1) (v := .int .i64 p1) rfl (iA _) rfl rfl, _, fun w' hw => Sx.St.ldL hw (i := 1) (o := 1) (v := .int .i64 q1) rfl (iA _) rfl rfl,
    _, fun w' hw => Sx.St.ldL hw (i := 0) (o := 2) (v := .int .i64 p2) rfl (iA _) rfl rfl, _, fun w' hw => Sx.St.ldL hw (i := 1) (o := 2) (v := .int .i64 q2) rfl (iA _) rfl rfl,
    _, fun w' hw => Sx.St.ldL hw (i := 0) (o := 3) (v := .int .i64 p3) rfl (iA _) rfl rfl, _, fun w' hw => Sx.St.ldL hw (i := 1) (o := 3) (v := .int .i64 q3) rfl (iA _) rfl rfl,
    _, fun w' hw => Sx.St.ldL hw (i := 0) (o := 4) (v := .int .i64 p4) rfl (iA _) rfl rfl, _, fun w' hw => Sx.St.ldL hw (i := 1) (o := 4) (v := .int .i64 q4) rfl (iA _) rfl rfl,
    _, fun w' hw => Sx.St.ldL hw (i := 0) (o := 5) (v := .int .i64 p5) rfl (iA _) rfl rfl, _, fun w' hw => Sx.St.ldL hw (i := 1) (o := 5) (v := .int .i64 q5) rfl (iA _) rfl rfl, ?_⟩, ?_⟩
  · have last : ∀ {R : World → Prop} {S' : World → Prop}, R w7 → (∃ (t53 : Array Value), (∀ w' : World, S' w' → (Instr.build 23 #[(0, .int .i64 (growI p0 q0)), (1, .int .i64 (growI p1 q1)), (2, .int .i64 (growI p2 q2)), (3, .int .i64 (growI p3 q3)), (4, .int .i64 (growI p4 q4)), (5, .int .i64 (growI p5 q5))]).run Try.prog w' = .ok (.agg t53) w') ∧ (∃ w13 : World, (Instr.storeAt 23 (.pointer (some ⟨g9, 0, none⟩)) (.agg t53)).run Try.prog w6 = .ok () w13 ∧ R w13)) := fun hR => ⟨_, fun w' _ => pol_build6 _ _ _ _ _ _ w', w7, by rw [hqs]; exact r7, hR⟩
    have hJ : (0 : Nat) = 0 ∧ St w5 [] w7 [.arr g9 23 (iv qs)] := ⟨rfl, k7⟩
    refine ⟨(grown_spec _ _ _).mono ?_, ⟨g9, w6, r6, S, fun _ h => h, kS6, (grown_spec _ _ _).mono ?_⟩⟩
    · rintro e wx ⟨rfl, rfl⟩
      refine ⟨_, rfl, S, fun _ h => h, k5d, (grown_spec _ _ _).mono ?_, ⟨g9, w6, r6, S, fun _ h => h, kS6, (grown_spec _ _ _).mono ?_⟩⟩
      · rintro e wx ⟨rfl, rfl⟩
        refine ⟨_, rfl, S, fun _ h => h, k5d, (grown_spec _ _ _).mono ?_, ⟨g9, w6, r6, S, fun _ h => h, kS6, (grown_spec _ _ _).mono ?_⟩⟩
        · rintro e wx ⟨rfl, rfl⟩
          refine ⟨_, rfl, S, fun _ h => h, k5d, (grown_spec _ _ _).mono ?_, ⟨g9, w6, r6, S, fun _ h => h, kS6, (grown_spec _ _ _).mono ?_⟩⟩
          · rintro e wx ⟨rfl, rfl⟩
            refine ⟨_, rfl, S, fun _ h => h, k5d, (grown_spec _ _ _).mono ?_, ⟨g9, w6, r6, S, fun _ h => h, kS6, (grown_spec _ _ _).mono ?_⟩⟩
            · rintro e wx ⟨rfl, rfl⟩
              refine ⟨_, rfl, S, fun _ h => h, k5d, (grown_spec _ _ _).mono ?_, ⟨g9, w6, r6, S, fun _ h => h, kS6, (grown_spec _ _ _).mono ?_⟩⟩
              · rintro e wx ⟨rfl, rfl⟩
                exact ⟨_, rfl, S, fun _ h => h, k5d, _, fun w' _ => pol_build6 _ _ _ _ _ _ w', g9, w6, r6, S, fun _ h => h, kS6, w7, by rw [hqs]; exact r7, hJ⟩
              · rintro e wx ⟨rfl, rfl⟩
                exact ⟨_, rfl, S, fun _ h => h, kS6, last hJ⟩
            · rintro e wx ⟨rfl, rfl⟩
              refine ⟨_, rfl, S, fun _ h => h, kS6, (grown_spec _ _ _).mono ?_⟩
              rintro e wx ⟨rfl, rfl⟩
              exact ⟨_, rfl, S, fun _ h => h, kS6, last hJ⟩
          · rintro e wx ⟨rfl, rfl⟩
            refine ⟨_, rfl, S, fun _ h => h, kS6, (grown_spec _ _ _).mono ?_⟩
            rintro e wx ⟨rfl, rfl⟩
            refine ⟨_, rfl, S, fun _ h => h, kS6, (grown_spec _ _ _).mono ?_⟩
            rintro e wx ⟨rfl, rfl⟩
            exact ⟨_, rfl, S, fun _ h => h, kS6, last hJ⟩
        · rintro e wx ⟨rfl, rfl⟩
          refine ⟨_, rfl, S, fun _ h => h, kS6, (grown_spec _ _ _).mono ?_⟩
          rintro e wx ⟨rfl, rfl⟩
          refine ⟨_, rfl, S, fun _ h => h, kS6, (grown_spec _ _ _).mono ?_⟩
          rintro e wx ⟨rfl, rfl⟩
          refine ⟨_, rfl, S, fun _ h => h, kS6, (grown_spec _ _ _).mono ?_⟩
          rintro e wx ⟨rfl, rfl⟩
          exact ⟨_, rfl, S, fun _ h => h, kS6, last hJ⟩
      · rintro e wx ⟨rfl, rfl⟩
        refine ⟨_, rfl, S, fun _ h => h, kS6, (grown_spec _ _ _).mono ?_⟩
        rintro e wx ⟨rfl, rfl⟩
        refine ⟨_, rfl, S, fun _ h => h, kS6, (grown_spec _ _ _).mono ?_⟩
        rintro e wx ⟨rfl, rfl⟩
        refine ⟨_, rfl, S, fun _ h => h, kS6, (grown_spec _ _ _).mono ?_⟩
        rintro e wx ⟨rfl, rfl⟩
        refine ⟨_, rfl, S, fun _ h => h, kS6, (grown_spec _ _ _).mono ?_⟩
        rintro e wx ⟨rfl, rfl⟩
        exact ⟨_, rfl, S, fun _ h => h, kS6, last hJ⟩
    · rintro e wx ⟨rfl, rfl⟩
      refine ⟨_, rfl, S, fun _ h => h, kS6, (grown_spec _ _ _).mono ?_⟩
      rintro e wx ⟨rfl, rfl⟩
      refine ⟨_, rfl, S, fun _ h => h, kS6, (grown_spec _ _ _).mono ?_⟩
      rintro e wx ⟨rfl, rfl⟩
      refine ⟨_, rfl, S, fun _ h => h, kS6, (grown_spec _ _ _).mono ?_⟩
      rintro e wx ⟨rfl, rfl⟩
      refine ⟨_, rfl, S, fun _ h => h, kS6, (grown_spec _ _ _).mono ?_⟩
      rintro e wx ⟨rfl, rfl⟩
      refine ⟨_, rfl, S, fun _ h => h, kS6, (grown_spec _ _ _).mono ?_⟩
      rintro e wx ⟨rfl, rfl⟩
      exact ⟨_, rfl, S, fun _ h => h, kS6, last hJ⟩
  rintro xb xo w8 ⟨rfl, h8⟩
  have c58 := h8.chg
  have c08 : Chg [] w w8 := (Sx.St.chg k5).trans c58
  refine ⟨_, h8.ldA (i := 0) (l := iv qs) rfl (poA _) (poS _) (by rw [← hqs]; rfl), (why_spec qs (by rw [← hqs]; rfl) a n c l w8 (hr.keep0 c08) (by omega)).mono ?_⟩
  rintro e w9 ⟨sa, sn, sc, u, rfl, c9, hu, _, hgood2⟩
  have c09 := c08.trans c9
  refine ⟨_, _, _, _, rfl, fun x w' => w' = w9 ∧ (x = false → errW [p0, p1, p2, p3, p4, p5] l = none ∧ errW qs l = none), ⟨_, neqS_nil hI _ _ _, fun h => ⟨rfl, fun h => by cases h⟩, fun h1 => ⟨_, neqS_nil hI _ _ _, rfl, fun h2 => ?_⟩⟩, ?_⟩
  · constructor
    · cases h : errW [p0, p1, p2, p3, p4, p5] l <;> rw [h] at h1 <;> simp at h1 ⊢
    · cases h : errW qs l <;> rw [h] at h2 <;> simp at h2 ⊢
  rintro x w10 ⟨rfl, hx⟩
  refine ⟨fun _ => ⟨rfl, c09⟩, fun hf => ?_⟩
  obtain ⟨e1, e2⟩ := hx hf
  obtain ⟨rfl, L, hL, rfl⟩ := hgood e1
  obtain ⟨rfl, L2, hL2, rfl⟩ := hgood2 e2
  obtain rfl := hL.uniq hL2
  have hv10 := hv.keep0 (c58.trans c9)
  refine ⟨fun i w' => ∃ j : Nat, i = (j : Int) ∧ j ≤ sn ∧ Chg [] w10 w', fun i _ => sn - i.toNat, ⟨0, rfl, Nat.zero_le _, Chg.refl _ _⟩, ?_⟩
  rintro i w11 ⟨j, rfl, hj, c11⟩
  refine ⟨fun hlt => ?_, fun _ => ⟨rfl, c09.trans c11⟩⟩
  have hj' : j < sn := by simp at hlt; omega
  obtain ⟨b1, o1, hab1, hc1⟩ := (hv10.keep0 c11).cells.at_ (i := j) (v := .int .i64 ((whyN [p0, p1, p2, p3, p4, p5] l L 6 j : Nat) : Int)) (by rw [iv_get, outV_get _ _ _ _ (by omega)]; rfl)
  obtain ⟨b2, o2, hab2, hc2⟩ := (hu.keep0 c11).cells.at_ (i := j) (v := .int .i64 ((whyN qs l L 6 j : Nat) : Int)) (by rw [iv_get, outV_get _ _ _ _ (by omega)]; rfl)
  have keepc : ∀ {b o : Nat} {v : Value} {w'}, Chg [] w11 w' → w11.cell? ⟨b, o, none⟩ = some v → w'.cell? ⟨b, o, none⟩ = some v := fun {b o v w'} hc h => by
    have h1 : Cells w11 (some ⟨b, o, none⟩) [v] := .inr ⟨b, o, rfl, fun k x hk => by
      cases k with
      | zero => simp at hk; subst hk; exact h
      | succ k => simp at hk⟩
    obtain ⟨b', o', he, h3⟩ := (h1.keep0 hc).at_ (i := 0) rfl
    simp only [Option.some.injEq, Addr.mk.injEq] at he
    obtain ⟨rfl, rfl, _⟩ := he
    exact h3
  have hz : bandn .i64 ((whyN [p0, p1, p2, p3, p4, p5] l L 6 j : Nat) : Int) ((whyN qs l L 6 j : Nat) : Int) = 0 := by
    refine grows_bits (fun k => ?_) j 6 (by omega)
    rw [← hqs]
    match k with
    | 0 => exact Int.toNat_le_toNat (growI_le _ _)
    | 1 => exact Int.toNat_le_toNat (growI_le _ _)
    | 2 => exact Int.toNat_le_toNat (growI_le _ _)
    | 3 => exact Int.toNat_le_toNat (growI_le _ _)
    | 4 => exact Int.toNat_le_toNat (growI_le _ _)
    | 5 => exact Int.toNat_le_toNat (growI_le _ _)
    | k + 6 => exact Nat.le_refl _
  let S8 : World → Prop := fun w' => Chg [] w11 w'
  refine ⟨S8, Chg.drew _ _, b1, o1, hab1, by omega, by omega, b2, o2, hab2, by omega, by omega, _, fun w' hw => by rw [Int.toNat_natCast, Nat.mul_one]; exact ld1 (iA _) (keepc hw hc1), _, fun w' hw => by rw [Int.toNat_natCast, Nat.mul_one]; exact ld1 (iA _) (keepc hw hc2), fun h => ?_, fun _ => ⟨⟨j + 1, wrap_succ hj' (by omega), by omega, c11.trans (Chg.drew _ _)⟩, mu_succ hj' (by omega)⟩⟩
  rw [hz] at h; simp at h

end Go.Proofs.Ytdcgapabphjgbaa
