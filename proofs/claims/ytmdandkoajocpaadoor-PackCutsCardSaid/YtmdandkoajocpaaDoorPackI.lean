/- The law PackCuts (conditions: the table lies where the program laid it). -/
import Derived.Test.YtmdandkoajocpaaDoorPackH
namespace Go.Proofs.YtmdandkoajocpaaDoor
open Go Sx
set_option maxRecDepth 8000

theorem cut_string {b x : List UInt8} (h : x = b) : ((⟨x.toArray⟩ : ByteArray).toList == (⟨b.toArray⟩ : ByteArray).toList) = true := by subst h; simp

set_option maxHeartbeats 1000000 in
theorem packCuts_walk (a : Option Addr) (n c : Nat) (b : List UInt8) (r : RefD) (w : World) (hK : KTab w) (hr : RdB w a n c b) (hb : n ≤ 140737488351232) :
    Calls Tryd.prog 3 #[.slice a n c, .agg (refC r).toArray] w fun e w' => e = .returned (.bool true) ∧ Chg [] w w' := by
  obtain ⟨mI, hI⟩ := eI
  have hl := hr.lenB
  subst hl
  have hcap := hr.le
  have hak := r.ak
  have hlk := r.lk
  apply amphoralaw13_PackCuts_vc
  obtain ⟨g3, w1, r1, k1⟩ := (St.start w).boxA (P := Tryd.prog) 26 (refC r)
  have k1 : St w [] w1 [.arr g3 26 (refC r)] := k1
  refine ⟨g3, w1, r1, (alive13_spec w1 (hK.keep0 k1.chg)).mono ?_⟩
  rintro e w2 ⟨rfl, c2⟩
  have k2 := k1.same c2
  refine ⟨_, rfl, fun h => (by cases h), fun _ => (copy_spec a b.length c b w2 (hr.keep0 k2.chg) (by omega)).mono ?_⟩
  rintro e w3 ⟨g, cm, cur, rfl, c3, hg, hm⟩
  have k3 : St w [] w3 [.arr g3 26 (refC r), .blk g (.cells cur 5 (0, 0))] := k2.add c3 hm.blk (by simp [Res.fp]; exact hg)
  have ldR : ∀ {w' T}, St w [] w' (.arr g3 26 (refC r) :: T) → (Instr.loadAt 26 (.pointer (some ⟨g3, 0, none⟩))).run Tryd.prog w' = .ok (.agg (refC r).toArray) w' := fun h => h.ldA (i := 0) (l := refC r) rfl (rfA _) (rfS _) (refC_len r)
  refine ⟨_, _, _, rfl, _, ldR k3, (cut_spec13 _ b.length cm b r w3 hm.rd (by omega)).mono ?_⟩
  rintro e w4 ⟨a4, c4, rfl, hf4⟩
  have k4 : St w [] w4 [.arr g3 26 (refC r), .blk g (.cells cur 5 (0, 0)), .row 5 1 (.slice a4 (cutP b r).length c4) (cutP b r).length (bv (cutP b r))] := hf4.add k3
  refine ⟨_, _, _, _, rfl, _, ldR k4, (cut_spec13 _ b.length cm b r w4 (hm.of_blk' (k4.holds 1 _ rfl)).rd (by omega)).mono ?_⟩
  rintro e w5 ⟨a5, c5, rfl, hf5⟩
  have k5 : St w [] w5 [.arr g3 26 (refC r), .blk g (.cells cur 5 (0, 0)), .row 5 1 (.slice a4 (cutP b r).length c4) (cutP b r).length (bv (cutP b r)), .row 5 1 (.slice a5 (cutP b r).length c5) (cutP b r).length (bv (cutP b r))] := hf5.add k4
  obtain ⟨f1, f2, f3⟩ := refFld k5 (i := 0) rfl
  refine ⟨_, _, _, _, rfl, fun x w' => x = !cutOk b r ∧ w' = w5, ⟨_, f2, fun h => ⟨?_, rfl⟩, fun h1 => ⟨_, f3, fun h => ⟨?_, rfl⟩, fun h2 => ⟨_, f2, fun h => ⟨?_, rfl⟩, fun h3 => ⟨_, f3, _, f2, ?_, rfl⟩⟩⟩⟩, ?_⟩
  · have : ¬ 0 ≤ r.at_ := by simp at h; omega
    simp [cutOk, this]
  · have : ¬ 0 ≤ r.len := by simp at h; omega
    simp [cutOk, this]
  · have : ¬ r.at_ ≤ (b.length : Int) := by simp at h; omega
    simp [cutOk, this]
  · have q1 : 0 ≤ r.at_ := by simp at h1; omega
    have q2 : 0 ≤ r.len := by simp at h2; omega
    have q3 : r.at_ ≤ (b.length : Int) := by simp at h3; omega
    rw [wrap_i64 (by omega) (by omega)]
    simp only [cutOk, decide_eq_true q1, decide_eq_true q2, decide_eq_true q3, Bool.true_and]
    by_cases h : r.len ≤ (b.length : Int) - r.at_
    · rw [decide_eq_true h, decide_eq_false (by omega)]; rfl
    · rw [decide_eq_false h, decide_eq_true (by omega)]; rfl
  rintro x w6 ⟨rfl, rfl⟩
  refine ⟨fun h => ?_, fun h => ?_⟩
  · have hc : cutOk b r = false := by simpa using h
    have hp : cutP b r = [] := by rw [cutP, if_neg (by rw [hc]; simp)]
    rw [hp, hc]
    exact ⟨fun _ => ⟨_, eqlS_err hI (some 7) 7 _ _ _, rfl, k5.chg⟩, fun h => by simp at h⟩
  have hc : cutOk b r = true := by simpa using h
  have hp : cutP b r = (b.drop r.at_.toNat).take r.len.toNat := by rw [cutP, if_pos hc]
  have hc' := hc
  simp only [cutOk, Bool.and_eq_true, decide_eq_true_eq] at hc'
  obtain ⟨⟨⟨q1, q2⟩, q3⟩, q4⟩ := hc'
  have ew : IntKind.wrap .i64 (r.at_ + r.len) = r.at_ + r.len := wrap_i64 (by omega) (by omega)
  have hcl : (cutP b r).length = r.at_.toNat + r.len.toNat - r.at_.toNat := by rw [hp]; simp; omega
  rw [hc]
  have k6 := k5.drew
  let S : World → Prop := fun w' => St w [] w' [.arr g3 26 (refC r), .blk g (.cells cur 5 (0, 0)), .row 5 1 (.slice a4 (cutP b r).length c4) (cutP b r).length (bv (cutP b r)), .row 5 1 (.slice a5 (cutP b r).length c5) (cutP b r).length (bv (cutP b r))]
  have fld : ∀ w', S w' → (Instr.loadAt 3 (.pointer (some ⟨g3, 33, none⟩))).run Tryd.prog w' = .ok (.int .i64 r.at_) w' ∧ (Instr.loadAt 3 (.pointer (some ⟨g3, 34, none⟩))).run Tryd.prog w' = .ok (.int .i64 r.len) w' := fun w' hw => by
    obtain ⟨_, h2, h3⟩ := refFld hw (i := 0) rfl
    exact ⟨h2, h3⟩
  refine ⟨S, k6, _, fun w' _ => eqlS_nil hI none _ _, fun _ => ⟨_, fun w' hw => toStr bS bE sS ((Sx.St.rd hw (i := 2) (xs := bv (cutP b r)) rfl : RdB w' a4 (cutP b r).length c4 (cutP b r))).cells rfl, _, fun w' hw => (fld w' hw).1, _, fun w' hw => (fld w' hw).1, _, fun w' hw => (fld w' hw).2, ?_⟩, fun h => by simp at h⟩
  rw [ew]
  refine ⟨q1, by omega, by omega, fun t hs => ?_⟩
  have e1 : (r.at_ + r.len).toNat = r.at_.toNat + r.len.toNat := by omega
  have hsub : ∀ w', S w' → RdB w' t (cutP b r).length (c - r.at_.toNat) (cutP b r) := fun w' hw => by
    have hsub := Rd.sub (hr.keep0 (Sx.St.chg hw)) hs (hh := r.at_.toNat + r.len.toNat) (by omega) (by omega) (by omega) (Nat.le_refl _)
    have e2 : ((bv b).drop (r.at_.toNat * 1)).take ((r.at_.toNat + r.len.toNat - r.at_.toNat) * 1) = bv ((b.drop r.at_.toNat).take r.len.toNat) := by
      rw [Nat.mul_one, Nat.mul_one, Nat.add_sub_cancel_left, bv_take, bv_drop]
    rw [e2, ← hp, ← hcl] at hsub
    exact hsub
  rw [e1, ← hcl]
  refine ⟨_, fun w' hw => toStr bS bE sS (hsub w' hw).cells rfl, fun _ => ?_, fun h => by simp at h⟩
  obtain ⟨g7, w7, r7, k7⟩ := k6.lit bbT [.slice a4 (cutP b r).length c4, .slice a5 (cutP b r).length c5] (by simp [Value.oneCell']) (by simp)
  have k7 : St w [] w7 ([.arr g3 26 (refC r), .blk g (.cells cur 5 (0, 0))] ++ [.row 5 1 (.slice a4 (cutP b r).length c4) (cutP b r).length (bv (cutP b r)), .row 5 1 (.slice a5 (cutP b r).length c5) (cutP b r).length (bv (cutP b r)), .row 22 1 (.slice (some ⟨g7, 0, none⟩) 2 2) 2 [.slice a4 (cutP b r).length c4, .slice a5 (cutP b r).length c5]]) := k7
  have k7' := k7.perm (N := [.arr g3 26 (refC r), .blk g (.cells cur 5 (0, 0))] ++ [.row 22 1 (.slice (some ⟨g7, 0, none⟩) 2 2) 2 [.slice a4 (cutP b r).length c4, .slice a5 (cutP b r).length c5], .row 5 1 (.slice a4 (cutP b r).length c4) (cutP b r).length (bv (cutP b r)), .row 5 1 (.slice a5 (cutP b r).length c5) (cutP b r).length (bv (cutP b r))]) (List.Perm.append_left _ (List.perm_append_comm (l₁ := [_, _]) (l₂ := [_])))
  have q7 := (k7'.sub (List.sublist_append_right _ _)).self
  have hcb : (cutP b r).length ≤ b.length := by rw [hcl]; omega
  refine ⟨_, _, _, w7, r7, (apart_spec _ _ 2 2 [.slice a4 (cutP b r).length c4, .slice a5 (cutP b r).length c5] [cutP b r, cutP b r] w7 q7 rfl (fun i hi => ?_) (by decide) (fun i hi => ?_)).mono ?_⟩
  · rcases i with _ | _ | i
    · exact ⟨_, _, rfl⟩
    · exact ⟨_, _, rfl⟩
    · simp at hi; omega
  · rcases i with _ | _ | i
    · show (cutP b r).length ≤ _; omega
    · show (cutP b r).length ≤ _; omega
    · simp at hi; omega
  rintro e w8 ⟨rfl, c8⟩
  have k8 := Sx.St.callPart (M := [.arr g3 26 (refC r), .blk g (.cells cur 5 (0, 0))]) (N' := []) k7' (St.of_mem c8 (by simp) (by simp) (by simp))
  refine ⟨_, rfl, fun _ => (kept_spec g b.length cm a b.length c b cur w8 (hm.of_blk' (k8.holds 1 _ rfl)) (hr.keep0 k8.chg) (by omega)).mono ?_, fun h => by cases h⟩
  rintro e w9 ⟨rfl, rfl⟩
  exact ⟨_, rfl, rfl, k8.chg⟩

end Go.Proofs.YtmdandkoajocpaaDoor
