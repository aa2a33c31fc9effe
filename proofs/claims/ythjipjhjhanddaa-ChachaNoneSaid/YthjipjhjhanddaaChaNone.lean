/- The law ChachaNone answers true (conditions: none). -/
import Derived.Test.YthjipjhjhanddaaChaSeek
import Derived.Test.YthjipjhjhanddaaChaG
import Derived.Test.YthjipjhjhanddaaApart
namespace Go.Proofs.Ythjipjhjhanddaa
open Go Sx

theorem sxor_nil (a : Option Addr) (n c : Nat) (w : World) : Calls Try.prog 20 #[.pointer none, .slice a n c] w fun e w' => e = .returned (.tuple #[.slice none 0 0, errV (some 8)]) ∧ w' = w := by
  apply chacha_Stream_XOR_vc_nil
  exact ⟨rfl, rfl⟩
theorem seek_nil (x : Int) (w : World) : Calls Try.prog 18 #[.pointer none, .int .i64 x] w fun e w' => e = .returned (errV (some 8)) ∧ w' = w := by
  apply chacha_Stream_Seek_vc_nil
  exact ⟨rfl, rfl⟩
theorem at_nil (w : World) : Calls Try.prog 19 #[.pointer none] w fun e w' => e = .returned (.int .i64 0) ∧ w' = w := by
  apply chacha_Stream_At_vc_nil
  exact ⟨rfl, rfl⟩

/-- A Stream is made, and puts its bytes over some parts: a new row. -/
theorem newXor (key nonce : List UInt8) (w0 w : World) (M : List Res) (hS : St w0 [] w M) (hk : key.length = 32) (hn : nonce.length = 12) (gs : Nat) (w1 : World) (hnew : NewA w w1 gs 70 (streamL key nonce 0)) (vs : List Value) (ls : List (List UInt8)) (h2 : Row2 w1 vs ls)
    (hlen : ∀ l ∈ ls, l.length ≤ 9223372036854775807) (hv1 : ∀ v ∈ vs, v.oneCell' = true) (hvs : vs.length ≤ 16) (K : Ending → World → Prop) (g2 : Nat) (w2 : World)
    (hlit : St w0 [] w2 (M ++ [.arr gs 70 (streamL key nonce 0)] ++ [.row 29 1 (.slice (some ⟨g2, 0, none⟩) vs.length vs.length) vs.length vs])) (hc12 : Chg [] w1 w2)
    (hK : ∀ a n c e w', St w0 [] w' (M ++ [.row 5 1 (.slice a n c) n (bv (xorR key nonce 0 ls.flatten))]) → (xorR key nonce 0 ls.flatten).length = n → K (.returned (.tuple #[.slice a n c, e])) w') :
    Calls Try.prog 20 #[.pointer (some ⟨gs, 0, none⟩), .slice (some ⟨g2, 0, none⟩) vs.length vs.length] w2 K := by
  have row2 : Row2 w2 vs ls := ⟨h2.len, fun i hi => by obtain ⟨a, n, c, h3, h4⟩ := h2.rd i hi; exact ⟨a, n, c, h3, h4.keep0 hc12⟩⟩
  have hget : (M ++ [Res.arr gs 70 (streamL key nonce 0)])[M.length]? = some (.arr gs 70 (streamL key nonce 0)) := by rw [List.getElem?_append_right (Nat.le_refl _), Nat.sub_self]; rfl
  have hp := St.pop hlit
  have hg : w2.heap[gs]? = some (.cells (streamL key nonce 0).toArray 70) := hp.holds M.length _ hget
  refine (sxor_spec gs _ key nonce 0 _ _ _ vs ls w2 hk hn hg (by decide) hlit.rdLast (by omega) row2 hlen).mono ?_
  rintro e w3 ⟨a, n, c, rfl, hc3, hg3, hlen3, hrow3⟩
  have hu := hp.upd (i := M.length) (w' := w3) (r := .arr gs 70 (streamL key nonce 0)) (r' := .arr gs 70 _) hget hc3 hg3 (by simp [Res.fp])
  have hM : St w0 [] w3 M := by
    have e1 : (M ++ [Res.arr gs 70 (streamL key nonce 0)]).set M.length (.arr gs 70 (streamL key nonce (if roomF ((0 : Nat) : Int) ls.flatten.length then 0 + ls.flatten.length else 0))) = M ++ [.arr gs 70 (streamL key nonce (if roomF ((0 : Nat) : Int) ls.flatten.length then 0 + ls.flatten.length else 0))] := by
      rw [List.set_append_right _ _ (Nat.le_refl _), Nat.sub_self]; rfl
    rw [e1] at hu
    exact St.pop hu
  have hge := hp.chg.size
  refine hK a n c _ w3 (hM.addAt (ownsRow_base hrow3 (Nat.zero_le _)) (fun k hk' => ?_) (fun i r hi k hk1 hk2 => ?_)) hlen3
  · left
    have := (World.ownsRow.lt hrow3 k (by simpa [Res.fp] using hk')).1
    omega
  · have h1 := (World.ownsRow.lt hrow3 k (by simpa [Res.fp] using hk2)).1
    have h2 : M[i]? = some r := hi
    have h3 := Res.lt (hp.holds i r (by rw [List.getElem?_append_left (List.getElem?_eq_some_iff.1 h2).1]; exact h2)) k hk1
    omega

theorem litChg (vs : List Value) (h1 : ∀ v ∈ vs, v.oneCell' = true) (hb : vs.length ≤ 16777216) {w w' : World} {v : Value} (r : (Instr.buildSlice 54 vs.length ((vs.zipIdx 0).map fun p => (p.2, p.1)).toArray).run Try.prog w = .ok v w') : Chg [] w w' := by
  obtain ⟨g, w2, r2, k2⟩ := (St.start w).lit bbT vs h1 hb
  have := r.symm.trans r2
  simp only [Result.ok.injEq] at this
  rw [this.2]; exact k2.chg

theorem chachaNone_walk (key nonce : List UInt8) (x : Int) (a : Option Addr) (n c : Nat) (l : List UInt8) (w : World) (hk : key.length = 32) (hn : nonce.length = 12) (hx : -9223372036854775808 ≤ x ∧ x ≤ 9223372036854775807) (hr : RdB w a n c l) :
    Calls Try.prog 8 #[.agg (caseL key nonce x a n c).toArray] w fun e w' => e = .returned (.bool true) ∧ Chg [] w w' := by
  apply amphoralaw03_ChachaNone_vc
  have hl := hr.lenB
  obtain ⟨g1, w1, r1, h1⟩ := (St.start w).boxA (P := Try.prog) 31 (caseL key nonce x a n c)
  refine ⟨_, _, r1, (alive_spec _).mono ?_⟩
  rintro e w2 ⟨rfl, hc2⟩
  have h2 := h1.same hc2
  refine ⟨_, rfl, fun h => by simp at h, fun _ => ⟨_, _, _, case_data hk hn h2 (i := 0) rfl, fun _ => ⟨rfl, h2.chg⟩, fun hle => ?_⟩⟩
  have hb : n ≤ 4096 := by simp at hle; omega
  obtain ⟨g3, w3, r3, k3⟩ := h2.lit bbT [.slice a n c] (by simp [Value.oneCell']) (by simp)
  have h3 := St.pop k3
  refine ⟨_, _, _, case_data hk hn h2 (i := 0) rfl, _, _, _, _, r3, (sxor_nil _ _ _ w3).mono ?_⟩
  rintro e w4 ⟨rfl, rfl⟩
  refine ⟨_, _, _, _, rfl, fun b w' => b = false ∧ w' = w4, (num_spec (some 8) w4 (by decide)).mono ?_, ?_⟩
  · rintro e w5 ⟨rfl, rfl⟩
    refine ⟨_, rfl, fun h => by simp at h, fun _ => ⟨_, case_at hk hn h3 (i := 0) rfl, (seek_nil x w5).mono ?_⟩⟩
    rintro e w6 ⟨rfl, rfl⟩
    refine ⟨_, rfl, (num_spec (some 8) w6 (by decide)).mono ?_⟩
    rintro e w7 ⟨rfl, rfl⟩
    refine ⟨_, rfl, fun h => by simp at h, fun _ => (at_nil w7).mono ?_⟩
    rintro e w8 ⟨rfl, rfl⟩
    exact ⟨_, rfl, rfl, rfl⟩
  rintro b9 w9 ⟨rfl, rfl⟩
  refine ⟨fun h => (by cases h), fun _ => ⟨_, _, _, case_data hk hn h3 (i := 0) rfl, (copy_spec a n c l w9 (h3.rd1 hr) (by omega)).mono ?_⟩⟩
  rintro e w10 ⟨g, c10, cur, rfl, hc10, hg, hm⟩
  have h10 := h3.add (r := .blk g (.cells cur 5 (0, 0))) hc10 hm.blk (by simp [Res.fp]; exact hg)
  refine ⟨_, _, _, rfl, _, case_key hk h10 (i := 0) rfl, _, case_nonce hk hn h10 (i := 0) rfl, (xor_spec key nonce 5 _ _ _ l w10 hk hn (by decide) (by decide) hm.rd (by omega)).mono ?_⟩
  rintro e w11 ⟨a11, n11, c11, rfl, f11⟩
  have h11 := f11.add h10
  refine ⟨_, _, _, _, rfl, _, case_key hk h11 (i := 0) rfl, _, case_nonce hk hn h11 (i := 0) rfl, (new_spec key nonce w11 hk hn).mono ?_⟩
  rintro e w12 ⟨gs, rfl, hnew⟩
  have h12 := hnew.add h11
  obtain ⟨g13, w13, r13, k13⟩ := h12.lit bbT [.slice (some ⟨g, 0, none⟩) n c10] (by simp [Value.oneCell']) (by simp)
  have hm12 : RdB w12 (some ⟨g, 0, none⟩) n c10 l := hm.rd.keep0 (f11.1.trans hnew.chg)
  refine ⟨_, _, rfl, _, _, _, _, r13, newXor key nonce w w11 _ h11 hk hn gs w12 hnew [.slice (some ⟨g, 0, none⟩) n c10] [l] ⟨rfl, fun i hi => ?_⟩ (fun l' hl' => ?_) (by simp [Value.oneCell']) (by simp) _ g13 w13 k13 (litChg _ (by simp [Value.oneCell']) (by simp) r13) fun a14 n14 c14 e14 w14 h14 hl14 => ?_⟩
  · have : i = 0 := by simpa using hi
    subst this
    exact ⟨_, _, _, rfl, hm12⟩
  · simp at hl'; subst hl'; omega
  refine ⟨_, _, _, _, rfl, _, case_key hk h14 (i := 0) rfl, _, case_nonce hk hn h14 (i := 0) rfl, (new_spec key nonce w14 hk hn).mono ?_⟩
  rintro e w15 ⟨gs2, rfl, hnew2⟩
  have h15 := hnew2.add h14
  obtain ⟨g16, w16, r16, k16⟩ := h15.lit bbT [.slice (some ⟨g, 0, none⟩) n c10, .slice none 0 0] (by simp [Value.oneCell']) (by simp)
  have hm14 : MarkB w14 g n c10 l cur := hm.keep (by rw [hm.blk]; exact h14.holds 1 _ rfl)
  have hm15 : RdB w15 (some ⟨g, 0, none⟩) n c10 l := hm14.rd.keep0 hnew2.chg
  refine ⟨_, _, rfl, _, _, _, _, r16, newXor key nonce w w14 _ h14 hk hn gs2 w15 hnew2 [.slice (some ⟨g, 0, none⟩) n c10, .slice none 0 0] [l, []] ⟨rfl, fun i hi => ?_⟩ (fun l' hl' => ?_) (by simp [Value.oneCell']) (by simp) _ g16 w16 k16 (litChg _ (by simp [Value.oneCell']) (by simp) r16) fun a17 n17 c17 e17 w17 h17 hl17 => ?_⟩
  · rcases i with _ | _ | i
    · exact ⟨_, _, _, rfl, hm15⟩
    · exact ⟨none, 0, 0, rfl, ⟨Cells.nil _ _, rfl, Nat.le_refl _, fun _ => rfl⟩⟩
    · exfalso; simp only [List.length_cons, List.length_nil] at hi; omega
  · simp at hl'
    rcases hl' with rfl | rfl
    · omega
    · simp
  obtain ⟨g18, w18, r18, h18⟩ := h17.lit bbT [.slice a11 n11 c11, .slice a14 n14 c14, .slice a17 n17 c17] (by simp [Value.oneCell']) (by simp)
  refine ⟨_, _, _, _, rfl, _, _, _, _, r18, ?_⟩
  have q11 := f11.2.1
  obtain ⟨l1, hl1⟩ : ∃ l1, xorR key nonce 5 l = l1 := ⟨_, rfl⟩
  obtain ⟨l2, hl2⟩ : ∃ l2, xorR key nonce 0 [l].flatten = l2 := ⟨_, rfl⟩
  obtain ⟨l3, hl3⟩ : ∃ l3, xorR key nonce 0 [l, []].flatten = l3 := ⟨_, rfl⟩
  rw [hl1] at q11 h18
  rw [hl2] at hl14 h18
  rw [hl3] at hl17 h18
  subst q11 hl14 hl17
  have hb1 : l1.length ≤ 1099511627776 := by rw [← hl1]; unfold xorR; split <;> simp <;> omega
  have hb2 : l2.length ≤ 1099511627776 := by rw [← hl2]; unfold xorR; split <;> simp <;> omega
  have hb3 : l3.length ≤ 1099511627776 := by rw [← hl3]; unfold xorR; split <;> simp <;> omega
  obtain ⟨M, hM⟩ : ∃ M : List Res, M = [.arr g1 31 (caseL key nonce x a n c), .blk g (.cells cur 5 (0, 0)), .row 5 1 (.slice a11 l1.length c11) l1.length (bv l1), .row 5 1 (.slice a14 l2.length c14) l2.length (bv l2), .row 5 1 (.slice a17 l3.length c17) l3.length (bv l3), .row 29 1 (.slice (some ⟨g18, 0, none⟩) 3 3) 3 [.slice a11 l1.length c11, .slice a14 l2.length c14, .slice a17 l3.length c17]] := ⟨_, rfl⟩
  have h18' : St w [] w18 M := by rw [hM]; exact h18
  obtain ⟨F, hF⟩ : ∃ F : List Nat, F = (M.drop 2).flatMap Res.fp := ⟨_, rfl⟩
  have hFin : ∀ (i : Nat) (r : Res), 2 ≤ i → M[i]? = some r → ∀ k ∈ r.fp, k ∈ F := fun i r hi hr k hk => by
    rw [hF, List.mem_flatMap]
    exact ⟨r, List.mem_of_getElem? (i := i - 2) (by rw [List.getElem?_drop, show 2 + (i - 2) = i by omega]; exact hr), hk⟩
  have hFout : ∀ k ∈ F, ∃ (i : Nat) (r : Res), 2 ≤ i ∧ M[i]? = some r ∧ k ∈ r.fp := fun k hk => by
    rw [hF, List.mem_flatMap] at hk
    obtain ⟨r, h1, h2⟩ := hk
    obtain ⟨i, hi⟩ := List.getElem?_of_mem h1
    rw [List.getElem?_drop] at hi
    exact ⟨2 + i, r, by omega, hi, h2⟩
  have hp : St w18 F w18 (.row 29 1 (.slice (some ⟨g18, 0, none⟩) 3 3) 3 [.slice a11 l1.length c11, .slice a14 l2.length c14, .slice a17 l3.length c17] :: rowsL [.slice a11 l1.length c11, .slice a14 l2.length c14, .slice a17 l3.length c17] [l1, l2, l3]) := by
    refine h18'.part [5, 2, 3, 4] _ F (fun i r hi => ?_) (fun i l j hi hl => ?_) (fun i r hi k hk => ?_)
    · rcases i with _ | _ | _ | _ | i
      · exact ⟨5, rfl, by rw [hM]; exact hi⟩
      · exact ⟨2, rfl, by rw [hM]; exact hi⟩
      · exact ⟨3, rfl, by rw [hM]; exact hi⟩
      · exact ⟨4, rfl, by rw [hM]; exact hi⟩
      · simp [rowsL] at hi
    · rcases i with _ | _ | _ | _ | i <;> rcases l with _ | _ | _ | _ | l <;> simp at hi hl <;> omega
    · rcases i with _ | _ | _ | _ | i
      · exact hFin 5 r (by decide) (by rw [hM]; exact hi) k hk
      · exact hFin 2 r (by decide) (by rw [hM]; exact hi) k hk
      · exact hFin 3 r (by decide) (by rw [hM]; exact hi) k hk
      · exact hFin 4 r (by decide) (by rw [hM]; exact hi) k hk
      · simp [rowsL] at hi
  refine (apart_spec F _ 3 3 _ [l1, l2, l3] w18 hp rfl (fun i hi => ?_) (by decide) (fun i hi => ?_)).mono ?_
  · rcases i with _ | _ | _ | i
    · exact ⟨_, _, rfl⟩
    · exact ⟨_, _, rfl⟩
    · exact ⟨_, _, rfl⟩
    · exfalso; simp only [List.length_cons, List.length_nil] at hi; omega
  · rcases i with _ | _ | _ | i
    · exact hb1
    · exact hb2
    · exact hb3
    · exfalso; simp only [List.length_cons, List.length_nil] at hi; omega
  rintro e w19 ⟨rfl, hc19⟩
  have hge : ∀ k ∈ F, w.heap.size ≤ k := fun k hk => by
    obtain ⟨i, r, _, h1, h2⟩ := hFout k hk
    simpa using h18'.own i r h1 k h2
  have hc : Chg [] w w19 := h18'.chg.trans' hc19 fun k hk => .inl (hge k hk)
  have keep : ∀ (i : Nat) (b : Nat) (o : Obj), i < 2 → M[i]? = some (.blk b o) → w19.heap[b]? = some o := fun i b o hi hb => by
    rw [hc19.block b (getElem?_eq_some_iff.1 (h18'.holds i _ hb)).1 (fun hin => ?_)]
    · exact h18'.holds i _ hb
    · obtain ⟨j, r, h0, h1, h2⟩ := hFout b hin
      exact h18'.apart i j _ _ (by omega) hb h1 b (by simp [Res.fp]) h2
  have hg19 := keep 0 g1 _ (by decide) (by rw [hM]; rfl)
  have hm19 : MarkB w19 g n c10 l cur := hm.keep (by rw [hm.blk]; exact keep 1 g _ (by decide) (by rw [hM]; rfl))
  refine ⟨_, rfl, fun _ => ⟨_, _, _, case_data hk hn (St.ofBlk hg19) (i := 0) rfl, (kept_spec _ _ _ _ _ _ _ _ _ hm19 (hr.keep0 hc) (by omega)).mono ?_⟩, fun h => (by cases h)⟩
  rintro e w20 ⟨rfl, rfl⟩
  exact ⟨_, rfl, rfl, hc⟩

end Go.Proofs.Ythjipjhjhanddaa
