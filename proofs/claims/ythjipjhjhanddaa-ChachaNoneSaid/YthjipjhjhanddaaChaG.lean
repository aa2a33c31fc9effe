/- The laws ChachaStreams, ChachaBack and ChachaWords answer true (conditions: none). -/
import Derived.Test.YthjipjhjhanddaaChaE
import Derived.Test.YthjipjhjhanddaaChaBlocks
namespace Go.Proofs.Ythjipjhjhanddaa
open Go Sx

/-- The cells of a Case. -/
def caseL (key nonce : List UInt8) (x : Int) (a : Option Addr) (n c : Nat) : List Value := bv key ++ bv nonce ++ [.int .i64 x, .slice a n c]

section
variable {key nonce : List UInt8} {x : Int} {a : Option Addr} {n c : Nat} {w0 w : World} {X : List Nat} {M : List Res}

theorem case_key (hk : key.length = 32) (h : St w0 X w M) {i g : Nat} {T : TypeId} (hi : M[i]? = some (.arr g T (caseL key nonce x a n c))) : (Instr.loadAt 22 (.pointer (some ⟨g, 0, none⟩))).run Try.prog w = .ok (.agg (bv key).toArray) w := by
  have rng := h.cellsA hi
  refine ldRange (fun j v hj => rng j v ?_) (e32 _) (Try.sizeOf22 _) (by simp [hk])
  rw [caseL, List.append_assoc, List.getElem?_append_left (List.getElem?_eq_some_iff.1 hj).1]; exact hj

theorem case_nonce (hk : key.length = 32) (hn : nonce.length = 12) (h : St w0 X w M) {i g : Nat} {T : TypeId} (hi : M[i]? = some (.arr g T (caseL key nonce x a n c))) : (Instr.loadAt 24 (.pointer (some ⟨g, 32, none⟩))).run Try.prog w = .ok (.agg (bv nonce).toArray) w := by
  have rng := h.cellsA hi
  refine ldRange (fun j v hj => ?_) (e12 _) (Try.sizeOf24 _) (by simp [hn])
  have hjl := (List.getElem?_eq_some_iff.1 hj).1
  have := rng (32 + j) v (by rw [caseL, List.append_assoc, List.getElem?_append_right (by simp [hk]), bv_length, hk, Nat.add_sub_cancel_left, List.getElem?_append_left hjl]; exact hj)
  rw [Nat.zero_add] at this; exact this

theorem case_at (hk : key.length = 32) (hn : nonce.length = 12) (h : St w0 X w M) {i g : Nat} {T : TypeId} (hi : M[i]? = some (.arr g T (caseL key nonce x a n c))) : (Instr.loadAt 3 (.pointer (some ⟨g, 44, none⟩))).run Try.prog w = .ok (.int .i64 x) w :=
  h.ldL hi (Try.isAgg3 _) rfl (by rw [caseL, List.getElem?_append_right (by simp [hk, hn])]; simp [hk, hn])

theorem case_data (hk : key.length = 32) (hn : nonce.length = 12) (h : St w0 X w M) {i g : Nat} {T : TypeId} (hi : M[i]? = some (.arr g T (caseL key nonce x a n c))) : (Instr.loadAt 29 (.pointer (some ⟨g, 45, none⟩))).run Try.prog w = .ok (.slice a n c) w :=
  h.ldL hi (Try.isAgg29 _) rfl (by rw [caseL, List.getElem?_append_right (by simp [hk, hn])]; simp [hk, hn])
end

theorem xorE_ne (x : Int) (n : Nat) : xorE x n ≠ some 0 := by unfold xorE; split <;> simp

theorem chachaStreams_walk (key nonce : List UInt8) (x : Int) (a : Option Addr) (n c : Nat) (l : List UInt8) (w : World) (hk : key.length = 32) (hn : nonce.length = 12) (hx : -9223372036854775808 ≤ x ∧ x ≤ 9223372036854775807) (hr : RdB w a n c l) :
    Calls Try.prog 4 #[.agg (caseL key nonce x a n c).toArray] w fun e w' => e = .returned (.bool true) ∧ Chg [] w w' := by
  apply amphoralaw03_ChachaStreams_vc
  have hl := hr.lenB
  obtain ⟨g1, w1, r1, h1⟩ := (St.start w).boxA (P := Try.prog) 31 (caseL key nonce x a n c)
  refine ⟨_, _, r1, (alive_spec _).mono ?_⟩
  rintro e w2 ⟨rfl, hc2⟩
  have h2 := h1.same hc2
  refine ⟨_, rfl, fun h => by simp at h, fun _ => ⟨_, _, _, case_data hk hn h2 (i := 0) rfl, fun _ => ⟨rfl, h2.chg⟩, fun hle => ?_⟩⟩
  have hb : n ≤ 16384 := by simp at hle; omega
  refine ⟨_, _, _, case_data hk hn h2 (i := 0) rfl, (copy_spec a n c l w2 (h2.rd1 hr) (by omega)).mono ?_⟩
  rintro e w3 ⟨g, c3, cur, rfl, hc3, hg, hm⟩
  have h3 := h2.same hc3
  refine ⟨_, _, _, rfl, _, case_key hk h3 (i := 0) rfl, _, case_nonce hk hn h3 (i := 0) rfl, _, case_at hk hn h3 (i := 0) rfl, (xor_spec key nonce x _ _ _ l w3 hk hn hx.1 hx.2 hm.rd (by omega)).mono ?_⟩
  rintro e w4 ⟨a4, n4, c4, rfl, f4⟩
  have h4 := h3.same f4.1
  refine ⟨_, _, _, _, rfl, _, case_key hk h4 (i := 0) rfl, _, case_nonce hk hn h4 (i := 0) rfl, _, case_at hk hn h4 (i := 0) rfl, _, _, _, case_data hk hn h4 (i := 0) rfl, (rxor_spec key nonce x _ _ _ l w4 hk hn hx.1 hx.2 (h4.rd1 hr) (by omega)).mono ?_⟩
  rintro e w5 ⟨a5, n5, c5, rfl, f5⟩
  have h5 := h4.same f5.1
  refine ⟨_, _, _, _, rfl, _, toStr bS bE sS (f4.cells.keep0 f5.1) f4.2.1, _, toStr bS bE sS f5.cells f5.2.1, fun _ => (num_spec _ w5 (xorE_ne x n)).mono ?_, fun h => by simp at h⟩
  rintro e w6 ⟨rfl, rfl⟩
  refine ⟨_, rfl, fun _ => ⟨_, _, _, case_data hk hn h5 (i := 0) rfl, ?_⟩, fun h => by simp at h⟩
  have hm6 : MarkB w6 g n c3 l cur := hm.keep ((f4.1.trans f5.1).block g (by have := (getElem?_eq_some_iff.1 hm.blk).1; omega) (by simp))
  refine (kept_spec _ _ _ _ _ _ _ _ _ hm6 (h5.rd1 hr) (by omega)).mono ?_
  rintro e w7 ⟨rfl, rfl⟩
  exact ⟨_, rfl, rfl, h5.chg⟩

theorem xorL_twice (key nonce : List UInt8) (p : Nat) (l : List UInt8) : xorL key nonce p (xorL key nonce p l) = l := by
  apply List.ext_getElem?
  intro i
  by_cases h : i < l.length
  · rw [xorL_get (by simpa using h), List.getD, xorL_get h]
    simp [List.getD, h, UInt8.xor_assoc]
  · rw [List.getElem?_eq_none (by simp; omega), List.getElem?_eq_none (by omega)]

theorem xorL_piece (key nonce : List UInt8) (p i k : Nat) (l : List UInt8) : xorL key nonce (p + i) ((l.drop i).take k) = ((xorL key nonce p l).drop i).take k := by
  apply List.ext_getElem?
  intro j
  rw [List.getElem?_take, List.getElem?_drop]
  by_cases h : j < k
  · rw [if_pos h]
    by_cases h2 : i + j < l.length
    · rw [xorL_get (by simp; omega), xorL_get h2]
      simp [List.getD, List.getElem?_take, List.getElem?_drop, h, Nat.add_assoc]
    · rw [List.getElem?_eq_none (by simp; omega), List.getElem?_eq_none (by simp; omega)]
  · rw [if_neg h, List.getElem?_eq_none (by simp; omega)]

theorem FreshB.rd {w w' : World} {a : Option Addr} {n c : Nat} {l : List UInt8} (h : FreshB w w' a n c l) : RdB w' a n c l := ownsRow_rd (ownsRow_base h.2.2 (Nat.zero_le _))

theorem chachaBack_walk (key nonce : List UInt8) (x : Int) (a : Option Addr) (n c : Nat) (l : List UInt8) (p q : Int) (w : World) (hk : key.length = 32) (hn : nonce.length = 12) (hx : -9223372036854775808 ≤ x ∧ x ≤ 9223372036854775807) (hr : RdB w a n c l) :
    Calls Try.prog 5 #[.agg (caseL key nonce x a n c).toArray, .int .i64 p, .int .i64 q] w fun e w' => e = .returned (.bool true) ∧ Chg [] w w' := by
  apply amphoralaw03_ChachaBack_vc
  obtain ⟨_, hI⟩ := eI
  have hl := hr.lenB
  have hle0 := hr.le
  obtain ⟨g1, w1, r1, h1⟩ := (St.start w).boxA (P := Try.prog) 31 (caseL key nonce x a n c)
  refine ⟨_, _, r1, (alive_spec _).mono ?_⟩
  rintro e w2 ⟨rfl, hc2⟩
  have h2 := h1.same hc2
  refine ⟨_, rfl, fun h => by simp at h, fun _ => ⟨_, _, _, case_data hk hn h2 (i := 0) rfl, fun _ => ⟨rfl, h2.chg⟩, fun hle => ?_⟩⟩
  have hb : n ≤ 65536 := by simp at hle; omega
  refine ⟨_, case_key hk h2 (i := 0) rfl, _, case_nonce hk hn h2 (i := 0) rfl, _, case_at hk hn h2 (i := 0) rfl, _, _, _, case_data hk hn h2 (i := 0) rfl, (xor_spec key nonce x _ _ _ l w2 hk hn hx.1 hx.2 (h2.rd1 hr) (by omega)).mono ?_⟩
  rintro e w3 ⟨a3, n3, c3, rfl, f3⟩
  have h3 := h2.same f3.1
  refine ⟨_, _, _, _, rfl, _, neqS_nil hI (xorE x n) _ w3, fun ht => ?_, fun ht => ?_⟩
  · have hf : roomF x n = false := by
      cases hrf : roomF x n with
      | false => rfl
      | true => simp [xorE, hrf] at ht
    have h0 : n3 = 0 := by have := f3.2.1; rw [xorR, hl, hf] at this; simpa using this.symm
    subst h0
    refine ⟨fun _ => ⟨_, case_at hk hn h3 (i := 0) rfl, fun _ => ⟨rfl, h3.chg⟩, fun hx0 => ⟨_, case_at hk hn h3 (i := 0) rfl, _, _, _, case_data hk hn h3 (i := 0) rfl, ?_, h3.chg⟩⟩, fun h => by simp at h⟩
    have hx0' : 0 ≤ x := by simp at hx0; omega
    have : decide (x > IntKind.wrap .i64 ((274877906944 : Int) - (n : Int))) = true := by
      rw [wrap_i64 (by omega) (by omega)]
      simp only [roomF, Bool.and_eq_false_iff, decide_eq_false_iff_not] at hf
      rw [decide_eq_true_eq]
      omega
    rw [this]
  · have hf : roomF x n = true := by
      cases hrf : roomF x n with
      | true => rfl
      | false => simp [xorE, hrf] at ht
    have hx0 : 0 ≤ x ∧ x + n ≤ 274877906944 := by simpa [roomF] using hf
    obtain ⟨p0, rfl⟩ := Int.eq_ofNat_of_zero_le hx0.1
    have hR : xorR key nonce (p0 : Int) l = xorL key nonce p0 l := by rw [xorR, hl, hf, if_pos rfl, Int.toNat_natCast]
    rw [hR] at f3
    have hn3 : n3 = n := by have := f3.2.1; simp at this; omega
    subst hn3
    refine ⟨_, case_key hk h3 (i := 0) rfl, _, case_nonce hk hn h3 (i := 0) rfl, _, case_at hk hn h3 (i := 0) rfl, (xor_spec key nonce (p0 : Int) _ _ _ _ w3 hk hn hx.1 hx.2 f3.rd (by omega)).mono ?_⟩
    rintro e w4 ⟨a4, n4, c4, rfl, f4⟩
    have h4 := h3.same f4.1
    have hR2 : xorR key nonce (p0 : Int) (xorL key nonce p0 l) = l := by rw [xorR, xorL_len, hl, hf, if_pos rfl, Int.toNat_natCast, xorL_twice]
    rw [hR2] at f4
    have hE : xorE (p0 : Int) n3 = none := by simp [xorE, hf]
    refine ⟨_, _, _, _, rfl, fun b w' => b = false ∧ w' = w4, ⟨_, neqS_nil hI (xorE (p0 : Int) n3) _ w4, fun h => (by rw [hE] at h; cases h), fun _ => ⟨_, toStr bS bE sS f4.cells f4.2.1, _, _, _, case_data hk hn h4 (i := 0) rfl, _, toStr bS bE sS (h4.rd1 hr).cells hl, by simp⟩⟩, ?_⟩
    rintro b w5 ⟨rfl, rfl⟩
    refine ⟨fun h => (by cases h), fun _ => ⟨fun b w' => w' = w5 ∧ (b = false → 0 ≤ p ∧ p ≤ q ∧ q ≤ (n3 : Int)), ⟨fun hb => ⟨rfl, fun h => (by cases h)⟩, fun hb => ⟨_, _, _, case_data hk hn h4 (i := 0) rfl, rfl, fun h => ?_⟩⟩, ?_⟩⟩
    · simp only [Bool.or_eq_false_iff, decide_eq_false_iff_not] at hb h
      omega
    · rintro b w6 ⟨rfl, hb⟩
      refine ⟨fun _ => ⟨rfl, h4.chg⟩, fun hb' => ?_⟩
      obtain ⟨hp0, hpq, hqn⟩ := hb hb'
      obtain ⟨p, rfl⟩ := Int.eq_ofNat_of_zero_le hp0
      obtain ⟨q, rfl⟩ := Int.eq_ofNat_of_zero_le (show 0 ≤ q by omega)
      refine ⟨fun w' => St w [] w' [.arr g1 31 (caseL key nonce (p0 : Int) a n3 c)], h4.drew, _, fun w' h => case_key hk h (i := 0) rfl, _, fun w' h => case_nonce hk hn h (i := 0) rfl, _, fun w' h => case_at hk hn h (i := 0) rfl, _, _, _, fun w' h => case_data hk hn h (i := 0) rfl, by omega, by omega, by omega, fun a' hs => ?_⟩
      have hsub := (h4.drew.rd1 hr).sub (hh := q) hs (by simp only [Int.toNat_natCast]; omega) (by omega) (by omega) (Nat.le_refl _)
      simp only [Int.toNat_natCast, Nat.mul_one] at hsub ⊢
      rw [← bv_drop, ← bv_take] at hsub
      have hw : IntKind.wrap .i64 ((p0 : Int) + (p : Int)) = ((p0 + p : Nat) : Int) := by rw [wrap_i64 (by omega) (by omega)]; omega
      rw [hw]
      have hf2 : roomF ((p0 + p : Nat) : Int) (q - p) = true := by simp only [roomF, Bool.and_eq_true, decide_eq_true_eq]; omega
      refine (xor_spec key nonce ((p0 + p : Nat) : Int) _ _ _ _ _ hk hn (by omega) (by omega) hsub (by omega)).mono ?_
      rintro e w7 ⟨a7, n7, c7, rfl, f7⟩
      have h7 := h4.drew.same f7.1
      have hlp : ((l.drop p).take (q - p)).length = q - p := by simp; omega
      have hR7 : xorR key nonce ((p0 + p : Nat) : Int) ((l.drop p).take (q - p)) = ((xorL key nonce p0 l).drop p).take (q - p) := by rw [xorR, hlp, hf2, if_pos rfl, Int.toNat_natCast, xorL_piece]
      rw [hR7] at f7
      have hE7 : xorE ((p0 + p : Nat) : Int) (q - p) = none := by unfold xorE; rw [if_pos hf2]
      refine ⟨_, _, _, _, rfl, fun w' => St w [] w' [.arr g1 31 (caseL key nonce (p0 : Int) a n3 c)], fun _ h => h, h7, fun w' => Chg [] w7 w', Chg.drew _ _, _, fun w' _ => eqlS_nil hI (xorE ((p0 + p : Nat) : Int) (q - p)) _ w', fun _ => ?_, fun h => (by rw [hE7] at h; cases h)⟩
      have hle3 := f3.rd.le
      refine ⟨by omega, by omega, by omega, fun a'' hs' => ?_⟩
      have hc37 : Chg [] w3 w7 := ((f4.1.trans (Chg.drew [] w6)).trans f7.1)
      have hsub' := (f3.rd.keep0 hc37).sub (hh := q) hs' (by omega) (by omega) (by omega) (Nat.le_refl _)
      simp only [Int.toNat_natCast, Nat.mul_one] at hsub'
      rw [← bv_drop, ← bv_take] at hsub'
      exact ⟨_, fun w' h => toStr bS bE sS (f7.cells.keep0 h) f7.2.1, _, fun w' h => toStr bS bE sS (hsub'.cells.keep0 h) hsub'.lenB, by simp, h7.drew.chg⟩

end Go.Proofs.Ythjipjhjhanddaa
