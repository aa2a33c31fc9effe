/- The law ChachaSeeks answers true (conditions: those that the theorem names). -/
import Derived.Test.YthjipjhjhanddaaChaS
import Derived.Test.YthjipjhjhanddaaChaBlocks
namespace Go.Proofs.Ythjipjhjhanddaa
open Go Sx

/-- A script of calls, in memory. -/
def OpsIn (w : World) (cs : List Value) (n : Nat) : Prop := ∀ i, i < n → ∃ (k x : Int) (a : Option Addr) (m c : Nat) (l : List UInt8), (cs.drop (3 * i)).take 3 = [.int .i64 k, .int .i64 x, .slice a m c] ∧ (-9223372036854775808 ≤ x ∧ x ≤ 9223372036854775807) ∧ RdB w a m c l

theorem Sx.Rd.upto {w : World} {a : Option Addr} {n c k : Nat} {cs : List Value} (h : Rd w a n c 1 cs) (hk : k ≤ n) : Rd w a k c 1 (cs.take k) := by
  refine ⟨?_, by rw [List.length_take, h.len]; omega, by have := h.le; omega, h.nil⟩
  rcases h.cells with h0 | ⟨b, o, ha, hr⟩
  · left; subst h0; simp
  · right
    refine ⟨b, o, ha, fun j v hj => ?_⟩
    rw [List.getElem?_take] at hj
    split at hj
    · exact hr j v hj
    · cases hj

theorem xorE_none {x : Int} {n : Nat} : (xorE x n).isNone = roomF x n := by unfold xorE; split <;> simp_all
theorem xorE_num {x : Int} {n : Nat} : (xorE x n).getD 0 = if roomF x n then 0 else 8 := by unfold xorE; split <;> rfl

theorem zeroOp (w : World) : (zeroValue 48).run Try.prog w = .ok (.agg ([.int .i64 0, .int .i64 0, .slice none 0 0] : List Value).toArray) w := Try.zeroValue48 w

theorem chachaSeeks_walk (key nonce : List UInt8) (a : Option Addr) (n c : Nat) (cs : List Value) (w : World) (hk : key.length = 32) (hn : nonce.length = 12) (hr : Rd w a n c 3 cs) (ho : OpsIn w cs n) :
    Calls Try.prog 7 #[.agg (bv key).toArray, .agg (bv nonce).toArray, .slice a n c] w fun e w' => e = .returned (.bool true) ∧ Chg [] w w' := by
  apply amphoralaw03_ChachaSeeks_vc
  obtain ⟨_, hI⟩ := eI
  have s32 : ∀ w, (sizeOf 22).run Try.prog w = .ok 32 w := fun w => Try.sizeOf22 w
  have s12 : ∀ w, (sizeOf 24).run Try.prog w = .ok 12 w := fun w => Try.sizeOf24 w
  have sO : ∀ w, (sizeOf 48).run Try.prog w = .ok 3 w := fun w => Try.sizeOf48 w
  have eO : ∀ w, (isAgg 48).run Try.prog w = .ok true w := fun w => Try.isAgg48 w
  have eN : ∀ w, (isAgg 3).run Try.prog w = .ok false w := fun w => Try.isAgg3 w
  have eSl : ∀ w, (isAgg 29).run Try.prog w = .ok false w := fun w => Try.isAgg29 w
  obtain ⟨g1, w1, r1, k1⟩ := (St.start w).boxA (P := Try.prog) 22 (bv key)
  obtain ⟨g2, w2, r2, k2⟩ := k1.boxA (P := Try.prog) 24 (bv nonce)
  refine ⟨_, _, r1, _, _, r2, (alive_spec _).mono ?_⟩
  rintro e w3 ⟨rfl, hc3⟩
  have k3 := k2.same hc3
  refine ⟨_, rfl, fun h => by simp at h, fun _ => ⟨_, k3.ldA (i := 0) rfl (e32 _) (s32 _) (by simp [hk]), _, k3.ldA (i := 1) rfl (e12 _) (s12 _) (by simp [hn]), (new_spec key nonce w3 hk hn).mono ?_⟩⟩
  rintro e w4 ⟨gs, rfl, hnew⟩
  have k4 := hnew.add k3
  refine ⟨_, _, rfl, fun _ => ⟨rfl, k4.chg⟩, fun hle => ?_⟩
  have hn100 : n ≤ 100 := by simp at hle; omega
  refine ⟨fun x y w' => ∃ p i : Nat, x = (p : Int) ∧ y = (i : Int) ∧ p ≤ 274877906944 ∧ i ≤ n ∧ St w [] w' [.arr g1 22 (bv key), .arr g2 24 (bv nonce), .arr gs 70 (streamL key nonce p)], fun _ y _ => n - y.toNat, ⟨0, 0, rfl, rfl, by omega, by omega, k4⟩, ?_⟩
  rintro x y w5 ⟨p, i, rfl, rfl, hp, hi, hS⟩
  refine ⟨fun h => ?_, fun h => ⟨rfl, hS.chg⟩⟩
  have hi' : i < n := by simp at h; omega
  obtain ⟨kd, x, a', m, c', l, hop, hx, hrd⟩ := ho i hi'
  have hml := hrd.lenB
  have hmc := hrd.le
  have e1 : IntKind.wrap .i64 ((i : Int) + 1) = ((i + 1 : Nat) : Int) := by rw [wrap_i64 (by omega) (by omega)]; rfl
  rw [e1]
  have hcl := hr.len
  have hlt : 3 * i + 3 ≤ cs.length := by omega
  have hne : cs ≠ [] := by intro h0; subst h0; simp at hlt
  rcases hr.cells with h0 | ⟨b, o, ha, hrng⟩
  · exact absurd h0 hne
  have rop : w5.rangeAt b (o + Int.toNat (i : Int) * 3) [.int .i64 kd, .int .i64 x, .slice a' m c'] := by
    refine hS.chg.range (fun j v hj => ?_) (by simp)
    rw [← hop, List.getElem?_take] at hj
    split at hj
    · rw [List.getElem?_drop] at hj
      have := hrng _ _ hj
      rw [show o + Int.toNat (i : Int) * 3 + j = o + (3 * i + j) by omega]; exact this
    · cases hj
  obtain ⟨g10, w6, r6, k6⟩ := hS.zeroA zeroOp
  obtain ⟨w7, r7, k7⟩ := k6.stA (i := 3) (v := [.int .i64 kd, .int .i64 x, .slice a' m c']) rfl (sO _) (by simp) (by simp) (by simp [Value.oneCell'])
  have ldK : ∀ w', w'.heap[g10]? = some (.cells ([.int .i64 kd, .int .i64 x, .slice a' m c'] : List Value).toArray 48) → (Instr.loadAt 3 (.pointer (some ⟨g10, 0, none⟩))).run Try.prog w' = .ok (.int .i64 kd) w' := fun w' h => (St.ofBlk h).ldL (i := 0) rfl (eN _) rfl rfl
  have ldX : ∀ w', w'.heap[g10]? = some (.cells ([.int .i64 kd, .int .i64 x, .slice a' m c'] : List Value).toArray 48) → (Instr.loadAt 3 (.pointer (some ⟨g10, 1, none⟩))).run Try.prog w' = .ok (.int .i64 x) w' := fun w' h => (St.ofBlk h).ldL (i := 0) rfl (eN _) rfl rfl
  have ldD : ∀ w', w'.heap[g10]? = some (.cells ([.int .i64 kd, .int .i64 x, .slice a' m c'] : List Value).toArray 48) → (Instr.loadAt 29 (.pointer (some ⟨g10, 2, none⟩))).run Try.prog w' = .ok (.slice a' m c') w' := fun w' h => (St.ofBlk h).ldL (i := 0) rfl (eSl _) rfl rfl
  have b7 := k7.holds 3 _ rfl
  refine ⟨b, o, ha, by omega, by omega, _, ldRange rop (eO _) (sO _) rfl, _, _, r6, _, r7, _, _, _, ldD w7 b7, fun _ => ⟨rfl, k7.chg⟩, fun hm => ?_⟩
  have hm' : m ≤ 4096 := by simp at hm; omega
  refine ⟨_, ldK w7 b7, fun _ => ?_, fun _ => ?_⟩
  · refine ⟨_, ldX w7 b7, (seek_spec gs _ key nonce p x w7 hk hn (k7.holds 2 _ rfl) hx.1 hx.2).mono ?_⟩
    rintro e w8 ⟨rfl, hc8, hg8⟩
    obtain ⟨q, hq⟩ : ∃ q, (if roomF x 0 then x.toNat else p) = q := ⟨_, rfl⟩
    rw [hq] at hg8
    have k8 := k7.upd (i := 2) (r' := .arr gs 70 (streamL key nonce q)) rfl hc8 hg8 (by simp [Res.fp])
    have b8 := k8.holds 3 _ rfl
    have hroom : roomF x 0 = (decide (0 ≤ x) && decide (x ≤ 274877906944)) := by simp [roomF]
    have hq2 : q ≤ 274877906944 := by
      rw [← hq]; split
      · rename_i hf; rw [hroom] at hf; simp only [Bool.and_eq_true, decide_eq_true_eq] at hf; omega
      · exact hp
    refine ⟨_, rfl, fun b w' => b = roomF x 0 ∧ w' = w8, ⟨_, ldX w8 b8, fun hx0 => ⟨_, ldX w8 b8, ?_, rfl⟩, fun hx0 => ⟨?_, rfl⟩⟩, ?_⟩
    · rw [hroom]; simp only [ge_iff_le] at hx0; simp [hx0]
    · rw [hroom]; simp only [ge_iff_le] at hx0; simp [hx0]
    rintro b9 w9 ⟨rfl, rfl⟩
    refine ⟨fun z w' => z = (q : Int) ∧ w' = w9, ⟨fun hf => ⟨_, ldX w9 b8, ?_, rfl⟩, fun hf => ⟨?_, rfl⟩⟩, ?_⟩
    · have hx0 : 0 ≤ x := by rw [hroom] at hf; simp at hf; exact hf.1
      rw [← hq, if_pos hf]; omega
    · rw [← hq, hf]; rfl
    rintro z w10 ⟨rfl, rfl⟩
    have kd10 := k8.drew
    have b10 := kd10.holds 3 _ rfl
    have hat : ∀ K : Ending → World → Prop, K (.returned (.int .i64 (q : Int))) w10.drew → Calls Try.prog 19 #[.pointer (some ⟨gs, 0, none⟩)] w10.drew K := fun K hK => (at_spec gs _ key nonce q w10.drew hk hn (kd10.holds 2 _ rfl)).mono fun e w' ⟨h1, h2⟩ => by rw [h1, h2]; exact hK
    have hnum : ∀ K : Ending → World → Prop, K (.returned (.int .i64 (if roomF x 0 then 0 else 8))) w10.drew → Calls Try.prog 15 #[errV (xorE x 0)] w10.drew K := fun K hK => (num_spec (xorE x 0) w10.drew (by unfold xorE; split <;> simp)).mono fun e w' ⟨h1, h2⟩ => by rw [h1, h2, xorE_num]; exact hK
    refine ⟨fun b w' => b = false ∧ w' = w10.drew, ⟨fun w' => w' = w10.drew, rfl, _, fun w' _ => eqlS_nil hI (xorE x 0) _ w', _, fun w' h => by rw [h]; exact ldX _ b10, fun hx0 => ⟨_, fun w' h => by rw [h]; exact ldX _ b10, fun hd => ?_, fun hd => ?_⟩, fun hx0 => ⟨fun hd => ?_, fun hd => ?_⟩⟩, ?_⟩
    · rw [xorE_none, hroom] at hd; simp only [ge_iff_le] at hx0; simp [hx0] at hd
    · refine hnum _ ⟨_, rfl, fun w' => w' = w10.drew, fun _ h => h, rfl, fun h8 => hnum _ ⟨_, rfl, fun w' => w' = w10.drew, fun _ h => h, rfl, fun h9 => ?_, fun _ => hat _ ⟨_, rfl, fun w' => w' = w10.drew, fun _ h => h, rfl, by simp, rfl⟩⟩, fun h8 => ⟨rfl, hat _ ⟨_, rfl, fun w' => w' = w10.drew, fun _ h => h, rfl, by simp, rfl⟩⟩⟩
      cases hf : roomF x 0 <;> simp [hf] at h8 h9
    · rw [xorE_none, hroom] at hd; simp only [ge_iff_le] at hx0; simp [hx0] at hd
    · refine hnum _ ⟨_, rfl, fun w' => w' = w10.drew, fun _ h => h, rfl, fun h8 => hnum _ ⟨_, rfl, fun w' => w' = w10.drew, fun _ h => h, rfl, fun h9 => ?_, fun _ => hat _ ⟨_, rfl, fun w' => w' = w10.drew, fun _ h => h, rfl, by simp, rfl⟩⟩, fun h8 => ⟨rfl, hat _ ⟨_, rfl, fun w' => w' = w10.drew, fun _ h => h, rfl, by simp, rfl⟩⟩⟩
      cases hf : roomF x 0 <;> simp [hf] at h8 h9
    rintro b11 w11 ⟨rfl, rfl⟩
    exact ⟨fun h => (by cases h), fun _ => ⟨⟨q, i + 1, rfl, rfl, hq2, by omega, St.pop (M := [_, _, _]) kd10⟩, by simp; omega⟩⟩
  · refine ⟨_, ldX w7 b7, _, _, _, ldD w7 b7, ?_⟩
    obtain ⟨K, hK, hKm⟩ : ∃ K : Nat, (if ((m : Nat) : Int) < (if x < (0 : Int) then (0 : Int) else x) then ((m : Nat) : Int) else (if x < (0 : Int) then (0 : Int) else x)) = (K : Int) ∧ K ≤ m := by
      by_cases hx0 : x < 0
      · exact ⟨0, by simp [hx0]; omega, by omega⟩
      · by_cases hxm : (m : Int) < x
        · exact ⟨m, by simp [hx0, hxm], by omega⟩
        · exact ⟨x.toNat, by simp [hx0, hxm]; omega, by omega⟩
    simp only [hK, Int.toNat_natCast]
    have kd7 := k7.drew
    have bb : ∀ w', w'.heap[g10]? = some (.cells ([.int .i64 kd, .int .i64 x, .slice a' m c'] : List Value).toArray 48) → (Instr.loadAt 29 (.pointer (some ⟨g10, 2, none⟩))).run Try.prog w' = .ok (.slice a' m c') w' := ldD
    refine ⟨fun w' => w'.heap[g10]? = some (.cells ([.int .i64 kd, .int .i64 x, .slice a' m c'] : List Value).toArray 48), kd7.holds 3 _ rfl, _, _, _, bb, by omega, by omega, _, _, _, bb, by omega, by omega, by omega, fun a'' hs => ?_⟩
    have hrd7 := kd7.rd1 hrd
    have s1 := hrd7.upto hKm
    have s2 := hrd7.sub (hh := m) hs hKm (Nat.le_refl _) hmc (Nat.le_refl _)
    rw [Nat.mul_one, Nat.mul_one, ← bv_drop, ← bv_take] at s2
    rw [← bv_take] at s1
    obtain ⟨g20, w20, r20, k20⟩ := kd7.lit bbT [.slice a' K c', .slice a'' (m - K) (c' - K)] (by simp [Value.oneCell']) (by simp)
    have k20p := St.pop k20
    have c20 : Chg [] w7.drew w20 := by
      have := St.start w7.drew
      obtain ⟨g, w', r, k⟩ := this.lit bbT [.slice a' K c', .slice a'' (m - K) (c' - K)] (by simp [Value.oneCell']) (by simp)
      have e : w' = w20 := by
        have := r.symm.trans r20
        simp only [Result.ok.injEq] at this
        exact this.2
      rw [← e]; exact k.chg
    have r20r := k20.rdLast
    have hd : (l.drop K).take (m - K) = l.drop K := List.take_of_length_le (by simp; omega)
    rw [hd] at s2
    have row2 : Row2 w20 [.slice a' K c', .slice a'' (m - K) (c' - K)] [l.take K, l.drop K] := by
      refine ⟨rfl, fun j hj => ?_⟩
      rcases j with _ | _ | j
      · exact ⟨_, _, _, rfl, s1.keep0 c20⟩
      · exact ⟨_, _, _, rfl, s2.keep0 c20⟩
      · exfalso; simp only [List.length_cons, List.length_nil] at hj; omega
    have hfl : [l.take K, l.drop K].flatten = l := by simp
    refine ⟨_, _, _, _, r20, fun w' => w'.heap[g10]? = some (.cells ([.int .i64 kd, .int .i64 x, .slice a' m c'] : List Value).toArray 48), fun _ h => h, k20p.holds 3 _ rfl, ?_⟩
    refine (sxor_spec gs _ key nonce p _ _ _ _ [l.take K, l.drop K] w20 hk hn (k20p.holds 2 _ rfl) hp r20r (by simp) row2 (fun l' hl' => ?_)).mono ?_
    · simp at hl'
      rcases hl' with rfl | rfl
      · simp; omega
      · simp; omega
    rw [hfl, hml]
    rintro e w21 ⟨a21, n21, c21, rfl, hc21, hg21, hlen21, hrow21⟩
    obtain ⟨q, hq⟩ : ∃ q, (if roomF (p : Int) m then p + m else p) = q := ⟨_, rfl⟩
    rw [hq] at hg21
    have hq2 : q ≤ 274877906944 := by
      rw [← hq]; split
      · rename_i hf; simp only [roomF, Bool.and_eq_true, decide_eq_true_eq] at hf; omega
      · exact hp
    have k21 := k20p.upd (i := 2) (r' := .arr gs 70 (streamL key nonce q)) rfl hc21 hg21 (by simp [Res.fp])
    have b21 := k21.holds 3 _ rfl
    have hcells21 : Cells w21 a21 (bv (xorR key nonce p l)) := ownsRow_cells (ownsRow_base hrow21 (Nat.zero_le _))
    refine ⟨_, _, _, _, rfl, fun w' => w'.heap[g10]? = some (.cells ([.int .i64 kd, .int .i64 x, .slice a' m c'] : List Value).toArray 48), fun _ h => h, b21, _, k21.ldA (i := 0) rfl (e32 _) (s32 _) (by simp [hk]), _, k21.ldA (i := 1) rfl (e12 _) (s12 _) (by simp [hn]), _, _, _, ldD _ b21, ?_⟩
    refine (rxor_spec key nonce (p : Int) _ _ _ l w21 hk hn (by omega) (by omega) (k21.rd1 hrd) (by omega)).mono ?_
    rintro e w22 ⟨a22, n22, c22, rfl, f22⟩
    have k22 := k21.same f22.1
    have b22 := k22.holds 3 _ rfl
    have hnumv : (xorE (p : Int) m).getD 0 = if roomF (p : Int) m then 0 else 8 := xorE_num
    refine ⟨_, _, _, _, rfl, fun y w' => y = (q : Int) ∧ w' = w22, ⟨fun h0 => ⟨_, _, _, ldD _ b22, ?_, rfl⟩, fun h0 => ⟨?_, rfl⟩⟩, ?_⟩
    · have hf : roomF (p : Int) m = true := by
        cases hf : roomF (p : Int) m with
        | true => rfl
        | false => rw [hnumv, hf] at h0; simp at h0
      rw [← hq, if_pos hf, wrap_i64 (by omega) (by omega)]; omega
    · have hf : roomF (p : Int) m = false := by
        cases hf : roomF (p : Int) m with
        | false => rfl
        | true => rw [hnumv, hf] at h0; simp at h0
      rw [← hq, hf]; rfl
    rintro y w23 ⟨rfl, rfl⟩
    refine ⟨fun b w' => b = false ∧ w' = w23, ⟨_, toStr bS bE sS (hcells21.keep0 f22.1) hlen21, _, toStr bS bE sS f22.cells f22.2.1, fun h0 => by simp at h0, fun _ => ?_⟩, ?_⟩
    · refine (num_spec (xorE (p : Int) m) w23 (by unfold xorE; split <;> simp)).mono ?_
      rintro e w24 ⟨rfl, rfl⟩
      refine ⟨_, rfl, fun h0 => by simp at h0, fun _ => (at_spec gs _ key nonce q w24 hk hn (k22.holds 2 _ rfl)).mono ?_⟩
      rintro e w25 ⟨rfl, rfl⟩
      exact ⟨_, rfl, by simp, rfl⟩
    · rintro b26 w26 ⟨rfl, rfl⟩
      exact ⟨fun h => (by cases h), fun _ => ⟨⟨q, i + 1, rfl, rfl, hq2, by omega, St.pop (M := [_, _, _]) k22⟩, (by show n - (((i + 1 : Nat) : Int)).toNat < n - (((i : Nat) : Int)).toNat; omega)⟩⟩

end Go.Proofs.Ythjipjhjhanddaa
