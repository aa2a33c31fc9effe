/- Contracts of amphoranum.Sum and Over (conditions: those that each theorem names). -/
import Derived.Test.YtpodhfomjljfbaaDoorLists
import Derived.Test.YtpodhfomjljfbaaDoorVnum2
namespace Go.Proofs.YtpodhfomjljfbaaDoor
open Go Sx

theorem sum_spec (a : Option Addr) (n c : Nat) (vs : List Value) (ls : List (List UInt8)) (most : Nat) (w : World) (hr : Rd w a n c 1 vs) (h2 : Row2 w vs ls) (hb : most ≤ 4611686018427387904) (hn : n ≤ 4611686018427387904) :
    Calls Tryd.prog 18 #[.slice a n c, .int .i64 (most : Int)] w fun e w' => e = .returned (.int .i64 ((if ls.flatten.length ≤ most then ls.flatten.length else most : Nat) : Int)) ∧ w' = w := by
  have hln : ls.length = n := by have := hr.len; have := h2.len; omega
  apply amphoranum_Sum_vc
  refine ⟨fun x y w' => w' = w ∧ ∃ i : Nat, y = (i : Int) ∧ i ≤ n ∧ x = (((ls.take i).flatten.length : Nat) : Int) ∧ (ls.take i).flatten.length ≤ most, fun _ y _ => n - y.toNat, ⟨rfl, 0, rfl, by omega, by simp, by simp⟩, ?_⟩
  rintro x y w1 ⟨rfl, i, rfl, hi, rfl, hle⟩
  refine ⟨fun h => ?_, fun h => ?_⟩
  · have hi' : i < n := by simp at h; omega
    obtain ⟨b, o, a', n', c', ha, hv, hrd, hld⟩ := ixS hr.cells h2 (i := i) (by omega)
    have hl' := hrd.lenB
    have hf1 := flat_take (ls := ls) (i := i) (by omega)
    have hf2 := flat_take_le ls (i + 1)
    have hf3 := congrArg List.length hf1
    rw [List.length_append, hl'] at hf3
    have hw : IntKind.wrap .i64 ((most : Int) - (((ls.take i).flatten.length : Nat) : Int)) = ((most - (ls.take i).flatten.length : Nat) : Int) := by rw [wrap_i64 (by omega) (by omega)]; omega
    refine ⟨b, o, ha, by omega, by omega, _, _, _, hld w1 hr.cells, fun h => ?_, fun h => ?_⟩
    · rw [hw] at h
      have : most < n' + (ls.take i).flatten.length := by simp only [gt_iff_lt, decide_eq_true_eq] at h; omega
      rw [if_neg (by omega)]
      exact ⟨rfl, rfl⟩
    · rw [hw] at h
      have hm : n' + (ls.take i).flatten.length ≤ most := by simp only [gt_iff_lt, decide_eq_false_iff_not] at h; omega
      refine ⟨⟨rfl, i + 1, wrap_succ hi' hn, by omega, ?_, by omega⟩, mu_succ hi' hn⟩
      rw [wrap_i64 (by omega) (by omega), hf3]; omega
  · have hi' : i = n := by simp at h; omega
    rw [hi', ← hln, List.take_length] at hle ⊢
    rw [if_pos hle]
    exact ⟨rfl, rfl⟩

theorem Sx.St.ofRow {w : World} {e sz : Nat} {v : Value} {n : Nat} {xs : List Value} (h : w.ownsRow 0 e sz v n xs) : St w v.ownBlock.toList w [.row e sz v n xs] :=
  St.of_mem (Chg.refl _ _) (fun r hr => by simp at hr; subst hr; exact h) (fun r hr k hk => by simp at hr; subst hr; exact .inr hk) (by simp)

theorem over_spec (a : Option Addr) (n c : Nat) (l : List UInt8) (w : World) (hr : w.ownsRow 0 5 1 (.slice a n c) n (bv l)) (hb : n ≤ 4611686018427387904) :
    Calls Tryd.prog 21 #[.slice a n c] w fun e w' => e = .returned (.tuple #[]) ∧ Chg (Value.slice a n c).ownBlock.toList w w' := by
  have sB : ∀ w, (sizeOf 5).run Tryd.prog w = .ok 1 w := fun w => Tryd.sizeOf5 w
  apply amphoranum_Over_vc
  refine ⟨fun x w' => ∃ (i : Nat) (l' : List UInt8), x = (i : Int) ∧ i ≤ n ∧ St w (Value.slice a n c).ownBlock.toList w' [.row 5 1 (.slice a n c) n (bv l')], fun x _ => n - x.toNat, ⟨0, l, rfl, by omega, St.ofRow hr⟩, ?_⟩
  rintro x w1 ⟨i, l', rfl, hi, hS⟩
  have hown : w1.ownsRow 0 5 1 (.slice a n c) n (bv l') := hS.holds 0 _ rfl
  have hl : l'.length = n := by have := hown.1; simpa using this
  refine ⟨fun h => ?_, fun h => ⟨rfl, hS.chg⟩⟩
  have hi' : i < n := by simp at h; omega
  obtain ⟨g, rfl⟩ : ∃ g, a = some ⟨g, 0, none⟩ := by
    rcases hown.2 with ⟨_, h1⟩ | ⟨g, cap, cur, h0, _⟩
    · omega
    · simp only [Value.slice.injEq] at h0; exact ⟨g, h0.1⟩
  refine ixB (bA _) (hS.cells (i := 0) rfl) hl (by omega) (by omega) fun b o hbo => ?_
  simp only [Option.some.injEq, Addr.mk.injEq, and_true] at hbo
  obtain ⟨rfl, rfl⟩ := hbo
  obtain ⟨t, ht⟩ : ∃ t, l'.getD (i : Int).toNat 0 = t := ⟨_, rfl⟩
  have htl := t.toNat_lt
  have hx : bxor .u8 (t.toNat : Int) 255 = ((UInt8.ofNat (t.toNat ^^^ 255)).toNat : Int) := by
    rw [show (255 : Int) = ((255 : Nat) : Int) from rfl, bxor_nat rfl (by simp [kmod, IntKind.bits]; omega) (by simp [kmod, IntKind.bits])]
    have : t.toNat ^^^ 255 < 2 ^ 8 := Nat.xor_lt_two_pow (by omega) (by decide)
    rw [UInt8.toNat_ofNat', Nat.mod_eq_of_lt this]
  rw [ht, hx]
  obtain ⟨w2, r2, h2⟩ := hS.stRow (i := 0) (j := i) (T := 5) (v := .int .u8 ((UInt8.ofNat (t.toNat ^^^ 255)).toNat : Int)) rfl (sB _) hi' rfl
  rw [bv_set] at h2
  refine ⟨g, 0, rfl, by omega, by omega, w2, ?_, ⟨i + 1, _, wrap_succ hi' hb, by omega, h2⟩, mu_succ hi' hb⟩
  rw [show 0 + Int.toNat (i : Int) * 1 = i by omega]
  exact r2

end Go.Proofs.YtpodhfomjljfbaaDoor
