/- Contracts of amphoranum.Sum and Over (conditions: those that each theorem names). -/
import Derived.Test.YtoijbpkplegnkaaLists
import Derived.Test.YtoijbpkplegnkaaVnum
namespace Go.Proofs.Ytoijbpkplegnkaa
open Go Sx
set_option maxRecDepth 8000

theorem Sx.St.ofRow {w : World} {e sz : Nat} {v : Value} {n : Nat} {xs : List Value} (h : w.ownsRow 0 e sz v n xs) : St w v.ownBlock.toList w [.row e sz v n xs] :=
  St.of_mem (Chg.refl _ _) (fun r hr => by simp at hr; subst hr; exact h) (fun r hr k hk => by simp at hr; subst hr; exact .inr hk) (by simp)

theorem over_spec (a : Option Addr) (n c : Nat) (l : List UInt8) (w : World) (hr : w.ownsRow 0 5 1 (.slice a n c) n (bv l)) (hb : n ≤ 4611686018427387904) :
    Calls Try.prog 14 #[.slice a n c] w fun e w' => e = .returned (.tuple #[]) ∧ Chg (Value.slice a n c).ownBlock.toList w w' := by
  have sB : ∀ w, (sizeOf 5).run Try.prog w = .ok 1 w := fun w => Try.sizeOf5 w
  apply amphoranum_Over_vc
  refine ⟨fun x w' => ∃ (i : Nat) (l' : List UInt8), x = (i : Int) ∧ i ≤ n ∧ St w (Value.slice a n c).ownBlock.toList w' [.row 5 1 (.slice a n c) n (bv l')], fun x _ => n - x.toNat, ⟨0, l, rfl, by omega, St.ofRow hr⟩, ?_⟩
  rintro x w1 ⟨i, l', rfl, hi, hS⟩
  have hown : w1.ownsRow 0 5 1 (.slice a n c) n (bv l') := hS.holds 0 _ rfl
  have hl : l'.length = n := by have := hown.1; simpa using this
  refine ⟨fun h => ?_, fun h => ⟨rfl, hS.chg⟩⟩
  have hi' : i < n := by simp at h; omega
  obtain ⟨g, rfl⟩ : ∃ g, a = some ⟨g, 0, none⟩ := by
    rcases hown.2 with ⟨_, h1⟩ | ⟨g, cap, cur, h0, _⟩
    · omega
    · simp only [Value.slice.injEq] at h0; exact ⟨g, h0.1⟩
  refine ixB (bA _) (hS.cells (i := 0) rfl) hl (by omega) (by omega) fun b o hbo => ?_
  simp only [Option.some.injEq, Addr.mk.injEq, and_true] at hbo
  obtain ⟨rfl, rfl⟩ := hbo
  obtain ⟨t, ht⟩ : ∃ t, l'.getD (i : Int).toNat 0 = t := ⟨_, rfl⟩
  have htl := t.toNat_lt
  have hx : bxor .u8 (t.toNat : Int) 255 = ((UInt8.ofNat (t.toNat ^^^ 255)).toNat : Int) := by
    rw [show (255 : Int) = ((255 : Nat) : Int) from rfl, bxor_nat rfl (by simp [kmod, IntKind.bits]; omega) (by simp [kmod, IntKind.bits])]
    have : t.toNat ^^^ 255 < 2 ^ 8 := Nat.xor_lt_two_pow (by omega) (by decide)
    rw [UInt8.toNat_ofNat', Nat.mod_eq_of_lt this]
  rw [ht, hx]
  obtain ⟨w2, r2, h2⟩ := hS.stRow (i := 0) (j := i) (T := 5) (v := .int .u8 ((UInt8.ofNat (t.toNat ^^^ 255)).toNat : Int)) rfl (sB _) hi' rfl
  rw [bv_set] at h2
  refine ⟨g, 0, rfl, by omega, by omega, w2, ?_, ⟨i + 1, _, wrap_succ hi' hb, by omega, h2⟩, mu_succ hi' hb⟩
  rw [show 0 + Int.toNat (i : Int) * 1 = i by omega]
  exact r2

end Go.Proofs.Ytoijbpkplegnkaa
