/- Contracts of amphoranum.Sum and Over (conditions: those that each theorem names). -/
import Derived.Test.YtmdandkoajocpaaGreatDoorLists
import Derived.Test.YtmdandkoajocpaaGreatDoorVnum
namespace Go.Proofs.YtmdandkoajocpaaGreatDoor
open Go Sx
set_option maxRecDepth 8000

theorem sum_spec (a : Option Addr) (n c : Nat) (vs : List Value) (ls : List (List UInt8)) (most : Nat) (w : World) (hr : Rd w a n c 1 vs) (h2 : Row2 w vs ls) (hb : most ≤ 4611686018427387904) (hn : n ≤ 4611686018427387904) :
    Calls Tryz.prog 36 #[.slice a n c, .int .i64 (most : Int)] w fun e w' => e = .returned (.int .i64 ((if ls.flatten.length ≤ most then ls.flatten.length else most : Nat) : Int)) ∧ w' = w := by
  have hln : ls.length = n := by have := hr.len; have := h2.len; omega
  apply amphoranum_Sum_vc
  refine ⟨fun x y w' => w' = w ∧ ∃ i : Nat, y = (i : Int) ∧ i ≤ n ∧ x = (((ls.take i).flatten.length : Nat) : Int) ∧ (ls.take i).flatten.length ≤ most, fun _ y _ => n - y.toNat, ⟨rfl, 0, rfl, by omega, by simp, by simp⟩, ?_⟩
  rintro x y w1 ⟨rfl, i, rfl, hi, rfl, hle⟩
  refine ⟨fun h => ?_, fun h => ?_⟩
  · have hi' : i < n := by simp at h; omega
    obtain ⟨b, o, a', n', c', ha, hv, hrd, hld⟩ := ixS hr.cells h2 (i := i) (by omega)
    have hl' := hrd.lenB
    have hf1 := flat_take (ls := ls) (i := i) (by omega)
    have hf2 := flat_take_le ls (i + 1)
    have hf3 := congrArg List.length hf1
    rw [List.length_append, hl'] at hf3
    have hw : IntKind.wrap .i64 ((most : Int) - (((ls.take i).flatten.length : Nat) : Int)) = ((most - (ls.take i).flatten.length : Nat) : Int) := by rw [wrap_i64 (by omega) (by omega)]; omega
    refine ⟨b, o, ha, by omega, by omega, _, _, _, hld w1 hr.cells, fun h => ?_, fun h => ?_⟩
    · rw [hw] at h
      have : most < n' + (ls.take i).flatten.length := by simp only [gt_iff_lt, decide_eq_true_eq] at h; omega
      rw [if_neg (by omega)]
      exact ⟨rfl, rfl⟩
    · rw [hw] at h
      have hm : n' + (ls.take i).flatten.length ≤ most := by simp only [gt_iff_lt, decide_eq_false_iff_not] at h; omega
      refine ⟨⟨rfl, i + 1, wrap_succ hi' hn, by omega, ?_, by omega⟩, mu_succ hi' hn⟩
      rw [wrap_i64 (by omega) (by omega), hf3]; omega
  · have hi' : i = n := by simp at h; omega
    rw [hi', ← hln, List.take_length] at hle ⊢
    rw [if_pos hle]
    exact ⟨rfl, rfl⟩

theorem Sx.St.ofRow {w : World} {e sz : Nat} {v : Value} {n : Nat} {xs : List Value} (h : w.ownsRow 0 e sz v n xs) : St w v.ownBlock.toList w [.row e sz v n xs] :=
  St.of_mem (Chg.refl _ _) (fun r hr => by simp at hr; subst hr; exact h) (fun r hr k hk => by simp at hr; subst hr; exact .inr hk) (by simp)

end Go.Proofs.YtmdandkoajocpaaGreatDoor
