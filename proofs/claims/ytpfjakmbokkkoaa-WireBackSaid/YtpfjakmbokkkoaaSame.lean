/- The law's own "same" (conditions: those that the theorem names). -/
import Derived.Test.YtpfjakmbokkkoaaLists
import Derived.Test.YtpfjakmbokkkoaaVlaw04
namespace Go.Proofs.Ytpfjakmbokkkoaa
open Go Sx

theorem take_succ_inj {α : Type} {l m : List α} {i : Nat} (h1 : i < l.length) (h2 : i < m.length) (d : α) : l.take (i + 1) = m.take (i + 1) ↔ l.take i = m.take i ∧ l.getD i d = m.getD i d := by
  rw [List.take_add_one, List.take_add_one, List.getElem?_eq_getElem h1, List.getElem?_eq_getElem h2]
  simp only [Option.toList_some, List.getD_eq_getElem?_getD, List.getElem?_eq_getElem h1, List.getElem?_eq_getElem h2, Option.getD_some]
  constructor
  · intro h
    have := List.append_inj' h rfl
    simpa using this
  · rintro ⟨h3, h4⟩
    rw [h3, h4]

theorem same_spec (a : Option Addr) (n c : Nat) (vs : List Value) (ls : List (List UInt8)) (a2 : Option Addr) (n2 c2 : Nat) (vs2 : List Value) (ls2 : List (List UInt8)) (w : World) (hr : Rd w a n c 1 vs) (h2 : Row2 w vs ls) (hr2 : Rd w a2 n2 c2 1 vs2) (h22 : Row2 w vs2 ls2) (hb : n ≤ 4611686018427387904) :
    Calls Try.prog 25 #[.slice a n c, .slice a2 n2 c2] w fun e w' => e = .returned (.bool (decide (ls = ls2))) ∧ Chg [] w w' := by
  have hln : ls.length = n := by have := hr.len; have := h2.len; omega
  have hln2 : ls2.length = n2 := by have := hr2.len; have := h22.len; omega
  apply amphoralaw04_same_vc
  refine ⟨fun h => ?_, fun h => ?_⟩
  · have : ls ≠ ls2 := by rintro rfl; simp at h; omega
    exact ⟨by simp [this], Chg.refl _ _⟩
  · have hnn : n = n2 := by simp at h; omega
    refine ⟨fun x w' => ∃ i : Nat, x = (i : Int) ∧ i ≤ n ∧ Chg [] w w' ∧ ls.take i = ls2.take i, fun x _ => n - x.toNat, ⟨0, rfl, by omega, Chg.refl _ _, by simp⟩, ?_⟩
    rintro x w1 ⟨i, rfl, hi, hc1, ht⟩
    refine ⟨fun h => ?_, fun h => ?_⟩
    · have hi' : i < n := by simp at h; omega
      obtain ⟨b, o, a', n', c', ha, hv, hrd, hld⟩ := ixS hr.cells h2 (i := i) (by omega)
      obtain ⟨b2, o2, a2', n2', c2', ha2, hv2, hrd2, hld2⟩ := ixS hr2.cells h22 (i := i) (by omega)
      have hcd := hc1.trans (Chg.drew _ w1)
      refine ⟨fun w' => Chg [] w w', hcd, b, o, ha, by omega, by omega, b2, o2, ha2, by omega, by omega, a', n', c', fun w' h => hld w' (hr.cells.keep0 h), _, fun w' h => toStr bS bE sS (hrd.keep0 h).cells hrd.lenB,
        a2', n2', c2', fun w' h => hld2 w' (hr2.cells.keep0 h), _, fun w' h => toStr bS bE sS (hrd2.keep0 h).cells hrd2.lenB, fun h => ?_, fun h => ?_⟩
      · simp only [ByteArray.toList_mk] at h
        refine ⟨?_, hcd⟩
        have : ls ≠ ls2 := by rintro rfl; simp at h
        simp [this]
      · simp only [ByteArray.toList_mk] at h
        refine ⟨⟨i + 1, ?_, by omega, hcd, ?_⟩, ?_⟩
        · rw [wrap_i64 (by omega) (by omega)]; rfl
        · rw [take_succ_inj (by omega) (by omega) []]
          exact ⟨ht, by simpa using h⟩
        · show n - (IntKind.wrap .i64 ((i : Int) + 1)).toNat < n - ((i : Int)).toNat
          rw [wrap_i64 (by omega) (by omega)]; omega
    · have hi' : i = n := by simp at h; omega
      have : ls = ls2 := by rw [hi'] at ht; rwa [List.take_of_length_le (by omega), List.take_of_length_le (by omega)] at ht
      exact ⟨by simp [this], hc1⟩

end Go.Proofs.Ytpfjakmbokkkoaa
