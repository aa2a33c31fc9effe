/- The law ShaEquals answers true; a fixed digest (conditions: the table lies where the program laid it). -/
import Derived.Test.YtefnlbgkfingfaaDoorShaD
import Derived.Test.YtefnlbgkfingfaaDoorNum
import Derived.Test.YtefnlbgkfingfaaDoorSum
namespace Go.Proofs.YtefnlbgkfingfaaDoor
open Go Sx
set_option maxRecDepth 8000

theorem Row2.nil (w : World) : Row2 w [] [] := ⟨rfl, by simp⟩
theorem Row2.cons {w : World} {vs : List Value} {ls : List (List UInt8)} {a : Option Addr} {n c : Nat} {l : List UInt8} (h : RdB w a n c l) (h2 : Row2 w vs ls) : Row2 w (.slice a n c :: vs) (l :: ls) := by
  refine ⟨by simp [h2.len], fun i hi => ?_⟩
  cases i with
  | zero => exact ⟨a, n, c, rfl, h⟩
  | succ i => exact h2.rd i (by simpa using hi)

/-- []byte("..") of a row of one's own. -/
theorem convRow {w0 w : World} {M : List Res} (hS : St w0 [] w M) {i : Nat} {g n c : Nat} {l : List UInt8} (hi : M[i]? = some (.row 5 1 (.slice (some ⟨g, 0, none⟩) n c) n (bv l))) :
    ∃ w', (convert 23 23 (.slice (some ⟨g, 0, none⟩) n c)).run Tryd.prog w = .ok (.slice (some ⟨g, 0, none⟩) n c) w' ∧ Chg [] w0 w' ∧ RdB w' (some ⟨g, 0, none⟩) n c l := by
  have hown : w.ownsRow 0 5 1 (.slice (some ⟨g, 0, none⟩) n c) n (bv l) := hS.holds i _ hi
  have hge := hS.own i _ hi g (by simp [Res.fp, Value.ownBlock])
  simp only [List.not_mem_nil, or_false] at hge
  rcases hown.2 with ⟨hv, _⟩ | ⟨g', cap, cur, hv, _, hg, hle, _, hcs, ht⟩
  · simp at hv
  · simp only [Value.slice.injEq, Option.some.injEq, Addr.mk.injEq, and_true, true_and] at hv
    obtain ⟨rfl, rfl⟩ := hv
    have hglt := (Array.getElem?_eq_some_iff.1 hg).1
    refine ⟨w.freeze ⟨g, cur.size, none⟩ 1, ?_, ?_, ?_⟩
    · simp [convert, run_underlying bS, run_underlying bE, markStringish, World.shape?, hg]
    · refine hS.chg.trans' (X := []) (Y := [g]) ?_ (fun k hk => .inl (by simp at hk; omega))
      refine ⟨by simp [World.freeze], by simp [World.freeze], by simp [World.freeze], by simp [World.freeze], fun k _ hk => ?_⟩
      simp only [World.freeze, Nat.succ_ne_zero, if_false, Array.getElem?_modify]
      rw [if_neg (by simpa using fun h => hk (by simp [h]))]
    · have hg' : ∃ fr, (w.freeze ⟨g, cur.size, none⟩ 1).heap[g]? = some (.cells cur 5 fr) := by
        simp only [World.freeze, Nat.succ_ne_zero, if_false, Array.getElem?_modify, if_true, hg, Option.map_some]
        exact ⟨_, rfl⟩
      obtain ⟨fr, hg'⟩ := hg'
      have h1 := cells_blk (o := 0) (n := n) hg'
      rw [List.drop_zero, show cur.toList.take n = bv l by rw [← ht, Nat.mul_one]] at h1
      exact ⟨h1, by have := hown.1; simpa using this, hle, by simp⟩

theorem abc0 : ((shaF [97, 98, 99]).getD 0 0).toNat = 186 := by kernel_rfl
theorem abc1 : ((shaF [97, 98, 99]).getD 1 0).toNat = 120 := by kernel_rfl
theorem abc2 : ((shaF [97, 98, 99]).getD 2 0).toNat = 22 := by kernel_rfl
theorem abc3 : ((shaF [97, 98, 99]).getD 3 0).toNat = 191 := by kernel_rfl
theorem abc31 : ((shaF [97, 98, 99]).getD 31 0).toNat = 173 := by kernel_rfl

end Go.Proofs.YtefnlbgkfingfaaDoor
