/- What is held abides the bookkeeping of ranges over functions; marks are taken down (conditions: none; any program). -/
import Derived.Test.YtefnlbgkfingfaaDoorSxArr
import Derived.Test.YtefnlbgkfingfaaDoorSxD
import Derived.Test.YtefnlbgkfingfaaDoorLists
namespace Go.Proofs.YtefnlbgkfingfaaDoor.Sx
open Go
set_option maxRecDepth 8000

def Res.cellish : Res → Bool
  | .blk _ (.cells ..) => true
  | .row .. => true
  | _ => false

theorem Res.cellish_at {w : World} : ∀ {r : Res}, r.cellish = true → r.holds w → ∀ k ∈ r.fp, ∃ o, w.heap[k]? = some o ∧ o.isCells = true
  | .blk g o, hc, h, k, hk => by
    simp only [Res.fp, List.mem_singleton] at hk
    subst hk
    refine ⟨o, h, ?_⟩
    cases o <;> simp_all [Res.cellish, Obj.isCells]
  | .row e sz v n xs, _, h, k, hk => by
    simp only [Res.fp, Option.mem_toList] at hk
    rcases h.2 with ⟨hv, _⟩ | ⟨g, cap, cur, hv, _, hg, _⟩
    · subst hv; simp [Value.ownBlock] at hk
    · subst hv
      simp only [Value.ownBlock, Option.some.injEq] at hk
      subst hk
      exact ⟨_, hg, rfl⟩

section
variable {w0 w : World} {X : List Nat} {M : List Res}

/-- What is held is cells, or lies below B. -/
def Cellish (B : Nat) (M : List Res) : Prop := ∀ r ∈ M, r.cellish = true ∨ ∀ k ∈ r.fp, k < B

theorem Cellish.mono {B B' : Nat} (h : Cellish B M) (hb : B ≤ B') : Cellish B' M := fun r hr => (h r hr).imp id fun h k hk => Nat.lt_of_lt_of_le (h k hk) hb

theorem St.ownG {B : Nat} (h : St w0 X w M) (hB : w0.heap.size ≤ B) (hM : Cellish B M) {w' : World} {row : Option Nat} (hg : w.grownBy w' row) (hr : ∀ r, row = some r → B ≤ r ∧ ∃ o : Obj, w.heap[r]? = some o ∧ o.isCells = false) : St w0 X w' M := by
  refine ⟨h.chg.trans' (Chg.of_grown hg) (fun i hi => ?_), fun j s hj => Res.kept (h.holds j s hj) fun k hk => hg.block k (Res.lt (h.holds j s hj) k hk) fun e => ?_, h.own, h.apart⟩
  · left
    simp only [Option.mem_toList] at hi
    exact Nat.le_trans hB (hr i hi).1
  · obtain ⟨h1, o, h2, h3⟩ := hr k e.symm
    rcases hM s (List.mem_of_getElem? hj) with hc | hc
    · obtain ⟨o', h4, h5⟩ := Res.cellish_at hc (h.holds j s hj) k hk
      rw [h2] at h4
      simp only [Option.some.injEq] at h4
      rw [h4, h5] at h3
      cases h3
    · have := hc k hk
      omega

/-- What changes at most what is held keeps what is no cells and lies from B on. -/
theorem St.keepsFrom {B : Nat} (h : St w0 X w M) (hM : Cellish B M) {w' : World} (hc : Chg (fpsL M) w w') : KeepsFrom B w w' := by
  refine ⟨hc.size, fun k o hk ho hn => ?_⟩
  have hlt : k < w.heap.size := (Array.getElem?_eq_some_iff.1 ho).1
  rw [hc.block k hlt ?_]
  · exact ho
  · intro hm
    simp only [fpsL, List.mem_flatMap] at hm
    obtain ⟨r, hr, hkr⟩ := hm
    obtain ⟨j, hj⟩ := List.getElem?_of_mem hr
    rcases hM r hr with h1 | h1
    · obtain ⟨o', h4, h5⟩ := Res.cellish_at h1 (h.holds j r hj) k hkr
      rw [ho] at h4
      simp only [Option.some.injEq] at h4
      rw [h4, h5] at hn
      cases hn
    · have := h1 k hkr
      omega

/-- The marks that are held. -/
def dmarks (ds : List Nat) : List Res := ds.map fun D => .blk D (.deferred (some []))

theorem dmarks_lt {ds : List Nat} (h : St w0 X w M) (hs : ∀ r ∈ dmarks ds, r ∈ M) : ∀ r ∈ dmarks ds, ∀ k ∈ r.fp, k < w.heap.size := by
  intro r hr k hk
  obtain ⟨j, hj⟩ := List.getElem?_of_mem (hs r hr)
  exact Res.lt (h.holds j r hj) k hk

/-- One mark more. -/
theorem St.addMark {D B : Nat} (h : St w0 X w M) (hB : w0.heap.size ≤ B) (hM : Cellish B M) (hD : B ≤ D) (hk : w.heap[D]? = some (.deferred (some []))) : St w0 X w (M ++ [.blk D (.deferred (some []))]) := by
  refine h.addAt (s := .blk D (.deferred (some []))) hk (fun k hk => ?_) (fun i r hi k hkr hks => ?_)
  · simp only [Res.fp, List.mem_singleton] at hk; left; omega
  · simp only [Res.fp, List.mem_singleton] at hks
    subst hks
    rcases hM r (List.mem_of_getElem? hi) with h1 | h1
    · obtain ⟨o', h4, h5⟩ := Res.cellish_at h1 (h.holds i r hi) k hkr
      rw [hk] at h4
      simp only [Option.some.injEq] at h4
      rw [← h4] at h5
      cases h5
    · have := h1 k hkr
      omega

/-- The marks are taken down: nothing else that is held changes. -/
theorem St.downs {P : Program} {N : List Res} {K : World → Prop} : ∀ {ds : List Nat} {w : World}, St w0 X w (dmarks ds ++ N) → (∀ w', St w0 X w' N → K w') → downs P ds w K
  | [], w, h, hK => hK w h
  | D :: ds, w, h, hK => by
    have hD : w.heap[D]? = some (.deferred (some [])) := h.holds 0 _ rfl
    have hlt : D < w.heap.size := (Array.getElem?_eq_some_iff.1 hD).1
    refine ⟨_, run_takeDeferred hD, ?_⟩
    have h2 := h.upd (i := 0) (r' := Res.emp) (w' := w.putObj D (.deferred none)) rfl ⟨rfl, rfl, rfl, by simp [World.putObj], fun k hk hx => ?_⟩ (Res.emp_holds _) (by simp [Res.emp, Res.fp, Value.ownBlock])
    · exact St.downs (h2.sub (List.sublist_cons_self _ _)) hK
    · have : D ≠ k := fun e => hx (by simp [Res.fp, e])
      exact World.putObj_heap_other (Ne.symm this)

end
end Go.Proofs.YtefnlbgkfingfaaDoor.Sx
