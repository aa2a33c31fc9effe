/- The arguments of a statement, opened as this session's walks ask for them (conditions: none). -/
import Derived.Test.YtpfjakmbokkkoaaSxSeat
import Derived.ChangeSlices
import Derived.SizedLaws
import Derived.OpenShut
import Derived.Below
import Derived.ProofKit
namespace Go.Proofs.Ytpfjakmbokkkoaa
open Go Sx Go.ChangeShapes Go.WideShapes Go.RowKit

theorem u8_back {z : Int} (h : (Lit.int .u8 z).wf = true) : (((UInt8.ofNat z.toNat).toNat : Nat) : Int) = z := by
  have := bounds_u8 h
  simp
  omega

theorem openB {H : Type} {enc : TypeId × Value → H} {W : World} {base : Nat} {v : Value} {d : DataW H} {ps : List MemPlace} (hval : Value.okWide Try.prog W .any base 22 v)
    (h : DataW.Trod enc Try.prog W 0 (fun _ => true) true 22 v d ps) :
    ∃ a n c l, v = .slice a n c ∧ RdB W a n c l ∧ ((d = .nil ∧ c = 0) ∨ ∃ es sp, d = .slice es sp ∧ es.length + sp.length = c) := by
  obtain ⟨a, n, c, rfl⟩ := okWide_slice bS hval
  obtain ⟨fuel, hf⟩ := h
  refine ⟨a, n, c, ?_⟩
  rcases open_ints bS bE (by kernel_rfl) hf with ⟨hcs, hx⟩ | ⟨x, l, c', zs, hcs, _, hl, hm, hz, hx, hcell, hwz⟩
  · simp [Value.cells] at hcs
    obtain ⟨rfl, rfl, rfl⟩ := hcs
    simp only [Prod.mk.injEq] at hx
    exact ⟨[], rfl, ⟨Cells.nil _ _, rfl, Nat.le_refl _, fun _ => rfl⟩, .inl ⟨hx.1, rfl⟩⟩
  · simp [Value.cells] at hcs
    obtain ⟨rfl, rfl, rfl⟩ := hcs
    simp only [if_true] at hz
    have hbv : bv ((zs.take n).map fun z => UInt8.ofNat z.toNat) = (zs.take n).map (Value.int .u8) := by
      simp only [bv, List.map_map]
      refine List.map_congr_left fun z hzm => ?_
      simp only [Function.comp_apply]
      rw [u8_back (hwz z (List.mem_of_mem_take hzm))]
    refine ⟨(zs.take n).map fun z => UInt8.ofNat z.toNat, rfl, ⟨?_, ?_, hl, by simp⟩, .inr ⟨_, _, (Prod.mk.inj hx).1, ?_⟩⟩
    · rw [hbv]
      rcases Nat.eq_zero_or_pos n with h0 | h0
      · subst h0; exact .inl rfl
      · right
        have h1 := hcell 0 (by omega)
        obtain ⟨b, o, sp⟩ := x
        have hsp : sp = none := by
          cases sp with
          | none => rfl
          | some s =>
            simp only [Addr.add, if_true, World.cell?] at h1
            split at h1 <;> simp at h1
        subst hsp
        refine ⟨b, o, rfl, fun j v hj => ?_⟩
        rw [List.getElem?_map, List.getElem?_take] at hj
        split at hj
        · have hjl : j < zs.length := by omega
          have h2 := hcell j hjl
          rw [Addr.add_mid] at h2
          rw [List.getElem?_eq_getElem hjl] at hj
          simp only [Option.map_some, Option.some.injEq] at hj
          rw [h2, ← hj]
          simp [List.getD, hjl]
        · simp at hj
    · rw [hbv]; simp; omega
    · simp [lits]; omega

theorem sizedB {H : Type} {P : Program} {ts : List TypeId} {ds : List (DataW H)} {j n c : Nat} {t e : TypeId} {d : DataW H} (hsz : (DataW.weightsEach P ts ds).all (· ≤ reachBytes) = true) (ht : ts[j]? = some t) (hd : ds[j]? = some d)
    (hu : P.underlying t = some (.slice e)) (hB : P.bytesOf e = 1) (h : (d = .nil ∧ c = 0) ∨ ∃ es sp, d = .slice es sp ∧ es.length + sp.length = c) (hn : n ≤ c) : n ≤ 140737488351232 := by
  rcases h with ⟨_, h0⟩ | ⟨es, sp, rfl, h0⟩
  · omega
  · have z := sized_slice hsz ht hd hu
    rw [hB] at z
    have : reachBytes = 140737488351232 := by decide
    omega

end Go.Proofs.Ytpfjakmbokkkoaa
