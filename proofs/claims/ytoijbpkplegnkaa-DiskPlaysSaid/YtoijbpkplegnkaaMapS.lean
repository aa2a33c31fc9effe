/- Maps whose keys are strings, told by their bytes (conditions: none; any program). -/
import Derived.Test.YtoijbpkplegnkaaMapK
namespace Go.Proofs.Ytoijbpkplegnkaa.Sx
open Go
set_option maxRecDepth 8000

def strV (l : List UInt8) : Value := .string ⟨l.toArray⟩
theorem strV_inj {l m : List UInt8} (h : strV l = strV m) : l = m := by
  simp only [strV, Value.string.injEq, ByteArray.mk.injEq] at h
  have := congrArg Array.toList h
  simpa using this
theorem ba_beq (l m : List UInt8) : ((⟨l.toArray⟩ : ByteArray) == ⟨m.toArray⟩) = decide (l = m) := by
  show (l.toArray == m.toArray) = decide (l = m)
  by_cases h : l = m
  · subst h; simp
  · have : ¬ l.toArray = m.toArray := fun e => h (by have := congrArg Array.toList e; simpa using this)
    simp [h]

theorem findNow_str {α : Type} {val : α → Value} {kid : α → List UInt8} (id : List UInt8) : ∀ (L : List MapEntry) (M : List α) (i : Nat), L.map (fun x => (x.key, x.val)) = M.map (fun r => (strV (kid r), val r)) →
    Instr.findNow .string (strV id) L i = some ((M.findIdx? fun r => kid r == id).bind fun j => (M[j]?).map fun r => (i + j, val r))
  | [], [], i, _ => by simp [Instr.findNow]
  | [], r :: M, i, he => by simp at he
  | x :: L, [], i, he => by simp at he
  | x :: L, r :: M, i, he => by
    simp only [List.map_cons, List.cons.injEq, Prod.mk.injEq] at he
    obtain ⟨⟨e1, e2⟩, e3⟩ := he
    have ih := findNow_str (val := val) (kid := kid) id L M (i + 1) e3
    have hs : Instr.sameNow .string (strV id) x.key = some (decide (id = kid r)) := by
      rw [e1, strV, strV]
      simp only [Instr.sameNow, ba_beq]
    rw [Instr.findNow, hs]
    by_cases h : kid r = id
    · simp [h, e2, List.findIdx?_cons]
    · have h' : ¬ id = kid r := fun e => h e.symm
      simp only [h', decide_false, ih, List.findIdx?_cons, beq_iff_eq, h, if_false]
      cases hf : M.findIdx? fun r => kid r == id with
      | none => simp
      | some j => simp [Nat.add_assoc, Nat.add_comm 1]

theorem chk_str {P : Program} {KT : TypeId} (hT : P.underlying KT = some .string) (id : List UInt8) (em : Bool) (d : Nat) (w : World) : (Instr.checkKey em (d + 1) KT (strV id)).run P w = .ok () w := by
  simp [Instr.checkKey, run_underlying hT, strV]
theorem bits_str (id : List UInt8) (d : Nat) : Instr.sameBits (d + 1) (strV id) (strV id) = true := by
  simp only [Instr.sameBits, strV, ba_beq, decide_true]

theorem str_ops {P : Program} {KT : TypeId} (hT : P.underlying KT = some .string) : KeyOps P KT strV (fun _ => True) :=
  ⟨fun id _ em w => chk_str hT id em 9999 w,
   fun α val kid L M id _ w he _ => by
    have := findNow_str (val := val) (kid := kid) id L M 0 he
    simp only [Nat.zero_add] at this
    simp only [Instr.findKey, Sem.run_bind, run_underlying hT, Result.andThen_ok, this]
    rfl,
   fun id w => by
    unfold Instr.keyThatStays
    have : Instr.sameBits 10000 (strV id) (strV id) = true := bits_str id 9999
    simp [this]⟩

end Go.Proofs.Ytoijbpkplegnkaa.Sx
