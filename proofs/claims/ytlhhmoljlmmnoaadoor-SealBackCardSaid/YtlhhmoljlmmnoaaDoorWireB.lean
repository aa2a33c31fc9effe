/- Fields and frames on the wire, in plain words, and the contracts of wire.Pack and of the Reader (conditions: those that each theorem names). -/
import Derived.Test.YtlhhmoljlmmnoaaDoorWireA
import Derived.Test.YtlhhmoljlmmnoaaDoorClone
namespace Go.Proofs.YtlhhmoljlmmnoaaDoor
open Go Sx
set_option maxRecDepth 8000

/-- Fields, one behind the other. -/
def packL (ls : List (List UInt8)) : List UInt8 := (ls.map fun l => varL l.length ++ l).flatten

theorem packL_take {ls : List (List UInt8)} {i : Nat} (h : i < ls.length) : packL (ls.take (i + 1)) = packL (ls.take i) ++ varL (ls.getD i []).length ++ ls.getD i [] := by
  rw [List.take_add_one, List.getElem?_eq_getElem h, packL, packL, List.map_append, List.flatten_append, List.append_assoc]
  congr 1
  simp [List.getD, h]

theorem packL_len : ∀ ls : List (List UInt8), (∀ l ∈ ls, l.length < 9223372036854775808) → (packL ls).length ≤ ls.flatten.length + 9 * ls.length
  | [], _ => by simp [packL]
  | l :: ls, h => by
    have ih := packL_len ls fun x hx => h x (by simp [hx])
    have h9 := varL_len 9 l.length (by have := h l (by simp); simpa using this) (by decide)
    have e : packL (l :: ls) = varL l.length ++ l ++ packL ls := by simp [packL]
    rw [e]
    simp only [List.length_append, List.flatten_cons, List.length_cons]
    omega

theorem mem_le_flat {ls : List (List UInt8)} {l : List UInt8} (h : l ∈ ls) : l.length ≤ ls.flatten.length := by
  obtain ⟨i, hi, rfl⟩ := List.getElem_of_mem h
  have := getD_le_flat hi
  simpa [List.getD, hi] using this

theorem packL_bound {ls : List (List UInt8)} (h : ls.flatten.length ≤ 67108864) (i : Nat) : (packL (ls.take i)).length ≤ 67108864 + 9 * ls.length := by
  have h1 := packL_len (ls.take i) fun l hl => by have := mem_le_flat (List.mem_of_mem_take hl); omega
  have h2 := flat_take_le ls i
  have h3 : (ls.take i).length ≤ ls.length := by rw [List.length_take]; omega
  omega

theorem pack_spec (a : Option Addr) (n c : Nat) (vs : List Value) (ls : List (List UInt8)) (w : World) (hr : Rd w a n c 1 vs) (h2 : Row2 w vs ls) (hb : ls.flatten.length ≤ 67108864) (hn : ls.length ≤ 1048576) :
    Calls Tryd.prog 30 #[.slice a n c] w fun e w' => ∃ a' n' c', e = .returned (.slice a' n' c') ∧ FreshB w w' a' n' c' (packL ls) := by
  have hln : ls.length = n := by have := hr.len; have := h2.len; omega
  apply wire_Pack_vc
  refine ⟨fun xa xn xc x w' => ∃ i : Nat, x = (i : Int) ∧ i ≤ n ∧ xn = (packL (ls.take i)).length ∧ St w [] w' [.row 5 1 (.slice xa xn xc) xn (bv (packL (ls.take i)))], fun _ _ _ x _ => n - x.toNat,
    ⟨0, rfl, by omega, by simp [packL], (St.start w).addNil _ _⟩, ?_⟩
  rintro xa xn xc x w1 ⟨i, rfl, hi, hxn, hS⟩
  have hpb := packL_bound hb i
  refine ⟨fun h => ?_, fun h => ?_⟩
  · have hi' : i < n := by simp at h; omega
    obtain ⟨b, o, a', n', c', ha, hv, hrd, hld⟩ := ixS hr.cells h2 (i := i) (by omega)
    have hl' := hrd.lenB
    have hle := getD_le_flat (ls := ls) (i := i) (by omega)
    refine ⟨b, o, ha, by omega, by omega, _, _, _, hld w1 (hr.cells.keep0 hS.chg), fun h => ?_, fun _ => ?_⟩
    · simp at h; omega
    · have h9 := varL_len 9 n' (by simp; omega) (by decide)
      refine (var_spec n' w1 (by omega)).mono ?_
      rintro e w2 ⟨a2, n2, c2, rfl, hf2⟩
      have hS2 := hf2.add hS
      have hn2 := hf2.2.1
      obtain ⟨va, vc, w3, hr3, hS3⟩ := hS2.appendB (i := 0) rfl (hS2.rd (i := 1) rfl) (by omega)
      obtain ⟨vb, vd, w4, hr4, hS4⟩ := hS3.appendB (i := 0) rfl (hS3.rd1 hrd) (by omega)
      have hpt := packL_take (ls := ls) (i := i) (by omega)
      rw [hl'] at hpt
      refine ⟨_, _, _, rfl, _, _, _, _, hr3, _, _, _, _, hr4, ⟨i + 1, ?_, by omega, ?_, ?_⟩, ?_⟩
      · rw [wrap_i64 (by omega) (by omega)]; rfl
      · rw [hpt]; simp only [List.length_append]; omega
      · rw [hpt]; exact St.pop (M := [_]) hS4
      · show n - (IntKind.wrap .i64 ((i : Int) + 1)).toNat < n - ((i : Int)).toNat
        rw [wrap_i64 (by omega) (by omega)]; omega
  · have hi' : i = n := by simp at h; omega
    rw [hi', ← hln, List.take_length] at hS
    exact ⟨_, _, _, rfl, hS.freshB (i := 0) rfl⟩

/-- A slice that may be read wherever another may. -/
def SubB (a : Option Addr) (n c : Nat) (l : List UInt8) (a' : Option Addr) (n' c' : Nat) (l' : List UInt8) : Prop := ∀ v : World, RdB v a n c l → RdB v a' n' c' l'

/-- A Reader in memory, and what it has not read yet; none: it is broken. -/
def RdrA (g T : Nat) (a : Option Addr) (n c : Nat) (st : Option (List UInt8)) (w : World) : Prop := w.heap[g]? = some (.cells #[.slice a n c, .bool st.isNone] T)

/-- Behind a call of a Reader. -/
def RdrP (g T : Nat) (a : Option Addr) (n c : Nat) (st st' : Option (List UInt8)) (w' : World) : Prop := ∃ a' n' c', RdrA g T a' n' c' st' w' ∧ SubB a n c (st.getD []) a' n' c' (st'.getD [])

theorem rdr_ne (a : Option Addr) (n c : Nat) (t : Bool) (l : List UInt8) : ∀ v ∈ bv l, v ∉ (#[Value.slice a n c, .bool t] : Array Value).toList := by
  intro v hv
  simp only [bv, List.mem_map] at hv
  obtain ⟨b, _, rfl⟩ := hv
  simp

/-- What raw does. -/
def rawF (st : Option (List UInt8)) (x : Int) : Option (List UInt8 × List UInt8) := st.bind fun l => if 0 ≤ x ∧ x ≤ (l.length : Int) then some (l.take x.toNat, l.drop x.toNat) else none

theorem rdVar_some : ∀ (f : Nat) (l : List UInt8) (i n m s : Nat), rdVar f l i n = some (m, s) → n < 128 ^ i → i < s ∧ s ≤ i + l.length ∧ s ≤ i + f ∧ m < 128 ^ s
  | 0, _, _, _, _, _, h, _ => by simp [rdVar] at h
  | f + 1, [], i, n, m, s, h, _ => by simp [rdVar] at h
  | f + 1, b :: r, i, n, m, s, h, hn => by
    have hp : 128 ^ (i + 1) = 128 ^ i * 128 := Nat.pow_succ ..
    have hpos : 0 < 128 ^ i := Nat.pow_pos (by decide)
    have hbl := b.toNat_lt
    simp only [rdVar] at h
    split at h
    · rename_i hb
      split at h
      · cases h
      · simp only [Option.some.injEq, Prod.mk.injEq] at h
        obtain ⟨rfl, rfl⟩ := h
        have : b.toNat * 128 ^ i ≤ 127 * 128 ^ i := Nat.mul_le_mul_right _ (by omega)
        refine ⟨by omega, by simp only [List.length_cons]; omega, by omega, by omega⟩
    · rename_i hb
      have : (b.toNat - 128) * 128 ^ i ≤ 127 * 128 ^ i := Nat.mul_le_mul_right _ (by omega)
      obtain ⟨h1, h2, h3, h4⟩ := rdVar_some f r (i + 1) _ m s h (by omega)
      refine ⟨by omega, by simp only [List.length_cons]; omega, by omega, h4⟩

theorem readVarF_some {l : List UInt8} {n s : Nat} (h : readVarF l = some (n, s)) : 1 ≤ s ∧ s ≤ l.length ∧ s ≤ 9 ∧ n < 9223372036854775808 := by
  obtain ⟨h1, h2, h3, h4⟩ := rdVar_some 9 l 0 0 n s h (by decide)
  have : 128 ^ s ≤ 128 ^ 9 := Nat.pow_le_pow_right (by decide) (by omega)
  refine ⟨by omega, by omega, by omega, by omega⟩

/-- What Var does. -/
def varF (st : Option (List UInt8)) : Option (Nat × List UInt8) := st.bind fun l => (readVarF l).map fun p => (p.1, l.drop p.2)

/-- The field with which bytes begin, and the rest. -/
def fieldF (l : List UInt8) : Option (List UInt8 × List UInt8) := (readVarF l).bind fun p => if p.1 ≤ 67108864 ∧ p.1 + p.2 ≤ l.length then some ((l.drop p.2).take p.1, l.drop (p.2 + p.1)) else none

theorem fieldF_some {l f r : List UInt8} (h : fieldF l = some (f, r)) : ∃ s, readVarF l = some (f.length, s) ∧ f = (l.drop s).take f.length ∧ r = l.drop (s + f.length) ∧ 1 ≤ s ∧ s + f.length + r.length = l.length ∧ f.length ≤ 67108864 := by
  unfold fieldF at h
  cases hv : readVarF l with
  | none => rw [hv] at h; cases h
  | some p =>
    obtain ⟨n, s⟩ := p
    rw [hv] at h
    simp only [Option.bind_some] at h
    split at h
    · rename_i hc
      simp only [Option.some.injEq, Prod.mk.injEq] at h
      obtain ⟨rfl, rfl⟩ := h
      have hlen : ((l.drop s).take n).length = n := by simp; omega
      obtain ⟨h1, h2, _, _⟩ := readVarF_some hv
      refine ⟨s, by rw [hlen], by rw [hlen], by rw [hlen], h1, ?_, by omega⟩
      rw [hlen]; simp; omega
    · cases h

end Go.Proofs.YtlhhmoljlmmnoaaDoor
