/- The contract of amphoranum.Apart: lists that lie apart are told apart (conditions: those that the theorem names). -/
import Derived.Test.YtmdandkoajocpaaGreatDoorLists
import Derived.Test.YtmdandkoajocpaaGreatDoorSxSeat
import Derived.Test.YtmdandkoajocpaaGreatDoorVnum
namespace Go.Proofs.YtmdandkoajocpaaGreatDoor
open Go Sx
set_option maxRecDepth 8000

/-- The marks of Apart. -/
def markB (k j : Nat) : UInt8 := UInt8.ofNat ((31 * k + 7 * j + 1) % 256)
def marks (k m : Nat) : List UInt8 := (List.range m).map (markB k)
@[simp] theorem marks_len (k m : Nat) : (marks k m).length = m := by simp [marks]
theorem marks_get {k m j : Nat} (h : j < m) : (marks k m)[j]? = some (markB k j) := by simp [marks, h]
theorem marks_succ (k m : Nat) : marks k (m + 1) = marks k m ++ [markB k m] := by simp [marks, List.range_succ]

theorem mark_val (k j : Nat) : IntKind.wrap .u8 (IntKind.wrap .i64 ((IntKind.wrap .i64 ((IntKind.wrap .i64 ((31 : Int) * (k : Int))) + (IntKind.wrap .i64 ((7 : Int) * (j : Int))))) + (1 : Int))) = ((markB k j).toNat : Int) := by
  have key : ∀ x : Int, IntKind.wrap .i64 x % 256 = x % 256 := fun x => by
    rw [wrap_i64_of]; split <;> omega
  have e : ((markB k j).toNat : Int) = (31 * (k : Int) + 7 * (j : Int) + 1) % 256 := by
    simp only [markB, UInt8.toNat_ofNat', Nat.reducePow, Nat.mod_mod]
    omega
  rw [wrap_u8, e, key]
  have h1 := key ((31 : Int) * (k : Int))
  have h2 := key ((7 : Int) * (j : Int))
  have h3 := key (IntKind.wrap .i64 ((31 : Int) * (k : Int)) + IntKind.wrap .i64 ((7 : Int) * (j : Int)))
  omega

/-- Lists, each in a row of its own. -/
def rowsL (vs : List Value) (ls : List (List UInt8)) : List Res := List.zipWith (fun v l => Res.row 5 1 v l.length (bv l)) vs ls

theorem rowsL_get {vs : List Value} {ls : List (List UInt8)} (h : vs.length = ls.length) {k : Nat} (hk : k < ls.length) : (rowsL vs ls)[k]? = some (.row 5 1 (vs.getD k .nilIface) (ls.getD k []).length (bv (ls.getD k []))) := by
  simp [rowsL, List.getElem?_zipWith, List.getD, hk, show k < vs.length by omega]

theorem rowsL_set {vs : List Value} {ls : List (List UInt8)} (h : vs.length = ls.length) {k : Nat} (hk : k < ls.length) (l : List UInt8) : (rowsL vs ls).set k (.row 5 1 (vs.getD k .nilIface) l.length (bv l)) = rowsL vs (ls.set k l) := by
  apply List.ext_getElem?
  intro j
  by_cases hj : j < ls.length
  · rw [rowsL_get (by simpa using h) (by simpa using hj), List.getElem?_set]
    by_cases e : k = j
    · subst e
      have hlen : k < (rowsL vs ls).length := by simp [rowsL]; omega
      simp [hlen, List.getD, hk]
    · rw [if_neg e, rowsL_get h hj]
      simp [List.getD, List.getElem?_set, e]
  · rw [List.getElem?_eq_none (by simp [rowsL]; omega), List.getElem?_eq_none (by simp [rowsL]; omega)]

/-- The first i bytes of one row, the others of another. -/
def mixA (x l : List UInt8) (i : Nat) : List UInt8 := x.take i ++ l.drop i
theorem mixA_zero (x l : List UInt8) : mixA x l 0 = l := by simp [mixA]
theorem mixA_all {x l : List UInt8} (h : x.length = l.length) : mixA x l l.length = x := by simp [mixA, ← h]
theorem mixA_len {x l : List UInt8} {i : Nat} (h : x.length = l.length) (hi : i ≤ l.length) : (mixA x l i).length = l.length := by simp [mixA]; omega
theorem mixA_set {x l : List UInt8} {i : Nat} {b : UInt8} (h : x.length = l.length) (hb : x[i]? = some b) : (mixA x l i).set i b = mixA x l (i + 1) := by
  have hi : i < x.length := (List.getElem?_eq_some_iff.1 hb).1
  have hl : (x.take i).length = i := by rw [List.length_take]; omega
  rw [mixA, mixA, List.set_append_right _ _ (by omega), hl, Nat.sub_self, List.drop_eq_getElem_cons (by omega : i < l.length), List.set_cons_zero, List.take_add_one, hb]
  simp

/-- What Apart knows of the lists before k: they are marked and grown. -/
structure Grown (M : List Res) (vs gs : List Value) (lens : List Nat) (n B j : Nat) : Prop where
  old : ∃ a m c' m0 c0, vs[j]? = some (.slice a m0 c0) ∧ lens.getD j 0 ≤ m ∧ M[j + 1]? = some (.row 5 1 (.slice a m c') m (bv (marks j m)))
  new : ∃ a c i, gs[j]? = some (.slice a (lens.getD j 0 + 12) c) ∧ (i = j + 1 ∨ n + 1 < i) ∧ i < B ∧ M[i]? = some (.row 5 1 (.slice a (lens.getD j 0 + 12) c) (lens.getD j 0 + 12) (bv (marks j (lens.getD j 0 + 12))))

/-- What stood before B in one list of things stands in the other, but for one. -/
def Ag (M M' : List Res) (i B : Nat) : Prop := ∀ (x : Nat) (r : Res), x < B → x ≠ i → M[x]? = some r → M'[x]? = some r

theorem Ag.set {M : List Res} {i B : Nat} {r : Res} : Ag M (M.set i r) i B := fun x s _ hx h => by rw [List.getElem?_set_ne (Ne.symm hx)]; exact h
theorem Ag.app {M : List Res} {i B : Nat} {N : List Res} : Ag M (M ++ N) i B := fun x s _ _ h => by rw [List.getElem?_append_left (List.getElem?_eq_some_iff.1 h).1]; exact h
theorem Ag.trans {M M' M'' : List Res} {i B : Nat} (h : Ag M M' i B) (k : Ag M' M'' i B) : Ag M M'' i B := fun x r hx hi hr => k x r hx hi (h x r hx hi hr)

theorem Grown.mono {M M' : List Res} {vs gs gs' : List Value} {lens : List Nat} {n B B' j i : Nat} (h : Grown M vs gs lens n B j) (ha : ∀ (x : Nat) (r : Res), x < B → x ≠ i → x ≠ n + 1 → M[x]? = some r → M'[x]? = some r) (hi : i ≠ j + 1 ∧ (n + 1 < i → B ≤ i)) (hj : j + 1 < B) (hjn : j < n) (hB : B ≤ B') (hg : ∀ v, gs[j]? = some v → gs'[j]? = some v) : Grown M' vs gs' lens n B' j := by
  obtain ⟨a, m, c', m0, c0, h1, h2, h3⟩ := h.old
  obtain ⟨b, c, x, h4, h5, h6, h7⟩ := h.new
  refine ⟨⟨a, m, c', m0, c0, h1, h2, ha _ _ hj (Ne.symm hi.1) (by omega) h3⟩, b, c, x, hg _ h4, h5, by omega, ha _ _ h6 ?_ (by omega) h7⟩
  intro e
  subst e
  rcases h5 with h5 | h5
  · exact hi.1 h5
  · have := hi.2 h5; omega

end Go.Proofs.YtmdandkoajocpaaGreatDoor
