/- Packfiles in plain words (conditions: none). -/
import Derived.Test.YtmdandkoajocpaaGreatDoorWireB
import Derived.Test.YtmdandkoajocpaaGreatDoorSealF
import Derived.Test.YtmdandkoajocpaaGreatDoorRefsD
namespace Go.Proofs.YtmdandkoajocpaaGreatDoor
open Go Sx
set_option maxRecDepth 8000

def OkI (x : Int) : Prop := -9223372036854775808 ≤ x ∧ x ≤ 9223372036854775807
instance (x : Int) : Decidable (OkI x) := by unfold OkI; infer_instance
def mkRef (id : List UInt8) (p q n : Int) : RefD := if h : id.length = 32 ∧ OkI p ∧ OkI q ∧ OkI n then ⟨id, p, q, n, h.1, h.2.1, h.2.2.1, h.2.2.2⟩ else ref0
theorem refC_mk {id : List UInt8} {p q n : Int} (h : id.length = 32) (hp : OkI p) (hq : OkI q) (hn : OkI n) : refC (mkRef id p q n) = bv id ++ [.int .i64 p, .int .i64 q, .int .i64 n] := by
  rw [mkRef, dif_pos ⟨h, hp, hq, hn⟩]; rfl
theorem mkRef_eq {id : List UInt8} {p q n : Int} (h : id.length = 32) (hp : OkI p) (hq : OkI q) (hn : OkI n) : (mkRef id p q n).id = id ∧ (mkRef id p q n).pack = p ∧ (mkRef id p q n).at_ = q ∧ (mkRef id p q n).len = n := by
  rw [mkRef, dif_pos ⟨h, hp, hq, hn⟩]; exact ⟨rfl, rfl, rfl, rfl⟩

/-- An item: its identifier, its blob. -/
abbrev Itm := List UInt8 × List UInt8
def magicL : List UInt8 := [97, 109, 112, 104, 112, 97, 99, 107]
def n64 (x : Int) : Nat := (x % 18446744073709551616).toNat
def headP (num : Int) : List UInt8 := magicL ++ numL (n64 num)
@[simp] theorem headP_len (num : Int) : (headP num).length = 16 := by simp [headP, magicL, numL_len]
def frmT (x : Itm) : List UInt8 := frameL 2 (x.1 ++ x.2)
def refsP (num : Int) : Nat → List Itm → List RefD
  | _, [] => []
  | s, x :: r => mkRef x.1 num (((s + (frmT x).length : Nat) : Int) - ((x.2.length : Nat) : Int)) ((x.2.length : Nat) : Int) :: refsP num (s + (frmT x).length) r
def refBy (r : RefD) : List UInt8 := r.id ++ numL (n64 r.at_) ++ numL (n64 r.len)
@[simp] theorem refBy_len (r : RefD) : (refBy r).length = 48 := by simp [refBy, numL_len, r.idl]
def footL (rs : List RefD) : List UInt8 := rs.flatMap refBy
theorem footL_len : ∀ rs : List RefD, (footL rs).length = 48 * rs.length
  | [] => rfl
  | r :: rs => by
    have := footL_len rs
    rw [footL, List.flatMap_cons, List.length_append, refBy_len, List.length_cons]
    rw [footL] at this
    rw [this]; omega
def footP (K : List UInt8) (num : Int) (rs : List RefD) : List UInt8 := frameL 3 (sealF K 3 (numL (n64 num)) (footL rs))
def piecesP (K : List UInt8) (num : Int) (xs : List Itm) : List (List UInt8) := headP num :: xs.map frmT ++ [footP K num (refsP num 16 xs)]
def buildP (K : List UInt8) (num : Int) (xs : List Itm) : List UInt8 := (piecesP K num xs).flatten
def goodP (num : Int) : Bool := decide (0 ≤ num) && decide (num ≤ 1099511627776)
theorem goodP_iff {num : Int} : goodP num = true ↔ 0 ≤ num ∧ num ≤ 1099511627776 := by simp [goodP]
def sizeP : Nat → List Itm → Nat
  | s, [] => s
  | s, x :: r => sizeP (s + (frmT x).length) r
theorem refsP_len (num : Int) : ∀ (xs : List Itm) (s : Nat), (refsP num s xs).length = xs.length
  | [], _ => rfl
  | x :: r, s => by simp [refsP, refsP_len num r]
theorem sizeP_eq : ∀ (xs : List Itm) (s : Nat), sizeP s xs = s + (xs.map frmT).flatten.length
  | [], s => by simp [sizeP]
  | x :: r, s => by rw [sizeP, sizeP_eq r]; simp; omega
theorem refsP_snoc (num : Int) : ∀ (xs : List Itm) (s : Nat) (x : Itm), refsP num s (xs ++ [x]) = refsP num s xs ++ [mkRef x.1 num (((sizeP s xs + (frmT x).length : Nat) : Int) - ((x.2.length : Nat) : Int)) ((x.2.length : Nat) : Int)]
  | [], s, x => rfl
  | y :: r, s, x => by
    show _ :: refsP num _ (r ++ [x]) = _
    rw [refsP_snoc num r]; rfl
theorem sizeP_snoc : ∀ (xs : List Itm) (s : Nat) (x : Itm), sizeP s (xs ++ [x]) = sizeP s xs + (frmT x).length
  | [], s, x => rfl
  | y :: r, s, x => by
    show sizeP _ (r ++ [x]) = _
    rw [sizeP_snoc r]; rfl

/-- An item in memory. -/
structure ItD where
  id : List UInt8
  a : Option Addr
  n : Nat
  c : Nat
  blob : List UInt8
  idl : id.length = 32
def ItD.t (x : ItD) : Itm := (x.id, x.blob)
def itC (x : ItD) : List Value := bv x.id ++ [.slice x.a x.n x.c]
@[simp] theorem itC_len (x : ItD) : (itC x).length = 33 := by simp [itC, x.idl]
theorem itC_one (x : ItD) : ∀ v ∈ itC x, v.oneCell' = true := fun v hv => by
  simp only [itC, List.mem_append, List.mem_singleton] at hv
  rcases hv with hv | rfl
  · exact bv_one _ v hv
  · rfl
/-- A row of items that may be read. -/
structure ItR (w : World) (a : Option Addr) (n c : Nat) (l : List ItD) : Prop where
  rd : RdE itC 33 w a n c l
  blobs : ∀ x ∈ l, RdB w x.a x.n x.c x.blob
theorem ItR.keep0 {w w' : World} {a : Option Addr} {n c : Nat} {l : List ItD} (h : ItR w a n c l) (hc : Chg [] w w') : ItR w' a n c l := ⟨h.rd.keep0 hc, fun x hx => (h.blobs x hx).keep0 hc⟩

/-- Items that are small together. -/
structure SmallI (xs : List Itm) : Prop where
  num : xs.length ≤ 4096
  idl : ∀ x ∈ xs, x.1.length = 32
  sum : (xs.map fun x => x.2.length).sum ≤ 16777216
theorem sum_mem : ∀ {l : List Nat} {x : Nat}, x ∈ l → x ≤ l.sum
  | y :: l, x, h => by
    rw [List.sum_cons]
    rcases List.mem_cons.1 h with rfl | h
    · omega
    · have := sum_mem h; omega
theorem SmallI.blob {xs : List Itm} (h : SmallI xs) {x : Itm} (hx : x ∈ xs) : x.2.length ≤ 16777216 :=
  Nat.le_trans (sum_mem (List.mem_map_of_mem (f := fun x : Itm => x.2.length) hx)) h.sum

end Go.Proofs.YtmdandkoajocpaaGreatDoor
