/- Packfiles in plain words: what is built is opened; what is cut is not (conditions: none). -/
import Derived.Test.YtmdandkoajocpaaGreatDoorPackG
import Derived.Test.YtmdandkoajocpaaGreatDoorWireV
import Derived.Test.YtmdandkoajocpaaGreatDoorSealG
namespace Go.Proofs.YtmdandkoajocpaaGreatDoor
open Go Sx
set_option maxRecDepth 8000

/-! ### frames one behind the other -/
theorem frameF_app {k : UInt8} {b : List UInt8} (h : b.length ≤ 67108864) (r : List UInt8) : frameF (frameL k b ++ r) = some (k, b, r) := by
  have h1 := fieldF_pack h r
  have e : frameL k b ++ r = k :: (varL b.length ++ b ++ r) := by simp [frameL]
  rw [e]
  simp only [frameF, h1]; rfl
theorem frameF_cut' {k : UInt8} {b : List UInt8} (h : b.length ≤ 67108864) {c : Nat} (hc : c < (frameL k b).length) : frameF ((frameL k b).take c) = none := by
  cases c with
  | zero => rfl
  | succ c =>
    simp only [frameL, List.take_succ_cons, frameF]
    rw [fieldF_cut (by omega) (by simpa [frameL] using hc)]; rfl
theorem framesF_none {l : List UInt8} (h : frameF l = none) (f p : Nat) : framesF f l p = ([], p) := by
  cases f with
  | zero => rfl
  | succ f => simp [framesF, h]

abbrev Fr2 := UInt8 × List UInt8
def frsL (xs : List Fr2) : List UInt8 := (xs.map fun x => frameL x.1 x.2).flatten
def frsAt : Nat → List Fr2 → List Frm
  | _, [] => []
  | p, x :: r => (x.1, x.2, p) :: frsAt (p + (frameL x.1 x.2).length) r
theorem frsAt_len : ∀ (xs : List Fr2) (p : Nat), (frsAt p xs).length = xs.length
  | [], _ => rfl
  | x :: r, p => by simp [frsAt, frsAt_len r]
theorem framesF_app : ∀ (xs : List Fr2) (f p : Nat) (t : List UInt8), (∀ x ∈ xs, x.2.length ≤ 67108864) → xs.length ≤ f → framesF f (frsL xs ++ t) p = (frsAt p xs ++ (framesF (f - xs.length) t (p + (frsL xs).length)).1, (framesF (f - xs.length) t (p + (frsL xs).length)).2)
  | [], f, p, t, _, _ => by simp [frsL, frsAt]
  | x :: r, 0, p, t, _, h => by simp at h
  | x :: r, f + 1, p, t, hx, h => by
    have ih := framesF_app r f (p + (frameL x.1 x.2).length) t (fun y hy => hx y (by simp [hy])) (by simpa using h)
    have e : frsL (x :: r) ++ t = frameL x.1 x.2 ++ (frsL r ++ t) := by simp [frsL]
    rw [e, framesF, frameF_app (hx x (by simp))]
    have el : (frameL x.1 x.2 ++ (frsL r ++ t)).length - (frsL r ++ t).length = (frameL x.1 x.2).length := by simp
    simp only [el, ih]
    have e2 : f + 1 - (x :: r).length = f - r.length := by simp
    have e3 : p + (frsL (x :: r)).length = p + (frameL x.1 x.2).length + (frsL r).length := by simp [frsL]; omega
    rw [e2, e3]
    simp [frsAt]

/-- Where bytes of frames are cut: whole ones, and a part of one. -/
theorem frsL_cut : ∀ (ys : List Fr2) (c : Nat), c < (frsL ys).length → ∃ (i : Nat) (k : UInt8) (b : List UInt8) (c' : Nat), i < ys.length ∧ ys[i]? = some (k, b) ∧ c' < (frameL k b).length ∧ (frsL ys).take c = frsL (ys.take i) ++ (frameL k b).take c' ∧ c = (frsL (ys.take i)).length + c'
  | [], c, h => by simp [frsL] at h
  | y :: r, c, h => by
    have e : frsL (y :: r) = frameL y.1 y.2 ++ frsL r := by simp [frsL]
    by_cases h1 : c < (frameL y.1 y.2).length
    · refine ⟨0, y.1, y.2, c, by simp, rfl, h1, ?_, by simp [frsL]⟩
      rw [e, List.take_append_of_le_length (by omega)]
      simp [frsL]
    · rw [e, List.length_append] at h
      obtain ⟨i, k, b, c', h2, h3, h4, h5, h6⟩ := frsL_cut r (c - (frameL y.1 y.2).length) (by omega)
      refine ⟨i + 1, k, b, c', by simpa using h2, by simpa using h3, h4, ?_, ?_⟩
      · rw [e, List.take_append, List.take_of_length_le (by omega), h5]
        simp [frsL]
      · have : frsL ((y :: r).take (i + 1)) = frameL y.1 y.2 ++ frsL (r.take i) := by simp [frsL]
        rw [this, List.length_append]; omega

theorem framesL_cut {ys : List Fr2} (hy : ∀ x ∈ ys, x.2.length ≤ 67108864) {i : Nat} {k : UInt8} {b : List UInt8} {c' : Nat} (hi : ys[i]? = some (k, b)) (hc : c' < (frameL k b).length) :
    framesL (frsL (ys.take i) ++ (frameL k b).take c') = (frsAt 0 (ys.take i), (frsL (ys.take i)).length) := by
  have hb : b.length ≤ 67108864 := hy (k, b) (List.mem_of_getElem? hi)
  have hlen : ∀ zs : List Fr2, zs.length ≤ (frsL zs).length := by
    intro zs
    induction zs with
    | nil => simp
    | cons z zs ih => simp only [frsL, List.map_cons, List.flatten_cons, List.length_append, List.length_cons, frameL] at *; omega
  have h1 := hlen (ys.take i)
  rw [framesL, framesF_app _ _ _ _ (fun x hx => hy x (List.mem_of_mem_take hx)) (by simp only [List.length_append]; omega), framesF_none (frameF_cut' hb hc)]
  simp

/-! ### the refs of frames -/
def fr2 (x : Itm) : Fr2 := (2, x.1 ++ x.2)
theorem frsL_items (xs : List Itm) : frsL (xs.map fr2) = (xs.map frmT).flatten := by simp only [frsL, List.map_map]; rfl
theorem refsS_items (num : Int) (e : Nat) (rest : List Frm) : ∀ (xs : List Itm) (p : Nat), (∀ x ∈ xs, x.1.length = 32) → endF e rest = p + (frsL (xs.map fr2)).length → refsS num e (frsAt p (xs.map fr2) ++ rest) = refsP num (16 + p) xs ++ refsS num e rest
  | [], p, _, _ => rfl
  | x :: r, p, h, he => by
    have hx := h x (by simp)
    have el : (frsL ((x :: r).map fr2)).length = (frmT x).length + (frsL (r.map fr2)).length := by simp [frsL, fr2, frmT]
    have ih := refsS_items num e rest r (p + (frmT x).length) (fun y hy => h y (by simp [hy])) (by rw [he, el]; omega)
    have hend : endF e (frsAt (p + (frmT x).length) (r.map fr2) ++ rest) = p + (frmT x).length := by
      cases r with
      | nil => simpa [frsAt, frsL, fr2, frmT] using he
      | cons y r => rfl
    show refsS num e ((2, x.1 ++ x.2, p) :: (frsAt (p + (frameL 2 (x.1 ++ x.2)).length) (r.map fr2) ++ rest)) = _
    have e0 : (frameL 2 (x.1 ++ x.2)).length = (frmT x).length := rfl
    rw [e0, refsS, if_pos ⟨rfl, by simp [hx]⟩, hend, ih]
    have e1 : (x.1 ++ x.2).take 32 = x.1 := List.take_left' hx
    have e2 : (x.1 ++ x.2).length - 32 = x.2.length := by simp [hx]
    simp only [e1, e2, refsP, List.cons_append]
    rw [show 16 + (p + (frmT x).length) = 16 + p + (frmT x).length by omega]

theorem refsS_stop (num : Int) (e : Nat) {k : UInt8} (hk : k ≠ 2) (b : List UInt8) (p : Nat) (r : List Frm) : refsS num e ((k, b, p) :: r) = [] := if_neg fun h => hk h.1

/-! ### a packfile's parts -/
theorem n64_eq {num : Int} (hg : goodP num = true) : readNumF (numL (n64 num)) = some num := by
  have h := goodP_iff.1 hg
  exact readNum_numL num (by omega) (by omega)
def footBody (K : List UInt8) (num : Int) (xs : List Itm) : List UInt8 := sealF K 3 (numL (n64 num)) (footL (refsP num 16 xs))
def framesP (K : List UInt8) (num : Int) (xs : List Itm) : List Fr2 := xs.map fr2 ++ [(3, footBody K num xs)]
theorem buildP_eq (K : List UInt8) (num : Int) (xs : List Itm) : buildP K num xs = headP num ++ frsL (framesP K num xs) := by
  have h : frsL (framesP K num xs) = frsL (xs.map fr2) ++ footP K num (refsP num 16 xs) := by simp [framesP, frsL, footP, footBody]
  rw [h, frsL_items]
  simp [buildP, piecesP]
theorem head_cut {num : Int} (hg : goodP num = true) (l : List UInt8) : headF (headP num ++ l) = some num := by
  have e1 : (headP num ++ l).take 8 = magicL := by
    rw [headP, List.append_assoc, List.take_append_of_le_length (by decide)]; rfl
  have e2 : ((headP num ++ l).drop 8).take 8 = numL (n64 num) := by
    rw [headP, List.append_assoc, List.drop_left' (by rfl), List.take_left' (numL_len _)]
  rw [headF, e1, e2, n64_eq hg, if_pos ⟨by simp, rfl, by simpa using hg⟩]

theorem framesP_small (K : List UInt8) (num : Int) {xs : List Itm} (hs : SmallI xs) : ∀ x ∈ framesP K num xs, x.2.length ≤ 67108864 := by
  intro x hx
  rcases List.mem_append.1 hx with hx | hx
  · obtain ⟨y, hy, rfl⟩ := List.mem_map.1 hx
    have h1 := hs.blob hy
    have h2 := hs.idl y hy
    simp only [fr2, List.length_append]; omega
  · simp only [List.mem_singleton] at hx
    subst hx
    have h2 := hs.num
    simp only [footBody]
    rw [sealF_len _ _ _ _ (by rw [footL_len, refsP_len]; omega), footL_len, refsP_len]
    omega

theorem open_build (K : List UInt8) {num : Int} (hg : goodP num = true) {xs : List Itm} (hs : SmallI xs) : openP K num (buildP K num xs) = (none, refsP num 16 xs) := by
  have hsm := framesP_small K num hs
  have hfb : (footBody K num xs).length ≤ 67108864 := hsm (3, footBody K num xs) (by simp [framesP])
  have hnum := hs.num
  have hd : (buildP K num xs).drop 16 = frsL (framesP K num xs) := by rw [buildP_eq, List.drop_left' (headP_len _)]
  have hlen : ∀ zs : List Fr2, zs.length ≤ (frsL zs).length := by
    intro zs
    induction zs with
    | nil => simp
    | cons z zs ih => simp only [frsL, List.map_cons, List.flatten_cons, List.length_append, List.length_cons, frameL] at *; omega
  obtain ⟨P, hP⟩ : ∃ P, (frsL (xs.map fr2)).length = P := ⟨_, rfl⟩
  have hfl : framesL (frsL (framesP K num xs)) = (frsAt 0 (xs.map fr2) ++ [(3, footBody K num xs, P)], (frsL (framesP K num xs)).length) := by
    have h1 := hlen (framesP K num xs)
    have := framesF_app (framesP K num xs) ((frsL (framesP K num xs)).length + 1) 0 [] hsm (by omega)
    rw [List.append_nil, framesF_none (show frameF [] = none from rfl)] at this
    rw [framesL, this]
    have : ∀ (zs : List Fr2) (p : Nat) (y : Fr2), frsAt p (zs ++ [y]) = frsAt p zs ++ [(y.1, y.2, p + (frsL zs).length)] := by
      intro zs
      induction zs with
      | nil => intro p y; simp [frsAt, frsL]
      | cons z zs ih =>
        intro p y
        simp only [List.cons_append, frsAt, ih]
        have : p + (frameL z.1 z.2).length + (frsL zs).length = p + (frsL (z :: zs)).length := by simp [frsL]; omega
        rw [this]
    rw [framesP, this, hP]
    simp
  have href : refsS num (frsL (framesP K num xs)).length (frsAt 0 (xs.map fr2) ++ [(3, footBody K num xs, P)]) = refsP num 16 xs := by
    rw [refsS_items num _ _ xs 0 hs.idl (by simp [endF, hP]), refsS_stop num _ (by decide), List.append_nil]
  have hat : (frsAt 0 (xs.map fr2) ++ [(3, footBody K num xs, P)]).getD (refsP num 16 xs).length (0, [], 0) = (3, footBody K num xs, P) := by
    rw [List.getD_eq_getElem?_getD, List.getElem?_append_right (by rw [frsAt_len, refsP_len]; simp), frsAt_len, refsP_len]
    simp
  have hop := open_sealF K 3 (numL (n64 num)) (footL (refsP num 16 xs)) (by rw [footL_len, refsP_len]; omega)
  unfold openP
  rw [hd, hfl]
  simp only [href, hat]
  rw [if_neg (by rw [hg]; simp), buildP_eq, head_cut hg, if_neg (by simp), if_neg (by simp [frsAt_len, refsP_len]), if_neg (by simp)]
  have : openF K 3 (numL (n64 num)) (footBody K num xs) = some (footL (refsP num 16 xs)) := hop
  rw [this]
  simp

theorem open_other_num (K : List UInt8) {num n2 : Int} (hg : goodP num = true) (hg2 : goodP n2 = true) (hne : num ≠ n2) (xs : List Itm) : openP K n2 (buildP K num xs) = (some 17, []) := by
  unfold openP
  rw [if_neg (by rw [hg2]; simp), buildP_eq, head_cut hg, if_pos (by simpa using hne)]

end Go.Proofs.YtmdandkoajocpaaGreatDoor
