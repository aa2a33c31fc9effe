/- The law PackBack, in plain words: where items lie; a file cut short (conditions: none). -/
import Derived.Test.YtmdandkoajocpaaGreatDoorPackJ
namespace Go.Proofs.YtmdandkoajocpaaGreatDoor
open Go Sx
set_option maxRecDepth 8000

theorem refsP_get (num : Int) : ∀ (xs : List Itm) (s i : Nat) (x : Itm), xs[i]? = some x → (refsP num s xs)[i]? = some (mkRef x.1 num (((sizeP s (xs.take i) + (frmT x).length : Nat) : Int) - ((x.2.length : Nat) : Int)) ((x.2.length : Nat) : Int))
  | [], _, _, _, h => by simp at h
  | y :: r, s, 0, x, h => by
    simp only [List.getElem?_cons_zero, Option.some.injEq] at h
    subst h; rfl
  | y :: r, s, i + 1, x, h => by
    have ih := refsP_get num r (s + (frmT y).length) i x (by simpa using h)
    simpa [refsP, sizeP] using ih
theorem refsP_take (num : Int) : ∀ (xs : List Itm) (s i : Nat), refsP num s (xs.take i) = (refsP num s xs).take i
  | [], s, i => by simp [refsP]
  | y :: r, s, 0 => by simp [refsP]
  | y :: r, s, i + 1 => by simp [refsP, refsP_take num r]

def preI (x : Itm) : List UInt8 := 2 :: (varL (x.1 ++ x.2).length ++ x.1)
theorem frmT_pre (x : Itm) : frmT x = preI x ++ x.2 := by simp [frmT, frameL, preI]
theorem body_split {xs : List Itm} {i : Nat} {x : Itm} (hx : xs[i]? = some x) : (xs.map frmT).flatten = ((xs.take i).map frmT).flatten ++ (frmT x ++ ((xs.drop (i + 1)).map frmT).flatten) := by
  obtain ⟨hi, he⟩ := List.getElem?_eq_some_iff.1 hx
  have : xs = xs.take i ++ x :: xs.drop (i + 1) := by rw [← he, ← List.drop_eq_getElem_cons hi, List.take_append_drop]
  have h2 := congrArg (fun l => (l.map frmT).flatten) this
  simpa using h2
theorem buildP_body (K : List UInt8) (num : Int) (xs : List Itm) : buildP K num xs = headP num ++ ((xs.map frmT).flatten ++ footP K num (refsP num 16 xs)) := by simp [buildP, piecesP]

theorem item_bounds {num : Int} {xs : List Itm} (hs : SmallI xs) {i : Nat} {x : Itm} (hx : xs[i]? = some x) : x.1.length = 32 ∧ x.2.length ≤ (frmT x).length ∧ sizeP 16 (xs.take i) + (frmT x).length ≤ 33900032 := by
  have hm := List.mem_of_getElem? hx
  have h1 := hs.idl x hm
  have h2 := hs.blob hm
  have h3 := frmT_len x h1 (by omega)
  have h4 := (hs.take i).bytes
  refine ⟨h1, by omega, ?_⟩
  rw [sizeP_eq]
  omega

/-- An item's ref: its fields, and what is cut by it. -/
theorem cut_item (K : List UInt8) {num : Int} (hg : goodP num = true) {xs : List Itm} (hs : SmallI xs) {i : Nat} {x : Itm} (hx : xs[i]? = some x) {r : RefD} (hr : (refsP num 16 xs)[i]? = some r) :
    r.id = x.1 ∧ r.pack = num ∧ r.at_ + r.len = ((sizeP 16 (xs.take i) + (frmT x).length : Nat) : Int) ∧ cutOk (buildP K num xs) r = true ∧ cutP (buildP K num xs) r = x.2 := by
  have hgi := goodP_iff.1 hg
  obtain ⟨h1, h2, h3⟩ := item_bounds (num := num) hs hx
  rw [refsP_get num xs 16 i x hx, Option.some.injEq] at hr
  obtain ⟨e1, e2, e3, e4⟩ := mkRef_eq (p := num) (q := (((sizeP 16 (xs.take i) + (frmT x).length : Nat) : Int) - ((x.2.length : Nat) : Int))) (n := ((x.2.length : Nat) : Int)) h1 ⟨by omega, by omega⟩ ⟨by omega, by omega⟩ ⟨by omega, by omega⟩
  rw [hr] at e1 e2 e3 e4
  have hlen : (frmT x).length = (preI x).length + x.2.length := by rw [frmT_pre, List.length_append]
  have hat : r.at_ = (((headP num ++ ((xs.take i).map frmT).flatten ++ preI x).length : Nat) : Int) := by
    rw [e3, sizeP_eq]
    simp only [List.length_append, headP_len]
    omega
  have hb : buildP K num xs = (headP num ++ ((xs.take i).map frmT).flatten ++ preI x) ++ (x.2 ++ (((xs.drop (i + 1)).map frmT).flatten ++ footP K num (refsP num 16 xs))) := by
    rw [buildP_body, body_split hx, frmT_pre]
    simp only [List.append_assoc]
  have hok : cutOk (buildP K num xs) r = true := by
    have hl : (buildP K num xs).length = (headP num ++ ((xs.take i).map frmT).flatten ++ preI x).length + (x.2.length + (((xs.drop (i + 1)).map frmT).flatten ++ footP K num (refsP num 16 xs)).length) := by
      rw [hb]; simp only [List.length_append]
    simp only [cutOk, Bool.and_eq_true, decide_eq_true_eq]
    rw [hat, e4]
    omega
  refine ⟨e1, e2, by omega, hok, ?_⟩
  rw [cutP, if_pos hok, hat, e4, Int.toNat_natCast, Int.toNat_natCast, hb, List.drop_left' rfl, List.take_left' rfl]

theorem sizeP_mono (xs : List Itm) {i j : Nat} (h : i ≤ j) : sizeP 16 (xs.take i) ≤ sizeP 16 (xs.take j) := by
  rw [sizeP_eq, sizeP_eq]
  have : xs.take i = (xs.take j).take i := by rw [List.take_take, Nat.min_eq_left h]
  have h2 : ((xs.take j).take i ++ (xs.take j).drop i) = xs.take j := List.take_append_drop _ _
  have h3 := congrArg (fun l => ((l.map frmT).flatten).length) h2
  simp only [List.map_append, List.flatten_append, List.length_append] at h3
  rw [this]; omega

theorem back_cut (K : List UInt8) {num : Int} (hg : goodP num = true) {xs : List Itm} (hs : SmallI xs) {c : Nat} (h16 : 16 ≤ c) (hc : c < (buildP K num xs).length) :
    ∃ (i : Nat) (e : Int), i ≤ xs.length ∧ openP K num ((buildP K num xs).take c) = (some 17, []) ∧ scanP ((buildP K num xs).take c) = (num, refsP num 16 (xs.take i), e, none) ∧ e ≤ (c : Int) ∧
      (∀ j x, j < i → xs[j]? = some x → sizeP 16 (xs.take j) + (frmT x).length ≤ c) ∧ (∀ x, xs[i]? = some x → c < sizeP 16 (xs.take i) + (frmT x).length) := by
  have hsm := framesP_small K num hs
  have hcut : (buildP K num xs).take c = headP num ++ (frsL (framesP K num xs)).take (c - 16) := by
    rw [buildP_eq, List.take_append, headP_len, List.take_of_length_le (by rw [headP_len]; omega)]
  have hcl : c - 16 < (frsL (framesP K num xs)).length := by
    rw [buildP_eq, List.length_append, headP_len] at hc; omega
  obtain ⟨i, k, b, c', h1, h2, h3, h4, h5⟩ := frsL_cut (framesP K num xs) (c - 16) hcl
  have hi : i ≤ xs.length := by have : (framesP K num xs).length = xs.length + 1 := by simp [framesP]
                                omega
  have htk : (framesP K num xs).take i = (xs.take i).map fr2 := by
    rw [framesP, List.take_append_of_le_length (by simpa using hi), List.map_take]
  have hfl := framesL_cut hsm h2 h3
  rw [← h4, htk] at hfl
  rw [htk] at h4 h5
  obtain ⟨P, hP⟩ : ∃ P, (frsL ((xs.take i).map fr2)).length = P := ⟨_, rfl⟩
  rw [hP] at hfl h5
  have hsz : sizeP 16 (xs.take i) = 16 + P := by rw [sizeP_eq, ← frsL_items, hP]
  have hd : ((buildP K num xs).take c).drop 16 = (frsL (framesP K num xs)).take (c - 16) := by rw [hcut, List.drop_left' (headP_len _)]
  have hh : headF ((buildP K num xs).take c) = some num := by rw [hcut]; exact head_cut hg _
  have hrs : refsS num P (frsAt 0 ((xs.take i).map fr2)) = refsP num 16 (xs.take i) := by
    have := refsS_items num P [] (xs.take i) 0 (hs.take i).idl (by show P = 0 + _; rw [hP]; omega)
    simpa [refsS] using this
  have hil : (xs.take i).length = i := by rw [List.length_take]; omega
  refine ⟨i, if 0 < i then ((16 + P : Nat) : Int) else 16, hi, ?_, ?_, by split <;> omega, fun j x hj hx => ?_, fun x hx => ?_⟩
  · unfold openP
    rw [if_neg (by rw [hg]; simp), hh, if_neg (by simp), hd, hfl]
    simp only [hrs]
    rw [if_pos (.inr (by rw [frsAt_len, refsP_len, List.length_map]; omega))]
  · unfold scanP
    rw [hh, hd, hfl]
    simp only [hrs, refsP_len, hil]
    rw [List.drop_of_length_le (by rw [frsAt_len, List.length_map]; omega)]
    rfl
  · have e1 : sizeP 16 (xs.take (j + 1)) = sizeP 16 (xs.take j) + (frmT x).length := by
      rw [List.take_add_one, hx]; exact sizeP_snoc _ _ _
    have e2 := sizeP_mono xs (show j + 1 ≤ i by omega)
    omega
  · have e3 : (framesP K num xs)[i]? = some (fr2 x) := by
      have hx' := (List.getElem?_eq_some_iff.1 hx).1
      rw [framesP, List.getElem?_append_left (by simpa using hx'), List.getElem?_map, hx]; rfl
    rw [e3] at h2
    have e4 : (frameL k b) = frmT x := by
      simp only [Option.some.injEq] at h2
      have : (fr2 x).1 = k ∧ (fr2 x).2 = b := by rw [h2]; exact ⟨rfl, rfl⟩
      rw [← this.1, ← this.2]; rfl
    rw [e4] at h3
    omega

section
variable {w0 w w' : World} {X : List Nat} {M N N' T : List Res}

theorem rdE_upto {α : Type} {enc : α → List Value} {k : Nat} {a : Option Addr} {n c m : Nat} {l : List α} (h : RdE enc k w a n c l) (hk : 0 < k) (hm : m ≤ n) : RdE enc k w a m c (l.take m) := by
  have h0 : SubA k a 0 c a := ⟨fun _ => rfl, fun _ => by cases a <;> simp [Addr.add]⟩
  have := h.sub h0 (hh := m) (by omega) hm (by have := h.rd.le; omega) (Nat.le_refl _)
  simpa using this

theorem case_ms {C : CaseD} (hm : C.ms.length = 32) (h : St w0 X w M) {i g : Nat} {T : TypeId} (hi : M[i]? = some (.arr g T (caseC C))) : (Instr.loadAt 22 (.pointer (some ⟨g, 0, none⟩))).run Tryz.prog w = .ok (.agg (bv C.ms).toArray) w := by
  have := h.ldPre (T := 22) (n := 32) hi (Tryz.isAgg22 _) (Tryz.sizeOf22 _) (by rw [caseC_len hm]; decide)
  rw [caseC, List.take_left' (by simp [hm])] at this
  exact this

theorem rgood13_spec (num : Int) (w : World) : Calls Tryz.prog 18 #[.int .i64 num] w fun e w' => e = .returned (.bool (goodP num)) ∧ w' = w := by
  apply amphoraref13_Good_vc
  exact ⟨by simp [goodP, ge_iff_le], rfl⟩

theorem same13 (a : Option Addr) (n c : Nat) (a2 : Option Addr) (n2 c2 : Nat) (l : Refs) (w : World) (h1 : RdR w a n c l) (h2 : RdR w a2 n2 c2 l) (hb : n ≤ 4611686018427387904) :
    Calls Tryz.prog 13 #[.slice a n c, .slice a2 n2 c2] w fun e w' => e = .returned (.bool true) ∧ Chg [] w w' := by
  refine (rsame13_spec a n c l a2 n2 c2 l w h1 h2 hb).mono ?_
  rintro e w' ⟨⟨rfl, _⟩ | ⟨_, hne⟩, hc⟩
  · exact ⟨rfl, hc⟩
  · exact absurd rfl hne

theorem itId {a : Option Addr} {n c : Nat} {l : List ItD} (h : RdE itC 33 w a n c l) {i : Nat} {x : ItD} (hx : l[i]? = some x) : ∃ b o, a = some ⟨b, o, none⟩ ∧ ∀ w', RdE itC 33 w' a n c l → (Instr.loadAt 44 (.pointer (some ⟨b, o + Int.toNat (i : Int) * 33, none⟩))).run Tryz.prog w' = .ok (.agg (bv x.id).toArray) w' := by
  obtain ⟨b, o, rfl, hr⟩ := h.at_ (by decide) hx
  refine ⟨b, o, rfl, fun w' h' => ?_⟩
  rw [Int.toNat_natCast]
  refine ldRange (fun j v hj => hr w' h' j v ?_) (idA' _) (idS' _) (by simp [x.idl])
  rw [itC, List.getElem?_append_left (List.getElem?_eq_some_iff.1 hj).1]; exact hj

end

theorem build_len2 (K : List UInt8) (num : Int) {w : World} {C : CaseD} (h : CaseR w C) (hl : largeP C = false) : (buildP K num (itemsT C)).length ≤ 100000 := by
  obtain ⟨hs, h1, h2⟩ := small_of_case h hl
  have hb := h.bnum
  have hf := frames_len (itemsT C) fun x hx => ⟨hs.idl x hx, by have := hs.blob hx; omega⟩
  have hsum : ((itemsT C).map fun x => x.2.length).sum = C.bls.flatten.length := by
    rw [← flat_sum]
    congr 1
    simp only [itemsT, List.map_map]
    refine List.ext_getElem (by simp) fun i h1 h2 => ?_
    have hi : i < C.bls.length := by simpa using h2
    simp only [List.getElem_map, List.getElem_range, Function.comp_apply, itemT]
    rw [List.getD_eq_getElem?_getD, List.getElem?_eq_getElem hi]; rfl
  rw [hsum, itemsT_len] at hf
  have hsl := sealF_len K 3 (numL (n64 num)) (footL (refsP num 16 (itemsT C))) (by rw [footL_len, refsP_len, itemsT_len]; omega)
  rw [footL_len, refsP_len, itemsT_len] at hsl
  have hv := varL_len 9 (sealF K 3 (numL (n64 num)) (footL (refsP num 16 (itemsT C)))).length (by omega) (by decide)
  rw [buildP_body]
  simp only [List.length_append, headP_len, footP, frameL, List.length_cons]
  omega

end Go.Proofs.YtmdandkoajocpaaGreatDoor
