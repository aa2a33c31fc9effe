/- Chapter 15: which bytes are nodes; manifest.Parse, manifest.Join and the reference's (conditions: those that each theorem names). -/
import Derived.Test.YtefnlbgkfingfaaDoorManiH
import Derived.Test.YtefnlbgkfingfaaDoorWireB
import Derived.Test.YtefnlbgkfingfaaDoorShaM
namespace Go.Proofs.YtefnlbgkfingfaaDoor
open Go Sx
set_option maxRecDepth 8000

def cutI (l : List UInt8) (k : Nat) : Ids := (List.range k).map fun i => (l.drop (32 * i)).take 32
theorem cutI_succ (l : List UInt8) (k : Nat) : cutI l (k + 1) = cutI l k ++ [(l.drop (32 * k)).take 32] := by rw [cutI, cutI, List.range_succ, List.map_append]; rfl
theorem cutI_len (l : List UInt8) (k : Nat) : (cutI l k).length = k := by simp [cutI]
theorem cutI_all {l : List UInt8} : ∀ {k : Nat}, 32 * k ≤ l.length → All32 (cutI l k)
  | 0, _ => All32.nil
  | k + 1, h => by rw [cutI_succ]; exact (cutI_all (by omega)).snoc (by rw [List.length_take, List.length_drop]; omega)
def OkN (b : List UInt8) : Prop := 2 ≤ b.length ∧ (b.getD 0 0).toNat ≤ 3 ∧ (b.getD 1 0).toNat ≤ 16 ∧ ((b.getD 1 0).toNat = 0 → (b.getD 0 0).toNat = 0) ∧ b.length = 2 + 32 * (b.getD 1 0).toNat
instance (b : List UInt8) : Decidable (OkN b) := by unfold OkN; infer_instance
def parseF (b : List UInt8) : Option (Nat × Ids) := if OkN b then some ((b.getD 0 0).toNat, cutI (b.drop 2) (b.getD 1 0).toNat) else none
def lvO (o : Option (Nat × Ids)) : Nat := (o.map (·.1)).getD 0
def idsO (o : Option (Nat × Ids)) : Ids := (o.map (·.2)).getD []
def errO {α : Type} (o : Option α) : Option Int := if o.isSome then none else some 9
theorem parse_ok {b : List UInt8} (h : OkN b) : parseF b = some ((b.getD 0 0).toNat, cutI (b.drop 2) (b.getD 1 0).toNat) := if_pos h
theorem parse_no {b : List UInt8} (h : ¬ OkN b) : parseF b = none := if_neg h
theorem idsO_len (b : List UInt8) : (idsO (parseF b)).length ≤ 16 := by
  by_cases h : OkN b
  · rw [parse_ok h]; show (cutI _ _).length ≤ 16; rw [cutI_len]; exact h.2.2.1
  · rw [parse_no h]; simp [idsO]

theorem id0_build (w : World) : (Instr.build 33 #[]).run Tryd.prog w = .ok (.agg (bv (List.replicate 32 0)).toArray) w := by
  have := build_arr (P := Tryd.prog) (w := w) (T := 33) (idZ w) Tryd.underlying33 (sB1 w) [] (by simp) (by simp)
  exact this

theorem u8_int (b : UInt8) : IntKind.wrap .i64 (b.toNat : Int) = (b.toNat : Int) := by have := b.toNat_lt; exact wrap_i64 (by omega) (by omega)

set_option maxHeartbeats 1000000 in
theorem rparse_spec (a : Option Addr) (n c : Nat) (b : List UInt8) (w : World) (hr : RdB w a n c b) :
    Calls Tryd.prog 23 #[.slice a n c] w fun e w' => ∃ a' n' c', e = .returned (.tuple #[.int .i64 (lvO (parseF b) : Int), .slice a' n' c', .int .i64 ((errO (parseF b)).getD 0)]) ∧ RdI w' a' n' c' (idsO (parseF b)) ∧ Chg [] w w' := by
  have hl := hr.lenB
  have sB : ∀ w, (sizeOf 5).run Tryd.prog w = .ok 1 w := fun w => Tryd.sizeOf5 w
  apply amphoraref15_Parse_vc
  have b0 := (b.getD 0 0).toNat_lt
  have b1 := (b.getD 1 0).toNat_lt
  have wr : IntKind.wrap .i64 ((2 : Int) + IntKind.wrap .i64 ((32 : Int) * IntKind.wrap .i64 ((b.getD 1 0).toNat : Int))) = ((2 + 32 * (b.getD 1 0).toNat : Nat) : Int) := by
    rw [u8_int, wrap_i64 (n := (32 : Int) * _) (by omega) (by omega), wrap_i64 (by omega) (by omega)]; omega
  refine ⟨fun x w' => w' = w ∧ x = !decide (OkN b), ⟨fun h => ⟨rfl, ?_⟩, fun h => ?_⟩, ?_⟩
  · have : ¬ OkN b := fun h' => by have := h'.1; simp at h; omega
    simp [this]
  · have h2 : 2 ≤ n := by simp at h; omega
    refine ixB (bA _) hr.cells hl (by omega) (by omega) fun _ _ _ => ⟨fun h => ⟨rfl, ?_⟩, fun h0 => ?_⟩
    · have h : 3 < (b.getD 0 0).toNat := by have h : decide (((b.getD 0 0).toNat : Int) > 3) = true := h; simp only [decide_eq_true_eq] at h; omega
      have : ¬ OkN b := fun h' => by have := h'.2.1; omega
      simp [this]
    have h0 : (b.getD 0 0).toNat ≤ 3 := by have h : decide (((b.getD 0 0).toNat : Int) > 3) = false := h0; simp only [decide_eq_false_iff_not] at h; omega
    refine ixB (bA _) hr.cells hl (by omega) (by omega) fun _ _ _ => ⟨fun h => ⟨rfl, ?_⟩, fun h1 => ?_⟩
    · have h : 16 < (b.getD 1 0).toNat := by have h : decide (((b.getD 1 0).toNat : Int) > 16) = true := h; simp only [decide_eq_true_eq] at h; omega
      have : ¬ OkN b := fun h' => by have := h'.2.2.1; omega
      simp [this]
    have h1 : (b.getD 1 0).toNat ≤ 16 := by have h : decide (((b.getD 1 0).toNat : Int) > 16) = false := h1; simp only [decide_eq_false_iff_not] at h; omega
    have last : ∀ t : Int, t = ((b.getD 1 0).toNat : Int) → ((b.getD 1 0).toNat = 0 → (b.getD 0 0).toNat = 0) → w = w ∧ (((n : Nat) : Int) != IntKind.wrap .i64 ((2 : Int) + IntKind.wrap .i64 ((32 : Int) * IntKind.wrap .i64 t))) = !decide (OkN b) := fun t ht h3 => by
      refine ⟨rfl, ?_⟩
      rw [ht, wr]
      have : OkN b ↔ (n : Int) = ((2 + 32 * (b.getD 1 0).toNat : Nat) : Int) := by
        unfold OkN
        rw [hl]
        constructor
        · intro h; have := h.2.2.2.2; omega
        · intro h; exact ⟨h2, h0, h1, h3, by omega⟩
      simp only [this]
      simp [bne, Bool.beq_eq_decide_eq]
    refine ixB (bA _) hr.cells hl (by omega) (by omega) fun _ _ _ => ⟨fun h => ?_, fun h => ?_⟩
    · have hz : (b.getD 1 0).toNat = 0 := by have h : (((b.getD 1 0).toNat : Int) == 0) = true := h; simp only [beq_iff_eq] at h; omega
      refine ixB (bA _) hr.cells hl (by omega) (by omega) fun _ _ _ => ⟨fun h => ⟨rfl, ?_⟩, fun h => ?_⟩
      · have h : 0 < (b.getD 0 0).toNat := by have h : decide (((b.getD 0 0).toNat : Int) > 0) = true := h; simp only [decide_eq_true_eq] at h; omega
        have : ¬ OkN b := fun h' => by have := h'.2.2.2.1 hz; omega
        simp [this]
      · have h : (b.getD 0 0).toNat = 0 := by have h : decide (((b.getD 0 0).toNat : Int) > 0) = false := h; simp only [decide_eq_false_iff_not] at h; omega
        exact ixB (bA _) hr.cells hl (by omega) (by omega) fun _ _ _ => last _ rfl fun _ => h
    · have hz : (b.getD 1 0).toNat ≠ 0 := by have h : (((b.getD 1 0).toNat : Int) == 0) = false := h; simp only [beq_eq_false_iff_ne, ne_eq] at h; omega
      exact ixB (bA _) hr.cells hl (by omega) (by omega) fun _ _ _ => last _ rfl fun h => absurd h hz
  rintro x w1 ⟨rfl, hx⟩
  refine ⟨fun h => ?_, fun h => ?_⟩
  · have hno : ¬ OkN b := by rw [h] at hx; simpa using hx
    rw [parse_no hno]
    exact ⟨none, 0, 0, rfl, RdI.nil _, Chg.refl _ _⟩
  have hok : OkN b := by rw [h] at hx; simpa using hx
  obtain ⟨k, hk⟩ : ∃ k, (b.getD 1 0).toNat = k := ⟨_, rfl⟩
  have hlen := hok.2.2.2.2
  have hk16 := hok.2.2.1
  rw [parse_ok hok]
  rw [hk] at hlen hk16 ⊢
  have hdl : (b.drop 2).length = 32 * k := by rw [List.length_drop]; omega
  refine ⟨fun xa xn xc x w' => ∃ i : Nat, x = ((2 + 32 * i : Nat) : Int) ∧ i ≤ k ∧ xn = i ∧ St w1 [] w' [.row 33 32 (.slice xa xn xc) xn (bv (cutI (b.drop 2) i).flatten)], fun _ _ _ x _ => n - x.toNat, ⟨0, rfl, by omega, rfl, (St.start w1).addNil _ _⟩, ?_⟩
  rintro xa xn xc x w2 ⟨i, rfl, hi, rfl, h2⟩
  refine ⟨fun h => ?_, fun h => ?_⟩
  · have hi' : xn < k := by simp at h; omega
    obtain ⟨src, hsrc⟩ : ∃ src, ((b.drop 2).drop (32 * xn)).take 32 = src := ⟨_, rfl⟩
    have hsl : src.length = 32 := by rw [← hsrc, List.length_take, List.length_drop]; omega
    obtain ⟨g8, w3, r3, h3⟩ := h2.zeroA idZ
    obtain ⟨w4, r4, h4⟩ := h3.stA (i := 1) (v := bv (List.replicate 32 0)) rfl (idS _) (by simp) (by simp) (bv_one _)
    refine ⟨_, id0_build w2, g8, w3, r3, w4, r4, fun y w' => ∃ j : Nat, y = (j : Int) ∧ j ≤ 32 ∧ St w1 [] w' [.row 33 32 (.slice xa xn xc) xn (bv (cutI (b.drop 2) xn).flatten), .arr g8 33 (bv (mixA src (List.replicate 32 0) j))], fun y _ => 32 - y.toNat, ⟨0, rfl, by omega, by simpa [mixA_zero] using h4⟩, ?_⟩
    rintro y w5 ⟨j, rfl, hj, h5⟩
    refine ⟨fun h => ?_, fun h => ?_⟩
    · have hj' : j < 32 := by simp at h; omega
      have wx : IntKind.wrap .i64 (((2 + 32 * xn : Nat) : Int) + (j : Int)) = ((2 + 32 * xn + j : Nat) : Int) := by rw [wrap_i64 (by omega) (by omega)]; omega
      rw [wx]
      have hbv : src[j]? = some (b.getD (2 + 32 * xn + j) 0) := by
        rw [← hsrc, List.getElem?_take, if_pos hj', List.getElem?_drop, List.getElem?_drop, ← Nat.add_assoc, List.getElem?_eq_getElem (by omega)]
        simp [List.getD, show 2 + 32 * xn + j < b.length by omega]
      refine ixB (bA _) (hr.keep0 h5.chg).cells hl (by omega) (by omega) fun _ _ _ => ?_
      rw [Int.toNat_natCast]
      obtain ⟨w6, r6, h6⟩ := h5.stL (i := 1) (o := j) (off := 0 + Int.toNat (j : Int) * 1) (T := 5) (v := .int .u8 ((b.getD (2 + 32 * xn + j) 0).toNat : Int)) rfl (sB _) (by omega) (by rw [bv_length, mixA_len (by simp [hsl]) (by simp; omega)]; simp; omega) rfl
      rw [bv_set, mixA_set (by simp [hsl]) hbv] at h6
      exact ⟨by omega, by omega, w6, r6, ⟨j + 1, wrap_succ hj' (by omega), by omega, h6⟩, mu_succ hj' (by omega)⟩
    · have hj' : j = 32 := by simp at h; omega
      have ha := mixA_all (x := src) (l := List.replicate 32 0) (by simp [hsl])
      rw [List.length_replicate] at ha
      rw [hj', ha] at h5
      obtain ⟨g9, w9, vb, vd, w10, r9, r10, h10, _⟩ := h5.pushA (i := 0) (ty := 30) idT rfl (bv src) (by simp [hsl]) (by decide) (bv_one _) (by omega) (by simp only [maxLen]; omega)
      have wy : IntKind.wrap .i64 (((2 + 32 * xn : Nat) : Int) + 32) = ((2 + 32 * (xn + 1) : Nat) : Int) := by rw [wrap_i64 (by omega) (by omega)]; omega
      rw [wy]
      refine ⟨_, h5.ldA (i := 1) (l := bv src) rfl (idA _) (idS _) (by simp [hsl]), _, _, _, _, r9, _, _, _, _, r10, ⟨xn + 1, rfl, by omega, rfl, ?_⟩, (by simp only [Int.toNat_natCast]; omega)⟩
      have e : bv (cutI (b.drop 2) (xn + 1)).flatten = bv (cutI (b.drop 2) xn).flatten ++ bv src := by
        rw [cutI_succ, List.flatten_append, bv_append, hsrc]; simp
      rw [e]
      exact h10.sub (List.Sublist.cons_cons _ (List.nil_sublist _))
  · have hi' : xn = k := by simp at h; omega
    subst hi'
    refine ixB (bA _) (hr.keep0 h2.chg).cells hl (by omega) (by omega) fun _ _ _ => ⟨xa, xn, xc, ?_, ⟨h2.rd (i := 0) rfl, cutI_all (by omega)⟩, h2.chg⟩
    have e0 : b.getD (Int.toNat 0) 0 = b.getD 0 0 := rfl
    rw [e0, u8_int]
    rfl

/-! ### manifest.Parse -/

/-- What is left, and the identifiers, behind k readings of 32 bytes. -/
def padI (o : Option (List UInt8 × List UInt8)) : List UInt8 := match o with
  | some p => p.1
  | none => List.replicate 32 0
def walkI : Nat → Option (List UInt8) → Option (List UInt8) × Ids
  | 0, st => (st, [])
  | k + 1, st => ((rawF (walkI k st).1 32).map (·.2), (walkI k st).2 ++ [padI (rawF (walkI k st).1 32)])

theorem raw_len {st : Option (List UInt8)} {x : Nat} {p : List UInt8 × List UInt8} (h : rawF st (x : Int) = some p) : p.1.length = x ∧ ∃ l, st = some l ∧ x ≤ l.length ∧ p = (l.take x, l.drop x) := by
  cases st with
  | none => simp [rawF] at h
  | some l =>
    simp only [rawF, Option.bind_some] at h
    split at h
    · simp only [Option.some.injEq, Int.toNat_natCast] at h
      subst h
      exact ⟨by simp; omega, l, rfl, by omega, rfl⟩
    · simp at h

theorem pad_len (st : Option (List UInt8)) : (padI (rawF st 32)).length = 32 := by
  cases h : rawF st 32 with
  | none => simp [padI]
  | some p => exact (raw_len (x := 32) h).1

theorem walkI_ids (k : Nat) (st : Option (List UInt8)) : (walkI k st).2.length = k ∧ All32 (walkI k st).2 := by
  induction k with
  | zero => exact ⟨rfl, All32.nil⟩
  | succ k ih => exact ⟨by rw [walkI, List.length_append, ih.1]; rfl, ih.2.snoc (pad_len _)⟩

theorem walkI_some (l : List UInt8) : ∀ k, 32 * k ≤ l.length → walkI k (some l) = (some (l.drop (32 * k)), cutI l k)
  | 0, _ => by simp [walkI, cutI]
  | k + 1, h => by
    have h1 : rawF (some (l.drop (32 * k))) ((32 : Nat) : Int) = some ((l.drop (32 * k)).take 32, (l.drop (32 * k)).drop 32) := raw_nat (by rw [List.length_drop]; omega)
    have h1 : rawF (some (l.drop (32 * k))) 32 = some ((l.drop (32 * k)).take 32, (l.drop (32 * k)).drop 32) := h1
    rw [walkI, walkI_some l k (by omega), h1, cutI_succ, List.drop_drop]
    rfl

theorem walkI_none (st : Option (List UInt8)) : ∀ k j, (walkI k st).1 = none → k ≤ j → (walkI j st).1 = none
  | k, 0, h, hj => by obtain rfl : k = 0 := by omega
                      exact h
  | k, j + 1, h, hj => by
    by_cases e : k = j + 1
    · subst e; exact h
    · have := walkI_none st k j h (by omega)
      rw [walkI, this]; rfl

theorem walkI_short (l : List UInt8) (k : Nat) (h : l.length < 32 * k) : (walkI k (some l)).1 = none := by
  obtain ⟨j, hj1, hj2⟩ : ∃ j, 32 * j ≤ l.length ∧ l.length < 32 * (j + 1) := ⟨l.length / 32, by omega, by omega⟩
  refine walkI_none _ (j + 1) k ?_ (by omega)
  have h1 : rawF (some (l.drop (32 * j))) 32 = none := by
    simp only [rawF, Option.bind_some]
    rw [if_neg]
    simp only [List.length_drop]
    omega
  rw [walkI, walkI_some l j hj1, h1]; rfl

/-- A short count of one byte. -/
theorem rv_small {l : List UInt8} {v s : Nat} (h : readVarF l = some (v, s)) (hv : v ≤ 16) : ∃ r, l = UInt8.ofNat v :: r ∧ s = 1 := by
  have h1 := readVar_back h
  obtain ⟨h2, h3, _, _⟩ := readVarF_some h
  rw [varL_small (by omega)] at h1
  have h4 := congrArg List.length h1
  rw [List.length_take] at h4
  simp only [List.length_singleton] at h4
  have hs : s = 1 := by omega
  subst hs
  cases l with
  | nil => simp at h3
  | cons x r => simp at h1; exact ⟨r, by rw [h1], rfl⟩

theorem rv_one (b : UInt8) (r : List UInt8) (h : b.toNat ≤ 16) : readVarF (b :: r) = some (b.toNat, 1) := by
  have := readVar_varL (m := b.toNat) (by omega) r
  rw [varL_small (by omega)] at this
  simpa using this

/-- What Parse finds: the first byte, the count, what is left behind the count. -/
def headF (b : List UInt8) : Option (UInt8 × Nat × List UInt8) := match b with
  | [] => none
  | x :: l => (readVarF l).map fun p => (x, p.1, l.drop p.2)

theorem head_okN {b : List UInt8} {x : UInt8} {v : Nat} {r : List UInt8} (h : headF b = some (x, v, r)) (hx : x.toNat ≤ 3) (hv : v ≤ 16) (h0 : v = 0 → x.toNat = 0) : (OkN b ↔ r.length = 32 * v) ∧ (r.length = 32 * v → parseF b = some (x.toNat, cutI r v)) := by
  cases b with
  | nil => simp [headF] at h
  | cons y l =>
    simp only [headF, Option.map_eq_some_iff, Prod.mk.injEq] at h
    obtain ⟨⟨v', s⟩, h1, rfl, rfl, h2⟩ := h
    obtain ⟨r', rfl, rfl⟩ := rv_small h1 hv
    simp only [List.drop_succ_cons, List.drop_zero] at h2
    subst h2
    have e : (UInt8.ofNat v').toNat = v' := by simp; omega
    have ok : OkN (y :: UInt8.ofNat v' :: r') ↔ r'.length = 32 * v' := by
      unfold OkN
      simp only [List.getD_cons_zero, List.getD_cons_succ, List.length_cons, e]
      constructor
      · intro h; have := h.2.2.2.2; omega
      · intro h; exact ⟨by omega, hx, hv, h0, by omega⟩
    refine ⟨ok, fun h => ?_⟩
    rw [parse_ok (ok.2 h)]
    simp only [List.getD_cons_zero, List.getD_cons_succ, e, List.drop_succ_cons, List.drop_zero]

theorem head_no {b : List UInt8} (h : ∀ x v r, headF b = some (x, v, r) → 3 < x.toNat ∨ 16 < v ∨ (v = 0 ∧ 0 < x.toNat)) : parseF b = none := by
  refine parse_no fun hok => ?_
  cases b with
  | nil => have := hok.1; simp at this
  | cons y l =>
    cases l with
    | nil => have := hok.1; simp at this
    | cons z r =>
      have h1 := hok.2.1
      have h2 := hok.2.2.1
      have h3 := hok.2.2.2.1
      simp only [List.getD_cons_zero, List.getD_cons_succ] at h1 h2 h3
      have := h y z.toNat r (by simp only [headF, rv_one z r h2, Option.map_some, List.drop_succ_cons, List.drop_zero])
      omega

/-- A Reader that is held, on the row of a copy of l. -/
def HoldsR (w w' : World) (g : Nat) (a0 : Option Addr) (n0 c0 : Nat) (l : List UInt8) (st : Option (List UInt8)) (N : List Res) : Prop :=
  ∃ a n c, SubB a0 n0 c0 l a n c (st.getD []) ∧ (st.getD []).length ≤ l.length ∧ St w [] w' (.row 5 1 (.slice a0 n0 c0) n0 (bv l) :: .blk g (.cells #[.slice a n c, .bool st.isNone] 84) :: N)

section
variable {w w1 : World} {g : Nat} {a0 : Option Addr} {n0 c0 : Nat} {l : List UInt8} {st : Option (List UInt8)} {N : List Res}

theorem HoldsR.chg (h : HoldsR w w1 g a0 n0 c0 l st N) : Chg [] w w1 := by obtain ⟨_, _, _, _, _, hS⟩ := h; exact hS.chg

theorem HoldsR.raw (h : HoldsR w w1 g a0 n0 c0 l st N) (x : Int) (hb : l.length ≤ 140737488355000) :
    Calls Tryd.prog 34 #[.pointer (some ⟨g, 0, none⟩), .int .i64 x] w1 fun e w2 => ∃ a' n' c', e = .returned (.slice a' n' c') ∧ HoldsR w w2 g a0 n0 c0 l ((rawF st x).map (·.2)) (N ++ [.row 5 1 (.slice a' n' c') n' (bv (((rawF st x).map (·.1)).getD []))]) := by
  obtain ⟨a, n, c, hs, hlen, hS⟩ := h
  have h0 : RdB w1 a0 n0 c0 l := hS.rd (i := 0) rfl
  refine (rRaw_spec g _ st x a n c w1 (hS.holds 1 _ rfl) (hs w1 h0) (by omega)).mono ?_
  rintro e w2 ⟨a', n', c', rfl, hf, a2, n2, c2, hg2, hs2⟩
  refine ⟨a', n', c', rfl, a2, n2, c2, fun v hv => hs2 v (hs v hv), ?_, hf.addBlk hS (i := 1) rfl hg2⟩
  cases st with
  | none => simp [rawF]
  | some q =>
    simp only [Option.getD_some] at hlen
    simp only [rawF, Option.bind_some]
    split
    · simp; omega
    · simp

theorem HoldsR.var (h : HoldsR w w1 g a0 n0 c0 l st N) :
    Calls Tryd.prog 35 #[.pointer (some ⟨g, 0, none⟩)] w1 fun e w2 => e = .returned (.int .i64 ((((varF st).map (·.1)).getD 0 : Nat) : Int)) ∧ HoldsR w w2 g a0 n0 c0 l ((varF st).map (·.2)) N := by
  obtain ⟨a, n, c, hs, hlen, hS⟩ := h
  have h0 : RdB w1 a0 n0 c0 l := hS.rd (i := 0) rfl
  refine (rVar_spec g _ st a n c w1 (hS.holds 1 _ rfl) (hs w1 h0)).mono ?_
  rintro e w2 ⟨rfl, hc, a2, n2, c2, hg2, hs2⟩
  refine ⟨rfl, a2, n2, c2, fun v hv => hs2 v (hs v hv), ?_, hS.upd (i := 1) (r' := .blk g (.cells #[.slice a2 n2 c2, .bool ((varF st).map fun p : Nat × List UInt8 => p.2).isNone] 84)) rfl hc hg2 (by simp [Res.fp])⟩
  cases st with
  | none => simp [varF]
  | some q =>
    simp only [Option.getD_some] at hlen
    simp only [varF, Option.bind_some]
    cases readVarF q with
    | none => simp
    | some p => simp; omega

theorem HoldsR.err (h : HoldsR w w1 g a0 n0 c0 l st N) :
    Calls Tryd.prog 36 #[.pointer (some ⟨g, 0, none⟩)] w1 fun e w2 => e = .returned (errV (brE st)) ∧ w2 = w1 := by
  obtain ⟨a, n, c, hs, hlen, hS⟩ := h
  exact rErr_spec g _ st a n c w1 (hS.holds 1 _ rfl)

theorem HoldsR.done (h : HoldsR w w1 g a0 n0 c0 l st N) :
    Calls Tryd.prog 37 #[.pointer (some ⟨g, 0, none⟩)] w1 fun e w2 => e = .returned (errV (if 0 < (st.getD []).length then some 9 else brE st)) ∧ w2 = w1 := by
  obtain ⟨a, n, c, hs, hlen, hS⟩ := h
  have h0 : RdB w1 a0 n0 c0 l := hS.rd (i := 0) rfl
  rw [(hs w1 h0).lenB]
  exact rDone_spec g _ st a n c w1 (hS.holds 1 _ rfl)
end

theorem head_parts (b : List UInt8) : (varF ((rawF (some b) 1).map (·.2))).map (·.2) = (headF b).map (·.2.2) ∧ ((varF ((rawF (some b) 1).map (·.2))).map (·.1)).getD 0 = ((headF b).map (·.2.1)).getD 0 ∧ ∀ x v r, headF b = some (x, v, r) → ((rawF (some b) 1).map (·.1)).getD [] = [x] := by
  cases b with
  | nil => simp [rawF, headF, varF]
  | cons x l =>
    have h1 : rawF (some (x :: l)) 1 = some ([x], l) := by
      have := raw_nat (l := x :: l) (m := 1) (by simp)
      simpa using this
    rw [h1]
    simp only [Option.map_some, varF, Option.bind_some, headF]
    cases readVarF l with
    | none => simp
    | some p => simp

set_option maxHeartbeats 1000000 in
theorem parse_spec (a : Option Addr) (n c : Nat) (b : List UInt8) (w : World) (hr : RdB w a n c b) (hb : n ≤ 140737488355000) :
    Calls Tryd.prog 22 #[.slice a n c] w fun e w' => ∃ a' n' c', e = .returned (.tuple #[.int .i64 (lvO (parseF b) : Int), .slice a' n' c', errV (errO (parseF b))]) ∧ RdI w' a' n' c' (idsO (parseF b)) ∧ Chg [] w w' := by
  have hl := hr.lenB
  obtain ⟨mI, hI⟩ := eI
  obtain ⟨hp1, hp2, hp3⟩ := head_parts b
  apply manifest_Parse_vc
  refine (newReader_spec a n c b w hr hb).mono ?_
  rintro e w1 ⟨g, a0, c0, rfl, h1⟩
  have H1 : HoldsR w w1 g a0 n c0 b (some b) [] := ⟨a0, n, c0, fun v hv => hv, Nat.le_refl _, h1⟩
  refine ⟨g, 0, rfl, (H1.raw 1 (by omega)).mono ?_⟩
  rintro e w2 ⟨a2, n2, c2, rfl, H2⟩
  refine ⟨_, _, _, rfl, H2.var.mono ?_⟩
  rintro e w3 ⟨rfl, H3⟩
  rw [hp1] at H3
  rw [hp2]
  refine ⟨_, rfl, fun x w' => w' = w3 ∧ (x = true → parseF b = none) ∧ (x = false → ∃ x0 v r, headF b = some (x0, v, r) ∧ x0.toNat ≤ 3 ∧ v ≤ 16 ∧ (v = 0 → x0.toNat = 0)), H3.err.mono ?_, ?_⟩
  · rintro e w4 ⟨rfl, rfl⟩
    cases hh : headF b with
    | none =>
      exact ⟨_, rfl, _, neqS_nil hI (some 9) _ _, fun _ => ⟨rfl, fun _ => head_no (by rw [hh]; simp), fun h => by simp at h⟩, fun h => by simp at h⟩
    | some p =>
      obtain ⟨x, v, r⟩ := p
      rw [hp3 x v r hh] at H3
      obtain ⟨_, _, _, _, _, hS3⟩ := H3
      have hx : RdB w4 a2 n2 c2 [x] := hS3.rd (i := 2) rfl
      have hxl := hx.lenB
      simp only [List.length_singleton] at hxl
      have h256 := x.toNat_lt
      refine ⟨_, rfl, _, neqS_nil hI none _ _, fun h => by simp at h, fun _ => ixB (bA _) hx.cells hx.lenB (by omega) (by omega) fun _ _ _ => ⟨fun h => ⟨rfl, fun _ => head_no fun x' v' r' h' => ?_, fun h => by simp at h⟩, fun h => ?_⟩⟩
      · rw [hh] at h'
        simp only [Option.some.injEq, Prod.mk.injEq] at h'
        obtain ⟨rfl, rfl, rfl⟩ := h'
        have h : (decide ((x.toNat : Int) > 3) || decide ((v : Int) > 16)) = true := h
        simp only [Bool.or_eq_true, decide_eq_true_eq] at h
        omega
      · have h : (decide ((x.toNat : Int) > 3) || decide ((v : Int) > 16)) = false := h
        simp only [Bool.or_eq_false_iff, decide_eq_false_iff_not] at h
        refine ⟨fun h0 => ?_, fun h0 => ⟨rfl, fun h => by simp at h, fun _ => ⟨x, v, r, rfl, by omega, by omega, fun hv => ?_⟩⟩⟩
        · have h0 : v = 0 := by have h0 : ((v : Int) == 0) = true := h0; simp only [beq_iff_eq] at h0; omega
          refine ixB (bA _) hx.cells hx.lenB (by omega) (by omega) fun _ _ _ => ⟨rfl, fun h1 => head_no fun x' v' r' h' => ?_, fun h1 => ⟨x, v, r, rfl, by omega, by omega, fun _ => ?_⟩⟩
          · rw [hh] at h'
            simp only [Option.some.injEq, Prod.mk.injEq] at h'
            obtain ⟨rfl, rfl, rfl⟩ := h'
            have h1 : decide ((x.toNat : Int) > 0) = true := h1
            simp only [decide_eq_true_eq] at h1
            omega
          · have h1 : decide ((x.toNat : Int) > 0) = false := h1
            simp only [decide_eq_false_iff_not] at h1
            omega
        · have h0 : ((v : Int) == 0) = false := h0
          simp at h0
          omega
  rintro x41 w4 ⟨rfl, ht, hf⟩
  refine ⟨fun h => ?_, fun h => ?_⟩
  · rw [ht h]
    exact ⟨none, 0, 0, rfl, RdI.nil _, H3.chg⟩
  obtain ⟨x, v, r, hh, hx3, hv16, hv0⟩ := hf h
  obtain ⟨hok, hpar⟩ := head_okN hh hx3 hv16 hv0
  rw [hp3 x v r hh, hh] at H3
  have hval : ((headF b).map (·.2.1)).getD 0 = v := by rw [hh]; rfl
  rw [hval]
  have H4 : HoldsR w w4 g a0 n c0 b (walkI 0 (some r)).1 [.row 5 1 (.slice a2 n2 c2) n2 (bv [x]), .row 33 32 (.slice none 0 0) 0 (bv (walkI 0 (some r)).2.flatten)] := by
    obtain ⟨a', n', c', hs, hlen, hS⟩ := H3
    exact ⟨a', n', c', hs, hlen, hS.addNil _ _⟩
  refine ⟨fun ya yn yc y w' => ∃ i : Nat, y = (i : Int) ∧ i ≤ v ∧ yn = i ∧ HoldsR w w' g a0 n c0 b (walkI i (some r)).1 [.row 5 1 (.slice a2 n2 c2) n2 (bv [x]), .row 33 32 (.slice ya yn yc) yn (bv (walkI i (some r)).2.flatten)], fun _ _ _ y _ => v - y.toNat, ⟨0, rfl, by omega, rfl, H4⟩, ?_⟩
  rintro ya yn yc y w5 ⟨i, rfl, hi, rfl, H5⟩
  refine ⟨fun h => ?_, fun h => ?_⟩
  · have hi' : yn < v := by simp at h; omega
    obtain ⟨a', n', c', hs, hlen, hS⟩ := H5
    obtain ⟨g9, w7, r7, h7⟩ := hS.zeroA idZ
    have H7 : HoldsR w w7.drew g a0 n c0 b (walkI yn (some r)).1 [.row 5 1 (.slice a2 n2 c2) n2 (bv [x]), .row 33 32 (.slice ya yn yc) yn (bv (walkI yn (some r)).2.flatten), .arr g9 33 (bv (List.replicate 32 0))] := ⟨a', n', c', hs, hlen, h7.drew⟩
    refine ⟨g9, w7, r7, by omega, by omega, (H7.raw 32 (by omega)).mono ?_⟩
    rintro e w8 ⟨a8, n8, c8, rfl, a'', n'', c'', hs8, hlen8, h8⟩
    obtain ⟨out, hout⟩ : ∃ out, ((rawF (walkI yn (some r)).1 32).map (·.1)).getD [] = out := ⟨_, rfl⟩
    rw [hout] at h8
    have hr8 : RdB w8 a8 n8 c8 out := h8.rd (i := 5) rfl
    have ho8 := hr8.lenB
    have hpad : out ++ (List.replicate 32 (0 : UInt8)).drop n8 = padI (rawF (walkI yn (some r)).1 32) := by
      cases hq : rawF (walkI yn (some r)).1 32 with
      | none => rw [hq] at hout; simp only [Option.map_none, Option.getD_none] at hout; subst hout; simp at ho8; subst ho8; simp [padI]
      | some p =>
        rw [hq] at hout
        simp only [Option.map_some, Option.getD_some] at hout
        have := (raw_len (x := 32) hq).1
        rw [hout] at this
        rw [List.drop_of_length_le (by simp; omega), List.append_nil, padI, hout]
    have hn8 : n8 ≤ 32 := by
      cases hq : rawF (walkI yn (some r)).1 32 with
      | none => rw [hq] at hout; simp only [Option.map_none, Option.getD_none] at hout; subst hout; simp at ho8; omega
      | some p =>
        rw [hq] at hout
        simp only [Option.map_some, Option.getD_some] at hout
        have := (raw_len (x := 32) hq).1
        rw [hout] at this
        omega
    obtain ⟨w9, r9, h9⟩ := h8.copyB (i := 4) rfl (by simp) hr8 hn8
    rw [hpad] at h9
    have hpl := pad_len (walkI yn (some r)).1
    obtain ⟨g10, w10, vb, vd, w11, r10, r11, h11, _⟩ := h9.pushA (i := 3) (ty := 30) idT rfl (bv (padI (rawF (walkI yn (some r)).1 32))) (by rw [bv_length]; exact hpl) (by decide) (bv_one _) (by omega) (by simp only [maxLen]; omega)
    refine ⟨_, _, _, rfl, _, w9, r9, _, h9.ldA (i := 4) (l := bv (padI (rawF (walkI yn (some r)).1 32))) rfl (idA _) (idS _) (by rw [bv_length]; exact hpl), _, _, _, _, r10, _, _, _, _, r11, ⟨yn + 1, wrap_succ hi' (by omega), by omega, rfl, a'', n'', c'', hs8, hlen8, ?_⟩, mu_succ hi' (by omega)⟩
    have e : bv (walkI (yn + 1) (some r)).2.flatten = bv (walkI yn (some r)).2.flatten ++ bv (padI (rawF (walkI yn (some r)).1 32)) := by
      rw [walkI, List.flatten_append, bv_append]; simp
    rw [e]
    exact h11.sub (List.Sublist.cons_cons _ (List.Sublist.cons_cons _ (List.Sublist.cons_cons _ (List.Sublist.cons_cons _ (List.nil_sublist _)))))
  · have hi' : yn = v := by simp at h; omega
    subst hi'
    refine H5.done.mono ?_
    rintro e w6 ⟨rfl, rfl⟩
    have hch := H5.chg
    obtain ⟨a', n', c', hs, hlen, hS⟩ := H5
    have hx : RdB w6 a2 n2 c2 [x] := hS.rd (i := 2) rfl
    have hxl := hx.lenB
    simp only [List.length_singleton] at hxl
    by_cases hrl : r.length = 32 * yn
    · rw [hpar hrl]
      have hw := walkI_some r yn (by omega)
      rw [hw] at hS ⊢
      have hd : r.drop (32 * yn) = [] := List.drop_of_length_le (by omega)
      rw [hd] at hS ⊢
      refine ⟨_, rfl, _, neqS_nil hI none _ _, fun h => by simp at h, fun _ => ixB (bA _) hx.cells hx.lenB (by omega) (by omega) fun _ _ _ => ⟨ya, yn, yc, ?_, ⟨hS.rd (i := 3) rfl, cutI_all (by omega)⟩, hch⟩⟩
      have e0 : ([x] : List UInt8).getD (Int.toNat 0) 0 = x := rfl
      rw [e0, u8_int]
      rfl
    · rw [parse_no (fun h => hrl (hok.1 h))]
      have hE : (if 0 < ((walkI yn (some r)).1.getD []).length then some 9 else brE (walkI yn (some r)).1) = some (9 : Int) := by
        by_cases hlt : r.length < 32 * yn
        · rw [walkI_short r yn hlt]; rfl
        · rw [walkI_some r yn (by omega)]
          rw [if_pos]
          simp only [Option.getD_some, List.length_drop]
          omega
      rw [hE]
      exact ⟨_, rfl, _, neqS_nil hI (some 9) _ _, fun _ => ⟨none, 0, 0, rfl, RdI.nil _, hch⟩, fun h => by simp at h⟩

/-! ### Join -/

def joinF (x : Int) : List (List UInt8) → Option Ids
  | [] => some []
  | b :: r => match parseF b with
    | some (l, ids) => if (l : Int) = x then (joinF x r).map (ids ++ ·) else none
    | none => none

theorem join_snoc_no {x : Int} {b : List UInt8} {r : List (List UInt8)} (h : parseF b = none ∨ ((lvO (parseF b) : Nat) : Int) ≠ x) : joinF x (b :: r) = none := by
  unfold joinF
  cases hp : parseF b with
  | none => rfl
  | some p =>
    rw [hp] at h
    obtain ⟨l, ids⟩ := p
    simp only [lvO, Option.map_some, Option.getD_some] at h
    rcases h with h | h
    · cases h
    · simp only; rw [if_neg h]

theorem join_ok {x : Int} {b : List UInt8} {r : List (List UInt8)} (h : parseF b ≠ none) (hx : ((lvO (parseF b) : Nat) : Int) = x) : joinF x (b :: r) = (joinF x r).map (idsO (parseF b) ++ ·) := by
  conv => lhs; unfold joinF
  cases hp : parseF b with
  | none => exact absurd hp h
  | some p =>
    rw [hp] at hx
    obtain ⟨l, ids⟩ := p
    simp only [lvO, Option.map_some, Option.getD_some] at hx
    simp only
    rw [if_pos hx]
    rfl

def idsJ (o : Option Ids) : Ids := o.getD []

theorem flat_idapp (a b : Ids) : bv (a ++ b).flatten = bv a.flatten ++ bv b.flatten := by rw [List.flatten_append, bv_append]

set_option maxHeartbeats 1000000 in
theorem join_spec (x : Int) (a : Option Addr) (n c : Nat) (vs : List Value) (ls : List (List UInt8)) (w : World) (hr : Rd w a n c 1 vs) (h2 : Row2 w vs ls) (hn : n ≤ 65536) (hb : ∀ i, i < ls.length → (ls.getD i []).length ≤ 140737488355000) :
    Calls Tryd.prog 24 #[.int .i64 x, .slice a n c] w fun e w' => ∃ a' n' c', e = .returned (.tuple #[.slice a' n' c', errV (errO (joinF x ls))]) ∧ RdI w' a' n' c' (idsJ (joinF x ls)) ∧ Chg [] w w' := by
  have hln : ls.length = n := by have := hr.len; have := h2.len; omega
  obtain ⟨mI, hI⟩ := eI
  apply manifest_Join_vc
  refine ⟨fun xa xn xc y w' => ∃ (i : Nat) (acc : Ids), y = (i : Int) ∧ i ≤ n ∧ acc.length = xn ∧ xn ≤ 16 * i ∧ All32 acc ∧ joinF x ls = (joinF x (ls.drop i)).map (acc ++ ·) ∧ St w [] w' [.row 33 32 (.slice xa xn xc) xn (bv acc.flatten)], fun _ _ _ y _ => n - y.toNat, ⟨0, [], rfl, by omega, rfl, by omega, All32.nil, by simp, (St.start w).addNil _ _⟩, ?_⟩
  rintro xa xn xc y w1 ⟨i, acc, rfl, hi, hal, h16, hall, hj, h1⟩
  refine ⟨fun h => ?_, fun h => ?_⟩
  · have hi' : i < n := by simp at h; omega
    have hc1 := hr.cells.keep0 h1.chg
    obtain ⟨b, o, a', n', c', ha, hv, hrd, q⟩ := ixS hc1 (h2.keep0 h1.chg) (i := i) (by omega)
    have hbi := hb i (by omega)
    have hlb := hrd.lenB
    refine ⟨b, o, ha, by omega, by omega, _, _, _, q w1 hc1, (parse_spec a' n' c' _ w1 hrd (by omega)).mono ?_⟩
    rintro e w2 ⟨a3, n3, c3, rfl, hri, c2⟩
    obtain ⟨nd, hnd⟩ : ∃ nd, ls.getD i [] = nd := ⟨_, rfl⟩
    have hdr : ls.drop i = nd :: ls.drop (i + 1) := by
      rw [List.drop_eq_getElem_cons (by omega : i < ls.length)]
      rw [← hnd]; simp [List.getD, show i < ls.length by omega]
    rw [hnd] at hri ⊢
    rw [hdr] at hj
    have h2' := h1.same c2
    refine ⟨_, _, _, _, _, rfl, _, neqS_nil hI _ _ _, fun h => ?_, fun h => ?_⟩
    · have hno : joinF x (nd :: ls.drop (i + 1)) = none := join_snoc_no (by
        simp only [Bool.or_eq_true, bne_iff_ne] at h
        rcases h with h | h
        · left; unfold errO at h; split at h <;> simp_all
        · exact .inr h)
      rw [hno] at hj
      rw [hj]
      exact ⟨none, 0, 0, rfl, RdI.nil _, h2'.chg⟩
    · simp only [Bool.or_eq_false_iff] at h
      have hne : parseF nd ≠ none := fun e => by rw [e] at h; simp [errO] at h
      have hlx : ((lvO (parseF nd) : Nat) : Int) = x := by have := h.2; simpa using this
      rw [join_ok hne hlx] at hj
      have hrn := hri.num
      have h16' := idsO_len nd
      obtain ⟨va, vc, w3, r3, h3, _, _⟩ := h2'.append (i := 0) (ty := 30) idT rfl hri.rd (bv_one _) (by omega) (by simp only [maxLen]; omega)
      rw [← flat_idapp] at h3
      refine ⟨_, _, _, _, r3, ⟨i + 1, acc ++ idsO (parseF nd), wrap_succ hi' (by omega), by omega, by rw [List.length_append]; omega, by omega, hall.app hri.all, ?_, h3⟩, mu_succ hi' (by omega)⟩
      rw [hj]
      cases joinF x (ls.drop (i + 1)) <;> simp
  · have hi' : i = n := by simp at h; omega
    rw [hi', List.drop_of_length_le (by omega)] at hj
    rw [hj]
    refine ⟨xa, xn, xc, rfl, ?_, h1.chg⟩
    show RdI w1 xa xn xc (acc ++ [])
    rw [List.append_nil]
    exact ⟨h1.rd (i := 0) rfl, hall⟩

set_option maxHeartbeats 1000000 in
theorem rjoin_spec (x : Int) (a : Option Addr) (n c : Nat) (vs : List Value) (ls : List (List UInt8)) (w : World) (hr : Rd w a n c 1 vs) (h2 : Row2 w vs ls) (hn : n ≤ 65536) :
    Calls Tryd.prog 25 #[.int .i64 x, .slice a n c] w fun e w' => ∃ a' n' c', e = .returned (.tuple #[.slice a' n' c', .int .i64 ((errO (joinF x ls)).getD 0)]) ∧ RdI w' a' n' c' (idsJ (joinF x ls)) ∧ Chg [] w w' := by
  have hln : ls.length = n := by have := hr.len; have := h2.len; omega
  apply amphoraref15_Join_vc
  refine ⟨fun xa xn xc y w' => ∃ (i : Nat) (acc : Ids), y = (i : Int) ∧ i ≤ n ∧ acc.length = xn ∧ xn ≤ 16 * i ∧ All32 acc ∧ joinF x ls = (joinF x (ls.drop i)).map (acc ++ ·) ∧ St w [] w' [.row 33 32 (.slice xa xn xc) xn (bv acc.flatten)], fun _ _ _ y _ => n - y.toNat, ⟨0, [], rfl, by omega, rfl, by omega, All32.nil, by simp, (St.start w).addNil _ _⟩, ?_⟩
  rintro xa xn xc y w1 ⟨i, acc, rfl, hi, hal, h16, hall, hj, h1⟩
  refine ⟨fun h => ?_, fun h => ?_⟩
  · have hi' : i < n := by simp at h; omega
    have hc1 := hr.cells.keep0 h1.chg
    obtain ⟨b, o, a', n', c', ha, hv, hrd, q⟩ := ixS hc1 (h2.keep0 h1.chg) (i := i) (by omega)
    refine ⟨b, o, ha, by omega, by omega, _, _, _, q w1 hc1, (rparse_spec a' n' c' _ w1 hrd).mono ?_⟩
    rintro e w2 ⟨a3, n3, c3, rfl, hri, c2⟩
    obtain ⟨nd, hnd⟩ : ∃ nd, ls.getD i [] = nd := ⟨_, rfl⟩
    have hdr : ls.drop i = nd :: ls.drop (i + 1) := by
      rw [List.drop_eq_getElem_cons (by omega : i < ls.length)]
      rw [← hnd]; simp [List.getD, show i < ls.length by omega]
    rw [hnd] at hri ⊢
    rw [hdr] at hj
    have h2' := h1.same c2
    refine ⟨_, _, _, _, _, rfl, fun h => ?_, fun h => ?_⟩
    · have hno : joinF x (nd :: ls.drop (i + 1)) = none := join_snoc_no (by
        simp only [Bool.or_eq_true, bne_iff_ne] at h
        rcases h with h | h
        · left; unfold errO at h; split at h <;> simp_all
        · exact .inr h)
      rw [hno] at hj
      rw [hj]
      exact ⟨none, 0, 0, rfl, RdI.nil _, h2'.chg⟩
    · simp only [Bool.or_eq_false_iff] at h
      have hne : parseF nd ≠ none := fun e => by rw [e] at h; simp [errO] at h
      have hlx : ((lvO (parseF nd) : Nat) : Int) = x := by have := h.2; simpa using this
      rw [join_ok hne hlx] at hj
      have hrn := hri.num
      have h16' := idsO_len nd
      obtain ⟨va, vc, w3, r3, h3, _, _⟩ := h2'.append (i := 0) (ty := 30) idT rfl hri.rd (bv_one _) (by omega) (by simp only [maxLen]; omega)
      rw [← flat_idapp] at h3
      refine ⟨_, _, _, _, r3, ⟨i + 1, acc ++ idsO (parseF nd), wrap_succ hi' (by omega), by omega, by rw [List.length_append]; omega, by omega, hall.app hri.all, ?_, h3⟩, mu_succ hi' (by omega)⟩
      rw [hj]
      cases joinF x (ls.drop (i + 1)) <;> simp
  · have hi' : i = n := by simp at h; omega
    rw [hi', List.drop_of_length_le (by omega)] at hj
    rw [hj]
    refine ⟨xa, xn, xc, rfl, ?_, h1.chg⟩
    show RdI w1 xa xn xc (acc ++ [])
    rw [List.append_nil]
    exact ⟨h1.rd (i := 0) rfl, hall⟩

end Go.Proofs.YtefnlbgkfingfaaDoor
