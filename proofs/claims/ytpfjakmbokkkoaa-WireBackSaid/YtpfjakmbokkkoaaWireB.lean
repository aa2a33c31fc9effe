/- Fields and frames on the wire, in plain words, and the contracts of wire.Pack and of the Reader (conditions: those that each theorem names). -/
import Derived.Test.YtpfjakmbokkkoaaWireA
import Derived.Test.YtpfjakmbokkkoaaLists
namespace Go.Proofs.Ytpfjakmbokkkoaa
open Go Sx

/-- Fields, one behind the other. -/
def packL (ls : List (List UInt8)) : List UInt8 := (ls.map fun l => varL l.length ++ l).flatten

theorem packL_take {ls : List (List UInt8)} {i : Nat} (h : i < ls.length) : packL (ls.take (i + 1)) = packL (ls.take i) ++ varL (ls.getD i []).length ++ ls.getD i [] := by
  rw [List.take_add_one, List.getElem?_eq_getElem h, packL, packL, List.map_append, List.flatten_append, List.append_assoc]
  congr 1
  simp [List.getD, h]

theorem packL_len : ∀ ls : List (List UInt8), (∀ l ∈ ls, l.length < 9223372036854775808) → (packL ls).length ≤ ls.flatten.length + 9 * ls.length
  | [], _ => by simp [packL]
  | l :: ls, h => by
    have ih := packL_len ls fun x hx => h x (by simp [hx])
    have h9 := varL_len 9 l.length (by have := h l (by simp); simpa using this) (by decide)
    have e : packL (l :: ls) = varL l.length ++ l ++ packL ls := by simp [packL]
    rw [e]
    simp only [List.length_append, List.flatten_cons, List.length_cons]
    omega

theorem mem_le_flat {ls : List (List UInt8)} {l : List UInt8} (h : l ∈ ls) : l.length ≤ ls.flatten.length := by
  obtain ⟨i, hi, rfl⟩ := List.getElem_of_mem h
  have := getD_le_flat hi
  simpa [List.getD, hi] using this

theorem packL_bound {ls : List (List UInt8)} (h : ls.flatten.length ≤ 67108864) (i : Nat) : (packL (ls.take i)).length ≤ 67108864 + 9 * ls.length := by
  have h1 := packL_len (ls.take i) fun l hl => by have := mem_le_flat (List.mem_of_mem_take hl); omega
  have h2 := flat_take_le ls i
  have h3 : (ls.take i).length ≤ ls.length := by rw [List.length_take]; omega
  omega

theorem pack_spec (a : Option Addr) (n c : Nat) (vs : List Value) (ls : List (List UInt8)) (w : World) (hr : Rd w a n c 1 vs) (h2 : Row2 w vs ls) (hb : ls.flatten.length ≤ 67108864) (hn : ls.length ≤ 1048576) :
    Calls Try.prog 23 #[.slice a n c] w fun e w' => ∃ a' n' c', e = .returned (.slice a' n' c') ∧ FreshB w w' a' n' c' (packL ls) := by
  have hln : ls.length = n := by have := hr.len; have := h2.len; omega
  apply wire_Pack_vc
  refine ⟨fun xa xn xc x w' => ∃ i : Nat, x = (i : Int) ∧ i ≤ n ∧ xn = (packL (ls.take i)).length ∧ St w [] w' [.row 5 1 (.slice xa xn xc) xn (bv (packL (ls.take i)))], fun _ _ _ x _ => n - x.toNat,
    ⟨0, rfl, by omega, by simp [packL], (St.start w).addNil _ _⟩, ?_⟩
  rintro xa xn xc x w1 ⟨i, rfl, hi, hxn, hS⟩
  have hpb := packL_bound hb i
  refine ⟨fun h => ?_, fun h => ?_⟩
  · have hi' : i < n := by simp at h; omega
    obtain ⟨b, o, a', n', c', ha, hv, hrd, hld⟩ := ixS hr.cells h2 (i := i) (by omega)
    have hl' := hrd.lenB
    have hle := getD_le_flat (ls := ls) (i := i) (by omega)
    refine ⟨b, o, ha, by omega, by omega, _, _, _, hld w1 (hr.cells.keep0 hS.chg), fun h => ?_, fun _ => ?_⟩
    · simp at h; omega
    · have h9 := varL_len 9 n' (by simp; omega) (by decide)
      refine (var_spec n' w1 (by omega)).mono ?_
      rintro e w2 ⟨a2, n2, c2, rfl, hf2⟩
      have hS2 := hf2.add hS
      have hn2 := hf2.2.1
      obtain ⟨va, vc, w3, hr3, hS3⟩ := hS2.appendB (i := 0) rfl (hS2.rd (i := 1) rfl) (by omega)
      obtain ⟨vb, vd, w4, hr4, hS4⟩ := hS3.appendB (i := 0) rfl (hS3.rd1 hrd) (by omega)
      have hpt := packL_take (ls := ls) (i := i) (by omega)
      rw [hl'] at hpt
      refine ⟨_, _, _, rfl, _, _, _, _, hr3, _, _, _, _, hr4, ⟨i + 1, ?_, by omega, ?_, ?_⟩, ?_⟩
      · rw [wrap_i64 (by omega) (by omega)]; rfl
      · rw [hpt]; simp only [List.length_append]; omega
      · rw [hpt]; exact St.pop (M := [_]) hS4
      · show n - (IntKind.wrap .i64 ((i : Int) + 1)).toNat < n - ((i : Int)).toNat
        rw [wrap_i64 (by omega) (by omega)]; omega
  · have hi' : i = n := by simp at h; omega
    rw [hi', ← hln, List.take_length] at hS
    exact ⟨_, _, _, rfl, hS.freshB (i := 0) rfl⟩

/-- A slice that may be read wherever another may. -/
def SubB (a : Option Addr) (n c : Nat) (l : List UInt8) (a' : Option Addr) (n' c' : Nat) (l' : List UInt8) : Prop := ∀ v : World, RdB v a n c l → RdB v a' n' c' l'

/-- A Reader in memory, and what it has not read yet; none: it is broken. -/
def RdrA (g T : Nat) (a : Option Addr) (n c : Nat) (st : Option (List UInt8)) (w : World) : Prop := w.heap[g]? = some (.cells #[.slice a n c, .bool st.isNone] T)

/-- Behind a call of a Reader. -/
def RdrP (g T : Nat) (a : Option Addr) (n c : Nat) (st st' : Option (List UInt8)) (w' : World) : Prop := ∃ a' n' c', RdrA g T a' n' c' st' w' ∧ SubB a n c (st.getD []) a' n' c' (st'.getD [])

theorem rdr_ne (a : Option Addr) (n c : Nat) (t : Bool) (l : List UInt8) : ∀ v ∈ bv l, v ∉ (#[Value.slice a n c, .bool t] : Array Value).toList := by
  intro v hv
  simp only [bv, List.mem_map] at hv
  obtain ⟨b, _, rfl⟩ := hv
  simp

theorem rdNil (w : World) : RdB w none 0 0 [] := ⟨Cells.nil _ _, rfl, Nat.le_refl _, fun _ => rfl⟩

theorem fail_spec (g T : Nat) (a : Option Addr) (n c : Nat) (t : Bool) (w : World) (hg : w.heap[g]? = some (.cells #[.slice a n c, .bool t] T)) :
    Calls Try.prog 49 #[.pointer (some ⟨g, 0, none⟩)] w fun e w' => e = .returned (.tuple #[]) ∧ Chg [g] w w' ∧ w'.heap[g]? = some (.cells #[.slice none 0 0, .bool true] T) := by
  apply wire_Reader_fail_vc
  have s1 : ∀ w, (sizeOf 4).run Try.prog w = .ok 1 w := fun w => Try.sizeOf4 w
  have s2 : ∀ w, (sizeOf 22).run Try.prog w = .ok 1 w := fun w => Try.sizeOf22 w
  obtain ⟨w1, r1, h1⟩ := (St.ofBlk hg).st (i := 0) (o := 1) (v := .bool true) rfl (s1 _) (by simp) rfl
  obtain ⟨w2, r2, h2⟩ := h1.st (i := 0) (o := 0) (v := .slice none 0 0) rfl (s2 _) (by simp) rfl
  exact ⟨w1, r1, w2, r2, rfl, h2.chg, h2.holds 0 _ rfl⟩

/-- What raw does. -/
def rawF (st : Option (List UInt8)) (x : Int) : Option (List UInt8 × List UInt8) := st.bind fun l => if 0 ≤ x ∧ x ≤ (l.length : Int) then some (l.take x.toNat, l.drop x.toNat) else none

theorem raw_spec (g T : Nat) (st : Option (List UInt8)) (x : Int) (a : Option Addr) (n c : Nat) (w : World) (hg : RdrA g T a n c st w) (hr : RdB w a n c (st.getD [])) :
    Calls Try.prog 50 #[.pointer (some ⟨g, 0, none⟩), .int .i64 x] w fun e w' => ∃ a' n' c', e = .returned (.slice a' n' c') ∧ Chg [g] w w' ∧ RdrP g T a n c st ((rawF st x).map (·.2)) w' ∧ RdB w' a' n' c' (((rawF st x).map (·.1)).getD []) := by
  unfold RdrA at hg
  have iB : ∀ w, (isAgg 4).run Try.prog w = .ok false w := fun w => Try.isAgg4 w
  have s2 : ∀ w, (sizeOf 22).run Try.prog w = .ok 1 w := fun w => Try.sizeOf22 w
  have hl := hr.lenB
  have hle := hr.le
  have hS := St.ofBlk hg
  have ld0 := hS.ld (i := 0) (o := 0) (P := Try.prog) (v := .slice a n c) rfl (bsA _) rfl
  have ld1' := hS.ld (i := 0) (o := 1) (P := Try.prog) (v := .bool st.isNone) rfl (iB _) rfl
  apply wire_Reader_raw_vc
  refine ⟨fun b w' => b = decide (x < 0 ∨ (n : Int) < x) ∧ w' = w, ⟨fun h => ?_, fun h => ⟨a, n, c, ld0, ?_, rfl⟩⟩, ?_⟩
  · simp at h; exact ⟨by simp [h], rfl⟩
  · simp at h; simp [show ¬ x < 0 by omega]
  rintro b w1 ⟨rfl, rfl⟩
  refine ⟨fun w' => (¬ (x < 0 ∨ (n : Int) < x) ∧ w' = w1) ∨ ((x < 0 ∨ (n : Int) < x) ∧ Chg [g] w1 w' ∧ w'.heap[g]? = some (.cells #[.slice none 0 0, .bool true] T)), ⟨fun h => ?_, fun h => ?_⟩, ?_⟩
  · refine (fail_spec g T a n c _ w1 hg).mono ?_
    rintro e w2 ⟨rfl, hc2, hg2⟩
    exact ⟨rfl, .inr ⟨by simpa using h, hc2, hg2⟩⟩
  · exact .inl ⟨by simpa using h, rfl⟩
  rintro w2 (⟨hx, rfl⟩ | ⟨hx, hc2, hg2⟩)
  · refine ⟨_, ld1', fun h => ?_, fun h => ?_⟩
    · cases st with
      | some l => simp at h
      | none =>
        refine ⟨_, _, _, rfl, Chg.refl _ _, ?_, ?_⟩
        · exact ⟨a, n, c, hg, fun v hv => by simpa [rawF] using hv⟩
        · simpa [rawF] using rdNil _
    · cases st with
      | none => simp at h
      | some l =>
        simp only [Option.getD_some] at hr hl
        have hxn : 0 ≤ x ∧ x ≤ (n : Int) := by omega
        obtain ⟨m, rfl⟩ := Int.eq_ofNat_of_zero_le hxn.1
        refine ⟨_, _, _, ld0, by omega, by omega, by omega, _, _, _, ld0, by omega, by omega, by omega, fun a2 hs2 => ?_⟩
        simp only [Int.toNat_natCast] at hs2 ⊢
        obtain ⟨w3, r3, h3⟩ := hS.st (i := 0) (o := 0) (P := Try.prog) (v := .slice a2 (n - m) (c - m)) rfl (s2 _) (by simp) rfl
        have hc3 := h3.chg
        have hrf : rawF (some l) (m : Int) = some (l.take m, l.drop m) := by simp [rawF]; omega
        rw [hrf]
        have e1 : ((bv l).drop (m * 1)).take ((n - m) * 1) = bv (l.drop m) := by
          rw [Nat.mul_one, Nat.mul_one, List.take_of_length_le (by simp; omega), bv_drop]
        refine ⟨w3, r3, _, _, _, rfl, hc3, ⟨a2, n - m, c - m, h3.holds 0 _ rfl, fun v hv => ?_⟩, ?_⟩
        · have hsub := (show RdB v a n c l from hv).sub hs2 (hh := n) (by omega) (Nat.le_refl _) hle (Nat.le_refl _)
          rw [e1] at hsub
          exact hsub
        · have h0 : SubA 1 a 0 c a := ⟨fun _ => rfl, fun _ => by cases a <;> simp [Addr.add]⟩
          have := hr.sub h0 (hh := m) (by omega) (by omega) (by omega) (Nat.le_refl _)
          have e2 : ((bv l).drop (0 * 1)).take ((m - 0) * 1) = bv (l.take m) := by simp [bv_take]
          rw [e2] at this
          have h4 := this.keepG hg (rdr_ne _ _ _ _ _) hc3
          exact ⟨h4.cells, by simpa using h4.len, Nat.le_refl _, fun ha => by have := hr.nil ha; omega⟩
  · have hS2 := St.ofBlk hg2
    refine ⟨true, hS2.ld (i := 0) (o := 1) (P := Try.prog) (v := .bool true) rfl (iB _) rfl, fun _ => ?_, fun h => by cases h⟩
    have hrf : rawF st x = none := by
      cases st with
      | none => rfl
      | some l =>
        simp only [Option.getD_some] at hl
        simp [rawF]; omega
    rw [hrf]
    exact ⟨_, _, _, rfl, hc2, ⟨none, 0, 0, hg2, fun v _ => rdNil v⟩, rdNil _⟩

/-- A new slice of bytes, in memory of its own, where some blocks may have changed. -/
def FreshX (X : List Nat) (w w' : World) (a : Option Addr) (n c : Nat) (l : List UInt8) : Prop :=
  Chg X w w' ∧ l.length = n ∧ w'.ownsRow w.heap.size 5 1 (.slice a n c) n (bv l)

theorem FreshX.of_B {w w' : World} {a : Option Addr} {n c : Nat} {l : List UInt8} (h : FreshB w w' a n c l) : FreshX [] w w' a n c l := h

theorem FreshX.addBlk {w0 w w' : World} {X : List Nat} {M : List Res} {g i : Nat} {o o' : Obj} {a : Option Addr} {n c : Nat} {l : List UInt8} (h : FreshX [g] w w' a n c l) (hS : St w0 X w M) (hi : M[i]? = some (.blk g o)) (hg : w'.heap[g]? = some o') :
    St w0 X w' (M.set i (.blk g o') ++ [.row 5 1 (.slice a n c) n (bv l)]) := by
  have hlt := (Array.getElem?_eq_some_iff.1 (show w.heap[g]? = some o from hS.holds i _ hi)).1
  have hn : ∀ k ∈ (Res.row 5 1 (.slice a n c) n (bv l)).fp, w.heap.size ≤ k := fun k hk => (World.ownsRow.lt h.2.2 k (by simpa [Res.fp] using hk)).1
  refine hS.updAdd hi h.1 hg (by simp [Res.fp]) (ownsRow_base h.2.2 (Nat.zero_le _)) hn (fun k hk hk' => ?_)
  have := hn k hk'
  simp [Res.fp] at hk
  omega

theorem clone_spec (a : Option Addr) (n c : Nat) (l : List UInt8) (w : World) (hr : RdB w a n c l) (hb : n ≤ 140737488355000) :
    Calls Try.prog 51 #[.slice a n c] w fun e w' => ∃ a' c', e = .returned (.slice a' n c') ∧ FreshB w w' a' n c' l := by
  apply slices_Clone_byte_byte_vc
  have hl := hr.lenB
  refine ⟨fun h => ?_, fun _ => ?_⟩
  · have ha : a = none := by cases a with
      | none => rfl
      | some _ => simp at h
    have hc := hr.nil ha
    have hle := hr.le
    obtain rfl : n = 0 := by omega
    obtain rfl : l = [] := List.eq_nil_of_length_eq_zero hl
    exact ⟨_, _, rfl, FreshB.nil _⟩
  · obtain ⟨g, w1, r1, h1⟩ := (St.start w).lit bT [] (by simp) (by simp)
    obtain ⟨va, vc, w2, r2, h2⟩ := h1.appendB (i := 0) (xs := []) rfl (h1.rd1 hr) (by simp; omega)
    simp only [List.length_nil, Nat.zero_add, List.nil_append] at r2 h2
    exact ⟨_, _, _, _, r1, _, _, _, _, r2, _, _, rfl, h2.freshB (i := 0) rfl⟩

/-- Fresh behind a step that changed a block. -/
theorem FreshB.after {X : List Nat} {w w1 w' : World} {a : Option Addr} {n c : Nat} {l : List UInt8} (h : FreshB w1 w' a n c l) (hc : Chg X w w1) : FreshX X w w' a n c l := by
  refine ⟨hc.trans' h.1 (by simp), h.2.1, ?_⟩
  exact ownsRow_base h.2.2 hc.size

theorem rRaw_spec (g T : Nat) (st : Option (List UInt8)) (x : Int) (a : Option Addr) (n c : Nat) (w : World) (hg : RdrA g T a n c st w) (hr : RdB w a n c (st.getD [])) (hb : (st.getD []).length ≤ 140737488355000) :
    Calls Try.prog 33 #[.pointer (some ⟨g, 0, none⟩), .int .i64 x] w fun e w' => ∃ a' n' c', e = .returned (.slice a' n' c') ∧ FreshX [g] w w' a' n' c' (((rawF st x).map (·.1)).getD []) ∧ RdrP g T a n c st ((rawF st x).map (·.2)) w' := by
  apply wire_Reader_Raw_vc
  refine (raw_spec g T st x a n c w hg hr).mono ?_
  rintro e w1 ⟨a1, n1, c1, rfl, hc1, hv1, hr1⟩
  have hl := hr1.lenB
  have hn : n1 ≤ 140737488355000 := by
    rw [← hl]
    cases st with
    | none => simp [rawF]
    | some l =>
      simp only [Option.getD_some] at hb
      simp only [rawF, Option.bind_some]
      split
      · simp; omega
      · simp
  refine ⟨_, _, _, rfl, (clone_spec a1 n1 c1 _ w1 hr1 hn).mono ?_⟩
  rintro e w2 ⟨a2, c2, rfl, hf⟩
  obtain ⟨a3, n3, c3, hg3, hr3⟩ := hv1
  unfold RdrA at hg3
  refine ⟨_, _, _, rfl, _, _, _, rfl, hf.after hc1, a3, n3, c3, ?_, hr3⟩
  unfold RdrA
  rw [hf.1.block g (Array.getElem?_eq_some_iff.1 hg3).1 (by simp)]
  exact hg3

theorem rdVar_some : ∀ (f : Nat) (l : List UInt8) (i n m s : Nat), rdVar f l i n = some (m, s) → n < 128 ^ i → i < s ∧ s ≤ i + l.length ∧ s ≤ i + f ∧ m < 128 ^ s
  | 0, _, _, _, _, _, h, _ => by simp [rdVar] at h
  | f + 1, [], i, n, m, s, h, _ => by simp [rdVar] at h
  | f + 1, b :: r, i, n, m, s, h, hn => by
    have hp : 128 ^ (i + 1) = 128 ^ i * 128 := Nat.pow_succ ..
    have hpos : 0 < 128 ^ i := Nat.pow_pos (by decide)
    have hbl := b.toNat_lt
    simp only [rdVar] at h
    split at h
    · rename_i hb
      split at h
      · cases h
      · simp only [Option.some.injEq, Prod.mk.injEq] at h
        obtain ⟨rfl, rfl⟩ := h
        have : b.toNat * 128 ^ i ≤ 127 * 128 ^ i := Nat.mul_le_mul_right _ (by omega)
        refine ⟨by omega, by simp only [List.length_cons]; omega, by omega, by omega⟩
    · rename_i hb
      have : (b.toNat - 128) * 128 ^ i ≤ 127 * 128 ^ i := Nat.mul_le_mul_right _ (by omega)
      obtain ⟨h1, h2, h3, h4⟩ := rdVar_some f r (i + 1) _ m s h (by omega)
      refine ⟨by omega, by simp only [List.length_cons]; omega, by omega, h4⟩

theorem readVarF_some {l : List UInt8} {n s : Nat} (h : readVarF l = some (n, s)) : 1 ≤ s ∧ s ≤ l.length ∧ s ≤ 9 ∧ n < 9223372036854775808 := by
  obtain ⟨h1, h2, h3, h4⟩ := rdVar_some 9 l 0 0 n s h (by decide)
  have : 128 ^ s ≤ 128 ^ 9 := Nat.pow_le_pow_right (by decide) (by omega)
  refine ⟨by omega, by omega, by omega, by omega⟩

/-- What Var does. -/
def varF (st : Option (List UInt8)) : Option (Nat × List UInt8) := st.bind fun l => (readVarF l).map fun p => (p.1, l.drop p.2)

theorem rVar_spec (g T : Nat) (st : Option (List UInt8)) (a : Option Addr) (n c : Nat) (w : World) (hg : RdrA g T a n c st w) (hr : RdB w a n c (st.getD [])) :
    Calls Try.prog 30 #[.pointer (some ⟨g, 0, none⟩)] w fun e w' => e = .returned (.int .i64 ((((varF st).map (·.1)).getD 0 : Nat) : Int)) ∧ Chg [g] w w' ∧ RdrP g T a n c st ((varF st).map (·.2)) w' := by
  unfold RdrA at hg
  have iB : ∀ w, (isAgg 4).run Try.prog w = .ok false w := fun w => Try.isAgg4 w
  have s2 : ∀ w, (sizeOf 22).run Try.prog w = .ok 1 w := fun w => Try.sizeOf22 w
  have hl := hr.lenB
  have hle := hr.le
  have hS := St.ofBlk hg
  have ld0 := hS.ld (i := 0) (o := 0) (P := Try.prog) (v := .slice a n c) rfl (bsA _) rfl
  have ld1' := hS.ld (i := 0) (o := 1) (P := Try.prog) (v := .bool st.isNone) rfl (iB _) rfl
  obtain ⟨m, hI⟩ := eI
  apply wire_Reader_Var_vc
  refine ⟨_, ld1', fun h => ?_, fun h => ?_⟩
  · cases st with
    | some l => simp at h
    | none => exact ⟨rfl, Chg.refl _ _, a, n, c, hg, fun v hv => by simpa [varF] using hv⟩
  cases st with
  | none => simp at h
  | some l =>
  simp only [Option.getD_some] at hr hl
  refine ⟨_, _, _, ld0, (readVar_spec a n c l w hr).mono ?_⟩
  rintro e w1 ⟨rfl, rfl⟩
  have hvf : varF (some l) = (readVarF l).map fun p => (p.1, l.drop p.2) := rfl
  rw [hvf]
  cases hrv : readVarF l with
  | none =>
    refine ⟨_, _, _, rfl, _, neqS_nil hI (some 9) _ _, fun _ => (fail_spec g T a n c _ w1 hg).mono ?_, fun h => by simp at h⟩
    rintro e w2 ⟨rfl, hc2, hg2⟩
    exact ⟨rfl, rfl, hc2, none, 0, 0, hg2, fun v _ => rdNil v⟩
  | some p =>
    obtain ⟨k, s⟩ := p
    obtain ⟨h1, h2, _, h4⟩ := readVarF_some hrv
    refine ⟨_, _, _, rfl, _, neqS_nil hI none _ _, fun h => by simp at h, fun _ => ⟨_, _, _, ld0, by omega, by omega, by omega, fun a2 hs2 => ?_⟩⟩
    simp only [Int.toNat_natCast] at hs2 ⊢
    obtain ⟨w3, r3, h3⟩ := hS.st (i := 0) (o := 0) (P := Try.prog) (v := .slice a2 (n - s) (c - s)) rfl (s2 _) (by simp) rfl
    have e1 : ((bv l).drop (s * 1)).take ((n - s) * 1) = bv (l.drop s) := by
      rw [Nat.mul_one, Nat.mul_one, List.take_of_length_le (by simp; omega), bv_drop]
    refine ⟨w3, r3, rfl, h3.chg, a2, n - s, c - s, h3.holds 0 _ rfl, fun v hv => ?_⟩
    have hsub := (show RdB v a n c l from hv).sub hs2 (hh := n) (by omega) (Nat.le_refl _) hle (Nat.le_refl _)
    rw [e1] at hsub
    exact hsub

/-- The field with which bytes begin, and the rest. -/
def fieldF (l : List UInt8) : Option (List UInt8 × List UInt8) := (readVarF l).bind fun p => if p.1 ≤ 67108864 ∧ p.1 + p.2 ≤ l.length then some ((l.drop p.2).take p.1, l.drop (p.2 + p.1)) else none

theorem fieldF_some {l f r : List UInt8} (h : fieldF l = some (f, r)) : ∃ s, readVarF l = some (f.length, s) ∧ f = (l.drop s).take f.length ∧ r = l.drop (s + f.length) ∧ 1 ≤ s ∧ s + f.length + r.length = l.length ∧ f.length ≤ 67108864 := by
  unfold fieldF at h
  cases hv : readVarF l with
  | none => rw [hv] at h; cases h
  | some p =>
    obtain ⟨n, s⟩ := p
    rw [hv] at h
    simp only [Option.bind_some] at h
    split at h
    · rename_i hc
      simp only [Option.some.injEq, Prod.mk.injEq] at h
      obtain ⟨rfl, rfl⟩ := h
      have hlen : ((l.drop s).take n).length = n := by simp; omega
      obtain ⟨h1, h2, _, _⟩ := readVarF_some hv
      refine ⟨s, by rw [hlen], by rw [hlen], by rw [hlen], h1, ?_, by omega⟩
      rw [hlen]; simp; omega
    · cases h

theorem rField_spec (g T : Nat) (st : Option (List UInt8)) (a : Option Addr) (n c : Nat) (w : World) (hg : RdrA g T a n c st w) (hr : RdB w a n c (st.getD [])) (hb : (st.getD []).length ≤ 140737488355000) :
    Calls Try.prog 32 #[.pointer (some ⟨g, 0, none⟩)] w fun e w' => ∃ a' n' c', e = .returned (.slice a' n' c') ∧ FreshX [g] w w' a' n' c' (((st.bind fieldF).map (·.1)).getD []) ∧ RdrP g T a n c st ((st.bind fieldF).map (·.2)) w' := by
  have iB : ∀ w, (isAgg 4).run Try.prog w = .ok false w := fun w => Try.isAgg4 w
  apply wire_Reader_Field_vc
  refine (rVar_spec g T st a n c w hg hr).mono ?_
  rintro e w1 ⟨rfl, hc1, a1, n1, c1, hg1, hs1⟩
  have hr1 := (hs1 w hr).keepG hg (rdr_ne _ _ _ _ _) hc1
  have hS := St.ofBlk hg1
  refine ⟨_, rfl, _, hS.ld (i := 0) (o := 1) (P := Try.prog) (v := .bool ((varF st).map (·.2)).isNone) rfl (iB _) rfl, fun h => ?_, fun h => ?_⟩
  · have hvn : varF st = none := by cases hv : varF st with
      | none => rfl
      | some p => rw [hv] at h; simp at h
    have hfn : st.bind fieldF = none := by
      cases st with
      | none => rfl
      | some l =>
        simp only [varF, Option.bind_some, Option.map_eq_none_iff] at hvn
        simp [fieldF, hvn]
    rw [hvn] at hg1 hs1
    rw [hfn]
    exact ⟨_, _, _, rfl, ⟨hc1, rfl, World.ownsRow_nil _ _ _ _⟩, a1, n1, c1, hg1, hs1⟩
  · cases st with
    | none => simp [varF] at h
    | some l =>
    cases hv : readVarF l with
    | none => simp [varF, hv] at h
    | some p =>
    obtain ⟨k, s⟩ := p
    obtain ⟨h1, h2, _, h4⟩ := readVarF_some hv
    have hvf : varF (some l) = some (k, l.drop s) := by simp [varF, hv]
    simp only [Option.getD_some] at hb
    rw [hvf] at hs1 hg1 hr1 ⊢
    simp only [Option.map_some, Option.getD_some, Option.bind_some] at hs1 hg1 hr1 ⊢
    refine ⟨fun hk => ?_, fun hk => ?_⟩
    · have hk' : 67108864 < k := by simp at hk; omega
      have hfn : fieldF l = none := by simp [fieldF, hv]; omega
      refine (fail_spec g T a1 n1 c1 _ w1 hg1).mono ?_
      rintro e w2 ⟨rfl, hc2, hg2⟩
      rw [hfn]
      exact ⟨rfl, _, _, _, rfl, ⟨hc1.trans hc2, rfl, World.ownsRow_nil _ _ _ _⟩, none, 0, 0, hg2, fun v _ => rdNil v⟩
    · have hk' : k ≤ 67108864 := by simp at hk; omega
      have hfr : fieldF l = rawF (some (l.drop s)) (k : Int) := by
        simp only [fieldF, hv, Option.bind_some, rawF, List.length_drop, List.drop_drop]
        by_cases hks : k + s ≤ l.length
        · rw [if_pos ⟨hk', hks⟩, if_pos (by omega), Int.toNat_natCast]
        · rw [if_neg (by omega), if_neg (by omega)]
      rw [hfr]
      refine (rRaw_spec g T (some (l.drop s)) k a1 n1 c1 w1 hg1 hr1 (by simp; omega)).mono ?_
      rintro e w2 ⟨a2, n2, c2, rfl, hf2, a3, n3, c3, hg3, hs3⟩
      exact ⟨_, _, _, rfl, _, _, _, rfl, ⟨hc1.trans hf2.1, hf2.2.1, ownsRow_base hf2.2.2 hc1.size⟩, a3, n3, c3, hg3, fun v hv => hs3 v (hs1 v hv)⟩

end Go.Proofs.Ytpfjakmbokkkoaa
