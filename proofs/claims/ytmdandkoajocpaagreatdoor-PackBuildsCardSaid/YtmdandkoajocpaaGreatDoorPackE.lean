/- Contracts of pack: head, refs, scanned, Open (conditions: those that each theorem names). -/
import Derived.Test.YtmdandkoajocpaaGreatDoorPackD
import Derived.Test.YtmdandkoajocpaaGreatDoorWireB
namespace Go.Proofs.YtmdandkoajocpaaGreatDoor
open Go Sx
set_option maxRecDepth 8000

/-! ### frames as a list of things -/
structure FrD where
  k : UInt8
  a : Option Addr
  c : Nat
  body : List UInt8
  at_ : Nat
abbrev Frm := UInt8 × List UInt8 × Nat
def FrD.t (x : FrD) : Frm := (x.k, x.body, x.at_)
def FrD.v (x : FrD) : Value := .slice x.a x.body.length x.c
def frC (x : FrD) : List Value := [.int .i64 (x.k.toNat : Int), .slice x.a x.body.length x.c, .int .i64 (x.at_ : Int)]
theorem frC_one (x : FrD) : ∀ v ∈ frC x, v.oneCell' = true := fun v hv => by
  simp only [frC, List.mem_cons, List.not_mem_nil, or_false] at hv
  rcases hv with rfl | rfl | rfl <;> rfl
theorem fmA (w : World) : (isAgg 137).run Tryz.prog w = .ok true w := Tryz.isAgg137 w
theorem fmS (w : World) : (sizeOf 137).run Tryz.prog w = .ok 3 w := Tryz.sizeOf137 w
def fr0 : FrD := ⟨0, none, 0, [], 0⟩
theorem fmZ (w : World) : (zeroValue 137).run Tryz.prog w = .ok (.agg (frC fr0).toArray) w := Tryz.zeroValue137 w
theorem fsA (w : World) : (isAgg 132).run Tryz.prog w = .ok false w := Tryz.isAgg132 w
theorem fsS (w : World) : (sizeOf 132).run Tryz.prog w = .ok 1 w := Tryz.sizeOf132 w
theorem fsZ (w : World) : (zeroValue 132).run Tryz.prog w = .ok (.slice none 0 0) w := Tryz.zeroValue132 w
theorem inZ (w : World) : (zeroValue 3).run Tryz.prog w = .ok (.int .i64 0) w := Tryz.zeroValue3 w

/-- Frames that may be read. -/
structure RdFr (w : World) (a : Option Addr) (n c : Nat) (L : List FrD) : Prop where
  rd : RdE frC 3 w a n c L
  body : ∀ x ∈ L, RdB w x.a x.body.length x.c x.body
theorem RdFr.keep0 {w w' : World} {a : Option Addr} {n c : Nat} {L : List FrD} (h : RdFr w a n c L) (hc : Chg [] w w') : RdFr w' a n c L := ⟨h.rd.keep0 hc, fun x hx => (h.body x hx).keep0 hc⟩

theorem frList : ∀ (vs : List Value) (fs : List Frm), vs.length = fs.length → (∀ i, i < (fs.map fun f => f.2.1).length → ∃ a c, vs[i]? = some (.slice a ((fs.map fun f => f.2.1).getD i []).length c)) → ∃ L : List FrD, L.map FrD.t = fs ∧ L.map FrD.v = vs ∧ L.flatMap frC = frCells vs fs
  | [], [], _, _ => ⟨[], rfl, rfl, rfl⟩
  | [], _ :: _, h, _ => by simp at h
  | _ :: _, [], h, _ => by simp at h
  | v :: vs, f :: fs, h, hd => by
    obtain ⟨a, c, hv⟩ := hd 0 (by simp)
    simp only [List.getElem?_cons_zero, Option.some.injEq, List.map_cons, List.getD_cons_zero] at hv
    obtain ⟨L, h1, h2, h3⟩ := frList vs fs (by simpa using h) fun i hi => by
      obtain ⟨a', c', hv'⟩ := hd (i + 1) (by simpa using hi)
      exact ⟨a', c', by simpa using hv'⟩
    refine ⟨⟨f.1, a, c, f.2.1, f.2.2⟩ :: L, by simp [FrD.t, h1], by simp [FrD.v, h2, hv], ?_⟩
    rw [List.flatMap_cons, h3, hv]
    simp [frC, frCells]

theorem OwnF.list {w w' : World} {a : Option Addr} {n c : Nat} {vs : List Value} {fs : List Frm} (h : OwnF w w' a n c vs fs) : ∃ L : List FrD, L.map FrD.t = fs ∧ RdFr w' a n c L := by
  obtain ⟨L, h1, h2, h3⟩ := frList vs fs h.len h.hd
  have hr := h.rdF
  refine ⟨L, h1, ⟨by rw [h3]; exact hr.rd, fun x _ => rfl⟩, fun x hx => ?_⟩
  obtain ⟨i, hi, rfl⟩ := List.getElem_of_mem hx
  have hfs : (fs.map fun f => f.2.1).getD i [] = L[i].body := by
    rw [← h1, List.getD_eq_getElem?_getD]; simp [hi, FrD.t]
  obtain ⟨a', n', c', e1, e2⟩ := hr.row.rd i (by rw [← h1]; simpa using hi)
  rw [hfs] at e2
  rw [← h2, List.getElem?_map, List.getElem?_eq_getElem hi] at e1
  simp only [Option.map_some, FrD.v, Option.some.injEq, Value.slice.injEq] at e1
  obtain ⟨rfl, rfl, rfl⟩ := e1
  exact e2

/-! ### in plain words -/
def endF (e : Nat) : List Frm → Nat
  | [] => e
  | f :: _ => f.2.2
def refsS (num : Int) (e : Nat) : List Frm → List RefD
  | [] => []
  | f :: r => if f.1 = 2 ∧ 32 ≤ f.2.1.length then mkRef (f.2.1.take 32) num (((16 + endF e r : Nat) : Int) - ((f.2.1.length - 32 : Nat) : Int)) ((f.2.1.length - 32 : Nat) : Int) :: refsS num e r else []
theorem refsS_len (num : Int) (e : Nat) : ∀ l : List Frm, (refsS num e l).length ≤ l.length
  | [] => Nat.le_refl _
  | f :: r => by
    unfold refsS
    split
    · have := refsS_len num e r; simp only [List.length_cons]; omega
    · simp
def framesL (l : List UInt8) : List Frm × Nat := framesF (l.length + 1) l 0
theorem framesF_bound : ∀ (k : Nat) (l : List UInt8) (p : Nat), (framesF k l p).2 ≤ p + l.length ∧ (∀ f ∈ (framesF k l p).1, f.2.2 ≤ p + l.length ∧ f.2.1.length ≤ l.length) ∧ (framesF k l p).1.length ≤ l.length
  | 0, l, p => ⟨by simp [framesF], by simp [framesF], by simp [framesF]⟩
  | k + 1, l, p => by
    unfold framesF
    cases h : frameF l with
    | none => exact ⟨by simp, by simp, by simp⟩
    | some q =>
      obtain ⟨kk, b, r⟩ := q
      obtain ⟨t, rfl, h1, h2⟩ := frameF_some h
      obtain ⟨i1, i2, i3⟩ := framesF_bound k r (p + ((kk :: t).length - r.length))
      simp only
      refine ⟨by omega, fun f hf => ?_, by simp only [List.length_cons] at *; omega⟩
      rcases List.mem_cons.1 hf with rfl | hf
      · simp only; omega
      · have := i2 f hf; omega

section
variable {w0 w w' : World} {X : List Nat} {M N N' T : List Res}

theorem ndT {p : Prop} [Decidable p] (h : (!decide p) = true) : ¬ p := fun hp => by simp [hp] at h
theorem ndF {p : Prop} [Decidable p] (h : (!decide p) = false) : p := by
  by_cases hp : p
  · exact hp
  · simp [hp] at h

theorem rdB_drop13 {a a' : Option Addr} {n c k : Nat} {l : List UInt8} (hr : RdB w a n c l) (hs : SubA 1 a k c a') (hk : k ≤ n) : RdB w a' (n - k) (c - k) (l.drop k) := by
  have hl := hr.lenB
  have h1 := Rd.sub hr hs (hh := n) hk (Nat.le_refl _) hr.le (Nat.le_refl _)
  have e2 : ((bv l).drop (k * 1)).take ((n - k) * 1) = bv (l.drop k) := by
    rw [Nat.mul_one, Nat.mul_one, List.take_of_length_le (by simp; omega), bv_drop]
  rw [e2] at h1
  exact h1

/-! ### head -/
def headF (b : List UInt8) : Option Int := if 16 ≤ b.length ∧ b.take 8 = magicL ∧ goodP ((readNumF ((b.drop 8).take 8)).getD 0) = true then readNumF ((b.drop 8).take 8) else none

theorem magic_str (l : List UInt8) : ((⟨l.toArray⟩ : ByteArray).toList == (ByteArray.mk #[97, 109, 112, 104, 112, 97, 99, 107]).toList) = decide (l = magicL) := by
  rw [ByteArray.toList_eq, ByteArray.toList_eq]
  show (l == magicL) = _
  by_cases h : l = magicL
  · rw [h]; rfl
  · rw [decide_eq_false h]; exact beq_eq_false_iff_ne.2 h

theorem head_spec (a : Option Addr) (n c : Nat) (b : List UInt8) (w : World) (hr : RdB w a n c b) :
    Calls Tryz.prog 55 #[.slice a n c] w fun e w' => ∃ (x : Int) (ok : Bool), e = .returned (.tuple #[.int .i64 x, .bool ok]) ∧ headF b = (if ok then some x else none) ∧ w' = w := by
  obtain ⟨mI, hI⟩ := eI
  have hl := hr.lenB
  subst hl
  apply pack_head_vc
  refine ⟨fun x w' => x = !decide (16 ≤ b.length ∧ b.take 8 = magicL) ∧ w' = w, ⟨fun h => ?_, fun h => ?_⟩, ?_⟩
  · have : ¬ 16 ≤ b.length := by simp at h; omega
    exact ⟨by simp [this], rfl⟩
  · have h16 : 16 ≤ b.length := by simp at h; omega
    have hcap := hr.le
    have h8 := rdB_upto hr (k := 8) (by omega)
    refine ⟨by omega, by omega, _, toStr bS bE sS h8.cells (by simp; omega), ?_, rfl⟩
    rw [magic_str]; simp [h16]
  rintro x w1 ⟨rfl, rfl⟩
  refine ⟨fun h => ⟨0, false, rfl, ?_, rfl⟩, fun h => ?_⟩
  · have : ¬ (16 ≤ b.length ∧ b.take 8 = magicL) := ndT h
    rw [headF, if_neg (fun h => this ⟨h.1, h.2.1⟩)]; rfl
  have hh : 16 ≤ b.length ∧ b.take 8 = magicL := ndF h
  have hcap := hr.le
  refine ⟨by omega, by omega, by omega, fun t hs => ?_⟩
  have hsub := Rd.sub hr hs (hh := 16) (by decide) hh.1 (by omega) (Nat.le_refl _)
  have e2 : ((bv b).drop (8 * 1)).take ((16 - 8) * 1) = bv ((b.drop 8).take 8) := by rw [bv_take, bv_drop]
  rw [e2] at hsub
  refine (readNum_spec t 8 (c - 8) ((b.drop 8).take 8) w1 hsub).mono ?_
  rintro e w2 ⟨rfl, rfl⟩
  have hlen : ((b.drop 8).take 8).length = 8 := by simp; omega
  have hrn : readNumF ((b.drop 8).take 8) = some (IntKind.wrap .i64 (beNat ((b.drop 8).take 8) : Int)) := by rw [readNumF, if_pos hlen]
  obtain ⟨v, hv⟩ : ∃ v, IntKind.wrap .i64 (beNat ((b.drop 8).take 8) : Int) = v := ⟨_, rfl⟩
  rw [hv] at hrn
  rw [hrn]
  refine ⟨_, _, rfl, _, eqlS_nil hI none _ _, fun _ => (pkgood_spec v w2).mono ?_, fun h => by cases h⟩
  rintro e w3 ⟨rfl, rfl⟩
  refine ⟨_, rfl, v, goodP v, rfl, ?_, rfl⟩
  rw [headF, hrn]
  simp only [Option.getD_some]
  by_cases hg : goodP v = true
  · rw [if_pos ⟨hh.1, hh.2, hg⟩, if_pos hg]
  · rw [if_neg (fun h => hg h.2.2), if_neg hg]

/-! ### where frames end -/
theorem ends_spec (i : Nat) (g8 g9 : Nat) (a : Option Addr) (n c : Nat) (L : List FrD) (e : Nat) (w : World) (h8 : (Instr.loadAt 132 (.pointer (some ⟨g8, 0, none⟩))).run Tryz.prog w = .ok (.slice a n c) w) (h9 : (Instr.loadAt 3 (.pointer (some ⟨g9, 0, none⟩))).run Tryz.prog w = .ok (.int .i64 (e : Int)) w)
    (hr : RdFr w a n c L) (hi : i < n) (hn : n ≤ 1099511627776) (he : e ≤ 1099511627776) (hat : ∀ x ∈ L, x.at_ ≤ 1099511627776) :
    Calls Tryz.prog 89 #[.int .i64 (i : Int), .pointer (some ⟨g8, 0, none⟩), .pointer (some ⟨g9, 0, none⟩)] w fun r w' => r = .returned (.int .i64 ((16 + endF e ((L.map FrD.t).drop (i + 1)) : Nat) : Int)) ∧ w' = w := by
  have hln := hr.rd.num (by decide)
  apply pack_scanned_1_vc
  have e1 : IntKind.wrap .i64 ((i : Int) + 1) = ((i + 1 : Nat) : Int) := wrap_succ (by omega : i < n) (by omega)
  rw [e1]
  refine ⟨_, _, _, h8, fun h => ?_, fun h => ?_⟩
  · have hi' : i + 1 < n := by simp at h; omega
    have hx : L[i + 1]? = some L[i + 1] := List.getElem?_eq_getElem (by omega)
    obtain ⟨b, o, hab, q⟩ := hr.rd.fld (P := Tryz.prog) (by decide) inA (j := 2) hx rfl
    have hb := hat L[i + 1] (List.getElem_mem _)
    refine ⟨_, _, _, h8, b, o, hab, by omega, by omega, _, q w hr.rd, ?_, rfl⟩
    rw [wrap_i64 (by omega) (by omega)]
    have : (L.map FrD.t).drop (i + 1) = L[i + 1].t :: (L.map FrD.t).drop (i + 2) := by
      rw [List.drop_eq_getElem_cons (by simp; omega)]; simp
    rw [this]; simp [endF, FrD.t]
  · have hi' : i + 1 = n := by simp at h; omega
    refine ⟨_, h9, ?_, rfl⟩
    rw [wrap_i64 (by omega) (by omega), List.drop_of_length_le (by simp; omega)]
    simp [endF]

theorem ldId {b o c : Nat} {l : List UInt8} (h : RdB w (some ⟨b, o, none⟩) 32 c l) : (Instr.loadAt 44 (.pointer (some ⟨b, o, none⟩))).run Tryz.prog w = .ok (.agg (bv l).toArray) w := by
  have hl := h.lenB
  rcases h.cells with h0 | ⟨b', o', e, hr⟩
  · have h00 : (bv l).length = 0 := by rw [h0]; rfl
    rw [bv_length] at h00; omega
  · simp only [Option.some.injEq, Addr.mk.injEq, and_true] at e
    obtain ⟨rfl, rfl⟩ := e
    exact ldRange hr (idA' _) (idS' _) (by simp [hl])

set_option maxHeartbeats 1000000 in
theorem pkrefs_spec (num : Int) (hnum : OkI num) (a : Option Addr) (n c : Nat) (L : List FrD) (e g8 g9 : Nat) (w : World) (hr : RdFr w a n c L) (hn : n ≤ 1048576) (he : e ≤ 1099511627776) (hat : ∀ x ∈ L, x.at_ ≤ 1099511627776 ∧ x.body.length ≤ 1099511627776)
    (hE : ∀ (w' : World) (i : Nat), Chg [] w w' → i < n → Calls Tryz.prog 89 #[.int .i64 (i : Int), .pointer (some ⟨g8, 0, none⟩), .pointer (some ⟨g9, 0, none⟩)] w' fun r w'' => r = .returned (.int .i64 ((16 + endF e ((L.map FrD.t).drop (i + 1)) : Nat) : Int)) ∧ w'' = w') :
    Calls Tryz.prog 90 #[.int .i64 num, .slice a n c, .func (.func 89) #[] #[.pointer (some ⟨g8, 0, none⟩), .pointer (some ⟨g9, 0, none⟩)]] w fun r w' => ∃ ra rc, r = .returned (.slice ra (refsS num e (L.map FrD.t)).length rc) ∧
      St w [] w' [.row 75 35 (.slice ra (refsS num e (L.map FrD.t)).length rc) (refsS num e (L.map FrD.t)).length ((refsS num e (L.map FrD.t)).flatMap refC)] := by
  have hln := hr.rd.num (by decide)
  apply pack_refs_vc
  refine ⟨fun xa xn xc x w' => ∃ (i : Nat) (acc : List RefD), x = (i : Int) ∧ i ≤ n ∧ xn = acc.length ∧ acc.length ≤ i ∧ acc ++ refsS num e ((L.map FrD.t).drop i) = refsS num e (L.map FrD.t) ∧ St w [] w' [.row 75 35 (.slice xa xn xc) xn (acc.flatMap refC)], fun _ _ _ x _ => n - x.toNat, ⟨0, [], rfl, by omega, rfl, Nat.le_refl _, rfl, (St.start w).addNil _ _⟩, ?_⟩
  rintro xa xn xc x w1 ⟨i, acc, rfl, hi, rfl, hacc, hinv, h1⟩
  refine ⟨fun h => ?_, fun h => ?_⟩
  · have hi' : i < n := by simp at h; omega
    have hx : L[i]? = some L[i] := List.getElem?_eq_getElem (by omega)
    obtain ⟨x, hxx⟩ : ∃ x, L[i] = x := ⟨_, rfl⟩
    rw [hxx] at hx
    have hxm := List.mem_of_getElem? hx
    obtain ⟨hat1, hat2⟩ := hat x hxm
    have hdr : (L.map FrD.t).drop i = x.t :: (L.map FrD.t).drop (i + 1) := by
      rw [List.drop_eq_getElem_cons (by simp; omega)]; simp [hxx]
    rw [hdr] at hinv
    obtain ⟨b, o, hab, q⟩ := hr.rd.ld (P := Tryz.prog) (by decide) fmA fmS hx
    obtain ⟨g, w2, r2, h2⟩ := h1.zeroA fmZ
    obtain ⟨w3, r3, h3⟩ := h2.stA (i := 1) (v := frC x) rfl (fmS _) rfl rfl (frC_one _)
    have h3 : St w [] w3 [.row 75 35 (.slice xa acc.length xc) acc.length (acc.flatMap refC), .arr g 137 (frC x)] := h3
    have ldB : ∀ {w'}, St w [] w' [.arr g 137 (frC x)] → (Instr.loadAt 33 (.pointer (some ⟨g, 1, none⟩))).run Tryz.prog w' = .ok (.slice x.a x.body.length x.c) w' := fun h => h.ldL (i := 0) (o := 1) rfl (bsA' _) rfl rfl
    refine ⟨b, o, hab, by omega, by omega, _, q w1 (hr.rd.keep0 h1.chg), g, w2, r2, w3, r3, fun y w' => y = !decide (x.k = 2 ∧ 32 ≤ x.body.length) ∧ w' = w3, ⟨_, h3.ldL (i := 1) (o := 0) rfl (inA _) rfl rfl, fun hne => ?_, fun heq => ⟨_, _, _, ldB h3.tail, ?_, rfl⟩⟩, ?_⟩
    · have : x.k ≠ 2 := fun hk => by rw [hk] at hne; simp at hne
      exact ⟨by simp [this], rfl⟩
    · have h2n : (2 : UInt8).toNat = 2 := rfl
      have hk2 : x.k = 2 := UInt8.toNat_inj.1 (by simp at heq; omega)
      by_cases h32 : 32 ≤ x.body.length
      · rw [decide_eq_true (show x.k = 2 ∧ 32 ≤ x.body.length from ⟨hk2, h32⟩), decide_eq_false (by omega)]; rfl
      · rw [decide_eq_false (fun h : x.k = 2 ∧ 32 ≤ x.body.length => h32 h.2), decide_eq_true (by omega)]; rfl
    rintro y w4 ⟨rfl, rfl⟩
    refine ⟨fun hbad => ?_, fun hok => ?_⟩
    · have hb : ¬ (x.k = 2 ∧ 32 ≤ x.body.length) := ndT hbad
      have hz : refsS num e (x.t :: (L.map FrD.t).drop (i + 1)) = [] := if_neg hb
      rw [hz, List.append_nil] at hinv
      subst hinv
      exact ⟨xa, xc, rfl, h3.sub (List.sublist_append_left [_] [_])⟩
    have hk : x.k = 2 ∧ 32 ≤ x.body.length := ndF hok
    have h4 := h3.drew
    have hc4 := h4.chg
    have hB := hr.body x hxm
    obtain ⟨b2, o2, ha2⟩ : ∃ b o, x.a = some ⟨b, o, none⟩ := by
      rcases hB.cells with h0 | ⟨b, o, e, _⟩
      · have h00 : (bv x.body).length = 0 := by rw [h0]; rfl
        rw [bv_length] at h00; omega
      · exact ⟨b, o, e⟩
    have hcap := hB.le
    let S : World → Prop := fun w' => St w [] w' [.arr g 137 (frC x)]
    have ldI : ∀ w', S w' → (Instr.loadAt 44 (.pointer (some ⟨b2, o2, none⟩))).run Tryz.prog w' = .ok (.agg (bv (x.body.take 32)).toArray) w' := fun w' hw => by
      have h := rdB_upto (hB.keep0 (Sx.St.chg hw)) hk.2
      rw [ha2] at h
      exact ldId h
    have hid : (x.body.take 32).length = 32 := by simp; omega
    obtain ⟨r, hrr⟩ : ∃ r, mkRef (x.body.take 32) num (((16 + endF e ((L.map FrD.t).drop (i + 1)) : Nat) : Int) - ((x.body.length - 32 : Nat) : Int)) ((x.body.length - 32 : Nat) : Int) = r := ⟨_, rfl⟩
    have hend : endF e ((L.map FrD.t).drop (i + 1)) ≤ 1099511627776 := by
      cases hq : (L.map FrD.t).drop (i + 1) with
      | nil => exact he
      | cons f fs =>
        have : f ∈ L.map FrD.t := List.mem_of_mem_drop (by rw [hq]; simp)
        obtain ⟨z, hz, rfl⟩ := List.mem_map.1 this
        exact (hat z hz).1
    have eC := refC_mk hid hnum (q := ((16 + endF e ((L.map FrD.t).drop (i + 1)) : Nat) : Int) - ((x.body.length - 32 : Nat) : Int)) (n := ((x.body.length - 32 : Nat) : Int)) ⟨by omega, by omega⟩ ⟨by omega, by omega⟩
    rw [hrr] at eC
    have en : IntKind.wrap .i64 (((x.body.length : Nat) : Int) - 32) = ((x.body.length - 32 : Nat) : Int) := by rw [wrap_i64 (by omega) (by omega)]; omega
    have ee : IntKind.wrap .i64 (((16 + endF e ((L.map FrD.t).drop (i + 1)) : Nat) : Int) - ((x.body.length - 32 : Nat) : Int)) = ((16 + endF e ((L.map FrD.t).drop (i + 1)) : Nat) : Int) - ((x.body.length - 32 : Nat) : Int) := by rw [wrap_i64 (by omega) (by omega)]
    refine ⟨_, _, _, ldB h3.tail, S, h4.tail, _, _, _, fun w' hw => ldB hw, by omega, by omega, _, fun w' _ => by rw [ha2]; exact run_arrayAt _ 44 _ 32 _ 32 _ Tryz.underlying44 (Nat.le_refl _), _, ldI, _, _, rfl, by kernel_rfl, (hE _ i hc4 hi').mono ?_⟩
    rintro e5 w5 ⟨rfl, rfl⟩
    obtain ⟨g6, w6, va, vc, w7, r6, r7, h7, h6⟩ := h4.pushA (i := 0) (ty := 34) rfT rfl (refC r) (refC_len r) (by decide) (refC_one r) (by omega) (by simp only [maxLen]; omega)
    have h7 : St w [] w7 [.row 75 35 (.slice va (acc.length + 1) vc) (acc.length + 1) (acc.flatMap refC ++ refC r), .arr g 137 (frC x)] := h7
    refine ⟨_, rfl, S, fun _ h => h, h4.tail, _, fun w' hw => by rw [en, ee]; exact ref_parts _ num _ _ w' hid, _, _, _, w6, by rw [← eC]; exact r6, S, fun _ h => h, h6.tail, _, _, _, w7, r7, S, fun _ h => h, h7.tail, ⟨i + 1, acc ++ [r], wrap_succ hi' (by omega), by omega, by simp, by simp; omega, ?_, ?_⟩, mu_succ hi' (by omega)⟩
    · have hz : refsS num e (x.t :: (L.map FrD.t).drop (i + 1)) = r :: refsS num e ((L.map FrD.t).drop (i + 1)) := by rw [← hrr]; exact if_pos hk
      rw [← hinv, hz]
      simp
    · rw [List.flatMap_append]
      simpa using h7.sub (List.sublist_append_left [_] [_])
  · have hi' : i = n := by simp at h; omega
    rw [List.drop_of_length_le (by simp; omega)] at hinv
    have : acc = refsS num e (L.map FrD.t) := by rw [← hinv]; simp [refsS]
    subst this
    exact ⟨xa, xc, rfl, h1⟩

end

end Go.Proofs.YtmdandkoajocpaaGreatDoor
