/- The law WireFramed answers true (conditions: none). -/
import Derived.Test.YtpfjakmbokkkoaaWireNumbers
import Derived.Test.YtpfjakmbokkkoaaWireE
namespace Go.Proofs.Ytpfjakmbokkkoaa
open Go Sx

theorem framesF_len : ∀ (f : Nat) (l : List UInt8) (p : Nat), ((framesF f l p).1.map fun x => x.2.1).flatten.length ≤ l.length ∧ (framesF f l p).1.length ≤ l.length ∧ (framesF f l p).2 ≤ p + l.length
  | 0, l, p => by simp [framesF]
  | f + 1, l, p => by
    simp only [framesF]
    cases h : frameF l with
    | none => simp
    | some q =>
      obtain ⟨k, b, r⟩ := q
      obtain ⟨t, rfl, _, hlt⟩ := frameF_some h
      obtain ⟨h1, h2, h3⟩ := framesF_len f r (p + ((k :: t).length - r.length))
      simp only [List.map_cons, List.flatten_cons, List.length_append, List.length_cons] at *
      omega

theorem frZ (w : World) : (zeroValue 73).run Try.prog w = .ok (.agg [Value.int .i64 0, .slice none 0 0, .int .i64 0].toArray) w := Try.zeroValue73 w

/-- A frame is read whole and laid by itself, and its body is read. -/
theorem copyFrame {w w0 : World} {X : List Nat} {M : List Res} (hS : St w0 X w M) {a : Option Addr} {n c : Nat} {vs : List Value} {fs : List (UInt8 × List UInt8 × Nat)} (hr : Rd w a n c 3 (frCells vs fs)) (hv : vs.length = fs.length) {i : Nat} (hi : i < fs.length) {a' : Option Addr} {n' c' : Nat} (he : vs.getD i .nilIface = .slice a' n' c') :
    ∃ b o g w1 w2 cs, a = some ⟨b, o, none⟩ ∧ (Instr.loadAt 73 (.pointer (some ⟨b, o + Int.toNat (i : Int) * 3, none⟩))).run Try.prog w = .ok (.agg cs) w ∧ (Instr.alloc 73 true (.tuple #[])).run Try.prog w = .ok (.pointer (some ⟨g, 0, none⟩)) w1 ∧
      (Instr.storeAt 73 (.pointer (some ⟨g, 0, none⟩)) (.agg cs)).run Try.prog w1 = .ok () w2 ∧ (Instr.loadAt 22 (.pointer (some ⟨g, 1, none⟩))).run Try.prog w2 = .ok (.slice a' n' c') w2 ∧ St w0 X w2 M := by
  have hlen := hr.len
  have g1 := fun k hk => frCells_get hv (i := i) hi k hk
  have hpos := (List.getElem?_eq_some_iff.1 (g1 0 (by decide))).1
  obtain ⟨b, o, ha, hrd⟩ := rdAt hr.cells (by omega)
  obtain ⟨cs, hcs⟩ : ∃ cs : List Value, cs = [Value.int .i64 ((fs.getD i (0, [], 0)).1.toNat : Int), vs.getD i .nilIface, .int .i64 ((fs.getD i (0, [], 0)).2.2 : Int)] := ⟨_, rfl⟩
  have hrange : w.rangeAt b (o + Int.toNat (i : Int) * 3) cs := by
    intro j v hj
    have hj3 : j < 3 := by have := (List.getElem?_eq_some_iff.1 hj).1; rw [hcs] at this; simpa using this
    have := hrd hr.cells (j := i * 3 + j) (v := v) (by rw [g1 j hj3, ← hcs]; exact hj)
    rw [show o + Int.toNat (i : Int) * 3 + j = o + (i * 3 + j) by omega]
    exact this
  have hl3 : cs.length = 3 := by rw [hcs]; rfl
  have aT : ∀ w, (isAgg 73).run Try.prog w = .ok true w := fun w => Try.isAgg73 w
  have sT : ∀ w, (sizeOf 73).run Try.prog w = .ok 3 w := fun w => Try.sizeOf73 w
  have hload : (Instr.loadAt 73 (.pointer (some ⟨b, o + Int.toNat (i : Int) * 3, none⟩))).run Try.prog w = .ok (.agg cs.toArray) w := by
    have := loadCells_cells (P := Try.prog) hrange
    rw [hl3] at this
    generalize o + Int.toNat (i : Int) * 3 = off at this
    simp [Instr.loadAt, Instr.sureAddr, loadVar, aT, sT, this]
  obtain ⟨g, w1, r1, h1⟩ := hS.zeroA frZ
  have hget : (M ++ [Res.arr g 73 [Value.int .i64 0, .slice none 0 0, .int .i64 0]])[M.length]? = some (.arr g 73 [Value.int .i64 0, .slice none 0 0, .int .i64 0]) := by rw [List.getElem?_append_right (Nat.le_refl _), Nat.sub_self]; rfl
  obtain ⟨w2, r2, h2⟩ := h1.stA hget (sT _) rfl hl3 (by rw [hcs, he]; simp [Value.oneCell'])
  rw [List.set_append_right _ _ (Nat.le_refl _), Nat.sub_self] at h2
  refine ⟨b, o, g, w1, w2, cs.toArray, ha, hload, r1, r2, ?_, St.pop h2⟩
  refine h2.ldL (i := M.length) (o := 1) (l := cs) (by rw [List.getElem?_append_right (Nat.le_refl _), Nat.sub_self]; rfl) (bsA _) rfl ?_
  rw [hcs, he]; rfl

theorem frames_walk (k : UInt8) (a1 : Option Addr) (n1 c1 : Nat) (l1 : List UInt8) (a2 : Option Addr) (n2 c2 : Nat) (l2 : List UInt8) (a3 : Option Addr) (n3 c3 : Nat) (l3 : List UInt8) (w : World) (hr1 : RdB w a1 n1 c1 l1) (hr2 : RdB w a2 n2 c2 l2) (hr3 : RdB w a3 n3 c3 l3) :
    Calls Try.prog 29 #[.int .u8 (k.toNat : Int), .slice a1 n1 c1, .slice a2 n2 c2, .slice a3 n3 c3] w fun e w' => e = .returned (.bool true) ∧ Chg [] w w' := by
  have hl1 := hr1.lenB
  have hl2 := hr2.lenB
  have hl3 := hr3.lenB
  apply amphoralaw04_frames_vc
  refine (alive_spec w).mono ?_
  rintro e w1 ⟨rfl, hc1⟩
  refine ⟨_, rfl, fun h => by simp at h, fun _ => ⟨fun _ => ⟨rfl, hc1⟩, fun h => ?_⟩⟩
  obtain ⟨hb1, hb2, hb3⟩ : n1 ≤ 262144 ∧ n2 ≤ 262144 ∧ n3 ≤ 262144 := by
    simp only [gt_iff_lt, decide_eq_false_iff_not, Bool.or_eq_false_iff] at h; omega
  obtain ⟨g2, w2, r2, h2⟩ := ((St.start w).same hc1).lit bT [] (by simp) (by simp)
  obtain ⟨va, vc, w3, r3, h3⟩ := h2.appendB (i := 0) (xs := []) rfl (h2.rd1 hr1) (by simp; omega)
  obtain ⟨vb, vd, w4, r4, h4⟩ := h3.appendB (i := 0) rfl (h3.rd1 hr2) (by simp; omega)
  have hwh : RdB w4 vb (0 + n1 + n2) vd (l1 ++ l2) := h4.rd (i := 0) rfl
  have hdr := h4.drew
  obtain ⟨g5, w5, r5, h5⟩ := hdr.lit bbT [.slice a1 n1 c1, .slice a2 n2 c2] (by simp [Value.oneCell']) (by simp)
  have hc45 : Chg [] w4 w5 := by
    obtain ⟨g5', w5', r5', h5'⟩ := (St.start w4.drew).lit bbT [.slice a1 n1 c1, .slice a2 n2 c2] (by simp [Value.oneCell']) (by simp)
    have hw := r5.symm.trans r5'
    simp only [Result.ok.injEq] at hw
    obtain ⟨_, rfl⟩ := hw
    exact (Chg.drew _ _).trans h5'.chg
  have hrow : Row2 w5 [.slice a1 n1 c1, .slice a2 n2 c2] [l1, l2] := ((Row2.nil _).cons (h5.rd1 hr2)).cons (h5.rd1 hr1)
  refine ⟨_, _, _, _, r2, _, _, _, _, r3, _, _, _, _, r4, fun b w' => b = false ∧ Chg [] w w', ⟨fun w' => Chg [] w w', hdr.chg, _, _, _, _, r5, fun w' => Chg [] w5 w', fun w' h => h5.chg.trans h, Chg.refl _ _,
    (frame_spec k _ 2 2 _ [l1, l2] w5 (h5.rdLast) hrow (by simp; omega) (by simp)).mono ?_⟩, ?_⟩
  · rintro e w6 ⟨a6, n6, c6, rfl, hf6⟩
    have hfl : [l1, l2].flatten = l1 ++ l2 := by simp
    rw [hfl] at hf6
    refine ⟨_, _, _, rfl, fun w' => Chg [] w6 w', fun w' h => hf6.1.trans h, Chg.refl _ _, _, fun w' h => toStr bS bE sS (hf6.cells.keep0 h) hf6.2.1, (rframe_spec k _ _ _ _ w6 (hwh.keep0 (hc45.trans hf6.1)) (by omega)).mono ?_⟩
    rintro e w7 ⟨a7, n7, c7, rfl, hf7⟩
    refine ⟨_, _, _, rfl, fun w' => Chg [] w7 w', fun w' h => hf7.1.trans h, Chg.refl _ _, _, fun w' h => toStr bS bE sS (hf7.cells.keep0 h) hf7.2.1, fun h => by simp at h, fun _ => ?_⟩
    refine (frame_spec k none 0 0 [] [] w7 ⟨Cells.nil _ _, rfl, Nat.le_refl _, fun _ => rfl⟩ (Row2.nil _) (by simp) (by simp)).mono ?_
    rintro e w8 ⟨a8, n8, c8, rfl, hf8⟩
    refine ⟨_, _, _, rfl, fun w' => Chg [] w8 w', fun w' h => hf8.1.trans h, Chg.refl _ _, _, fun w' h => toStr bS bE sS (hf8.cells.keep0 h) hf8.2.1, (rframe_spec k none 0 0 [] w8 (rdNil _) (by omega)).mono ?_⟩
    rintro e w9 ⟨a9, n9, c9, rfl, hf9⟩
    exact ⟨_, _, _, rfl, fun w' => Chg [] w9 w', fun w' h => hf9.1.trans h, Chg.refl _ _, _, fun w' h => toStr bS bE sS (hf9.cells.keep0 h) hf9.2.1, by simp, (((h5.chg.trans hf6.1).trans hf7.1).trans hf8.1).trans hf9.1⟩
  rintro b w10 ⟨rfl, hc10⟩
  refine ⟨fun h => (by cases h), fun _ => (copy_spec a3 n3 c3 l3 w10 (hr3.keep0 hc10) (by omega)).mono ?_⟩
  rintro e w11 ⟨g11, c11, cur, rfl, hc11, hg11, hm⟩
  have hc1' := hc10.trans hc11
  have hblk : ∀ w', Chg [] w11 w' → MarkB w' g11 n3 c11 l3 cur := fun w' h => hm.keep (h.block g11 (getElem?_eq_some_iff.1 hm.blk).1 (by simp))
  refine ⟨_, _, _, rfl, (frames_spec _ _ _ l3 w11 hm.rd (by omega)).mono ?_⟩
  have hfb := framesF_len (l3.length + 1) l3 0
  obtain ⟨fs, p, hfp⟩ : ∃ fs p, framesF (l3.length + 1) l3 0 = (fs, p) := ⟨_, _, rfl⟩
  have hrf := fun w12 (hc : Chg [] w w12) => rframes_spec a3 n3 c3 l3 w12 (hr3.keep0 hc) (by omega)
  simp only [hfp] at hfb hrf ⊢
  rintro e w12 ⟨a12, n12, c12, vs, rfl, hO⟩
  have hc12 := hO.st.chg
  refine ⟨_, _, _, _, rfl, (hrf w12 (hc1'.trans hc12)).mono ?_⟩
  rintro e w13 ⟨a13, n13, c13, vs13, rfl, hO13⟩
  have hc13 := hO13.st.chg
  have hnum := hO.num
  refine ⟨_, _, _, _, rfl, fun b w' => b = false ∧ Chg [] w13 w', (fsame_spec _ _ _ _ _ _ _ _ fs w13 (hO.same hc13).rdF hO13.rdF (by omega)).mono ?_, ?_⟩
  · rintro e w14 ⟨rfl, hc14⟩
    refine ⟨_, rfl, fun h => by simp at h, fun _ => ?_⟩
    have hcx := (hc12.trans hc13).trans hc14
    refine (kept_spec _ _ _ _ _ _ _ _ _ (hblk _ hcx) (hr3.keep0 (hc1'.trans hcx)) (by omega)).mono ?_
    rintro e w15 ⟨rfl, rfl⟩
    exact ⟨_, rfl, rfl, hc14⟩
  rintro b w16 ⟨rfl, hc16⟩
  refine ⟨fun h => (by cases h), fun _ => ?_⟩
  have hO16 := hO.same (hc13.trans hc16)
  obtain ⟨g17, w17, r17, h17⟩ := hO16.st.lit bbT [] (by simp) (by simp)
  have h17' := h17.perm List.perm_append_comm
  refine ⟨_, _, _, _, r17, fun xa xn xc y w' => ∃ i : Nat, y = (i : Int) ∧ i ≤ n12 ∧ xn = i ∧ St w11 [] w' ([.row 22 1 (.slice xa xn xc) xn (vs.take i)] ++ (.row 73 3 (.slice a12 n12 c12) n12 (frCells vs fs) :: rowsL vs (fs.map fun f => f.2.1))), fun _ _ _ y _ => n12 - y.toNat,
    ⟨0, rfl, by omega, rfl, h17'⟩, ?_⟩
  rintro xa xn xc y w18 ⟨i, rfl, hi, rfl, hS⟩
  refine ⟨fun h => ?_, fun h => ?_⟩
  · have hi' : xn < n12 := by simp at h; omega
    obtain ⟨a', c', hv'⟩ := hO.hd xn (by simp; omega)
    have hvg : vs.getD xn .nilIface = .slice a' ((fs.map fun f => f.2.1).getD xn []).length c' := by rw [List.getD, hv']; rfl
    obtain ⟨b, o, g, w19, w20, cs, ha, q1, q2, q3, q4, h20⟩ := copyFrame hS (hS.rd (i := 1) rfl) hO.len (i := xn) (by omega) hvg
    obtain ⟨g21, w21, va, vc, w22, r21, r22, h22, _, _⟩ := h20.pushV (i := 0) (ty := 39) bbT rfl (.slice a' ((fs.map fun f => f.2.1).getD xn []).length c') rfl (by omega) (by simp only [maxLen]; omega)
    refine ⟨b, o, ha, by omega, by omega, _, q1, _, _, q2, _, q3, _, _, _, q4, _, _, _, _, r21, _, _, _, _, r22, ⟨xn + 1, wrap_succ hi' (by omega), by omega, rfl, ?_⟩, mu_succ hi' (by omega)⟩
    rw [List.take_add_one, hv']
    exact h22
  · have hi' : xn = n12 := by simp at h; omega
    subst hi'
    have hvl := hO.len
    rw [List.take_of_length_le (by omega)] at hS
    have hOL : OwnL w11 w18 xa xn xc vs (fs.map fun f => f.2.1) := ⟨hS.sub (List.Sublist.cons_cons _ (List.sublist_cons_self _ _)), by simp [hvl], hO.hd⟩
    refine (apartL hOL (by omega) (by omega)).mono ?_
    rintro e w23 ⟨rfl, hc23⟩
    exact ⟨_, rfl, rfl, hc1'.trans hc23⟩

/-- The cells of a Framed. -/
def framedL (k : UInt8) (a1 : Option Addr) (n1 c1 : Nat) (a2 : Option Addr) (n2 c2 : Nat) (a3 : Option Addr) (n3 c3 : Nat) : List Value := [.int .u8 (k.toNat : Int), .slice a1 n1 c1, .slice a2 n2 c2, .slice a3 n3 c3]

theorem wireFramed_walk (k : UInt8) (a1 : Option Addr) (n1 c1 : Nat) (l1 : List UInt8) (a2 : Option Addr) (n2 c2 : Nat) (l2 : List UInt8) (a3 : Option Addr) (n3 c3 : Nat) (l3 : List UInt8) (w : World) (hr1 : RdB w a1 n1 c1 l1) (hr2 : RdB w a2 n2 c2 l2) (hr3 : RdB w a3 n3 c3 l3) :
    Calls Try.prog 5 #[.agg (framedL k a1 n1 c1 a2 n2 c2 a3 n3 c3).toArray] w fun e w' => e = .returned (.bool true) ∧ Chg [] w w' := by
  apply amphoralaw04_WireFramed_vc
  obtain ⟨g1, w1, r1, h1⟩ := (St.start w).boxA (P := Try.prog) 50 (framedL k a1 n1 c1 a2 n2 c2 a3 n3 c3)
  refine ⟨_, _, r1, _, h1.ldL (i := 0) (o := 0) rfl (bA _) rfl rfl, _, _, _, h1.ldL (i := 0) (o := 1) rfl (bsA _) rfl rfl, _, _, _, h1.ldL (i := 0) (o := 2) rfl (bsA _) rfl rfl, _, _, _, h1.ldL (i := 0) (o := 3) rfl (bsA _) rfl rfl,
    (frames_walk k a1 n1 c1 l1 a2 n2 c2 l2 a3 n3 c3 l3 w1 (h1.rd1 hr1) (h1.rd1 hr2) (h1.rd1 hr3)).mono ?_⟩
  rintro e w2 ⟨rfl, hc2⟩
  exact ⟨_, rfl, rfl, h1.chg.trans hc2⟩

end Go.Proofs.Ytpfjakmbokkkoaa
