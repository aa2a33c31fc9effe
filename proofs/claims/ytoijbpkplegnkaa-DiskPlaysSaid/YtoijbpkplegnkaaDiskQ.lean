/- The law DiskOwns (conditions: none). -/
import Derived.Test.YtoijbpkplegnkaaDiskO
import Derived.Test.YtoijbpkplegnkaaDiskP
import Derived.Test.YtoijbpkplegnkaaApart
import Derived.Test.YtoijbpkplegnkaaSum
namespace Go.Proofs.Ytoijbpkplegnkaa
open Go Sx
set_option maxRecDepth 8000

section
variable {w0 w w' : World} {X : List Nat} {N N' T T' : List Res} {gd : Nat} {ps : List Nat} {m : DiskM}

theorem DiskIn.callN (h : DiskIn w0 X w gd ps m (N ++ T)) (h' : St w (fpsL T) w' T') : DiskIn w0 X w' gd ps m (N ++ T') := by
  obtain ⟨p, hps, hp, hS⟩ := h
  have e : ∀ U, resD gd m p ++ DR p.FL (N ++ U) = (resD gd m p ++ DR p.FL N) ++ U := fun U => by simp [DR, List.append_assoc]
  rw [e] at hS
  refine ⟨p, hps, hp, ?_⟩
  rw [e]
  exact Sx.St.callPart hS h'

theorem DiskIn.lost {r : Res} (h : DiskIn w0 X w gd ps m (N ++ [r])) (hc : Chg r.fp w w') : DiskIn w0 X w' gd ps m N := by
  have h2 : St w (fpsL [r]) w' [] := by
    refine St.of_mem (X := fpsL [r]) ?_ (by simp) (by simp) (by simp)
    have : fpsL [r] = r.fp := by simp [fpsL]
    rw [this]; exact hc
  have := h.callN h2
  rwa [List.append_nil] at this
end

theorem rowHead {w : World} {e : TypeId} {sz : Nat} {a : Option Addr} {n c m : Nat} {xs : List Value} (h : w.ownsRow 0 e sz (.slice a n c) m xs) (hn : 0 < m) : ∃ g, a = some ⟨g, 0, none⟩ := by
  rcases h.2 with ⟨_, h1⟩ | ⟨g, cap, cur, h0, _⟩
  · omega
  · simp only [Value.slice.injEq] at h0
    exact ⟨g, h0.1⟩

theorem MarkB.of_blk' {w w' : World} {g n c : Nat} {l : List UInt8} {cur : Array Value} (h : MarkB w g n c l cur) (hb : w'.heap[g]? = some (.cells cur 5 (0, 0))) : MarkB w' g n c l cur := ⟨hb, h.len, h.le, h.size, h.cells, h.cm⟩

def om1 : DiskM := ⟨131072, [⟨[], 0⟩], [⟨[97], 0⟩], [], [⟨some 0, [], [97]⟩], 1, false, none, []⟩
def om2 (d : List UInt8) : DiskM := ⟨131072, [⟨[] ++ [d].flatten, 0⟩], [⟨[97], 0⟩], [], [⟨some 0, [], [97]⟩], 2, false, none, []⟩
theorem ol1 : createM (newM 131072) [97] = (om1, none) := by kernel_rfl
theorem ol2 (d : List UInt8) (h : d.length ≤ 65536) : appendM om1 [97] [d] = (om2 d, none) := by
  have h1 : foundE om1 [97] = none := by kernel_rfl
  have h2 : fits (om1.size - usedM om1) [d] = true := by
    have : om1.size - usedM om1 = 131072 := by decide
    rw [this]
    simp only [fits, Bool.and_true, decide_eq_true_eq]
    omega
  unfold appendM
  rw [h1]
  simp only [h2, if_true]
  rfl
theorem ol3 (d : List UInt8) : foundE (om2 d) [97] = none := by kernel_rfl
theorem ol4 (d : List UInt8) : readF (om2 d) [97] = d := by
  unfold readF
  rw [ol3]
  show (([] ++ [d].flatten : List UInt8)) = d
  simp
theorem ol5 (d : List UInt8) : readAtE (om2 d) [97] 0 (d.length : Int) = none ∧ readAtF (om2 d) [97] 0 (d.length : Int) = d := by
  have h1 : (fileAt (om2 d).files (foundI (om2 d) [97])).data = d := by
    show (([] ++ [d].flatten : List UInt8)) = d
    simp
  have h2 : readAtE (om2 d) [97] 0 (d.length : Int) = none := by
    unfold readAtE
    rw [ol3]
    simp only [h1]
    have : rangeE d 0 (d.length : Int) = false := by unfold rangeE; simp
    rw [this]; rfl
  refine ⟨h2, ?_⟩
  unfold readAtF
  rw [h2, h1]
  simp
theorem ol6 (d : List UInt8) : filesM (om2 d) = [([97], d)] := by
  show [(([97] : List UInt8), ([] ++ [d].flatten : List UInt8))] = _
  simp
theorem ol7 (d : List UInt8) : namesM (om2 d) = [[97]] := rfl

theorem perm7 {α : Type} (a b c d e f g : α) : [a, b, c, d, e, f, g].Perm ([d, f] ++ [g, a, b, c, e]) := by
  have h1 : [a, b, c, d, e, f, g].Perm (d :: ([a, b, c] ++ [e, f, g])) := List.perm_middle (l₁ := [a, b, c])
  have h2 : ([a, b, c, e] ++ f :: [g]).Perm (f :: ([a, b, c, e] ++ [g])) := List.perm_middle
  have h3 : ([a, b, c, e] ++ [g]).Perm ([g] ++ [a, b, c, e]) := List.perm_append_comm
  exact h1.trans ((h2.trans (h3.cons f)).cons d)

set_option maxHeartbeats 4000000 in
theorem diskOwns_walk (a : Option Addr) (n c : Nat) (d : List UInt8) (w : World) (hr : RdB w a n c d) :
    Calls Try.prog 3 #[.slice a n c] w fun e w' => e = .returned (.bool true) ∧ Chg [] w w' := by
  obtain ⟨mI, hI⟩ := eI
  have hl := hr.lenB
  subst hl
  apply amphoralaw01_DiskOwns_vc
  refine (alive01_spec w).mono ?_
  rintro e w1 ⟨rfl, c1⟩
  refine ⟨_, rfl, fun h => (by cases h), fun _ => ⟨fun _ => ⟨rfl, c1⟩, fun hle => ?_⟩⟩
  have hn : d.length ≤ 65536 := by simp at hle; omega
  refine (newDisk_spec 131072 w1).mono ?_
  rintro e w2 (⟨hbad, _⟩ | ⟨_, gd, rfl, h2⟩)
  · omega
  have h2 := h2.base c1
  refine ⟨_, _, rfl, fun x w' => x = false ∧ ∃ ps, DiskIn w [] w' gd ps om1 [], ⟨_, neqS_nil hI none _ _, fun h => (by cases h), fun _ => ⟨_, eqPtr .eql (.inl rfl) dkT _ _ _ _, fun h => (by cases h), fun _ => (create_spec [97] h2 (by decide) (by decide)).mono ?_⟩⟩, ?_⟩
  · rintro e w3 ⟨rfl, ps, h3⟩
    rw [ol1] at h3 ⊢
    exact ⟨_, rfl, _, neqS_nil hI none _ _, rfl, ps, h3⟩
  rintro x w4 ⟨rfl, ps, h4⟩
  have hr4 := hr.keep0 h4.chg
  refine ⟨fun h => (by cases h), fun _ => (copy_spec a d.length c d w4 hr4 (by omega)).mono ?_⟩
  rintro e w5 ⟨g, cm, cur, rfl, c5, hg, hm⟩
  have k5 : St w4 [] w5 [.blk g (.cells cur 5 (0, 0))] := (St.start w4).add c5 hm.blk (by simp [Res.fp]; exact hg)
  obtain ⟨g6, w6, r6, k6⟩ := k5.lit bbT [.slice (some ⟨g, 0, none⟩) d.length cm] (by simp [Value.oneCell']) (by simp)
  have h6 := h4.addSt k6
  refine ⟨_, _, _, rfl, fun x w' => x = false ∧ DiskIn w [] w' gd ps (om2 d) ([] ++ ([.blk g (.cells cur 5 (0, 0))] ++ [.row 22 1 (.slice (some ⟨g6, 0, none⟩) 1 1) 1 [.slice (some ⟨g, 0, none⟩) d.length cm]])), ⟨_, _, _, w6, r6, (append_spec [97] _ 1 1 [.slice (some ⟨g, 0, none⟩) d.length cm] [d] h6 (fun hD => ⟨hD.rest.rd (i := 1) rfl, r2cons (hm.of_blk' (hD.rest.holds 0 _ rfl)).rd (r2nil _)⟩) (by decide) (by decide)).mono ?_⟩, ?_⟩
  · rintro e w7 ⟨rfl, h7⟩
    rw [ol2 d hn] at h7 ⊢
    refine ⟨_, rfl, _, neqS_nil hI none _ _, fun h => (by cases h), fun _ => (kept_spec g d.length cm a d.length c d cur w7 (hm.of_blk' (h7.rest.holds 0 _ rfl)) (hr.keep0 h7.chg) (by omega)).mono ?_⟩
    rintro e w8 ⟨rfl, rfl⟩
    exact ⟨_, rfl, rfl, h7⟩
  rintro x w9 ⟨rfl, h9⟩
  refine ⟨fun h => (by cases h), fun _ => (over_spec _ d.length cm d w9 ((hm.of_blk' (h9.rest.holds 0 _ rfl)).row (Nat.zero_le _)) (by omega)).mono ?_⟩
  rintro e w10 ⟨rfl, c10⟩
  have h10 : DiskIn w [] w10 gd ps (om2 d) [] := (h9.subN (N' := [] ++ [.blk g (.cells cur 5 (0, 0))]) (List.sublist_append_left _ _)).lost (r := .blk g (.cells cur 5 (0, 0))) c10
  refine ⟨rfl, (read_spec [97] h10).mono ?_⟩
  rintro e w11 ⟨xa, xn, xc, rfl, fx⟩
  rw [ol4] at fx
  have ex : d.length = xn := fx.2.1
  subst ex
  have h11 := h10.addSt (fx.add (St.start w10))
  refine ⟨_, _, _, _, rfl, (read_spec [97] h11).mono ?_⟩
  rintro e w12 ⟨ya, yn, yc, rfl, fy⟩
  rw [ol4] at fy
  have ey : d.length = yn := fy.2.1
  subst ey
  have h12 := h11.addSt (fy.add (St.start w11))
  refine ⟨_, _, _, _, rfl, (readAt_spec [97] 0 (d.length : Int) (by omega) (by omega) h12).mono ?_⟩
  rintro e w13 ⟨za, zn, zc, rfl, fz⟩
  rw [(ol5 d).2] at fz
  have ez : d.length = zn := fz.2.1
  subst ez
  have h13 := h12.addSt (fz.add (St.start w12))
  refine ⟨_, _, _, _, rfl, (filesD_spec h13).mono ?_⟩
  rintro e w14 ⟨fa, fc, L, rfl, hL, k14⟩
  rw [ol6] at hL
  obtain ⟨⟨vn, va, vc, vd⟩, rfl⟩ : ∃ v, L = [v] := by
    cases L with
    | nil => cases hL
    | cons v r =>
      cases r with
      | nil => exact ⟨v, rfl⟩
      | cons => simp at hL
  have hvt : (vn, vd) = (([97] : Nm), d) := by simpa [FV.t] using hL
  obtain ⟨rfl, rfl⟩ := Prod.mk.inj hvt.symm
  have h14 := h13.addSt k14
  refine ⟨fa, 1, fc, rfl, (listD_spec h14).mono ?_⟩
  rintro e w15 ⟨ga, gc, rfl, k15⟩
  have k15 : St w14 [] w15 [.row 9 1 (.slice ga 1 gc) 1 [strV [97]]] := k15
  obtain ⟨gg, rfl⟩ := rowHead (k15.holds 0 _ rfl) (by decide)
  have h15 := h14.addSt k15
  let v : FV := ⟨[97], va, vc, d⟩
  have q : St w [] w15 [.row 5 1 (.slice xa d.length xc) d.length (bv d), .row 5 1 (.slice ya d.length yc) d.length (bv d), .row 5 1 (.slice za d.length zc) d.length (bv d), .row 42 2 (.slice fa 1 fc) 1 ([v].flatMap FV.cells), v.row, .row 9 1 (.slice (some ⟨gg, 0, none⟩) 1 gc) 1 [strV [97]]] := h15.rest
  have hx : RdB w15 xa d.length xc d := q.rd (i := 0) rfl
  have hy : RdB w15 ya d.length yc d := q.rd (i := 1) rfl
  have hz : RdB w15 za d.length zc d := q.rd (i := 2) rfl
  have hv : RdB w15 va d.length vc d := q.rd (i := 4) rfl
  have hd : RdB w15 a d.length c d := hr.keep0 h15.chg
  have hfr : FilesR w15 fa fc [v] := filesR_of (L := [v]) (q.tail.tail.tail.sub (List.sublist_append_left [_, _] [_]))
  obtain ⟨fb, fo, hfa, qf⟩ := hfr.fld (i := 0) (v := v) rfl
  refine ⟨some ⟨gg, 0, none⟩, 1, gc, rfl, fun x w' => x = false ∧ w' = w15.drew, ⟨fun w' => Chg [] w15 w', Chg.drew _ _, _, fun w' hw => toStr bS bE sS (hx.cells.keep0 hw) rfl, _, fun w' hw => toStr bS bE sS (hd.cells.keep0 hw) rfl, fun h => (by simp at h), fun _ => ⟨_, fun w' hw => toStr bS bE sS (hy.cells.keep0 hw) rfl, _, fun w' hw => toStr bS bE sS (hd.cells.keep0 hw) rfl, fun h => (by simp at h), fun _ => ⟨_, fun w' hw => toStr bS bE sS (hz.cells.keep0 hw) rfl, _, fun w' hw => toStr bS bE sS (hd.cells.keep0 hw) rfl, fun h => (by simp at h), fun _ => ⟨fun h => (by simp at h), fun _ => ⟨fb, fo, hfa, by decide, by decide, _, _, _, fun w' hw => (qf w' hw).2, _, fun w' hw => toStr bS bE sS (hv.cells.keep0 hw) rfl, _, fun w' hw => toStr bS bE sS (hd.cells.keep0 hw) rfl, fun h => (by simp at h), fun _ => ⟨rfl, rfl⟩⟩⟩⟩⟩⟩, ?_⟩
  rintro x w16 ⟨rfl, rfl⟩
  have h16 := h15.same (Chg.drew [] w15)
  obtain ⟨g17, w17, r17, k17⟩ := (St.start w15.drew).lit bbT [.slice xa d.length xc, .slice ya d.length yc, .slice za d.length zc, .slice va d.length vc] (by simp [Value.oneCell']) (by simp)
  have h17 := h16.addSt k17
  have h17 : DiskIn w [] w17 gd ps (om2 d) [.row 5 1 (.slice xa d.length xc) d.length (bv d), .row 5 1 (.slice ya d.length yc) d.length (bv d), .row 5 1 (.slice za d.length zc) d.length (bv d), .row 42 2 (.slice fa 1 fc) 1 ([v].flatMap FV.cells), v.row, .row 9 1 (.slice (some ⟨gg, 0, none⟩) 1 gc) 1 [strV [97]], .row 22 1 (.slice (some ⟨g17, 0, none⟩) 4 4) 4 [.slice xa d.length xc, .slice ya d.length yc, .slice za d.length zc, .slice va d.length vc]] := h17
  have h17' := h17.permN (perm7 _ _ _ _ _ _ _)
  have q17 := (h17'.rest.sub (List.sublist_append_right _ _)).self
  refine ⟨fun h => (by cases h), fun _ => ⟨fb, fo, hfa, by decide, by decide, _, _, _, (qf w15.drew (Chg.drew _ _)).2, _, _, _, w17, r17, (apart_spec _ _ 4 4 [.slice xa d.length xc, .slice ya d.length yc, .slice za d.length zc, .slice va d.length vc] [d, d, d, d] w17 q17 rfl (fun i hi => ?_) (by decide) (fun i hi => ?_)).mono ?_⟩⟩
  · rcases i with _ | _ | _ | _ | i
    · exact ⟨_, _, rfl⟩
    · exact ⟨_, _, rfl⟩
    · exact ⟨_, _, rfl⟩
    · exact ⟨_, _, rfl⟩
    · simp at hi; omega
  · rcases i with _ | _ | _ | _ | i
    · show d.length ≤ _; omega
    · show d.length ≤ _; omega
    · show d.length ≤ _; omega
    · show d.length ≤ _; omega
    · simp at hi; omega
  rintro e w18 ⟨rfl, c18⟩
  have h18 := h17'.callN (T' := []) (St.of_mem c18 (by simp) (by simp) (by simp))
  have h18 : DiskIn w [] w18 gd ps (om2 d) ([.row 42 2 (.slice fa 1 fc) 1 ([v].flatMap FV.cells)] ++ [.row 9 1 (.slice (some ⟨gg, 0, none⟩) 1 gc) 1 [strV [97]]]) := h18
  obtain ⟨w19, r19, k19⟩ := (h18.rest.sub (List.sublist_append_right _ _)).self.stRow (i := 0) (j := 0) (T := 9) (v := strV [111, 118, 101, 114]) rfl (stS' _) (by decide) rfl
  have h19 := h18.callN k19
  refine ⟨_, rfl, fun h => (by cases h), fun _ => ⟨gg, 0, rfl, by decide, by decide, w19, r19, (read_spec [97] h19).mono ?_⟩⟩
  rintro e w20 ⟨ra, rn, rc, rfl, f20⟩
  rw [ol4] at f20
  have h20 := h19.same f20.1
  refine ⟨_, _, _, _, rfl, _, toStr bS bE sS f20.cells f20.2.1, _, toStr bS bE sS (hr.keep0 h20.chg).cells rfl, fun _ => (listD_spec h20).mono ?_, fun h => (by simp at h)⟩
  rintro e w21 ⟨la, lc, rfl, k21⟩
  have k21 : St w20 [] w21 [.row 9 1 (.slice la 1 lc) 1 [strV [97]]] := k21
  obtain ⟨g22, w22, r22, k22⟩ := k21.lit strT [strV [97]] (by simp [Value.oneCell', strV]) (by simp)
  refine ⟨la, 1, lc, rfl, _, _, _, w22, r22, (textsEq_spec la 1 lc [[97]] _ _ w22 (k22.rd (i := 0) rfl) (k22.rd (i := 1) rfl) (by decide)).mono ?_⟩
  rintro e w23 ⟨rfl, c23⟩
  exact ⟨_, rfl, rfl, h20.chg.trans (k22.chg.trans c23)⟩

end Go.Proofs.Ytoijbpkplegnkaa
