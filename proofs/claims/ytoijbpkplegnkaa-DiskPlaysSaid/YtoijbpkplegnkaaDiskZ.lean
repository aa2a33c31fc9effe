/- Contracts, several texts in one (conditions: those that each theorem names). -/
import Derived.Test.YtoijbpkplegnkaaRefP
import Derived.Test.YtoijbpkplegnkaaDiskQ
import Derived.Test.YtoijbpkplegnkaaDiskS
namespace Go.Proofs.Ytoijbpkplegnkaa
open Go Sx
set_option maxRecDepth 8000

def refRes (gr : Nat) (m : DiskM) (q : RP) : List Res := resR gr m q ++ (q.FL.map FD.row ++ q.P)
def dskRes (gd : Nat) (m : DiskM) (p : DP) : List Res := resD gd m p ++ DR p.FL []
/-- The program's disk and the document's, beside N. -/
def Two (w0 : World) (X : List Nat) (w : World) (gd gr : Nat) (md mr : DiskM) (N : List Res) : Prop := ∃ p q, DOk md p ∧ ROk mr q ∧ St w0 X w (dskRes gd md p ++ (refRes gr mr q ++ N))

section
variable {w0 w w' : World} {X : List Nat} {N N' T : List Res} {gd gr : Nat} {md mr : DiskM}

theorem Two.disk (h : Two w0 X w gd gr md mr N) : ∃ ps q, ROk mr q ∧ DiskIn w0 X w gd ps md (refRes gr mr q ++ N) := by
  obtain ⟨p, q, hp, hq, hS⟩ := h
  refine ⟨p.ps, q, hq, p, rfl, hp, ?_⟩
  have e : resD gd md p ++ DR p.FL (refRes gr mr q ++ N) = dskRes gd md p ++ (refRes gr mr q ++ N) := by simp [dskRes, DR, List.append_assoc]
  rw [e]; exact hS
theorem Two.of_disk {ps : List Nat} {q : RP} (hq : ROk mr q) (h : DiskIn w0 X w gd ps md (refRes gr mr q ++ N)) : Two w0 X w gd gr md mr N := by
  obtain ⟨p, _, hp, hS⟩ := h
  refine ⟨p, q, hp, hq, ?_⟩
  have e : resD gd md p ++ DR p.FL (refRes gr mr q ++ N) = dskRes gd md p ++ (refRes gr mr q ++ N) := by simp [dskRes, DR, List.append_assoc]
  rw [← e]; exact hS
theorem Two.ref (h : Two w0 X w gd gr md mr N) : ∃ p, DOk md p ∧ RefIn w0 X w gr mr (dskRes gd md p ++ N) := by
  obtain ⟨p, q, hp, hq, hS⟩ := h
  refine ⟨p, hp, q, hq, hS.perm ?_⟩
  have e : resR gr mr q ++ (q.FL.map FD.row ++ (q.P ++ (dskRes gd md p ++ N))) = refRes gr mr q ++ (dskRes gd md p ++ N) := by simp [refRes, List.append_assoc]
  rw [e, ← List.append_assoc, ← List.append_assoc]
  exact List.perm_append_comm.append_right N
theorem Two.of_ref {p : DP} (hp : DOk md p) (h : RefIn w0 X w gr mr (dskRes gd md p ++ N)) : Two w0 X w gd gr md mr N := by
  obtain ⟨q, hq, hS⟩ := h
  refine ⟨p, q, hp, hq, hS.perm ?_⟩
  have e : resR gr mr q ++ (q.FL.map FD.row ++ (q.P ++ (dskRes gd md p ++ N))) = refRes gr mr q ++ (dskRes gd md p ++ N) := by simp [refRes, List.append_assoc]
  rw [e, ← List.append_assoc, ← List.append_assoc]
  exact List.perm_append_comm.append_right N
theorem Two.same (h : Two w0 X w gd gr md mr N) (hc : Chg [] w w') : Two w0 X w' gd gr md mr N := by obtain ⟨p, q, hp, hq, hS⟩ := h; exact ⟨p, q, hp, hq, hS.same hc⟩
theorem Two.chg (h : Two w0 X w gd gr md mr N) : Chg X w0 w := by obtain ⟨p, q, hp, hq, hS⟩ := h; exact hS.chg
theorem Two.rest (h : Two w0 X w gd gr md mr N) : St w0 X w N := by
  obtain ⟨p, q, hp, hq, hS⟩ := h
  exact hS.sub ((List.sublist_append_right _ _).trans (List.sublist_append_right _ _))
theorem Two.wf (h : Two w0 X w gd gr md mr N) : WFD md ∧ WFD mr := by obtain ⟨p, q, hp, hq, hS⟩ := h; exact ⟨hp.wf, hq.wf⟩
theorem Two.addSt (h : Two w0 X w gd gr md mr N) (h' : St w [] w' T) : Two w0 X w' gd gr md mr (N ++ T) := by
  obtain ⟨p, q, hp, hq, hS⟩ := h
  refine ⟨p, q, hp, hq, ?_⟩
  have := Sx.St.callPart (N := []) (by rw [List.append_nil]; exact hS) h'
  rw [List.append_assoc, List.append_assoc] at this
  exact this
theorem Two.subN (h : Two w0 X w gd gr md mr N) (hn : N'.Sublist N) : Two w0 X w gd gr md mr N' := by
  obtain ⟨p, q, hp, hq, hS⟩ := h
  exact ⟨p, q, hp, hq, hS.sub (List.Sublist.append_left (List.Sublist.append_left hn _) _)⟩

end

open Go Sx
set_option maxRecDepth 8000

section
variable {w0 w w' : World} {X : List Nat} {N N' T : List Res} {gd gr : Nat} {m : DiskM}

set_option maxHeartbeats 1000000 in
theorem same_spec (h : Two w0 X w gd gr m m N) :
    Calls Try.prog 30 #[.pointer (some ⟨gd, 0, none⟩), .pointer (some ⟨gr, 0, none⟩)] w fun e w' => e = .returned (.bool true) ∧ Chg [] w w' := by
  obtain ⟨ps, q, hq, hD⟩ := h.disk
  obtain ⟨p, hp, hR⟩ := h.ref
  have hnl := hD.wf.okNow.len
  have hFl := filesM_len hD.wf
  have hcell : ∀ {w'} {i : Nat} {v : Value} {T : TypeId}, Chg [] w w' → (isAgg T).run Try.prog w' = .ok false w' → (∀ q, (rdL m q)[i]? = some v) → (Instr.loadAt T (.pointer (some ⟨gr, i, none⟩))).run Try.prog w' = .ok v w' := fun hc hT hv => by
    obtain ⟨q', _, hS⟩ := hR
    exact RefIn.cell (hS.same hc) hT (hv q')
  apply amphoralaw01_same_vc
  refine ⟨fun w' => Chg [] w w', Chg.drew _ _, (filesD_spec (hD.same (Chg.drew _ _))).mono ?_⟩
  rintro e w1 ⟨a1, c1, L1, rfl, hL1, k1⟩
  have d1 : Chg [] w w1 := (Chg.drew [] w).trans k1.chg
  refine ⟨_, _, _, rfl, fun w' => Chg [] w w', fun _ h => h, d1, (rall_spec (hR.same d1)).mono ?_⟩
  rintro e w2 ⟨a2, c2, L2, rfl, hL2, k2⟩
  have d2 := d1.trans k2.chg
  have hl1 : L1.length ≤ 4096 := by have := congrArg List.length hL1; simp only [List.length_map] at this; omega
  refine ⟨_, _, _, rfl, fun w' => Chg [] w w', fun _ h => h, d2, (filesEq_spec a1 c1 L1 a2 c2 L2 w2 ((filesR_of k1).keep0 k2.chg) (filesR_of k2) (by rw [hL1, hL2]) (by omega)).mono ?_⟩
  rintro e w3 ⟨rfl, c3⟩
  have d3 := d2.trans c3
  refine ⟨_, rfl, fun w' => Chg [] w w', fun _ h => h, d3, fun _ => (listD_spec (hD.same d3)).mono ?_, fun h => (by cases h)⟩
  rintro e w4 ⟨a4, c4, rfl, k4⟩
  have d4 := d3.trans k4.chg
  refine ⟨_, _, _, rfl, fun w' => Chg [] w w', fun _ h => h, d4, (rlist_spec (hR.same d4)).mono ?_⟩
  rintro e w5 ⟨a5, c5, rfl, k5⟩
  have d5 := d4.trans k5.chg
  refine ⟨_, _, _, rfl, fun w' => Chg [] w w', fun _ h => h, d5, (textsEq_spec a4 _ c4 (namesM m) a5 c5 w5 ((k4.rd (i := 0) rfl).keep0 k5.chg) (k5.rd (i := 0) rfl) (by simp [namesM]; omega)).mono ?_⟩
  rintro e w6 ⟨rfl, c6⟩
  have d6 := d5.trans c6
  refine ⟨_, rfl, fun w' => Chg [] w w', fun _ h => h, d6, fun _ => (used_spec (hD.same d6)).mono ?_, fun h => (by cases h)⟩
  rintro e w7 ⟨rfl, c7⟩
  have d7 := d6.trans c7
  refine ⟨_, rfl, fun w' => Chg [] w w', fun _ h => h, d7, (rused_spec (hR.same d7)).mono ?_⟩
  rintro e w8 ⟨rfl, c8⟩
  have d8 := d7.trans c8
  refine ⟨_, rfl, fun w' => Chg [] w w', fun _ h => h, d8, fun _ => ⟨_, fun w' hw' => hcell (i := 5) hw' (intA _) (fun _ => rfl), (steps_spec (hD.same d8)).mono ?_⟩, fun h => (by simp at h)⟩
  rintro e w9 ⟨rfl, rfl⟩
  refine ⟨_, rfl, fun w' => Chg [] w w', fun _ h => h, d8, fun _ => ⟨_, fun w' hw' => hcell (i := 6) hw' (boolA _) (fun _ => rfl), (down_spec (hD.same d8)).mono ?_⟩, fun h => (by simp at h)⟩
  rintro e w10 ⟨rfl, rfl⟩
  exact ⟨_, rfl, fun w' => Chg [] w w', fun _ h => h, d8, by simp, d8⟩

end

open Go Sx
set_option maxRecDepth 8000

theorem two_spec (o : OpD) (w : World) (hop : RdOp w o) (hdl : o.dn ≤ 1048576) :
    Calls Try.prog 51 #[.agg (opD o).toArray] w fun e w' => ∃ (k g1 c1 g2 c2 g3 : Nat) (u1 u2 : Array Value), k ≤ o.dn ∧ e = .returned (.slice (some ⟨g3, 0, none⟩) 2 2) ∧ MarkB w' g1 k c1 (o.data.take k) u1 ∧ MarkB w' g2 (o.dn - k) c2 (o.data.drop k) u2 ∧
      St w [] w' [.blk g1 (.cells u1 5 (0, 0)), .blk g2 (.cells u2 5 (0, 0)), .row 22 1 (.slice (some ⟨g3, 0, none⟩) 2 2) 2 [.slice (some ⟨g1, 0, none⟩) k c1, .slice (some ⟨g2, 0, none⟩) (o.dn - k) c2]] := by
  have hl := hop.data.lenB
  apply amphoralaw01_two_vc
  obtain ⟨g, w1, r1, k1⟩ := (St.start w).boxA (P := Try.prog) 57 (opD o)
  obtain ⟨K, hKd⟩ : ∃ K : Nat, min o.m.toNat o.dn = K := ⟨_, rfl⟩
  have hK : (if ((o.dn : Nat) : Int) < (if o.m < (0 : Int) then (0 : Int) else o.m) then ((o.dn : Nat) : Int) else (if o.m < (0 : Int) then (0 : Int) else o.m)) = (K : Int) := by
    rw [← hKd]; split <;> split <;> omega
  have hKl : K ≤ o.dn := by omega
  have hd1 : RdB w1 o.da o.dn o.dc o.data := hop.data.keep0 k1.chg
  have hcap := hd1.le
  have hld : ∀ w', Chg [] w1 w' → (Instr.loadAt 22 (.pointer (some ⟨g, 3, none⟩))).run Try.prog w' = .ok (.slice o.da o.dn o.dc) w' := fun w' hc => (k1.same hc).ldL (i := 0) (o := 3) rfl (bsA _) rfl rfl
  refine ⟨g, w1, r1, _, k1.ldL (i := 0) (o := 5) rfl (intA _) rfl rfl, _, _, _, hld w1 (Chg.refl _ _), fun w' => Chg [] w1 w', Chg.drew _ _, _, _, _, hld, ?_⟩
  rw [hK, Int.toNat_natCast]
  refine ⟨by omega, by omega, _, _, _, hld, by omega, by omega, by omega, fun a' hsub => (copy_spec _ K _ (o.data.take K) w1.drew (rdB_upto (hd1.keep0 (Chg.drew _ _)) hKl) (by omega)).mono ?_⟩
  rintro e w2 ⟨g1, c1, u1, rfl, d2, hg1, hm1⟩
  have hs := Rd.sub hd1 hsub (hh := o.dn) hKl (Nat.le_refl _) hcap (Nat.le_refl _)
  have e2 : ((bv o.data).drop (K * 1)).take ((o.dn - K) * 1) = bv (o.data.drop K) := by
    rw [Nat.mul_one, Nat.mul_one, List.take_of_length_le (by simp; omega), bv_drop]
  rw [e2] at hs
  refine ⟨_, _, _, rfl, fun w' => Chg [] w1 w', fun _ h => h, (Chg.drew [] w1).trans d2, (copy_spec a' (o.dn - K) _ (o.data.drop K) w2 (hs.keep0 ((Chg.drew [] w1).trans d2)) (by omega)).mono ?_⟩
  rintro e w3 ⟨g2, c2, u2, rfl, d3, hg2, hm2⟩
  have d13 : Chg [] w1 w3 := ((Chg.drew [] w1).trans d2).trans d3
  have q2 : St w1.drew [] w2 [.blk g1 (.cells u1 5 (0, 0))] := (St.start w1.drew).add d2 hm1.blk (by simp [Res.fp]; exact hg1)
  have q3 : St w1.drew [] w3 [.blk g1 (.cells u1 5 (0, 0)), .blk g2 (.cells u2 5 (0, 0))] := q2.add d3 hm2.blk (by simp [Res.fp]; exact hg2)
  obtain ⟨g4, w4, r4, q4⟩ := q3.lit bbT [.slice (some ⟨g1, 0, none⟩) K c1, .slice (some ⟨g2, 0, none⟩) (o.dn - K) c2] (by simp [Value.oneCell']) (by simp)
  have q5 := Sx.St.callPart (M := []) (N := []) ((St.start w).same (k1.chg.trans (Chg.drew [] w1))) q4
  exact ⟨_, _, _, rfl, fun w' => Chg [] w1 w', fun _ h => h, d13, _, _, _, w4, r4, fun w' => Chg [] w1 w', fun _ h => h, (Chg.drew [] w1).trans q4.chg, K, g1, c1, g2, c2, g4, u1, u2, hKl, rfl, hm1.of_blk' (q4.holds 0 _ rfl), hm2.of_blk' (q4.holds 1 _ rfl), q5⟩

open Go Sx
set_option maxRecDepth 8000

/-- What a call makes of a disk. -/
def stepMM (m : DiskM) (o : OpD) : DiskM :=
  if o.kind = 10 then crashM m o.dirs o.cuts else if o.kind = 11 then (putM m o.name o.data).1 else if o.kind = 12 then (dropM m o.name).1 else (playM m o).1

theorem appendM_two (m : DiskM) (n : Nm) (d : List UInt8) (k : Nat) : appendM m n [d.take k, d.drop k] = appendM m n [d] := by
  have hf : ∀ r : Int, fits r [d.take k, d.drop k] = fits r [d] := fun r => by
    have h := congrArg List.length (List.take_append_drop k d)
    rw [List.length_append] at h
    simp only [fits, Bool.and_true]
    by_cases h1 : (d.length : Int) ≤ r
    · rw [decide_eq_true h1, decide_eq_true (by omega), decide_eq_true (by omega)]; rfl
    · rw [decide_eq_false h1]
      by_cases h2 : ((d.take k).length : Int) ≤ r
      · rw [decide_eq_false (show ¬ (((d.drop k).length : Int) ≤ r - ((d.take k).length : Int)) by omega), Bool.and_false]
      · rw [decide_eq_false h2]; rfl
  have ha : ∀ m' i, appendF m' i [d.take k, d.drop k] = appendF m' i [d] := fun m' i => by
    unfold appendF
    have : ([d.take k, d.drop k] : List (List UInt8)).flatten = [d].flatten := by simp [List.take_append_drop]
    rw [this]
  unfold appendM
  simp only [hf, ha]

open Go Sx
set_option maxRecDepth 8000

/-! ### no answer is nought -/
theorem ready_ne0 (m : DiskM) (l : List Nm) : readyM m l ≠ some 0 := by unfold readyM; split; · simp
                                                                        split <;> simp
theorem found_ne0 (m : DiskM) (n : Nm) : foundE m n ≠ some 0 := by unfold foundE; split; · simp
                                                                   split; · simp
                                                                   split <;> simp
theorem readAt_ne0 (m : DiskM) (n : Nm) (i k : Int) : readAtE m n i k ≠ some 0 := by
  unfold readAtE
  split
  · rename_i e h; intro h2; exact found_ne0 m n (h.trans h2)
  · split <;> simp
theorem step_ne0 (m : DiskM) : (stepM m).2 ≠ some 0 := by
  unfold stepM
  split
  · simp
  · split <;> simp
theorem steps_ne0 (m : DiskM) (f : DiskM → DiskM) : (stepsM m f).2 ≠ some 0 := by
  unfold stepsM
  split
  · rename_i e h; intro h2; exact step_ne0 m (h.trans h2)
  · simp
theorem create_ne0 (m : DiskM) (n : Nm) : (createM m n).2 ≠ some 0 := by
  unfold createM
  split
  · rename_i e h; intro h2; exact ready_ne0 m _ (h.trans h2)
  · split
    · simp
    · split
      · simp
      · exact steps_ne0 _ _
theorem append_ne0 (m : DiskM) (n : Nm) (ps : List (List UInt8)) : (appendM m n ps).2 ≠ some 0 := by
  unfold appendM
  split
  · rename_i e h; intro h2; exact found_ne0 m _ (h.trans h2)
  · split
    · exact steps_ne0 _ _
    · simp
theorem sync_ne0 (m : DiskM) (n : Nm) : (syncM m n).2 ≠ some 0 := by
  unfold syncM
  split
  · rename_i e h; intro h2; exact found_ne0 m _ (h.trans h2)
  · exact steps_ne0 _ _
theorem syncDir_ne0 (m : DiskM) : (syncDirM m).2 ≠ some 0 := by
  unfold syncDirM
  split
  · rename_i e h; intro h2; exact ready_ne0 m _ (h.trans h2)
  · exact steps_ne0 _ _
theorem rename_ne0 (m : DiskM) (a b : Nm) : (renameM m a b).2 ≠ some 0 := by
  unfold renameM
  split
  · rename_i e h; intro h2; exact ready_ne0 m _ (h.trans h2)
  · split
    · rename_i e h; intro h2; exact found_ne0 m _ (h.trans h2)
    · exact steps_ne0 _ _
theorem remove_ne0 (m : DiskM) (n : Nm) : (removeM m n).2 ≠ some 0 := by
  unfold removeM
  split
  · rename_i e h; intro h2; exact found_ne0 m _ (h.trans h2)
  · exact steps_ne0 _ _
theorem put_ne0 (m : DiskM) (n : Nm) (d : List UInt8) : (putM m n d).2 ≠ some 0 := by
  unfold putM
  split
  · simp
  · split <;> simp
theorem drop_ne0 (m : DiskM) (n : Nm) : (dropM m n).2 ≠ some 0 := by
  unfold dropM
  split
  · simp
  · split <;> simp

/-! ### what a call counts at most -/
theorem files_most (m : DiskM) (o : OpD) : (playM m o).1.files.length ≤ m.files.length + 1 := by
  have hs : ∀ (f : DiskM → DiskM), (∀ m, (f m).files.length ≤ m.files.length + 1) → (stepsM m f).1.files.length ≤ m.files.length + 1 := fun f hf => by
    obtain ⟨e1, _⟩ := stepM_same m
    unfold stepsM
    split
    · show (stepM m).1.files.length ≤ _; rw [e1]; exact Nat.le_succ _
    · have := hf (stepM m).1; rw [e1] at this; exact this
  unfold playM createM appendM syncM syncDirM renameM removeM armM failM
  repeat' split
  all_goals first
    | exact Nat.le_succ _
    | exact hs _ fun m => by simp [createF, doCh, appendF, syncF, syncDirF, setF]
theorem stepMM_small (m : DiskM) (o : OpD) : (stepMM m o).steps ≤ m.steps + 1 ∧ (stepMM m o).chs.length ≤ m.chs.length + 1 ∧ (stepMM m o).files.length ≤ m.files.length + 1 := by
  unfold stepMM
  split
  · refine ⟨Nat.le_succ _, by simp [crashM, settleM], ?_⟩
    show (settled (cutAll o.cuts 0 _ m.files) _).length ≤ _
    rw [settled_len, cutAll_len]; exact Nat.le_succ _
  split
  · unfold putM
    split
    · exact ⟨Nat.le_succ _, Nat.le_succ _, Nat.le_succ _⟩
    · split
      · exact ⟨Nat.le_succ _, Nat.le_succ _, Nat.le_succ _⟩
      · refine ⟨Nat.le_succ _, by simp [putF, settleM], ?_⟩
        show (settled (m.files ++ [_]) _).length ≤ _
        rw [settled_len]; simp
  split
  · unfold dropM
    split
    · exact ⟨Nat.le_succ _, Nat.le_succ _, Nat.le_succ _⟩
    · split
      · exact ⟨Nat.le_succ _, Nat.le_succ _, Nat.le_succ _⟩
      · refine ⟨Nat.le_succ _, by simp [settleM], ?_⟩
        show (settled m.files _).length ≤ _
        rw [settled_len]; exact Nat.le_succ _
  · obtain ⟨_, h1, h2⟩ := play_both m o
    exact ⟨h1, h2, files_most m o⟩

/-! ### memory -/
section
variable {w0 w w' : World} {X : List Nat} {N N' T T' : List Res} {gd gr : Nat} {md mr m : DiskM}

theorem Two.permN (h : Two w0 X w gd gr md mr N) (hp : N.Perm N') : Two w0 X w gd gr md mr N' := by
  obtain ⟨p, q, h1, h2, hS⟩ := h
  exact ⟨p, q, h1, h2, hS.perm (List.Perm.append_left _ (List.Perm.append_left _ hp))⟩
theorem Two.callN (h : Two w0 X w gd gr md mr (N ++ T)) (h' : St w (fpsL T) w' T') : Two w0 X w' gd gr md mr (N ++ T') := by
  obtain ⟨p, q, h1, h2, hS⟩ := h
  have e : ∀ U, dskRes gd md p ++ (refRes gr mr q ++ (N ++ U)) = (dskRes gd md p ++ (refRes gr mr q ++ N)) ++ U := fun U => by simp [List.append_assoc]
  rw [e] at hS
  refine ⟨p, q, h1, h2, ?_⟩
  rw [e]
  exact Sx.St.callPart hS h'
theorem Two.lost {r : Res} (h : Two w0 X w gd gr md mr (N ++ [r])) (hc : Chg r.fp w w') : Two w0 X w' gd gr md mr N := by
  have h2 : St w (fpsL [r]) w' [] := by
    refine St.of_mem (X := fpsL [r]) ?_ (by simp) (by simp) (by simp)
    have : fpsL [r] = r.fp := by simp [fpsL]
    rw [this]; exact hc
  have := h.callN h2
  rwa [List.append_nil] at this

theorem rowLd {g n c i : Nat} {cs : List Value} {v : Value} {T : TypeId} (h : Rd w (some ⟨g, 0, none⟩) n c 1 cs) (hT : (isAgg T).run Try.prog w = .ok false w) (hv : cs[i]? = some v) : (Instr.loadAt T (.pointer (some ⟨g, i, none⟩))).run Try.prog w = .ok v w := by
  obtain ⟨b, o, ha, hcell⟩ := h.cells.at_ hv
  simp only [Option.some.injEq, Addr.mk.injEq, and_true] at ha
  obtain ⟨rfl, rfl⟩ := ha
  rw [Nat.zero_add] at hcell
  exact ld1 hT hcell

theorem rdB_drop {a a' : Option Addr} {n c k : Nat} {l : List UInt8} (hr : RdB w a n c l) (hs : SubA 1 a k c a') (hk : k ≤ n) : RdB w a' (n - k) (c - k) (l.drop k) := by
  have hl := hr.lenB
  have h1 := Rd.sub hr hs (hh := n) hk (Nat.le_refl _) hr.le (Nat.le_refl _)
  have e2 : ((bv l).drop (k * 1)).take ((n - k) * 1) = bv (l.drop k) := by
    rw [Nat.mul_one, Nat.mul_one, List.take_of_length_le (by simp; omega), bv_drop]
  rw [e2] at h1
  exact h1

theorem RefIn.setArm (h : RefIn w0 X w gr m N) (i : Int) (h0 : 0 ≤ i) (hi : i ≤ 9223372036854775807) : ∃ w', (Instr.storeAt 3 (.pointer (some ⟨gr, 7, none⟩)) (.int .i64 i)).run Try.prog w = .ok () w' ∧ RefIn w0 X w' gr { m with arm := some i.toNat } N := by
  obtain ⟨p, hp, hS⟩ := h
  obtain ⟨w2, r2, h2⟩ := hS.stL (i := 0) (o := 7) (off := 7) (T := 3) (v := .int .i64 ((i.toNat : Nat) : Int)) rfl (intS _) rfl (by simp [rdL]) rfl
  refine ⟨w2, by rw [Int.toNat_of_nonneg h0] at r2; exact r2, p, hp.upd m.steps m.down (some i.toNat) m.fails (fun k hk => by have := Option.some.inj hk; omega) hp.fails hp.flen, h2⟩

theorem Two.setFail {l : List Nat} {fa : Option Addr} {fc : Nat} (h : Two w0 X w gd gr md mr (N ++ [.row 3 1 (.slice fa l.length fc) l.length (niv l)])) (hl : ∀ x ∈ l, x ≤ 9223372036854775807) (hn : l.length * 8 ≤ 140737488355328) :
    ∃ w', (Instr.storeAt 48 (.pointer (some ⟨gr, 8, none⟩)) (.slice fa l.length fc)).run Try.prog w = .ok () w' ∧ Two w0 X w' gd gr md { mr with fails := l } N := by
  obtain ⟨p, hp, q, hq, hS⟩ := h.ref
  have e : resR gr mr q ++ (q.FL.map FD.row ++ (q.P ++ (dskRes gd md p ++ (N ++ [.row 3 1 (.slice fa l.length fc) l.length (niv l)])))) = (resR gr mr q ++ (q.FL.map FD.row ++ (q.P ++ (dskRes gd md p ++ N)))) ++ [.row 3 1 (.slice fa l.length fc) l.length (niv l)] := by simp [List.append_assoc]
  rw [e] at hS
  obtain ⟨w2, r2, h2⟩ := St.newFails hS
  exact ⟨w2, r2, Two.of_ref hp ⟨{ q with fa := fa, fc := fc }, hq.upd mr.steps mr.down mr.arm l hq.arm hl hn, h2⟩⟩

end

open Go Sx
set_option maxRecDepth 8000

section
variable {w0 w w' : World} {X : List Nat} {N N' T T' : List Res} {gd gr : Nat} {md mr m : DiskM}

theorem readF_len (h : WFD m) (n : Nm) : (readF m n).length ≤ 1099511627776 := by
  unfold readF
  split
  · simp
  unfold fileAt
  cases hf : m.files[foundI m n]? with
  | none => rw [List.getD_eq_getElem?_getD, hf]; simp [file0]
  | some f => rw [List.getD_eq_getElem?_getD, hf]; exact (h.syn f (List.mem_of_getElem? hf)).2

set_option maxHeartbeats 4000000 in
theorem both_spec (o : OpD) (hop : RdOp w0 o) (hdl : o.dn ≤ 1048576) (h : Two w0 [] w gd gr m m N) (hb : m.steps < 4611686018427387904) (hc : m.chs.length < 1000000000) (hf : m.files.length < 1000000000) :
    Calls Try.prog 29 #[.pointer (some ⟨gd, 0, none⟩), .pointer (some ⟨gr, 0, none⟩), .agg (opD o).toArray] w fun e w' => e = .returned (.bool true) ∧ Two w0 [] w' gd gr (stepMM m o) (stepMM m o) N := by
  obtain ⟨mI, hI⟩ := eI
  have hln := hop.data.lenB
  have hbl := hop.bl
  apply amphoralaw01_step_vc
  obtain ⟨g, w1, r1, k1⟩ := (St.start w).boxA (P := Try.prog) 57 (opD o)
  have h1 := h.addSt k1
  have hg : St w0 [] w1 (N ++ [.arr g 57 (opD o)]) := h1.rest
  have hgD : St w0 [] w1.drew [.arr g 57 (opD o)] := (hg.drew).sub (List.sublist_append_right _ _)
  have h1D := h1.same (Chg.drew [] w1)
  have mid : ∀ {w' m1 m2}, Two w0 [] w' gd gr m1 m2 (N ++ [.arr g 57 (opD o)]) → St w0 [] w' [.arr g 57 (opD o)] := fun h => h.rest.sub (List.sublist_append_right _ _)
  have midT : ∀ {w' m1 m2 T}, Two w0 [] w' gd gr m1 m2 ((N ++ [.arr g 57 (opD o)]) ++ T) → St w0 [] w' (.arr g 57 (opD o) :: T) := fun h => h.rest.sub (by rw [List.append_assoc]; exact List.sublist_append_right _ _)
  have drop : ∀ {w' m1 m2}, Two w0 [] w' gd gr m1 m2 (N ++ [.arr g 57 (opD o)]) → Two w0 [] w' gd gr m1 m2 N := fun h => h.subN (List.sublist_append_left _ _)
  have dropT : ∀ {w' m1 m2 T}, Two w0 [] w' gd gr m1 m2 ((N ++ [.arr g 57 (opD o)]) ++ T) → Two w0 [] w' gd gr m1 m2 N := fun h => drop (h.subN (List.sublist_append_left _ _))
  let S : World → Prop := fun w' => St w0 [] w' [.arr g 57 (opD o)]
  refine ⟨g, w1, r1, _, hg.ldL (o := 0) getLast' (intA _) rfl rfl, fun h0 => ?_, fun n0 => ⟨fun h0 => ?_, fun n1 => ⟨fun h0 => ?_, fun n2 => ⟨fun h0 => ?_, fun n3 => ⟨fun h0 => ?_, fun n4 => ⟨fun h0 => ?_, fun n5 => ⟨fun h0 => ?_, fun n6 => ⟨fun h0 => ?_, fun n7 => ⟨fun h0 => ?_, fun n8 => ⟨fun h0 => ?_, fun n9 => ⟨fun w' => Two w0 [] w' gd gr (stepMM m o) (stepMM m o) N, ⟨fun h0 => ?_, fun n10 => ⟨fun h0 => ?_, fun n11 => ⟨fun h0 => ?_, fun n12 => ?_⟩⟩⟩, fun w' hw => ⟨rfl, hw⟩⟩⟩⟩⟩⟩⟩⟩⟩⟩⟩⟩
  · have hk : o.kind = 0 := by simpa using h0
    have hp : stepMM m o = (createM m o.name).1 := by simp [stepMM, playM, hk]
    rw [hp]
    obtain ⟨ps, q, hq, hD⟩ := h1D.disk
    refine ⟨S, hgD, _, fun w' hw => hw.ldL (i := 0) (o := 1) rfl (stA' _) rfl rfl, _, fun w' hw => hw.ldL (i := 0) (o := 1) rfl (stA' _) rfl rfl, (create_spec o.name hD hb hc).mono ?_⟩
    rintro e w2 ⟨rfl, ps', h2⟩
    have h2 := Two.of_disk hq h2
    refine ⟨_, rfl, S, fun _ h => h, mid h2, (num_spec _ _ (create_ne0 m o.name)).mono ?_⟩
    rintro e w3 ⟨rfl, rfl⟩
    obtain ⟨p, hp, hR⟩ := h2.ref
    refine ⟨_, rfl, S, fun _ h => h, mid h2, (rcreate_spec o.name hR hb hc hf).mono ?_⟩
    rintro e w4 ⟨rfl, h4⟩
    have h4 := Two.of_ref hp h4
    exact ⟨_, rfl, S, fun _ h => h, mid h4, by simp, drop h4⟩
  · have hk : o.kind = 1 := by simpa using h0
    have hp : stepMM m o = (appendM m o.name [o.data]).1 := by simp [stepMM, playM, hk]
    rw [hp]
    refine ⟨_, hg.ldA (l := opD o) getLast' (opDA _) (opDS _) (opD_len _), (two_spec o w1 (hop.keep0 hg.chg) hdl).mono ?_⟩
    rintro e w5 ⟨k, g1, c1, g2, c2, g3, u1, u2, hkn, rfl, m1, m2, k5⟩
    have h5 := h1.addSt k5
    have cap := hop.data.le
    have L0 : ∀ {w' ma mb}, Two w0 [] w' gd gr ma mb ((N ++ [.arr g 57 (opD o)]) ++ [.blk g1 (.cells u1 5 (0, 0)), .blk g2 (.cells u2 5 (0, 0)), .row 22 1 (.slice (some ⟨g3, 0, none⟩) 2 2) 2 [.slice (some ⟨g1, 0, none⟩) k c1, .slice (some ⟨g2, 0, none⟩) (o.dn - k) c2]]) → MarkB w' g1 k c1 (o.data.take k) u1 ∧ MarkB w' g2 (o.dn - k) c2 (o.data.drop k) u2 ∧ Rd w' (some ⟨g3, 0, none⟩) 2 2 1 [.slice (some ⟨g1, 0, none⟩) k c1, .slice (some ⟨g2, 0, none⟩) (o.dn - k) c2] := fun h => ⟨m1.of_blk' ((midT h).holds 1 _ rfl), m2.of_blk' ((midT h).holds 2 _ rfl), (midT h).rd (i := 3) rfl⟩
    let S1 : World → Prop := fun w' => St w0 [] w' (.arr g 57 (opD o) :: [.blk g1 (.cells u1 5 (0, 0)), .blk g2 (.cells u2 5 (0, 0)), .row 22 1 (.slice (some ⟨g3, 0, none⟩) 2 2) 2 [.slice (some ⟨g1, 0, none⟩) k c1, .slice (some ⟨g2, 0, none⟩) (o.dn - k) c2]])
    have ldN : ∀ w', S1 w' → (Instr.loadAt 9 (.pointer (some ⟨g, 1, none⟩))).run Try.prog w' = .ok (strV o.name) w' := fun w' hw => Sx.St.ldL hw (i := 0) (o := 1) rfl (stA' _) rfl rfl
    have ldD : ∀ w', S1 w' → (Instr.loadAt 22 (.pointer (some ⟨g, 3, none⟩))).run Try.prog w' = .ok (.slice o.da o.dn o.dc) w' := fun w' hw => Sx.St.ldL hw (i := 0) (o := 3) rfl (bsA _) rfl rfl
    have ldE0 : ∀ w', S1 w' → (Instr.loadAt 22 (.pointer (some ⟨g3, 0 + Int.toNat (0 : Int) * 1, none⟩))).run Try.prog w' = .ok (.slice (some ⟨g1, 0, none⟩) k c1) w' := fun w' hw => rowLd (i := 0) (Sx.St.rd hw (i := 3) rfl) (bsA _) rfl
    have ldE1 : ∀ w', S1 w' → (Instr.loadAt 22 (.pointer (some ⟨g3, 0 + Int.toNat (1 : Int) * 1, none⟩))).run Try.prog w' = .ok (.slice (some ⟨g2, 0, none⟩) (o.dn - k) c2) w' := fun w' hw => rowLd (i := 1) (Sx.St.rd hw (i := 3) rfl) (bsA _) rfl
    obtain ⟨ps, q, hq, hD⟩ := h5.disk
    refine ⟨_, _, _, rfl, _, ldN _ (midT h5), (append_spec o.name _ 2 2 [.slice (some ⟨g1, 0, none⟩) k c1, .slice (some ⟨g2, 0, none⟩) (o.dn - k) c2] [o.data.take k, o.data.drop k] hD (fun {w2 ps2 m2'} hD' => ?_) hb (by decide)).mono ?_⟩
    · have q3 : St w0 [] w2 [.blk g1 (.cells u1 5 (0, 0)), .blk g2 (.cells u2 5 (0, 0)), .row 22 1 (.slice (some ⟨g3, 0, none⟩) 2 2) 2 [.slice (some ⟨g1, 0, none⟩) k c1, .slice (some ⟨g2, 0, none⟩) (o.dn - k) c2]] := hD'.rest.sub ((List.sublist_append_right _ _).trans (List.sublist_append_right _ _))
      exact ⟨q3.rd (i := 2) rfl, r2cons (m1.of_blk' (q3.holds 0 _ rfl)).rd (r2cons (m2.of_blk' (q3.holds 1 _ rfl)).rd (r2nil _))⟩
    rintro e w6 ⟨rfl, h6⟩
    rw [appendM_two] at h6 ⊢
    have h6 := Two.of_disk hq h6
    have h6D := h6.same (Chg.drew [] w6)
    refine ⟨_, rfl, g3, 0, rfl, by decide, by decide, _, _, _, ldE0 _ (midT h6), fun x w' => x = true ∧ Two w0 [] w' gd gr (appendM m o.name [o.data]).1 (appendM m o.name [o.data]).1 ((N ++ [.arr g 57 (opD o)]) ++ [.blk g1 (.cells u1 5 (0, 0)), .blk g2 (.cells u2 5 (0, 0)), .row 22 1 (.slice (some ⟨g3, 0, none⟩) 2 2) 2 [.slice (some ⟨g1, 0, none⟩) k c1, .slice (some ⟨g2, 0, none⟩) (o.dn - k) c2]]), ?_, ?_⟩
    · have tail : ∀ {w9}, Two w0 [] w9 gd gr (appendM m o.name [o.data]).1 (appendM m o.name [o.data]).1 ((N ++ [.arr g 57 (opD o)]) ++ [.blk g1 (.cells u1 5 (0, 0)), .blk g2 (.cells u2 5 (0, 0)), .row 22 1 (.slice (some ⟨g3, 0, none⟩) 2 2) 2 [.slice (some ⟨g1, 0, none⟩) k c1, .slice (some ⟨g2, 0, none⟩) (o.dn - k) c2]]) → True := fun _ => trivial
      refine ⟨S1, midT h6D, _, ldN, _, _, _, ldD, (num_spec _ _ (append_ne0 m o.name [o.data])).mono ?_, ?_⟩
      · rintro e w7 ⟨rfl, rfl⟩
        obtain ⟨g8, w8, r8, k8⟩ := (St.start w6.drew).lit bbT [.slice o.da o.dn o.dc] (by simp [Value.oneCell']) (by simp)
        have h8 := h6D.same k8.chg
        obtain ⟨p, hp, hR⟩ := h8.ref
        refine ⟨_, rfl, S1, fun _ h => h, midT h6D, _, _, _, w8, r8, S1, fun _ h => h, midT h8, (rappend_spec o.name _ 1 1 [.slice o.da o.dn o.dc] [o.data] hR (k8.rd (i := 0) rfl) (r2cons (hop.data.keep0 h8.chg) (r2nil _)) hb (by decide)).mono ?_⟩
        rintro e w9 ⟨rfl, h9⟩
        have h9 := Two.of_ref hp h9
        obtain ⟨n1, n2, n3⟩ := L0 h9
        have hd := hop.data.keep0 h9.chg
        refine ⟨_, rfl, S1, fun _ h => h, midT h9, fun _ => ⟨g3, 0, rfl, by decide, by decide, _, _, _, ldE0, _, _, _, ldD, by omega, by omega, (kept_spec g1 k c1 o.da k o.dc (o.data.take k) u1 w9 n1 (rdB_upto hd hkn) (by omega)).mono ?_⟩, fun hn => by simp at hn⟩
        rintro e w10 ⟨rfl, rfl⟩
        refine ⟨_, rfl, S1, fun _ h => h, midT h9, fun _ => ⟨g3, 0, rfl, by decide, by decide, _, _, _, ldE1, _, _, _, ldD, by omega, by omega, by omega, fun a' hsub => (kept_spec g2 (o.dn - k) c2 a' (o.dn - k) (o.dc - k) (o.data.drop k) u2 w10 n2 (rdB_drop hd hsub hkn) (by omega)).mono ?_⟩, fun hn => by cases hn⟩
        rintro e w11 ⟨rfl, rfl⟩
        exact ⟨_, rfl, S1, fun _ h => h, midT h9, rfl, h9⟩
      · obtain ⟨g8, w8, r8, k8⟩ := (St.start w6.drew).lit bbT [.slice o.da o.dn o.dc] (by simp [Value.oneCell']) (by simp)
        have h8 := h6D.same k8.chg
        refine ⟨_, _, _, w8, r8, S1, fun _ h => h, midT h8, (num_spec _ _ (append_ne0 m o.name [o.data])).mono ?_⟩
        rintro e w7 ⟨rfl, rfl⟩
        obtain ⟨p, hp, hR⟩ := h8.ref
        refine ⟨_, rfl, S1, fun _ h => h, midT h8, (rappend_spec o.name _ 1 1 [.slice o.da o.dn o.dc] [o.data] hR (k8.rd (i := 0) rfl) (r2cons (hop.data.keep0 h8.chg) (r2nil _)) hb (by decide)).mono ?_⟩
        rintro e w9 ⟨rfl, h9⟩
        have h9 := Two.of_ref hp h9
        obtain ⟨n1, n2, n3⟩ := L0 h9
        have hd := hop.data.keep0 h9.chg
        refine ⟨_, rfl, S1, fun _ h => h, midT h9, fun _ => ⟨g3, 0, rfl, by decide, by decide, _, _, _, ldE0, _, _, _, ldD, by omega, by omega, (kept_spec g1 k c1 o.da k o.dc (o.data.take k) u1 w9 n1 (rdB_upto hd hkn) (by omega)).mono ?_⟩, fun hn => by simp at hn⟩
        rintro e w10 ⟨rfl, rfl⟩
        refine ⟨_, rfl, S1, fun _ h => h, midT h9, fun _ => ⟨g3, 0, rfl, by decide, by decide, _, _, _, ldE1, _, _, _, ldD, by omega, by omega, by omega, fun a' hsub => (kept_spec g2 (o.dn - k) c2 a' (o.dn - k) (o.dc - k) (o.data.drop k) u2 w10 n2 (rdB_drop hd hsub hkn) (by omega)).mono ?_⟩, fun hn => by cases hn⟩
        rintro e w11 ⟨rfl, rfl⟩
        exact ⟨_, rfl, S1, fun _ h => h, midT h9, rfl, h9⟩
    rintro x w17 ⟨rfl, h17⟩
    obtain ⟨n1, n2, n3⟩ := L0 h17
    refine ⟨g3, 0, rfl, by decide, by decide, _, _, _, ldE0 _ (midT h17), (over_spec _ k c1 (o.data.take k) w17 (n1.row (Nat.zero_le _)) (by omega)).mono ?_⟩
    rintro e w18 ⟨rfl, c18⟩
    have h18 : Two w0 [] w18 gd gr (appendM m o.name [o.data]).1 (appendM m o.name [o.data]).1 ((N ++ [.arr g 57 (opD o)]) ++ [.blk g2 (.cells u2 5 (0, 0)), .row 22 1 (.slice (some ⟨g3, 0, none⟩) 2 2) 2 [.slice (some ⟨g1, 0, none⟩) k c1, .slice (some ⟨g2, 0, none⟩) (o.dn - k) c2]]) :=
      (h17.permN (N' := ((N ++ [.arr g 57 (opD o)]) ++ [.blk g2 (.cells u2 5 (0, 0)), .row 22 1 (.slice (some ⟨g3, 0, none⟩) 2 2) 2 [.slice (some ⟨g1, 0, none⟩) k c1, .slice (some ⟨g2, 0, none⟩) (o.dn - k) c2]]) ++ [.blk g1 (.cells u1 5 (0, 0))]) (by rw [List.append_assoc _ [_, _] [_]]; exact List.Perm.append_left _ (List.perm_append_comm (l₁ := [Res.blk g1 (.cells u1 5 (0, 0))])))).lost (r := .blk g1 (.cells u1 5 (0, 0))) c18
    refine ⟨rfl, g3, 0, rfl, by decide, by decide, _, _, _, rowLd (i := 1) ((midT h18).rd (i := 2) rfl) (bsA _) rfl, (over_spec _ (o.dn - k) c2 (o.data.drop k) w18 ((m2.of_blk' ((midT h18).holds 1 _ rfl)).row (Nat.zero_le _)) (by omega)).mono ?_⟩
    rintro e w19 ⟨rfl, c19⟩
    have h19 : Two w0 [] w19 gd gr (appendM m o.name [o.data]).1 (appendM m o.name [o.data]).1 (N ++ [.arr g 57 (opD o)]) :=
      Two.lost (r := .blk g2 (.cells u2 5 (0, 0))) (h18.subN (List.Sublist.append_left (List.sublist_append_left [_] [_]) _)) c19
    exact ⟨rfl, rfl, drop h19⟩
  · have hk : o.kind = 2 := by simpa using h0
    have hp : stepMM m o = (syncM m o.name).1 := by simp [stepMM, playM, hk]
    rw [hp]
    obtain ⟨ps, q, hq, hD⟩ := h1D.disk
    refine ⟨S, hgD, _, fun w' hw => hw.ldL (i := 0) (o := 1) rfl (stA' _) rfl rfl, _, fun w' hw => hw.ldL (i := 0) (o := 1) rfl (stA' _) rfl rfl, (sync_spec o.name hD hb).mono ?_⟩
    rintro e w2 ⟨rfl, h2⟩
    have h2 := Two.of_disk hq h2
    refine ⟨_, rfl, S, fun _ h => h, mid h2, (num_spec _ _ (sync_ne0 m o.name)).mono ?_⟩
    rintro e w3 ⟨rfl, rfl⟩
    obtain ⟨p, hp, hR⟩ := h2.ref
    refine ⟨_, rfl, S, fun _ h => h, mid h2, (rsync_spec o.name hR hb).mono ?_⟩
    rintro e w4 ⟨rfl, h4⟩
    have h4 := Two.of_ref hp h4
    exact ⟨_, rfl, S, fun _ h => h, mid h4, by simp, drop h4⟩
  · have hk : o.kind = 3 := by simpa using h0
    have hp : stepMM m o = (syncDirM m).1 := by simp [stepMM, playM, hk]
    rw [hp]
    obtain ⟨ps, q, hq, hD⟩ := h1.disk
    refine (syncDir_spec hD hb).mono ?_
    rintro e w2 ⟨rfl, h2⟩
    have h2 := Two.of_disk hq h2
    refine ⟨_, rfl, (num_spec _ _ (syncDir_ne0 m)).mono ?_⟩
    rintro e w3 ⟨rfl, rfl⟩
    obtain ⟨p, hp, hR⟩ := h2.ref
    refine ⟨_, rfl, (rsyncDir_spec hR hb).mono ?_⟩
    rintro e w4 ⟨rfl, h4⟩
    have h4 := Two.of_ref hp h4
    exact ⟨_, rfl, by simp, drop h4⟩
  · have hk : o.kind = 4 := by simpa using h0
    have hp : stepMM m o = (renameM m o.name o.to).1 := by simp [stepMM, playM, hk]
    rw [hp]
    obtain ⟨ps, q, hq, hD⟩ := h1D.disk
    refine ⟨S, hgD, _, fun w' hw => hw.ldL (i := 0) (o := 1) rfl (stA' _) rfl rfl, _, fun w' hw => hw.ldL (i := 0) (o := 2) rfl (stA' _) rfl rfl, _, fun w' hw => hw.ldL (i := 0) (o := 1) rfl (stA' _) rfl rfl, _, fun w' hw => hw.ldL (i := 0) (o := 2) rfl (stA' _) rfl rfl, (rename_spec o.name o.to hD hb hc).mono ?_⟩
    rintro e w2 ⟨rfl, h2⟩
    have h2 := Two.of_disk hq h2
    refine ⟨_, rfl, S, fun _ h => h, mid h2, (num_spec _ _ (rename_ne0 m o.name o.to)).mono ?_⟩
    rintro e w3 ⟨rfl, rfl⟩
    obtain ⟨p, hp, hR⟩ := h2.ref
    refine ⟨_, rfl, S, fun _ h => h, mid h2, (rrename_spec o.name o.to hR hb hc).mono ?_⟩
    rintro e w4 ⟨rfl, h4⟩
    have h4 := Two.of_ref hp h4
    exact ⟨_, rfl, S, fun _ h => h, mid h4, by simp, drop h4⟩
  · have hk : o.kind = 5 := by simpa using h0
    have hp : stepMM m o = (removeM m o.name).1 := by simp [stepMM, playM, hk]
    rw [hp]
    obtain ⟨ps, q, hq, hD⟩ := h1D.disk
    refine ⟨S, hgD, _, fun w' hw => hw.ldL (i := 0) (o := 1) rfl (stA' _) rfl rfl, _, fun w' hw => hw.ldL (i := 0) (o := 1) rfl (stA' _) rfl rfl, (remove_spec o.name hD hb hc).mono ?_⟩
    rintro e w2 ⟨rfl, h2⟩
    have h2 := Two.of_disk hq h2
    refine ⟨_, rfl, S, fun _ h => h, mid h2, (num_spec _ _ (remove_ne0 m o.name)).mono ?_⟩
    rintro e w3 ⟨rfl, rfl⟩
    obtain ⟨p, hp, hR⟩ := h2.ref
    refine ⟨_, rfl, S, fun _ h => h, mid h2, (rremove_spec o.name hR hb hc).mono ?_⟩
    rintro e w4 ⟨rfl, h4⟩
    have h4 := Two.of_ref hp h4
    exact ⟨_, rfl, S, fun _ h => h, mid h4, by simp, drop h4⟩
  · have hk : o.kind = 6 := by simpa using h0
    have hp : stepMM m o = m := by simp [stepMM, playM, hk]
    rw [hp]
    obtain ⟨ps, q, hq, hD⟩ := h1.disk
    refine ⟨_, hg.ldL (o := 1) getLast' (stA' _) rfl rfl, (read_spec o.name hD).mono ?_⟩
    rintro e w2 ⟨xa, xn, xc, rfl, fx⟩
    have ex : (readF m o.name).length = xn := fx.2.1
    subst ex
    have h2 := h1.addSt (fx.add (St.start w1))
    have g2 := midT h2
    obtain ⟨p, hp, hR⟩ := h2.ref
    refine ⟨_, _, _, _, rfl, _, g2.ldL (i := 0) (o := 1) rfl (stA' _) rfl rfl, (rread_spec o.name hR).mono ?_⟩
    rintro e w3 ⟨ya, yn, yc, rfl, fy⟩
    have ey : (readF m o.name).length = yn := fy.2.1
    subst ey
    have h3 := h2.same fy.1
    have g3 := midT h3
    have hx : RdB w3 xa (readF m o.name).length xc (readF m o.name) := g3.rd (i := 1) rfl
    refine ⟨_, _, _, _, rfl, fun x w' => x = true ∧ w' = w3, ⟨_, toStr bS bE sS hx.cells rfl, _, toStr bS bE sS fy.cells rfl, fun _ => (num_spec _ _ (found_ne0 m o.name)).mono ?_, fun hn => by simp at hn⟩, ?_⟩
    · rintro e w4 ⟨rfl, rfl⟩
      exact ⟨_, rfl, by simp, rfl⟩
    rintro x w5 ⟨rfl, rfl⟩
    have hnum := readF_len h3.wf.1 o.name
    refine (over_spec xa _ xc (readF m o.name) w5 (g3.holds 1 _ rfl) (by omega)).mono ?_
    rintro e w6 ⟨rfl, c6⟩
    exact ⟨rfl, rfl, drop (h3.lost c6)⟩
  · have hk : o.kind = 7 := by simpa using h0
    have hp : stepMM m o = m := by simp [stepMM, playM, hk]
    rw [hp]
    obtain ⟨ps, q, hq, hD⟩ := h1.disk
    refine ⟨_, hg.ldL (o := 1) getLast' (stA' _) rfl rfl, _, hg.ldL (o := 4) getLast' (intA _) rfl rfl, _, hg.ldL (o := 5) getLast' (intA _) rfl rfl, (readAt_spec o.name o.n o.m hop.bn hop.bm hD).mono ?_⟩
    rintro e w2 ⟨xa, xn, xc, rfl, fx⟩
    have ex : (readAtF m o.name o.n o.m).length = xn := fx.2.1
    subst ex
    have h2 := h1.addSt (fx.add (St.start w1))
    have g2 := midT h2
    obtain ⟨p, hp, hR⟩ := h2.ref
    refine ⟨_, _, _, _, rfl, _, g2.ldL (i := 0) (o := 1) rfl (stA' _) rfl rfl, _, g2.ldL (i := 0) (o := 4) rfl (intA _) rfl rfl, _, g2.ldL (i := 0) (o := 5) rfl (intA _) rfl rfl, (rreadAt_spec o.name o.n o.m hop.bn hop.bm hR).mono ?_⟩
    rintro e w3 ⟨ya, yn, yc, rfl, c3, hy⟩
    have h3 := h2.same c3
    have g3 := midT h3
    have hx : RdB w3 xa (readAtF m o.name o.n o.m).length xc (readAtF m o.name o.n o.m) := g3.rd (i := 1) rfl
    refine ⟨_, _, _, _, rfl, _, toStr bS bE sS hx.cells rfl, _, toStr bS bE sS hy.cells hy.lenB, fun _ => (num_spec _ _ (readAt_ne0 m o.name o.n o.m)).mono ?_, fun hn => by simp at hn⟩
    rintro e w4 ⟨rfl, rfl⟩
    exact ⟨_, rfl, by simp, dropT h3⟩
  · have hk : o.kind = 8 := by simpa using h0
    have hp : stepMM m o = (armM m o.n).1 := by simp [stepMM, playM, hk]
    rw [hp]
    refine ⟨_, hg.ldL (o := 4) getLast' (intA _) rfl rfl, fun hneg => ?_, fun hpos => ?_⟩
    · have hneg' : o.n < 0 := by simpa using hneg
      have ha : armM m o.n = (m, some 7) := by unfold armM; rw [if_pos hneg']
      obtain ⟨ps, q, hq, hD⟩ := h1.disk
      refine ⟨_, hg.ldL (o := 4) getLast' (intA _) rfl rfl, (arm_spec o.n hop.bn.2 hD).mono ?_⟩
      rintro e w2 ⟨rfl, h2⟩
      rw [ha] at h2 ⊢
      have h2 := Two.of_disk hq h2
      refine ⟨_, rfl, (num_spec (some 7) _ (by decide)).mono ?_⟩
      rintro e w3 ⟨rfl, rfl⟩
      exact ⟨_, rfl, rfl, drop h2⟩
    · have hpos' : ¬ o.n < 0 := by simpa using hpos
      have ha : armM m o.n = ({ m with arm := some o.n.toNat }, none) := by unfold armM; rw [if_neg hpos']
      obtain ⟨p, hp, hR⟩ := h1.ref
      obtain ⟨w2, r2, h2⟩ := hR.setArm o.n (by omega) hop.bn.2
      have h2 := Two.of_ref hp h2
      obtain ⟨ps, q, hq, hD⟩ := h2.disk
      refine ⟨_, hg.ldL (o := 4) getLast' (intA _) rfl rfl, w2, r2, _, (mid h2).ldL (i := 0) (o := 4) rfl (intA _) rfl rfl, (arm_spec o.n hop.bn.2 hD).mono ?_⟩
      rintro e w3 ⟨rfl, h3⟩
      rw [ha] at h3 ⊢
      have h3 := Two.of_disk hq h3
      exact ⟨_, rfl, _, eqlS_nil hI none _ _, rfl, drop h3⟩
  · have hk : o.kind = 9 := by simpa using h0
    have hp : stepMM m o = (failM m (o.n :: o.cuts)).1 := by simp [stepMM, playM, hk]
    rw [hp]
    have hcl : o.cuts.length = o.cn := by have := hop.cuts.len; simpa using this
    obtain ⟨g2, w2, r2, k2⟩ := (St.start w1).lit intT [.int .i64 o.n] (by simp [Value.oneCell']) (by simp)
    have hc2 : Rd w2 o.ca o.cn o.cc 1 (zv o.cuts) := (hop.cuts.keep0 hg.chg).keep0 k2.chg
    obtain ⟨va, vc, w3, r3, k3, _, _⟩ := k2.append (i := 0) (ty := 48) intT rfl hc2 (fun u hu => by obtain ⟨x, _, rfl⟩ := List.mem_map.1 hu; rfl) (by simpa using hbl) (by simp only [maxLen]; simp; omega)
    have hlen : (o.n :: o.cuts).length = 1 + o.cn := by simp [hcl]; omega
    simp only [List.length_singleton] at r3 k3
    obtain ⟨vn, hvn⟩ : ∃ vn, 1 + o.cn = vn := ⟨_, rfl⟩
    rw [hvn] at r3 k3 hbl hlen
    obtain ⟨l, hl⟩ : ∃ l, o.n :: o.cuts = l := ⟨_, rfl⟩
    have k3 : St w1 [] w3 [.row 3 1 (.slice va vn vc) vn (zv (o.n :: o.cuts))] := k3
    have hbd : ∀ x ∈ o.n :: o.cuts, x ≤ 9223372036854775807 := fun x hx => by
      rcases List.mem_cons.1 hx with rfl | hx
      · exact hop.bn.2
      · exact hop.bc x hx
    rw [hl] at hlen k3 hbd ⊢
    have h3 := h1.addSt k3
    have hg2 : St w0 [] w2 [.arr g 57 (opD o)] := (hg.same k2.chg).sub (List.sublist_append_right _ _)
    obtain ⟨ps, q, hq, hD⟩ := h3.disk
    refine ⟨_, hg.ldL (o := 4) getLast' (intA _) rfl rfl, _, _, _, w2, r2, _, _, _, hg2.ldL (i := 0) (o := 7) rfl (insA' _) rfl rfl, _, _, _, w3, r3, (fail_spec _ _ _ l ((midT h3).rd (i := 1) rfl) hbd hbl hD).mono ?_⟩
    rintro e w4 ⟨rfl, h4⟩
    have h4 := Two.of_disk hq h4
    have hr4 : Rd w4 va vn vc 1 (zv l) := (midT h4).rd (i := 1) rfl
    refine ⟨_, rfl, fun x w' => ∃ i : Nat, x = (i : Int) ∧ i ≤ vn ∧ (l.take i).any (· < 0) = false ∧ w' = w4, fun x _ => vn - x.toNat, ⟨0, rfl, by omega, by simp, rfl⟩, ?_⟩
    rintro x w5 ⟨i, rfl, hi, hall, rfl⟩
    refine ⟨fun h => ?_, fun h => ?_⟩
    · have hi' : i < vn := by simp at h; omega
      have hx2 : l[i]? = some (l.getD i 0) := by simp [List.getD, show i < l.length by omega]
      have hx : (zv l)[i]? = some (.int .i64 (l.getD i 0)) := by rw [List.getElem?_map, hx2]; rfl
      obtain ⟨z, hz⟩ : ∃ z, l.getD i 0 = z := ⟨_, rfl⟩
      rw [hz] at hx hx2
      obtain ⟨b, o', ha, hcell⟩ := hr4.cells.at_ hx
      refine ⟨b, o', ha, by omega, by omega, _, by rw [Int.toNat_natCast, Nat.mul_one]; exact ld1 (intA _) hcell, fun h => ?_, fun h => ⟨⟨i + 1, wrap_succ hi' (by omega), by omega, ?_, rfl⟩, mu_succ hi' (by omega)⟩⟩
      · have hneg : l.any (· < 0) = true := by
          rw [List.any_eq_true]
          exact ⟨z, List.mem_of_getElem? hx2, by simpa using h⟩
        have ha2 : failM m l = (m, some 7) := by unfold failM; rw [if_pos hneg]
        rw [ha2] at h4 ⊢
        exact ⟨_, eqlS_err hI (some 7) 7 _ _ _, rfl, dropT h4⟩
      · rw [List.take_add_one, hx2, List.any_append, hall]
        simpa using h
    have hi' : i = vn := by simp at h; omega
    rw [hi', List.take_of_length_le (by omega)] at hall
    have ha2 : failM m l = ({ m with fails := l.map Int.toNat }, none) := by unfold failM; rw [if_neg (by rw [hall]; simp)]
    rw [ha2] at h4 ⊢
    have hniv : niv (l.map Int.toNat) = zv l := by
      rw [niv, List.map_map]
      refine List.map_congr_left fun x hx => ?_
      rw [List.any_eq_false] at hall
      have := hall x hx
      have : 0 ≤ x := by simpa using this
      simp only [Function.comp, Int.toNat_of_nonneg this]
    obtain ⟨g6, w6, r6, k6⟩ := (St.start w5).lit intT [] (by simp) (by simp)
    obtain ⟨ua, uc, w7, r7, k7, _, _⟩ := k6.append (i := 0) (ty := 48) intT rfl (hr4.keep0 k6.chg) (fun u hu => by obtain ⟨x, _, rfl⟩ := List.mem_map.1 hu; rfl) (by simpa using hbl) (by simp only [maxLen]; simp; omega)
    simp only [List.length_nil, Nat.zero_add, List.nil_append] at r7 k7
    have hml : (l.map Int.toNat).length = vn := by simp [hlen]
    have k7 : St w5 [] w7 [.row 3 1 (.slice ua (l.map Int.toNat).length uc) (l.map Int.toNat).length (niv (l.map Int.toNat))] := by rw [hniv, hml]; exact k7
    have h7 := h4.addSt k7
    obtain ⟨w8, r8, h8⟩ := h7.setFail (fun x hx => by
      obtain ⟨y, hy, rfl⟩ := List.mem_map.1 hx
      have := hbd y hy
      omega) (by rw [hml]; omega)
    rw [hml] at r8
    refine ⟨_, _, _, w6, r6, _, _, _, w7, r7, w8, r8, fun x w' => ∃ (i : Nat) (xs : List Value), x = (i : Int) ∧ i ≤ vn ∧ Two w0 [] w' gd gr { m with fails := l.map Int.toNat } { m with fails := l.map Int.toNat } ((N ++ [.arr g 57 (opD o)]) ++ [.row 3 1 (.slice va vn vc) vn xs]), fun x _ => vn - x.toNat, ⟨0, zv l, rfl, by omega, h8⟩, ?_⟩
    rintro x w9 ⟨i, xs, rfl, hi, h9⟩
    refine ⟨fun h => ?_, fun h => ⟨_, eqlS_nil hI none _ _, rfl, dropT h9⟩⟩
    have hi' : i < vn := by simp at h; omega
    have hown : w9.ownsRow 0 3 1 (.slice va vn vc) vn xs := (midT h9).holds 1 _ rfl
    obtain ⟨gv, rfl⟩ := rowHead hown (by omega)
    have s9 := St.ofRow hown
    obtain ⟨w10, r10, k10⟩ := s9.stRow (i := 0) (j := i) (T := 3) (v := .int .i64 0) rfl (intS _) hi' rfl
    have e : fpsL [Res.row 3 1 (.slice (some ⟨gv, 0, none⟩) vn vc) vn xs] = (Value.slice (some ⟨gv, 0, none⟩) vn vc).ownBlock.toList := by simp [fpsL, Res.fp]
    have h10 := h9.callN (T' := [Res.row 3 1 (.slice (some ⟨gv, 0, none⟩) vn vc) vn (xs.set i (.int .i64 0))]) (by rw [e]; exact k10)
    refine ⟨gv, 0, rfl, by omega, by omega, w10, ?_, ⟨i + 1, _, wrap_succ hi' (by omega), by omega, h10⟩, mu_succ hi' (by omega)⟩
    rw [show 0 + Int.toNat (i : Int) * 1 = i by omega]
    exact r10
  · have hk : o.kind = 10 := by simpa using h0
    have hp : stepMM m o = crashM m o.dirs o.cuts := by simp [stepMM, hk]
    rw [hp]
    obtain ⟨ps, q, hq, hD⟩ := h1.disk
    refine ⟨_, (mid h1).ldP (i := 0) (o := 6) (n := 2) (xs := [.int .i64 o.dirs, .slice o.ca o.cn o.cc]) rfl (survA _) (survS _) rfl rfl, (crash_spec o.dirs o.ca o.cn o.cc o.cuts hD (fun w' hS => hop.cuts.keep0 hS.chg) hc).mono ?_⟩
    rintro e w2 ⟨rfl, h2⟩
    have h2 := Two.of_disk hq h2
    obtain ⟨p, hp, hR⟩ := h2.ref
    refine ⟨rfl, _, (mid h2).ldP (i := 0) (o := 6) (n := 2) (xs := [.int .i64 o.dirs, .slice o.ca o.cn o.cc]) rfl (survA _) (survS _) rfl rfl, (rcrash_spec o.dirs o.ca o.cn o.cc o.cuts hR (fun w' hS => hop.cuts.keep0 hS.chg) hc).mono ?_⟩
    rintro e w3 ⟨rfl, h3⟩
    exact ⟨rfl, drop (Two.of_ref hp h3)⟩
  · have hk : o.kind = 11 := by simpa using h0
    have hp : stepMM m o = (putM m o.name o.data).1 := by simp [stepMM, hk]
    rw [hp]
    refine ⟨_, _, _, hg.ldL (o := 3) getLast' (bsA _) rfl rfl, (copy_spec o.da o.dn o.dc o.data w1 (hop.data.keep0 hg.chg) (by omega)).mono ?_⟩
    rintro e w2 ⟨gc, cc, cur, rfl, c2, hgc, hm⟩
    have k2 : St w1 [] w2 [.blk gc (.cells cur 5 (0, 0))] := (St.start w1).add c2 hm.blk (by simp [Res.fp]; exact hgc)
    have h2 := h1.addSt k2
    obtain ⟨ps, q, hq, hD⟩ := h2.disk
    refine ⟨_, _, _, rfl, _, (midT h2).ldL (i := 0) (o := 1) rfl (stA' _) rfl rfl, (put_spec o.name _ o.dn cc o.data hD hm.rd (by omega)).mono ?_⟩
    rintro e w3 ⟨rfl, ps', h3⟩
    have h3 := Two.of_disk hq h3
    have h3D := h3.same (Chg.drew [] w3)
    let S1 : World → Prop := fun w' => St w0 [] w' (.arr g 57 (opD o) :: [.blk gc (.cells cur 5 (0, 0))])
    refine ⟨_, rfl, fun x w' => x = true ∧ Two w0 [] w' gd gr (putM m o.name o.data).1 (putM m o.name o.data).1 ((N ++ [.arr g 57 (opD o)]) ++ [.blk gc (.cells cur 5 (0, 0))]), ⟨S1, midT h3D, _, fun w' hw => Sx.St.ldL hw (i := 0) (o := 1) rfl (stA' _) rfl rfl, _, _, _, fun w' hw => Sx.St.ldL hw (i := 0) (o := 3) rfl (bsA _) rfl rfl, (num_spec _ _ (put_ne0 m o.name o.data)).mono ?_⟩, ?_⟩
    · rintro e w4 ⟨rfl, rfl⟩
      obtain ⟨p, hp, hR⟩ := h3D.ref
      refine ⟨_, rfl, S1, fun _ h => h, midT h3D, (rput_spec o.name o.da o.dn o.dc o.data hR (hop.data.keep0 h3D.chg) (by omega) hf).mono ?_⟩
      rintro e w5 ⟨rfl, h5⟩
      have h5 := Two.of_ref hp h5
      refine ⟨_, rfl, S1, fun _ h => h, midT h5, fun _ => ⟨_, _, _, fun w' hw => Sx.St.ldL hw (i := 0) (o := 3) rfl (bsA _) rfl rfl, (kept_spec gc o.dn cc o.da o.dn o.dc o.data cur w5 (hm.of_blk' ((midT h5).holds 1 _ rfl)) (hop.data.keep0 h5.chg) (by omega)).mono ?_⟩, fun hn => by simp at hn⟩
      rintro e w6 ⟨rfl, rfl⟩
      exact ⟨_, rfl, S1, fun _ h => h, midT h5, rfl, h5⟩
    rintro x w7 ⟨rfl, h7⟩
    refine (over_spec _ o.dn cc o.data w7 ((hm.of_blk' ((midT h7).holds 1 _ rfl)).row (Nat.zero_le _)) (by omega)).mono ?_
    rintro e w8 ⟨rfl, c8⟩
    exact ⟨rfl, rfl, drop (h7.lost (r := .blk gc (.cells cur 5 (0, 0))) c8)⟩
  · have hk : o.kind = 12 := by simpa using h0
    have hp : stepMM m o = (dropM m o.name).1 := by simp [stepMM, playM, hk]
    rw [hp]
    obtain ⟨ps, q, hq, hD⟩ := h1D.disk
    refine ⟨S, hgD, _, fun w' hw => hw.ldL (i := 0) (o := 1) rfl (stA' _) rfl rfl, _, fun w' hw => hw.ldL (i := 0) (o := 1) rfl (stA' _) rfl rfl, (drop_spec o.name hD).mono ?_⟩
    rintro e w2 ⟨rfl, h2⟩
    have h2 := Two.of_disk hq h2
    refine ⟨_, rfl, S, fun _ h => h, mid h2, (num_spec _ _ (drop_ne0 m o.name)).mono ?_⟩
    rintro e w3 ⟨rfl, rfl⟩
    obtain ⟨p, hp, hR⟩ := h2.ref
    refine ⟨_, rfl, S, fun _ h => h, mid h2, (rdrop_spec o.name hR).mono ?_⟩
    rintro e w4 ⟨rfl, h4⟩
    have h4 := Two.of_ref hp h4
    exact ⟨_, rfl, S, fun _ h => h, mid h4, by simp, drop h4⟩
  · have e0 : ¬ o.kind = 0 := by simpa using n0
    have e1 : ¬ o.kind = 1 := by simpa using n1
    have e2 : ¬ o.kind = 2 := by simpa using n2
    have e3 : ¬ o.kind = 3 := by simpa using n3
    have e4 : ¬ o.kind = 4 := by simpa using n4
    have e5 : ¬ o.kind = 5 := by simpa using n5
    have e8 : ¬ o.kind = 8 := by simpa using n8
    have e9 : ¬ o.kind = 9 := by simpa using n9
    have e10 : ¬ o.kind = 10 := by simpa using n10
    have e11 : ¬ o.kind = 11 := by simpa using n11
    have e12 : ¬ o.kind = 12 := by simpa using n12
    have hp : stepMM m o = m := by simp only [stepMM, playM, e0, e1, e2, e3, e4, e5, e8, e9, e10, e11, e12, if_false]
    show Two w0 [] w1 gd gr (stepMM m o) (stepMM m o) N
    rw [hp]
    exact drop h1

end

open Go Sx
set_option maxRecDepth 8000

section
variable {w0 w w' : World} {X : List Nat} {N N' T T' : List Res} {gd gr : Nat} {md mr m : DiskM} {ps : List Nat}

theorem Two.both (hD : DiskIn w0 X w gd ps md []) (hR : RefIn w [] w' gr mr []) : Two w0 X w' gd gr md mr [] := by
  obtain ⟨p, _, hp, hS⟩ := hD
  obtain ⟨q, hq, hS2⟩ := hR
  refine ⟨p, q, hp, hq, ?_⟩
  have h1 := Sx.St.callPart (N := []) (by rw [List.append_nil]; exact hS) hS2
  have e : dskRes gd md p ++ (refRes gr mr q ++ []) = (resD gd md p ++ DR p.FL []) ++ (resR gr mr q ++ (q.FL.map FD.row ++ (q.P ++ []))) := by simp [dskRes, refRes, List.append_assoc]
  rw [e]
  exact h1

end

theorem diskPlays_walk (s : Int) (a : Option Addr) (n c : Nat) (l : List OpD) (w : World) (hr : RdScript w a n c l) (hb : n ≤ 4611686018427387904) :
    Calls Try.prog 6 #[.int .i64 s, .slice a n c] w fun e w' => e = .returned (.bool true) ∧ Chg [] w w' := by
  obtain ⟨mI, hI⟩ := eI
  have hln := hr.rd.num (by decide)
  apply amphoralaw01_DiskPlays_vc
  refine (alive01_spec w).mono ?_
  rintro e w1 ⟨rfl, c1⟩
  refine ⟨_, rfl, fun h => (by cases h), fun _ => (newDisk_spec s w1).mono ?_⟩
  rintro e w2 (⟨hbad, rfl, rfl⟩ | ⟨hgood, gd, rfl, h2⟩)
  · refine ⟨_, _, rfl, (rnew_spec s w2).mono ?_⟩
    rintro e w3 (⟨_, rfl, rfl⟩ | ⟨hgood, _⟩)
    · refine ⟨_, _, rfl, fun x w' => x = false ∧ w' = w3, (num_spec (some 7) _ (by decide)).mono ?_, ?_⟩
      · rintro e w4 ⟨rfl, rfl⟩
        exact ⟨_, rfl, fun h => (by cases h), fun _ => ⟨_, eqPtr .eql (.inl rfl) dkT _ _ _ _, rfl, rfl⟩⟩
      rintro x w5 ⟨rfl, rfl⟩
      exact ⟨fun h => (by cases h), fun _ => ⟨fun x w' => x = true ∧ w' = w5, ⟨fun _ => ⟨rfl, rfl⟩, fun h => (by cases h)⟩, by rintro x w7 ⟨rfl, rfl⟩; exact ⟨fun _ => ⟨rfl, c1⟩, fun h => (by cases h)⟩⟩⟩
    · exact absurd hbad hgood
  have h2 := h2.base c1
  refine ⟨_, _, rfl, (rnew_spec s w2).mono ?_⟩
  rintro e w3 (⟨hbad, _⟩ | ⟨_, gr, rfl, h3⟩)
  · exact absurd hbad hgood
  have t3 := Two.both h2 h3
  refine ⟨_, _, rfl, fun x w' => x = false ∧ w' = w3, (num_spec none _ (by decide)).mono ?_, ?_⟩
  · rintro e w4 ⟨rfl, rfl⟩
    exact ⟨_, rfl, fun h => (by cases h), fun _ => ⟨_, eqPtr .eql (.inl rfl) dkT _ _ _ _, rfl, rfl⟩⟩
  rintro x w5 ⟨rfl, rfl⟩
  refine ⟨fun h => (by cases h), fun _ => ⟨fun x w' => x = longF 0 l ∧ Chg [] w5 w', ⟨fun h => (by cases h), fun _ => (long_spec a n c l w5 (hr.keep0 t3.chg) hb).mono ?_⟩, ?_⟩⟩
  · rintro e w6 ⟨rfl, c6⟩
    exact ⟨_, rfl, rfl, c6⟩
  rintro x w7 ⟨rfl, c7⟩
  have t7 := t3.same c7
  refine ⟨fun _ => ⟨rfl, t7.chg⟩, fun hlong => ?_⟩
  obtain ⟨hs1, _, hs3⟩ := longF_small l 0 hlong
  refine ⟨fun x w' => ∃ (i : Nat) (m : DiskM), x = (i : Int) ∧ i ≤ n ∧ m.steps ≤ i ∧ m.chs.length ≤ i ∧ m.files.length ≤ i ∧ Two w [] w' gd gr m m [], fun x _ => n - x.toNat, ⟨0, newM s, rfl, by omega, Nat.le_refl _, Nat.le_refl _, Nat.le_refl _, t7⟩, ?_⟩
  rintro x w8 ⟨i, m, rfl, hi, hst, hch, hfl, t8⟩
  refine ⟨fun hlt => ?_, fun _ => ⟨rfl, t8.chg⟩⟩
  have hi' : i < n := by simp at hlt; omega
  have ho : l[i]? = some l[i] := List.getElem?_eq_getElem (by omega)
  obtain ⟨o, hod⟩ : ∃ o, l[i] = o := ⟨_, rfl⟩
  rw [hod] at ho
  have hom := List.mem_of_getElem? ho
  have hop := hr.ops o hom
  obtain ⟨b, k, g, w9, w10, ha, hld, r9, r10, k10⟩ := (hr.keep0 t8.chg).copy (St.start w8) ho
  have t10 := t8.addSt k10
  obtain ⟨b1, b2, b3⟩ := stepMM_small m o
  have hg : ∀ {w' m1 m2}, Two w [] w' gd gr m1 m2 ([] ++ ([] ++ [.arr g 57 (opD o)])) → St w [] w' [.arr g 57 (opD o)] := fun h => h.rest
  refine ⟨b, k, ha, by omega, by omega, _, hld, g, w9, r9, w10, r10, fun x w' => x = false ∧ Two w [] w' gd gr (stepMM m o) (stepMM m o) [], ⟨_, (hg t10).ldA (i := 0) (l := opD o) rfl (opDA _) (opDS _) (opD_len _), (both_spec o hop (hs3 o hom) t10 (by omega) (by omega) (by omega)).mono ?_⟩, ?_⟩
  · rintro e w11 ⟨rfl, t11⟩
    refine ⟨_, rfl, fun h => (by cases h), fun _ => (same_spec t11).mono ?_⟩
    rintro e w12 ⟨rfl, c12⟩
    exact ⟨_, rfl, rfl, (t11.same c12).subN (List.nil_sublist _)⟩
  rintro x w13 ⟨rfl, t13⟩
  exact ⟨fun h => (by cases h), fun _ => ⟨⟨i + 1, _, wrap_succ hi' hb, by omega, by omega, by omega, by omega, t13⟩, mu_succ hi' hb⟩⟩

end Go.Proofs.Ytoijbpkplegnkaa
