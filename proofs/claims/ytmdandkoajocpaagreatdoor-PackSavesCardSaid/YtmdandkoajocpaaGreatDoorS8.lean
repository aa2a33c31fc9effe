/- The proof of PackSavesCardSaid, part 8: what it rests on (conditions: those that each theorem names). -/
import Derived.Test.YtmdandkoajocpaaGreatDoorS7
section
namespace Go.Proofs.YtmdandkoajocpaaGreatDoor
open Go Sx
set_option maxRecDepth 8000

theorem stepsM_small (m : DiskM) (f : DiskM → DiskM) (a b : Nat) (hf : ∀ m, (f m).steps = m.steps ∧ (f m).chs.length ≤ m.chs.length + a ∧ (f m).files.length ≤ m.files.length + b) :
   (stepsM m f).1.steps ≤ m.steps + 1 ∧ (stepsM m f).1.chs.length ≤ m.chs.length + a ∧ (stepsM m f).1.files.length ≤ m.files.length + b := by
 obtain ⟨e1, _, e3, _⟩ := stepM_same m
 have hc := (stepM_count m).1
 unfold stepsM
 split
 · exact ⟨hc, by show (stepM m).1.chs.length ≤ _; rw [e3]; omega, by show (stepM m).1.files.length ≤ _; rw [e1]; omega⟩
 · obtain ⟨h1, h2, h3⟩ := hf (stepM m).1
   rw [e3] at h2
   rw [e1] at h3
   exact ⟨by show (f (stepM m).1).steps ≤ _; rw [h1]; exact hc, h2, h3⟩
theorem create_small (m : DiskM) (n : Nm) : (createM m n).1.steps ≤ m.steps + 1 ∧ (createM m n).1.chs.length ≤ m.chs.length + 1 ∧ (createM m n).1.files.length ≤ m.files.length + 1 := by
 unfold createM
 split
 · exact ⟨Nat.le_succ _, Nat.le_succ _, Nat.le_succ _⟩
 · split
   · exact ⟨Nat.le_succ _, Nat.le_succ _, Nat.le_succ _⟩
   · split
     · exact ⟨Nat.le_succ _, Nat.le_succ _, Nat.le_succ _⟩
     · exact stepsM_small m _ 1 1 fun m => by simp [createF, doCh]
theorem append_small (m : DiskM) (n : Nm) (ps : List (List UInt8)) : (appendM m n ps).1.steps ≤ m.steps + 1 ∧ (appendM m n ps).1.chs.length ≤ m.chs.length ∧ (appendM m n ps).1.files.length ≤ m.files.length := by
 unfold appendM
 split
 · exact ⟨Nat.le_succ _, Nat.le_refl _, Nat.le_refl _⟩
 · split
   · exact stepsM_small m _ 0 0 fun m => by simp [appendF, setF]
   · exact ⟨Nat.le_succ _, Nat.le_refl _, Nat.le_refl _⟩
theorem sync_small (m : DiskM) (n : Nm) : (syncM m n).1.steps ≤ m.steps + 1 ∧ (syncM m n).1.chs.length ≤ m.chs.length ∧ (syncM m n).1.files.length ≤ m.files.length := by
 unfold syncM
 split
 · exact ⟨Nat.le_succ _, Nat.le_refl _, Nat.le_refl _⟩
 · exact stepsM_small m _ 0 0 fun m => by simp [syncF, setF]
theorem tail_small : ∀ (ps : List (List UInt8)) (m : DiskM) (n : Nm), (tailM m n ps).1.steps ≤ m.steps + ps.length + 1 ∧ (tailM m n ps).1.chs.length ≤ m.chs.length ∧ (tailM m n ps).1.files.length ≤ m.files.length
 | [], m, n => by rw [tail_nil]; have := sync_small m n; simpa using this
 | p :: ps, m, n => by
   have h1 := append_small m n [p]
   rw [tail_cons]
   split
   · exact ⟨by simp; omega, h1.2.1, h1.2.2⟩
   · have h2 := tail_small ps (appendM m n [p]).1 n
     exact ⟨by simp; omega, by omega, by omega⟩
theorem save_small (m : DiskM) (n : Nm) (ps : List (List UInt8)) : (saveM m n ps).1.steps ≤ m.steps + ps.length + 2 ∧ (saveM m n ps).1.chs.length ≤ m.chs.length + 1 ∧ (saveM m n ps).1.files.length ≤ m.files.length + 1 := by
 have h1 := create_small m n
 rw [save_tail]
 split
 · exact ⟨by show (createM m n).1.steps ≤ _; omega, h1.2.1, h1.2.2⟩
 · have h2 := tail_small ps (createM m n).1 n
   exact ⟨by omega, by omega, by omega⟩

def svA (K : List UInt8) (num : Int) (xs : List Itm) (m : DiskM) : DiskM × Option Int := if goodP num then saveM m (nameP num) (piecesP K num xs) else (m, some 28)
theorem svA_ne0 (K : List UInt8) (num : Int) (xs : List Itm) (m : DiskM) : (svA K num xs m).2 ≠ some 0 := by
 unfold svA
 split
 · exact save_ne0 _ _ _
 · simp
theorem svA_small (K : List UInt8) (num : Int) (xs : List Itm) (m : DiskM) : (svA K num xs m).1.steps ≤ m.steps + xs.length + 4 ∧ (svA K num xs m).1.chs.length ≤ m.chs.length + 1 ∧ (svA K num xs m).1.files.length ≤ m.files.length + 1 := by
 unfold svA
 split
 · have := save_small m (nameP num) (piecesP K num xs)
   rw [pieces_len] at this
   exact ⟨by omega, this.2.1, this.2.2⟩
 · exact ⟨by show m.steps ≤ _; omega, Nat.le_succ _, Nat.le_succ _⟩

section
variable {w0 w w' : World} {X : List Nat} {N N' T T' : List Res} {gd gr : Nat} {ps : List Nat} {m : DiskM}

theorem pksaveA_spec (K : List UInt8) (hk : K.length = 96) (num : Int) (a : Option Addr) (n c : Nat) (l : List ItD) (h : DiskIn w0 [] w gd ps m N) (hK : KTab w) (hT : PTab w) (hr : ItR w a n c l) (hs : SmallI (l.map ItD.t)) (hb : m.steps ≤ 1000000) (hc : m.chs.length < 1000000000) :
   Calls Tryz.prog 23 #[.pointer (some ⟨gd, 0, none⟩), .agg (bv K).toArray, .int .i64 num, .slice a n c] w fun e w' => ∃ ra rc, e = .returned (.tuple #[.slice ra (svRf (svA K num (l.map ItD.t) m).2 (refsP num 16 (l.map ItD.t))).length rc, .agg (svPf (svA K num (l.map ItD.t) m).2 num (buildP K num (l.map ItD.t)).length l.length).toArray, errV (svA K num (l.map ItD.t) m).2]) ∧ ∃ ps', DiskIn w0 [] w' gd ps' (svA K num (l.map ItD.t) m).1 (N ++ [rowRf ra rc (svRf (svA K num (l.map ItD.t) m).2 (refsP num 16 (l.map ItD.t)))]) := by
 cases hg : goodP num with
 | true =>
   have e : svA K num (l.map ItD.t) m = saveM m (nameP num) (piecesP K num (l.map ItD.t)) := by unfold svA; rw [if_pos hg]
   rw [e]
   exact pksave2_spec K hk num a n c l h hK hT hg hr hs hb hc
 | false =>
   have e : svA K num (l.map ItD.t) m = (m, some 28) := by unfold svA; rw [if_neg (by rw [hg]; simp)]
   rw [e]
   obtain ⟨mI, hI⟩ := eI
   apply pack_Save_vc
   obtain ⟨g5, w1, r1, k1⟩ := (St.start w).boxA (P := Tryz.prog) 28 (bv K)
   obtain ⟨g9, w2, r2, k2⟩ := k1.zeroA pkZ
   have k2 : St w [] w2 [.arr g5 28 (bv K), .arr g9 63 (pk3 0 0 0)] := k2
   refine ⟨g5, w1, r1, g9, w2, r2, _, k2.ldA (i := 0) (l := bv K) rfl (kyA' _) (kyS' _) (by simp [hk]), (made_bad K num a n c w2 hg).mono ?_⟩
   rintro e w3 ⟨rfl, c3⟩
   have h3 := h.addSt ((k2.sub (N := [.arr g9 63 (pk3 0 0 0)]) (List.sublist_cons_self _ _)).same c3)
   obtain ⟨w7, r7, l7, h7⟩ := pkRet h3 rfl 0 0 0
   exact ⟨_, _, rfl, _, neqS_nil hI (some 28) _ _, fun _ => ⟨_, pk_build0 w3, w7, r7, _, l7, none, 0, rfl, ps, h7.addSt ((St.start _).addNil 75 35)⟩, fun h => by cases h⟩

theorem rsaveA_spec (K : List UInt8) (hk : K.length = 96) (num : Int) (a : Option Addr) (n c : Nat) (l : List ItD) (h : RefIn w0 [] w gr m N) (hr : ItR w a n c l) (hs : SmallI (l.map ItD.t)) (hb : m.steps ≤ 1000000) (hc : m.chs.length < 1000000000) (hfl : m.files.length < 1000000000) :
   Calls Tryz.prog 30 #[.pointer (some ⟨gr, 0, none⟩), .agg (bv K).toArray, .int .i64 num, .slice a n c] w fun e w' => ∃ ra rc, e = .returned (.tuple #[.slice ra (svRf (svA K num (l.map ItD.t) m).2 (refsP num 16 (l.map ItD.t))).length rc, .agg (svPf (svA K num (l.map ItD.t) m).2 num (buildP K num (l.map ItD.t)).length l.length).toArray, .int .i64 ((svA K num (l.map ItD.t) m).2.getD 0)]) ∧
     RefIn w0 [] w' gr (svA K num (l.map ItD.t) m).1 (N ++ [rowRf ra rc (svRf (svA K num (l.map ItD.t) m).2 (refsP num 16 (l.map ItD.t)))]) := by
 cases hg : goodP num with
 | true =>
   have e : svA K num (l.map ItD.t) m = saveM m (nameP num) (piecesP K num (l.map ItD.t)) := by unfold svA; rw [if_pos hg]
   rw [e]
   exact rsave_spec K hk num a n c l h hg hr hs hb hc hfl
 | false =>
   have e : svA K num (l.map ItD.t) m = (m, some 28) := by unfold svA; rw [if_neg (by rw [hg]; simp)]
   rw [e]
   apply amphoraref13_Save_vc
   obtain ⟨g5, w1, r1, k1⟩ := (St.start w).boxA (P := Tryz.prog) 28 (bv K)
   obtain ⟨g9, w2, r2, k2⟩ := k1.zeroA pkZ
   have k2 : St w [] w2 [.arr g5 28 (bv K), .arr g9 63 (pk3 0 0 0)] := k2
   refine ⟨g5, w1, r1, g9, w2, r2, _, k2.ldA (i := 0) (l := bv K) rfl (kyA' _) (kyS' _) (by simp [hk]), (rbuild2_spec K hk num a n c l w2 (hr.keep0 k2.chg) hs).mono ?_⟩
   rintro e w3 ⟨ba, bc, ra, rc, rfl, k3⟩
   rw [hg]
   have h3 := h.addSt ((k2.sub (N := [.arr g9 63 (pk3 0 0 0)]) (List.sublist_cons_self _ _)).same k3.chg)
   obtain ⟨w7, r7, l7, h7⟩ := pkRetR h3 rfl 0 0 0
   exact ⟨_, _, _, _, _, _, _, rfl, fun _ => ⟨_, pk_build0 w3, w7, r7, _, l7, none, 0, rfl, h7.addSt ((St.start _).addNil 75 35)⟩, fun h => by simp at h⟩

end

theorem pk_fields : ((Tryz.prog.fieldsOf 63).toList.map fun f => (f.type, f.offset)) = [(3, 0), (3, 1), (3, 2)] := by kernel_rfl
theorem pk_names : ((Tryz.prog.fieldsOf 63).toList.all fun f => f.name != "_") = true := by kernel_rfl
theorem eqPk3 (x y : Operand) (a b c : Int) (w : World) : (eqlS .neq 63 x y (.agg (pk3 a b c).toArray) (.agg (pk3 a b c).toArray)).run Tryz.prog w = .ok (.bool false) w := by
 have hpn : ∀ (o : Nat) (v : Value), (pk3 a b c)[o]? = some v → (part 3 (pk3 a b c).toArray o).run Tryz.prog w = .ok v w := fun o v h => by simp [part, inA, h]
 have hint : ∀ a b : Int, (Op.equalIn 9999 3 (.int .i64 a) (.int .i64 b)).run Tryz.prog w = .ok (a == b) w := fun a b => by rw [run_equalIn_int w 9998 _ .i64 .i64 a b Tryz.underlying3]
 have key : ∀ fs : List Field, (fs.map fun f => (f.type, f.offset)) = [(3, 0), (3, 1), (3, 2)] → (fs.all fun f => f.name != "_") = true → (Op.eqFields 9999 (pk3 a b c).toArray (pk3 a b c).toArray fs).run Tryz.prog w = .ok ((a == a) && ((b == b) && ((c == c) && true))) w := by
   intro fs h1 h2
   rcases fs with _ | ⟨f0, _ | ⟨f1, _ | ⟨f2, _ | ⟨f3, fs⟩⟩⟩⟩
   case cons.cons.cons.nil =>
     simp only [List.map_cons, List.map_nil, List.cons.injEq, Prod.mk.injEq, and_true] at h1
     simp only [List.all_cons, List.all_nil, Bool.and_true, Bool.and_eq_true, bne_iff_ne] at h2
     obtain ⟨⟨a0, b0⟩, ⟨a1, b1⟩, a2, b2⟩ := h1
     obtain ⟨n0, n1, n2⟩ := h2
     exact eqFields_step n0 (by rw [a0, b0]; exact hpn 0 _ rfl) (by rw [a0, b0]; exact hpn 0 _ rfl) (by rw [a0]; exact hint _ _)
       (eqFields_step n1 (by rw [a1, b1]; exact hpn 1 _ rfl) (by rw [a1, b1]; exact hpn 1 _ rfl) (by rw [a1]; exact hint _ _)
       (eqFields_step n2 (by rw [a2, b2]; exact hpn 2 _ rfl) (by rw [a2, b2]; exact hpn 2 _ rfl) (by rw [a2]; exact hint _ _) (by simp [Op.eqFields])))
   all_goals simp at h1
 have := (eqS_struct (by kernel_rfl) (by kernel_rfl) (by kernel_rfl) x y (key _ pk_fields pk_names)).2
 simpa using this
theorem eqPkS (x y : Operand) (e : Option Int) (num : Int) (s k : Nat) (w : World) : (eqlS .neq 63 x y (.agg (svPf e num s k).toArray) (.agg (svPf e num s k).toArray)).run Tryz.prog w = .ok (.bool false) w := by
 cases e <;> exact eqPk3 _ _ _ _ _ _

structure SavedD where
 C : CaseD
 size : Int
 arm : Int
 bad : Int
def savedC (x : SavedD) : List Value := caseC x.C ++ [.int .i64 x.size, .int .i64 x.arm, .int .i64 x.bad]
structure SavedR (w : World) (x : SavedD) : Prop where
 c : CaseR w x.C
 size : OkI x.size
 arm : OkI x.arm
 bad : OkI x.bad
theorem savedC_len {x : SavedD} (h : x.C.ms.length = 32) : (savedC x).length = 38 := by simp [savedC, caseC_len h]

set_option maxHeartbeats 8000000 in
theorem packSaves_walk (x : SavedD) (w : World) (hK : KTab w) (hT : PTab w) (h : SavedR w x) :
   Calls Tryz.prog 6 #[.agg (savedC x).toArray] w fun e w' => e = .returned (.bool true) ∧ Chg [] w w' := by
 obtain ⟨mI, hI⟩ := eI
 have hm := h.c.lm
 have hcl := caseC_len hm
 obtain ⟨q1, q2, q3⟩ := caseC_at hm
 have hbn := h.c.bnum
 have harm := h.arm
 have hbad := h.bad
 unfold OkI at harm hbad
 apply amphoralaw13_PackSaves_vc
 obtain ⟨g1, w1, r1, k1⟩ := (St.start w).boxA (P := Tryz.prog) 78 (savedC x)
 obtain ⟨R0, hR0⟩ : ∃ R0, Res.arr g1 78 (savedC x) = R0 := ⟨_, rfl⟩
 have k1 : St w [] w1 [R0] := by rw [← hR0]; exact k1
 have ldC : ∀ {w' L}, St w [] w' (R0 :: L) → (Instr.loadAt 25 (.pointer (some ⟨g1, 0, none⟩))).run Tryz.prog w' = .ok (.agg (caseC x.C).toArray) w' := fun h => by
   rw [← hR0] at h
   have := h.ldPre (i := 0) (T := 25) (n := 35) rfl (caA _) (caS _) (by rw [savedC_len hm]; decide)
   rw [savedC, List.take_left' hcl] at this
   exact this
 have ldM : ∀ {w' L}, St w [] w' (R0 :: L) → (Instr.loadAt 22 (.pointer (some ⟨g1, 0, none⟩))).run Tryz.prog w' = .ok (.agg (bv x.C.ms).toArray) w' := fun h => by
   rw [← hR0] at h
   have := h.ldPre (i := 0) (T := 22) (n := 32) rfl (Tryz.isAgg22 _) (Tryz.sizeOf22 _) (by rw [savedC_len hm]; decide)
   rw [savedC, caseC, List.append_assoc, List.take_left' (by simp [hm])] at this
   exact this
 have ldN : ∀ {w' L}, St w [] w' (R0 :: L) → (Instr.loadAt 3 (.pointer (some ⟨g1, 32, none⟩))).run Tryz.prog w' = .ok (.int .i64 x.C.num) w' := fun h => by
   rw [← hR0] at h
   exact h.ldL (i := 0) (o := 32) rfl (inA _) rfl (by rw [savedC, List.getElem?_append_left (by rw [hcl]; decide)]; exact q1)
 have ldI : ∀ {w' L} (o : Nat) (z : Int), ([x.size, x.arm, x.bad])[o]? = some z → St w [] w' (R0 :: L) → (Instr.loadAt 3 (.pointer (some ⟨g1, 35 + o, none⟩))).run Tryz.prog w' = .ok (.int .i64 z) w' := fun o z hz h => by
   rw [← hR0] at h
   refine h.ldL (i := 0) (o := 35 + o) rfl (inA _) rfl ?_
   rw [savedC, List.getElem?_append_right (by rw [hcl]; omega), hcl, Nat.add_sub_cancel_left]
   have : [Value.int .i64 x.size, .int .i64 x.arm, .int .i64 x.bad] = [x.size, x.arm, x.bad].map (Value.int .i64) := rfl
   rw [this, List.getElem?_map, hz]; rfl
 refine ⟨g1, w1, r1, (alive13_spec w1 (hK.keep0 k1.chg)).mono ?_⟩
 rintro e w2 ⟨rfl, c2⟩
 have k2 := k1.same c2
 refine ⟨_, rfl, fun h => (by cases h), fun _ => ⟨_, ldC k2, (large13_spec x.C w2 (h.c.keep0 k2.chg)).mono ?_⟩⟩
 rintro e w3 ⟨rfl, c3⟩
 have k3 := k2.same c3
 refine ⟨_, rfl, fun _ => ⟨rfl, k3.chg⟩, fun hlg => ⟨_, ldI 0 x.size rfl k3, ?_⟩⟩
 obtain ⟨hs, hn100, htot⟩ := small_of_case h.c hlg
 refine (newDisk_spec x.size w3).mono ?_
 rintro e w4 (⟨hb, rfl, rfl⟩ | ⟨hgood, gd, rfl, h4⟩)
 · refine ⟨_, _, rfl, _, ldI 0 x.size rfl k3, (rnew_spec x.size w4).mono ?_⟩
   rintro e w5 (⟨_, rfl, rfl⟩ | ⟨hgood, _⟩)
   · refine ⟨_, _, rfl, fun b w' => b = true ∧ w' = w5, ⟨_, neqS_nil hI (some 7) _ _, fun _ => ⟨rfl, rfl⟩, fun h => (by cases h)⟩, ?_⟩
     rintro b w6 ⟨rfl, rfl⟩
     exact ⟨fun _ => ⟨fun _ => ⟨_, neqS_nil hI (some 7) _ _, rfl, k3.chg⟩, fun h => by simp at h⟩, fun h => by cases h⟩
   · exact absurd hb hgood
 have h4 := DiskIn.under k3 h4
 refine ⟨_, _, rfl, _, ldI 0 x.size rfl h4.rest, (rnew_spec x.size w4).mono ?_⟩
 rintro e w5 (⟨hb, _⟩ | ⟨_, gr, rfl, h5⟩)
 · exact absurd hb hgood
 have t5 : Two w [] w5 gd gr (newM x.size) (newM x.size) [R0] := by
   obtain ⟨p, _, hp, hS⟩ := h4
   obtain ⟨q, hq, hS2⟩ := h5
   have h1 := Sx.St.callPart (N := []) (by rw [List.append_nil]; exact hS) hS2
   refine ⟨p, q, hp, hq, h1.perm ?_⟩
   have e1 : (resD gd (newM x.size) p ++ DR p.FL [R0]) ++ (resR gr (newM x.size) q ++ (q.FL.map FD.row ++ (q.P ++ []))) = dskRes gd (newM x.size) p ++ ([R0] ++ refRes gr (newM x.size) q) := by simp [dskRes, refRes, DR, List.append_assoc]
   rw [e1]
   exact List.Perm.append_left _ List.perm_append_comm
 refine ⟨_, _, rfl, fun b w' => b = false ∧ w' = w5, ⟨_, neqS_nil hI none _ _, fun h => (by cases h), fun _ => ⟨_, eqPtr .eql (.inl rfl) dkT _ _ _ _, rfl, rfl⟩⟩, ?_⟩
 rintro b w6 ⟨rfl, rfl⟩
 refine ⟨fun h => (by cases h), fun _ => ⟨_, ldI 1 x.arm rfl t5.rest, ?_⟩⟩
 let E : DiskM → Prop := fun m => m.steps = 0 ∧ m.chs = [] ∧ m.files = []
 refine ⟨fun w' => ∃ m, E m ∧ Two w [] w' gd gr m m [R0], ⟨fun hpos => ?_, fun _ => ⟨_, ⟨rfl, rfl, rfl⟩, t5⟩⟩, ?_⟩
 · have h0 : 0 ≤ x.arm := by simpa using hpos
   obtain ⟨p, hp, hR⟩ := t5.ref
   obtain ⟨w7, r7, hR7⟩ := hR.setArm x.arm h0 harm.2
   have t7 := Two.of_ref hp hR7
   refine ⟨_, ldI 1 x.arm rfl t5.rest, gr, 0, rfl, w7, r7, _, ldI 1 x.arm rfl t7.rest, ?_⟩
   obtain ⟨ps, q, hq, hD⟩ := t7.disk
   refine (arm_spec x.arm harm.2 hD).mono ?_
   rintro e w8 ⟨rfl, h8⟩
   have ha : armM (newM x.size) x.arm = ({ newM x.size with arm := some x.arm.toNat }, none) := by
     unfold armM; rw [if_neg (by omega)]
   rw [ha] at h8 ⊢
   exact ⟨_, rfl, _, ⟨rfl, rfl, rfl⟩, Two.of_disk hq h8⟩
 rintro w9 ⟨m9, hE9, t9⟩
 refine ⟨_, ldI 2 x.bad rfl t9.rest, ?_⟩
 refine ⟨fun w' => ∃ m, E m ∧ Two w [] w' gd gr m m [R0], ⟨fun hpos => ?_, fun _ => ⟨_, hE9, t9⟩⟩, ?_⟩
 · have h0 : 0 ≤ x.bad := by simpa using hpos
   have hnv : niv [x.bad.toNat, 3] = [.int .i64 x.bad, .int .i64 3] := by simp [niv, Int.toNat_of_nonneg h0]
   obtain ⟨ga, w10, r10, k10⟩ := (St.start w9).lit intT [.int .i64 x.bad, .int .i64 3] (by simp [Value.oneCell']) (by simp)
   have k10 : St w9 [] w10 [.row 3 1 (.slice (some ⟨ga, 0, none⟩) ([x.bad.toNat, 3] : List Nat).length 2) ([x.bad.toNat, 3] : List Nat).length (niv [x.bad.toNat, 3])] := by rw [hnv]; exact k10
   obtain ⟨w11, r11, t11⟩ := (t9.addSt k10).setFail (fun y hy => by
     rcases List.mem_cons.1 hy with rfl | hy
     · omega
     · rw [List.mem_singleton] at hy; omega) (by simp)
   obtain ⟨gb, w12, r12, k12⟩ := (St.start w11).lit intT [.int .i64 x.bad, .int .i64 3] (by simp [Value.oneCell']) (by simp)
   have t12 := t11.same k12.chg
   obtain ⟨ps, q, hq, hD⟩ := t12.disk
   refine ⟨_, ldI 2 x.bad rfl t9.rest, _, _, _, w10, r10, gr, 0, rfl, w11, r11, _, ldI 2 x.bad rfl t11.rest, _, _, _, w12, r12, (dfail_spec (some ⟨gb, 0, none⟩) 2 2 [x.bad, 3] (k12.rd (i := 0) rfl) (fun y hy => by
     rcases List.mem_cons.1 hy with rfl | hy
     · exact hbad.2
     · rw [List.mem_singleton] at hy; omega) (by omega) hD).mono ?_⟩
   rintro e w13 ⟨rfl, h13⟩
   have hf : failM m9 [x.bad, 3] = ({ m9 with fails := [x.bad.toNat, 3] }, none) := by
     unfold failM; rw [if_neg (by simp; omega)]; rfl
   rw [hf] at h13 ⊢
   exact ⟨_, rfl, { m9 with fails := [x.bad.toNat, 3] }, hE9, Two.of_disk hq h13⟩
 rintro w14 ⟨m0, hE0, t14⟩
 obtain ⟨hE1, hE2, hE3⟩ := hE0
 refine ⟨_, ldM t14.rest, (rfromMaster_spec x.C.ms w14 hm).mono ?_⟩
 rintro e w15 ⟨rfl, c15⟩
 obtain ⟨K, hKK⟩ : ∃ K, masterF x.C.ms = K := ⟨_, rfl⟩
 have hk : K.length = 96 := by rw [← hKK]; simp
 rw [hKK]
 have t15 := t14.same c15
 obtain ⟨g7, w16, r16, k16⟩ := (St.start w15).zeroA kyZ
 obtain ⟨w17, r17, k17⟩ := k16.stA (i := 0) (v := bv K) rfl (kyS _) (by simp) (by simp [hk]) (bv_one _)
 have k17 : St w15 [] w17 [.arr g7 28 (bv K)] := k17
 have t17 : Two w [] w17 gd gr m0 m0 [R0, .arr g7 28 (bv K)] := t15.addSt k17
 have ldK : ∀ {w' L}, St w [] w' (R0 :: .arr g7 28 (bv K) :: L) → (Instr.loadAt 28 (.pointer (some ⟨g7, 0, none⟩))).run Tryz.prog w' = .ok (.agg (bv K).toArray) w' := fun h => h.ldA (i := 1) (l := bv K) rfl (kyA _) (kyS _) (by simp [hk])
 refine ⟨_, rfl, g7, w16, r16, w17, r17, _, ldC t17.rest, (items_spec x.C w17 (h.c.keep0 t17.chg) hn100 htot).mono ?_⟩
 rintro e w18 ⟨oa, oc, ma, mc, O, G, rfl, hIt⟩
 have hOt : O.map ItD.t = itemsT x.C := by rw [hIt.ot, List.take_of_length_le (by rw [itemsT_len]; omega)]
 have hMt : (G.map MD.it).map ItD.t = itemsT x.C := by rw [List.map_map]; have := hIt.mt; rw [List.take_of_length_le (by rw [itemsT_len]; omega)] at this; exact this
 obtain ⟨It, hItE⟩ : ∃ It, (.row 46 33 (.slice oa x.C.bn oc) x.C.bn (O.flatMap itC) :: .row 46 33 (.slice ma x.C.bn mc) x.C.bn (G.flatMap fun m => itC m.it) :: G.map MD.res : List Res) = It := ⟨_, rfl⟩
 have kIt : St w17 [] w18 It := by rw [← hItE]; exact hIt.st
 have t18 : Two w [] w18 gd gr m0 m0 ([R0, .arr g7 28 (bv K)] ++ It) := t17.addSt kIt
 obtain ⟨N, hN⟩ : ∃ N, [R0, .arr g7 28 (bv K)] ++ It = N := ⟨_, rfl⟩
 rw [hN] at t18
 have hOl : O.length = x.C.bn := by have := congrArg List.length hOt; rw [List.length_map, itemsT_len] at this; omega
 have hGl : G.length = x.C.bn := by have := congrArg List.length hMt; rw [List.length_map, List.length_map, itemsT_len] at this; omega
 have hO : ∀ {w' m1 m2}, Two w [] w' gd gr m1 m2 N → ItR w' oa x.C.bn oc O := fun h2 => by
   have h1 := h2.rest
   rw [← hN, ← hItE] at h1
   refine ⟨⟨h1.rd (i := 2) rfl, fun x _ => itC_len x⟩, fun y hy => ?_⟩
   obtain ⟨i, hi⟩ := List.getElem?_of_mem hy
   have hil : i < O.length := (List.getElem?_eq_some_iff.1 hi).1
   obtain ⟨a2, n2, c2, e1, e2⟩ := (h.c.b2.keep0 h2.chg).rd i (by omega)
   have e3 : (x.C.bvs.take x.C.bn)[i]? = some (Value.slice y.a y.n y.c) := by rw [← hIt.os, List.getElem?_map, hi]; rfl
   rw [List.getElem?_take, if_pos (by omega), e1] at e3
   simp only [Option.some.injEq, Value.slice.injEq] at e3
   obtain ⟨rfl, rfl, rfl⟩ := e3
   have e4 : y.t = itemT x.C i := by
     have e5 := congrArg (fun l => l[i]?) hOt
     simp only [List.getElem?_map, hi, Option.map_some, itemsT, List.getElem?_range (show i < x.C.bls.length by omega)] at e5
     exact Option.some.inj e5
   have e5 : y.blob = x.C.bls.getD i [] := congrArg Prod.snd e4
   rw [e5]; exact e2
 have hM : ∀ {w' m1 m2}, Two w [] w' gd gr m1 m2 N → ItR w' ma x.C.bn mc (G.map MD.it) := fun h2 => by
   have h1 := h2.rest
   rw [← hN, ← hItE] at h1
   refine ⟨⟨?_, fun x _ => itC_len x⟩, fun y hy => ?_⟩
   · have := h1.rd (i := 3) (e := 46) rfl
     rw [List.flatMap_map]; exact this
   · obtain ⟨m, hmm, rfl⟩ := List.mem_map.1 hy
     obtain ⟨i, hi⟩ := List.getElem?_of_mem hmm
     exact (MD.mark (hIt.mo m hmm) (h1.holds (i + 4) m.res (by
       show (G.map MD.res)[i]? = _
       rw [List.getElem?_map, hi]; rfl))).rd
 have hsO : SmallI (O.map ItD.t) := by rw [hOt]; exact hs
 have hsM : SmallI ((G.map MD.it).map ItD.t) := by rw [hMt]; exact hs
 have hil : (itemsT x.C).length ≤ 100 := by rw [itemsT_len]; omega
 have ldKT : ∀ {w' m1 m2}, Two w [] w' gd gr m1 m2 N → (Instr.loadAt 28 (.pointer (some ⟨g7, 0, none⟩))).run Tryz.prog w' = .ok (.agg (bv K).toArray) w' := fun h => ldK (L := It) (by have := h.rest; rw [← hN] at this; exact this)
 have ldNT : ∀ {w' m1 m2}, Two w [] w' gd gr m1 m2 N → (Instr.loadAt 3 (.pointer (some ⟨g1, 32, none⟩))).run Tryz.prog w' = .ok (.int .i64 x.C.num) w' := fun h => ldN (L := .arr g7 28 (bv K) :: It) (by have := h.rest; rw [← hN] at this; exact this)
 refine ⟨_, _, _, _, _, _, rfl, fun y w' => ∃ (i : Nat) (m : DiskM), y = (i : Int) ∧ i ≤ 2 ∧ m.steps ≤ 200 * i ∧ m.chs.length ≤ i ∧ m.files.length ≤ i ∧ Two w [] w' gd gr m m N, fun y _ => 2 - y.toNat, ⟨0, m0, rfl, by omega, by omega, by rw [hE2]; simp, by rw [hE3]; simp, t18⟩, ?_⟩
 rintro y w19 ⟨i, m, rfl, hi, hst, hch, hfl, t19⟩
 refine ⟨fun hlt => ?_, fun _ => ?_⟩
 · have hi' : i < 2 := by simp at hlt; omega
   obtain ⟨ps, q, hq, hD⟩ := t19.disk
   refine ⟨_, ldKT t19, _, ldNT t19, (pksaveA_spec K hk x.C.num ma x.C.bn mc (G.map MD.it) hD (hK.keep0 t19.chg) (hT.keep0 t19.chg) (hM t19) hsM (by omega) (by omega)).mono ?_⟩
   rintro e w20 ⟨ra, rc, rfl, ps20, h20⟩
   rw [hMt] at h20 ⊢
   have hne := svA_ne0 K x.C.num (itemsT x.C) m
   have hsm := svA_small K x.C.num (itemsT x.C) m
   have rspec := fun {w' : World} {N' : List Res} (hR : RefIn w [] w' gr m N') (ho : ItR w' oa x.C.bn oc O) => rsaveA_spec K hk x.C.num oa x.C.bn oc O hR ho hsO (by omega) (by omega) (by omega)
   rw [hOt, hOl] at rspec
   rw [List.length_map, hGl]
   obtain ⟨sv, hsv⟩ : ∃ sv, svA K x.C.num (itemsT x.C) m = sv := ⟨_, rfl⟩
   rw [hsv] at h20 hne hsm rspec ⊢
   obtain ⟨rs, hrs⟩ : ∃ rs, svRf sv.2 (refsP x.C.num 16 (itemsT x.C)) = rs := ⟨_, rfl⟩
   rw [hrs] at h20 rspec ⊢
   obtain ⟨pf, hpf⟩ : ∃ pf, svPf sv.2 x.C.num (buildP K x.C.num (itemsT x.C)).length x.C.bn = pf := ⟨_, rfl⟩
   have hpl : pf.length = 3 := by rw [← hpf]; exact svPf_len _ _ _ _
   have hp1 : ∀ u ∈ pf, u.oneCell' = true := by
     rw [← hpf]
     cases sv.2 <;> exact pk3_one _ _ _
   have heq : ∀ (a b : Operand) (w' : World), (eqlS .neq 63 a b (.agg pf.toArray) (.agg pf.toArray)).run Tryz.prog w' = .ok (.bool false) w' := fun a b w' => by rw [← hpf]; exact eqPkS _ _ _ _ _ _ _
   rw [hpf] at rspec ⊢
   have hrl : rs.length ≤ 100 := by
     rw [← hrs]
     cases sv.2 with
     | none => show (refsP x.C.num 16 (itemsT x.C)).length ≤ _; rw [refsP_len]; exact hil
     | some _ => simp [svRf]
   have t20 : Two w [] w20 gd gr sv.1 m (N ++ [rowRf ra rc rs]) := Two.of_disk hq (by rw [← List.append_assoc]; exact h20)
   obtain ⟨g12, w21, r21, k21⟩ := (St.start w20).zeroA pkZ
   obtain ⟨w22, r22, k22⟩ := k21.stA (i := 0) (v := pf) rfl (pkS _) rfl hpl hp1
   have k22 : St w20 [] w22 [.arr g12 63 pf] := k22
   have t22 := t20.addSt k22
   have n22 := t22.subN (N' := N) ((List.sublist_append_left _ _).trans (List.sublist_append_left _ _))
   obtain ⟨p, hp, hR⟩ := t22.ref
   refine ⟨_, _, _, _, _, rfl, g12, w21, r21, w22, r22, _, ldKT n22, _, ldNT n22, (rspec hR (hO n22)).mono ?_⟩
   rintro e w23 ⟨sa, sc, rfl, h23⟩
   have t23 : Two w [] w23 gd gr sv.1 sv.1 ((N ++ [rowRf ra rc rs] ++ [.arr g12 63 pf]) ++ [rowRf sa sc rs]) := Two.of_ref hp (by rw [← List.append_assoc]; exact h23)
   obtain ⟨g15, w24, r24, k24⟩ := (St.start w23).zeroA pkZ
   obtain ⟨w25, r25, k25⟩ := k24.stA (i := 0) (v := pf) rfl (pkS _) rfl hpl hp1
   have k25 : St w23 [] w25 [.arr g15 63 pf] := k25
   have t25 := t23.addSt k25
   have t25 : Two w [] w25 gd gr sv.1 sv.1 (N ++ [rowRf ra rc rs, .arr g12 63 pf, rowRf sa sc rs, .arr g15 63 pf]) := by simpa [List.append_assoc] using t25
   obtain ⟨Z, hZ⟩ : ∃ Z, [rowRf ra rc rs, .arr g12 63 pf, rowRf sa sc rs, .arr g15 63 pf] = Z := ⟨_, rfl⟩
   rw [hZ] at t25
   let S : World → Prop := fun w' => Two w [] w' gd gr sv.1 sv.1 (N ++ Z)
   have mid : ∀ {w'}, S w' → St w [] w' [rowRf ra rc rs, .arr g12 63 pf, rowRf sa sc rs, .arr g15 63 pf] := fun hw => by
     rw [hZ]; exact (Two.rest hw).sub (List.sublist_append_right _ _)
   have d25 : S w25.drew := t25.same (Chg.drew _ _)
   refine ⟨_, _, _, _, _, rfl, g15, w24, r24, w25, r25, fun b w' => b = false ∧ S w', ⟨S, d25, (same13 ra rs.length rc sa rs.length sc rs w25.drew (rdRefs (mid d25) (i := 0) rfl) (rdRefs (mid d25) (i := 2) rfl) (by omega)).mono ?_⟩, ?_⟩
   · rintro e w26 ⟨rfl, c26⟩
     have d26 : S w26 := d25.same c26
     refine ⟨_, rfl, S, fun _ h => h, d26, fun h => (by cases h), fun _ => ⟨_, fun w' hw => (mid hw).ldA (i := 1) (l := pf) rfl (pkA _) (pkS _) hpl, _, fun w' hw => (mid hw).ldA (i := 3) (l := pf) rfl (pkA _) (pkS _) hpl, _, fun w' _ => heq _ _ w', fun h => (by cases h), fun _ => (num_spec sv.2 w26 hne).mono ?_⟩⟩
     rintro e w27 ⟨rfl, rfl⟩
     obtain ⟨ps7, q7, hq7, hD7⟩ := Two.disk d26
     refine ⟨_, rfl, S, fun _ h => h, d26, fun h => (by simp at h), fun _ => (filesD_spec hD7).mono ?_⟩
     rintro e w28 ⟨a1, c1, L1, rfl, hL1, k28⟩
     have d28 : S w28 := d26.same k28.chg
     obtain ⟨p8, hp8, hR8⟩ := Two.ref d28
     refine ⟨_, _, _, rfl, S, fun _ h => h, d28, (rall_spec hR8).mono ?_⟩
     rintro e w29 ⟨a2, c2, L2, rfl, hL2, k29⟩
     have d29 : S w29 := d28.same k29.chg
     have hFl := filesM_len d26.wf.1
     have hl1 : L1.length ≤ 4096 := by have := congrArg List.length hL1; simp only [List.length_map] at this; omega
     refine ⟨_, _, _, rfl, S, fun _ h => h, d29, (filesEq_spec a1 c1 L1 a2 c2 L2 w29 ((filesR_of k28).keep0 k29.chg) (filesR_of k29) (by rw [hL1, hL2]) (by omega)).mono ?_⟩
     rintro e w30 ⟨rfl, c30⟩
     have d30 : S w30 := d29.same c30
     obtain ⟨ps9, q9, hq9, hD9⟩ := Two.disk d30
     refine ⟨_, rfl, S, fun _ h => h, d30, fun h => (by cases h), fun _ => ⟨gr, 0, rfl, ((sv.1.steps : Nat) : Int), fun w' hw => ?_, (steps_spec hD9).mono ?_⟩⟩
     · obtain ⟨p', _, q', _, hS⟩ := Two.ref hw
       rw [Nat.zero_add]
       exact RefIn.cell hS (i := 5) (intA _) rfl
     · rintro e w31 ⟨rfl, rfl⟩
       exact ⟨_, rfl, S, fun _ h => h, d30, by simp, d30⟩
   · rintro b w32 ⟨rfl, d32⟩
     exact ⟨fun h => (by cases h), fun _ => ⟨⟨i + 1, sv.1, wrap_succ (n := 2) hi' (by omega), by omega, by omega, by omega, by omega, d32.subN (List.sublist_append_left _ _)⟩, mu_succ hi' (by omega)⟩⟩
 · obtain ⟨ps, q, hq, hD⟩ := t19.disk
   refine ⟨_, surv1_build 1 w19, (crash_spec 1 none 0 0 [] hD (fun _ _ => ⟨Cells.nil _ _, rfl, Nat.le_refl _, fun _ => rfl⟩) (by omega)).mono ?_⟩
   rintro e w20 ⟨rfl, h20⟩
   have t20 := Two.of_disk hq h20
   obtain ⟨p, hp, hR⟩ := t20.ref
   refine ⟨rfl, _, surv1_build 1 w20, (rcrash_spec 1 none 0 0 [] hR (fun _ _ => ⟨Cells.nil _ _, rfl, Nat.le_refl _, fun _ => rfl⟩) (by omega)).mono ?_⟩
   rintro e w21 ⟨rfl, h21⟩
   have t21 := Two.of_ref hp h21
   obtain ⟨ps7, q7, hq7, hD7⟩ := t21.disk
   refine ⟨rfl, (filesD_spec hD7).mono ?_⟩
   rintro e w28 ⟨a1, c1, L1, rfl, hL1, k28⟩
   have t28 := t21.same k28.chg
   obtain ⟨p8, hp8, hR8⟩ := t28.ref
   refine ⟨_, _, _, rfl, (rall_spec hR8).mono ?_⟩
   rintro e w29 ⟨a2, c2, L2, rfl, hL2, k29⟩
   have t29 := t28.same k29.chg
   have hFl := filesM_len t21.wf.1
   have hl1 : L1.length ≤ 4096 := by have := congrArg List.length hL1; simp only [List.length_map] at this; omega
   refine ⟨_, _, _, rfl, (filesEq_spec a1 c1 L1 a2 c2 L2 w29 ((filesR_of k28).keep0 k29.chg) (filesR_of k29) (by rw [hL1, hL2]) (by omega)).mono ?_⟩
   rintro e w30 ⟨rfl, c30⟩
   exact ⟨_, rfl, rfl, (t29.same c30).chg⟩

end Go.Proofs.YtmdandkoajocpaaGreatDoor
end

section
namespace Go.Proofs.YtmdandkoajocpaaGreatDoor
open Go Sx Go.ChangeShapes Go.WideShapes Go.RowKit
set_option maxRecDepth 8000

theorem kcut13 {α : Type} (l : List α) (i a : Nat) : (l.drop i).take a ++ l.drop (i + a) = l.drop i := by
 have := List.take_append_drop a (l.drop i); rwa [List.drop_drop] at this

theorem trodBB {H : Type} {enc : TypeId × Value → H} {W : World} {m : Nat} {cs0 : List Value} {x : DataW H × List MemPlace} (h : DataW.trod enc Tryz.prog W 0 (fun _ => true) true m 23 cs0 = some x) :
   ∃ a n c vs ls, cs0 = [.slice a n c] ∧ Rd W a n c 1 vs ∧ Row2 W vs ls := by
 obtain ⟨a, n, c, cs, m, hcs, hrd, hel⟩ := trodRows Tryz.underlying23 (show Tryz.prog.cellsOf 33 = 1 by kernel_rfl) (by decide) h
 have hlen : cs.length = n := by have := hrd.len; omega
 have each : ∀ i, i < n → ∃ l : List UInt8, ∃ a k c, cs[i]? = some (.slice a k c) ∧ RdB W a k c l := by
   intro i hi
   obtain ⟨y, hy⟩ := hel i hi
   obtain ⟨a, k, c, l, e, hr, _⟩ := trodB hy
   refine ⟨l, a, k, c, ?_, hr⟩
   rw [Nat.one_mul] at e
   have := congrArg (fun l => l[0]?) e
   simpa [List.getElem?_take, List.getElem?_drop] using this
 refine ⟨a, n, c, cs, (List.range n).map fun i => if hi : i < n then (each i hi).choose else [], hcs, hrd, by simp [hlen], fun i hi => ?_⟩
 have hi' : i < n := by simpa using hi
 obtain ⟨a', k, c', h1, h2⟩ := (each i hi').choose_spec
 refine ⟨a', k, c', h1, ?_⟩
 have : ((List.range n).map fun i => if hi : i < n then (each i hi).choose else []).getD i [] = (each i hi').choose := by
   simp [List.getD, hi']
 rw [this]; exact h2

theorem trodCase13 {H : Type} {enc : TypeId × Value → H} {W : World} {fuel : Nat} {cs : List Value} {x : DataW H × List MemPlace} (hf : DataW.trod enc Tryz.prog W 0 (fun _ => true) true fuel 25 cs = some x) :
   ∃ (C : CaseD), cs = caseC C ∧ CaseR W C := by
 have hu := Tryz.underlying25
 obtain ⟨xs, m, _, hx, hlen, hxl, hel⟩ := DataW.trod_struct hu hf
 have c1 : Tryz.prog.cellsOf 22 = 32 := by kernel_rfl
 have c2 : Tryz.prog.cellsOf 23 = 1 := by kernel_rfl
 have c3 : Tryz.prog.cellsOf 3 = 1 := by kernel_rfl
 have cT : Tryz.prog.cellsOf 25 = 35 := by kernel_rfl
 have k0 : DataW.trod enc Tryz.prog W 0 (fun _ => true) true m 22 ((cs.drop 0).take (Tryz.prog.cellsOf 22)) = xs[0]? := hel 0 _ rfl
 have k1 : DataW.trod enc Tryz.prog W 0 (fun _ => true) true m 3 ((cs.drop 32).take (Tryz.prog.cellsOf 3)) = xs[1]? := hel 1 _ rfl
 have k2 : DataW.trod enc Tryz.prog W 0 (fun _ => true) true m 23 ((cs.drop 33).take (Tryz.prog.cellsOf 23)) = xs[2]? := hel 2 _ rfl
 have k3 : DataW.trod enc Tryz.prog W 0 (fun _ => true) true m 23 ((cs.drop 34).take (Tryz.prog.cellsOf 23)) = xs[3]? := hel 3 _ rfl
 have hx4 : xs.length = 4 := hxl
 rw [c1] at k0
 rw [c3] at k1
 rw [c2] at k2 k3
 have hlen : cs.length = 35 := by rw [← cT]; exact hlen
 rw [List.getElem?_eq_getElem (by omega)] at k0 k1 k2 k3
 obtain ⟨ms, e0, l0⟩ := trodArr Tryz.underlying22 (by kernel_rfl) c1 k0
 obtain ⟨z, e1, _, hz⟩ := DataW.trod_int Tryz.underlying3 k1
 obtain ⟨ia, i_n, ic, ivs, ids, e2, hr2, hq2⟩ := trodBB k2
 obtain ⟨ba, bn, bc, bvs, bls, e3, hr3, hq3⟩ := trodBB k3
 refine ⟨⟨ms, z, ia, i_n, ic, ivs, ids, ba, bn, bc, bvs, bls⟩, ?_, ⟨l0, hr2, hq2, hr3, hq3, ?_⟩⟩
 · have : cs = caseC ⟨ms, z, ia, i_n, ic, ivs, ids, ba, bn, bc, bvs, bls⟩ := by
     have t3 : (cs.drop 34).take 1 = cs.drop 34 := List.take_of_length_le (by simp; omega)
     have s0 := kcut13 cs 0 32
     have s1 := kcut13 cs 32 1
     have s2 := kcut13 cs 33 1
     rw [e0] at s0
     rw [e1] at s1
     rw [e2] at s2
     rw [e3] at t3
     simp only [Nat.zero_add, Nat.reduceAdd, List.drop_zero] at s0 s1 s2
     rw [caseC, ← s0, ← s1, ← s2, ← t3]
     rfl
   exact this
 · have b := bounds_i64 hz
   exact ⟨by show -9223372036854775808 ≤ z; omega, by show z ≤ 9223372036854775807; omega⟩

end Go.Proofs.YtmdandkoajocpaaGreatDoor
end

section
namespace Go.Proofs.YtmdandkoajocpaaGreatDoor
open Go Sx Go.ChangeShapes Go.WideShapes Go.RowKit
set_option maxRecDepth 8000

theorem openSaved {H : Type} {enc : TypeId × Value → H} {W : World} {base : Nat} {v : Value} {d : DataW H} {ps : List MemPlace} (hval : Value.okWide Tryz.prog W .any base 78 v)
   (h : DataW.Trod enc Tryz.prog W 0 (fun _ => true) true 78 v d ps) :
   ∃ (x : SavedD), v = .agg (savedC x).toArray ∧ SavedR W x := by
 have hu := Tryz.underlying78
 obtain ⟨cs, rfl, _⟩ := okWide_struct hu hval
 obtain ⟨fuel, hf⟩ := h
 obtain ⟨xs, m, _, hx, hlen, hxl, hel⟩ := DataW.trod_struct hu hf
 have c1 : Tryz.prog.cellsOf 25 = 35 := by kernel_rfl
 have c2 : Tryz.prog.cellsOf 3 = 1 := by kernel_rfl
 have cT : Tryz.prog.cellsOf 78 = 38 := by kernel_rfl
 have k0 : DataW.trod enc Tryz.prog W 0 (fun _ => true) true m 25 ((cs.toList.drop 0).take (Tryz.prog.cellsOf 25)) = xs[0]? := hel 0 _ rfl
 have k1 : DataW.trod enc Tryz.prog W 0 (fun _ => true) true m 3 ((cs.toList.drop 35).take (Tryz.prog.cellsOf 3)) = xs[1]? := hel 1 _ rfl
 have k2 : DataW.trod enc Tryz.prog W 0 (fun _ => true) true m 3 ((cs.toList.drop 36).take (Tryz.prog.cellsOf 3)) = xs[2]? := hel 2 _ rfl
 have k3 : DataW.trod enc Tryz.prog W 0 (fun _ => true) true m 3 ((cs.toList.drop 37).take (Tryz.prog.cellsOf 3)) = xs[3]? := hel 3 _ rfl
 have hx4 : xs.length = 4 := hxl
 rw [c1] at k0
 rw [c2] at k1 k2 k3
 have hlen : cs.toList.length = 38 := by rw [← cT]; exact hlen
 rw [List.getElem?_eq_getElem (by omega)] at k0 k1 k2 k3
 obtain ⟨C, e0, hC⟩ := trodCase13 k0
 obtain ⟨z1, e1, _, hz1⟩ := DataW.trod_int Tryz.underlying3 k1
 obtain ⟨z2, e2, _, hz2⟩ := DataW.trod_int Tryz.underlying3 k2
 obtain ⟨z3, e3, _, hz3⟩ := DataW.trod_int Tryz.underlying3 k3
 refine ⟨⟨C, z1, z2, z3⟩, ?_, ⟨hC, ?_, ?_, ?_⟩⟩
 · have : cs.toList = savedC ⟨C, z1, z2, z3⟩ := by
     have t3 : (cs.toList.drop 37).take 1 = cs.toList.drop 37 := List.take_of_length_le (by simp; omega)
     have s0 := kcut13 cs.toList 0 35
     have s1 := kcut13 cs.toList 35 1
     have s2 := kcut13 cs.toList 36 1
     rw [e0] at s0
     rw [e1] at s1
     rw [e2] at s2
     rw [e3] at t3
     simp only [Nat.zero_add, Nat.reduceAdd, List.drop_zero] at s0 s1 s2
     rw [savedC, ← s0, ← s1, ← s2, ← t3]
     rfl
   rw [← this]
 · have b := bounds_i64 hz1
   exact ⟨by show -9223372036854775808 ≤ z1; omega, by show z1 ≤ 9223372036854775807; omega⟩
 · have b := bounds_i64 hz2
   exact ⟨by show -9223372036854775808 ≤ z2; omega, by show z2 ≤ 9223372036854775807; omega⟩
 · have b := bounds_i64 hz3
   exact ⟨by show -9223372036854775808 ≤ z3; omega, by show z3 ≤ 9223372036854775807; omega⟩

end Go.Proofs.YtmdandkoajocpaaGreatDoor
end

section
namespace Go.Proofs.YtmdandkoajocpaaGreatDoor
open Go Sx
set_option maxRecDepth 8000

theorem laidP_eq : (Rows.laid_internal_strconv_uint64pow10 : DataW Unit) = Lib.tabData .u64 Lib.pow10Tab := by kernel_rfl
theorem pTab_of_laid {W : World} {rest : List (String × DataW Unit)} (hp : ∀ w, laidMetH Tryz.prog (("internal/strconv.uint64pow10", Rows.laid_internal_strconv_uint64pow10) :: rest) w = laidMet Tryz.prog (("internal/strconv.uint64pow10", Rows.laid_internal_strconv_uint64pow10) :: rest) w) (h : laidMetH Tryz.prog (("internal/strconv.uint64pow10", Rows.laid_internal_strconv_uint64pow10) :: rest) W) : PTab W := by
 rw [hp, laidP_eq] at h
 have hg : Tryz.prog.globalNamed "internal/strconv.uint64pow10" = some 2 := by kernel_rfl
 exact Lib.tabIs_of_head hg (by kernel_rfl) Tryz.underlying244 Tryz.underlying177 (by kernel_rfl) (by kernel_rfl) h

end Go.Proofs.YtmdandkoajocpaaGreatDoor
end
