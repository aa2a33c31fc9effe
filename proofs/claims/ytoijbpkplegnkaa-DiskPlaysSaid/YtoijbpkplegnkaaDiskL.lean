/- The laws of chapter 1: alive; a nil disk (conditions: none). -/
import Derived.Test.YtoijbpkplegnkaaDiskK
import Derived.Test.YtoijbpkplegnkaaVlaw01
namespace Go.Proofs.Ytoijbpkplegnkaa
open Go Sx
set_option maxRecDepth 8000

/-- []byte("..") of a row that is held: its block is held then. -/
theorem convHold {w0 w : World} {X : List Nat} {M : List Res} (hS : St w0 X w M) {i : Nat} {g n c : Nat} {l : List UInt8} (hi : M[i]? = some (.row 5 1 (.slice (some ⟨g, 0, none⟩) n c) n (bv l))) :
    ∃ w' o, (convert 22 22 (.slice (some ⟨g, 0, none⟩) n c)).run Try.prog w = .ok (.slice (some ⟨g, 0, none⟩) n c) w' ∧ St w0 X w' (M.set i (.blk g o)) ∧ ∀ w'' : World, w''.heap[g]? = some o → RdB w'' (some ⟨g, 0, none⟩) n c l := by
  have hown : w.ownsRow 0 5 1 (.slice (some ⟨g, 0, none⟩) n c) n (bv l) := hS.holds i _ hi
  rcases hown.2 with ⟨hv, _⟩ | ⟨g', cap, cur, hv, _, hg, hle, _, hcs, ht⟩
  · simp at hv
  · simp only [Value.slice.injEq, Option.some.injEq, Addr.mk.injEq, and_true, true_and] at hv
    obtain ⟨rfl, rfl⟩ := hv
    have hglt := (Array.getElem?_eq_some_iff.1 hg).1
    have hg' : ∃ fr, (w.freeze ⟨g, cur.size, none⟩ 1).heap[g]? = some (.cells cur 5 fr) := by
      simp only [World.freeze, Nat.succ_ne_zero, if_false, Array.getElem?_modify, if_true, hg, Option.map_some]
      exact ⟨_, rfl⟩
    obtain ⟨fr, hg'⟩ := hg'
    refine ⟨w.freeze ⟨g, cur.size, none⟩ 1, .cells cur 5 fr, ?_, hS.upd hi ?_ hg' (by simp [Res.fp, Value.ownBlock]), fun w'' h => ?_⟩
    · simp [convert, run_underlying bS, run_underlying bE, markStringish, World.shape?, hg]
    · refine ⟨by simp [World.freeze], by simp [World.freeze], by simp [World.freeze], by simp [World.freeze], fun k _ hk => ?_⟩
      simp only [World.freeze, Nat.succ_ne_zero, if_false, Array.getElem?_modify]
      rw [if_neg (by simpa using fun h => hk (by simp [Res.fp, Value.ownBlock, h]))]
    · have h1 := cells_blk (o := 0) (n := n) h
      rw [List.drop_zero, show cur.toList.take n = bv l by rw [← ht, Nat.mul_one]] at h1
      exact ⟨h1, by have := hown.1; simpa using this, hle, by simp⟩

theorem r2nil (w : World) : Row2 w [] [] := ⟨rfl, by simp⟩
theorem r2cons {w : World} {vs : List Value} {ls : List (List UInt8)} {a : Option Addr} {n c : Nat} {l : List UInt8} (h : RdB w a n c l) (h2 : Row2 w vs ls) : Row2 w (.slice a n c :: vs) (l :: ls) := by
  refine ⟨by simp [h2.len], fun i hi => ?_⟩
  cases i with
  | zero => exact ⟨a, n, c, rfl, h⟩
  | succ i => exact h2.rd i (by simpa using hi)

section
variable {w0 w w' : World} {X : List Nat} {N N' T : List Res} {gd : Nat} {ps : List Nat} {m : DiskM}

theorem DiskIn.addSt (h : DiskIn w0 X w gd ps m N) (h' : St w [] w' T) : DiskIn w0 X w' gd ps m (N ++ T) := by
  obtain ⟨p, hps, hp, hS⟩ := h
  refine ⟨p, hps, hp, ?_⟩
  have h1 : St w0 X w' ((resD gd m p ++ DR p.FL N) ++ T) := Sx.St.callPart (N := []) (by rw [List.append_nil]; exact hS) h'
  have e : (resD gd m p ++ DR p.FL N) ++ T = resD gd m p ++ DR p.FL (N ++ T) := by simp [DR, List.append_assoc]
  rw [← e]; exact h1

theorem listD_spec (h : DiskIn w0 X w gd ps m N) : Calls Try.prog 18 #[.pointer (some ⟨gd, 0, none⟩)] w fun e w' => ∃ a c, e = .returned (.slice a (namesM m).length c) ∧ St w [] w' [.row 9 1 (.slice a (namesM m).length c) (namesM m).length ((namesM m).map strV)] := by
  obtain ⟨p, hps, hp, hS⟩ := h
  exact list_spec hp.mem hS
theorem filesD_spec (h : DiskIn w0 X w gd ps m N) : Calls Try.prog 17 #[.pointer (some ⟨gd, 0, none⟩)] w fun e w' => ∃ (a : Option Addr) (c : Nat) (L : List FV), e = .returned (.slice a L.length c) ∧ L.map FV.t = filesM m ∧ St w [] w' (.row 42 2 (.slice a L.length c) L.length (L.flatMap FV.cells) :: L.map FV.row) := by
  obtain ⟨p, hps, hp, hS⟩ := h
  exact files_spec hp.mem hS
end

theorem built_surv : Try.prog.built 50 = fun parts => Instr.fill (fun i => (#[(0, 1), (1, 1)] : Array (Nat × Nat))[i]?) #[.int .i64 0, .slice none 0 0] parts := by kernel_rfl
theorem surv0_build (w : World) : (Instr.build 50 #[]).run Try.prog w = .ok (.agg #[.int .i64 0, .slice none 0 0]) w := by
  apply run_build
  rw [built_surv]
  rfl
theorem surv1_build (n : Int) (w : World) : (Instr.build 50 #[(0, .int .i64 n)]).run Try.prog w = .ok (.agg #[.int .i64 n, .slice none 0 0]) w := by
  apply run_build
  rw [built_surv]
  show Instr.fill _ _ [(0, _)] = _
  rw [fill_step (off := 0) (sz := 1) rfl rfl (by simp)]
  rfl

/-! ### alive -/
def am1 : DiskM := ⟨10, [⟨[], 0⟩], [⟨[97], 0⟩], [], [⟨some 0, [], [97]⟩], 1, false, none, []⟩
def am2 : DiskM := ⟨10, [⟨[104, 101, 108, 108, 111], 0⟩], [⟨[97], 0⟩], [], [⟨some 0, [], [97]⟩], 2, false, none, []⟩
def am3 : DiskM := ⟨10, [⟨[104, 101, 108, 108, 111], 5⟩], [⟨[97], 0⟩], [], [⟨some 0, [], [97]⟩], 3, false, none, []⟩
def am4 : DiskM := ⟨10, [⟨[104, 101, 108, 108, 111], 5⟩], [⟨[97], 0⟩], [⟨[97], 0⟩], [], 4, false, none, []⟩
def am5 : DiskM := ⟨10, [⟨[104, 101, 108, 108, 111], 5⟩, ⟨[], 0⟩], [⟨[97], 0⟩, ⟨[98], 1⟩], [⟨[97], 0⟩], [⟨some 1, [], [98]⟩], 5, false, none, []⟩
def am6 : DiskM := ⟨10, [⟨[104, 101, 108, 108, 111], 5⟩, ⟨[], 0⟩], [⟨[97], 0⟩], [⟨[97], 0⟩], [], 5, false, none, []⟩
theorem al1 : createM (newM 10) [97] = (am1, none) := by kernel_rfl
theorem al2 : appendM am1 [97] [[104, 101], [108, 108, 111]] = (am2, none) := by kernel_rfl
theorem al3 : syncM am2 [97] = (am3, none) := by kernel_rfl
theorem al4 : syncDirM am3 = (am4, none) := by kernel_rfl
theorem al5 : createM am4 [98] = (am5, none) := by kernel_rfl
theorem al6 : crashM am5 0 [] = am6 := by kernel_rfl
theorem al7 : foundE am6 [97] = none := by kernel_rfl
theorem al8 : readF am6 [97] = [104, 101, 108, 108, 111] := by kernel_rfl
theorem al9 : (namesM am6).length = 1 := rfl
theorem dkT : Try.prog.underlying 24 = some (.pointer 82) := Try.underlying24

set_option maxHeartbeats 1000000 in
theorem alive01_spec (w : World) : Calls Try.prog 8 #[] w fun e w' => e = .returned (.bool true) ∧ Chg [] w w' := by
  obtain ⟨mI, hI⟩ := eI
  apply amphoralaw01_alive_vc
  refine (newDisk_spec 10 w).mono ?_
  rintro e w1 (⟨hbad, _⟩ | ⟨_, gd, rfl, h1⟩)
  · omega
  refine ⟨_, _, rfl, fun x w' => x = false ∧ ∃ ps', DiskIn w [] w' gd ps' am5 [], ⟨_, neqS_nil hI none _ _, fun h => (by cases h), fun _ => ⟨_, eqPtr .eql (.inl rfl) dkT _ _ _ _, fun h => (by cases h), fun _ => (create_spec [97] h1 (by decide) (by decide)).mono ?_⟩⟩, ?_⟩
  · rintro e w2 ⟨rfl, ps2, h2⟩
    rw [al1] at h2 ⊢
    refine ⟨_, rfl, _, neqS_nil hI none _ _, fun h => (by cases h), fun _ => ?_⟩
    obtain ⟨g3, w3, r3, k3⟩ := (St.start w2).lit bT [.int .u8 104, .int .u8 101] (by simp [Value.oneCell']) (by simp)
    obtain ⟨w4, o4, r4, k4, q4⟩ := convHold (l := [104, 101]) k3 (i := 0) rfl
    obtain ⟨g5, w5, r5, k5⟩ := k4.lit bT [.int .u8 108, .int .u8 108, .int .u8 111] (by simp [Value.oneCell']) (by simp)
    obtain ⟨w6, o6, r6, k6, q6⟩ := convHold (l := [108, 108, 111]) k5 (i := 1) rfl
    obtain ⟨g7, w7, r7, k7⟩ := k6.lit bbT [.slice (some ⟨g3, 0, none⟩) 2 2, .slice (some ⟨g5, 0, none⟩) 3 3] (by simp [Value.oneCell']) (by simp)
    have h7 := h2.addSt k7
    refine ⟨_, _, _, _, r3, _, _, _, _, r4, _, _, _, _, r5, _, _, _, _, r6, _, _, _, _, r7, (append_spec [97] _ 2 2 _ [[104, 101], [108, 108, 111]] h7 (fun hD => ⟨hD.rest.rd (i := 2) rfl, r2cons (q4 _ (hD.rest.holds 0 _ rfl)) (r2cons (q6 _ (hD.rest.holds 1 _ rfl)) (r2nil _))⟩) (by decide) (by decide)).mono ?_⟩
    rintro e w8 ⟨rfl, h8⟩
    rw [al2] at h8 ⊢
    refine ⟨_, rfl, _, neqS_nil hI none _ _, fun h => (by cases h), fun _ => (sync_spec [97] h8 (by decide)).mono ?_⟩
    rintro e w9 ⟨rfl, h9⟩
    rw [al3] at h9 ⊢
    refine ⟨_, rfl, _, neqS_nil hI none _ _, fun h => (by cases h), fun _ => (syncDir_spec h9 (by decide)).mono ?_⟩
    rintro e w10 ⟨rfl, h10⟩
    rw [al4] at h10 ⊢
    refine ⟨_, rfl, _, neqS_nil hI none _ _, fun h => (by cases h), fun _ => (create_spec [98] h10 (by decide) (by decide)).mono ?_⟩
    rintro e w11 ⟨rfl, ps5, h11⟩
    rw [al5] at h11 ⊢
    exact ⟨_, rfl, _, neqS_nil hI none _ _, rfl, ps5, h11.subN (List.nil_sublist _)⟩
  · rintro x w12 ⟨rfl, ps5, h12⟩
    refine ⟨fun h => (by cases h), fun _ => ⟨_, surv0_build w12, (crash_spec 0 none 0 0 [] h12 (fun _ _ => ⟨Cells.nil _ _, rfl, Nat.le_refl _, fun _ => rfl⟩) (by decide)).mono ?_⟩⟩
    rintro e w13 ⟨rfl, h13⟩
    rw [al6] at h13
    refine ⟨rfl, (read_spec [97] h13).mono ?_⟩
    rintro e w14 ⟨a, k, c, rfl, f14⟩
    rw [al7]
    rw [al8] at f14
    have h14 := h13.same f14.1
    refine ⟨_, _, _, _, rfl, _, eqlS_nil hI none _ _, fun _ => ⟨_, toStr bS bE sS f14.cells f14.2.1, fun _ => (listD_spec h14).mono ?_, fun h => (by simp at h)⟩, fun h => (by cases h)⟩
    rintro e w15 ⟨a15, c15, rfl, k15⟩
    have h15 := h14.same k15.chg
    refine ⟨_, _, _, rfl, fun _ => (steps_spec h15).mono ?_, fun h => by rw [al9] at h; simp at h⟩
    rintro e w16 ⟨rfl, rfl⟩
    exact ⟨_, rfl, rfl, h15.chg⟩

end Go.Proofs.Ytoijbpkplegnkaa
