/- The laws of chapter 1: equal files, equal names; DiskRefuses (conditions: none). -/
import Derived.Test.YtoijbpkplegnkaaDiskN
namespace Go.Proofs.Ytoijbpkplegnkaa
open Go Sx
set_option maxRecDepth 8000

/-! ### Files, Texts -/
structure FilesR (w : World) (a : Option Addr) (c : Nat) (L : List FV) : Prop where
  rd : Rd w a L.length c 2 (L.flatMap FV.cells)
  rows : ∀ v ∈ L, RdB w v.a v.data.length v.c v.data
theorem FV.cells_len (v : FV) : v.cells.length = 2 := rfl
theorem FilesR.keep0 {w w' : World} {a : Option Addr} {c : Nat} {L : List FV} (h : FilesR w a c L) (hc : Chg [] w w') : FilesR w' a c L := ⟨h.rd.keep0 hc, fun v hv => (h.rows v hv).keep0 hc⟩
theorem filesR_of {w0 w : World} {X : List Nat} {a : Option Addr} {c : Nat} {L : List FV} (h : St w0 X w (.row 42 2 (.slice a L.length c) L.length (L.flatMap FV.cells) :: L.map FV.row)) : FilesR w a c L := by
  refine ⟨h.rd (i := 0) rfl, fun v hv => ?_⟩
  obtain ⟨i, hi⟩ := List.getElem?_of_mem hv
  have : (L.map FV.row)[i]? = some v.row := by rw [List.getElem?_map, hi]; rfl
  exact h.tail.rd (i := i) this

theorem apA (w : World) : (isAgg 42).run Try.prog w = .ok true w := Try.isAgg42 w

theorem FilesR.fld {w : World} {a : Option Addr} {c : Nat} {L : List FV} (h : FilesR w a c L) {i : Nat} {v : FV} (hv : L[i]? = some v) :
    ∃ b o, a = some ⟨b, o, none⟩ ∧ ∀ w', Chg [] w w' → (Instr.loadAt 9 (.pointer (some ⟨b, o + Int.toNat (i : Int) * 2, none⟩))).run Try.prog w' = .ok (strV v.name) w' ∧ (Instr.loadAt 22 (.pointer (some ⟨b, o + Int.toNat (i : Int) * 2 + 1, none⟩))).run Try.prog w' = .ok (.slice v.a v.data.length v.c) w' := by
  have h0 : (L.flatMap FV.cells)[i * 2 + 0]? = some (strV v.name) := by rw [flatMap_at (fun x _ => FV.cells_len x) hv (by decide)]; rfl
  have h1 : (L.flatMap FV.cells)[i * 2 + 1]? = some (.slice v.a v.data.length v.c) := by rw [flatMap_at (fun x _ => FV.cells_len x) hv (by decide)]; rfl
  obtain ⟨b, o, ha, _⟩ := h.rd.cells.at_ h0
  refine ⟨b, o, ha, fun w' hc => ?_⟩
  have hr := (h.rd.keep0 hc).cells
  obtain ⟨b0, o0, e0, c0⟩ := hr.at_ h0
  obtain ⟨b1, o1, e1, c1⟩ := hr.at_ h1
  rw [ha] at e0 e1
  simp only [Option.some.injEq, Addr.mk.injEq, and_true] at e0 e1
  obtain ⟨rfl, rfl⟩ := e0
  obtain ⟨rfl, rfl⟩ := e1
  rw [Int.toNat_natCast]
  exact ⟨ld1 (stA' _) c0, ld1 (bsA _) c1⟩

theorem filesEq_spec (a1 : Option Addr) (c1 : Nat) (L1 : List FV) (a2 : Option Addr) (c2 : Nat) (L2 : List FV) (w : World) (h1 : FilesR w a1 c1 L1) (h2 : FilesR w a2 c2 L2) (he : L1.map FV.t = L2.map FV.t) (hb : L1.length ≤ 4611686018427387904) :
    Calls Try.prog 26 #[.slice a1 L1.length c1, .slice a2 L2.length c2] w fun e w' => e = .returned (.bool true) ∧ Chg [] w w' := by
  have hl : L1.length = L2.length := by have := congrArg List.length he; simpa using this
  apply amphoranum_Files_vc
  refine ⟨fun h => by rw [hl] at h; simp at h, fun _ => ⟨fun x w' => ∃ i : Nat, x = (i : Int) ∧ i ≤ L1.length ∧ Chg [] w w', fun x _ => L1.length - x.toNat, ⟨0, rfl, by omega, Chg.refl _ _⟩, ?_⟩⟩
  rintro x w1 ⟨i, rfl, hi, k1⟩
  refine ⟨fun hlt => ?_, fun _ => ⟨rfl, k1⟩⟩
  have hi' : i < L1.length := by simp at hlt; omega
  have g1 : L1[i]? = some L1[i] := List.getElem?_eq_getElem hi'
  have g2 : L2[i]? = some L2[i] := List.getElem?_eq_getElem (by omega)
  obtain ⟨v1, hv1⟩ : ∃ v, L1[i] = v := ⟨_, rfl⟩
  obtain ⟨v2, hv2⟩ : ∃ v, L2[i] = v := ⟨_, rfl⟩
  rw [hv1] at g1
  rw [hv2] at g2
  have ht : v1.t = v2.t := by
    have e1 : (L1.map FV.t)[i]? = some v1.t := by rw [List.getElem?_map, g1]; rfl
    rw [he, List.getElem?_map, g2] at e1
    exact (Option.some.inj e1).symm
  have hn : v1.name = v2.name := congrArg Prod.fst ht
  have hd : v1.data = v2.data := congrArg Prod.snd ht
  obtain ⟨b1, o1, e1, q1⟩ := h1.fld g1
  obtain ⟨b2, o2, e2, q2⟩ := h2.fld g2
  have kd := k1.trans (Chg.drew [] w1)
  refine ⟨fun y w' => y = false ∧ w' = w1.drew, ⟨fun w' => Chg [] w w', kd, b1, o1, e1, by omega, by omega, b2, o2, e2, by omega, by omega, _, fun w' hw => (q1 w' hw).1, _, fun w' hw => (q2 w' hw).1, fun h => ?_, fun _ => ⟨b1, o1, e1, by omega, by omega, b2, o2, e2, by omega, by omega, _, _, _, fun w' hw => (q1 w' hw).2, _, fun w' hw => toStr bS bE sS ((h1.rows v1 (List.mem_of_getElem? g1)).cells.keep0 hw) rfl, _, _, _, fun w' hw => (q2 w' hw).2, _, fun w' hw => toStr bS bE sS ((h2.rows v2 (List.mem_of_getElem? g2)).cells.keep0 hw) rfl, ?_, rfl⟩⟩, ?_⟩
  · rw [hn] at h; simp at h
  · rw [hd]; simp
  · rintro y w2 ⟨rfl, rfl⟩
    exact ⟨fun h => (by cases h), fun _ => ⟨⟨i + 1, wrap_succ hi' hb, by omega, kd⟩, mu_succ hi' hb⟩⟩

theorem textsEq_spec (a1 : Option Addr) (n c1 : Nat) (l : List Nm) (a2 : Option Addr) (c2 : Nat) (w : World) (h1 : Rd w a1 n c1 1 (l.map strV)) (h2 : Rd w a2 n c2 1 (l.map strV)) (hb : n ≤ 4611686018427387904) :
    Calls Try.prog 20 #[.slice a1 n c1, .slice a2 n c2] w fun e w' => e = .returned (.bool true) ∧ Chg [] w w' := by
  have hl : l.length = n := by have := h1.len; simpa using this
  apply amphoranum_Texts_vc
  refine ⟨fun h => by simp at h, fun _ => ⟨fun x w' => ∃ i : Nat, x = (i : Int) ∧ i ≤ n ∧ Chg [] w w', fun x _ => n - x.toNat, ⟨0, rfl, by omega, Chg.refl _ _⟩, ?_⟩⟩
  rintro x w1 ⟨i, rfl, hi, k1⟩
  refine ⟨fun hlt => ?_, fun _ => ⟨rfl, k1⟩⟩
  have hi' : i < n := by simp at hlt; omega
  have hx : (l.map strV)[i]? = some (strV (l.getD i [])) := by simp [List.getD, show i < l.length by omega]
  have kd := k1.trans (Chg.drew [] w1)
  obtain ⟨b1, o1, e1, _⟩ := h1.cells.at_ hx
  obtain ⟨b2, o2, e2, _⟩ := h2.cells.at_ hx
  have q1 : ∀ w', Chg [] w w' → (Instr.loadAt 9 (.pointer (some ⟨b1, o1 + Int.toNat (i : Int) * 1, none⟩))).run Try.prog w' = .ok (strV (l.getD i [])) w' := fun w' hw => by
    obtain ⟨b, o, e, c⟩ := (h1.keep0 hw).cells.at_ hx
    rw [e1] at e
    simp only [Option.some.injEq, Addr.mk.injEq, and_true] at e
    obtain ⟨rfl, rfl⟩ := e
    rw [Int.toNat_natCast, Nat.mul_one]
    exact ld1 (stA' _) c
  have q2 : ∀ w', Chg [] w w' → (Instr.loadAt 9 (.pointer (some ⟨b2, o2 + Int.toNat (i : Int) * 1, none⟩))).run Try.prog w' = .ok (strV (l.getD i [])) w' := fun w' hw => by
    obtain ⟨b, o, e, c⟩ := (h2.keep0 hw).cells.at_ hx
    rw [e2] at e
    simp only [Option.some.injEq, Addr.mk.injEq, and_true] at e
    obtain ⟨rfl, rfl⟩ := e
    rw [Int.toNat_natCast, Nat.mul_one]
    exact ld1 (stA' _) c
  exact ⟨fun w' => Chg [] w w', kd, b1, o1, e1, by omega, by omega, b2, o2, e2, by omega, by omega, _, q1, _, q2, fun h => by simp at h, fun _ => ⟨⟨i + 1, wrap_succ hi' hb, by omega, kd⟩, mu_succ hi' hb⟩⟩

/-! ### what a call that answers an error does -/
/-- A call that answers an error has changed no file; ErrIO alone counts a step. -/
def Quiet (r : DiskM × Option Int) (m : DiskM) : Prop := ∀ e, r.2 = some e → filesM r.1 = filesM m ∧ r.1.steps = if e = 2 then m.steps + 1 else m.steps
/-- A call counts at most one step, notes at most one change. -/
def Small (r : DiskM × Option Int) (m : DiskM) : Prop := r.1.steps ≤ m.steps + 1 ∧ r.1.chs.length ≤ m.chs.length + 1

theorem quiet_err (m : DiskM) {e : Int} (he : e ≠ 2) : Quiet (m, some e) m := fun e' h => by
  have : e = e' := Option.some.inj h
  subst this
  exact ⟨rfl, by rw [if_neg he]⟩
theorem quiet_none (m m' : DiskM) : Quiet (m', none) m := fun e h => by cases h
theorem readyM_ne {m : DiskM} {ns : List Nm} {e : Int} (h : readyM m ns = some e) : e ≠ 2 := by
  unfold readyM at h
  split at h
  · cases h; decide
  · split at h
    · cases h
    · cases h; decide
theorem foundE_ne {m : DiskM} {n : Nm} {e : Int} (h : foundE m n = some e) : e ≠ 2 := by
  unfold foundE at h
  split at h
  · cases h; decide
  · split at h
    · cases h; decide
    · split at h
      · cases h; decide
      · cases h
theorem stepM_steps (m : DiskM) : (∀ e, (stepM m).2 = some e → (stepM m).1.steps = if e = 2 then m.steps + 1 else m.steps) ∧ (stepM m).1.steps ≤ m.steps + 1 := by
  unfold stepM
  split
  · exact ⟨fun e h => (by cases h; rfl), Nat.le_succ _⟩
  · split
    · exact ⟨fun e h => (by cases h), Nat.le_refl _⟩
    · exact ⟨fun e h => (by cases h; rfl), Nat.le_refl _⟩
    · exact ⟨fun e h => (by cases h), Nat.le_refl _⟩
theorem filesM_step (m : DiskM) : filesM (stepM m).1 = filesM m := by
  obtain ⟨e1, e2, _⟩ := stepM_same m
  unfold filesM
  rw [e1, e2]
theorem quiet_steps (m : DiskM) (f : DiskM → DiskM) : Quiet (stepsM m f) m := fun e h => by
  unfold stepsM at h ⊢
  cases hs : (stepM m).2 with
  | none => rw [hs] at h; cases h
  | some e' =>
    rw [hs] at h
    have : e' = e := Option.some.inj h
    subst this
    exact ⟨filesM_step m, (stepM_steps m).1 _ hs⟩
theorem small_same (m : DiskM) (e : Option Int) : Small (m, e) m := ⟨Nat.le_succ _, Nat.le_succ _⟩
theorem small_steps (m : DiskM) (f : DiskM → DiskM) (h1 : ∀ m, (f m).steps = m.steps) (h2 : ∀ m, (f m).chs.length ≤ m.chs.length + 1) : Small (stepsM m f) m := by
  obtain ⟨_, _, e3, _⟩ := stepM_same m
  have hs := (stepM_steps m).2
  unfold stepsM
  split
  · exact ⟨hs, by show (stepM m).1.chs.length ≤ _; rw [e3]; omega⟩
  · exact ⟨by show (f _).steps ≤ _; rw [h1]; exact hs, by have := h2 (stepM m).1; rw [e3] at this; exact this⟩

theorem play_both (m : DiskM) (o : OpD) : Quiet (playM m o) m ∧ Small (playM m o) m := by
  unfold playM
  split
  · unfold createM
    split
    · rename_i e h; exact ⟨quiet_err m (readyM_ne h), small_same _ _⟩
    · split
      · exact ⟨quiet_err m (by decide), small_same _ _⟩
      · split
        · exact ⟨quiet_err m (by decide), small_same _ _⟩
        · exact ⟨quiet_steps _ _, small_steps _ _ (fun _ => rfl) fun m => by simp [createF, doCh]⟩
  split
  · unfold appendM
    split
    · rename_i e h; exact ⟨quiet_err m (foundE_ne h), small_same _ _⟩
    · split
      · exact ⟨quiet_steps _ _, small_steps _ _ (fun _ => rfl) fun m => by simp [appendF]⟩
      · exact ⟨quiet_err m (by decide), small_same _ _⟩
  split
  · unfold syncM
    split
    · rename_i e h; exact ⟨quiet_err m (foundE_ne h), small_same _ _⟩
    · exact ⟨quiet_steps _ _, small_steps _ _ (fun _ => rfl) fun m => by simp [syncF]⟩
  split
  · unfold syncDirM
    split
    · rename_i e h; exact ⟨quiet_err m (readyM_ne h), small_same _ _⟩
    · exact ⟨quiet_steps _ _, small_steps _ _ (fun _ => rfl) fun m => by simp [syncDirF]⟩
  split
  · unfold renameM
    split
    · rename_i e h; exact ⟨quiet_err m (readyM_ne h), small_same _ _⟩
    · split
      · rename_i e h; exact ⟨quiet_err m (foundE_ne h), small_same _ _⟩
      · exact ⟨quiet_steps _ _, small_steps _ _ (fun _ => rfl) fun m => by simp [doCh]⟩
  split
  · unfold removeM
    split
    · rename_i e h; exact ⟨quiet_err m (foundE_ne h), small_same _ _⟩
    · exact ⟨quiet_steps _ _, small_steps _ _ (fun _ => rfl) fun m => by simp [doCh]⟩
  split
  · unfold armM
    split
    · exact ⟨quiet_err m (by decide), small_same _ _⟩
    · exact ⟨quiet_none _ _, ⟨Nat.le_succ _, Nat.le_succ _⟩⟩
  split
  · unfold failM
    split
    · exact ⟨quiet_err m (by decide), small_same _ _⟩
    · exact ⟨quiet_none _ _, ⟨Nat.le_succ _, Nat.le_succ _⟩⟩
  · exact ⟨quiet_none _ _, small_same _ _⟩

theorem neqS_errD {T : TypeId} {m} (hT : Try.prog.underlying T = some (.interface m)) (o : Option Int) (n : Int) (x y : Operand) (w : World) : (eqlS .neq T x y (errV o) (.iface 62 (.int .i64 n))).run Try.prog w = .ok (.bool (!decide (o = some n))) w := by
  have hE := Try.underlying62
  have hI : (typeInfo 62).run Try.prog w = .ok Try.t62 w := by
    simp [typeInfo, show Try.prog.info? 62 = some Try.t62 by kernel_rfl]
  have hc : Try.t62.comparable = true := by kernel_rfl
  have h1 : ∀ d k, (Op.equalIn (d + 2) T (.iface 62 (.int .i64 k)) (.iface 62 (.int .i64 n))).run Try.prog w = .ok (k == n) w := fun d k => by
    simp [Op.equalIn, run_underlying hT, run_underlying hE, hI, hc]
  have h2 : ∀ d U v, (Op.equalIn (d + 1) T .nilIface (.iface U v)).run Try.prog w = .ok false w := fun d U v => by simp [Op.equalIn, run_underlying hT]
  cases o with
  | none => simp [eqlS, eqGuard, errV, binOp, Op.equal, show Op.maxDepth = 9999 + 1 from rfl, h2 9999]
  | some k =>
    have h3 : (some k = some n) = (k = n) := by simp
    simp only [h3]
    have h4 : decide (k = n) = (k == n) := rfl
    rw [h4]
    simp [eqlS, eqGuard, errV, binOp, Op.equal, show Op.maxDepth = 9998 + 2 from rfl, h1 9998]

end Go.Proofs.Ytoijbpkplegnkaa
