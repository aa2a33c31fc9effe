/- A disk in memory: what it holds; ready, found, step (conditions: those that each theorem names). -/
import Derived.Test.YtoijbpkplegnkaaDiskF
import Derived.Test.YtoijbpkplegnkaaMapS
import Derived.Test.YtoijbpkplegnkaaLists
import Derived.Test.YtoijbpkplegnkaaNum
import Derived.Test.YtoijbpkplegnkaaVdisk
namespace Go.Proofs.Ytoijbpkplegnkaa
open Go Sx
set_option maxRecDepth 8000

/-- A file in memory: its block, its row. -/
structure FR where
  g : Nat
  a : Option Addr
  c : Nat
  data : List UInt8
  syn : Nat
def FR.m (f : FR) : FileM := ⟨f.data, f.syn⟩
def FR.val (f : FR) : Value := .slice f.a f.data.length f.c
def FR.blk (f : FR) : Res := .arr f.g 87 [f.val, .int .i64 (f.syn : Int)]
def FR.row (f : FR) : Res := .row 5 1 f.val f.data.length (bv f.data)
def DR (FL : List FR) (N : List Res) : List Res := FL.map FR.blk ++ (FL.map FR.row ++ N)

theorem perm_DR {FL : List FR} {i : Nat} {f : FR} (hi : FL[i]? = some f) (R N : List Res) : (R ++ DR FL N).Perm (f.blk :: f.row :: (R ++ DR (FL.eraseIdx i) N)) := by
  obtain ⟨h1, _, h3⟩ := split_at hi
  rw [h3]
  conv => lhs; rw [h1]
  unfold DR
  simp only [List.map_append, List.map_cons]
  have e1 : R ++ ((FL.take i).map FR.blk ++ f.blk :: (FL.drop (i + 1)).map FR.blk ++ ((FL.take i).map FR.row ++ f.row :: (FL.drop (i + 1)).map FR.row ++ N)) = (R ++ (FL.take i).map FR.blk) ++ f.blk :: (((FL.drop (i + 1)).map FR.blk ++ (FL.take i).map FR.row) ++ f.row :: ((FL.drop (i + 1)).map FR.row ++ N)) := by simp [List.append_assoc]
  rw [e1]
  refine List.perm_middle.trans (List.Perm.cons _ ?_)
  have e2 : R ++ (FL.take i).map FR.blk ++ (((FL.drop (i + 1)).map FR.blk ++ (FL.take i).map FR.row) ++ f.row :: ((FL.drop (i + 1)).map FR.row ++ N)) = (R ++ (FL.take i).map FR.blk ++ ((FL.drop (i + 1)).map FR.blk ++ (FL.take i).map FR.row)) ++ f.row :: ((FL.drop (i + 1)).map FR.row ++ N) := by simp [List.append_assoc]
  rw [e2]
  refine List.perm_middle.trans (List.Perm.cons _ (List.Perm.of_eq ?_))
  simp [List.append_assoc]

theorem eraseIdx_set {α : Type} (l : List α) (i : Nat) (x : α) : (l.set i x).eraseIdx i = l.eraseIdx i := by
  rw [List.eraseIdx_eq_take_drop_succ, List.eraseIdx_eq_take_drop_succ, List.take_set_of_le (Nat.le_refl i), List.drop_set_of_lt (by omega)]

def ptrV (gs : List Nat) (i : Nat) : Value := .pointer (some ⟨gs.getD i 0, 0, none⟩)
def chC (gs : List Nat) (c : ChM) : List Value := [match c.made with | some i => ptrV gs i | none => .pointer none, strV c.fr, strV c.to]
theorem chC_len (gs : List Nat) (c : ChM) : (chC gs c).length = 3 := rfl
theorem chC_one (gs : List Nat) (c : ChM) : ∀ v ∈ chC gs c, v.oneCell' = true := by
  intro v hv
  simp only [chC, List.mem_cons, List.not_mem_nil, or_false] at hv
  rcases hv with rfl | rfl | rfl
  · cases c.made <;> rfl
  · rfl
  · rfl
def niv (l : List Nat) : List Value := l.map fun x : Nat => Value.int .i64 (x : Int)

/-- The numbers of steps that are to fail, in memory. -/
structure FailsR (fl : List Nat) (fa : Option Addr) (fn fc : Nat) (F : Res) : Prop where
  len : fl.length = fn
  le : fn ≤ fc
  at_ : fn = 0 ∨ ∃ gf k L, fa = some ⟨gf, k, none⟩ ∧ F = .arr gf 3 L ∧ (L.drop k).take fn = niv fl
  bd : ∀ x ∈ fl, x ≤ 9223372036854775807

/-- Where the parts of a disk lie. -/
structure DP where
  av : Int
  fa : Option Addr
  fn : Nat
  fc : Nat
  gn : Nat
  gs : Nat
  ca : Option Addr
  cc : Nat
  FL : List FR
  F : Res
  esn : Array MapEntry
  ckn : Nat
  Mn : Dir
  ess : Array MapEntry
  cks : Nat
  Ms : Dir
def DP.ps (p : DP) : List Nat := p.FL.map FR.g
abbrev kyE (e : Ent) : Value := strV e.name
abbrev vlE (gs : List Nat) (e : Ent) : Value := ptrV gs e.file
structure DOk (m : DiskM) (p : DP) : Prop where
  wf : WFD m
  files : p.FL.map FR.m = m.files
  arm : ∀ k, m.arm = some k → p.av = (k : Int) ∧ k ≤ 9223372036854775807
  fails : FailsR m.fails p.fa p.fn p.fc p.F
  mapn : MapE kyE (vlE p.ps) p.esn p.ckn p.Mn
  isn : MapIsA Ent.name p.Mn m.now
  maps : MapE kyE (vlE p.ps) p.ess p.cks p.Ms
  iss : MapIsA Ent.name p.Ms m.syn
def dskL (m : DiskM) (p : DP) : List Value := [.int .i64 (m.steps : Int), .bool m.down, .bool m.arm.isSome, .int .i64 p.av, .slice p.fa p.fn p.fc, .int .i64 m.size, .map (some p.gn), .map (some p.gs), .slice p.ca m.chs.length p.cc]
def resD (gd : Nat) (m : DiskM) (p : DP) : List Res := [.arr gd 82 (dskL m p), .blk p.gn (.map p.esn p.ckn), .blk p.gs (.map p.ess p.cks), .row 89 3 (.slice p.ca m.chs.length p.cc) m.chs.length (m.chs.flatMap (chC p.ps)), p.F]
/-- A disk that is held; ps: where its files' blocks lie. -/
def DiskIn (w0 : World) (X : List Nat) (w : World) (gd : Nat) (ps : List Nat) (m : DiskM) (N : List Res) : Prop := ∃ p, p.ps = ps ∧ DOk m p ∧ St w0 X w (resD gd m p ++ DR p.FL N)

section
variable {w0 w w' : World} {X : List Nat} {N N' : List Res} {gd : Nat} {ps : List Nat} {m : DiskM}

theorem DiskIn.same (h : DiskIn w0 X w gd ps m N) (hc : Chg [] w w') : DiskIn w0 X w' gd ps m N := by obtain ⟨p, hps, hp, hS⟩ := h; exact ⟨p, hps, hp, hS.same hc⟩
theorem DiskIn.chg (h : DiskIn w0 X w gd ps m N) : Chg X w0 w := by obtain ⟨p, _, hp, hS⟩ := h; exact hS.chg
theorem DiskIn.wf (h : DiskIn w0 X w gd ps m N) : WFD m := by obtain ⟨p, _, hp, hS⟩ := h; exact hp.wf
theorem DR_perm {FL : List FR} (h : N.Perm N') : (DR FL N).Perm (DR FL N') := List.Perm.append_left _ (List.Perm.append_left _ h)
theorem DiskIn.permN (h : DiskIn w0 X w gd ps m N) (hn : N.Perm N') : DiskIn w0 X w gd ps m N' := by obtain ⟨p, hps, hp, hS⟩ := h; exact ⟨p, hps, hp, hS.perm (List.Perm.append_left _ (DR_perm hn))⟩
theorem DiskIn.subN (h : DiskIn w0 X w gd ps m N) (hn : N'.Sublist N) : DiskIn w0 X w gd ps m N' := by
  obtain ⟨p, hps, hp, hS⟩ := h
  exact ⟨p, hps, hp, hS.sub (List.Sublist.append_left (List.Sublist.append_left (List.Sublist.append_left hn _) _) _)⟩
/-- What is held besides: it is in the state too. -/
theorem DiskIn.rest (h : DiskIn w0 X w gd ps m N) : St w0 X w N := by
  obtain ⟨p, hps, hp, hS⟩ := h
  exact hS.sub (((List.sublist_append_right _ _).trans (List.sublist_append_right _ _)).trans (List.sublist_append_right _ _))

theorem strT : ElemT Try.prog 39 9 1 16 (.string ByteArray.empty) := ⟨by kernel_rfl, ⟨Try.t9, by kernel_rfl, by kernel_rfl, by kernel_rfl, by kernel_rfl⟩, rfl, by decide⟩
theorem stA' (w : World) : (isAgg 9).run Try.prog w = .ok false w := Try.isAgg9 w
theorem stS' (w : World) : (sizeOf 9).run Try.prog w = .ok 1 w := Try.sizeOf9 w
theorem intA (w : World) : (isAgg 3).run Try.prog w = .ok false w := Try.isAgg3 w
theorem intS (w : World) : (sizeOf 3).run Try.prog w = .ok 1 w := Try.sizeOf3 w
theorem boolA (w : World) : (isAgg 4).run Try.prog w = .ok false w := Try.isAgg4 w
theorem boolS (w : World) : (sizeOf 4).run Try.prog w = .ok 1 w := Try.sizeOf4 w
theorem dirA (w : World) : (isAgg 77).run Try.prog w = .ok false w := Try.isAgg77 w
theorem dirS (w : World) : (sizeOf 77).run Try.prog w = .ok 1 w := Try.sizeOf77 w
theorem insA' (w : World) : (isAgg 48).run Try.prog w = .ok false w := Try.isAgg48 w
theorem insS (w : World) : (sizeOf 48).run Try.prog w = .ok 1 w := Try.sizeOf48 w
theorem chsA (w : World) : (isAgg 80).run Try.prog w = .ok false w := Try.isAgg80 w
theorem chsS (w : World) : (sizeOf 80).run Try.prog w = .ok 1 w := Try.sizeOf80 w
theorem bsS (w : World) : (sizeOf 22).run Try.prog w = .ok 1 w := Try.sizeOf22 w
theorem dirT : Try.prog.underlying 77 = some (.map 9 84) := Try.underlying77
theorem keyD (M : Dir) : KeyM Try.prog 9 strV (fun _ => True) kyE Ent.name M := ⟨str_ops Try.underlying9, fun _ => rfl, fun _ _ => trivial⟩
theorem pfZ (w : World) : (zeroValue 84).run Try.prog w = .ok (.pointer none) w := Try.zeroValue84 w

/-- A byte of a string. -/
theorem ixStr {T : TypeId} (hT : Try.prog.underlying T = some .string) {l : Nm} {i : Nat} (hi : i < l.length) (w : World) : (Instr.index T (.string ⟨l.toArray⟩) (.int .i64 (i : Int))).run Try.prog w = .ok (.int .u8 ((l.getD i 0).toNat : Int)) w := by
  have h1 : (⟨l.toArray⟩ : ByteArray)[i]? = some (l.getD i 0) := by
    have h2 : i < (⟨l.toArray⟩ : ByteArray).size := by show i < l.toArray.size; simpa using hi
    rw [getElem?_pos _ i h2]
    show some (l.toArray[i]'(by simpa using hi)) = _
    simp [List.getD, hi]
  have h0 : (0 : Int) ≤ (i : Int) := by omega
  simp only [Instr.index, Sem.run_bind, asIntOf, Sem.run_pure, run_underlying hT, Result.andThen_ok, h0, if_true, Int.toNat_natCast, h1]

theorem size_mk (l : Nm) : ((⟨l.toArray⟩ : ByteArray).size : Int) = (l.length : Int) := by show ((l.toArray.size : Nat) : Int) = _; simp
theorem empty_eq (l : Nm) : ((⟨l.toArray⟩ : ByteArray).toList == (ByteArray.mk #[]).toList) = decide (l.length = 0) := by
  rw [ByteArray.toList_eq, ByteArray.toList_eq]
  cases l <;> rfl

theorem goodName_spec (l : Nm) (w : World) : Calls Try.prog 68 #[strV l] w fun e w' => e = .returned (.bool (goodN l)) ∧ w' = w := by
  apply disk_goodName_vc
  rw [empty_eq, size_mk]
  refine ⟨fun h => ?_, fun h => ?_⟩
  · have : goodN l = false := by
      unfold goodN
      simp only [Bool.or_eq_true, decide_eq_true_eq] at h
      have : ¬ (0 < l.length ∧ l.length ≤ 64) := by omega
      by_cases h1 : 0 < l.length <;> by_cases h2 : l.length ≤ 64 <;> simp [h1, h2] <;> omega
    rw [this]
    exact ⟨rfl, rfl⟩
  · have hl : 0 < l.length ∧ l.length ≤ 64 := by
      simp only [Bool.or_eq_false_iff, decide_eq_false_iff_not] at h
      omega
    refine ⟨fun x w' => ∃ i : Nat, x = (i : Int) ∧ i ≤ l.length ∧ (l.take i).all goodB = true ∧ w' = w, fun x _ => l.length - x.toNat, ⟨0, rfl, by omega, by simp, rfl⟩, ?_⟩
    rintro x w1 ⟨i, rfl, hi, hall, rfl⟩
    refine ⟨fun h => ?_, fun h => ?_⟩
    · have hi' : i < l.length := by simp at h; omega
      have hx := ixStr (T := 9) Try.underlying9 hi' w1
      have hb : l[i]? = some (l.getD i 0) := by simp [List.getD, hi']
      obtain ⟨b, hbd⟩ : ∃ b, l.getD i 0 = b := ⟨_, rfl⟩
      rw [hbd] at hx hb
      refine ⟨fun y w' => y = !goodB b ∧ w' = w1, ⟨_, hx, fun h1 => ⟨?_, rfl⟩, fun h1 => ⟨_, hx, fun h2 => ⟨?_, rfl⟩, fun h2 => ⟨_, hx, ?_, rfl⟩⟩⟩, ?_⟩
      · simp only [decide_eq_true_eq] at h1
        have : ¬ 33 ≤ b.toNat := by omega
        simp [goodB, this]
      · simp only [decide_eq_true_eq] at h2
        have : ¬ b.toNat ≤ 126 := by omega
        simp [goodB, this]
      · simp only [decide_eq_false_iff_not] at h1 h2
        have e1 : 33 ≤ b.toNat := by omega
        have e2 : b.toNat ≤ 126 := by omega
        by_cases h3 : b.toNat = 47
        · simp [goodB, h3]
        · have : ¬ ((b.toNat : Int) = 47) := by omega
          simp [goodB, e1, e2, h3, this]
      · rintro y w2 ⟨rfl, rfl⟩
        refine ⟨fun hbad => ?_, fun hgd => ⟨⟨i + 1, wrap_succ hi' (by omega), by omega, ?_, rfl⟩, mu_succ hi' (by omega)⟩⟩
        · have : goodN l = false := by
            have h0 : l.all goodB = false := by
              rw [List.all_eq_false]
              exact ⟨b, List.mem_of_getElem? hb, by simpa using hbad⟩
            simp [goodN, h0]
          rw [this]
          exact ⟨rfl, rfl⟩
        · rw [List.take_add_one, hb, List.all_append, hall]
          simpa using hgd
    · have hi' : i = l.length := by simp at h; omega
      rw [hi', List.take_length] at hall
      have : goodN l = true := by simp [goodN, hl.1, hl.2, hall]
      rw [this]
      exact ⟨rfl, rfl⟩

/-- A cell of a disk. -/
theorem DiskIn.cell {p : DP} (hS : St w0 X w (resD gd m p ++ DR p.FL N)) {i : Nat} {v : Value} {T : TypeId} (hT : (isAgg T).run Try.prog w = .ok false w) (hv : (dskL m p)[i]? = some v) : (Instr.loadAt T (.pointer (some ⟨gd, i, none⟩))).run Try.prog w = .ok v w :=
  hS.ldL (i := 0) (o := i) rfl hT rfl hv

theorem readyE_first (m : DiskM) (ns : List Nm) : readyM m ns = if m.down then some 1 else if ns.all goodN then none else some 6 := rfl

theorem ready_spec (a : Option Addr) (n c : Nat) (ns : List Nm) (h : DiskIn w0 X w gd ps m N) (hr : Rd w a n c 1 (ns.map strV)) (hb : n ≤ 1000000) :
    Calls Try.prog 41 #[.pointer (some ⟨gd, 0, none⟩), .slice a n c] w fun e w' => e = .returned (errV (readyM m ns)) ∧ w' = w := by
  have hln : ns.length = n := by have := hr.len; simpa using this
  obtain ⟨p, hps, hp, hS⟩ := h
  apply disk_Disk_ready_vc
  refine ⟨_, DiskIn.cell hS (i := 1) (boolA _) rfl, fun hd => ?_, fun hd => ?_⟩
  · rw [readyM, hd]
    exact ⟨rfl, rfl⟩
  · refine ⟨fun x w' => ∃ i : Nat, x = (i : Int) ∧ i ≤ n ∧ (ns.take i).all goodN = true ∧ w' = w, fun x _ => n - x.toNat, ⟨0, rfl, by omega, by simp, rfl⟩, ?_⟩
    rintro x w1 ⟨i, rfl, hi, hall, rfl⟩
    refine ⟨fun h => ?_, fun h => ?_⟩
    · have hi' : i < n := by simp at h; omega
      have hx : (ns.map strV)[i]? = some (strV (ns.getD i [])) := by simp [List.getD, show i < ns.length by omega]
      have hx2 : ns[i]? = some (ns.getD i []) := by simp [List.getD, show i < ns.length by omega]
      obtain ⟨nm, hnm⟩ : ∃ nm, ns.getD i [] = nm := ⟨_, rfl⟩
      rw [hnm] at hx hx2
      obtain ⟨b, o, ha, hcell⟩ := hr.cells.at_ hx
      refine ⟨b, o, ha, by omega, by omega, _, by rw [Int.toNat_natCast, Nat.mul_one]; exact ld1 (stA' _) hcell, (goodName_spec nm w1).mono ?_⟩
      rintro e w2 ⟨rfl, rfl⟩
      refine ⟨_, rfl, fun hbad => ?_, fun hgd => ⟨⟨i + 1, wrap_succ hi' (by omega), by omega, ?_, rfl⟩, mu_succ hi' (by omega)⟩⟩
      · have : ns.all goodN = false := by
          rw [List.all_eq_false]
          exact ⟨nm, List.mem_of_getElem? hx2, by simpa using hbad⟩
        rw [readyM, hd, this]
        exact ⟨rfl, rfl⟩
      · rw [List.take_add_one, hx2, List.all_append, hall]
        simpa using hgd
    · have hi' : i = n := by simp at h; omega
      rw [hi', List.take_of_length_le (by omega)] at hall
      rw [readyM, hd, hall]
      exact ⟨rfl, rfl⟩

/-- The entry of a name. -/
theorem look_spec {p : DP} (hp : DOk m p) (hg : w.heap[p.gn]? = some (.map p.esn p.ckn)) (n : Nm) : (Instr.lookup 77 (.map (some p.gn)) (strV n) true).run Try.prog w = .ok (.tuple #[((findD m.now n).map (vlE p.ps)).getD (.pointer none), .bool (findD m.now n).isSome]) w := by
  have hl := hp.mapn.lookupK (P := Try.prog) (keyD p.Mn) dirT hg (id := n) trivial pfZ
  have hf := hp.isn.find n
  rw [hl]
  cases hq : fndM Ent.name p.Mn n with
  | none => rw [hq] at hf; rw [show findD m.now n = none from hf.symm]; rfl
  | some q => rw [hq] at hf; rw [show findD m.now n = some q.2 from hf.symm]; rfl

theorem found_spec (n : Nm) (h : DiskIn w0 X w gd ps m N) :
    Calls Try.prog 43 #[.pointer (some ⟨gd, 0, none⟩), strV n] w fun e w' => e = .returned (.tuple #[if foundE m n = none then ptrV ps (foundI m n) else .pointer none, errV (foundE m n)]) ∧ Chg [] w w' := by
  obtain ⟨mI, hI⟩ := eI
  apply disk_Disk_found_vc
  obtain ⟨g, w1, r1, h1⟩ := (St.start w).lit strT [strV n] (by simp [Value.oneCell', strV]) (by simp)
  have h1' := h1.chg
  refine ⟨_, _, _, w1, r1, (ready_spec _ _ _ [n] (h.same h1') (h1.rd (i := 0) rfl) (by simp)).mono ?_⟩
  rintro e w2 ⟨rfl, rfl⟩
  obtain ⟨p, hps, hp, hS⟩ := h
  have hrd : readyM m [n] = if m.down then some 1 else if goodN n then none else some 6 := by simp [readyM]
  refine ⟨_, rfl, _, neqS_nil hI _ _ _, fun hne => ?_, fun hok => ?_⟩
  · have hfr : foundE m n = readyM m [n] := by
      rw [hrd] at hne ⊢
      unfold foundE
      cases hd : m.down <;> cases hg : goodN n <;> simp [hd, hg] at hne ⊢
    have hn0 : ¬ foundE m n = none := fun e => by rw [hfr] at e; rw [e] at hne; simp at hne
    rw [if_neg hn0, hfr]
    exact ⟨rfl, h1'⟩
  · have hdn : m.down = false ∧ goodN n = true := by
      rw [hrd] at hok
      cases hd : m.down <;> cases hg : goodN n <;> simp [hd, hg] at hok ⊢
    have hS1 := hS.same h1'
    have hlk := look_spec hp (w := w2) (hS1.holds 1 _ rfl) n
    refine ⟨_, DiskIn.cell hS1 (i := 6) (dirA _) rfl, _, _, w2, hlk, fun hno => ?_, fun hyes => ?_⟩
    · have hf : findD m.now n = none := by
        cases hq : findD m.now n with
        | none => rfl
        | some e => rw [hq] at hno; simp at hno
      have : foundE m n = some 5 := by simp [foundE, hdn.1, hdn.2, hf]
      rw [this]
      exact ⟨rfl, h1'⟩
    · obtain ⟨e, hf⟩ : ∃ e, findD m.now n = some e := by
        cases hq : findD m.now n with
        | none => rw [hq] at hyes; simp at hyes
        | some e => exact ⟨e, rfl⟩
      have hfe : foundE m n = none := by simp [foundE, hdn.1, hdn.2, hf]
      have hfi : foundI m n = e.file := by simp [foundI, hf]
      rw [hfe, hf, hfi, ← hps]
      exact ⟨rfl, h1'⟩

/-- A file of a disk. -/
theorem DOk.file {p : DP} (hp : DOk m p) {i : Nat} (hi : i < m.files.length) : ∃ f, p.FL[i]? = some f ∧ p.ps.getD i 0 = f.g ∧ fileAt m.files i = ⟨f.data, f.syn⟩ := by
  have hl : p.FL.length = m.files.length := by have := congrArg List.length hp.files; simpa using this
  have hf : p.FL[i]? = some p.FL[i] := List.getElem?_eq_getElem (by omega)
  refine ⟨p.FL[i], hf, ?_, ?_⟩
  · simp [DP.ps, List.getD, show i < p.FL.length by omega]
  · rw [← hp.files]
    simp [fileAt, List.getD, show i < p.FL.length by omega, FR.m]

theorem St.ldFile {R : List Res} {FL : List FR} {i : Nat} {f : FR} (h : St w0 X w (R ++ DR FL N)) (hf : FL[i]? = some f) :
    (Instr.loadAt 22 (.pointer (some ⟨f.g, 0, none⟩))).run Try.prog w = .ok (.slice f.a f.data.length f.c) w ∧ (Instr.loadAt 3 (.pointer (some ⟨f.g, 1, none⟩))).run Try.prog w = .ok (.int .i64 (f.syn : Int)) w ∧ RdB w f.a f.data.length f.c f.data := by
  have h1 := h.perm (perm_DR hf R N)
  exact ⟨h1.ldL (i := 0) (o := 0) rfl (bsA _) rfl rfl, h1.ldL (i := 0) (o := 1) rfl (intA _) rfl rfl, h1.rd (i := 1) rfl⟩

theorem foundI_lt (hw : WFD m) {n : Nm} (h : foundE m n = none) : foundI m n < m.files.length ∧ ∃ e ∈ m.now, e.name = n ∧ e.file = foundI m n ∧ findD m.now n = some e := by
  have hf : ∃ e, findD m.now n = some e := by
    unfold foundE at h
    split at h
    · cases h
    · split at h
      · cases h
      · split at h
        · cases h
        · rename_i hq
          cases hz : findD m.now n with
          | none => rw [hz] at hq; simp at hq
          | some e => exact ⟨e, rfl⟩
  obtain ⟨e, hf⟩ := hf
  obtain ⟨h1, h2⟩ := findA_mem hf
  have hfi : foundI m n = e.file := by simp [foundI, hf]
  rw [hfi]
  exact ⟨(hw.okNow.ent e h1).1, e, h1, h2, rfl, hf⟩

theorem St.putBlk {M : List Res} (h : St w0 X w M) {i g : Nat} {o o' : Obj} (hi : M[i]? = some (.blk g o)) : St w0 X (w.putObj g o') (M.set i (.blk g o')) := by
  have hg : w.heap[g]? = some o := h.holds i _ hi
  have hlt := (Array.getElem?_eq_some_iff.1 hg).1
  refine h.upd hi ⟨rfl, rfl, rfl, by simp, fun k hk hx => ?_⟩ (World.putObj_heap_same hlt) (by simp [Res.fp])
  exact World.putObj_heap_other fun e => hx (by simp [Res.fp, e])

end

end Go.Proofs.Ytoijbpkplegnkaa
