/- The disk of chapter 1 in plain words (conditions: none). -/
import Derived.Test.YtoijbpkplegnkaaAsc
namespace Go.Proofs.Ytoijbpkplegnkaa
open Go Sx
set_option maxRecDepth 8000

abbrev Nm := List UInt8
/-- A name with the number of its file. -/
structure Ent where
  name : Nm
  file : Nat
abbrev Dir := List Ent
/-- A change of the directory. -/
structure ChM where
  made : Option Nat
  fr : Nm
  to : Nm
structure FileM where
  data : List UInt8
  syn : Nat
structure DiskM where
  size : Int
  files : List FileM
  now : Dir
  syn : Dir
  chs : List ChM
  steps : Nat
  down : Bool
  arm : Option Nat
  fails : List Nat

def goodB (b : UInt8) : Bool := decide (33 ≤ b.toNat) && decide (b.toNat ≤ 126) && !decide (b.toNat = 47)
def goodN (l : Nm) : Bool := decide (0 < l.length) && decide (l.length ≤ 64) && l.all goodB

abbrev findD (d : Dir) (n : Nm) : Option Ent := findA Ent.name d n
def mkD (d : Dir) (c : ChM) : Dir := match c.made with
  | some i => insA Ent.name d ⟨c.to, i⟩
  | none => match findD d c.fr with
    | none => d
    | some e => if c.to = [] then delA Ent.name d c.fr else insA Ent.name (delA Ent.name d c.fr) ⟨c.to, e.file⟩
def replay (d : Dir) (cs : List ChM) : Dir := cs.foldl mkD d
theorem replay_snoc (d : Dir) (cs : List ChM) (c : ChM) : replay d (cs ++ [c]) = mkD (replay d cs) c := by simp [replay]

def file0 : FileM := ⟨[], 0⟩
def fileAt (fs : List FileM) (i : Nat) : FileM := fs.getD i file0
def usedM (m : DiskM) : Nat := (m.now.map fun e => (fileAt m.files e.file).data.length).sum
def setF (fs : List FileM) (i : Nat) (f : FileM → FileM) : List FileM := fs.set i (f (fileAt fs i))

def stepM (m : DiskM) : DiskM × Option Int :=
  if m.arm = some 0 then ({ m with down := true }, some 1)
  else match m.fails with
    | [] => ({ m with steps := m.steps + 1, arm := m.arm.map (· - 1) }, none)
    | 0 :: r => ({ m with steps := m.steps + 1, arm := m.arm.map (· - 1), fails := r }, some 2)
    | (k + 1) :: r => ({ m with steps := m.steps + 1, arm := m.arm.map (· - 1), fails := k :: r }, none)
def readyM (m : DiskM) (ns : List Nm) : Option Int := if m.down then some 1 else if ns.all goodN then none else some 6
def foundE (m : DiskM) (n : Nm) : Option Int := if m.down then some 1 else if !goodN n then some 6 else if (findD m.now n).isNone then some 5 else none
def foundI (m : DiskM) (n : Nm) : Nat := ((findD m.now n).map (·.file)).getD 0

/-- What a step does that has no error of its own: f behind a step that goes well. -/
def stepsM (m : DiskM) (f : DiskM → DiskM) : DiskM × Option Int := match (stepM m).2 with
  | some e => ((stepM m).1, some e)
  | none => (f (stepM m).1, none)
def chMade (m : DiskM) (n : Nm) : ChM := ⟨some m.files.length, [], n⟩
def doCh (m : DiskM) (c : ChM) : DiskM := { m with now := mkD m.now c, chs := m.chs ++ [c] }
def createF (m : DiskM) (n : Nm) : DiskM := { doCh m (chMade m n) with files := m.files ++ [file0] }
def createM (m : DiskM) (n : Nm) : DiskM × Option Int := match readyM m [n] with
  | some e => (m, some e)
  | none => if (findD m.now n).isSome then (m, some 4) else if 4096 ≤ m.now.length then (m, some 19) else stepsM m fun m => createF m n
def fits : Int → List (List UInt8) → Bool
  | _, [] => true
  | r, p :: ps => decide ((p.length : Int) ≤ r) && fits (r - p.length) ps
def appendF (m : DiskM) (i : Nat) (ps : List (List UInt8)) : DiskM := { m with files := setF m.files i fun f => ⟨f.data ++ ps.flatten, f.syn⟩ }
def appendM (m : DiskM) (n : Nm) (ps : List (List UInt8)) : DiskM × Option Int := match foundE m n with
  | some e => (m, some e)
  | none => if fits (m.size - usedM m) ps then stepsM m fun m' => appendF m' (foundI m n) ps else (m, some 3)
def syncF (m : DiskM) (i : Nat) : DiskM := { m with files := setF m.files i fun f => ⟨f.data, f.data.length⟩ }
def syncM (m : DiskM) (n : Nm) : DiskM × Option Int := match foundE m n with
  | some e => (m, some e)
  | none => stepsM m fun m' => syncF m' (foundI m n)
def syncDirF (m : DiskM) : DiskM := { m with syn := m.now, chs := [] }
def syncDirM (m : DiskM) : DiskM × Option Int := match readyM m [] with
  | some e => (m, some e)
  | none => stepsM m syncDirF
def renameM (m : DiskM) (a b : Nm) : DiskM × Option Int := match readyM m [a, b] with
  | some e => (m, some e)
  | none => match foundE m a with
    | some e => (m, some e)
    | none => stepsM m fun m => doCh m ⟨none, a, b⟩
def removeM (m : DiskM) (n : Nm) : DiskM × Option Int := match foundE m n with
  | some e => (m, some e)
  | none => stepsM m fun m => doCh m ⟨none, n, []⟩
def readF (m : DiskM) (n : Nm) : List UInt8 := if (foundE m n).isSome then [] else (fileAt m.files (foundI m n)).data
def rangeE (l : List UInt8) (at_ n : Int) : Bool := decide (at_ < 0) || decide (n < 0) || decide (at_ > (l.length : Int)) || decide (n > (l.length : Int) - at_)
def readAtE (m : DiskM) (n : Nm) (at_ k : Int) : Option Int := match foundE m n with
  | some e => some e
  | none => if rangeE (fileAt m.files (foundI m n)).data at_ k then some 7 else none
def readAtF (m : DiskM) (n : Nm) (at_ k : Int) : List UInt8 := if (readAtE m n at_ k).isSome then [] else ((fileAt m.files (foundI m n)).data.drop at_.toNat).take k.toNat
def armM (m : DiskM) (n : Int) : DiskM × Option Int := if n < 0 then (m, some 7) else ({ m with arm := some n.toNat }, none)
def failM (m : DiskM) (l : List Int) : DiskM × Option Int := if l.any (· < 0) then (m, some 7) else ({ m with fails := l.map Int.toNat }, none)
def settled (fs : List FileM) (d : Dir) : List FileM := d.foldl (fun fs e => setF fs e.file fun f => ⟨f.data, f.data.length⟩) fs
def settleM (m : DiskM) : DiskM := { m with files := settled m.files m.now, syn := m.now, chs := [] }
def cutF (more : Nat) (f : FileM) : FileM := ⟨f.data.take (f.syn + min more (f.data.length - f.syn)), f.syn⟩
def cutAt (cuts : List Int) (i : Nat) : Nat := (cuts.getD i 0).toNat
def cutAll (cuts : List Int) : Nat → Dir → List FileM → List FileM
  | _, [], fs => fs
  | i, e :: d, fs => cutAll cuts (i + 1) d (setF fs e.file (cutF (cutAt cuts i)))
def crashD (m : DiskM) (dirs : Int) : Dir := replay m.syn (m.chs.take dirs.toNat)
def crashM (m : DiskM) (dirs : Int) (cuts : List Int) : DiskM :=
  { settleM { m with now := crashD m dirs, files := cutAll cuts 0 (crashD m dirs) m.files } with down := false, arm := none, fails := [] }
def putF (m : DiskM) (n : Nm) (data : List UInt8) : DiskM := settleM { m with files := m.files ++ [⟨data, 0⟩], now := insA Ent.name m.now ⟨n, m.files.length⟩ }
def putM (m : DiskM) (n : Nm) (data : List UInt8) : DiskM × Option Int :=
  if !goodN n then (m, some 6) else if (findD m.now n).isNone && decide (4096 ≤ m.now.length) then (m, some 19) else (putF m n data, none)
def dropM (m : DiskM) (n : Nm) : DiskM × Option Int :=
  if !goodN n then (m, some 6) else if (findD m.now n).isNone then (m, some 5) else (settleM { m with now := delA Ent.name m.now n }, none)
def newM (size : Int) : DiskM := ⟨size, [], [], [], [], 0, false, none, []⟩

/-! ### what is always so -/
structure OkDir (k : Nat) (d : Dir) : Prop where
  asc : AscBy Ent.name d
  len : d.length ≤ 4096
  ent : ∀ e ∈ d, e.file < k ∧ goodN e.name = true
  inj : d.Pairwise fun x y => x.file ≠ y.file
structure WFD (m : DiskM) : Prop where
  now : m.now = replay m.syn m.chs
  dirs : ∀ k, OkDir m.files.length (replay m.syn (m.chs.take k))
  made : ∀ c ∈ m.chs, ∀ i, c.made = some i → i < m.files.length
  syn : ∀ f ∈ m.files, f.syn ≤ f.data.length ∧ f.data.length ≤ 1099511627776
  size : 0 ≤ m.size ∧ m.size ≤ 67108864

theorem WFD.okNow {m : DiskM} (h : WFD m) : OkDir m.files.length m.now := by
  have := h.dirs m.chs.length
  rw [List.take_length, ← h.now] at this
  exact this
theorem WFD.okSyn {m : DiskM} (h : WFD m) : OkDir m.files.length m.syn := h.dirs 0
theorem OkDir.mono {k k' : Nat} {d : Dir} (h : OkDir k d) (hk : k ≤ k') : OkDir k' d := ⟨h.asc, h.len, fun e he => ⟨by have := (h.ent e he).1; omega, (h.ent e he).2⟩, h.inj⟩
theorem okDir_nil (k : Nat) : OkDir k [] := ⟨List.Pairwise.nil, by simp, by simp, List.Pairwise.nil⟩
theorem OkDir.del {k : Nat} {d : Dir} (h : OkDir k d) (n : Nm) : OkDir k (delA Ent.name d n) :=
  ⟨asc_delA h.asc n, Nat.le_trans (delA_len _ _) h.len, fun e he => h.ent e (mem_delA.1 he).1, h.inj.sublist List.filter_sublist⟩
theorem OkDir.inj' {k : Nat} {d : Dir} (h : OkDir k d) {x y : Ent} (hx : x ∈ d) (hy : y ∈ d) (he : x.file = y.file) : x = y := by
  have hi := h.inj
  clear h
  induction d with
  | nil => simp at hx
  | cons z d ih =>
    have a := List.pairwise_cons.1 hi
    rcases List.mem_cons.1 hx with e1 | h1 <;> rcases List.mem_cons.1 hy with e2 | h2
    · rw [e1, e2]
    · rw [e1] at he; exact absurd he (a.1 y h2)
    · rw [e2] at he; exact absurd he.symm (a.1 x h1)
    · exact ih h1 h2 a.2
theorem OkDir.ins {k : Nat} {d : Dir} (h : OkDir k d) {n : Nm} {i : Nat} (hi : i < k) (hn : goodN n = true) (hl : d.length + 1 ≤ 4096 ∨ findD d n ≠ none) (hne : ∀ e ∈ d, e.name ≠ n → e.file ≠ i) : OkDir k (insA Ent.name d ⟨n, i⟩) := by
  refine ⟨asc_insA h.asc _, ?_, fun e he => ?_, ?_⟩
  · rcases hl with hl | hl
    · exact Nat.le_trans (insA_len d _) hl
    · exact Nat.le_trans (insA_len_in h.asc hl) h.len
  · rcases mem_insA.1 he with rfl | ⟨he, _⟩
    · exact ⟨hi, hn⟩
    · exact h.ent e he
  · unfold insA
    refine List.pairwise_append.2 ⟨h.inj.sublist List.filter_sublist, List.pairwise_cons.2 ⟨fun x hx => ?_, h.inj.sublist List.filter_sublist⟩, fun x hx y hy => ?_⟩
    · have h1 := List.mem_filter.1 hx
      exact (hne x h1.1 (lex_ne h1.2).symm).symm
    · have h1 := List.mem_filter.1 hx
      rcases List.mem_cons.1 hy with rfl | hy
      · exact hne x h1.1 (lex_ne h1.2)
      · have h2 := List.mem_filter.1 hy
        intro e
        have e2 := h.inj' h1.1 h2.1 e
        subst e2
        have := lex_trans _ _ _ h1.2 h2.2
        rw [lex_irrefl] at this
        cases this

theorem WFD.snoc {m : DiskM} (h : WFD m) {c : ChM} {fs : List FileM} (hfs : m.files.length ≤ fs.length) (hs : ∀ f ∈ fs, f.syn ≤ f.data.length ∧ f.data.length ≤ 1099511627776) (hc : ∀ i, c.made = some i → i < fs.length) (hd : OkDir fs.length (mkD m.now c)) :
    WFD { doCh m c with files := fs } := by
  refine ⟨?_, fun k => ?_, fun c' hc' => ?_, hs, h.size⟩
  · show mkD m.now c = replay m.syn (m.chs ++ [c])
    rw [replay_snoc, ← h.now]
  · show OkDir fs.length (replay m.syn ((m.chs ++ [c]).take k))
    by_cases hk : k ≤ m.chs.length
    · rw [List.take_append_of_le_length hk]
      exact (h.dirs k).mono hfs
    · rw [List.take_of_length_le (by simp; omega), replay_snoc, ← h.now]
      exact hd
  · rcases List.mem_append.1 hc' with h1 | h1
    · exact fun i hi => Nat.lt_of_lt_of_le (h.made c' h1 i hi) hfs
    · simp at h1; rw [h1]; exact hc
theorem stepM_cases (m : DiskM) : ∃ (s : Nat) (d : Bool) (a : Option Nat) (f : List Nat), (stepM m).1 = { m with steps := s, down := d, arm := a, fails := f } := by
  unfold stepM
  split
  · exact ⟨m.steps, true, m.arm, m.fails, by cases m; rfl⟩
  · split
    · rename_i h; exact ⟨_, m.down, _, [], by rw [← h]⟩
    · rename_i r h; exact ⟨_, m.down, _, _, rfl⟩
    · rename_i k r h; exact ⟨_, m.down, _, _, rfl⟩
theorem WFD.upd {m : DiskM} (h : WFD m) (s : Nat) (d : Bool) (a : Option Nat) (f : List Nat) : WFD { m with steps := s, down := d, arm := a, fails := f } := ⟨h.now, h.dirs, h.made, h.syn, h.size⟩
theorem WFD.step {m : DiskM} (h : WFD m) : WFD (stepM m).1 := by
  obtain ⟨s, d, a, f, e⟩ := stepM_cases m
  rw [e]; exact h.upd s d a f

end Go.Proofs.Ytoijbpkplegnkaa
