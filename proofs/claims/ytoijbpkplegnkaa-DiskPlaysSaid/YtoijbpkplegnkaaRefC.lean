/- The document's answer of chapter 1 in memory: found, step (conditions: those that each theorem names). -/
import Derived.Test.YtoijbpkplegnkaaRefB
namespace Go.Proofs.Ytoijbpkplegnkaa
open Go Sx
set_option maxRecDepth 8000

/-- A file of the document's: its bytes lie in a row that is never written. -/
structure FD where
  a : Option Addr
  c : Nat
  data : List UInt8
  syn : Nat
def FD.cells (f : FD) : List Value := [.slice f.a f.data.length f.c, .int .i64 (f.syn : Int)]
theorem FD.cells_len (f : FD) : f.cells.length = 2 := rfl
theorem FD.cells_one (f : FD) : ∀ v ∈ f.cells, v.oneCell' = true := fun v hv => by
  simp only [FD.cells, List.mem_cons, List.not_mem_nil, or_false] at hv
  rcases hv with rfl | rfl <;> rfl
def FD.row (f : FD) : Res := .row 5 1 (.slice f.a f.data.length f.c) f.data.length (bv f.data)
def FD.m (f : FD) : FileM := ⟨f.data, f.syn⟩
structure RP where
  Fa : Option Addr
  Fc : Nat
  FL : List FD
  na : Option Addr
  nc : Nat
  sa : Option Addr
  sc : Nat
  ca : Option Addr
  cc : Nat
  fa : Option Addr
  fc : Nat
  P : List Res
def armV (m : DiskM) : Int := match m.arm with | some k => (k : Int) | none => -1
/-- Each noted rename finds its name. -/
def Live (m : DiskM) : Prop := ∀ k c, m.chs[k]? = some c → c.made = none → (findD (replay m.syn (m.chs.take k)) c.fr).isSome = true
structure ROk (m : DiskM) (p : RP) : Prop where
  wf : WFD m
  live : Live m
  files : p.FL.map FD.m = m.files
  now : rowN p.na p.nc m.now ∈ p.P
  syn : rowN p.sa p.sc m.syn ∈ p.P
  arm : ∀ k, m.arm = some k → k ≤ 9223372036854775807
  fails : ∀ x ∈ m.fails, x ≤ 9223372036854775807
  flen : m.fails.length * 8 ≤ 140737488355328
def rdL (m : DiskM) (p : RP) : List Value := [.int .i64 m.size, .slice p.Fa p.FL.length p.Fc, .slice p.na m.now.length p.nc, .slice p.sa m.syn.length p.sc, .slice p.ca m.chs.length p.cc, .int .i64 (m.steps : Int), .bool m.down, .int .i64 (armV m), .slice p.fa m.fails.length p.fc]
def resR (gr : Nat) (m : DiskM) (p : RP) : List Res := [.arr gr 102 (rdL m p), .row 122 2 (.slice p.Fa p.FL.length p.Fc) p.FL.length (p.FL.flatMap FD.cells), .row 124 3 (.slice p.ca m.chs.length p.cc) m.chs.length (m.chs.flatMap chR), .row 3 1 (.slice p.fa m.fails.length p.fc) m.fails.length (niv m.fails)]
def RefIn (w0 : World) (X : List Nat) (w : World) (gr : Nat) (m : DiskM) (N : List Res) : Prop := ∃ p, ROk m p ∧ St w0 X w (resR gr m p ++ (p.FL.map FD.row ++ (p.P ++ N)))

theorem nsA (w : World) : (isAgg 99).run Try.prog w = .ok false w := Try.isAgg99 w
theorem nsS (w : World) : (sizeOf 99).run Try.prog w = .ok 1 w := Try.sizeOf99 w
theorem fsA (w : World) : (isAgg 98).run Try.prog w = .ok false w := Try.isAgg98 w
theorem fsS (w : World) : (sizeOf 98).run Try.prog w = .ok 1 w := Try.sizeOf98 w
theorem csA (w : World) : (isAgg 100).run Try.prog w = .ok false w := Try.isAgg100 w
theorem csS (w : World) : (sizeOf 100).run Try.prog w = .ok 1 w := Try.sizeOf100 w

section
variable {w0 w w' : World} {X : List Nat} {N N' T : List Res} {gr : Nat} {m : DiskM}

theorem RefIn.same (h : RefIn w0 X w gr m N) (hc : Chg [] w w') : RefIn w0 X w' gr m N := by obtain ⟨p, hp, hS⟩ := h; exact ⟨p, hp, hS.same hc⟩
theorem RefIn.chg (h : RefIn w0 X w gr m N) : Chg X w0 w := by obtain ⟨p, hp, hS⟩ := h; exact hS.chg
theorem RefIn.wf (h : RefIn w0 X w gr m N) : WFD m := by obtain ⟨p, hp, hS⟩ := h; exact hp.wf
theorem RefIn.rest (h : RefIn w0 X w gr m N) : St w0 X w N := by
  obtain ⟨p, hp, hS⟩ := h
  exact hS.sub (((List.sublist_append_right _ _).trans (List.sublist_append_right _ _)).trans (List.sublist_append_right _ _))

/-- A row of the pool. -/
theorem poolRd {p : RP} {R : List Res} {a : Option Addr} {c : Nat} {d : Dir} (hS : St w0 X w (R ++ (p.FL.map FD.row ++ (p.P ++ N)))) (hm : rowN a c d ∈ p.P) : RdN w a d.length c d := by
  have h1 : rowN a c d ∈ R ++ (p.FL.map FD.row ++ (p.P ++ N)) := List.mem_append_right _ (List.mem_append_right _ (List.mem_append_left _ hm))
  obtain ⟨i, hi⟩ := List.getElem?_of_mem h1
  exact rdN_of hS hi

theorem RefIn.cell {p : RP} (hS : St w0 X w (resR gr m p ++ (p.FL.map FD.row ++ (p.P ++ N)))) {i : Nat} {v : Value} {T : TypeId} (hT : (isAgg T).run Try.prog w = .ok false w) (hv : (rdL m p)[i]? = some v) : (Instr.loadAt T (.pointer (some ⟨gr, i, none⟩))).run Try.prog w = .ok v w :=
  hS.ldL (i := 0) (o := i) rfl hT rfl hv

theorem rfound_spec (n : Nm) (h : RefIn w0 X w gr m N) :
    Calls Try.prog 73 #[.pointer (some ⟨gr, 0, none⟩), strV n] w fun e w' => e = .returned (.tuple #[.int .i64 (if foundE m n = none then (foundI m n : Int) else -1), .int .i64 ((foundE m n).getD 0)]) ∧ w' = w := by
  obtain ⟨p, hp, hS⟩ := h
  have hln := hp.wf.okNow.len
  apply amphoraref01_Disk_found_vc
  refine ⟨_, RefIn.cell hS (i := 6) (boolA _) rfl, fun hd => ?_, fun hd => (name_spec n w).mono ?_⟩
  · have : foundE m n = some 1 := by unfold foundE; rw [if_pos hd]
    rw [this]; exact ⟨rfl, rfl⟩
  · rintro e w1 ⟨rfl, rfl⟩
    refine ⟨_, rfl, fun hg => ?_, fun hg => ⟨_, _, _, RefIn.cell hS (i := 2) (nsA _) rfl, (find_spec _ _ _ m.now n w1 (poolRd hS hp.now) (by omega)).mono ?_⟩⟩
    · have : foundE m n = some 6 := by unfold foundE; rw [if_neg (by rw [hd]; simp), if_pos hg]
      rw [this]; exact ⟨rfl, rfl⟩
    · rintro e w2 ⟨rfl, rfl⟩
      cases hf : findD m.now n with
      | none =>
        have h1 : findV m.now n = -1 := by rw [findV, hf]
        have h2 : foundE m n = some 5 := by unfold foundE; rw [if_neg (by rw [hd]; simp), if_neg (by rw [hg]; simp), hf]; rfl
        rw [h1, h2]
        exact ⟨_, rfl, fun _ => ⟨rfl, rfl⟩, fun h => (by simp at h)⟩
      | some e =>
        have h1 : findV m.now n = (e.file : Int) := by rw [findV, hf]
        have h2 : foundE m n = none := by unfold foundE; rw [if_neg (by rw [hd]; simp), if_neg (by rw [hg]; simp), hf]; rfl
        have h3 : foundI m n = e.file := by unfold foundI; rw [hf]; rfl
        rw [h1, h2, h3]
        exact ⟨_, rfl, fun h => (by simp at h; omega), fun _ => ⟨rfl, rfl⟩⟩

theorem Live.same {m m' : DiskM} (h : Live m) (e1 : m'.chs = m.chs) (e2 : m'.syn = m.syn) : Live m' := by
  unfold Live
  rw [e1, e2]
  exact h
theorem Live.step {m : DiskM} (h : Live m) : Live (stepM m).1 := by
  obtain ⟨_, _, e3, e4, _⟩ := stepM_same m
  exact h.same e3 e4
theorem Live.note {m : DiskM} (h : Live m) (hw : WFD m) {c : ChM} (hc : c.made = none → (findD m.now c.fr).isSome = true) : Live (doCh m c) := by
  intro k c' hk hm
  have hk : (m.chs ++ [c])[k]? = some c' := hk
  show (findD (replay m.syn ((m.chs ++ [c]).take k)) c'.fr).isSome = true
  by_cases hl : k < m.chs.length
  · rw [List.getElem?_append_left hl] at hk
    rw [List.take_append_of_le_length (by omega)]
    exact h k c' hk hm
  · have hkl := (List.getElem?_eq_some_iff.1 hk).1
    have : k = m.chs.length := by simp at hkl; omega
    subst this
    rw [List.getElem?_append_right (Nat.le_refl _), Nat.sub_self] at hk
    have : c = c' := Option.some.inj hk
    subst this
    rw [List.take_append_of_le_length (Nat.le_refl _), List.take_length, ← hw.now]
    exact hc hm
theorem Live.none {m : DiskM} (h : m.chs = []) : Live m := by
  intro k c hk _
  rw [h] at hk
  simp at hk

theorem ROk.upd {p : RP} (hp : ROk m p) (s : Nat) (d : Bool) (a : Option Nat) (f : List Nat) {fa : Option Addr} {fc : Nat} (ha : ∀ k, a = some k → k ≤ 9223372036854775807) (hf : ∀ x ∈ f, x ≤ 9223372036854775807) (hl : f.length * 8 ≤ 140737488355328) : ROk { m with steps := s, down := d, arm := a, fails := f } { p with fa := fa, fc := fc } :=
  ⟨hp.wf.upd s d a f, hp.live.same rfl rfl, hp.files, hp.now, hp.syn, ha, hf, hl⟩

end

end Go.Proofs.Ytoijbpkplegnkaa
