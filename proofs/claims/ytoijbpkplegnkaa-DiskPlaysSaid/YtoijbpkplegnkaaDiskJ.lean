/- A disk in memory: Files, Put, Drop (conditions: those that each theorem names). -/
import Derived.Test.YtoijbpkplegnkaaDiskI
namespace Go.Proofs.Ytoijbpkplegnkaa
open Go Sx
set_option maxRecDepth 8000

/-- A file as it is told: its name, its row. -/
structure FV where
  name : Nm
  a : Option Addr
  c : Nat
  data : List UInt8
def FV.cells (v : FV) : List Value := [strV v.name, .slice v.a v.data.length v.c]
def FV.row (v : FV) : Res := .row 5 1 (.slice v.a v.data.length v.c) v.data.length (bv v.data)
def FV.t (v : FV) : Nm × List UInt8 := (v.name, v.data)
def filesM (m : DiskM) : List (Nm × List UInt8) := m.now.map fun e => (e.name, (fileAt m.files e.file).data)

section
variable {w0 w w' : World} {X : List Nat} {N N' : List Res} {gd : Nat} {ps : List Nat} {m : DiskM}

theorem lookF {gs : List Nat} {g : Nat} {es : Array MapEntry} {ck : Nat} {Mn d : Dir} (hE : MapE kyE (vlE gs) es ck Mn) (hD : MapIsA Ent.name Mn d) (hg : w.heap[g]? = some (.map es ck)) {e : Ent} (he : e ∈ d) :
    (Instr.lookup 77 (.map (some g)) (strV e.name) false).run Try.prog w = .ok (ptrV gs e.file) w := by
  have hf := hE.findK (P := Try.prog) (keyD Mn) (id := e.name) trivial w
  have hc := (keyD Mn).ops.chk e.name trivial es.isEmpty w
  have h1 := hD.find e.name
  rw [(findA_iff hD.asc).2 he] at h1
  obtain ⟨⟨j, e'⟩, hj, h2⟩ := Option.map_eq_some_iff.1 h1
  simp only at h2
  subst h2
  rw [hj] at hf
  simp [Instr.lookup, getObj, run_underlying dirT, Sem.run, hg, Result.andThen, hc, hf]

theorem DMem.file {p : DP} (hp : DMem m p) {i : Nat} (hi : i < m.files.length) : ∃ f, p.FL[i]? = some f ∧ p.ps.getD i 0 = f.g ∧ fileAt m.files i = ⟨f.data, f.syn⟩ ∧ f.data.length ≤ 1099511627776 ∧ f.syn ≤ f.data.length := by
  have hl : p.FL.length = m.files.length := by have := congrArg List.length hp.files; simpa using this
  have hf : p.FL[i]? = some p.FL[i] := List.getElem?_eq_getElem (by omega)
  have hfm : fileAt m.files i = ⟨p.FL[i].data, p.FL[i].syn⟩ := by
    rw [← hp.files]
    simp [fileAt, List.getD, show i < p.FL.length by omega, FR.m]
  have := hp.fsyn (fileAt m.files i) (by simp [fileAt, List.getD, hi])
  rw [hfm] at this
  exact ⟨p.FL[i], hf, by simp [DP.ps, List.getD, show i < p.FL.length by omega], hfm, this.2, this.1⟩

theorem fileT : ElemT Try.prog 37 42 2 40 (.agg #[.string ByteArray.empty, .slice none 0 0]) := ⟨by kernel_rfl, ⟨Try.t42, by kernel_rfl, by kernel_rfl, by kernel_rfl, by kernel_rfl⟩, rfl, by decide⟩
theorem built_file : Try.prog.built 42 = fun parts => Instr.fill (fun i => (#[(0, 1), (1, 1)] : Array (Nat × Nat))[i]?) #[.string ⟨#[]⟩, .slice none 0 0] parts := by kernel_rfl
theorem file_build (n : Nm) (a : Option Addr) (k c : Nat) (w : World) : (Instr.build 42 #[(0, strV n), (1, .slice a k c)]).run Try.prog w = .ok (.agg #[strV n, .slice a k c]) w := by
  apply run_build
  rw [built_file]
  show Instr.fill _ _ [(0, strV n), (1, _)] = _
  rw [fill_step (off := 0) (sz := 1) rfl rfl (by simp), fill_step (off := 1) (sz := 1) rfl rfl (by simp [Value.cells, strV])]
  rfl
theorem built_dfile : Try.prog.built 87 = fun parts => Instr.fill (fun i => (#[(0, 1), (1, 1)] : Array (Nat × Nat))[i]?) #[.slice none 0 0, .int .i64 0] parts := by kernel_rfl
theorem dfile_build (a : Option Addr) (k c : Nat) (w : World) : (Instr.build 87 #[(0, .slice a k c)]).run Try.prog w = .ok (.agg #[.slice a k c, .int .i64 0]) w := by
  apply run_build
  rw [built_dfile]
  show Instr.fill _ _ [(0, _)] = _
  rw [fill_step (off := 0) (sz := 1) rfl rfl (by simp)]
  rfl

theorem files_spec {p : DP} (hp : DMem m p) (hS : St w0 X w (resD gd m p ++ DR p.FL N)) :
    Calls Try.prog 17 #[.pointer (some ⟨gd, 0, none⟩)] w fun e w' => ∃ (a : Option Addr) (c : Nat) (L : List FV), e = .returned (.slice a L.length c) ∧ L.map FV.t = filesM m ∧ St w [] w' (.row 42 2 (.slice a L.length c) L.length (L.flatMap FV.cells) :: L.map FV.row) := by
  apply disk_Disk_Files_vc
  have hnl : (namesM m).length = m.now.length := by simp [namesM]
  have hlen := hp.okn.len
  refine (list_spec hp hS).mono ?_
  rintro e w1 ⟨na, nc, rfl, h1⟩
  refine ⟨_, _, _, rfl, fun xa xn xc x w' => ∃ (i : Nat) (L : List FV), x = (i : Int) ∧ i ≤ m.now.length ∧ xn = L.length ∧ L.map FV.t = (filesM m).take i ∧ St w [] w' ([.row 9 1 (.slice na (namesM m).length nc) (namesM m).length ((namesM m).map strV), .row 42 2 (.slice xa L.length xc) L.length (L.flatMap FV.cells)] ++ L.map FV.row), fun _ _ _ x _ => m.now.length - x.toNat,
    ⟨0, [], rfl, by omega, rfl, rfl, h1.addNil _ _⟩, ?_⟩
  rintro xa xn xc x w2 ⟨i, L, rfl, hi, rfl, hL, h2⟩
  have hLl : L.length = i := by have := congrArg List.length hL; simp [filesM] at this; omega
  refine ⟨fun hlt => ?_, fun hge => ?_⟩
  · have hi' : i < m.now.length := by simp at hlt; omega
    have he : m.now[i]? = some m.now[i] := List.getElem?_eq_getElem hi'
    obtain ⟨e, hed⟩ : ∃ e, m.now[i] = e := ⟨_, rfl⟩
    rw [hed] at he
    have hem : e ∈ m.now := List.mem_of_getElem? he
    have hnm : ((namesM m).map strV)[i]? = some (strV e.name) := by rw [namesM, List.getElem?_map, List.getElem?_map, he]; rfl
    obtain ⟨b, o, ha, hcell⟩ := (h2.rd (i := 0) rfl).cells.at_ hnm
    have hS2 := hS.same h2.chg
    have hg2 : w2.heap[p.gn]? = some (.map p.esn p.ckn) := hS2.holds 1 _ rfl
    obtain ⟨f, hf, hpg, hfm, hdl, _⟩ := hp.file (hp.okn.ent e hem).1
    have hlk := lookF hp.mapn hp.isn hg2 hem
    have hptr : ptrV p.ps e.file = .pointer (some ⟨f.g, 0, none⟩) := by show Value.pointer (some ⟨p.ps.getD _ 0, 0, none⟩) = _; rw [hpg]
    rw [hptr] at hlk
    obtain ⟨l1, _, l3⟩ := St.ldFile hS2 hf
    refine ⟨b, o, ha, by omega, by omega, _, by rw [Int.toNat_natCast, Nat.mul_one]; exact ld1 (stA' _) hcell, _, hS2.ldL (i := 0) (o := 6) rfl (dirA _) rfl rfl, f.g, 0, hlk, _, _, _, l1, (clone_spec _ _ _ _ _ l3 (by omega)).mono ?_⟩
    rintro e3 w3 ⟨a3, c3, rfl, h3⟩
    let v : FV := ⟨e.name, a3, c3, f.data⟩
    have h4 := h3.add h2
    obtain ⟨g4, w4, va, vc, w5, r4, r5, h5, _⟩ := h4.pushA (i := 1) (ty := 37) fileT rfl v.cells rfl (by decide) (fun u hu => by simp only [v, FV.cells, List.mem_cons, List.not_mem_nil, or_false] at hu; rcases hu with rfl | rfl <;> rfl) (by omega) (by simp only [maxLen]; omega)
    refine ⟨_, _, _, rfl, _, file_build e.name a3 _ c3 w3, _, _, _, w4, r4, va, _, vc, w5, r5, ⟨i + 1, L ++ [v], wrap_succ hi' (by omega), by omega, by simp, ?_, ?_⟩, mu_succ hi' (by omega)⟩
    · rw [List.map_append, hL, List.take_add_one, filesM, List.getElem?_map, he]
      simp only [Option.map_some, Option.toList_some, hfm]
      rfl
    · have e1 : (L ++ [v]).flatMap FV.cells = L.flatMap FV.cells ++ v.cells := by simp
      have e2 : (L ++ [v]).length = L.length + 1 := by simp
      have e3 : (L ++ [v]).map FV.row = L.map FV.row ++ [v.row] := by simp
      rw [e1, e2, e3, ← List.append_assoc]
      exact h5
  · have hi' : i = m.now.length := by simp at hge; omega
    refine ⟨xa, xc, L, rfl, ?_, h2.tail⟩
    rw [hL, hi', List.take_of_length_le (by simp [filesM])]

/-! ### Put, Drop -/
set_option maxHeartbeats 1000000 in
theorem put_spec (n : Nm) (a : Option Addr) (k c : Nat) (data : List UInt8) (h : DiskIn w0 X w gd ps m N) (hr : RdB w a k c data) (hk : k ≤ 1099511627776) :
    Calls Try.prog 37 #[.pointer (some ⟨gd, 0, none⟩), strV n, .slice a k c] w fun e w' => e = .returned (errV (putM m n data).2) ∧ ∃ ps', DiskIn w0 X w' gd ps' (putM m n data).1 N := by
  have hdl := hr.lenB
  apply disk_Disk_Put_vc
  refine (goodName_spec n w).mono ?_
  rintro e w1 ⟨rfl, rfl⟩
  refine ⟨_, rfl, fun hb => ?_, fun hg => ?_⟩
  · have : putM m n data = (m, some 6) := by unfold putM; rw [if_pos hb]
    rw [this]
    exact ⟨rfl, ps, h⟩
  have hgood : goodN n = true := by simpa using hg
  have hpm : putM m n data = if (findD m.now n).isNone && decide (4096 ≤ m.now.length) then (m, some 19) else (putF m n data, none) := by unfold putM; rw [if_neg (by rw [hg]; simp)]
  obtain ⟨p, hps, hp, hS⟩ := h
  have hlk := look_spec hp (w := w1) (hS.holds 1 _ rfl) n
  have hml := hp.isn.perm.length_eq
  refine ⟨_, DiskIn.cell hS (i := 6) (dirA _) rfl, _, _, w1, hlk, fun x w' => x = ((findD m.now n).isNone && decide (4096 ≤ m.now.length)) ∧ w' = w1, ⟨fun hno => ?_, fun hyes => ⟨?_, rfl⟩⟩, ?_⟩
  · refine ⟨_, DiskIn.cell hS (i := 6) (dirA _) rfl, _, w1, hp.mapn.lenOf (P := Try.prog) dirT (hS.holds 1 _ rfl) _, ?_, rfl⟩
    have hnn : (findD m.now n).isNone = true := by simpa using hno
    rw [hnn, hml]
    have : decide ((m.now.length : Int) ≥ 4096) = decide (4096 ≤ m.now.length) := by
      by_cases h : 4096 ≤ m.now.length
      · rw [decide_eq_true h, decide_eq_true (by omega)]
      · rw [decide_eq_false h, decide_eq_false (by omega)]
    rw [this]; rfl
  · have : (findD m.now n).isNone = false := by
      cases hq : findD m.now n with
      | none => rw [hq] at hyes; simp at hyes
      | some e => rfl
    rw [this]; rfl
  rintro x w4 ⟨rfl, rfl⟩
  refine ⟨fun hmany => ?_, fun hok => ?_⟩
  · rw [hpm, if_pos hmany]
    exact ⟨rfl, ps, p, hps, hp, hS⟩
  have hres : putM m n data = (putF m n data, none) := by rw [hpm, if_neg (by rw [hok]; simp)]
  rw [hres]
  have hSd := hS.drew
  have hrd : RdB w4.drew a k c data := hr.keep0 (Chg.drew _ _)
  refine ⟨fun w' => ∃ Y, St w0 X w' (.arr gd 82 (dskL m p) :: Y), ⟨_, hSd⟩, .map (some p.gn), fun w' ⟨Y, hY⟩ => hY.ldL (i := 0) (o := 6) rfl (dirA _) rfl rfl, (clone_spec _ _ _ _ _ hrd (by omega)).mono ?_⟩
  rintro e w5 ⟨a5, c5, rfl, h5⟩
  have h6 := h5.add hSd
  obtain ⟨g, w6, r6, h7⟩ := h6.boxA (P := Try.prog) 87 [.slice a5 k c5, .int .i64 0]
  let f : FR := ⟨g, a5, c5, data, 0⟩
  have hfr : f.row = .row 5 1 (.slice a5 k c5) k (bv data) := by show Res.row _ _ (.slice a5 data.length c5) data.length _ = _; rw [hdl]
  have hfb : f.blk = .arr g 87 [.slice a5 k c5, .int .i64 0] := by show Res.arr g _ [.slice a5 data.length c5, _] = _; rw [hdl]; rfl
  have h7' : St w0 X w6 ((resD gd m p ++ DR p.FL N) ++ [f.blk] ++ [f.row]) := by
    rw [hfr, hfb, List.append_assoc]
    rw [List.append_assoc] at h7
    exact h7.perm (List.Perm.append_left _ (.swap _ _ _))
  have h8 := St.addFile hp h7'
  have hp8 := hp.addFile f ⟨Nat.zero_le _, by show data.length ≤ _; omega⟩
  have hfm : f.m = ⟨data, 0⟩ := rfl
  rw [hfm] at h8 hp8
  obtain ⟨m2, hm2⟩ : ∃ m2, ({ m with files := m.files ++ [⟨data, 0⟩] } : DiskM) = m2 := ⟨_, rfl⟩
  obtain ⟨p2, hp2⟩ : ∃ p2, ({ p with FL := p.FL ++ [f] } : DP) = p2 := ⟨_, rfl⟩
  have hps2 : p2.ps = p.ps ++ [g] := by rw [← hp2]; simp [DP.ps, f]
  have hFL : p.FL ++ [f] = p2.FL := by rw [← hp2]
  have hgn2 : p.gn = p2.gn := by rw [← hp2]
  rw [hm2, hp2] at hp8
  rw [hm2, hp2, hFL] at h8
  have hm2n : m2.now = m.now := by rw [← hm2]
  have hm2f : m2.files = m.files ++ [⟨data, 0⟩] := by rw [← hm2]
  have hgn : w6.heap[p2.gn]? = some (.map p2.esn p2.ckn) := h8.holds 1 _ rfl
  obtain ⟨es', ck', rU, hE'⟩ := hp8.mapn.updateK (P := Try.prog) (keyD p2.Mn) dirT hgn (⟨n, m.files.length⟩ : Ent) trivial
  have hval : vlE p2.ps (⟨n, m.files.length⟩ : Ent) = .pointer (some ⟨g, 0, none⟩) := by
    show ptrV p2.ps m.files.length = _
    rw [hps2, ← hp.psl]
    exact ptr_new _ g
  rw [hval] at rU
  have rU' : (Instr.mapUpdate 77 (.map (some p.gn)) (strV n) (.pointer (some ⟨g, 0, none⟩))).run Try.prog w6 = .ok () (w6.putObj p2.gn (.map es' ck')) := by rw [hgn2]; exact rU
  have h9 := St.putBlk h8 (i := 1) (o' := .map es' ck') rfl
  have h9 : St w0 X (w6.putObj p2.gn (.map es' ck')) (resD gd { m2 with now := insA Ent.name m2.now ⟨n, m.files.length⟩ } { p2 with esn := es', ckn := ck', Mn := updM Ent.name p2.Mn ⟨n, m.files.length⟩ } ++ DR p2.FL N) := h9
  have hmem : DMem { m2 with now := insA Ent.name m2.now ⟨n, m.files.length⟩ } { p2 with esn := es', ckn := ck', Mn := updM Ent.name p2.Mn ⟨n, m.files.length⟩ } := by
    refine ⟨?_, hp8.wf.syn, hp8.wf.size, hp8.files, hp8.arm, hp8.fails, hE', hp8.isn.upd _⟩
    refine hp8.wf.okNow.ins (by rw [hm2f]; simp) hgood ?_ fun x hx _ => ?_
    · rw [hm2n]
      cases hq : findD m.now n with
      | none =>
        left
        rw [hq] at hok
        simp at hok
        omega
      | some e => right; simp
    · rw [hm2n] at hx
      have := (hp.wf.okNow.ent x hx).1
      omega
  refine ⟨_, _, _, rfl, fun w' => ∃ Y, St w0 X w' (.arr gd 82 (dskL m p) :: Y), fun _ h => h, ⟨_, h6⟩, _, fun w' _ => dfile_build a5 k c5 w', g, w6, r6, fun w' => ∃ Y, St w0 X w' (.arr gd 82 (dskL m p) :: Y), fun _ h => h, ⟨_, h7⟩, _, rU', fun w' => ∃ Y, St w0 X w' (.arr gd 82 (dskL m p) :: Y), fun _ h => h, ?_, (settle_spec hmem h9).mono ?_⟩
  · have : dskL m p = dskL { m2 with now := insA Ent.name m2.now ⟨n, m.files.length⟩ } { p2 with esn := es', ckn := ck', Mn := updM Ent.name p2.Mn ⟨n, m.files.length⟩ } := by rw [← hm2, ← hp2]; rfl
    rw [this]
    exact ⟨_, h9⟩
  · rintro e w8 ⟨rfl, h10⟩
    refine ⟨rfl, rfl, p2.ps, ?_⟩
    have : putF m n data = settleM { m2 with now := insA Ent.name m2.now ⟨n, m.files.length⟩ } := by rw [← hm2]; rfl
    rw [this]
    exact h10

theorem drop_spec (n : Nm) (h : DiskIn w0 X w gd ps m N) :
    Calls Try.prog 38 #[.pointer (some ⟨gd, 0, none⟩), strV n] w fun e w' => e = .returned (errV (dropM m n).2) ∧ DiskIn w0 X w' gd ps (dropM m n).1 N := by
  apply disk_Disk_Drop_vc
  refine (goodName_spec n w).mono ?_
  rintro e w1 ⟨rfl, rfl⟩
  refine ⟨_, rfl, fun hb => ?_, fun hg => ?_⟩
  · have : dropM m n = (m, some 6) := by unfold dropM; rw [if_pos hb]
    rw [this]
    exact ⟨rfl, h⟩
  have hdm : dropM m n = if (findD m.now n).isNone then (m, some 5) else (settleM { m with now := delA Ent.name m.now n }, none) := by unfold dropM; rw [if_neg (by rw [hg]; simp)]
  obtain ⟨p, hps, hp, hS⟩ := h
  have hgn : w1.heap[p.gn]? = some (.map p.esn p.ckn) := hS.holds 1 _ rfl
  have hlk := look_spec hp (w := w1) hgn n
  refine ⟨_, DiskIn.cell hS (i := 6) (dirA _) rfl, _, _, w1, hlk, fun hno => ?_, fun hyes => ?_⟩
  · have : (findD m.now n).isNone = true := by simpa using hno
    rw [hdm, if_pos this]
    exact ⟨rfl, p, hps, hp, hS⟩
  obtain ⟨e, hf⟩ : ∃ e, findD m.now n = some e := by
    cases hq : findD m.now n with
    | none => rw [hq] at hyes; simp at hyes
    | some e => exact ⟨e, rfl⟩
  have hres : dropM m n = (settleM { m with now := delA Ent.name m.now n }, none) := by rw [hdm, if_neg (by rw [hf]; simp)]
  rw [hres]
  have hfnd : ∃ j, fndM Ent.name p.Mn n = some (j, e) := by
    have h := hp.isn.find n
    have hf' : findA Ent.name m.now n = some e := hf
    rw [hf'] at h
    obtain ⟨⟨j, e'⟩, h1, h2⟩ := Option.map_eq_some_iff.1 h
    exact ⟨j, by rw [h1]; simp only at h2; rw [h2]⟩
  obtain ⟨j, hj⟩ := hfnd
  obtain ⟨es', rD, hD1, _⟩ := hp.mapn.deleteK (P := Try.prog) (keyD p.Mn) dirT hgn (id := n) trivial #[77, 9] rfl 0
  obtain ⟨_, hE'⟩ := hD1 j e hj
  have h2 := St.putBlk hS (i := 1) (o' := .map es' p.ckn) rfl
  have h2 : St w0 X (w1.putObj p.gn (.map es' p.ckn)) (resD gd { m with now := delA Ent.name m.now n } { p with esn := es', Mn := p.Mn.eraseIdx j } ++ DR p.FL N) := h2
  have hmem : DMem { m with now := delA Ent.name m.now n } { p with esn := es', Mn := p.Mn.eraseIdx j } := ⟨hp.wf.okNow.del n, hp.wf.syn, hp.wf.size, hp.files, hp.arm, hp.fails, hE', hp.isn.del hj⟩
  refine ⟨_, DiskIn.cell hS (i := 6) (dirA _) rfl, _, _, rD, (settle_spec hmem h2).mono ?_⟩
  rintro e w8 ⟨rfl, h10⟩
  refine ⟨rfl, rfl, ?_⟩
  rw [← hps]
  exact h10

end

end Go.Proofs.Ytoijbpkplegnkaa
