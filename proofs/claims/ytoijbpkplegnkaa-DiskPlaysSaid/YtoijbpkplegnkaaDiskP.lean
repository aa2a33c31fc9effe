/- The law DiskRefuses (conditions: none). -/
import Derived.Test.YtoijbpkplegnkaaDiskO
namespace Go.Proofs.Ytoijbpkplegnkaa
open Go Sx
set_option maxRecDepth 8000

theorem Sx.St.ldP {P : Program} {w0 w : World} {X : List Nat} {M : List Res} (h : St w0 X w M) {i g o n : Nat} {l xs : List Value} {T' T : TypeId} (hi : M[i]? = some (.arr g T' l)) (hA : (isAgg T).run P w = .ok true w) (hS : (sizeOf T).run P w = .ok n w) (hx : (l.drop o).take n = xs) (hl : xs.length = n) :
    (Instr.loadAt T (.pointer (some ⟨g, o, none⟩))).run P w = .ok (.agg xs.toArray) w := by
  have hr := h.cellsA hi
  have hrange : w.rangeAt g o xs := by
    intro k v hk
    have hk3 : k < n := by have := (List.getElem?_eq_some_iff.1 hk).1; omega
    rw [← hx, List.getElem?_take, if_pos hk3, List.getElem?_drop] at hk
    have := hr _ _ hk
    rw [Nat.zero_add] at this
    exact this
  have := loadCells_cells (P := P) hrange
  rw [hl] at this
  simp [Instr.loadAt, Instr.sureAddr, loadVar, hA, hS, this]

theorem survA (w : World) : (isAgg 50).run Try.prog w = .ok true w := Try.isAgg50 w
theorem survS (w : World) : (sizeOf 50).run Try.prog w = .ok 2 w := Try.sizeOf50 w

theorem DiskIn.base {w w0 w' : World} {gd : Nat} {ps : List Nat} {m : DiskM} {N : List Res} (h : DiskIn w0 [] w' gd ps m N) (hc : Chg [] w w0) : DiskIn w [] w' gd ps m N := by
  obtain ⟨p, hps, hp, hS⟩ := h
  have h0 : St w [] w0 ([] ++ []) := (St.start w).same hc
  exact ⟨p, hps, hp, by have := Sx.St.callPart (M := []) (N := []) h0 hS; simpa using this⟩

theorem filesM_len {m : DiskM} (hw : WFD m) : (filesM m).length ≤ 4096 := by
  have := hw.okNow.len
  simpa [filesM] using this
theorem crashM_small (m : DiskM) (d : Int) (cuts : List Int) : (crashM m d cuts).steps = m.steps ∧ (crashM m d cuts).chs = [] := ⟨rfl, rfl⟩

set_option maxHeartbeats 2000000 in
theorem diskRefuses_walk (a : Option Addr) (n c : Nat) (l : List OpD) (w : World) (hr : RdScript w a n c l) (hb : n ≤ 4611686018427387904) :
    Calls Try.prog 5 #[.slice a n c] w fun e w' => e = .returned (.bool true) ∧ Chg [] w w' := by
  obtain ⟨mI, hI⟩ := eI
  have hln := hr.rd.num (by decide)
  apply amphoralaw01_DiskRefuses_vc
  refine (alive01_spec w).mono ?_
  rintro e w1 ⟨rfl, c1⟩
  refine ⟨_, rfl, fun h => (by cases h), fun _ => (long_spec a n c l w1 (hr.keep0 c1) hb).mono ?_⟩
  rintro e w2 ⟨rfl, c2⟩
  refine ⟨_, rfl, fun _ => ⟨rfl, c1.trans c2⟩, fun hlong => ?_⟩
  obtain ⟨hs1, _, hs3⟩ := longF_small l 0 hlong
  refine (newDisk_spec 60 w2).mono ?_
  rintro e w3 (⟨hbad, _⟩ | ⟨_, gd, rfl, h3⟩)
  · omega
  have h3 := h3.base (c1.trans c2)
  refine ⟨_, _, rfl, fun x w' => x = false ∧ w' = w3, ⟨_, neqS_nil hI none _ _, fun h => (by cases h), fun _ => ⟨_, eqPtr .eql (.inl rfl) dkT _ _ _ _, rfl, rfl⟩⟩, ?_⟩
  rintro x w4 ⟨rfl, rfl⟩
  refine ⟨fun h => (by cases h), fun _ => ⟨fun x w' => ∃ (i : Nat) (ps : List Nat) (m : DiskM), x = (i : Int) ∧ i ≤ n ∧ m.steps ≤ i ∧ m.chs.length ≤ i ∧ DiskIn w [] w' gd ps m [], fun x _ => n - x.toNat, ⟨0, [], newM 60, rfl, by omega, Nat.le_refl _, Nat.le_refl _, h3⟩, ?_⟩⟩
  rintro x w5 ⟨i, ps, m, rfl, hi, hst, hch, h5⟩
  refine ⟨fun hlt => ?_, fun _ => ⟨rfl, h5.chg⟩⟩
  have hi' : i < n := by simp at hlt; omega
  have ho : l[i]? = some l[i] := List.getElem?_eq_getElem (by omega)
  obtain ⟨o, hod⟩ : ∃ o, l[i] = o := ⟨_, rfl⟩
  rw [hod] at ho
  have hom := List.mem_of_getElem? ho
  have hop := hr.ops o hom
  obtain ⟨b, k, g, w6, w7, ha, hld, r6, r7, k7⟩ := (hr.keep0 h5.chg).copy (St.start w5) ho
  have h7 := h5.addSt k7
  refine ⟨b, k, ha, by omega, by omega, _, hld, g, w6, r6, w7, r7, (filesD_spec h7).mono ?_⟩
  rintro e w8 ⟨fa, fc, L, rfl, hL, k8⟩
  have h8 := h7.addSt k8
  have hg : ∀ {w' ps' m'}, DiskIn w [] w' gd ps' m' (([] ++ ([] ++ [.arr g 57 (opD o)])) ++ (.row 42 2 (.slice fa L.length fc) L.length (L.flatMap FV.cells) :: L.map FV.row)) → St w [] w' (.arr g 57 (opD o) :: .row 42 2 (.slice fa L.length fc) L.length (L.flatMap FV.cells) :: L.map FV.row) := fun h => h.rest
  refine ⟨_, _, _, rfl, (steps_spec h8).mono ?_⟩
  rintro e w9 ⟨rfl, rfl⟩
  refine ⟨_, rfl, _, (hg h8).ldA (i := 0) (l := opD o) rfl (opDA _) (opDS _) (opD_len _), (play_spec o hop (hs3 o hom) h8 (by omega) (by omega)).mono ?_⟩
  rintro e w10 ⟨rfl, ps', h10⟩
  obtain ⟨hq, hsm⟩ := play_both m o
  obtain ⟨hsm1, hsm2⟩ := hsm
  refine ⟨_, rfl, _, (hg h10).ldL (i := 0) (o := 0) rfl (intA _) rfl rfl, fun h10k => ?_, fun hn10 => ?_⟩
  · refine ⟨_, (hg h10).ldP (i := 0) (o := 6) (n := 2) (xs := [.int .i64 o.dirs, .slice o.ca o.cn o.cc]) rfl (survA _) (survS _) rfl rfl, (crash_spec o.dirs o.ca o.cn o.cc o.cuts h10 (fun w' hS => hop.cuts.keep0 hS.chg) (by omega)).mono ?_⟩
    rintro e w11 ⟨rfl, h11⟩
    obtain ⟨e1, e2⟩ := crashM_small (playM m o).1 o.dirs o.cuts
    exact ⟨rfl, ⟨i + 1, ps', _, wrap_succ hi' hb, by omega, by rw [e1]; omega, by rw [e2]; simp, h11.subN (List.nil_sublist _)⟩, mu_succ hi' hb⟩
  obtain ⟨r, hr2⟩ : ∃ r, (playM m o).2 = r := ⟨_, rfl⟩
  obtain ⟨m', hm'⟩ : ∃ m', (playM m o).1 = m' := ⟨_, rfl⟩
  unfold Quiet at hq
  rw [hr2, hm'] at hq
  rw [hm'] at hsm1 hsm2 h10
  rw [hr2]
  refine ⟨fun x w' => x = false ∧ DiskIn w [] w' gd ps' m' (([] ++ ([] ++ [.arr g 57 (opD o)])) ++ (.row 42 2 (.slice fa L.length fc) L.length (L.flatMap FV.cells) :: L.map FV.row)), ⟨_, neqS_nil hI r _ _, fun hsome => ?_, fun _ => ⟨rfl, h10⟩⟩, ?_⟩
  · obtain ⟨e, he⟩ := Option.isSome_iff_exists.1 hsome
    refine (filesD_spec h10).mono ?_
    rintro e2 w12 ⟨fa2, fc2, L2, rfl, hL2, k12⟩
    have h12 := h10.same k12.chg
    have hLl : L.length ≤ 4096 := by have := congrArg List.length hL; have h0 := filesM_len h7.wf; simp only [List.length_map] at this; omega
    refine ⟨_, _, _, rfl, (filesEq_spec fa fc L fa2 fc2 L2 w12 (filesR_of (hg h12).tail) (filesR_of k12) (by rw [hL, hL2, (hq e he).1]) (by omega)).mono ?_⟩
    rintro e3 w13 ⟨rfl, c13⟩
    exact ⟨_, rfl, rfl, h12.same c13⟩
  rintro x w14 ⟨rfl, h14⟩
  refine ⟨fun h => (by cases h), fun _ => ⟨fun x w' => x = false ∧ DiskIn w [] w' gd ps' m' (([] ++ ([] ++ [.arr g 57 (opD o)])) ++ (.row 42 2 (.slice fa L.length fc) L.length (L.flatMap FV.cells) :: L.map FV.row)), ⟨_, neqS_nil hI r _ _, fun hsome => ?_, fun hnone => ?_⟩, ?_⟩⟩
  · obtain ⟨e, he⟩ := Option.isSome_iff_exists.1 hsome
    have hqs := (hq e he).2
    subst he
    refine ⟨_, neqS_errD hI (some e) 2 _ _ _, fun hne => ?_, fun heq => ?_⟩
    · have hne2 : e ≠ 2 := by intro h; subst h; simp at hne
      rw [if_neg hne2] at hqs
      refine (steps_spec h14).mono ?_
      rintro e3 w15 ⟨rfl, rfl⟩
      refine ⟨_, rfl, fun h => by rw [hqs] at h; simp at h, fun _ => ⟨_, eqlS_err hI (some e) 2 _ _ _, fun h => ?_, fun _ => ⟨rfl, h14⟩⟩⟩
      simp at h; exact absurd h hne2
    · have he2 : e = 2 := by simpa using heq
      rw [if_pos he2] at hqs
      refine ⟨_, eqlS_err hI (some e) 2 _ _ _, fun _ => (steps_spec h14).mono ?_, fun h => by rw [he2] at h; simp at h⟩
      rintro e3 w17 ⟨rfl, rfl⟩
      refine ⟨_, rfl, ?_, h14⟩
      rw [hqs, wrap_i64 (by omega) (by omega)]
      simp
  · have : r = none := by simpa using hnone
    subst this
    exact ⟨_, eqlS_err hI none 2 _ _ _, fun h => (by simp at h), fun _ => ⟨rfl, h14⟩⟩
  rintro x w19 ⟨rfl, h19⟩
  exact ⟨fun h => (by cases h), fun _ => ⟨⟨i + 1, ps', m', wrap_succ hi' hb, by omega, by omega, by omega, h19.subN (List.nil_sublist _)⟩, mu_succ hi' hb⟩⟩

end Go.Proofs.Ytoijbpkplegnkaa
