/- A disk in memory: Read, ReadAt, Steps, Down, Arm, Fail, New (conditions: those that each theorem names). -/
import Derived.Test.YtoijbpkplegnkaaDiskG
import Derived.Test.YtoijbpkplegnkaaClone
namespace Go.Proofs.Ytoijbpkplegnkaa
open Go Sx
set_option maxRecDepth 8000

section
variable {w0 w w' : World} {X : List Nat} {N N' : List Res} {gd : Nat} {ps : List Nat} {m : DiskM}

theorem read_spec (n : Nm) (h : DiskIn w0 X w gd ps m N) :
    Calls Try.prog 15 #[.pointer (some ⟨gd, 0, none⟩), strV n] w fun e w' => ∃ a k c, e = .returned (.tuple #[.slice a k c, errV (foundE m n)]) ∧ FreshB w w' a k c (readF m n) := by
  obtain ⟨mI, hI⟩ := eI
  apply disk_Disk_Read_vc
  refine (found_spec n h).mono ?_
  rintro e w1 ⟨rfl, c1⟩
  refine ⟨_, _, rfl, _, neqS_nil hI _ _ _, fun hne => ?_, fun hok => ?_⟩
  · refine ⟨none, 0, 0, rfl, ?_⟩
    have : readF m n = [] := by unfold readF; rw [if_pos hne]
    rw [this]
    exact FreshB.after (FreshB.nil _) c1
  have hfn : foundE m n = none := by simpa using hok
  obtain ⟨p, hps, hp, hS⟩ := h.same c1
  obtain ⟨hil, _⟩ := foundI_lt hp.wf hfn
  obtain ⟨f, hf, hpg, hfm⟩ := hp.file hil
  have hptr : ptrV ps (foundI m n) = .pointer (some ⟨f.g, 0, none⟩) := by rw [← hps]; show Value.pointer (some ⟨p.ps.getD _ 0, 0, none⟩) = _; rw [hpg]
  obtain ⟨l1, l2, l3⟩ := St.ldFile hS hf
  have hdl : f.data.length ≤ 1099511627776 := by
    have := hp.wf.syn (fileAt m.files (foundI m n)) (by simp [fileAt, List.getD, hil])
    rw [hfm] at this
    exact this.2
  rw [if_pos hfn]
  refine ⟨f.g, 0, hptr, _, _, _, l1, (clone_spec _ _ _ _ _ l3 (by omega)).mono ?_⟩
  rintro e w2 ⟨a', c', rfl, h2⟩
  refine ⟨_, _, _, rfl, a', _, c', by rw [hfn]; rfl, ?_⟩
  have : readF m n = f.data := by unfold readF; rw [if_neg (by rw [hfn]; simp), hfm]
  rw [this]
  exact FreshB.after h2 c1

theorem readAt_spec (n : Nm) (i k : Int) (hi : -9223372036854775808 ≤ i ∧ i ≤ 9223372036854775807) (hk : -9223372036854775808 ≤ k ∧ k ≤ 9223372036854775807) (h : DiskIn w0 X w gd ps m N) :
    Calls Try.prog 16 #[.pointer (some ⟨gd, 0, none⟩), strV n, .int .i64 i, .int .i64 k] w fun e w' => ∃ a u c, e = .returned (.tuple #[.slice a u c, errV (readAtE m n i k)]) ∧ FreshB w w' a u c (readAtF m n i k) := by
  obtain ⟨mI, hI⟩ := eI
  apply disk_Disk_ReadAt_vc
  refine (found_spec n h).mono ?_
  rintro e w1 ⟨rfl, c1⟩
  refine ⟨_, _, rfl, _, neqS_nil hI _ _ _, fun hne => ?_, fun hok => ?_⟩
  · obtain ⟨e, he⟩ := Option.isSome_iff_exists.1 hne
    have h1 : readAtE m n i k = some e := by unfold readAtE; rw [he]
    have h2 : readAtF m n i k = [] := by unfold readAtF; rw [if_pos (by rw [h1]; rfl)]
    rw [h1, h2, he]
    exact ⟨none, 0, 0, rfl, FreshB.after (FreshB.nil _) c1⟩
  have hfn : foundE m n = none := by simpa using hok
  obtain ⟨p, hps, hp, hS⟩ := h.same c1
  obtain ⟨hil, _⟩ := foundI_lt hp.wf hfn
  obtain ⟨f, hf, hpg, hfm⟩ := hp.file hil
  have hptr : ptrV ps (foundI m n) = .pointer (some ⟨f.g, 0, none⟩) := by rw [← hps]; show Value.pointer (some ⟨p.ps.getD _ 0, 0, none⟩) = _; rw [hpg]
  obtain ⟨l1, l2, l3⟩ := St.ldFile hS hf
  have hdl : f.data.length ≤ 1099511627776 := by
    have := hp.wf.syn (fileAt m.files (foundI m n)) (by simp [fileAt, List.getD, hil])
    rw [hfm] at this
    exact this.2
  have hrE : readAtE m n i k = if rangeE f.data i k then some 7 else none := by unfold readAtE; rw [hfn]; simp only [hfm]
  rw [if_pos hfn]
  refine ⟨fun x w' => x = rangeE f.data i k ∧ w' = w1, ⟨fun hneg => ⟨?_, rfl⟩, fun hpos => ⟨f.g, 0, hptr, _, _, _, l1, fun hgt => ⟨?_, rfl⟩, fun hle => ⟨f.g, 0, hptr, _, _, _, l1, ?_, rfl⟩⟩⟩, ?_⟩
  · unfold rangeE; rw [hneg]; rfl
  · unfold rangeE; rw [hpos, hgt]; rfl
  · unfold rangeE
    simp only [Bool.or_eq_false_iff, decide_eq_false_iff_not] at hpos hle
    rw [wrap_i64 (by omega) (by omega), decide_eq_false hpos.1, decide_eq_false hpos.2, decide_eq_false hle]; rfl
  · rintro x w2 ⟨rfl, rfl⟩
    refine ⟨fun hbad => ?_, fun hgd => ?_⟩
    · have h1 : readAtE m n i k = some 7 := by rw [hrE, if_pos hbad]
      have h2 : readAtF m n i k = [] := by unfold readAtF; rw [if_pos (by rw [h1]; rfl)]
      rw [h1, h2]
      exact ⟨none, 0, 0, rfl, FreshB.after (FreshB.nil _) c1⟩
    · have h1 : readAtE m n i k = none := by rw [hrE, if_neg (by rw [hgd]; simp)]
      have h2 : readAtF m n i k = (f.data.drop i.toNat).take k.toNat := by unfold readAtF; rw [if_neg (by rw [h1]; simp), hfm]
      rw [h1, h2]
      unfold rangeE at hgd
      simp only [Bool.or_eq_false_iff, decide_eq_false_iff_not] at hgd
      obtain ⟨⟨⟨g1, g2⟩, g3⟩, g4⟩ := hgd
      have wr : IntKind.wrap .i64 (i + k) = i + k := wrap_i64 (by omega) (by omega)
      have hle := l3.le
      refine ⟨f.g, 0, hptr, _, _, _, l1, by omega, by rw [wr]; omega, by rw [wr]; omega, fun a' hsub => ?_⟩
      have hlt : (IntKind.wrap .i64 (i + k)).toNat = i.toNat + k.toNat := by rw [wr]; omega
      have hs := Rd.sub l3 hsub (hh := i.toNat + k.toNat) (by omega) (by omega) (by omega) (Nat.le_refl _)
      have e2 : ((bv f.data).drop (i.toNat * 1)).take ((i.toNat + k.toNat - i.toNat) * 1) = bv ((f.data.drop i.toNat).take k.toNat) := by simp [bv_take, bv_drop]
      rw [e2] at hs
      rw [hlt]
      refine (clone_spec _ _ _ _ _ hs (by omega)).mono ?_
      rintro e w3 ⟨a3, c3, rfl, h3⟩
      exact ⟨_, _, _, rfl, a3, _, c3, rfl, FreshB.after h3 c1⟩

theorem steps_spec (h : DiskIn w0 X w gd ps m N) : Calls Try.prog 23 #[.pointer (some ⟨gd, 0, none⟩)] w fun e w' => e = .returned (.int .i64 (m.steps : Int)) ∧ w' = w := by
  obtain ⟨p, hps, hp, hS⟩ := h
  apply disk_Disk_Steps_vc
  exact ⟨_, DiskIn.cell hS (i := 0) (intA _) rfl, rfl, rfl⟩
theorem down_spec (h : DiskIn w0 X w gd ps m N) : Calls Try.prog 40 #[.pointer (some ⟨gd, 0, none⟩)] w fun e w' => e = .returned (.bool m.down) ∧ w' = w := by
  obtain ⟨p, hps, hp, hS⟩ := h
  apply disk_Disk_Down_vc
  exact ⟨_, DiskIn.cell hS (i := 1) (boolA _) rfl, rfl, rfl⟩

theorem arm_spec (i : Int) (hi : i ≤ 9223372036854775807) (h : DiskIn w0 X w gd ps m N) : Calls Try.prog 35 #[.pointer (some ⟨gd, 0, none⟩), .int .i64 i] w fun e w' => e = .returned (errV (armM m i).2) ∧ DiskIn w0 X w' gd ps (armM m i).1 N := by
  apply disk_Disk_Arm_vc
  refine ⟨fun hneg => ?_, fun hpos => ?_⟩
  · have : armM m i = (m, some 7) := by unfold armM; rw [if_pos (by simpa using hneg)]
    rw [this]
    exact ⟨rfl, h⟩
  · have hp0 : ¬ i < 0 := by simpa using hpos
    have : armM m i = ({ m with arm := some i.toNat }, none) := by unfold armM; rw [if_neg hp0]
    rw [this]
    obtain ⟨p, hps, hp, hS⟩ := h
    obtain ⟨w1, r1, h1⟩ := hS.stL (i := 0) (o := 2) (off := 2) (T := 4) (v := .bool true) rfl (boolS _) rfl (by simp [dskL]) rfl
    obtain ⟨w2, r2, h2⟩ := h1.stL (i := 0) (o := 3) (off := 3) (T := 3) (v := .int .i64 i) rfl (intS _) rfl (by simp [dskL]) rfl
    exact ⟨w1, r1, w2, r2, rfl, { p with av := i }, hps, hp.upd m.steps m.down (some i.toNat) m.fails (fun k hk => by have := Option.some.inj hk; omega) hp.fails, h2⟩

/-! ### Fail -/
abbrev zv (l : List Int) : List Value := l.map (Value.int .i64)
theorem intT : ElemT Try.prog 48 3 1 8 (.int .i64 0) := ⟨by kernel_rfl, ⟨Try.t3, by kernel_rfl, by kernel_rfl, by kernel_rfl, by kernel_rfl⟩, rfl, by decide⟩

theorem anyNeg_spec (a : Option Addr) (n c : Nat) (l : List Int) (w : World) (hr : Rd w a n c 1 (zv l)) (hb : n ≤ 4611686018427387904) :
    Calls Try.prog 65 #[.slice a n c, .func (.func 66) #[] #[]] w fun e w' => e = .returned (.bool (l.any (· < 0))) ∧ w' = w := by
  have hln : l.length = n := by have := hr.len; simpa using this
  apply slices_ContainsFunc_int_int_vc
  have key : Calls Try.prog 81 #[.slice a n c, .func (.func 66) #[] #[]] w fun e w' => ∃ t : Int, e = .returned (.int .i64 t) ∧ decide (t ≥ 0) = l.any (· < 0) ∧ w' = w := by
    apply slices_IndexFunc_int_int_vc
    refine ⟨fun x w' => ∃ i : Nat, x = (i : Int) ∧ i ≤ n ∧ (l.take i).any (· < 0) = false ∧ w' = w, fun x _ => n - x.toNat, ⟨0, rfl, by omega, by simp, rfl⟩, ?_⟩
    rintro x w1 ⟨i, rfl, hi, hall, rfl⟩
    refine ⟨fun h => ?_, fun h => ?_⟩
    · have hi' : i < n := by simp at h; omega
      have hx2 : l[i]? = some (l.getD i 0) := by simp [List.getD, show i < l.length by omega]
      have hx : (zv l)[i]? = some (.int .i64 (l.getD i 0)) := by rw [List.getElem?_map, hx2]; rfl
      obtain ⟨z, hz⟩ : ∃ z, l.getD i 0 = z := ⟨_, rfl⟩
      rw [hz] at hx hx2
      obtain ⟨b, o, ha, hcell⟩ := hr.cells.at_ hx
      refine ⟨b, o, ha, by omega, by omega, _, by rw [Int.toNat_natCast, Nat.mul_one]; exact ld1 (intA _) hcell, 66, [], rfl, by kernel_rfl, ?_⟩
      apply disk_Disk_Fail_1_vc
      refine ⟨_, rfl, fun h => ⟨_, rfl, ?_, rfl⟩, fun h => ⟨⟨i + 1, wrap_succ hi' hb, by omega, ?_, rfl⟩, mu_succ hi' hb⟩⟩
      · have : l.any (· < 0) = true := by
          rw [List.any_eq_true]
          exact ⟨z, List.mem_of_getElem? hx2, by simpa using h⟩
        rw [this]
        simp
      · rw [List.take_add_one, hx2, List.any_append, hall]
        simpa using h
    · have hi' : i = n := by simp at h; omega
      rw [hi', List.take_of_length_le (by omega)] at hall
      exact ⟨_, rfl, by rw [hall]; rfl, rfl⟩
  refine Calls.mono key ?_
  rintro e w' ⟨t, rfl, h1, h2⟩
  exact ⟨t, rfl, by rw [h1], h2⟩

theorem cloneI_spec (a : Option Addr) (n c : Nat) (l : List Int) (w : World) (hr : Rd w a n c 1 (zv l)) (hb : n * 8 ≤ 140737488355328) :
    Calls Try.prog 67 #[.slice a n c] w fun e w' => ∃ a' c', e = .returned (.slice a' n c') ∧ St w [] w' [.row 3 1 (.slice a' n c') n (zv l)] := by
  apply slices_Clone_int_int_vc
  have hl : l.length = n := by have := hr.len; simpa using this
  refine ⟨fun h => ?_, fun _ => ?_⟩
  · have ha : a = none := by cases a with
      | none => rfl
      | some _ => simp at h
    have hc := hr.nil ha
    have hle := hr.le
    obtain rfl : n = 0 := by omega
    obtain rfl : l = [] := List.eq_nil_of_length_eq_zero hl
    exact ⟨_, _, rfl, (St.start w).addNil _ _⟩
  · obtain ⟨g, w1, r1, h1⟩ := (St.start w).lit intT [] (by simp) (by simp)
    obtain ⟨va, vc, w2, r2, h2, _, _⟩ := h1.append (i := 0) (ty := 48) intT rfl (h1.rd1 hr) (fun u hu => by obtain ⟨x, _, rfl⟩ := List.mem_map.1 hu; rfl) (by simp; omega) (by simp only [maxLen]; simp; omega)
    simp only [List.length_nil, Nat.zero_add, List.nil_append] at r2 h2
    exact ⟨_, _, _, _, r1, _, _, _, _, r2, _, _, rfl, h2⟩

theorem fail_spec (a : Option Addr) (n c : Nat) (l : List Int) (hr : Rd w a n c 1 (zv l)) (hz : ∀ x ∈ l, x ≤ 9223372036854775807) (hb : n * 8 ≤ 140737488355328) (h : DiskIn w0 X w gd ps m N) :
    Calls Try.prog 36 #[.pointer (some ⟨gd, 0, none⟩), .slice a n c] w fun e w' => e = .returned (errV (failM m l).2) ∧ DiskIn w0 X w' gd ps (failM m l).1 N := by
  apply disk_Disk_Fail_vc
  have hl : l.length = n := by have := hr.len; simpa using this
  refine (anyNeg_spec a n c l w hr (by omega)).mono ?_
  rintro e w1 ⟨rfl, rfl⟩
  refine ⟨_, rfl, fun hneg => ?_, fun hpos => ?_⟩
  · have : failM m l = (m, some 7) := by unfold failM; rw [if_pos hneg]
    rw [this]
    exact ⟨rfl, h⟩
  · have hres : failM m l = ({ m with fails := l.map Int.toNat }, none) := by unfold failM; rw [if_neg (by rw [hpos]; simp)]
    rw [hres]
    refine (cloneI_spec a n c l w1 hr hb).mono ?_
    rintro e w2 ⟨a', c', rfl, h2⟩
    obtain ⟨p, hps, hp, hS⟩ := h
    have hpos' : ∀ x ∈ l, 0 ≤ x := by
      intro x hx
      rw [List.any_eq_false] at hpos
      have := hpos x hx
      simpa using this
    have hniv : niv (l.map Int.toNat) = zv l := by
      rw [niv, List.map_map]
      refine List.map_congr_left fun x hx => ?_
      have := hpos' x hx
      simp only [Function.comp, Int.toNat_of_nonneg this]
    have h3 : St w0 X w2 ((resD gd m p ++ DR p.FL N) ++ [.row 3 1 (.slice a' n c') n (zv l)]) := Sx.St.callPart (N := []) (by rw [List.append_nil]; exact hS) h2
    obtain ⟨w3, r3, h4⟩ := h3.stL (i := 0) (o := 4) (off := 4) (T := 48) (v := .slice a' n c') rfl (insS _) rfl (by simp [dskL]) rfl
    have h4 : St w0 X w3 ((resD gd { m with fails := l.map Int.toNat } { p with fa := a', fn := n, fc := c' } ++ DR p.FL N) ++ [.row 3 1 (.slice a' n c') n (zv l)]) := h4
    refine ⟨_, _, _, rfl, w3, r3, rfl, ?_⟩
    have hown : w3.ownsRow 0 3 1 (.slice a' n c') n (zv l) := h4.holds _ _ getLast'
    have hbd : ∀ x ∈ l.map Int.toNat, x ≤ 9223372036854775807 := by
      intro x hx
      obtain ⟨y, hy, rfl⟩ := List.mem_map.1 hx
      have := hz y hy
      omega
    rcases hown.2 with ⟨hv, hn⟩ | ⟨g, cap, cur, hv, _, hg, hnc, _, hsz, htk⟩
    · simp only [Value.slice.injEq] at hv
      exact ⟨{ p with fa := a', fn := n, fc := c' }, hps, hp.upd m.steps m.down m.arm (l.map Int.toNat) hp.arm ⟨by simp [hl], by omega, .inl hn, hbd⟩, St.pop h4⟩
    · simp only [Value.slice.injEq] at hv
      obtain ⟨rfl, _, rfl⟩ := hv
      have h5 := h4.upd (r' := .arr g 3 cur.toList) getLast' (Chg.refl _ _) hg (by simp [Res.fp, Value.ownBlock])
      rw [List.set_append_right _ _ (Nat.le_refl _), Nat.sub_self] at h5
      refine ⟨{ p with fa := some ⟨g, 0, none⟩, fn := n, fc := c', F := .arr g 3 cur.toList }, hps, hp.upd m.steps m.down m.arm (l.map Int.toNat) hp.arm ⟨by simp [hl], by omega, .inr ⟨g, 0, _, rfl, rfl, ?_⟩, hbd⟩, ?_⟩
      · rw [hniv, ← htk]; simp
      · have h6 : St w0 X w3 ([.arr gd 82 (dskL { m with fails := l.map Int.toNat } { p with fa := some ⟨g, 0, none⟩, fn := n, fc := c' }), .blk p.gn (.map p.esn p.ckn), .blk p.gs (.map p.ess p.cks), .row 89 3 (.slice p.ca m.chs.length p.cc) m.chs.length (m.chs.flatMap (chC p.ps))] ++ ((p.F :: DR p.FL N) ++ [.arr g 3 cur.toList])) := h5
        have h7 := h6.sub (List.Sublist.append_left (List.Sublist.append_right (List.sublist_cons_self _ _) _) _)
        exact h7.perm (List.Perm.append_left _ List.perm_append_comm)

/-! ### New -/
theorem built_disk : Try.prog.built 82 = fun parts => Instr.fill (fun i => (#[(0, 5), (5, 1), (6, 1), (7, 1), (8, 1)] : Array (Nat × Nat))[i]?) #[.int .i64 0, .bool false, .bool false, .int .i64 0, .slice none 0 0, .int .i64 0, .map none, .map none, .slice none 0 0] parts := by kernel_rfl
theorem disk_build (s : Int) (g1 g2 : Nat) (w : World) : (Instr.build 82 #[(1, .int .i64 s), (2, .map (some g1)), (3, .map (some g2))]).run Try.prog w = .ok (.agg #[.int .i64 0, .bool false, .bool false, .int .i64 0, .slice none 0 0, .int .i64 s, .map (some g1), .map (some g2), .slice none 0 0]) w := by
  apply run_build
  rw [built_disk]
  show Instr.fill _ _ [(1, _), (2, _), (3, _)] = _
  rw [fill_step (off := 5) (sz := 1) rfl rfl (by simp), fill_step (off := 6) (sz := 1) rfl rfl (by simp [Value.cells]), fill_step (off := 7) (sz := 1) rfl rfl (by simp [Value.cells])]
  rfl

theorem wfd_new {s : Int} (h : 0 ≤ s ∧ s ≤ 67108864) : WFD (newM s) :=
  ⟨rfl, fun k => by show OkDir _ (replay [] (([] : List ChM).take k)); rw [List.take_nil]; exact okDir_nil _, by simp [newM], by simp [newM], h⟩

theorem newDisk_spec (s : Int) (w : World) : Calls Try.prog 9 #[.int .i64 s] w fun e w' => (s < 0 ∨ 67108864 < s) ∧ e = .returned (.tuple #[.pointer none, errV (some 7)]) ∧ w' = w ∨ ¬ (s < 0 ∨ 67108864 < s) ∧ ∃ gd, e = .returned (.tuple #[.pointer (some ⟨gd, 0, none⟩), errV none]) ∧ DiskIn w [] w' gd [] (newM s) [] := by
  apply disk_New_vc
  refine ⟨fun h => .inl ⟨by simpa using h, rfl, rfl⟩, fun h => ?_⟩
  have hs : ¬ (s < 0 ∨ 67108864 < s) := by simp at h; omega
  have h1 := (St.start w).add (r := .blk w.heap.size (.map #[] 0)) (Chg.alloc _ _) (heap_alloc_new w _) (by simp [Res.fp])
  obtain ⟨w1, hw1⟩ : ∃ w1, w.alloc (.map #[] 0) = w1 := ⟨_, rfl⟩
  rw [hw1] at h1
  have h2 := h1.add (r := .blk w1.heap.size (.map #[] 0)) (Chg.alloc _ _) (heap_alloc_new w1 _) (by simp [Res.fp])
  obtain ⟨g, w3, r3, h3⟩ := h2.boxA (P := Try.prog) 82 [.int .i64 0, .bool false, .bool false, .int .i64 0, .slice none 0 0, .int .i64 s, .map (some w.heap.size), .map (some w1.heap.size), .slice none 0 0]
  refine ⟨.map (some w.heap.size), w1, by rw [← hw1]; rfl, .map (some w1.heap.size), _, rfl, _, disk_build s _ _ _, g, w3, r3, .inr ⟨hs, g, rfl, ?_⟩⟩
  have h4 := (h3.addNil 89 3).add (r := Res.emp) (Chg.refl _ _) (Res.emp_holds _) (by simp [Res.emp, Res.fp, Value.ownBlock])
  refine ⟨{ av := 0, fa := none, fn := 0, fc := 0, gn := w.heap.size, gs := w1.heap.size, ca := none, cc := 0, FL := [], F := Res.emp, esn := #[], ckn := 0, Mn := [], ess := #[], cks := 0, Ms := [] }, rfl, ⟨wfd_new (by omega), rfl, fun k hk => (by cases hk), ⟨rfl, Nat.le_refl _, .inl rfl, by simp [newM]⟩, MapE.nil _ _, MapIsA.nil, MapE.nil _ _, MapIsA.nil⟩, ?_⟩
  refine h4.perm ?_
  show List.Perm [_, _, _, _, _] [_, _, _, _, _]
  refine List.Perm.trans (l₂ := [.blk w.heap.size (.map #[] 0), .arr g 82 [.int .i64 0, .bool false, .bool false, .int .i64 0, .slice none 0 0, .int .i64 s, .map (some w.heap.size), .map (some w1.heap.size), .slice none 0 0], .blk w1.heap.size (.map #[] 0), .row 89 3 (.slice none 0 0) 0 [], Res.emp]) (.cons _ (.swap _ _ _)) (.swap _ _ _)

end

end Go.Proofs.Ytoijbpkplegnkaa
