/- A disk in memory: Crash (conditions: those that each theorem names). -/
import Derived.Test.YtoijbpkplegnkaaDiskJ
import Derived.Test.YtoijbpkplegnkaaRdE
namespace Go.Proofs.Ytoijbpkplegnkaa
open Go Sx
set_option maxRecDepth 8000

theorem Sx.St.stP {P : Program} {w0 w : World} {X : List Nat} {M : List Res} (h : St w0 X w M) {i g n : Nat} {l v : List Value} {T' T : TypeId} (hi : M[i]? = some (.arr g T' l)) (hS : (sizeOf T).run P w = .ok n w) (hl : n ≤ l.length) (hv : v.length = n) (h1 : ∀ u ∈ v, u.oneCell' = true) :
    ∃ w', (Instr.storeAt T (.pointer (some ⟨g, 0, none⟩)) (.agg v.toArray)).run P w = .ok () w' ∧ St w0 X w' (M.set i (.arr g T' (v ++ l.drop n))) := by
  have hg := h.holds i _ hi
  have hst := run_storeCells_at P g 0 T' v 0 l.toArray w hg (by simp; omega) h1
  have hset : (l.toArray.toList.take (0 + 0) ++ v ++ l.toArray.toList.drop (0 + 0 + v.length)).toArray = (v ++ l.drop n).toArray := by
    simp only [Nat.zero_add, List.take_zero, List.nil_append, hv]
  rw [hset] at hst
  refine ⟨_, ?_, h.upd hi (w' := w.setRow g (v ++ l.drop n).toArray) ⟨rfl, rfl, rfl, by simp, fun k _ hk => setRow_other w g k _ (fun e => hk (by simp [Res.fp, e]))⟩ (setRow_heap w g _ _ T' _ hg) (by simp [Res.fp])⟩
  simp [Instr.storeAt, Instr.sureAddr, storeVar, hS, Value.cells, hv, hst]

theorem rowTake {w : World} {a : Option Addr} {n c k : Nat} {l : List UInt8} (h : w.ownsRow 0 5 1 (.slice a n c) n (bv l)) (hk : k ≤ n) : w.ownsRow 0 5 1 (.slice a k c) k (bv (l.take k)) := by
  obtain ⟨h1, h2⟩ := h
  have hl : l.length = n := by simpa using h1
  refine ⟨by simp; omega, ?_⟩
  rcases h2 with ⟨hv, hn⟩ | ⟨g, cap, cur, hv, hb, hg, hnc, hcm, hcs, ht⟩
  · left
    simp only [Value.slice.injEq] at hv
    obtain ⟨rfl, _, rfl⟩ := hv
    have : k = 0 := by omega
    rw [this]
    exact ⟨rfl, rfl⟩
  · right
    simp only [Value.slice.injEq] at hv
    obtain ⟨rfl, _, rfl⟩ := hv
    refine ⟨g, c, cur, rfl, hb, hg, by omega, hcm, hcs, ?_⟩
    have := congrArg (List.take k) ht
    rw [List.take_take, ← bv_take] at this
    rw [← this]
    congr 1
    omega

theorem cutAll_snoc (cuts : List Int) (e : Ent) : ∀ (d : Dir) (i : Nat) (fs : List FileM), cutAll cuts i (d ++ [e]) fs = setF (cutAll cuts i d fs) e.file (cutF (cutAt cuts (i + d.length)))
  | [], i, fs => by simp [cutAll]
  | x :: d, i, fs => by
    show cutAll cuts (i + 1) (d ++ [e]) _ = setF (cutAll cuts (i + 1) d _) e.file _
    rw [cutAll_snoc cuts e d (i + 1)]
    congr 2
    simp only [List.length_cons]
    congr 1
    omega
theorem cutAll_len (cuts : List Int) : ∀ (d : Dir) (i : Nat) (fs : List FileM), (cutAll cuts i d fs).length = fs.length
  | [], _, _ => rfl
  | x :: d, i, fs => by show (cutAll cuts (i + 1) d _).length = _; rw [cutAll_len cuts d, setF_len]
theorem cutF_ok (k : Nat) {f : FileM} (h : f.syn ≤ f.data.length ∧ f.data.length ≤ 1099511627776) : (cutF k f).syn ≤ (cutF k f).data.length ∧ (cutF k f).data.length ≤ 1099511627776 := by
  simp only [cutF, List.length_take]
  omega
theorem fileAt_ok {fs : List FileM} (h : ∀ f ∈ fs, f.syn ≤ f.data.length ∧ f.data.length ≤ 1099511627776) (i : Nat) : (fileAt fs i).syn ≤ (fileAt fs i).data.length ∧ (fileAt fs i).data.length ≤ 1099511627776 := by
  by_cases hi : i < fs.length
  · rw [fileAt, List.getD, List.getElem?_eq_getElem hi]
    exact h _ (List.getElem_mem hi)
  · rw [fileAt, List.getD, List.getElem?_eq_none (by omega)]
    simp [file0]
theorem cutAll_ok (cuts : List Int) : ∀ (d : Dir) (i : Nat) (fs : List FileM), (∀ f ∈ fs, f.syn ≤ f.data.length ∧ f.data.length ≤ 1099511627776) → ∀ f ∈ cutAll cuts i d fs, f.syn ≤ f.data.length ∧ f.data.length ≤ 1099511627776
  | [], _, _, h => h
  | x :: d, i, fs, h => cutAll_ok cuts d (i + 1) _ fun f hf => by
    rcases List.mem_or_eq_of_mem_set hf with h1 | h1
    · exact h f h1
    · rw [h1]; exact cutF_ok _ (fileAt_ok h _)

theorem built_meter : Try.prog.built 79 = fun parts => Instr.fill (fun i => (#[(0, 1), (1, 1), (2, 1), (3, 1), (4, 1)] : Array (Nat × Nat))[i]?) #[.int .i64 0, .bool false, .bool false, .int .i64 0, .slice none 0 0] parts := by kernel_rfl
theorem meter_build (n : Int) (w : World) : (Instr.build 79 #[(0, .int .i64 n)]).run Try.prog w = .ok (.agg [.int .i64 n, .bool false, .bool false, .int .i64 0, .slice none 0 0].toArray) w := by
  apply run_build
  rw [built_meter]
  show Instr.fill _ _ [(0, _)] = _
  rw [fill_step (off := 0) (sz := 1) rfl rfl (by simp)]
  rfl
theorem meterS (w : World) : (sizeOf 79).run Try.prog w = .ok 5 w := Try.sizeOf79 w

section
variable {w0 w w' : World} {X : List Nat} {N N' : List Res} {gd : Nat} {ps : List Nat} {m : DiskM}

theorem St.lasts {R T : List Res} {FL : List FR} (h : St w0 X w (R ++ DR FL (N ++ T))) : St w0 X w T :=
  h.sub (((List.sublist_append_right _ _).trans (List.sublist_append_right _ _)).trans ((List.sublist_append_right _ _).trans (List.sublist_append_right _ _)))
theorem St.mids {R T : List Res} {FL : List FR} (h : St w0 X w (R ++ DR FL (N ++ T))) : St w0 X w N :=
  h.sub ((List.sublist_append_left N T).trans ((List.sublist_append_right _ _).trans ((List.sublist_append_right _ _).trans (List.sublist_append_right _ _))))

set_option maxHeartbeats 2000000 in
theorem crash_spec (dirs : Int) (ca : Option Addr) (cn cc : Nat) (cuts : List Int) (h : DiskIn w0 X w gd ps m N) (hq : ∀ w', St w0 X w' N → Rd w' ca cn cc 1 (zv cuts)) (hb : m.chs.length < 1000000000) :
    Calls Try.prog 25 #[.pointer (some ⟨gd, 0, none⟩), .agg #[.int .i64 dirs, .slice ca cn cc]] w fun e w' => e = .returned (.tuple #[]) ∧ DiskIn w0 X w' gd ps (crashM m dirs cuts) N := by
  apply disk_Disk_Crash_vc
  have hcl : cuts.length = cn := by have := (hq w h.rest).len; simpa using this
  obtain ⟨p, hps, hp, hS⟩ := h
  have hw := hp.wf
  obtain ⟨g3, w1, r1, h1⟩ := hS.boxA (P := Try.prog) 50 [.int .i64 dirs, .slice ca cn cc]
  refine ⟨g3, w1, r1, .map (some p.gs), h1.ldL (i := 0) (o := 7) rfl (dirA _) rfl rfl, (clone_map p.gs p.ess p.cks w1 (h1.holds 2 _ rfl)).mono ?_⟩
  rintro e w2 ⟨g', rfl, hg', c2, hh⟩
  have h2 := h1.upd (i := 1) (r' := .blk g' (.map p.ess p.cks)) rfl (c2.mono (by simp)) hh (by simp [Res.fp]; exact .inr hg')
  obtain ⟨w3, r3, h3⟩ := h2.stL (i := 0) (o := 6) (off := 6) (T := 77) (v := .map (some g')) rfl (dirS _) rfl (by simp [dskL]) rfl
  obtain ⟨sv, hsv⟩ : ∃ sv : Res, (.arr g3 50 [.int .i64 dirs, .slice ca cn cc] : Res) = sv := ⟨_, rfl⟩
  let q0 : DP := { p with gn := g', esn := p.ess, ckn := p.cks, Mn := p.Ms }
  have h3 : St w0 X w3 ((resD gd m q0 ++ DR p.FL N) ++ [sv]) := by rw [← hsv]; exact h3
  have hcap : m.chs.length ≤ p.cc := (h3.rd (i := 3) rfl).le
  obtain ⟨K, hKd⟩ : ∃ K : Nat, min dirs.toNat m.chs.length = K := ⟨_, rfl⟩
  have hK : (if (m.chs.length : Int) < (if dirs < 0 then 0 else dirs) then (m.chs.length : Int) else (if dirs < 0 then 0 else dirs)) = (K : Int) := by
    rw [← hKd]; split <;> split <;> omega
  have hgl : ∀ {w' : World} {R : List Res}, St w0 X w' (R ++ [sv]) → (Instr.loadAt 3 (.pointer (some ⟨g3, 0, none⟩))).run Try.prog w' = .ok (.int .i64 dirs) w' := fun h => by
    rw [← hsv] at h
    exact h.ldL (o := 0) getLast' (intA _) rfl rfl
  refine ⟨_, rfl, w3, r3, fun w' => ∃ Y, St w0 X w' ((.arr gd 82 (dskL m q0) :: Y) ++ [sv]), ⟨_, h3.drew⟩, p.ca, m.chs.length, p.cc, fun w' ⟨Y, hY⟩ => hY.ldL (i := 0) (o := 8) rfl (chsA _) rfl rfl, dirs, fun w' ⟨Y, hY⟩ => hgl hY, p.ca, m.chs.length, p.cc, fun w' ⟨Y, hY⟩ => hY.ldL (i := 0) (o := 8) rfl (chsA _) rfl rfl, ?_⟩
  rw [hK, Int.toNat_natCast]
  have hKle : K ≤ m.chs.length := by omega
  refine ⟨by omega, by omega, fun x w' => ∃ (i : Nat) (es : Array MapEntry) (ck : Nat) (Mn : Dir), x = (i : Int) ∧ i ≤ K ∧ MapE kyE (vlE p.ps) es ck Mn ∧ MapIsA Ent.name Mn (replay m.syn (m.chs.take i)) ∧ St w0 X w' ((resD gd m { p with gn := g', esn := es, ckn := ck, Mn := Mn } ++ DR p.FL N) ++ [sv]), fun x _ => K - x.toNat,
    ⟨0, p.ess, p.cks, p.Ms, rfl, by omega, hp.maps, hp.iss, h3.drew⟩, ?_⟩
  rintro x w4 ⟨i, es, ck, Mn, rfl, hi, hE, hD, h4⟩
  refine ⟨fun hlt => ?_, fun hge => ?_⟩
  · have hi' : i < K := by simp at hlt; omega
    have hx : m.chs[i]? = some m.chs[i] := List.getElem?_eq_getElem (by omega)
    obtain ⟨c, hc⟩ : ∃ c, m.chs[i] = c := ⟨_, rfl⟩
    rw [hc] at hx
    have hcells : Cells w4 p.ca (m.chs.flatMap (chC p.ps)) := h4.cells (i := 3) rfl
    have hxs : ((m.chs.flatMap (chC p.ps)).drop (i * 3)).take 3 = chC p.ps c := by
      rw [flatMap_drop i fun y _ => chC_len p.ps y, List.drop_eq_getElem_cons (by omega), hc, List.flatMap_cons, List.take_left' (chC_len _ _)]
    obtain ⟨b, o, g5, w5, w6, ha, hld, r5, r6, h6⟩ := copyAgg (T := 89) (sz := 3) h4 chAg chSz chZ rfl hcells hxs (chC_len _ _) (by decide) (chC_one _ _)
    have hmk := make_spec (i := 1) (c := c) h6.drew rfl hE hD
    refine ⟨b, o, ha, by omega, by omega, _, hld _ (by rw [Int.toNat_natCast]), g5, w5, r5, w6, r6, fun w' => ∃ Y, St w0 X w' ((.arr gd 82 (dskL m q0) :: Y) ++ [.arr g5 89 (chC p.ps c)]), ⟨_, h6.drew⟩, .map (some g'), fun w' ⟨Y, hY⟩ => hY.ldL (i := 0) (o := 6) rfl (dirA _) rfl rfl, (chC p.ps c).toArray, fun w' ⟨Y, hY⟩ => hY.ldA (l := chC p.ps c) getLast' (chAg _) (chSz _) (chC_len _ _), hmk.mono ?_⟩
    rintro e w7 ⟨rfl, es', ck', Mn', hE', hD', h7⟩
    have h7 : St w0 X w7 (((resD gd m { p with gn := g', esn := es', ckn := ck', Mn := Mn' } ++ DR p.FL N) ++ [sv]) ++ [.arr g5 89 (chC p.ps c)]) := h7
    refine ⟨rfl, fun w' => ∃ Y, St w0 X w' ((.arr gd 82 (dskL m q0) :: Y) ++ [.arr g5 89 (chC p.ps c)]), fun _ h => h, ⟨_, h7⟩, ⟨i + 1, es', ck', Mn', wrap_succ hi' (by omega), by omega, hE', ?_, St.pop h7⟩, mu_succ hi' (by omega)⟩
    rw [List.take_add_one, hx]
    simp only [Option.toList_some, replay_snoc]
    exact hD'
  have hi' : i = K := by simp at hge; omega
  subst hi'
  obtain ⟨d, hd⟩ : ∃ d, crashD m dirs = d := ⟨_, rfl⟩
  have hrd : replay m.syn (m.chs.take i) = d := by
    rw [← hd, crashD]
    congr 1
    rw [← hKd]
    by_cases hle : dirs.toNat ≤ m.chs.length
    · rw [Nat.min_eq_left hle]
    · rw [Nat.min_eq_right (by omega), List.take_of_length_le (Nat.le_refl _), List.take_of_length_le (by omega)]
  have hokd : OkDir m.files.length d := by rw [← hrd]; exact hw.dirs _
  rw [hrd] at hD
  let q : DP := { p with gn := g', esn := es, ckn := ck, Mn := Mn }
  have hmem : DMem { m with now := d } q := ⟨hokd, hw.syn, hw.size, hp.files, hp.arm, hp.fails, hE, hD⟩
  have h4 : St w0 X w4 ((resD gd { m with now := d } q ++ DR q.FL N) ++ [sv]) := h4
  rw [DR_snoc] at h4
  refine (list_spec hmem h4).mono ?_
  rintro e w8 ⟨na, nc, rfl, h8⟩
  obtain ⟨nm, hnmd⟩ : ∃ nm : Res, (.row 9 1 (.slice na (namesM { m with now := d }).length nc) (namesM { m with now := d }).length ((namesM { m with now := d }).map strV) : Res) = nm := ⟨_, rfl⟩
  have hnl : (namesM { m with now := d }).length = d.length := by simp [namesM]
  rw [hnmd] at h8
  have h9 : St w0 X w8 ((resD gd { m with now := d } q ++ DR q.FL (N ++ [sv])) ++ [nm]) := Sx.St.callPart (N := []) (by rw [List.append_nil]; exact h4) h8
  rw [DR_snoc, List.append_assoc] at h9
  rw [hnl]
  have hdl := hokd.len
  refine ⟨_, _, _, rfl, fun x w' => ∃ (i : Nat) (FL : List FR), x = (i : Int) ∧ i ≤ d.length ∧ FL.map FR.g = p.ps ∧ FL.map FR.m = cutAll cuts 0 (d.take i) m.files ∧ St w0 X w' (resD gd m q ++ DR FL (N ++ ([sv] ++ [nm]))), fun x _ => d.length - x.toNat, ⟨0, p.FL, rfl, by omega, rfl, by rw [List.take_zero]; exact hp.files, h9⟩, ?_⟩
  clear hge
  rintro x w9 ⟨i, FL, rfl, hi, hFg, hFm, h9⟩
  refine ⟨fun hlt => ?_, fun hge => ?_⟩
  · have hi' : i < d.length := by simp at hlt; omega
    have he : d[i]? = some d[i] := List.getElem?_eq_getElem hi'
    obtain ⟨e, hed⟩ : ∃ e, d[i] = e := ⟨_, rfl⟩
    rw [hed] at he
    have hem : e ∈ d := List.mem_of_getElem? he
    have hil := (hokd.ent e hem).1
    have hT := St.lasts h9
    have hN := hq w9 (St.mids h9)
    have hnmv : ((namesM { m with now := d }).map strV)[i]? = some (strV e.name) := by rw [namesM, List.getElem?_map, List.getElem?_map, he]; rfl
    have hnr : Rd w9 na (namesM { m with now := d }).length nc 1 ((namesM { m with now := d }).map strV) := by
      rw [← hnmd] at hT
      exact hT.rd (i := 1) rfl
    obtain ⟨b, o, ha, hcell⟩ := hnr.cells.at_ hnmv
    have hg9 : w9.heap[g']? = some (.map es ck) := h9.holds 1 _ rfl
    have hlk := lookF hE hD hg9 hem
    have hFl : FL.length = m.files.length := by have := congrArg List.length hFm; rw [cutAll_len] at this; simpa using this
    obtain ⟨f, hf⟩ : ∃ f, FL[e.file]? = some f := ⟨_, List.getElem?_eq_getElem (by omega)⟩
    have hfm : fileAt (cutAll cuts 0 (d.take i) m.files) e.file = f.m := by
      rw [← hFm, fileAt, List.getD, List.getElem?_map, hf]; rfl
    have hpg : p.ps.getD e.file 0 = f.g := by
      rw [← hFg, List.getD, List.getElem?_map, hf]; rfl
    have hfok := fileAt_ok (cutAll_ok cuts (d.take i) 0 m.files hw.syn) e.file
    rw [hfm] at hfok
    have hfok : f.syn ≤ f.data.length ∧ f.data.length ≤ 1099511627776 := hfok
    have hptr : ptrV p.ps e.file = .pointer (some ⟨f.g, 0, none⟩) := by show Value.pointer (some ⟨p.ps.getD _ 0, 0, none⟩) = _; rw [hpg]
    rw [hptr] at hlk
    have hld1 : (Instr.loadAt 48 (.pointer (some ⟨g3, 1, none⟩))).run Try.prog w9 = .ok (.slice ca cn cc) w9 := by
      rw [← hsv] at hT
      exact hT.ldL (i := 0) (o := 1) rfl (insA' _) rfl rfl
    obtain ⟨more, hmore⟩ : ∃ more, cutAt cuts i = more := ⟨_, rfl⟩
    refine ⟨b, o, ha, by omega, by omega, _, by rw [Int.toNat_natCast, Nat.mul_one]; exact ld1 (stA' _) hcell, _, h9.ldL (i := 0) (o := 6) rfl (dirA _) rfl rfl, f.g, 0, hlk, ca, cn, cc, hld1, fun x w' => x = (more : Int) ∧ w' = w9, ⟨fun hic => ?_, fun hic => ⟨?_, rfl⟩⟩, ?_⟩
    · have hic' : i < cn := by simp at hic; omega
      have hcx : cuts[i]? = some (cuts.getD i 0) := by simp [List.getD, show i < cuts.length by omega]
      have hcv : (zv cuts)[i]? = some (.int .i64 (cuts.getD i 0)) := by rw [List.getElem?_map, hcx]; rfl
      obtain ⟨b2, o2, ha2, hcell2⟩ := hN.cells.at_ hcv
      refine ⟨ca, cn, cc, hld1, b2, o2, ha2, by omega, by omega, _, by rw [Int.toNat_natCast, Nat.mul_one]; exact ld1 (intA _) hcell2, ?_, rfl⟩
      rw [← hmore, cutAt]
      split <;> omega
    · have hic' : ¬ i < cn := by simp at hic; omega
      rw [← hmore, cutAt, List.getD, List.getElem?_eq_none (by omega)]
      rfl
    rintro x w10 ⟨rfl, rfl⟩
    have h10 := (h9.drew).perm (perm_DR hf (resD gd m q) (N ++ ([sv] ++ [nm])))
    have hcap2 : f.data.length ≤ f.c := (h10.rd (i := 1) rfl).le
    obtain ⟨Z, hZ⟩ : ∃ Z, f.syn + min more (f.data.length - f.syn) = Z := ⟨_, rfl⟩
    have hZl : Z ≤ f.data.length := by omega
    have hWW : IntKind.wrap .i64 ((f.syn : Int) + (if IntKind.wrap .i64 ((f.data.length : Int) - (f.syn : Int)) < (more : Int) then IntKind.wrap .i64 ((f.data.length : Int) - (f.syn : Int)) else (more : Int))) = (Z : Int) := by
      have e1 : IntKind.wrap .i64 ((f.data.length : Int) - (f.syn : Int)) = (f.data.length : Int) - (f.syn : Int) := wrap_i64 (by omega) (by omega)
      rw [e1]
      have e2 : ((f.syn : Int) + (if (f.data.length : Int) - (f.syn : Int) < (more : Int) then (f.data.length : Int) - (f.syn : Int) else (more : Int))) = (Z : Int) := by
        rw [← hZ]; split <;> omega
      rw [e2, wrap_i64 (by omega) (by omega)]
    refine ⟨fun w' => ∃ Y, St w0 X w' (f.blk :: Y), ⟨_, h10⟩, f.a, f.data.length, f.c, fun w' ⟨Y, hY⟩ => hY.ldL (i := 0) (o := 0) rfl (bsA _) rfl rfl, f.syn, fun w' ⟨Y, hY⟩ => hY.ldL (i := 0) (o := 1) rfl (intA _) rfl rfl, f.a, f.data.length, f.c, fun w' ⟨Y, hY⟩ => hY.ldL (i := 0) (o := 0) rfl (bsA _) rfl rfl, f.syn, fun w' ⟨Y, hY⟩ => hY.ldL (i := 0) (o := 1) rfl (intA _) rfl rfl, ?_⟩
    rw [hWW, Int.toNat_natCast]
    obtain ⟨w11, r11, h11⟩ := h10.stL (i := 0) (o := 0) (off := 0) (T := 22) (v := .slice f.a Z f.c) rfl (bsS _) rfl (by simp) rfl
    have h12 := h11.upd (i := 1) (r' := .row 5 1 (.slice f.a Z f.c) Z (bv (f.data.take Z))) rfl (Chg.refl _ _) (rowTake (h11.holds 1 _ rfl) hZl) (fun k hk => .inl (by revert hk; unfold FR.row FR.val Res.fp; cases f.a <;> exact id))
    let f' : FR := ⟨f.g, f.a, f.c, f.data.take Z, f.syn⟩
    have hf'l : f'.data.length = Z := by show (f.data.take Z).length = Z; rw [List.length_take]; omega
    have h13 : St w0 X w11 (f'.blk :: f'.row :: (resD gd m q ++ DR (FL.eraseIdx e.file) (N ++ ([sv] ++ [nm])))) := by
      unfold FR.blk FR.row FR.val
      rw [hf'l]
      exact h12
    have hq2 := perm_DR (FL := FL.set e.file f') (i := e.file) (f := f') (by rw [List.getElem?_set_self (by omega)]) (resD gd m q) (N ++ ([sv] ++ [nm]))
    rw [eraseIdx_set] at hq2
    have h14 := h13.perm hq2.symm
    refine ⟨by omega, by omega, w11, r11, ⟨i + 1, FL.set e.file f', wrap_succ hi' (by omega), by omega, ?_, ?_, h14⟩, mu_succ hi' (by omega)⟩
    · rw [List.map_set, ← hFg]
      have : (FL.map FR.g)[e.file]? = some f'.g := by rw [List.getElem?_map, hf]; rfl
      obtain ⟨h1, h2⟩ := List.getElem?_eq_some_iff.1 this
      rw [← h2, List.set_getElem_self]
    · rw [List.map_set, List.take_add_one, he]
      simp only [Option.toList_some]
      rw [cutAll_snoc, hFm, setF, hfm, List.length_take, Nat.min_eq_left hi, Nat.zero_add, hmore]
      show _ = List.set _ _ (⟨f.data.take (f.syn + min more (f.data.length - f.syn)), f.syn⟩ : FileM)
      rw [hZ]; rfl
  · have hi' : i = d.length := by simp at hge; omega
    rw [hi', List.take_of_length_le (Nat.le_refl _)] at hFm
    obtain ⟨m2, hm2⟩ : ∃ m2 : DiskM, { m with now := d, files := cutAll cuts 0 d m.files } = m2 := ⟨_, rfl⟩
    have hmem2 : DMem { m with now := d, files := cutAll cuts 0 d m.files } { q with FL := FL } := ⟨by show OkDir (cutAll cuts 0 d m.files).length d; rw [cutAll_len]; exact hokd, cutAll_ok _ _ _ _ hw.syn, hw.size, hFm, hp.arm, hp.fails, by show MapE kyE (vlE (FL.map FR.g)) _ _ _; rw [hFg]; exact hE, hD⟩
    have h15 : St w0 X w9 (resD gd { m with now := d, files := cutAll cuts 0 d m.files } { q with FL := FL } ++ DR FL (N ++ ([sv] ++ [nm]))) := by
      have e : resD gd { m with now := d, files := cutAll cuts 0 d m.files } { q with FL := FL } = resD gd m q := by
        have : ({ q with FL := FL } : DP).ps = q.ps := hFg
        unfold resD
        rw [this]
        rfl
      rw [e]; exact h9
    refine (settle_spec hmem2 h15).mono ?_
    rintro e w12 ⟨rfl, h16⟩
    have h17 := h16.subN (N' := N) (List.sublist_append_left _ _)
    have hps2 : ({ q with FL := FL } : DP).ps = ps := by rw [← hps]; exact hFg
    rw [hps2] at h17
    obtain ⟨p4, hps4, hp4, h18⟩ := h17
    obtain ⟨w13, r13, h19⟩ := h18.stP (i := 0) (T := 79) (n := 5) (v := [.int .i64 (m.steps : Int), .bool false, .bool false, .int .i64 0, .slice none 0 0]) rfl (meterS _) (by simp [dskL]) rfl (by intro u hu; simp only [List.mem_cons, List.not_mem_nil, or_false] at hu; rcases hu with rfl | rfl | rfl | rfl | rfl <;> rfl)
    refine ⟨rfl, _, DiskIn.cell h18 (i := 0) (intA _) rfl, _, meter_build _ _, w13, r13, rfl, { p4 with av := 0, fa := none, fn := 0, fc := 0 }, hps4, ?_, ?_⟩
    · have := hp4.upd m.steps false none [] (av := 0) (fa := none) (fn := 0) (fc := 0) (F := p4.F) (fun k hk => by cases hk) ⟨rfl, Nat.le_refl _, .inl rfl, by simp⟩
      rw [crashM, hd]
      exact this
    · rw [crashM, hd]
      exact h19

end

end Go.Proofs.Ytoijbpkplegnkaa
