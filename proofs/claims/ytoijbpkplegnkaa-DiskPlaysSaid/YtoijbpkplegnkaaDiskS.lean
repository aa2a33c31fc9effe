/- The law DiskSynced (conditions: none). -/
import Derived.Test.YtoijbpkplegnkaaDiskR
import Derived.Test.YtoijbpkplegnkaaDiskP
namespace Go.Proofs.Ytoijbpkplegnkaa
open Go Sx
set_option maxRecDepth 8000

theorem copyPart (a : Option Addr) (n c : Nat) (d : List UInt8) (w : World) (hr : RdB w a n c d) (hb : n ≤ 140737488355000) :
    ∃ g1 w1 va vc w2 g3 w3, (Instr.buildSlice 22 0 #[]).run Try.prog w = .ok (.slice (some ⟨g1, 0, none⟩) 0 0) w1 ∧ (Builtin.append_ #[22, 22] 22 #[.slice (some ⟨g1, 0, none⟩) 0 0, .slice a n c]).run Try.prog w1 = .ok (.slice va n vc) w2 ∧
      (Instr.buildSlice 44 1 #[(0, .slice va n vc)]).run Try.prog w2 = .ok (.slice (some ⟨g3, 0, none⟩) 1 1) w3 ∧ St w [] w3 [.row 5 1 (.slice va n vc) n (bv d), .row 22 1 (.slice (some ⟨g3, 0, none⟩) 1 1) 1 [.slice va n vc]] := by
  obtain ⟨g1, w1, r1, k1⟩ := (St.start w).lit bT [] (by simp) (by simp)
  obtain ⟨va, vc, w2, r2, k2⟩ := k1.appendB (i := 0) (xs := []) rfl (hr.keep0 k1.chg) (by simp; omega)
  simp only [List.length_nil, Nat.zero_add, List.nil_append] at r2 k2
  obtain ⟨g3, w3, r3, k3⟩ := k2.lit bbT [.slice va n vc] (by simp [Value.oneCell']) (by simp)
  exact ⟨g1, w1, va, vc, w2, g3, w3, r1, r2, r3, k3⟩

section
variable {w0 w w' : World} {X : List Nat} {N N' T T' : List Res} {gd : Nat} {ps : List Nat} {m : DiskM}

theorem appendCopy (nm : Nm) {va : Option Addr} {n vc g3 : Nat} {d : List UInt8} (h : DiskIn w0 X w gd ps m (N ++ [.row 5 1 (.slice va n vc) n (bv d), .row 22 1 (.slice (some ⟨g3, 0, none⟩) 1 1) 1 [.slice va n vc]])) (hb : m.steps < 4611686018427387904) :
    Calls Try.prog 12 #[.pointer (some ⟨gd, 0, none⟩), strV nm, .slice (some ⟨g3, 0, none⟩) 1 1] w fun e w' => e = .returned (errV (appendM m nm [d]).2) ∧ DiskIn w0 X w' gd ps (appendM m nm [d]).1 N := by
  refine (append_spec nm _ 1 1 [.slice va n vc] [d] h (fun hD => ?_) hb (by decide)).mono ?_
  · have hr := hD.rest.sub (List.sublist_append_right _ _)
    exact ⟨hr.rd (i := 1) rfl, r2cons (hr.rd (i := 0) rfl) (r2nil _)⟩
  · rintro e w6 ⟨rfl, h6⟩
    exact ⟨rfl, h6.subN (List.sublist_append_left _ _)⟩

/-- A disk that was made beside things that are held. -/
theorem DiskIn.under (k : St w0 X w N) (h : DiskIn w [] w' gd ps m []) : DiskIn w0 X w' gd ps m N := by
  obtain ⟨p, hps, hp, hS⟩ := h
  have h1 := Sx.St.callPart (M := N) (N := []) (by rw [List.append_nil]; exact k) hS
  refine ⟨p, hps, hp, h1.perm ?_⟩
  have e : resD gd m p ++ DR p.FL N = (resD gd m p ++ DR p.FL []) ++ N := by simp [DR, List.append_assoc]
  rw [e]
  exact List.perm_append_comm
end

theorem KeepI.mono {D : List UInt8} {L L' : Nat} {m : DiskM} (h : KeepI D L m) (hl : L ≤ L') : KeepI D L' m := ⟨h.chs, h.syn, h.file.pre, h.file.sy, Nat.le_trans h.file.le hl⟩
theorem kept_eq (l : Nm) : ((⟨l.toArray⟩ : ByteArray).toList == (ByteArray.mk #[107, 101, 112, 116]).toList) = decide (l = keptN) := by
  rw [ByteArray.toList_eq, ByteArray.toList_eq]
  show (l == keptN) = _
  by_cases h : l = keptN
  · rw [h]; rfl
  · rw [decide_eq_false h]; exact beq_eq_false_iff_ne.2 h
def opApp (n : Nm) (d : List UInt8) : OpD := ⟨1, n, [], none, 0, 0, d, 0, 0, 0, none, 0, 0, []⟩
theorem opApp_eq (m : DiskM) (n : Nm) (d : List UInt8) : playM m (opApp n d) = appendM m n [d] := by
  have h : (opApp n d).kind = 1 := rfl
  unfold playM
  rw [h, if_neg (by decide), if_pos rfl]
  rfl

set_option maxHeartbeats 4000000 in
theorem keeps_walk (a : Option Addr) (n c : Nat) (d : List UInt8) (a1 : Option Addr) (n1 c1 : Nat) (l : List OpD) (dirs : Int) (ca : Option Addr) (cn cc : Nat) (cuts : List Int) (a3 : Option Addr) (n3 c3 : Nat) (more : List UInt8) (w : World)
    (hr : RdB w a n c d) (hs : RdScript w a1 n1 c1 l) (hcu : Rd w ca cn cc 1 (zv cuts)) (hm : RdB w a3 n3 c3 more) (hb : n1 ≤ 4611686018427387904) :
    Calls Try.prog 21 #[.slice a n c, .slice a1 n1 c1, .agg #[.int .i64 dirs, .slice ca cn cc], .slice a3 n3 c3] w fun e w' => e = .returned (.bool true) ∧ Chg [] w w' := by
  obtain ⟨mI, hI⟩ := eI
  have hln := hs.rd.num (by decide)
  have hdl := hr.lenB
  have hml := hm.lenB
  apply amphoralaw01_keeps_vc
  obtain ⟨g6, w1, r1, k1⟩ := (St.start w).boxA (P := Try.prog) 50 [.int .i64 dirs, .slice ca cn cc]
  have k1 : St w [] w1 [.arr g6 50 [.int .i64 dirs, .slice ca cn cc]] := k1
  obtain ⟨sv, hsv⟩ : ∃ sv : Res, (.arr g6 50 [.int .i64 dirs, .slice ca cn cc] : Res) = sv := ⟨_, rfl⟩
  rw [hsv] at k1
  refine ⟨g6, w1, r1, (alive01_spec w1).mono ?_⟩
  rintro e w2 ⟨rfl, c2⟩
  have k2 := k1.same c2
  refine ⟨_, rfl, fun h => (by cases h), fun _ => (long_spec a1 n1 c1 l w2 (hs.keep0 k2.chg) hb).mono ?_⟩
  rintro e w3 ⟨rfl, c3'⟩
  have k3 := k2.same c3'
  refine ⟨_, rfl, fun _ => ⟨rfl, k3.chg⟩, fun hbig => ?_⟩
  simp only [Bool.or_eq_false_iff, decide_eq_false_iff_not] at hbig
  obtain ⟨⟨hlong, hn⟩, hn3⟩ := hbig
  obtain ⟨hs1, _, hs3⟩ := longF_small l 0 hlong
  have hd6 : d.length ≤ 65536 := by omega
  refine (newDisk_spec 1048576 w3).mono ?_
  rintro e w4 (⟨hbad, _⟩ | ⟨_, gd, rfl, h4⟩)
  · omega
  have h4 := DiskIn.under k3 h4
  refine ⟨_, _, rfl, fun x w' => x = false ∧ ∃ ps, DiskIn w [] w' gd ps (km4 d) [sv], ⟨_, neqS_nil hI none _ _, fun h => (by cases h), fun _ => ⟨_, eqPtr .eql (.inl rfl) dkT _ _ _ _, fun h => (by cases h), fun _ => (create_spec keptN h4 (by decide) (by decide)).mono ?_⟩⟩, ?_⟩
  · rintro e w5 ⟨rfl, ps, h5⟩
    rw [kl1] at h5 ⊢
    obtain ⟨g1, w6, va, vc, w7, g3, w8, r6, r7, r8, k8⟩ := copyPart a n c d w5 (hr.keep0 h5.chg) (by omega)
    refine ⟨_, rfl, _, neqS_nil hI none _ _, fun h => (by cases h), fun _ => ⟨_, _, _, w6, r6, _, _, _, w7, r7, _, _, _, w8, r8, (appendCopy keptN (h5.addSt k8) (by decide)).mono ?_⟩⟩
    rintro e w9 ⟨rfl, h9⟩
    rw [kl2 d hd6] at h9 ⊢
    refine ⟨_, rfl, _, neqS_nil hI none _ _, fun h => (by cases h), fun _ => (sync_spec keptN h9 (by show 2 < 4611686018427387904; decide)).mono ?_⟩
    rintro e w10 ⟨rfl, h10⟩
    rw [kl3] at h10 ⊢
    refine ⟨_, rfl, _, neqS_nil hI none _ _, fun h => (by cases h), fun _ => (syncDir_spec h10 (by show 3 < 4611686018427387904; decide)).mono ?_⟩
    rintro e w11 ⟨rfl, h11⟩
    rw [kl4] at h11 ⊢
    exact ⟨_, rfl, _, neqS_nil hI none _ _, rfl, ps, h11⟩
  rintro x w12 ⟨rfl, ps0, h12⟩
  refine ⟨fun h => (by cases h), fun _ => ⟨fun x w' => ∃ (i : Nat) (ps : List Nat) (m : DiskM), x = (i : Int) ∧ i ≤ n1 ∧ KeepI d (if i = 0 then d.length else d.length + more.length) m ∧ 0 < m.files.length ∧ m.steps ≤ 4 + 2 * i ∧ m.chs.length ≤ 2 * i ∧ DiskIn w [] w' gd ps m [sv], fun x _ => n1 - x.toNat, ⟨0, ps0, km4 d, rfl, by omega, kl5 d, by show 0 < 1; decide, Nat.le_refl _, Nat.le_refl _, h12⟩, ?_⟩⟩
  rintro x w13 ⟨i, ps, m, rfl, hi, hK, hpos, hst, hch, h13⟩
  refine ⟨fun hlt => ?_, fun hge => ?_⟩
  · have hi' : i < n1 := by simp at hlt; omega
    have ho : l[i]? = some l[i] := List.getElem?_eq_getElem (by omega)
    obtain ⟨o, hod⟩ : ∃ o, l[i] = o := ⟨_, rfl⟩
    rw [hod] at ho
    have hom := List.mem_of_getElem? ho
    have hop := hs.ops o hom
    obtain ⟨b, k, g, w14, w15, ha, hld, r14, r15, k15⟩ := (hs.keep0 h13.chg).copy (St.start w13) ho
    have h15 := h13.addSt k15
    have hg : ∀ {w' ps' m'}, DiskIn w [] w' gd ps' m' ([sv] ++ ([] ++ [.arr g 57 (opD o)])) → St w [] w' ([sv] ++ [.arr g 57 (opD o)]) := fun h => h.rest
    have hdrop : ∀ {w' ps' m'}, DiskIn w [] w' gd ps' m' ([sv] ++ ([] ++ [.arr g 57 (opD o)])) → DiskIn w [] w' gd ps' m' [sv] := fun h => h.subN (List.sublist_append_left _ _)
    have hKm : KeepI d (d.length + more.length) m := hK.mono (by split <;> omega)
    refine ⟨b, k, ha, by omega, by omega, _, hld, g, w14, r14, w15, r15, fun x w' => x = (decide (o.name = keptN) || decide (o.to = keptN) || decide (o.kind > 9)) ∧ w' = w15, ⟨_, (hg h15).ldL (o := 1) getLast' (stA' _) rfl rfl, fun h => ?_, fun h => ⟨_, (hg h15).ldL (o := 2) getLast' (stA' _) rfl rfl, fun h2 => ?_, fun h2 => ⟨_, (hg h15).ldL (o := 0) getLast' (intA _) rfl rfl, ?_, rfl⟩⟩⟩, ?_⟩
    · rw [kept_eq] at h
      rw [h]; exact ⟨rfl, rfl⟩
    · rw [kept_eq] at h h2
      rw [h, h2]; exact ⟨rfl, rfl⟩
    · rw [kept_eq] at h h2
      rw [h, h2]; rfl
    rintro x w16 ⟨rfl, rfl⟩
    refine ⟨fun _ => ⟨⟨i + 1, ps, m, wrap_succ hi' hb, by omega, by rw [if_neg (by omega)]; exact hKm, hpos, by omega, by omega, hdrop h15⟩, mu_succ hi' hb⟩, fun hskip => ?_⟩
    simp only [Bool.or_eq_false_iff, decide_eq_false_iff_not] at hskip
    obtain ⟨⟨hnn, htt⟩, _⟩ := hskip
    refine ⟨fun w' => ∃ m2, KeepI d (d.length + more.length) m2 ∧ 0 < m2.files.length ∧ m2.steps ≤ m.steps + 1 ∧ m2.chs.length ≤ m.chs.length + 1 ∧ DiskIn w [] w' gd ps m2 ([sv] ++ ([] ++ [.arr g 57 (opD o)])), ⟨fun h0 => ?_, fun _ => ⟨m, hKm, hpos, by omega, by omega, h15⟩⟩, ?_⟩
    · have hi0 : i = 0 := by simpa using h0
      rw [if_pos hi0] at hK
      obtain ⟨g1, w17, va, vc, w18, g3, w19, r17, r18, r19, k19⟩ := copyPart a3 n3 c3 more w16 (hm.keep0 h15.chg) (by omega)
      refine ⟨_, _, _, w17, r17, _, _, _, w18, r18, _, _, _, w19, r19, (appendCopy keptN (h15.addSt k19) (by omega)).mono ?_⟩
      rintro e w20 ⟨rfl, h20⟩
      obtain ⟨_, hsm⟩ := play_both m (opApp keptN more)
      have hfg := files_grow m (opApp keptN more)
      rw [opApp_eq] at hsm hfg
      exact ⟨_, rfl, _, more_keep hK h15.wf hpos, by omega, hsm.1, hsm.2, h20⟩
    · rintro w21 ⟨m2, hK2, hpos2, hst2, hch2, h21⟩
      refine ⟨_, (hg h21).ldA (l := opD o) getLast' (opDA _) (opDS _) (opD_len _), (play_spec o hop (hs3 o hom) h21 (by omega) (by omega)).mono ?_⟩
      rintro e w22 ⟨rfl, ps', h22⟩
      obtain ⟨_, hsm⟩ := play_both m2 o
      have hfg := files_grow m2 o
      obtain ⟨hsm1, hsm2⟩ := hsm
      exact ⟨_, rfl, ⟨i + 1, ps', _, wrap_succ hi' hb, by omega, by rw [if_neg (by omega)]; exact play_keep hK2 h21.wf hpos2 o hnn htt, by omega, by omega, by omega, hdrop h22⟩, mu_succ hi' hb⟩
  · have hKm : KeepI d (d.length + more.length) m := hK.mono (by split <;> omega)
    have hsvl : (Instr.loadAt 50 (.pointer (some ⟨g6, 0, none⟩))).run Try.prog w13 = .ok (.agg #[.int .i64 dirs, .slice ca cn cc]) w13 := by
      have := h13.rest
      rw [← hsv] at this
      exact this.ldA (i := 0) (l := [.int .i64 dirs, .slice ca cn cc]) rfl (survA _) (survS _) rfl
    refine ⟨_, hsvl, (crash_spec dirs ca cn cc cuts h13 (fun w' hS => hcu.keep0 hS.chg) (by omega)).mono ?_⟩
    rintro e w23 ⟨rfl, h23⟩
    obtain ⟨q1, q2, q3⟩ := crash_keep hKm h13.wf dirs cuts
    refine ⟨rfl, (read_spec keptN h23).mono ?_⟩
    rintro e w24 ⟨ra, rn, rc, rfl, f24⟩
    rw [q1]
    have hrl := f24.2.1
    have hge2 : d.length ≤ rn := by
      have := congrArg List.length q2
      rw [List.length_take] at this
      omega
    have h24 := h23.same f24.1
    have hrd := f24.rdB
    have hcap := hrd.le
    have hup := rdB_upto hrd (k := n) (by omega)
    rw [← hdl] at hup
    rw [q2] at hup
    refine ⟨_, _, _, _, rfl, fun w' => Chg [] w24 w', Chg.drew _ _, _, fun w' _ => eqlS_nil hI none _ _, fun _ => ⟨fun _ => ⟨by omega, by omega, (⟨d.toArray⟩ : ByteArray), fun w' hw => ?_, _, fun w' hw => toStr bS bE sS ((hr.keep0 h24.chg).cells.keep0 hw) hdl, fun _ => ⟨?_, h24.chg.trans (Chg.drew _ _)⟩, fun h => (by simp at h)⟩, fun h => ?_⟩, fun h => (by cases h)⟩
    · rw [← hdl]
      exact toStr bS bE sS (hup.cells.keep0 hw) rfl
    · rw [wrap_i64 (by omega) (by omega)]
      have : decide ((rn : Int) ≤ (n : Int) + (n3 : Int)) = true := decide_eq_true (by omega)
      rw [this]
    · simp at h; omega

/-- A Loss. -/
def lossC (a : Option Addr) (n c : Nat) (a3 : Option Addr) (n3 c3 : Nat) (a1 : Option Addr) (n1 c1 : Nat) (dirs : Int) (ca : Option Addr) (cn cc : Nat) : List Value := [.slice a n c, .slice a3 n3 c3, .slice a1 n1 c1, .int .i64 dirs, .slice ca cn cc]
theorem opsA (w : World) : (isAgg 47).run Try.prog w = .ok false w := Try.isAgg47 w

theorem diskSynced_walk (a : Option Addr) (n c : Nat) (d : List UInt8) (a1 : Option Addr) (n1 c1 : Nat) (l : List OpD) (dirs : Int) (ca : Option Addr) (cn cc : Nat) (cuts : List Int) (a3 : Option Addr) (n3 c3 : Nat) (more : List UInt8) (w : World)
    (hr : RdB w a n c d) (hs : RdScript w a1 n1 c1 l) (hcu : Rd w ca cn cc 1 (zv cuts)) (hm : RdB w a3 n3 c3 more) (hb : n1 ≤ 4611686018427387904) :
    Calls Try.prog 4 #[.agg (lossC a n c a3 n3 c3 a1 n1 c1 dirs ca cn cc).toArray] w fun e w' => e = .returned (.bool true) ∧ Chg [] w w' := by
  apply amphoralaw01_DiskSynced_vc
  obtain ⟨g, w1, r1, k1⟩ := (St.start w).boxA (P := Try.prog) 52 (lossC a n c a3 n3 c3 a1 n1 c1 dirs ca cn cc)
  refine ⟨g, w1, r1, _, _, _, k1.ldL (i := 0) (o := 0) rfl (bsA _) rfl rfl, _, _, _, k1.ldL (i := 0) (o := 2) rfl (opsA _) rfl rfl, _, k1.ldP (i := 0) (o := 3) (n := 2) (xs := [.int .i64 dirs, .slice ca cn cc]) rfl (survA _) (survS _) rfl rfl, _, _, _, k1.ldL (i := 0) (o := 1) rfl (bsA _) rfl rfl, (keeps_walk a n c d a1 n1 c1 l dirs ca cn cc cuts a3 n3 c3 more w1 (hr.keep0 k1.chg) (hs.keep0 k1.chg) (hcu.keep0 k1.chg) (hm.keep0 k1.chg) hb).mono ?_⟩
  rintro e w2 ⟨rfl, c2⟩
  exact ⟨_, rfl, rfl, k1.chg.trans c2⟩

end Go.Proofs.Ytoijbpkplegnkaa
