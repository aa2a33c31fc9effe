/- The document's answer of chapter 1 in memory: step (conditions: those that each theorem names). -/
import Derived.Test.YtoijbpkplegnkaaRefC
namespace Go.Proofs.Ytoijbpkplegnkaa
open Go Sx
set_option maxRecDepth 8000

section
variable {w0 w w' : World} {X : List Nat} {N N' T : List Res} {gr : Nat} {m : DiskM}

theorem St.newFails {p : RP} {l : List Nat} {fa' : Option Addr} {fc' : Nat} (h : St w0 X w ((resR gr m p ++ T) ++ [.row 3 1 (.slice fa' l.length fc') l.length (niv l)])) :
    ∃ w', (Instr.storeAt 48 (.pointer (some ⟨gr, 8, none⟩)) (.slice fa' l.length fc')).run Try.prog w = .ok () w' ∧ St w0 X w' (resR gr { m with fails := l } { p with fa := fa', fc := fc' } ++ T) := by
  obtain ⟨w1, r1, h1⟩ := h.stL (i := 0) (o := 8) (off := 8) (T := 48) (v := .slice fa' l.length fc') rfl (insS _) rfl (by simp [rdL]) rfl
  refine ⟨w1, r1, ?_⟩
  have h2 : St w0 X w1 ([.arr gr 102 (rdL { m with fails := l } { p with fa := fa', fc := fc' }), .row 122 2 (.slice p.Fa p.FL.length p.Fc) p.FL.length (p.FL.flatMap FD.cells), .row 124 3 (.slice p.ca m.chs.length p.cc) m.chs.length (m.chs.flatMap chR)] ++ ((.row 3 1 (.slice p.fa m.fails.length p.fc) m.fails.length (niv m.fails) :: T) ++ [.row 3 1 (.slice fa' l.length fc') l.length (niv l)])) := h1
  have h3 := h2.sub (List.Sublist.append_left (List.Sublist.append_right (List.sublist_cons_self _ _) _) _)
  exact h3.perm (List.Perm.append_left _ List.perm_append_comm)

set_option maxHeartbeats 1000000 in
theorem rstep_spec (h : RefIn w0 X w gr m N) (hb : m.steps < 4611686018427387904) :
    Calls Try.prog 74 #[.pointer (some ⟨gr, 0, none⟩)] w fun e w' => e = .returned (.int .i64 ((stepM m).2.getD 0)) ∧ RefIn w0 X w' gr (stepM m).1 N := by
  obtain ⟨p, hp, hS⟩ := h
  apply amphoraref01_Disk_step_vc
  refine ⟨_, RefIn.cell hS (i := 7) (intA _) rfl, fun h0 => ?_, fun h0 => ?_⟩
  · have ha : m.arm = some 0 := by
      have : armV m = 0 := by simpa using h0
      cases hq : m.arm with
      | none => rw [armV, hq] at this; simp at this
      | some k =>
        rw [armV, hq] at this
        have : k = 0 := by simpa using this
        rw [this]
    obtain ⟨w1, r1, h1⟩ := hS.stL (i := 0) (o := 6) (off := 6) (T := 4) (v := .bool true) rfl (boolS _) rfl (by simp [rdL]) rfl
    have hst : stepM m = ({ m with down := true }, some 1) := by unfold stepM; rw [if_pos ha]
    rw [hst]
    exact ⟨w1, r1, rfl, p, hp.upd m.steps true m.arm m.fails hp.arm hp.fails hp.flen, h1⟩
  have ha0 : ¬ m.arm = some 0 := by
    intro e; rw [armV, e] at h0; simp at h0
  obtain ⟨am, ham⟩ : ∃ am, m.arm.map (fun x : Nat => x - 1) = am := ⟨_, rfl⟩
  have hamb : ∀ k, am = some k → k ≤ 9223372036854775807 := by
    intro k hk
    rw [← ham] at hk
    obtain ⟨j, hj, rfl⟩ := Option.map_eq_some_iff.1 hk
    have := hp.arm j hj
    omega
  refine ⟨_, RefIn.cell hS (i := 7) (intA _) rfl, fun w' => St w0 X w' (resR gr { m with arm := am } p ++ (p.FL.map FD.row ++ (p.P ++ N))), ⟨fun hpos => ?_, fun hneg => ?_⟩, ?_⟩
  · obtain ⟨k, hk⟩ : ∃ k, m.arm = some k := by
      cases hq : m.arm with
      | none => rw [armV, hq] at hpos; simp at hpos
      | some k => exact ⟨k, rfl⟩
    have hkb := hp.arm k hk
    have hk0 : k ≠ 0 := fun e => ha0 (by rw [hk, e])
    have hv : armV m = (k : Int) := by rw [armV, hk]
    have hw : IntKind.wrap .i64 (armV m - 1) = ((k - 1 : Nat) : Int) := by rw [hv, wrap_i64 (by omega) (by omega)]; omega
    obtain ⟨w2, r2, h2⟩ := hS.stL (i := 0) (o := 7) (off := 7) (T := 3) (v := .int .i64 ((k - 1 : Nat) : Int)) rfl (intS _) rfl (by simp [rdL]) rfl
    refine ⟨_, RefIn.cell hS (i := 7) (intA _) rfl, w2, by rw [hw]; exact r2, ?_⟩
    have : am = some (k - 1) := by rw [← ham, hk]; rfl
    rw [this]
    exact h2
  · have hnone : m.arm = none := by
      cases hq : m.arm with
      | none => rfl
      | some k =>
        have hk0 : k ≠ 0 := fun e => ha0 (by rw [hq, e])
        rw [armV, hq] at hneg
        simp at hneg
        omega
    have : am = none := by rw [← ham, hnone]; rfl
    have e : resR gr { m with arm := am } p = resR gr m p := by
      unfold resR rdL armV
      simp only [this, hnone]
    rw [e]; exact hS
  rintro w3 h3
  have hw1 : IntKind.wrap .i64 ((m.steps : Int) + 1) = ((m.steps + 1 : Nat) : Int) := by rw [wrap_i64 (by omega) (by omega)]; omega
  obtain ⟨w4, r4, h4⟩ := h3.stL (i := 0) (o := 5) (off := 5) (T := 3) (v := .int .i64 ((m.steps + 1 : Nat) : Int)) rfl (intS _) rfl (by simp [rdL]) rfl
  have h4 : St w0 X w4 (resR gr { m with steps := m.steps + 1, arm := am } p ++ (p.FL.map FD.row ++ (p.P ++ N))) := h4
  have hflen := hp.flen
  refine ⟨_, h3.ldL (i := 0) (o := 5) rfl (intA _) rfl rfl, w4, by show (Instr.storeAt _ _ (.int .i64 (IntKind.wrap .i64 ((m.steps : Int) + 1)))).run _ _ = _; rw [hw1]; exact r4, _, _, _, h4.ldL (i := 0) (o := 8) rfl (insA' _) rfl rfl, fun hz => ?_, fun hz => ?_⟩
  · have hfn : m.fails = [] := List.eq_nil_of_length_eq_zero (by simpa using hz)
    have hst : stepM m = ({ m with steps := m.steps + 1, arm := am }, none) := by unfold stepM; rw [if_neg ha0, hfn, ← ham]
    rw [hst]
    exact ⟨rfl, p, hp.upd (m.steps + 1) m.down am m.fails hamb hp.fails hp.flen, h4⟩
  obtain ⟨x, r, hxr⟩ : ∃ x r, m.fails = x :: r := by
    cases hq : m.fails with
    | nil => rw [hq] at hz; simp at hz
    | cons x r => exact ⟨x, r, rfl⟩
  have hx63 : x ≤ 9223372036854775807 := hp.fails x (by rw [hxr]; simp)
  have hr63 : ∀ y ∈ r, y ≤ 9223372036854775807 := fun y hy => hp.fails y (by rw [hxr]; simp [hy])
  have hlr : m.fails.length = r.length + 1 := by rw [hxr]; simp
  have hrow : Rd w4 p.fa m.fails.length p.fc 1 (niv m.fails) := h4.rd (i := 3) rfl
  obtain ⟨g5, w5, r5, k5⟩ := (St.start w4).lit intT [] (by simp) (by simp)
  have hcap := hrow.le
  refine ⟨_, _, _, w5, r5, _, _, _, (h4.same k5.chg).ldL (i := 0) (o := 8) rfl (insA' _) rfl rfl, by omega, by show (1 : Int) ≤ ((m.fails.length : Nat) : Int); omega, by show ((m.fails.length : Nat) : Int) ≤ ((p.fc : Nat) : Int); omega, fun a' hsub => ?_⟩
  have hsubr := Rd.sub (hrow.keep0 k5.chg) hsub (hh := m.fails.length) (by omega) (Nat.le_refl _) hcap (Nat.le_refl _)
  have e2 : ((niv m.fails).drop (1 * 1)).take ((m.fails.length - 1) * 1) = niv r := by
    rw [hlr, hxr]
    show ((niv r)).take _ = _
    exact List.take_of_length_le (by simp [niv])
  rw [e2] at hsubr
  obtain ⟨va, vc, w6, r6, k6, _, _⟩ := k5.append (i := 0) (ty := 48) intT rfl hsubr (fun u hu => by obtain ⟨y, _, rfl⟩ := List.mem_map.1 hu; rfl) (by simp; omega) (by simp only [maxLen]; simp; omega)
  have hl1 : m.fails.length - 1 = r.length := by omega
  simp only [List.length_nil, Nat.zero_add, List.nil_append, hl1] at r6 k6
  have k6 : St w4 [] w6 [.row 3 1 (.slice va r.length vc) r.length (niv r)] := k6
  have h6 : St w0 X w6 ((resR gr { m with steps := m.steps + 1, arm := am } p ++ (p.FL.map FD.row ++ (p.P ++ N))) ++ [.row 3 1 (.slice va r.length vc) r.length (niv r)]) := Sx.St.callPart (N := []) (by rw [List.append_nil]; exact h4) k6
  have hn0 : (niv m.fails)[0]? = some (.int .i64 (x : Int)) := by rw [hxr]; rfl
  obtain ⟨b, o, hab, hcell⟩ := (hrow.keep0 k6.chg).cells.at_ hn0
  have hcell : (Instr.loadAt 3 (.pointer (some ⟨b, o + Int.toNat (0 : Int) * 1, none⟩))).run Try.prog w6 = .ok (.int .i64 (x : Int)) w6 := ld1 (intA _) hcell
  refine ⟨va, r.length, vc, w6, by rw [hl1]; exact r6, _, _, _, h6.ldL (i := 0) (o := 8) rfl (insA' _) rfl rfl, b, o, hab, by omega, by show (0 : Int) < ((m.fails.length : Nat) : Int); omega, _, hcell, fun hx0 => ?_, fun hx0 => ?_⟩
  · have hx0 : x = 0 := by simp at hx0; omega
    subst hx0
    have hst : stepM m = ({ m with steps := m.steps + 1, arm := am, fails := r }, some 2) := by unfold stepM; rw [if_neg ha0, hxr, ← ham]
    rw [hst]
    obtain ⟨w7, r7, h7⟩ := St.newFails h6
    exact ⟨w7, r7, rfl, { p with fa := va, fc := vc }, hp.upd (m.steps + 1) m.down am r hamb hr63 (by omega), h7⟩
  · obtain ⟨y, rfl⟩ : ∃ y, x = y + 1 := ⟨x - 1, by simp at hx0; omega⟩
    have hst : stepM m = ({ m with steps := m.steps + 1, arm := am, fails := y :: r }, none) := by unfold stepM; rw [if_neg ha0, hxr, ← ham]
    rw [hst]
    have wy : IntKind.wrap .i64 (((y + 1 : Nat) : Int) - 1) = (y : Int) := by rw [wrap_i64 (by omega) (by omega)]; omega
    obtain ⟨g8, w8, r8, k8⟩ := (St.start w6).lit intT [.int .i64 (y : Int)] (by simp [Value.oneCell']) (by simp)
    have hrr : Rd w8 va r.length vc 1 (niv r) := (k6.rd (i := 0) rfl).keep0 k8.chg
    obtain ⟨ua, uc, w9, r9, k9, _, _⟩ := k8.append (i := 0) (ty := 48) intT rfl hrr (fun u hu => by obtain ⟨y, _, rfl⟩ := List.mem_map.1 hu; rfl) (by simp; omega) (by simp only [maxLen]; simp; omega)
    have e3 : [Value.int IntKind.i64 (y : Int)].length + r.length = (y :: r).length := by simp; omega
    rw [e3] at r9 k9
    have h9 : St w0 X w9 ((resR gr { m with steps := m.steps + 1, arm := am } p ++ (p.FL.map FD.row ++ (p.P ++ N))) ++ [.row 3 1 (.slice ua (y :: r).length uc) (y :: r).length (niv (y :: r))]) := Sx.St.callPart (N := []) (by rw [List.append_nil]; exact St.pop h6) k9
    obtain ⟨w10, r10, h10⟩ := St.newFails h9
    refine ⟨_, _, _, h6.ldL (i := 0) (o := 8) rfl (insA' _) rfl rfl, b, o, hab, by omega, by show (0 : Int) < ((m.fails.length : Nat) : Int); omega, _, hcell, _, _, _, w8, by rw [wy]; exact r8, ua, _, uc, w9, r9, w10, r10, rfl, { p with fa := ua, fc := uc }, hp.upd (m.steps + 1) m.down am (y :: r) hamb (fun z hz => ?_) (by simp; omega), h10⟩
    rcases List.mem_cons.1 hz with rfl | hz
    · omega
    · exact hr63 z hz

end

end Go.Proofs.Ytoijbpkplegnkaa
