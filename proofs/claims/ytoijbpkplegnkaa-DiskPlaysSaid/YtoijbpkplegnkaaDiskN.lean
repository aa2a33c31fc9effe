/- The laws of chapter 1: calls in memory, long, play (conditions: none). -/
import Derived.Test.YtoijbpkplegnkaaDiskL
namespace Go.Proofs.Ytoijbpkplegnkaa
open Go Sx
set_option maxRecDepth 8000

/-- A call of a disk. -/
structure OpD where
  kind : Int
  name : Nm
  to : Nm
  da : Option Addr
  dn : Nat
  dc : Nat
  data : List UInt8
  n : Int
  m : Int
  dirs : Int
  ca : Option Addr
  cn : Nat
  cc : Nat
  cuts : List Int
def opD (o : OpD) : List Value := [.int .i64 o.kind, strV o.name, strV o.to, .slice o.da o.dn o.dc, .int .i64 o.n, .int .i64 o.m, .int .i64 o.dirs, .slice o.ca o.cn o.cc]
theorem opD_len (o : OpD) : (opD o).length = 8 := rfl
theorem opD_one (o : OpD) : ∀ v ∈ opD o, v.oneCell' = true := fun v hv => by
  simp only [opD, List.mem_cons, List.not_mem_nil, or_false] at hv
  rcases hv with rfl | rfl | rfl | rfl | rfl | rfl | rfl | rfl <;> rfl
structure RdOp (w : World) (o : OpD) : Prop where
  data : RdB w o.da o.dn o.dc o.data
  cuts : Rd w o.ca o.cn o.cc 1 (zv o.cuts)
  bn : -9223372036854775808 ≤ o.n ∧ o.n ≤ 9223372036854775807
  bm : -9223372036854775808 ≤ o.m ∧ o.m ≤ 9223372036854775807
  bc : ∀ x ∈ o.cuts, x ≤ 9223372036854775807
  bl : (1 + o.cn) * 8 ≤ 140737488355328
theorem RdOp.keep0 {w w' : World} {o : OpD} (h : RdOp w o) (hc : Chg [] w w') : RdOp w' o := ⟨h.data.keep0 hc, h.cuts.keep0 hc, h.bn, h.bm, h.bc, h.bl⟩
structure RdScript (w : World) (a : Option Addr) (n c : Nat) (l : List OpD) : Prop where
  rd : RdE opD 8 w a n c l
  ops : ∀ o ∈ l, RdOp w o
theorem RdScript.keep0 {w w' : World} {a : Option Addr} {n c : Nat} {l : List OpD} (h : RdScript w a n c l) (hc : Chg [] w w') : RdScript w' a n c l := ⟨h.rd.keep0 hc, fun o ho => (h.ops o ho).keep0 hc⟩

def opZ0 : List Value := [.int .i64 0, strV [], strV [], .slice none 0 0, .int .i64 0, .int .i64 0, .int .i64 0, .slice none 0 0]
theorem opDA (w : World) : (isAgg 57).run Try.prog w = .ok true w := Try.isAgg57 w
theorem opDS (w : World) : (sizeOf 57).run Try.prog w = .ok 8 w := Try.sizeOf57 w
theorem opDZ (w : World) : (zeroValue 57).run Try.prog w = .ok (.agg opZ0.toArray) w := Try.zeroValue57 w

/-- A call is read out of the list and laid by itself. -/
theorem RdScript.copy {w w0 : World} {X : List Nat} {M : List Res} {a : Option Addr} {n c : Nat} {l : List OpD} (h : RdScript w a n c l) (hS : St w0 X w M) {i : Nat} {o : OpD} (ho : l[i]? = some o) :
    ∃ b k g w1 w2, a = some ⟨b, k, none⟩ ∧ (Instr.loadAt 57 (.pointer (some ⟨b, k + Int.toNat (i : Int) * 8, none⟩))).run Try.prog w = .ok (.agg (opD o).toArray) w ∧ (Instr.alloc 57 true (.tuple #[])).run Try.prog w = .ok (.pointer (some ⟨g, 0, none⟩)) w1 ∧
      (Instr.storeAt 57 (.pointer (some ⟨g, 0, none⟩)) (.agg (opD o).toArray)).run Try.prog w1 = .ok () w2 ∧ St w0 X w2 (M ++ [.arr g 57 (opD o)]) := by
  have hxs : ((l.flatMap opD).drop (i * 8)).take 8 = opD o := by
    have hi := (List.getElem?_eq_some_iff.1 ho).1
    have hx := (List.getElem?_eq_some_iff.1 ho).2
    rw [flatMap_drop i fun y _ => opD_len y, List.drop_eq_getElem_cons hi, hx, List.flatMap_cons, List.take_left' (opD_len _)]
  obtain ⟨b, k, g, w1, w2, ha, hld, r1, r2, h2⟩ := copyAgg (T := 57) (sz := 8) hS opDA opDS opDZ rfl h.rd.rd.cells hxs (opD_len _) (by decide) (opD_one _)
  exact ⟨b, k, g, w1, w2, ha, hld _ (by rw [Int.toNat_natCast]), r1, r2, h2⟩

/-! ### long -/
def longF : Nat → List OpD → Bool
  | _, [] => false
  | n, o :: r => if 1048576 < o.dn ∨ 32768 < n + 100 then true else longF (n + 100 + o.dn / 64) r
theorem longF_small : ∀ (l : List OpD) (n : Nat), longF n l = false → n + 100 * l.length ≤ 65536 + n ∧ (l = [] ∨ n + 100 * l.length ≤ 32768) ∧ ∀ o ∈ l, o.dn ≤ 1048576
  | [], n, _ => ⟨by simp, .inl rfl, by simp⟩
  | o :: r, n, h => by
    unfold longF at h
    split at h
    · cases h
    · rename_i hb
      obtain ⟨h1, h2, h3⟩ := longF_small r _ h
      have h4 : n + 100 * (r.length + 1) ≤ 32768 := by
        rcases h2 with rfl | h2
        · simp; omega
        · omega
      refine ⟨by simp only [List.length_cons]; omega, .inr (by simpa using h4), fun x hx => ?_⟩
      rcases List.mem_cons.1 hx with rfl | hx
      · omega
      · exact h3 x hx

theorem long_spec (a : Option Addr) (n c : Nat) (l : List OpD) (w : World) (hr : RdScript w a n c l) (hb : n ≤ 4611686018427387904) :
    Calls Try.prog 22 #[.slice a n c] w fun e w' => e = .returned (.bool (longF 0 l)) ∧ Chg [] w w' := by
  have hln := hr.rd.num (by decide)
  apply amphoralaw01_long_vc
  refine ⟨fun x y w' => ∃ (i k : Nat), y = (i : Int) ∧ x = (k : Int) ∧ i ≤ n ∧ k ≤ 49252 ∧ longF 0 l = longF k (l.drop i) ∧ Chg [] w w', fun _ y _ => n - y.toNat, ⟨0, 0, rfl, rfl, by omega, by omega, rfl, Chg.refl _ _⟩, ?_⟩
  rintro x y w1 ⟨i, k, rfl, rfl, hi, hk, hl, c1⟩
  refine ⟨fun h => ?_, fun h => ?_⟩
  · have hi' : i < n := by simp at h; omega
    have hil : i < l.length := by omega
    have ho : l[i]? = some l[i] := List.getElem?_eq_getElem hil
    obtain ⟨o, hod⟩ : ∃ o, l[i] = o := ⟨_, rfl⟩
    rw [List.drop_eq_getElem_cons hil] at hl
    rw [hod] at ho hl
    obtain ⟨b, q, g, w2, w3, ha, hld, r2, r3, h3⟩ := (hr.keep0 c1).copy (St.start w1) ho
    have hc3 := c1.trans h3.chg
    have e1 : IntKind.wrap .i64 ((k : Int) + 100) = ((k + 100 : Nat) : Int) := by rw [wrap_i64 (by omega) (by omega)]; omega
    refine ⟨b, q, ha, by omega, by omega, _, hld, g, w2, r2, w3, r3, _, _, _, h3.ldL (i := 0) (o := 3) rfl (bsA _) rfl rfl, ?_⟩
    rw [e1]
    have hstep : longF k (o :: l.drop (i + 1)) = if 1048576 < o.dn ∨ 32768 < k + 100 then true else longF (k + 100 + o.dn / 64) (l.drop (i + 1)) := rfl
    rw [hstep] at hl
    refine ⟨fun hbad => ?_, fun hgd => ?_⟩
    · have : 1048576 < o.dn ∨ 32768 < k + 100 := by simp at hbad; omega
      rw [if_pos this] at hl
      rw [hl]
      exact ⟨rfl, hc3⟩
    · have : ¬ (1048576 < o.dn ∨ 32768 < k + 100) := by simp at hgd; omega
      rw [if_neg this] at hl
      have e2 : IntKind.wrap .i64 (Int.tdiv (o.dn : Int) 64) = ((o.dn / 64 : Nat) : Int) := by
        have : Int.tdiv (o.dn : Int) 64 = ((o.dn / 64 : Nat) : Int) := rfl
        rw [this, wrap_i64 (by omega) (by omega)]
      have e3 : IntKind.wrap .i64 (((k + 100 : Nat) : Int) + ((o.dn / 64 : Nat) : Int)) = ((k + 100 + o.dn / 64 : Nat) : Int) := by rw [wrap_i64 (by omega) (by omega)]; omega
      refine ⟨_, _, _, h3.ldL (i := 0) (o := 3) rfl (bsA _) rfl rfl, ?_⟩
      rw [e2, e3]
      exact ⟨⟨i + 1, _, wrap_succ hi' hb, rfl, by omega, by omega, hl, hc3⟩, mu_succ hi' hb⟩
  · have hi' : i = n := by simp at h; omega
    rw [hi', List.drop_of_length_le (by omega)] at hl
    rw [hl]
    exact ⟨rfl, c1⟩

/-! ### play -/
def playM (m : DiskM) (o : OpD) : DiskM × Option Int :=
  if o.kind = 0 then createM m o.name else if o.kind = 1 then appendM m o.name [o.data] else if o.kind = 2 then syncM m o.name else if o.kind = 3 then syncDirM m
  else if o.kind = 4 then renameM m o.name o.to else if o.kind = 5 then removeM m o.name else if o.kind = 8 then armM m o.n else if o.kind = 9 then failM m (o.n :: o.cuts) else (m, none)

section
variable {w0 w w' : World} {N N' T : List Res} {gd : Nat} {ps : List Nat} {m : DiskM}

set_option maxHeartbeats 1000000 in
theorem play_spec (o : OpD) (hop : RdOp w0 o) (hdl : o.dn ≤ 1048576) (h : DiskIn w0 [] w gd ps m N) (hb : m.steps < 4611686018427387904) (hc : m.chs.length < 1000000000) :
    Calls Try.prog 24 #[.pointer (some ⟨gd, 0, none⟩), .agg (opD o).toArray] w fun e w' => e = .returned (errV (playM m o).2) ∧ ∃ ps', DiskIn w0 [] w' gd ps' (playM m o).1 N := by
  apply amphoralaw01_play_vc
  obtain ⟨g, w1, r1, k1⟩ := (St.start w).boxA (P := Try.prog) 57 (opD o)
  have h1 := h.addSt k1
  have hg : St w0 [] w1 (N ++ [.arr g 57 (opD o)]) := h1.rest
  have drop : ∀ {w' ps' m' T}, DiskIn w0 [] w' gd ps' m' (N ++ T) → DiskIn w0 [] w' gd ps' m' N := fun h => h.subN (List.sublist_append_left _ _)
  have drop' : ∀ {w' ps' m' T T'}, DiskIn w0 [] w' gd ps' m' ((N ++ T) ++ T') → DiskIn w0 [] w' gd ps' m' (N ++ T) := fun h => h.subN (List.sublist_append_left _ _)
  refine ⟨g, w1, r1, _, hg.ldL (o := 0) getLast' (intA _) rfl rfl, fun h0 => ?_, fun n0 => ⟨fun h0 => ?_, fun n1 => ⟨fun h0 => ?_, fun n2 => ⟨fun h0 => ?_, fun n3 => ⟨fun h0 => ?_, fun n4 => ⟨fun h0 => ?_, fun n5 => ⟨fun h0 => ?_, fun n8 => ⟨fun h0 => ?_, fun n9 => ?_⟩⟩⟩⟩⟩⟩⟩⟩
  · have hk : o.kind = 0 := by simpa using h0
    have hp : playM m o = createM m o.name := by unfold playM; rw [if_pos hk]
    rw [hp]
    refine ⟨_, hg.ldL (o := 1) getLast' (stA' _) rfl rfl, (create_spec o.name h1 hb hc).mono ?_⟩
    rintro e w2 ⟨rfl, ps', h2⟩
    exact ⟨_, rfl, rfl, ps', drop h2⟩
  · have hk : o.kind = 1 := by simpa using h0
    have hp : playM m o = appendM m o.name [o.data] := by unfold playM; rw [if_neg (by omega), if_pos hk]
    rw [hp]
    have hl := hop.data.lenB
    obtain ⟨g3, w3, r3, k3⟩ := (St.start w1.drew).lit bT [] (by simp) (by simp)
    have hd3 : RdB w3 o.da o.dn o.dc o.data := (hop.data.keep0 hg.drew.chg).keep0 k3.chg
    obtain ⟨va, vc, w4, r4, k4⟩ := k3.appendB (i := 0) (xs := []) rfl hd3 (by simp; omega)
    simp only [List.length_nil, Nat.zero_add, List.nil_append] at r4 k4
    have k4 : St w1.drew [] w4 [.row 5 1 (.slice va o.dn vc) o.dn (bv o.data)] := k4
    obtain ⟨g5, w5, r5, k5⟩ := k4.lit bbT [.slice va o.dn vc] (by simp [Value.oneCell']) (by simp)
    have h5 := (h1.same (Chg.drew _ _)).addSt k5
    have hS : ∀ {w'}, Chg [] w1.drew w' → St w0 [] w' [.arr g 57 (opD o)] := fun hc => (hg.drew.same hc).sub (List.sublist_append_right _ _)
    refine ⟨fun w' => St w0 [] w' [.arr g 57 (opD o)], hS (Chg.refl _ _), _, fun w' hw => hw.ldL (i := 0) (o := 1) rfl (stA' _) rfl rfl, _, _, _, fun w' hw => hw.ldL (i := 0) (o := 3) rfl (bsA _) rfl rfl, _, _, _, w3, r3, fun w' => St w0 [] w' [.arr g 57 (opD o)], fun _ h => h, hS k3.chg, _, _, _, w4, r4, fun w' => St w0 [] w' [.arr g 57 (opD o)], fun _ h => h, hS k4.chg, _, _, _, w5, r5, fun w' => St w0 [] w' [.arr g 57 (opD o)], fun _ h => h, hS k5.chg, ?_⟩
    refine (append_spec o.name _ 1 1 [.slice va o.dn vc] [o.data] h5 (fun hD => ?_) hb (by decide)).mono ?_
    · have hr := hD.rest.sub (List.sublist_append_right _ _)
      exact ⟨hr.rd (i := 1) rfl, r2cons (hr.rd (i := 0) rfl) (r2nil _)⟩
    · rintro e w6 ⟨rfl, h6⟩
      refine ⟨_, rfl, fun w' => St w0 [] w' [.arr g 57 (opD o)], fun _ h => h, (drop' h6).rest.sub (List.sublist_append_right _ _), rfl, ps, drop (drop' h6)⟩
  · have hk : o.kind = 2 := by simpa using h0
    have hp : playM m o = syncM m o.name := by unfold playM; rw [if_neg (by omega), if_neg (by omega), if_pos hk]
    rw [hp]
    refine ⟨_, hg.ldL (o := 1) getLast' (stA' _) rfl rfl, (sync_spec o.name h1 hb).mono ?_⟩
    rintro e w2 ⟨rfl, h2⟩
    exact ⟨_, rfl, rfl, ps, drop h2⟩
  · have hk : o.kind = 3 := by simpa using h0
    have hp : playM m o = syncDirM m := by unfold playM; rw [if_neg (by omega), if_neg (by omega), if_neg (by omega), if_pos hk]
    rw [hp]
    refine (syncDir_spec h1 hb).mono ?_
    rintro e w2 ⟨rfl, h2⟩
    exact ⟨_, rfl, rfl, ps, drop h2⟩
  · have hk : o.kind = 4 := by simpa using h0
    have hp : playM m o = renameM m o.name o.to := by unfold playM; rw [if_neg (by omega), if_neg (by omega), if_neg (by omega), if_neg (by omega), if_pos hk]
    rw [hp]
    refine ⟨_, hg.ldL (o := 1) getLast' (stA' _) rfl rfl, _, hg.ldL (o := 2) getLast' (stA' _) rfl rfl, (rename_spec o.name o.to h1 hb hc).mono ?_⟩
    rintro e w2 ⟨rfl, h2⟩
    exact ⟨_, rfl, rfl, ps, drop h2⟩
  · have hk : o.kind = 5 := by simpa using h0
    have hp : playM m o = removeM m o.name := by unfold playM; rw [if_neg (by omega), if_neg (by omega), if_neg (by omega), if_neg (by omega), if_neg (by omega), if_pos hk]
    rw [hp]
    refine ⟨_, hg.ldL (o := 1) getLast' (stA' _) rfl rfl, (remove_spec o.name h1 hb hc).mono ?_⟩
    rintro e w2 ⟨rfl, h2⟩
    exact ⟨_, rfl, rfl, ps, drop h2⟩
  · have hk : o.kind = 8 := by simpa using h0
    have hp : playM m o = armM m o.n := by unfold playM; rw [if_neg (by omega), if_neg (by omega), if_neg (by omega), if_neg (by omega), if_neg (by omega), if_neg (by omega), if_pos hk]
    rw [hp]
    refine ⟨_, hg.ldL (o := 4) getLast' (intA _) rfl rfl, (arm_spec o.n hop.bn.2 h1).mono ?_⟩
    rintro e w2 ⟨rfl, h2⟩
    exact ⟨_, rfl, rfl, ps, drop h2⟩
  · have hk : o.kind = 9 := by simpa using h0
    have hp : playM m o = failM m (o.n :: o.cuts) := by unfold playM; rw [if_neg (by omega), if_neg (by omega), if_neg (by omega), if_neg (by omega), if_neg (by omega), if_neg (by omega), if_neg (by omega), if_pos hk]
    rw [hp]
    have hbl := hop.bl
    obtain ⟨g2, w2, r2, k2⟩ := (St.start w1).lit intT [.int .i64 o.n] (by simp [Value.oneCell']) (by simp)
    have hc2 : Rd w2 o.ca o.cn o.cc 1 (zv o.cuts) := (hop.cuts.keep0 hg.chg).keep0 k2.chg
    obtain ⟨va, vc, w3, r3, k3, _, _⟩ := k2.append (i := 0) (ty := 48) intT rfl hc2 (fun u hu => by obtain ⟨x, _, rfl⟩ := List.mem_map.1 hu; rfl) (by simpa using hbl) (by simp only [maxLen]; simp; omega)
    have h3 := h1.addSt k3
    have hg2 : St w0 [] w2 [.arr g 57 (opD o)] := (hg.same k2.chg).sub (List.sublist_append_right _ _)
    refine ⟨_, hg.ldL (o := 4) getLast' (intA _) rfl rfl, _, _, _, w2, r2, _, _, _, hg2.ldL (i := 0) (o := 7) rfl (insA' _) rfl rfl, _, _, _, w3, r3, (fail_spec _ _ _ (o.n :: o.cuts) ((h3.rest.sub (List.sublist_append_right _ _)).rd (i := 0) rfl) (fun x hx => ?_) (by simpa using hbl) h3).mono ?_⟩
    · rcases List.mem_cons.1 hx with rfl | hx
      · exact hop.bn.2
      · exact hop.bc x hx
    · rintro e w4 ⟨rfl, h4⟩
      exact ⟨_, rfl, rfl, ps, drop (drop' h4)⟩
  · have hp : playM m o = (m, none) := by
      have e0 : ¬ o.kind = 0 := by simpa using n0
      have e1 : ¬ o.kind = 1 := by simpa using n1
      have e2 : ¬ o.kind = 2 := by simpa using n2
      have e3 : ¬ o.kind = 3 := by simpa using n3
      have e4 : ¬ o.kind = 4 := by simpa using n4
      have e5 : ¬ o.kind = 5 := by simpa using n5
      have e8 : ¬ o.kind = 8 := by simpa using n8
      have e9 : ¬ o.kind = 9 := by simpa using n9
      simp only [playM, e0, e1, e2, e3, e4, e5, e8, e9, if_false]
    rw [hp]
    exact ⟨rfl, ps, drop h1⟩

end

end Go.Proofs.Ytoijbpkplegnkaa
