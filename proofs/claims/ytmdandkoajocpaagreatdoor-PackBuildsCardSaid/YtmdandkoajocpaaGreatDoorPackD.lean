/- Contracts of pack: made, Build (conditions: those that each theorem names). -/
import Derived.Test.YtmdandkoajocpaaGreatDoorPackC
namespace Go.Proofs.YtmdandkoajocpaaGreatDoor
open Go Sx
set_option maxRecDepth 8000

section
variable {w0 w w' : World} {X : List Nat} {M N N' T : List Res} {g : Nat} {num : Int} {ps : List (List UInt8)} {rs : List RefD}

theorem pkgood_spec (num : Int) (w : World) : Calls Tryz.prog 43 #[.int .i64 num] w fun e w' => e = .returned (.bool (goodP num)) ∧ w' = w := by
  apply pack_good_vc
  exact ⟨by simp [goodP, ge_iff_le], rfl⟩

theorem made_bad (K : List UInt8) (num : Int) (a : Option Addr) (n c : Nat) (w : World) (hg : goodP num = false) :
    Calls Tryz.prog 39 #[.agg (bv K).toArray, .int .i64 num, .slice a n c] w fun e w' => e = .returned (.tuple #[.pointer none, errV (some 28)]) ∧ Chg [] w w' := by
  apply pack_made_vc
  obtain ⟨g3, w1, r1, k1⟩ := (St.start w).boxA (P := Tryz.prog) 28 (bv K)
  refine ⟨g3, w1, r1, (pkgood_spec num w1).mono ?_⟩
  rintro e w2 ⟨rfl, rfl⟩
  rw [hg]
  exact ⟨_, rfl, fun _ => ⟨rfl, k1.chg⟩, fun h => by cases h⟩

theorem copyIt {a : Option Addr} {n c i : Nat} {l : List ItD} {x : ItD} (hr : ItR w a n c l) (hx : l[i]? = some x) (h : St w0 X w M) :
    ∃ b o g w1 w2, a = some ⟨b, o, none⟩ ∧ (Instr.loadAt 46 (.pointer (some ⟨b, o + Int.toNat (i : Int) * 33, none⟩))).run Tryz.prog w = .ok (.agg (itC x).toArray) w ∧ (Instr.alloc 46 true (.tuple #[])).run Tryz.prog w = .ok (.pointer (some ⟨g, 0, none⟩)) w1 ∧
      (Instr.storeAt 46 (.pointer (some ⟨g, 0, none⟩)) (.agg (itC x).toArray)).run Tryz.prog w1 = .ok () w2 ∧ St w0 X w2 (M ++ [.arr g 46 (itC x)]) := by
  obtain ⟨b, o, hab, q⟩ := hr.rd.ld (P := Tryz.prog) (by decide) itA itS hx
  obtain ⟨g, w1, r1, h1⟩ := h.zeroA itZ
  obtain ⟨w2, r2, h2⟩ := h1.stA (i := M.length) (v := itC x) List.getElem?_concat_length (itS _) (itC_len _) (itC_len _) (itC_one _)
  refine ⟨b, o, g, w1, w2, hab, q w hr.rd, r1, r2, ?_⟩
  rw [List.set_append_right _ _ (Nat.le_refl _), Nat.sub_self] at h2
  exact h2

set_option maxHeartbeats 1000000 in
theorem made_spec (K : List UInt8) (hk : K.length = 96) (num : Int) (a : Option Addr) (n c : Nat) (l : List ItD) (w : World) (hK : KTab w) (hg : goodP num = true) (hr : ItR w a n c l) (hs : SmallI (l.map ItD.t)) :
    Calls Tryz.prog 39 #[.agg (bv K).toArray, .int .i64 num, .slice a n c] w fun e w' => ∃ g, e = .returned (.tuple #[.pointer (some ⟨g, 0, none⟩), errV none]) ∧ FileIn w [] w' g num (piecesP K num (l.map ItD.t)) (refsP num 16 (l.map ItD.t)) [] := by
  have hln := hr.rd.num (by decide)
  have hnum := hs.num
  rw [List.length_map] at hnum
  have hgi := goodP_iff.1 hg
  have hbl : ∀ x ∈ l, x.n ≤ 16777216 := fun x hx => by
    have h1 := (hr.blobs x hx).lenB
    have h2 : x.blob.length ≤ 16777216 := hs.blob (List.mem_map_of_mem hx)
    omega
  apply pack_made_vc
  obtain ⟨g3, w1, r1, k1⟩ := (St.start w).boxA (P := Tryz.prog) 28 (bv K)
  have k1 : St w [] w1 [.arr g3 28 (bv K)] := k1
  refine ⟨g3, w1, r1, (pkgood_spec num w1).mono ?_⟩
  rintro e w2 ⟨rfl, rfl⟩
  rw [hg]
  refine ⟨_, rfl, fun h => (by cases h), fun _ => ⟨fun x w' => ∃ i : Nat, x = (i : Int) ∧ i ≤ n ∧ St w [] w' [.arr g3 28 (bv K)], fun x _ => n - x.toNat, ⟨0, rfl, by omega, k1⟩, ?_⟩⟩
  rintro x w3 ⟨i, rfl, hi, k3⟩
  refine ⟨fun h => ?_, fun h => ?_⟩
  · have hi' : i < n := by simp at h; omega
    have hx : l[i]? = some l[i] := List.getElem?_eq_getElem (by omega)
    obtain ⟨b, o, g9, w4, w5, hab, hld, r4, r5, k5⟩ := copyIt (hr.keep0 k3.chg) hx k3
    have hb := hbl l[i] (List.getElem_mem _)
    refine ⟨b, o, hab, by omega, by omega, _, hld, g9, w4, r4, w5, r5, _, _, _, k5.ldL (i := 1) (o := 32) rfl (bsA' _) rfl (itC_blob _), fun h => ?_, fun _ => ⟨⟨i + 1, wrap_succ hi' (by omega), by omega, k5.sub (List.sublist_append_left _ _)⟩, mu_succ hi' (by omega)⟩⟩
    simp at h; omega
  refine (pkbegin_spec num w3).mono ?_
  rintro e w6 ⟨g, rfl, h6⟩
  have k6 := k3.same h6.chg
  have h6 : FileIn w [] w6 g num [headP num] [] [.arr g3 28 (bv K)] := by
    obtain ⟨f, e1, e2, hS⟩ := h6
    have := Sx.St.callPart (M := [.arr g3 28 (bv K)]) (N := []) k3 hS
    refine ⟨f, e1, e2, this.perm ?_⟩
    rw [List.append_nil (List.map PcD.row f.ps), ← List.append_assoc (fileR g num f)]
    exact List.perm_append_comm
  refine ⟨_, _, rfl, fun x w' => ∃ i : Nat, x = (i : Int) ∧ i ≤ n ∧ FileIn w [] w' g num (headP num :: ((l.map ItD.t).take i).map frmT) (refsP num 16 ((l.map ItD.t).take i)) [.arr g3 28 (bv K)], fun x _ => n - x.toNat, ⟨0, rfl, by omega, by simpa [refsP] using h6⟩, ?_⟩
  rintro x w7 ⟨i, rfl, hi, h7⟩
  have hst := hs.take i
  have hby := hst.bytes
  refine ⟨fun h => ?_, fun h => ?_⟩
  · have hi' : i < n := by simp at h; omega
    have hx : l[i]? = some l[i] := List.getElem?_eq_getElem (by omega)
    obtain ⟨x, hxx⟩ : ∃ x, l[i] = x := ⟨_, rfl⟩
    rw [hxx] at hx
    have hxm := List.mem_of_getElem? hx
    obtain ⟨b, o, g9, w8, w9, hab, hld, r8, r9, k9⟩ := copyIt (hr.keep0 h7.chg) hx (St.start w7)
    have h9 := h7.addSt k9
    have e16 : (headP num :: ((l.map ItD.t).take i).map frmT).flatten.length = sizeP 16 ((l.map ItD.t).take i) := sizeP_ps num _
    have hlt : ((l.map ItD.t).take i).length ≤ 4096 := hst.num
    refine ⟨b, o, hab, by omega, by omega, _, hld, g9, w8, r8, w9, r9, _, k9.ldA (i := 0) (l := itC x) rfl (itA _) (itS _) (itC_len _), (pkitem_spec x h9 ((hr.blobs x hxm).keep0 h9.chg) (by have := hbl x hxm; omega) (by simp; omega) (by rw [refsP_len]; omega) (by rw [List.flatten_cons, List.length_append, headP_len]; omega) ⟨by omega, by omega⟩).mono ?_⟩
    rintro e w10 ⟨rfl, h10⟩
    refine ⟨rfl, ⟨i + 1, wrap_succ hi' (by omega), by omega, ?_⟩, mu_succ hi' (by omega)⟩
    have et : (l.map ItD.t).take (i + 1) = (l.map ItD.t).take i ++ [x.t] := by
      rw [List.take_add_one, List.getElem?_map, hx]; rfl
    rw [et, refsP_snoc, List.map_append]
    rw [e16] at h10
    exact h10.dropN (List.sublist_append_left _ _)
  · have hi' : i = n := by simp at h; omega
    rw [hi', List.take_of_length_le (by simp; omega)] at h7 hby
    refine ⟨_, (h7.rest).ldA (i := 0) (l := bv K) rfl (kyA' _) (kyS' _) (by simp [hk]), (pkfoot_spec K hk (hK.keep0 h7.chg) h7 (by simp; omega) (by rw [refsP_len]; simp; omega) (by rw [List.flatten_cons, List.length_append, headP_len]; omega)).mono ?_⟩
    rintro e w11 ⟨rfl, h11⟩
    exact ⟨rfl, g, rfl, h11.dropN (List.nil_sublist _)⟩

/-! ### one row of all pieces -/
theorem growNil_spec (n : Nat) (w : World) (hb : n ≤ 1099511627776) : Calls Tryz.prog 73 #[.slice none 0 0, .int .i64 (n : Int)] w fun e w' => ∃ a c, e = .returned (.slice a 0 c) ∧ St w [] w' [.row 5 1 (.slice a 0 c) 0 []] := by
  obtain ⟨inf, hinf, hz, hsz, hby⟩ := (bT).inf
  apply slices_Grow_byte_byte_vc
  have e0 : IntKind.wrap .i64 (((0 : Nat) : Int) - ((0 : Nat) : Int)) = 0 := by rw [wrap_i64 (by omega) (by omega)]; rfl
  have e1 : IntKind.wrap .i64 ((n : Int) - (0 : Int)) = (n : Int) := by rw [wrap_i64 (by omega) (by omega)]; omega
  rw [e0, e1]
  refine ⟨fun w' => w' = w, ⟨fun h => ?_, fun _ => rfl⟩, ?_⟩
  · simp at h; omega
  rintro w1 rfl
  refine ⟨fun a k c w' => k = 0 ∧ St w1 [] w' [.row 5 1 (.slice a 0 c) 0 []], ⟨fun h => ?_, fun h => ⟨rfl, (St.start w1).addNil _ _⟩⟩, ?_⟩
  · have hn : 0 < n := by simp at h; omega
    have hr := Lib.run_append_grow_zeros (P := Tryz.prog) w1 33 3 33 5 inf (.int .u8 0) .i64 .i64 (bT).ht Tryz.underlying3 hinf hz none 0 0 [] (run_firstCells_none _ _ _ _ _) n hn (by rw [hsz]; decide) (by omega) (by omega) (by rw [hby]; omega) (growslice_fits (by omega) (by rw [hby]; omega))
    have hge := grownCap_ge w1 (0 + n) 0 5
    have hm : 0 + n ≤ maxLen := by simp only [maxLen]; omega
    have hcm := grownCap_le_maxLen w1 (0 + n) 0 5 hm
    refine ⟨by omega, by omega, _, _, _, _, hr, by omega, by omega, rfl, (St.start w1).add ((Chg.drew [] w1).trans (Chg.alloc _ _)) ⟨rfl, .inr ⟨w1.heap.size, _, _, rfl, Nat.zero_le _, heap_alloc_new w1.drew _, Nat.zero_le _, hcm, ?_, by simp⟩⟩ (by simp [Res.fp, Value.ownBlock])⟩
    simp only [Array.size_append, List.size_toArray, size_zeroCells, (bT).zs, List.length_nil]
    omega
  · rintro a k c w3 ⟨rfl, h3⟩
    exact ⟨a, c, rfl, h3⟩

theorem concat_spec (a : Option Addr) (n c : Nat) (vs : List Value) (ls : List (List UInt8)) (w : World) (hr : Rd w a n c 1 vs) (h2 : Row2 w vs ls) (hb : ls.flatten.length ≤ 1099511627776) (hn : ls.length ≤ 1048576) :
    Calls Tryz.prog 40 #[.slice a n c] w fun e w' => ∃ a' n' c', e = .returned (.slice a' n' c') ∧ FreshB w w' a' n' c' ls.flatten := by
  have hln : ls.length = n := by have := hr.len; have := h2.len; omega
  apply slices_Concat_byte_byte_vc
  refine ⟨fun x y w' => ∃ i : Nat, y = (i : Int) ∧ i ≤ n ∧ x = (((ls.take i).flatten.length : Nat) : Int) ∧ w' = w, fun _ y _ => n - y.toNat, ⟨0, rfl, by omega, by simp, rfl⟩, ?_⟩
  rintro x y w1 ⟨i, rfl, hi, rfl, rfl⟩
  have hft := flat_take_le ls i
  refine ⟨fun h => ?_, fun h => ?_⟩
  · have hi' : i < n := by simp at h; omega
    obtain ⟨b, o, a', n', c', ha, hv, hrd, hld⟩ := ixS hr.cells h2 (i := i) (by omega)
    have hl' := hrd.lenB
    have hf1 := flat_take (ls := ls) (i := i) (by omega)
    have hf2 := flat_take_le ls (i + 1)
    rw [hf1, List.length_append, hl'] at hf2
    have ew : IntKind.wrap .i64 ((((ls.take i).flatten.length : Nat) : Int) + ((n' : Nat) : Int)) = (((ls.take i).flatten.length + n' : Nat) : Int) := by rw [wrap_i64 (by omega) (by omega)]; omega
    refine ⟨b, o, ha, by omega, by omega, _, _, _, hld w1 hr.cells, ?_⟩
    rw [ew]
    refine ⟨fun w' => w' = w1, ⟨fun h => ?_, fun _ => rfl⟩, ?_⟩
    · simp at h; omega
    rintro w2 rfl
    exact ⟨⟨i + 1, wrap_succ hi' (by omega), by omega, by rw [hf1, List.length_append, hl'], rfl⟩, mu_succ hi' (by omega)⟩
  · have hi' : i = n := by simp at h; omega
    rw [hi', ← hln, List.take_length]
    rw [hln]
    refine (growNil_spec ls.flatten.length w1 hb).mono ?_
    rintro e w3 ⟨ga, gc, rfl, k3⟩
    refine ⟨_, _, _, rfl, fun xa xn xc y w' => ∃ i : Nat, y = (i : Int) ∧ i ≤ n ∧ xn = (ls.take i).flatten.length ∧ St w1 [] w' [.row 5 1 (.slice xa xn xc) xn (bv (ls.take i).flatten)], fun _ _ _ y _ => n - y.toNat, ⟨0, rfl, by omega, by simp, by simpa using k3⟩, ?_⟩
    rintro xa xn xc y w5 ⟨i, rfl, hi, rfl, hS⟩
    have hft := flat_take_le ls i
    refine ⟨fun h => ?_, fun h => ?_⟩
    · have hi' : i < n := by simp at h; omega
      obtain ⟨b, o, a', n', c', ha, hv, hrd, hld⟩ := ixS hr.cells h2 (i := i) (by omega)
      have hl' := hrd.lenB
      have hf1 := flat_take (ls := ls) (i := i) (by omega)
      have hf2 := flat_take_le ls (i + 1)
      rw [hf1, List.length_append, hl'] at hf2
      obtain ⟨va, vc, w6, r6, h6⟩ := hS.appendB (i := 0) rfl (hS.rd1 hrd) (by omega)
      refine ⟨b, o, ha, by omega, by omega, _, _, _, hld w5 (hr.cells.keep0 hS.chg), _, _, _, _, r6, ⟨i + 1, wrap_succ hi' (by omega), by omega, ?_, ?_⟩, mu_succ hi' (by omega)⟩
      · rw [hf1, List.length_append, hl']
      · rw [hf1]; exact h6
    · have hi' : i = n := by simp at h; omega
      subst hi'
      rw [← hln, List.take_length] at hS ⊢
      exact ⟨_, _, _, rfl, hS.freshB (i := 0) rfl⟩

/-! ### Build -/
theorem rowsR2 {ps : List PcD} {L : List Res} (h : St w0 X w (ps.map PcD.row ++ L)) : Row2 w (ps.map PcD.v) (ps.map PcD.l) := by
  refine ⟨by simp, fun i hi => ?_⟩
  have hi' : i < ps.length := by simpa using hi
  have hp : ps[i]? = some ps[i] := List.getElem?_eq_getElem hi'
  refine ⟨ps[i].a, ps[i].l.length, ps[i].c, by rw [List.getElem?_map, hp]; rfl, ?_⟩
  have e : (ps.map PcD.l).getD i [] = ps[i].l := by rw [List.getD_eq_getElem?_getD, List.getElem?_map, hp]; rfl
  rw [e]
  exact h.rd (i := i) (by rw [List.getElem?_append_left (by simpa using hi'), List.getElem?_map, hp]; rfl)

theorem build_bad (K : List UInt8) (hk : K.length = 96) (num : Int) (a : Option Addr) (n c : Nat) (w : World) (hg : goodP num = false) :
    Calls Tryz.prog 11 #[.agg (bv K).toArray, .int .i64 num, .slice a n c] w fun e w' => e = .returned (.tuple #[.slice none 0 0, .slice none 0 0, errV (some 28)]) ∧ Chg [] w w' := by
  obtain ⟨mI, hI⟩ := eI
  apply pack_Build_vc
  obtain ⟨g3, w1, r1, k1⟩ := (St.start w).boxA (P := Tryz.prog) 28 (bv K)
  refine ⟨g3, w1, r1, _, k1.ldA (i := 0) (l := bv K) rfl (kyA' _) (kyS' _) (by simp [hk]), (made_bad K num a n c w1 hg).mono ?_⟩
  rintro e w2 ⟨rfl, c2⟩
  exact ⟨_, _, rfl, _, neqS_nil hI (some 28) _ _, fun _ => ⟨rfl, k1.chg.trans c2⟩, fun h => by cases h⟩

theorem pieces_len (K : List UInt8) (num : Int) (xs : List Itm) : (piecesP K num xs).length = xs.length + 2 := by simp [piecesP]
theorem build_len (K : List UInt8) (num : Int) {xs : List Itm} (h : SmallI xs) : (buildP K num xs).length ≤ 90000000 := by
  have h1 := h.bytes
  have h2 := h.num
  have hsl := sealF_len K 3 (numL (n64 num)) (footL (refsP num 16 xs)) (by rw [footL_len, refsP_len]; omega)
  rw [footL_len, refsP_len] at hsl
  have hv := varL_len 9 (sealF K 3 (numL (n64 num)) (footL (refsP num 16 xs))).length (by omega) (by decide)
  simp only [buildP, piecesP, List.cons_append, List.flatten_cons, List.flatten_append, List.flatten_nil, List.append_nil, List.length_append, headP_len, footP, frameL, List.length_cons]
  omega

theorem build_spec13 (K : List UInt8) (hk : K.length = 96) (num : Int) (a : Option Addr) (n c : Nat) (l : List ItD) (w : World) (hK : KTab w) (hg : goodP num = true) (hr : ItR w a n c l) (hs : SmallI (l.map ItD.t)) :
    Calls Tryz.prog 11 #[.agg (bv K).toArray, .int .i64 num, .slice a n c] w fun e w' => ∃ ba bn bc ra rc, e = .returned (.tuple #[.slice ba bn bc, .slice ra (refsP num 16 (l.map ItD.t)).length rc, errV none]) ∧ bn = (buildP K num (l.map ItD.t)).length ∧
      St w [] w' [.row 5 1 (.slice ba bn bc) bn (bv (buildP K num (l.map ItD.t))), .row 75 35 (.slice ra (refsP num 16 (l.map ItD.t)).length rc) (refsP num 16 (l.map ItD.t)).length ((refsP num 16 (l.map ItD.t)).flatMap refC)] := by
  obtain ⟨mI, hI⟩ := eI
  have hln : l.length ≤ 4096 := by have := hs.num; simpa using this
  apply pack_Build_vc
  obtain ⟨g3, w1, r1, k1⟩ := (St.start w).boxA (P := Tryz.prog) 28 (bv K)
  refine ⟨g3, w1, r1, _, k1.ldA (i := 0) (l := bv K) rfl (kyA' _) (kyS' _) (by simp [hk]), (made_spec K hk num a n c l w1 (hK.keep0 k1.chg) hg (hr.keep0 k1.chg) hs).mono ?_⟩
  rintro e w2 ⟨g, rfl, h2⟩
  obtain ⟨f, e1, e2, hS⟩ := h2.same (Chg.drew [] w2)
  have hS : St w1 [] w2.drew ([.arr g 105 (fileL num f), .row 33 1 (.slice f.la f.ps.length f.lc) f.ps.length (f.ps.map PcD.v), .row 75 35 (.slice f.ra f.rs.length f.rc) f.rs.length (f.rs.flatMap refC)] ++ (f.ps.map PcD.row ++ [])) := hS
  let S : World → Prop := fun w' => St w1 [] w' ([.arr g 105 (fileL num f), .row 33 1 (.slice f.la f.ps.length f.lc) f.ps.length (f.ps.map PcD.v), .row 75 35 (.slice f.ra f.rs.length f.rc) f.rs.length (f.rs.flatMap refC)] ++ (f.ps.map PcD.row ++ []))
  have hpl : f.ps.length = l.length + 2 := by have := congrArg List.length e1; rw [List.length_map, pieces_len, List.length_map] at this; exact this
  have hfl : (f.ps.map PcD.l).flatten = buildP K num (l.map ItD.t) := by rw [e1]; rfl
  have hbl := build_len K num hs
  refine ⟨_, _, rfl, _, neqS_nil hI none _ _, fun h => (by cases h), fun _ => ⟨S, hS, g, 0, rfl, g, 0, rfl, _, _, _, fun w' hw => Sx.St.ldL hw (i := 0) (o := 0) rfl (bbA' _) rfl rfl, _, _, _, fun w' hw => Sx.St.ldL hw (i := 0) (o := 3) rfl (rsA' _) rfl rfl, (concat_spec f.la f.ps.length f.lc _ (f.ps.map PcD.l) w2.drew (hS.rd (i := 1) rfl) (rowsR2 (hS.sub (List.sublist_append_right _ _))) (by rw [hfl]; omega) (by simp; omega)).mono ?_⟩⟩
  rintro e w3 ⟨ba, bn, bc, rfl, hf3⟩
  rw [hfl] at hf3
  have q3 : S w3 := hS.same hf3.1
  have hbn : (buildP K num (l.map ItD.t)).length = bn := hf3.2.1
  rw [← e2]
  refine ⟨_, _, _, rfl, S, fun _ h => h, q3, ba, bn, bc, f.ra, f.rc, rfl, hbn.symm, ?_⟩
  have h3 := hf3.add (hS.sub (N := [.row 75 35 (.slice f.ra f.rs.length f.rc) f.rs.length (f.rs.flatMap refC)]) (((List.sublist_cons_self _ _).trans (List.sublist_cons_self _ _)).trans (List.sublist_append_left _ _)))
  have h4 : St w1 [] w3 [.row 5 1 (.slice ba bn bc) bn (bv (buildP K num (l.map ItD.t))), .row 75 35 (.slice f.ra f.rs.length f.rc) f.rs.length (f.rs.flatMap refC)] := h3.perm (List.perm_append_comm (l₁ := [_]))
  exact Sx.St.callPart (M := []) (N := []) ((St.start w).same k1.chg) h4

end

end Go.Proofs.YtmdandkoajocpaaGreatDoor
