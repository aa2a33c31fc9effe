/- Chapter 15: ManifestNodes (conditions: the table lies where the program laid it). -/
import Derived.Test.YtefnlbgkfingfaaDoorManiW
import Derived.Test.YtefnlbgkfingfaaDoorNum
namespace Go.Proofs.YtefnlbgkfingfaaDoor
open Go Sx
set_option maxRecDepth 8000

theorem neqS_err {T : TypeId} {m} (hT : Tryd.prog.underlying T = some (.interface m)) (o : Option Int) (n : Int) (x y : Operand) (w : World) : (eqlS .neq T x y (errV o) (.iface 65 (.int .i64 n))).run Tryd.prog w = .ok (.bool (!decide (o = some n))) w := by
  have hE := Tryd.underlying65
  have hI : (typeInfo 65).run Tryd.prog w = .ok Tryd.t65 w := by
    simp [typeInfo, show Tryd.prog.info? 65 = some Tryd.t65 by kernel_rfl]
  have hc : Tryd.t65.comparable = true := by kernel_rfl
  have h1 : ∀ d k, (Op.equalIn (d + 2) T (.iface 65 (.int .i64 k)) (.iface 65 (.int .i64 n))).run Tryd.prog w = .ok (k == n) w := fun d k => by
    simp [Op.equalIn, run_underlying hT, run_underlying hE, hI, hc]
  have h2 : ∀ d U v, (Op.equalIn (d + 1) T .nilIface (.iface U v)).run Tryd.prog w = .ok false w := fun d U v => by simp [Op.equalIn, run_underlying hT]
  cases o with
  | none => simp [eqlS, eqGuard, errV, binOp, Op.equal, show Op.maxDepth = 9999 + 1 from rfl, h2 9999]
  | some k =>
    have h3 : (some k = some n) = (k = n) := by simp
    simp only [h3]
    have h4 : decide (k = n) = (k == n) := rfl
    rw [h4]
    simp [eqlS, eqGuard, errV, binOp, Op.equal, show Op.maxDepth = 9998 + 2 from rfl, h1 9998]

def lstIds (l : List UInt8) (k : Nat) : Ids := (List.range k).map fun i => [l.getD i 0] ++ List.replicate 31 0
theorem lstIds_succ (l : List UInt8) (k : Nat) : lstIds l (k + 1) = lstIds l k ++ [[l.getD k 0] ++ List.replicate 31 0] := by rw [lstIds, lstIds, List.range_succ, List.map_append]; rfl
theorem lstIds_len (l : List UInt8) (k : Nat) : (lstIds l k).length = k := by simp [lstIds]
theorem lstIds_all (l : List UInt8) (k : Nat) : All32 (lstIds l k) := fun i hi => by
  simp only [lstIds, List.mem_map] at hi
  obtain ⟨j, _, rfl⟩ := hi
  simp

theorem id1_build (b : UInt8) (w : World) : (Instr.build 33 #[(0, .int .u8 (b.toNat : Int))]).run Tryd.prog w = .ok (.agg (bv ([b] ++ List.replicate 31 0)).toArray) w := by
  have := build_arr (P := Tryd.prog) (w := w) (T := 33) (idZ w) Tryd.underlying33 (sB1 w) [.int .u8 (b.toNat : Int)] (by simp [Value.oneCell']) (by simp)
  exact this

theorem parse_len {b b' : List UInt8} (h : OkN b) (hl : b'.length ≠ b.length) (h1 : 2 ≤ b'.length → b'.getD 1 0 = b.getD 1 0) : parseF b' = none := by
  refine parse_no fun h' => ?_
  have e := h1 h'.1
  have h5 := h.2.2.2.2
  have h5' := h'.2.2.2.2
  rw [e] at h5'
  omega

/-- The cells of a Node. -/
def nodeC (lv : Int) (a : Option Addr) (n c : Nat) (at' : Int) (d : UInt8) : List Value := [.int .i64 lv, .slice a n c, .int .i64 at', .int .u8 (d.toNat : Int)]

set_option maxHeartbeats 2000000 in
theorem forms_spec (lv : Int) (a : Option Addr) (n c : Nat) (l : List UInt8) (at' : Int) (d : UInt8) (w : World) (hK : KTab w) (hr : RdB w a n c l) :
    Calls Tryd.prog 19 #[.int .i64 lv, .slice a n c, .int .i64 at', .int .u8 (d.toNat : Int)] w fun e w' => e = .returned (.bool true) ∧ Chg [] w w' := by
  have hl := hr.lenB
  obtain ⟨mI, hI⟩ := eI
  apply amphoralaw15_forms_vc
  refine (alive15_spec w hK).mono ?_
  rintro e w1 ⟨rfl, c1⟩
  refine ⟨_, rfl, fun h => by simp at h, fun _ => ⟨fun y w' => w' = w1 ∧ (y = false → n ≤ 16 ∧ 0 ≤ lv ∧ lv ≤ 3 ∧ (n = 0 → lv = 0)), ⟨fun _ => ⟨rfl, fun h => by simp at h⟩, fun h => ⟨fun h0 => ⟨rfl, fun h' => ?_⟩, fun h0 => ⟨rfl, fun _ => ?_⟩⟩⟩, ?_⟩⟩
  · simp at h h0 h'; omega
  · simp at h h0; omega
  rintro y w2 ⟨rfl, hy⟩
  refine ⟨fun _ => ⟨rfl, c1⟩, fun hf => ?_⟩
  obtain ⟨hn16, hlv0, hlv3, hn0⟩ := hy hf
  obtain ⟨L, rfl⟩ := Int.eq_ofNat_of_zero_le hlv0
  obtain ⟨g3, w3, r3, h3⟩ := (St.start w2).litA0 idT
  refine ⟨_, _, _, _, r3, fun xa xn xc z w' => ∃ i : Nat, z = (i : Int) ∧ i ≤ n ∧ xn = i ∧ St w2 [] w' [.row 33 32 (.slice xa xn xc) xn (bv (lstIds l i).flatten)], fun _ _ _ z _ => n - z.toNat, ⟨0, rfl, by omega, rfl, h3⟩, ?_⟩
  rintro xa xn xc z w4 ⟨i, rfl, hi, rfl, h4⟩
  refine ⟨fun h => ?_, fun h => ?_⟩
  · have hi' : xn < n := by simp at h; omega
    refine ixB (bA _) (hr.keep0 (c1.trans h4.chg)).cells hl (by omega) (by omega) fun _ _ _ => ?_
    have hg : l.getD (Int.toNat (xn : Int)) 0 = l.getD xn 0 := rfl
    rw [hg]
    obtain ⟨g9, w9, vb, vd, w10, r9, r10, h10, _⟩ := h4.pushA (i := 0) (ty := 30) idT rfl (bv ([l.getD xn 0] ++ List.replicate 31 0)) (by simp) (by decide) (bv_one _) (by omega) (by simp only [maxLen]; omega)
    refine ⟨_, id1_build _ _, _, _, _, _, r9, _, _, _, _, r10, ⟨xn + 1, wrap_succ hi' (by omega), by omega, rfl, ?_⟩, mu_succ hi' (by omega)⟩
    rw [lstIds_succ, flat_idapp]
    simpa using h10
  have hi' : xn = n := by simp at h; omega
  subst hi'
  obtain ⟨lst, hlst⟩ : ∃ lst, lstIds l xn = lst := ⟨_, rfl⟩
  have hll : lst.length = xn := by rw [← hlst]; exact lstIds_len l xn
  have hla : All32 lst := by rw [← hlst]; exact lstIds_all l xn
  rw [hlst] at h4
  have hri : RdI w4 xa xn xc lst := ⟨h4.rd (i := 0) rfl, hla⟩
  have c4 := c1.trans h4.chg
  refine (rnode_spec L xa xn xc lst w4 hri (by omega)).mono ?_
  rintro e w5 ⟨na, nn, nc, rfl, hf5⟩
  have hpn : parseF (nodeL L lst) = some (L, lst) := parse_node hla (by omega) (by omega) (fun e => by have := hn0 (by rw [← hll, e]; rfl); omega)
  have hok : OkN (nodeL L lst) := by
    by_cases h : OkN (nodeL L lst)
    · exact h
    · rw [parse_no h] at hpn; cases hpn
  obtain ⟨nd, hnd⟩ : ∃ nd, nodeL L lst = nd := ⟨_, rfl⟩
  rw [hnd] at hf5 hpn hok
  have hnl : nd.length = nn := hf5.2.1
  have hnlen : nn = 2 + 32 * xn := by rw [← hnl, ← hnd, nodeL_small L (by omega), List.length_cons, List.length_cons, flat32 hla]; omega
  have hri5 := hri.keep0 hf5.1
  have hrd5 : RdB w5 na nn nc nd := hf5.rdB
  have c5 := c4.trans hf5.1
  refine ⟨_, _, _, rfl, (parse_spec na nn nc nd w5 hrd5 (by omega)).mono ?_⟩
  rw [hpn]
  rintro e w6 ⟨pa, pn, pc, rfl, hri6, c6⟩
  refine ⟨_, _, _, _, _, rfl, fun y w' => y = false ∧ Chg [] w6 w', ⟨_, neqS_nil hI none _ _, fun h => by simp [lvO] at h, fun _ => (rsame_spec _ _ _ lst _ _ _ lst w6 hri6 (hri5.keep0 c6) (by have := hri6.num; have : (idsO (some (L, lst))).length = lst.length := rfl; omega)).mono ?_⟩, ?_⟩
  · rintro e w7 ⟨rfl, c7⟩
    exact ⟨_, rfl, by simp, c7⟩
  rintro y w7 ⟨rfl, c7⟩
  refine ⟨fun h => (by cases h), fun _ => ?_⟩
  have c57 := c6.trans c7
  have hrd7 := hrd5.keep0 c57
  obtain ⟨g8, w8, r8, h8⟩ := (St.start w7).lit bT [] (by simp) (by simp)
  obtain ⟨va, vc, w9, r9, h9⟩ := h8.appendB (i := 0) (xs := []) rfl (h8.rd1 hrd7) (by simp; omega)
  simp only [List.length_nil, Nat.zero_add, List.nil_append] at r9 h9
  obtain ⟨g10, w10, r10, h10⟩ := h9.lit bT [.int .u8 (d.toNat : Int)] (by simp [Value.oneCell']) (by simp)
  have h10' : St w7 [] w10 [.row 5 1 (.slice va nn vc) nn (bv nd), .row 5 1 (.slice (some ⟨g10, 0, none⟩) 1 1) 1 (bv [d])] := h10
  obtain ⟨vb, vd, w11, r11, h11⟩ := h10'.appendB (i := 0) rfl (h10'.rd (i := 1) (xs := bv [d]) rfl) (by omega)
  refine ⟨_, _, _, _, r8, _, _, _, _, r9, _, _, _, _, r10, _, _, _, _, r11, (parse_spec vb (nn + 1) vd (nd ++ [d]) w11 (h11.rd (i := 0) rfl) (by omega)).mono ?_⟩
  have hbad1 : parseF (nd ++ [d]) = none := parse_len hok (by simp) (fun _ => by rw [List.getD, List.getD, List.getElem?_append_left (by omega)])
  rw [hbad1]
  rintro e w12 ⟨_, _, _, rfl, _, c12⟩
  have c712 := h11.chg.trans c12
  have hle := hrd5.le
  have wk : IntKind.wrap .i64 ((nn : Int) - 1) = ((nn - 1 : Nat) : Int) := by rw [wrap_i64 (by omega) (by omega)]; omega
  rw [wk, Int.toNat_natCast]
  refine ⟨_, _, _, _, _, rfl, by omega, by omega, (parse_spec na (nn - 1) nc (nd.take (nn - 1)) w12 (rdB_upto (hrd7.keep0 c712) (by omega)) (by omega)).mono ?_⟩
  have hbad2 : parseF (nd.take (nn - 1)) = none := parse_len hok (by rw [List.length_take]; omega) (fun h2 => by rw [List.length_take] at h2; rw [List.getD, List.getD, List.getElem?_take, if_pos (by omega)])
  rw [hbad2]
  rintro e w13 ⟨_, _, _, rfl, _, c13⟩
  have c713 := c712.trans c13
  refine ⟨_, _, _, _, _, rfl, fun y w' => y = false ∧ w' = w13, ⟨_, neqS_err hI (some 9) 9 _ _ _, fun h => by simp at h, fun _ => ⟨_, neqS_err hI (some 9) 9 _ _ _, by simp, rfl⟩⟩, ?_⟩
  rintro y w14 ⟨rfl, rfl⟩
  refine ⟨fun h => (by cases h), fun _ => ?_⟩
  obtain ⟨g15, w15, r15, h15⟩ := (St.start w14).lit bT [] (by simp) (by simp)
  obtain ⟨oa, oc, w16, r16, h16⟩ := h15.appendB (i := 0) (xs := []) rfl (h15.rd1 (hrd7.keep0 c713)) (by simp; omega)
  simp only [List.length_nil, Nat.zero_add, List.nil_append] at r16 h16
  have h16 : St w14 [] w16 [.row 5 1 (.slice oa nn oc) nn (bv nd)] := h16
  have wn : IntKind.wrap .u64 (nn : Int) = (nn : Int) := by rw [wrap_u64]; omega
  obtain ⟨u, hu⟩ : ∃ u : Nat, IntKind.wrap .u64 at' = (u : Int) := ⟨(at' % 18446744073709551616).toNat, by rw [wrap_u64]; omega⟩
  obtain ⟨k, hk⟩ : ∃ k, u % nn = k := ⟨_, rfl⟩
  have hkn : k < nn := by rw [← hk]; exact Nat.mod_lt _ (by omega)
  have wt : IntKind.wrap .i64 (Int.tmod (IntKind.wrap .u64 at') (nn : Int)) = (k : Int) := by
    rw [hu, Int.tmod_eq_emod_of_nonneg (by omega), show ((u : Int) % (nn : Int)) = ((u % nn : Nat) : Int) from (Int.natCast_emod u nn).symm, hk, wrap_i64 (by omega) (by omega)]
  rw [wn, wt, Int.toNat_natCast]
  obtain ⟨go, rfl⟩ : ∃ go, oa = some ⟨go, 0, none⟩ := by
    rcases (h16.holds 0 _ rfl).2 with ⟨_, h1⟩ | ⟨g, cap, cur, h0, _⟩
    · omega
    · simp only [Value.slice.injEq] at h0; exact ⟨g, h0.1⟩
  obtain ⟨t, ht⟩ : ∃ t, nd.getD k 0 = t := ⟨_, rfl⟩
  have hx : bxor .u8 (t.toNat : Int) (d.toNat : Int) = ((t ^^^ d).toNat : Int) := by
    have h1 := t.toNat_lt
    have h2 := d.toNat_lt
    rw [bxor_nat rfl (by simp [kmod, IntKind.bits]; omega) (by simp [kmod, IntKind.bits]; omega), UInt8.toNat_xor]
  obtain ⟨w17, r17, h17⟩ := h16.stRow (i := 0) (j := k) (T := 5) (v := .int .u8 ((t ^^^ d).toNat : Int)) rfl (Tryd.sizeOf5 _) hkn rfl
  rw [bv_set] at h17
  refine ⟨_, _, _, _, r15, _, _, _, _, r16, by omega, ?_⟩
  have hcell := h16.cells (i := 0) (xs := bv nd) rfl
  refine ⟨go, 0, rfl, by omega, by omega, (t.toNat : Int), ?_, go, 0, rfl, by omega, by omega, w17, ?_, (parse_spec _ nn oc (nd.set k (t ^^^ d)) w17 (h17.rd (i := 0) rfl) (by omega)).mono ?_⟩
  · obtain ⟨b, o, ha, hc⟩ := hcell.at_ (i := k) (v := .int .u8 (t.toNat : Int)) (by rw [bv_get, List.getElem?_eq_getElem (by omega), ← ht]; simp [List.getD, show k < nd.length by omega])
    simp only [Option.some.injEq, Addr.mk.injEq, and_true] at ha
    obtain ⟨rfl, rfl⟩ := ha
    rw [show 0 + k * 1 = 0 + k by omega]
    exact ld1 (bA _) hc
  · rw [hx, show 0 + k * 1 = k by omega]
    exact r17
  rintro e w18 ⟨qa, qn, qc, rfl, hri18, c18⟩
  have c1418 := h17.chg.trans c18
  have cend : Chg [] w w18 := c5.trans (c57.trans (c713.trans c1418))
  refine ⟨_, _, _, _, _, rfl, fun _ => ⟨rfl, cend⟩, fun hd0 => ⟨_, eqlS_err hI _ 9 _ _ _, fun _ => ⟨rfl, cend⟩, fun hq => ?_⟩⟩
  refine (rsame_spec _ _ _ _ _ _ _ lst w18 hri18 (hri5.keep0 (c57.trans (c713.trans c1418))) (by have := hri18.num; have := idsO_len (nd.set k (t ^^^ d)); omega)).mono ?_
  rintro e w19 ⟨rfl, c19⟩
  refine ⟨_, rfl, ?_, cend.trans c19⟩
  have hne : idsO (parseF (nd.set k (t ^^^ d))) ≠ lst := fun e => by
    simp only [Bool.or_eq_false_iff, decide_eq_false_iff_not] at hq
    cases hp : parseF (nd.set k (t ^^^ d)) with
    | none => rw [hp] at hq; simp [errO] at hq
    | some p =>
      obtain ⟨lv', ids'⟩ := p
      rw [hp] at hq e
      have e1 : lv' = L := by have := hq.2; simp [lvO] at this; omega
      have e2 : ids' = lst := e
      have hb := node_back hp
      rw [e1, e2, hnd] at hb
      have h3 := congrArg (fun q => q[k]?) hb
      simp only [List.getElem?_set_self (show k < nd.length by omega)] at h3
      rw [List.getElem?_eq_getElem (by omega)] at h3
      have h4 : nd.getD k 0 = nd[k] := by simp [List.getD, show k < nd.length by omega]
      rw [← h4, ht] at h3
      have h5 : t ^^^ d = t := by simpa using h3
      have h6 : d = 0 := by
        have := congrArg (fun q => t ^^^ q) h5
        simpa [← UInt8.xor_assoc] using this
      rw [h6] at hd0
      simp at hd0
  rw [decide_eq_false hne]
  rfl

theorem manifestNodes_walk (lv : Int) (a : Option Addr) (n c : Nat) (l : List UInt8) (at' : Int) (d : UInt8) (w : World) (hK : KTab w) (hr : RdB w a n c l) :
    Calls Tryd.prog 5 #[.agg (nodeC lv a n c at' d).toArray] w fun e w' => e = .returned (.bool true) ∧ Chg [] w w' := by
  apply amphoralaw15_ManifestNodes_vc
  obtain ⟨g1, w1, r1, h1⟩ := (St.start w).boxA (P := Tryd.prog) 49 (nodeC lv a n c at' d)
  refine ⟨g1, w1, r1, _, h1.ldL (i := 0) rfl (iA _) rfl rfl, _, _, _, h1.ldL (i := 0) rfl (bsA _) rfl rfl, _, h1.ldL (i := 0) rfl (iA _) rfl rfl, _, h1.ldL (i := 0) rfl (bA _) rfl rfl, (forms_spec lv a n c l at' d w1 (hK.keep0 h1.chg) (hr.keep0 h1.chg)).mono ?_⟩
  rintro e w2 ⟨rfl, c2⟩
  exact ⟨_, rfl, rfl, h1.chg.trans c2⟩

end Go.Proofs.YtefnlbgkfingfaaDoor
