/- The proof of CatalogNamesCardSaid, part 4: what it rests on (conditions: those that each theorem names). -/
import Derived.Test.YtpmhjnhgpplmnaaGreatDoorS3
import Derived.Shelf.Strconv.ErrVarAll
import Derived.Test.YtpmhjnhgpplmnaaGreatDoorRows
section
namespace Go.Proofs.YtpmhjnhgpplmnaaGreatDoor
open Go Sx
set_option maxRecDepth 8000

def EVar (w : World) : Prop := (∃ t p, w.var? Tryz.prog "strconv.ErrSyntax" = some #[.iface t p]) ∧ ∃ t p, w.var? Tryz.prog "strconv.ErrRange" = some #[.iface t p]
theorem var_keep {w w' : World} {s : String} {x : Array Value} (h : w.var? Tryz.prog s = some x) (hc : Chg [] w w') : w'.var? Tryz.prog s = some x := by
 unfold World.var? at h ⊢
 cases hg : Tryz.prog.globalNamed s with
 | none => rw [hg] at h; cases h
 | some g =>
   rw [hg] at h
   simp only [Option.bind_some] at h ⊢
   cases hh : w.heap[g]? with
   | none => rw [hh] at h; simp at h
   | some o =>
     have hlt := (Array.getElem?_eq_some_iff.1 hh).1
     rw [hc.block _ hlt (by simp), hh]
     rw [hh] at h
     exact h
theorem EVar.keep0 {w w' : World} (h : EVar w) (hc : Chg [] w w') : EVar w' := by
 obtain ⟨⟨t, p, h1⟩, t2, p2, h2⟩ := h
 exact ⟨⟨t, p, var_keep h1 hc⟩, t2, p2, var_keep h2 hc⟩
theorem neqI_nil {T : TypeId} {m} (hT : Tryz.prog.underlying T = some (.interface m)) (U : TypeId) (v : Value) (x : Operand) (w : World) : (eqlS .neq T x (.const .nilIface) (.iface U v) .nilIface).run Tryz.prog w = .ok (.bool true) w := by
 have h2 : ∀ d U v, (Op.equalIn (d + 1) T (.iface U v) .nilIface).run Tryz.prog w = .ok false w := fun d U v => by simp [Op.equalIn, run_underlying hT]
 simp [eqlS, eqGuard, binOp, Op.equal, show Op.maxDepth = 9999 + 1 from rfl, h2 9999]
theorem bytesW_chg (w : World) (e : TypeId) (s : ByteArray) : Chg [] w (Lib.bytesWorld w e s) := by
 unfold Lib.bytesWorld
 have h1 : Chg [] w (w.drew.alloc (.cells (Lib.bytesCells w e s) e)) := (Chg.drew [] w).trans (Chg.alloc _ _)
 have h2 : Chg [w.heap.size] (w.drew.alloc (.cells (Lib.bytesCells w e s) e)) ((w.drew.alloc (.cells (Lib.bytesCells w e s) e)).freeze ⟨w.heap.size, (Lib.bytesCells w e s).size, none⟩ 1) := by
   refine ⟨by simp [World.freeze], by simp [World.freeze], by simp [World.freeze], by simp [World.freeze], fun k _ hk => ?_⟩
   simp only [World.freeze, Nat.succ_ne_zero, if_false, Array.getElem?_modify]
   rw [if_neg (by simpa using fun h => hk (by simp [h]))]
 exact h1.trans' h2 (fun i hi => .inl (by simp at hi; omega))
theorem atoi_spec (l : List UInt8) (hl : l.length ≤ 281474976710656) (w : World) (hE : EVar w) :
   Calls Tryz.prog 94 #[.string ⟨l.toArray⟩] w fun e w' => Chg [] w w' ∧ ((∃ v, Lib.atoiAll l = .ok v ∧ e = .returned (.tuple #[.int .i64 v, .nilIface])) ∨ ((∀ v, Lib.atoiAll l ≠ .ok v) ∧ ∃ v t p, e = .returned (.tuple #[.int .i64 v, .iface t p]))) := by
 have hsz : (⟨l.toArray⟩ : ByteArray).size = l.length := by show l.toArray.size = _; simp
 have hdl : (⟨l.toArray⟩ : ByteArray).data.toList = l := rfl
 obtain ⟨⟨t1, p1, h1⟩, t2, p2, h2⟩ := hE
 cases ha : Lib.atoiAll l with
 | ok v =>
   refine Calls.mono (Any.strconv_Atoi_ok laysAtoi ⟨l.toArray⟩ (by omega) v (by rw [hdl]; exact ha) w) ?_
   rintro e w' ⟨rfl, hw⟩
   refine ⟨?_, .inl ⟨v, rfl, rfl⟩⟩
   rcases hw with rfl | ⟨t, rfl⟩
   · exact Chg.refl _ _
   · exact bytesW_chg _ _ _
 | range =>
   refine Calls.mono (Any.strconv_Atoi_range_var laysAtoi ⟨l.toArray⟩ (by omega) (by rw [hdl]; exact ha) t2 p2 w h2) ?_
   rintro e w' ⟨N, rfl, _, _, hb⟩
   exact ⟨Chg.of_below hb, .inr ⟨fun v h => (by cases h), _, _, _, rfl⟩⟩
 | _ =>
   refine Calls.mono (Any.strconv_Atoi_syntax_var laysAtoi ⟨l.toArray⟩ (by omega) (by rw [hdl]; exact ha) t1 p1 w h1) ?_
   rintro e w' ⟨N, rfl, _, _, hb⟩
   exact ⟨Chg.of_below hb, .inr ⟨fun v h => (by cases h), _, _, _, rfl⟩⟩
theorem addSL (a b : List UInt8) (x y : Operand) (w : World) (h : a.length + b.length ≤ 9223372036854775807) : (eqlS .add 9 x y (.string ⟨a.toArray⟩) (.string ⟨b.toArray⟩)).run Tryz.prog w = .ok (.string ⟨(a ++ b).toArray⟩) w := by
 have h2 : ((⟨a.toArray⟩ : ByteArray).size : Int) + ((⟨b.toArray⟩ : ByteArray).size : Int) ≤ 9223372036854775807 := by
   have e1 : (⟨a.toArray⟩ : ByteArray).size = a.length := by show a.toArray.size = _; simp
   have e2 : (⟨b.toArray⟩ : ByteArray).size = b.length := by show b.toArray.size = _; simp
   omega
 have e : (ByteArray.mk a.toArray ++ ByteArray.mk b.toArray) = ByteArray.mk (a ++ b).toArray := by
   apply ByteArray.ext
   simp [ByteArray.data_append]
 rw [← e]
 simp [eqlS, eqGuard, binOp, Op.stringOp, h2]
theorem emptyS (l : List UInt8) : ((⟨l.toArray⟩ : ByteArray).toList == (ByteArray.mk #[]).toList) = decide (l = []) := by
 rw [ByteArray.toList_eq, ByteArray.toList_eq]
 cases l <;> simp
theorem sameS (l m : List UInt8) : ((⟨l.toArray⟩ : ByteArray).toList == (⟨m.toArray⟩ : ByteArray).toList) = decide (l = m) := by
 rw [ByteArray.toList_eq, ByteArray.toList_eq]
 show (l == m) = decide (l = m)
 by_cases h : l = m <;> simp [h]

theorem decimal_spec (u : Nat) (hu : u < 9223372036854775808) (w : World) : Calls Tryz.prog 96 #[.int .i64 (u : Int)] w fun e w' => e = .returned (.string ⟨(Lib.decDigits u).toArray⟩) ∧ Chg [] w w' := by
 apply amphoranum_Decimal_vc
 refine ⟨fun h => by simp at h, fun _ => ⟨fun x w' => x = (u : Int) ∧ w' = w, ⟨fun h => by exfalso; simp at h; omega, fun _ => ⟨rfl, rfl⟩⟩, ?_⟩⟩
 rintro x w1 ⟨rfl, rfl⟩
 have hul : (Lib.decDigits u).length ≤ 20 := dec_len 19 u (by omega)
 have big : ∀ n : Nat, ¬ n < 10 → Lib.decDigits n = Lib.decDigits (n / 10) ++ [UInt8.ofNat (48 + n % 10)] := fun n h => by rw [Lib.decDigits, dif_neg h]
 have small : ∀ n : Nat, n < 10 → Lib.decDigits n = [UInt8.ofNat (48 + n % 10)] := fun n h => by rw [Lib.decDigits, dif_pos h, Nat.mod_eq_of_lt h]
 refine ⟨fun x s w' => ∃ (n : Nat) (r : List UInt8), x = (n : Int) ∧ s = ⟨r.toArray⟩ ∧ n ≤ u ∧ ((r = [] ∧ n = u) ∨ (r ≠ [] ∧ ((n = 0 ∧ r = Lib.decDigits u) ∨ (0 < n ∧ Lib.decDigits n ++ r = Lib.decDigits u)))) ∧ Chg [] w1 w', fun x s _ => 2 * x.toNat + if s.toList.isEmpty then 1 else 0, ⟨u, [], rfl, rfl, Nat.le_refl _, .inl ⟨rfl, rfl⟩, Chg.refl _ _⟩, ?_⟩
 rintro x s w2 ⟨n, r, rfl, rfl, hn, hcase, c2⟩
 have hrl : r.length ≤ 20 := by
   rcases hcase with ⟨h, _⟩ | ⟨_, ⟨_, h⟩ | ⟨_, h⟩⟩
   · rw [h]; simp
   · rw [h]; exact hul
   · have := congrArg List.length h; rw [List.length_append] at this; omega
 rw [emptyS]
 refine ⟨fun hgo => ?_, fun hend => ⟨fun h => by exfalso; simp at h; omega, fun _ => ?_⟩⟩
 · have hb : n % 10 < 10 := Nat.mod_lt _ (by decide)
   obtain ⟨b, hbe⟩ : ∃ b : UInt8, UInt8.ofNat (48 + n % 10) = b := ⟨_, rfl⟩
   have hbn : (b.toNat : Int) = 48 + ((n % 10 : Nat) : Int) := by rw [← hbe, dig_nat hb]; omega
   have hx : IntKind.wrap .u8 (IntKind.wrap .i64 (48 + Int.tmod (n : Int) 10)) = (b.toNat : Int) := by
     rw [hbn, Int.tmod_eq_emod_of_nonneg (by omega), wrap_i64 (by omega) (by omega), wrap_u8]; omega
   have hd : IntKind.wrap .i64 (Int.tdiv (n : Int) 10) = ((n / 10 : Nat) : Int) := by
     rw [Int.tdiv_eq_ediv_of_nonneg (by omega), wrap_i64 (by omega) (by omega)]; omega
   obtain ⟨g, w3, r3, k3⟩ := (St.start w2).lit bT (bv [b]) (bv_one _) (by simp)
   have k3 : St w2 [] w3 [.row 5 1 (.slice (some ⟨g, 0, none⟩) 1 1) 1 (bv [b])] := k3
   rw [hx, hd]
   refine ⟨_, _, _, w3, r3, _, toStr bS bE sS (k3.cells (i := 0) rfl) rfl, _, addSL [b] r _ _ w3 (by simp; omega), ⟨n / 10, b :: r, rfl, rfl, by omega, ?_, c2.trans k3.chg⟩, ?_⟩
   · right
     refine ⟨by simp, ?_⟩
     by_cases h10 : n < 10
     · left
       refine ⟨Nat.div_eq_of_lt h10, ?_⟩
       have hs := small n h10
       rw [hbe] at hs
       rcases hcase with ⟨h, hu⟩ | ⟨h0, ⟨hz, _⟩ | ⟨_, h⟩⟩
       · rw [h, ← hu, hs]
       · exfalso; subst hz; simp at hgo; exact h0 hgo
       · rw [hs] at h; simpa using h
     · right
       refine ⟨by omega, ?_⟩
       have hs := big n h10
       rw [hbe] at hs
       rcases hcase with ⟨h, hu⟩ | ⟨h0, ⟨hz, _⟩ | ⟨_, h⟩⟩
       · rw [h, ← hu, hs]
       · omega
       · rw [hs] at h; simpa using h
   · have e1 : (⟨([b] ++ r).toArray⟩ : ByteArray).toList.isEmpty = false := by rw [ByteArray.toList_eq]; rfl
     have e2 : (⟨r.toArray⟩ : ByteArray).toList.isEmpty = r.isEmpty := by rw [ByteArray.toList_eq]
     dsimp only
     rw [e1, e2, Int.toNat_natCast, Int.toNat_natCast]
     cases r with
     | nil => simp; omega
     | cons c r =>
       have : 0 < n := by simp at hgo; omega
       simp; omega
 · have hr : r ≠ [] := by intro h; rw [h] at hend; simp at hend
   have hn0 : n = 0 := by simp at hend; omega
   rcases hcase with ⟨h, _⟩ | ⟨_, ⟨_, h⟩ | ⟨h, _⟩⟩
   · exact absurd h hr
   · rw [h]; exact ⟨rfl, c2⟩
   · omega

end Go.Proofs.YtpmhjnhgpplmnaaGreatDoor
end

section
namespace Go.Proofs.YtpmhjnhgpplmnaaGreatDoor
open Go Go.Proofs.YtpmhjnhgpplmnaaGreatDoor.Sx

set_option maxRecDepth 100000
theorem catalog_GoodName_vc (a0 : ByteArray) (w : World) (R : Ending → World → Prop) (h : ∃ (I : Int → World → Prop) (μ : Int → World → Nat), I 0 w ∧ (∀ x6, ∀ w1, I x6 w1 → ((decide (x6 < (a0.size : Int)) = true → (∃ J : Bool → World → Prop, (∃ t11, (Instr.index 9 (.string a0) (.int .i64 x6)).run Tryz.prog w1 = .ok (.int .u8 t11) w1 ∧ ((decide (t11 < (33 : Int)) = true → (J true w1)) ∧ (decide (t11 < (33 : Int)) = false → (∃ t16, (Instr.index 9 (.string a0) (.int .i64 x6)).run Tryz.prog w1 = .ok (.int .u8 t16) w1 ∧ (J (decide (t16 > (126 : Int))) w1))))) ∧ (∀ x18, ∀ w2, J x18 w2 → ((x18 = true → (R (.returned (.bool false)) w2)) ∧ (x18 = false → (I (IntKind.wrap .i64 (x6 + 1)) w2 ∧ μ (IntKind.wrap .i64 (x6 + 1)) w2 < μ x6 w1)))))) ∧ (decide (x6 < (a0.size : Int)) = false → (R (.returned (.bool ((!(a0.toList == (ByteArray.mk #[]).toList)) && (decide ((a0.size : Int) ≤ (32 : Int)))))) w1))))) : Calls Tryz.prog 28 #[(.string a0)] w R := calls_of_ev2 (tc := .sq [.rg 1, .seq (.rg 3) (.blk (.loop (lr [(2, 2), (6, 14)]) [6] [.int .i64] (.sq [.rg 1, .cond .leaf .leaf, .blk (.sq [.rg 2, .join (lr [(9, 10)]) [18] [.bool] (.reg (.pp 2 (.op (.ld (.int .u8)) (.pp 2 (.sp 13 (.pp 5 .nil) (.pp 2 (.op (.ld (.int .u8)) (.pp 2 .nil))))))))] (.cond (.seq (.rg 1) .leaf) .leaf))] (.rg 2)))), .reg (.pp 3 (.ap 3 (.op .p .nil)))] .leaf) Tryz.func28 (by kernel_rfl) (by kernel_rfl) h

theorem catalog_goodSnapshot_vc (a0 : Array Value) (w : World) (R : Ending → World → Prop) (h : ∃ g1 w1, (Instr.box 89 (.agg a0)).run Tryz.prog w = .ok (.pointer (some ⟨g1, 0, none⟩)) w1 ∧ (∃ t4, LdQ 9 g1 0 (.string t4) w1 ∧ (Calls Tryz.prog 28 #[(.string t4)] w1 fun e5 w2 => ∃ t5, e5 = .returned (.bool t5) ∧ ((t5 = true → (∃ t8, LdQ 3 g1 1 (.int .i64 t8) w2 ∧ (((decide (t8 ≥ ((-1099511627776) : Int))) = true → (∃ t13, LdQ 3 g1 1 (.int .i64 t13) w2 ∧ ((decide (t13 ≤ (1099511627776 : Int)) = true → (∃ t18, LdQ 3 g1 2 (.int .i64 t18) w2 ∧ ((decide (t18 ≥ (0 : Int)) = true → (∃ t23, LdQ 3 g1 3 (.int .i64 t23) w2 ∧ ((decide (t23 ≥ (0 : Int)) = true → (∃ t28, LdQ 3 g1 3 (.int .i64 t28) w2 ∧ (R (.returned (.bool (decide (t28 ≤ (65536 : Int))))) w2))) ∧ (decide (t23 ≥ (0 : Int)) = false → (R (.returned (.bool false)) w2))))) ∧ (decide (t18 ≥ (0 : Int)) = false → (R (.returned (.bool false)) w2))))) ∧ (decide (t13 ≤ (1099511627776 : Int)) = false → (R (.returned (.bool false)) w2))))) ∧ ((decide (t8 ≥ ((-1099511627776) : Int))) = false → (R (.returned (.bool false)) w2))))) ∧ (t5 = false → (R (.returned (.bool false)) w2)))))) : Calls Tryz.prog 106 #[(.agg a0)] w R := calls_of_ev2 (tc := .sq [.reg (.op .bx (.op .p .nil)), .reg (.op .p (.op (.ld .str) (.op (.cl [.bool]) (.op .p (.sp 6 (.op .p (.op (.ld (.int .i64)) (.pp 3 (.sp 11 (.op .p (.op (.ld (.int .i64)) (.pp 3 (.sp 16 (.op .p (.op (.ld (.int .i64)) (.pp 3 (.sp 21 (.op .p (.op (.ld (.int .i64)) (.pp 3 (.sp 26 (.op .p (.op (.ld (.int .i64)) (.pp 3 .nil))) (.pp 5 .nil))))) (.pp 10 .nil))))) (.pp 15 .nil))))) (.pp 20 .nil))))) (.pp 25 .nil))))))] .leaf) Tryz.func106 (by kernel_rfl) (by kernel_rfl) h

theorem catalog_Check_vc (a0 : Array Value) (w : World) (R : Ending → World → Prop) (h : ∃ g1 w1, (Instr.box 47 (.agg a0)).run Tryz.prog w = .ok (.pointer (some ⟨g1, 0, none⟩)) w1 ∧ (∃ J : Bool → World → Prop, (∃ t9, LdQ 3 g1 0 (.int .i64 t9) w1 ∧ ((decide (t9 < (1 : Int)) = true → (J true w1)) ∧ (decide (t9 < (1 : Int)) = false → (∃ t13, LdQ 3 g1 0 (.int .i64 t13) w1 ∧ ((decide (t13 > (1099511627776 : Int)) = true → (J true w1)) ∧ (decide (t13 > (1099511627776 : Int)) = false → (∃ t18, LdQ 3 g1 1 (.int .i64 t18) w1 ∧ ((decide (t18 < (0 : Int)) = true → (J true w1)) ∧ (decide (t18 < (0 : Int)) = false → (∃ t23, LdQ 3 g1 1 (.int .i64 t23) w1 ∧ ((decide (t23 > (1099511627776 : Int)) = true → (J true w1)) ∧ (decide (t23 > (1099511627776 : Int)) = false → (∃ t28, LdQ 44 g1 2 (.agg t28) w1 ∧ (Calls Tryz.prog 105 #[(.agg t28)] w1 fun e29 w2 => ∃ t29, e29 = .returned t29 ∧ (∃ t30, (eqlS .neq 58 (.tmp 29) (.const .nilIface) t29 .nilIface).run Tryz.prog w2 = .ok (.bool t30) w2 ∧ ((t30 = true → (J true w2)) ∧ (t30 = false → (∃ t34a t34n t34c, LdQ 25 g1 7 (.slice t34a t34n t34c) w2 ∧ ((decide ((t34n : Int) > (64 : Int)) = true → (J true w2)) ∧ (decide ((t34n : Int) > (64 : Int)) = false → (∃ t40a t40n t40c, LdQ 45 g1 8 (.slice t40a t40n t40c) w2 ∧ (J (decide ((t40n : Int) > (1024 : Int))) w2)))))))))))))))))))))) ∧ (∀ x43, ∀ w3, J x43 w3 → ((x43 = true → (R (.returned (.iface 65 (.int .i64 28))) w3)) ∧ (x43 = false → (∃ t46a t46n t46c, LdQ 25 g1 7 (.slice t46a t46n t46c) w3 ∧ (∃ (I : Int → World → Prop) (μ : Int → World → Nat), I 0 w3 ∧ (∀ x48, ∀ w4, I x48 w4 → ((decide (x48 < (t46n : Int)) = true → (∃ t51b t51o, t46a = some ⟨t51b, t51o, none⟩ ∧ 0 ≤ x48 ∧ x48 < (t46n : Int) ∧ (∃ t52, LdQ 89 t51b (t51o + Int.toNat x48 * 36) (.agg t52) w4 ∧ (∃ g4 w5, AlQ 89 g4 w4 w5 ∧ (∃ w6, StQ 89 g4 0 (.agg t52) w5 w6 ∧ (∃ J_1 : Bool → World → Prop, (∃ S : World → Prop, S w6.drew ∧ (∃ t53, (∀ w', S w' → LdQ 89 g4 0 (.agg t53) w') ∧ (Calls Tryz.prog 106 #[(.agg t53)] w6.drew fun e54 w7 => ∃ t54, e54 = .returned (.bool t54) ∧ (∃ S_1 : World → Prop, (∀ w', S_1 w' → S w') ∧ S_1 w7 ∧ (((!t54) = true → (J_1 true w7)) ∧ ((!t54) = false → ((decide (x48 > (0 : Int)) = true → (∃ t61a t61n t61c, (∀ w', S_1 w' → LdQ 25 g1 7 (.slice t61a t61n t61c) w') ∧ (∃ t64b t64o, t61a = some ⟨t64b, t64o, none⟩ ∧ 0 ≤ (IntKind.wrap .i64 (x48 - (1 : Int))) ∧ (IntKind.wrap .i64 (x48 - (1 : Int))) < (t61n : Int) ∧ (∃ t66, (∀ w', S_1 w' → LdQ 9 t64b (t64o + Int.toNat (IntKind.wrap .i64 (x48 - (1 : Int))) * 36) (.string t66) w') ∧ (∃ t68, (∀ w', S_1 w' → LdQ 9 g4 0 (.string t68) w') ∧ (∃ t69, (∀ w', S_1 w' → (eqlS .geq 9 (.tmp 66) (.tmp 68) (.string t66) (.string t68)).run Tryz.prog w' = .ok (.bool t69) w') ∧ (J_1 t69 w7))))))) ∧ (decide (x48 > (0 : Int)) = false → (J_1 false w7))))))))) ∧ (∀ x71, ∀ w8, J_1 x71 w8 → ((x71 = true → (R (.returned (.iface 65 (.int .i64 28))) w8)) ∧ (x71 = false → (I (IntKind.wrap .i64 (x48 + 1)) w8 ∧ μ (IntKind.wrap .i64 (x48 + 1)) w8 < μ x48 w4)))))))))) ∧ (decide (x48 < (t46n : Int)) = false → (∃ t75a t75n t75c, LdQ 45 g1 8 (.slice t75a t75n t75c) w4 ∧ (∃ (I_1 : Int → Int → World → Prop) (μ_1 : Int → Int → World → Nat), I_1 (-1) 0 w4 ∧ (∀ x5 x77, ∀ w9, I_1 x5 x77 w9 → ((decide (x77 < (t75n : Int)) = true → (∃ t79b t79o, t75a = some ⟨t79b, t79o, none⟩ ∧ 0 ≤ x77 ∧ x77 < (t75n : Int) ∧ (∃ t80, LdQ 91 t79b (t79o + Int.toNat x77 * 3) (.agg t80) w9 ∧ (∃ g7 w10, AlQ 91 g7 w9 w10 ∧ (∃ w11, StQ 91 g7 0 (.agg t80) w10 w11 ∧ (∃ J_1 : Bool → World → Prop, (∃ t82, LdQ 3 g7 0 (.int .i64 t82) w11 ∧ ((decide (t82 ≤ x5) = true → (J_1 true w11)) ∧ (decide (t82 ≤ x5) = false → (∃ t87, LdQ 3 g7 0 (.int .i64 t87) w11 ∧ (∃ t89, LdQ 3 g1 1 (.int .i64 t89) w11 ∧ ((decide (t87 ≥ t89) = true → (J_1 true w11)) ∧ (decide (t87 ≥ t89) = false → (∃ t94, LdQ 3 g7 1 (.int .i64 t94) w11 ∧ ((decide (t94 < (0 : Int)) = true → (J_1 true w11)) ∧ (decide (t94 < (0 : Int)) = false → (∃ t99, LdQ 3 g7 2 (.int .i64 t99) w11 ∧ (J_1 (decide (t99 < (0 : Int))) w11)))))))))))) ∧ (∀ x101, ∀ w12, J_1 x101 w12 → ((x101 = true → (R (.returned (.iface 65 (.int .i64 28))) w12)) ∧ (x101 = false → (∃ t104, LdQ 3 g7 0 (.int .i64 t104) w12 ∧ (I_1 t104 (IntKind.wrap .i64 (x77 + 1)) w12 ∧ μ_1 t104 (IntKind.wrap .i64 (x77 + 1)) w12 < μ_1 x5 x77 w9))))))))))) ∧ (decide (x77 < (t75n : Int)) = false → (R (.returned .nilIface) w9)))))))))))))))) : Calls Tryz.prog 38 #[(.agg a0)] w R := calls_of_ev2 (tc := .sq [.reg (.op .bx (.op .p .nil)), .seq (.join (lr [(8, 36)]) [43] [.bool] (.reg (.op .p (.op (.ld (.int .i64)) (.pp 2 (.sp 11 (.pp 32 .nil) (.op .p (.op (.ld (.int .i64)) (.pp 3 (.sp 16 (.pp 27 .nil) (.op .p (.op (.ld (.int .i64)) (.pp 3 (.sp 21 (.pp 22 .nil) (.op .p (.op (.ld (.int .i64)) (.pp 3 (.sp 26 (.pp 17 .nil) (.op .p (.op (.ld .agg) (.op (.cl [.val]) (.op (.ld .bool) (.pp 2 (.sp 32 (.pp 11 .nil) (.op .p (.op (.ld .slice) (.pp 4 (.sp 38 (.pp 5 .nil) (.op .p (.op (.ld .slice) (.pp 3 .nil))))))))))))))))))))))))))))))) (.cond (.seq (.rg 2) .leaf) .leaf), .seq (.reg (.op .p (.op (.ld .slice) (.pp 2 .nil)))) (.blk (.loop (lr [(2, 3), (48, 26)]) [48] [.int .i64] (.sq [.rg 1, .cond .leaf .leaf, .blk (.sq [.reg (.op .p (.op .ix (.op (.ld .agg) (.op .bx (.op .p (.op .u .nil)))))), .join (lr [(53, 19)]) [71] [.bool] (.drawS (.ts 0 .agg (.go 1 (.cl [.bool]) (.tks [2, 3] (.sp 56 (.tks [4, 5, 6, 7, 9, 10, 14] (.ts 8 .val (.tks [11, 12] (.ts 13 .val (.ts 15 .val (.ts 16 .val (.tks [17, 18] .nil))))))) (.tks [4, 5, 6] (.sp 59 (.tks [7, 9, 10, 14] (.ts 8 .slice (.tk 11 .ix (.tk 12 .p (.ts 13 .str (.ts 15 .str (.ts 16 .bool (.tks [17, 18] .nil)))))))) (.tks [7, 9, 10, 14] (.ts 8 .val (.tks [11, 12] (.ts 13 .val (.ts 15 .val (.ts 16 .val (.tks [17, 18] .nil))))))))))))) [])] (.cond (.seq (.rg 2) .leaf) .leaf))] (.rg 2)))), .rg 1, .seq (.reg (.op .p (.op (.ld .slice) (.pp 2 .nil)))) (.blk (.loop (lr [(2, 1), (5, 1), (7, 1), (77, 29)]) [5, 77] [.int .i64, .int .i64] (.sq [.rg 1, .cond .leaf .leaf, .blk (.sq [.reg (.op .ix (.op (.ld .agg) (.op .bx (.op .u .nil)))), .seq (.join (lr [(81, 21)]) [101] [.bool] (.reg (.op .p (.op (.ld (.int .i64)) (.pp 3 (.sp 85 (.pp 16 .nil) (.op .p (.op (.ld (.int .i64)) (.op .p (.op (.ld (.int .i64)) (.pp 3 (.sp 92 (.pp 9 .nil) (.op .p (.op (.ld (.int .i64)) (.pp 3 (.sp 97 (.pp 4 .nil) (.op .p (.op (.ld (.int .i64)) (.pp 2 .nil))))))))))))))))))) (.cond (.seq (.rg 2) .leaf) .leaf)] (.reg (.op .p (.op (.ld (.int .i64)) (.op .p .nil)))))] (.rg 2)))), .rg 1] .leaf) Tryz.func38 (by kernel_rfl) (by kernel_rfl) h

theorem catalog_bytes_vars_vc (a0b : Nat) (a0o : Nat) (a1a : Option Addr) (a1n : Nat) (a1c : Nat) (w : World) (R : Ending → World → Prop) (h : ∃ (I : Int → World → Prop) (μ : Int → World → Nat), I 0 w ∧ (∀ x8, ∀ w1, I x8 w1 → ((decide (x8 < (a1n : Int)) = true → (∃ t10b t10o, a1a = some ⟨t10b, t10o, none⟩ ∧ 0 ≤ x8 ∧ x8 < (a1n : Int) ∧ (∃ t11, LdQ 3 t10b (t10o + Int.toNat x8 * 1) (.int .i64 t11) w1 ∧ (∃ S : World → Prop, S w1.drew ∧ (∃ t15a t15n t15c, (∀ w', S w' → LdQ 185 a0b a0o (.slice t15a t15n t15c) w') ∧ (Calls Tryz.prog 197 #[(.int .i64 t11)] w1.drew fun e17 w2 => ∃ t17a t17n t17c, e17 = .returned (.slice t17a t17n t17c) ∧ (∃ S_1 : World → Prop, (∀ w', S_1 w' → S w') ∧ S_1 w2 ∧ (∃ t18a t18n t18c w3, (Builtin.append_ #[185, 26] 185 #[(.slice t15a t15n t15c), (.slice t17a t17n t17c)]).run Tryz.prog w2 = .ok (.slice t18a t18n t18c) w3 ∧ (∃ S_2 : World → Prop, (∀ w', S_2 w' → S_1 w') ∧ S_2 w3 ∧ (∃ w4, StQ 185 a0b a0o (.slice t18a t18n t18c) w3 w4 ∧ (I (IntKind.wrap .i64 (x8 + 1)) w4 ∧ μ (IntKind.wrap .i64 (x8 + 1)) w4 < μ x8 w1))))))))))) ∧ (decide (x8 < (a1n : Int)) = false → (R (.returned (.tuple #[])) w1))))) : Calls Tryz.prog 99 #[(.pointer (some ⟨a0b, a0o, none⟩)), (.slice a1a a1n a1c)] w R := calls_of_ev2 (tc := .seq (.rg 3) (.blk (.loop (lr [(5, 1), (8, 13)]) [8] [.int .i64] (.sq [.rg 1, .cond .leaf .leaf, .blk (.seq (.reg (.op .ix (.op (.ld (.int .i64)) (.op .p .nil)))) (.drawS (.tks [0, 1, 2, 4] (.ts 3 .slice (.go 5 (.cl [.slice]) (.go 6 (.r .slice) (.tk 7 .p (.go 8 .u .nil)))))) [8]))] (.rg 2))))) Tryz.func99 (by kernel_rfl) (by kernel_rfl) h

theorem catalog_bytes_nums_vc (a0b : Nat) (a0o : Nat) (a1a : Option Addr) (a1n : Nat) (a1c : Nat) (w : World) (R : Ending → World → Prop) (h : ∃ (I : Int → World → Prop) (μ : Int → World → Nat), I 0 w ∧ (∀ x8, ∀ w1, I x8 w1 → ((decide (x8 < (a1n : Int)) = true → (∃ t10b t10o, a1a = some ⟨t10b, t10o, none⟩ ∧ 0 ≤ x8 ∧ x8 < (a1n : Int) ∧ (∃ t11, LdQ 3 t10b (t10o + Int.toNat x8 * 1) (.int .i64 t11) w1 ∧ (∃ S : World → Prop, S w1.drew ∧ (∃ t15a t15n t15c, (∀ w', S w' → LdQ 185 a0b a0o (.slice t15a t15n t15c) w') ∧ (Calls Tryz.prog 196 #[(.int .i64 t11)] w1.drew fun e17 w2 => ∃ t17a t17n t17c, e17 = .returned (.slice t17a t17n t17c) ∧ (∃ S_1 : World → Prop, (∀ w', S_1 w' → S w') ∧ S_1 w2 ∧ (∃ t18a t18n t18c w3, (Builtin.append_ #[185, 26] 185 #[(.slice t15a t15n t15c), (.slice t17a t17n t17c)]).run Tryz.prog w2 = .ok (.slice t18a t18n t18c) w3 ∧ (∃ S_2 : World → Prop, (∀ w', S_2 w' → S_1 w') ∧ S_2 w3 ∧ (∃ w4, StQ 185 a0b a0o (.slice t18a t18n t18c) w3 w4 ∧ (I (IntKind.wrap .i64 (x8 + 1)) w4 ∧ μ (IntKind.wrap .i64 (x8 + 1)) w4 < μ x8 w1))))))))))) ∧ (decide (x8 < (a1n : Int)) = false → (R (.returned (.tuple #[])) w1))))) : Calls Tryz.prog 98 #[(.pointer (some ⟨a0b, a0o, none⟩)), (.slice a1a a1n a1c)] w R := calls_of_ev2 (tc := .seq (.rg 3) (.blk (.loop (lr [(5, 1), (8, 13)]) [8] [.int .i64] (.sq [.rg 1, .cond .leaf .leaf, .blk (.seq (.reg (.op .ix (.op (.ld (.int .i64)) (.op .p .nil)))) (.drawS (.tks [0, 1, 2, 4] (.ts 3 .slice (.go 5 (.cl [.slice]) (.go 6 (.r .slice) (.tk 7 .p (.go 8 .u .nil)))))) [8]))] (.rg 2))))) Tryz.func98 (by kernel_rfl) (by kernel_rfl) h

theorem catalog_Encode_vc (a0 : Array Value) (a1 : Array Value) (w : World) (R : Ending → World → Prop) (h : ∃ g2 w1, (Instr.box 41 (.agg a0)).run Tryz.prog w = .ok (.pointer (some ⟨g2, 0, none⟩)) w1 ∧ (∃ g3 w2, (Instr.box 47 (.agg a1)).run Tryz.prog w1 = .ok (.pointer (some ⟨g3, 0, none⟩)) w2 ∧ (∃ t12, LdQ 47 g3 0 (.agg t12) w2 ∧ (Calls Tryz.prog 38 #[(.agg t12)] w2 fun e13 w3 => ∃ t13, e13 = .returned t13 ∧ (∃ t15, (eqlS .neq 58 (.tmp 14) (.const .nilIface) t13 .nilIface).run Tryz.prog w3 = .ok (.bool t15) w3 ∧ ((t15 = true → (R (.returned (.tuple #[(.slice none 0 0), t13])) w3)) ∧ (t15 = false → (∃ g7 w4, AlQ 185 g7 w3 w4 ∧ (∃ t18, LdQ 3 g3 0 (.int .i64 t18) w4 ∧ (∃ t20, LdQ 3 g3 1 (.int .i64 t20) w4 ∧ (∃ t23, LdQ 42 g3 2 (.int .u64 t23) w4 ∧ (∃ t25a t25n t25c w5, (Instr.buildSlice 29 3 #[(0, (.int .i64 t18)), (1, (.int .i64 t20)), (2, (.int .i64 (IntKind.wrap .i64 t23)))]).run Tryz.prog w4 = .ok (.slice t25a t25n t25c) w5 ∧ (Calls Tryz.prog 98 #[(.pointer (some ⟨g7, 0, none⟩)), (.slice t25a t25n t25c)] w5 fun e26 w6 => e26 = .returned (.tuple #[]) ∧ (∃ t29, LdQ 3 g3 3 (.int .i64 t29) w6 ∧ (∃ t32, LdQ 3 g3 4 (.int .i64 t32) w6 ∧ (∃ t35, LdQ 3 g3 5 (.int .i64 t35) w6 ∧ (∃ t38, LdQ 3 g3 6 (.int .i64 t38) w6 ∧ (∃ t40a t40n t40c, LdQ 25 g3 7 (.slice t40a t40n t40c) w6 ∧ (∃ t42a t42n t42c w7, (Instr.buildSlice 29 5 #[(0, (.int .i64 t29)), (1, (.int .i64 t32)), (2, (.int .i64 t35)), (3, (.int .i64 t38)), (4, (.int .i64 (t40n : Int)))]).run Tryz.prog w6 = .ok (.slice t42a t42n t42c) w7 ∧ (Calls Tryz.prog 99 #[(.pointer (some ⟨g7, 0, none⟩)), (.slice t42a t42n t42c)] w7 fun e43 w8 => e43 = .returned (.tuple #[]) ∧ (∃ t45a t45n t45c, LdQ 25 g3 7 (.slice t45a t45n t45c) w8 ∧ (∃ (I : Int → World → Prop) (μ : Int → World → Nat), I 0 w8 ∧ (∀ x47, ∀ w9, I x47 w9 → ((decide (x47 < (t45n : Int)) = true → (∃ t49b t49o, t45a = some ⟨t49b, t49o, none⟩ ∧ 0 ≤ x47 ∧ x47 < (t45n : Int) ∧ (∃ t50, LdQ 89 t49b (t49o + Int.toNat x47 * 36) (.agg t50) w9 ∧ (∃ g9 w10, AlQ 89 g9 w9 w10 ∧ (∃ w11, StQ 89 g9 0 (.agg t50) w10 w11 ∧ (∃ S : World → Prop, S w11.drew ∧ (∃ t51a t51n t51c, (∀ w', S w' → LdQ 185 g7 0 (.slice t51a t51n t51c) w') ∧ (∃ t53, (∀ w', S w' → LdQ 9 g9 0 (.string t53) w') ∧ (∃ t54a t54n t54c w12, (convert 9 26 (.string t53)).run Tryz.prog w11.drew = .ok (.slice t54a t54n t54c) w12 ∧ (∃ S_1 : World → Prop, (∀ w', S_1 w' → S w') ∧ S_1 w12 ∧ (∃ t55a t55n t55c w13, (Instr.buildSlice 24 1 #[(0, (.slice t54a t54n t54c))]).run Tryz.prog w12 = .ok (.slice t55a t55n t55c) w13 ∧ (∃ S_2 : World → Prop, (∀ w', S_2 w' → S_1 w') ∧ S_2 w13 ∧ (Calls Tryz.prog 100 #[(.slice t55a t55n t55c)] w13 fun e56 w14 => ∃ t56a t56n t56c, e56 = .returned (.slice t56a t56n t56c) ∧ (∃ S_3 : World → Prop, (∀ w', S_3 w' → S_2 w') ∧ S_3 w14 ∧ (∃ t57a t57n t57c w15, (Builtin.append_ #[185, 26] 185 #[(.slice t51a t51n t51c), (.slice t56a t56n t56c)]).run Tryz.prog w14 = .ok (.slice t57a t57n t57c) w15 ∧ (∃ S_4 : World → Prop, (∀ w', S_4 w' → S_3 w') ∧ S_4 w15 ∧ (∃ w16, StQ 185 g7 0 (.slice t57a t57n t57c) w15 w16 ∧ (∃ t59, LdQ 3 g9 1 (.int .i64 t59) w16 ∧ (∃ t60a t60n t60c w17, (Instr.buildSlice 29 1 #[(0, (.int .i64 t59))]).run Tryz.prog w16 = .ok (.slice t60a t60n t60c) w17 ∧ (Calls Tryz.prog 98 #[(.pointer (some ⟨g7, 0, none⟩)), (.slice t60a t60n t60c)] w17 fun e61 w18 => e61 = .returned (.tuple #[]) ∧ (∃ t63, LdQ 3 g9 2 (.int .i64 t63) w18 ∧ (∃ t65, LdQ 3 g9 3 (.int .i64 t65) w18 ∧ (∃ t66a t66n t66c w19, (Instr.buildSlice 29 2 #[(0, (.int .i64 t63)), (1, (.int .i64 t65))]).run Tryz.prog w18 = .ok (.slice t66a t66n t66c) w19 ∧ (Calls Tryz.prog 99 #[(.pointer (some ⟨g7, 0, none⟩)), (.slice t66a t66n t66c)] w19 fun e67 w20 => e67 = .returned (.tuple #[]) ∧ (∃ S_5 : World → Prop, S_5 w20.drew ∧ (0 ≤ (32 : Int) ∧ (32 : Int) ≤ (32 : Int) ∧ (∃ t68a t68n t68c, (∀ w', S_5 w' → LdQ 185 g7 0 (.slice t68a t68n t68c) w') ∧ (∃ t71a t71n t71c w21, (Builtin.append_ #[185, 26] 185 #[(.slice t68a t68n t68c), (.slice (some ⟨g9, 4, none⟩) (32) 32)]).run Tryz.prog w20.drew = .ok (.slice t71a t71n t71c) w21 ∧ (∃ S_6 : World → Prop, (∀ w', S_6 w' → S_5 w') ∧ S_6 w21 ∧ (∃ w22, StQ 185 g7 0 (.slice t71a t71n t71c) w21 w22 ∧ (I (IntKind.wrap .i64 (x47 + 1)) w22 ∧ μ (IntKind.wrap .i64 (x47 + 1)) w22 < μ x47 w9))))))))))))))))))))))))))))))) ∧ (decide (x47 < (t45n : Int)) = false → (∃ t74a t74n t74c, LdQ 45 g3 8 (.slice t74a t74n t74c) w9 ∧ (∃ t76a t76n t76c w23, (Instr.buildSlice 29 1 #[(0, (.int .i64 (t74n : Int)))]).run Tryz.prog w9 = .ok (.slice t76a t76n t76c) w23 ∧ (Calls Tryz.prog 99 #[(.pointer (some ⟨g7, 0, none⟩)), (.slice t76a t76n t76c)] w23 fun e77 w24 => e77 = .returned (.tuple #[]) ∧ (∃ t79a t79n t79c, LdQ 45 g3 8 (.slice t79a t79n t79c) w24 ∧ (∃ (I_1 : Int → World → Prop) (μ_1 : Int → World → Nat), I_1 0 w24 ∧ (∀ x81, ∀ w25, I_1 x81 w25 → ((decide (x81 < (t79n : Int)) = true → (∃ t83b t83o, t79a = some ⟨t83b, t83o, none⟩ ∧ 0 ≤ x81 ∧ x81 < (t79n : Int) ∧ (∃ t84, LdQ 91 t83b (t83o + Int.toNat x81 * 3) (.agg t84) w25 ∧ (∃ g11 w26, AlQ 91 g11 w25 w26 ∧ (∃ w27, StQ 91 g11 0 (.agg t84) w26 w27 ∧ (∃ t86, LdQ 3 g11 0 (.int .i64 t86) w27 ∧ (∃ t88, LdQ 3 g11 1 (.int .i64 t88) w27 ∧ (∃ t90, LdQ 3 g11 2 (.int .i64 t90) w27 ∧ (∃ t91a t91n t91c w28, (Instr.buildSlice 29 3 #[(0, (.int .i64 t86)), (1, (.int .i64 t88)), (2, (.int .i64 t90))]).run Tryz.prog w27 = .ok (.slice t91a t91n t91c) w28 ∧ (Calls Tryz.prog 99 #[(.pointer (some ⟨g7, 0, none⟩)), (.slice t91a t91n t91c)] w28 fun e92 w29 => e92 = .returned (.tuple #[]) ∧ (I_1 (IntKind.wrap .i64 (x81 + 1)) w29 ∧ μ_1 (IntKind.wrap .i64 (x81 + 1)) w29 < μ_1 x81 w25))))))))))) ∧ (decide (x81 < (t79n : Int)) = false → (∃ t94, LdQ 41 g2 0 (.agg t94) w25 ∧ (∃ t95a t95n t95c w30, (Instr.buildSlice 26 7 #[(0, (.int .u8 99)), (1, (.int .u8 97)), (2, (.int .u8 116)), (3, (.int .u8 97)), (4, (.int .u8 108)), (5, (.int .u8 111)), (6, (.int .u8 103))]).run Tryz.prog w25 = .ok (.slice t95a t95n t95c) w30 ∧ (∃ t96a t96n t96c w31, (convert 26 26 (.slice t95a t95n t95c)).run Tryz.prog w30 = .ok (.slice t96a t96n t96c) w31 ∧ (∃ t97a t97n t97c, LdQ 185 g7 0 (.slice t97a t97n t97c) w31 ∧ (Calls Tryz.prog 101 #[(.agg t94), (.int .u8 4), (.slice t96a t96n t96c), (.slice t97a t97n t97c)] w31 fun e98 w32 => ∃ t98a t98n t98c, e98 = .returned (.slice t98a t98n t98c) ∧ (R (.returned (.tuple #[(.slice t98a t98n t98c), .nilIface])) w32))))))))))))))))))))))))))))))))))))))) : Calls Tryz.prog 35 #[(.agg a0), (.agg a1)] w R := calls_of_ev2 (tc := .sq [.reg (.op .bx (.op .bx (.pp 2 .nil))), .sq [.reg (.op (.ld .agg) (.op (.cl [.val]) (.op .p .nil))), .reg (.op .p (.op (.ld .bool) .nil))] (.cond (.seq (.rg 3) .leaf) .leaf), .reg (.op .bx .nil), .reg (.op .p (.op (.ld (.int .i64)) (.op .p (.op (.ld (.int .i64)) (.pp 2 (.op (.ld (.int .u64)) (.op .p (.op (.r .slice) (.op (.cl []) .nil))))))))), .reg (.pp 2 (.op (.ld (.int .i64)) (.pp 2 (.op (.ld (.int .i64)) (.pp 2 (.op (.ld (.int .i64)) (.pp 2 (.op (.ld (.int .i64)) (.op .p (.op (.ld .slice) (.op .p (.op (.r .slice) (.op (.cl []) .nil))))))))))))), .seq (.reg (.op .p (.op (.ld .slice) (.pp 2 .nil)))) (.blk (.loop (lr [(9, 1), (47, 26)]) [47] [.int .i64] (.sq [.rg 1, .cond .leaf .leaf, .blk (.sq [.reg (.op .ix (.op (.ld .agg) (.op .bx (.op .u .nil)))), .drawS (.tk 1 .p (.ts 0 .slice (.ts 2 .str (.go 3 (.r .slice) (.go 4 (.r .slice) (.go 5 (.cl [.slice]) (.go 6 (.r .slice) (.go 7 .u .nil)))))))) [7], .reg (.op .p (.op (.ld (.int .i64)) (.op (.r .slice) (.op (.cl []) .nil)))), .reg (.op .p (.op (.ld (.int .i64)) (.op .p (.op (.ld (.int .i64)) (.op (.r .slice) (.op (.cl []) .nil))))))] (.drawS (.tk 1 .p (.tk 2 .sl (.ts 0 .slice (.go 3 (.r .slice) (.go 4 .u .nil))))) [4]))] (.rg 2)))), .reg (.op .p (.op (.ld .slice) (.op .p (.op (.r .slice) (.op (.cl []) .nil))))), .seq (.reg (.op .p (.op (.ld .slice) (.pp 2 .nil)))) (.blk (.loop (lr [(11, 1), (81, 13)]) [81] [.int .i64] (.sq [.rg 1, .cond .leaf .leaf, .blk (.seq (.reg (.op .ix (.op (.ld .agg) (.op .bx (.op .u .nil))))) (.reg (.op .p (.op (.ld (.int .i64)) (.op .p (.op (.ld (.int .i64)) (.op .p (.op (.ld (.int .i64)) (.op (.r .slice) (.op (.cl []) .nil))))))))))] (.rg 2)))), .reg (.op (.ld .agg) (.op (.r .slice) (.op (.r .slice) (.op (.ld .slice) (.op (.cl [.slice]) (.pp 2 .nil))))))] .leaf) Tryz.func35 (by kernel_rfl) (by kernel_rfl) h

theorem catalog_reader_snapshot_vc (a0 : Array Value) (w : World) (R : Ending → World → Prop) (h : ∃ g1 w1, (Instr.box 201 (.agg a0)).run Tryz.prog w = .ok (.pointer (some ⟨g1, 0, none⟩)) w1 ∧ (∃ g2 w2, AlQ 89 g2 w1 w2 ∧ (∃ J : Nat → Nat → World → Prop, (∃ S : World → Prop, S w2.drew ∧ (∃ t5b t5o, (∀ w', S w' → LdQ 198 g1 0 (.pointer (some ⟨t5b, t5o, none⟩)) w') ∧ (∃ t9b t9o, (∀ w', S w' → LdQ 198 g1 0 (.pointer (some ⟨t9b, t9o, none⟩)) w') ∧ (∃ t12b t12o, (∀ w', S w' → LdQ 198 g1 0 (.pointer (some ⟨t12b, t12o, none⟩)) w') ∧ (∃ t15b t15o, (∀ w', S w' → LdQ 198 g1 0 (.pointer (some ⟨t15b, t15o, none⟩)) w') ∧ ((Calls Tryz.prog 212 #[(.pointer (some ⟨t5b, t5o, none⟩))] w2.drew fun e6 w3 => ∃ t6a t6n t6c, e6 = .returned (.slice t6a t6n t6c) ∧ (∃ S_1 : World → Prop, (∀ w', S_1 w' → S w') ∧ S_1 w3 ∧ (∃ t7, (∀ w', S_1 w' → (convert 26 9 (.slice t6a t6n t6c)).run Tryz.prog w' = .ok (.string t7) w') ∧ ((Calls Tryz.prog 113 #[(.pointer (some ⟨t9b, t9o, none⟩))] w3 fun e10 w4 => ∃ t10, e10 = .returned (.int .i64 t10) ∧ (∃ S_2 : World → Prop, (∀ w', S_2 w' → S_1 w') ∧ S_2 w4 ∧ ((Calls Tryz.prog 114 #[(.pointer (some ⟨t12b, t12o, none⟩))] w4 fun e13 w5 => ∃ t13, e13 = .returned (.int .i64 t13) ∧ (∃ S_3 : World → Prop, (∀ w', S_3 w' → S_2 w') ∧ S_3 w5 ∧ ((Calls Tryz.prog 114 #[(.pointer (some ⟨t15b, t15o, none⟩))] w5 fun e16 w6 => ∃ t16, e16 = .returned (.int .i64 t16) ∧ (∃ S_4 : World → Prop, (∀ w', S_4 w' → S_3 w') ∧ S_4 w6 ∧ (∃ t17, (∀ w', S_4 w' → (Instr.build 89 #[(0, (.string t7)), (1, (.int .i64 t10)), (2, (.int .i64 t13)), (3, (.int .i64 t16))]).run Tryz.prog w' = .ok (.agg t17) w') ∧ (∃ g3 w7, AlQ 89 g3 w6 w7 ∧ (∃ S_5 : World → Prop, (∀ w', S_5 w' → S_4 w') ∧ S_5 w7 ∧ (∃ w8, StQ 89 g3 0 (.agg t17) w7 w8 ∧ (J g3 0 w8))))))) ∧ (∃ g3 w9, AlQ 89 g3 w5 w9 ∧ (∃ S_4 : World → Prop, (∀ w', S_4 w' → S_3 w') ∧ S_4 w9 ∧ (Calls Tryz.prog 114 #[(.pointer (some ⟨t15b, t15o, none⟩))] w9 fun e16 w10 => ∃ t16, e16 = .returned (.int .i64 t16) ∧ (∃ S_5 : World → Prop, (∀ w', S_5 w' → S_4 w') ∧ S_5 w10 ∧ (∃ t17, (∀ w', S_5 w' → (Instr.build 89 #[(0, (.string t7)), (1, (.int .i64 t10)), (2, (.int .i64 t13)), (3, (.int .i64 t16))]).run Tryz.prog w' = .ok (.agg t17) w') ∧ (∃ w11, StQ 89 g3 0 (.agg t17) w10 w11 ∧ (J g3 0 w11)))))))))) ∧ (∃ g3 w12, AlQ 89 g3 w4 w12 ∧ (∃ S_3 : World → Prop, (∀ w', S_3 w' → S_2 w') ∧ S_3 w12 ∧ (Calls Tryz.prog 114 #[(.pointer (some ⟨t12b, t12o, none⟩))] w12 fun e13 w13 => ∃ t13, e13 = .returned (.int .i64 t13) ∧ (∃ S_4 : World → Prop, (∀ w', S_4 w' → S_3 w') ∧ S_4 w13 ∧ (Calls Tryz.prog 114 #[(.pointer (some ⟨t15b, t15o, none⟩))] w13 fun e16 w14 => ∃ t16, e16 = .returned (.int .i64 t16) ∧ (∃ S_5 : World → Prop, (∀ w', S_5 w' → S_4 w') ∧ S_5 w14 ∧ (∃ t17, (∀ w', S_5 w' → (Instr.build 89 #[(0, (.string t7)), (1, (.int .i64 t10)), (2, (.int .i64 t13)), (3, (.int .i64 t16))]).run Tryz.prog w' = .ok (.agg t17) w') ∧ (∃ w15, StQ 89 g3 0 (.agg t17) w14 w15 ∧ (J g3 0 w15)))))))))))) ∧ (∃ g3 w16, AlQ 89 g3 w3 w16 ∧ (∃ S_2 : World → Prop, (∀ w', S_2 w' → S_1 w') ∧ S_2 w16 ∧ (Calls Tryz.prog 113 #[(.pointer (some ⟨t9b, t9o, none⟩))] w16 fun e10 w17 => ∃ t10, e10 = .returned (.int .i64 t10) ∧ (∃ S_3 : World → Prop, (∀ w', S_3 w' → S_2 w') ∧ S_3 w17 ∧ (Calls Tryz.prog 114 #[(.pointer (some ⟨t12b, t12o, none⟩))] w17 fun e13 w18 => ∃ t13, e13 = .returned (.int .i64 t13) ∧ (∃ S_4 : World → Prop, (∀ w', S_4 w' → S_3 w') ∧ S_4 w18 ∧ (Calls Tryz.prog 114 #[(.pointer (some ⟨t15b, t15o, none⟩))] w18 fun e16 w19 => ∃ t16, e16 = .returned (.int .i64 t16) ∧ (∃ S_5 : World → Prop, (∀ w', S_5 w' → S_4 w') ∧ S_5 w19 ∧ (∃ t17, (∀ w', S_5 w' → (Instr.build 89 #[(0, (.string t7)), (1, (.int .i64 t10)), (2, (.int .i64 t13)), (3, (.int .i64 t16))]).run Tryz.prog w' = .ok (.agg t17) w') ∧ (∃ w20, StQ 89 g3 0 (.agg t17) w19 w20 ∧ (J g3 0 w20))))))))))))))) ∧ (∃ g3 w21, AlQ 89 g3 w2.drew w21 ∧ (∃ S_1 : World → Prop, (∀ w', S_1 w' → S w') ∧ S_1 w21 ∧ (Calls Tryz.prog 212 #[(.pointer (some ⟨t5b, t5o, none⟩))] w21 fun e6 w22 => ∃ t6a t6n t6c, e6 = .returned (.slice t6a t6n t6c) ∧ (∃ S_2 : World → Prop, (∀ w', S_2 w' → S_1 w') ∧ S_2 w22 ∧ (∃ t7, (∀ w', S_2 w' → (convert 26 9 (.slice t6a t6n t6c)).run Tryz.prog w' = .ok (.string t7) w') ∧ (Calls Tryz.prog 113 #[(.pointer (some ⟨t9b, t9o, none⟩))] w22 fun e10 w23 => ∃ t10, e10 = .returned (.int .i64 t10) ∧ (∃ S_3 : World → Prop, (∀ w', S_3 w' → S_2 w') ∧ S_3 w23 ∧ (Calls Tryz.prog 114 #[(.pointer (some ⟨t12b, t12o, none⟩))] w23 fun e13 w24 => ∃ t13, e13 = .returned (.int .i64 t13) ∧ (∃ S_4 : World → Prop, (∀ w', S_4 w' → S_3 w') ∧ S_4 w24 ∧ (Calls Tryz.prog 114 #[(.pointer (some ⟨t15b, t15o, none⟩))] w24 fun e16 w25 => ∃ t16, e16 = .returned (.int .i64 t16) ∧ (∃ S_5 : World → Prop, (∀ w', S_5 w' → S_4 w') ∧ S_5 w25 ∧ (∃ t17, (∀ w', S_5 w' → (Instr.build 89 #[(0, (.string t7)), (1, (.int .i64 t10)), (2, (.int .i64 t13)), (3, (.int .i64 t16))]).run Tryz.prog w' = .ok (.agg t17) w') ∧ (∃ w26, StQ 89 g3 0 (.agg t17) w25 w26 ∧ (J g3 0 w26)))))))))))))))))))) ∧ (∀ x3b x3o, ∀ w27, J x3b x3o w27 → (∃ S_6 : World → Prop, S_6 w27.drew ∧ (0 ≤ (32 : Int) ∧ (32 : Int) ≤ (32 : Int) ∧ (∃ t21b t21o, (∀ w', S_6 w' → LdQ 198 g1 0 (.pointer (some ⟨t21b, t21o, none⟩)) w') ∧ (Calls Tryz.prog 213 #[(.pointer (some ⟨t21b, t21o, none⟩)), (.int .i64 32)] w27.drew fun e22 w28 => ∃ t22a t22n t22c, e22 = .returned (.slice t22a t22n t22c) ∧ (∃ S_7 : World → Prop, (∀ w', S_7 w' → S_6 w') ∧ S_7 w28 ∧ (∃ t23 w29, (Builtin.copy_ #[26, 26] 3 #[(.slice (some ⟨x3b, x3o + 4, none⟩) (32) 32), (.slice t22a t22n t22c)]).run Tryz.prog w28 = .ok (.int .i64 t23) w29 ∧ (∃ S_8 : World → Prop, (∀ w', S_8 w' → S_7 w') ∧ S_8 w29 ∧ (∃ t24, LdQ 89 x3b x3o (.agg t24) w29 ∧ (∃ w30, StQ 89 g2 0 (.agg t24) w29 w30 ∧ (∃ r2, (loadVar 89 ⟨g2, 0, none⟩).run Tryz.prog w30 = .ok r2 w30 ∧ (R (.returned r2) w30))))))))))))))) : Calls Tryz.prog 116 #[(.agg a0)] w R := calls_of_ev2 (tc := .sq [.reg (.op .bx (.op .bx .nil)), .join (lr [(3, 15)]) [3] [.ptr] (.drawS (.tks [0, 4, 7, 10] (.ts 1 .ptr (.ts 5 .ptr (.ts 8 .ptr (.ts 11 .ptr (.two 2 (.cl [.slice]) (.ts 3 .str (.two 6 (.cl [.int .i64]) (.two 9 (.cl [.int .i64]) (.two 12 (.cl [.int .i64]) (.ts 13 .agg (.go 14 .bx (.go 15 .u .nil))) 14 .bx (.go 12 (.cl [.int .i64]) (.ts 13 .agg (.go 15 .u .nil)))) 14 .bx (.go 9 (.cl [.int .i64]) (.go 12 (.cl [.int .i64]) (.ts 13 .agg (.go 15 .u .nil))))) 14 .bx (.go 6 (.cl [.int .i64]) (.go 9 (.cl [.int .i64]) (.go 12 (.cl [.int .i64]) (.ts 13 .agg (.go 15 .u .nil))))))) 14 .bx (.go 2 (.cl [.slice]) (.ts 3 .str (.go 6 (.cl [.int .i64]) (.go 9 (.cl [.int .i64]) (.go 12 (.cl [.int .i64]) (.ts 13 .agg (.go 15 .u .nil))))))))))))) [15]), .drawS (.tk 0 .p (.tk 1 .sl (.tk 2 .p (.ts 3 .ptr (.go 4 (.cl [.slice]) (.go 5 (.r (.int .i64)) .nil)))))) [], .reg (.op (.ld .agg) (.op .u .nil))] .leaf) Tryz.func116 (by kernel_rfl) (by kernel_rfl) h

theorem catalog_Decode_vc (a0 : Array Value) (a1a : Option Addr) (a1n : Nat) (a1c : Nat) (w : World) (R : Ending → World → Prop) (h : ∃ g2 w1, (Instr.box 41 (.agg a0)).run Tryz.prog w = .ok (.pointer (some ⟨g2, 0, none⟩)) w1 ∧ (∃ g4 w2, AlQ 47 g4 w1 w2 ∧ (∃ t13, LdQ 41 g2 0 (.agg t13) w2 ∧ (∃ t14a t14n t14c w3, (Instr.buildSlice 26 7 #[(0, (.int .u8 99)), (1, (.int .u8 97)), (2, (.int .u8 116)), (3, (.int .u8 97)), (4, (.int .u8 108)), (5, (.int .u8 111)), (6, (.int .u8 103))]).run Tryz.prog w2 = .ok (.slice t14a t14n t14c) w3 ∧ (∃ t15a t15n t15c w4, (convert 26 26 (.slice t14a t14n t14c)).run Tryz.prog w3 = .ok (.slice t15a t15n t15c) w4 ∧ (Calls Tryz.prog 111 #[(.agg t13), (.int .u8 4), (.slice t15a t15n t15c), (.slice a1a a1n a1c)] w4 fun e17 w5 => ∃ t17_0a t17_0n t17_0c t17_1, e17 = .returned (.tuple #[(.slice t17_0a t17_0n t17_0c), t17_1]) ∧ (∃ t21, (eqlS .neq 58 (.tmp 20) (.const .nilIface) t17_1 .nilIface).run Tryz.prog w5 = .ok (.bool t21) w5 ∧ ((t21 = true → (∃ t22, (Instr.build 47 #[]).run Tryz.prog w5 = .ok (.agg t22) w5 ∧ (∃ w6, StQ 47 g4 0 (.agg t22) w5 w6 ∧ (∃ r4, (loadVar 47 ⟨g4, 0, none⟩).run Tryz.prog w6 = .ok r4 w6 ∧ (R (.returned (.tuple #[r4, t17_1])) w6))))) ∧ (t21 = false → (Calls Tryz.prog 112 #[(.slice t17_0a t17_0n t17_0c)] w5 fun e25 w7 => ∃ t25b t25o, e25 = .returned (.pointer (some ⟨t25b, t25o, none⟩)) ∧ (∃ t26, (Instr.build 201 #[(0, (.pointer (some ⟨t25b, t25o, none⟩)))]).run Tryz.prog w7 = .ok (.agg t26) w7 ∧ (∃ g8 w8, AlQ 201 g8 w7 w8 ∧ (∃ w9, StQ 201 g8 0 (.agg t26) w8 w9 ∧ (∃ J : Nat → Nat → World → Prop, (∃ S : World → Prop, S w9.drew ∧ (∃ t28b t28o, (∀ w', S w' → LdQ 198 g8 0 (.pointer (some ⟨t28b, t28o, none⟩)) w') ∧ (∃ t31b t31o, (∀ w', S w' → LdQ 198 g8 0 (.pointer (some ⟨t31b, t31o, none⟩)) w') ∧ ((Calls Tryz.prog 113 #[(.pointer (some ⟨t28b, t28o, none⟩))] w9.drew fun e29 w10 => ∃ t29, e29 = .returned (.int .i64 t29) ∧ (∃ S_1 : World → Prop, (∀ w', S_1 w' → S w') ∧ S_1 w10 ∧ ((Calls Tryz.prog 113 #[(.pointer (some ⟨t31b, t31o, none⟩))] w10 fun e32 w11 => ∃ t32, e32 = .returned (.int .i64 t32) ∧ (∃ S_2 : World → Prop, (∀ w', S_2 w' → S_1 w') ∧ S_2 w11 ∧ (∃ t33, (∀ w', S_2 w' → (Instr.build 47 #[(0, (.int .i64 t29)), (1, (.int .i64 t32))]).run Tryz.prog w' = .ok (.agg t33) w') ∧ (∃ g9 w12, AlQ 47 g9 w11 w12 ∧ (∃ S_3 : World → Prop, (∀ w', S_3 w' → S_2 w') ∧ S_3 w12 ∧ (∃ w13, StQ 47 g9 0 (.agg t33) w12 w13 ∧ (J g9 0 w13))))))) ∧ (∃ g9 w14, AlQ 47 g9 w10 w14 ∧ (∃ S_2 : World → Prop, (∀ w', S_2 w' → S_1 w') ∧ S_2 w14 ∧ (Calls Tryz.prog 113 #[(.pointer (some ⟨t31b, t31o, none⟩))] w14 fun e32 w15 => ∃ t32, e32 = .returned (.int .i64 t32) ∧ (∃ S_3 : World → Prop, (∀ w', S_3 w' → S_2 w') ∧ S_3 w15 ∧ (∃ t33, (∀ w', S_3 w' → (Instr.build 47 #[(0, (.int .i64 t29)), (1, (.int .i64 t32))]).run Tryz.prog w' = .ok (.agg t33) w') ∧ (∃ w16, StQ 47 g9 0 (.agg t33) w15 w16 ∧ (J g9 0 w16)))))))))) ∧ (∃ g9 w17, AlQ 47 g9 w9.drew w17 ∧ (∃ S_1 : World → Prop, (∀ w', S_1 w' → S w') ∧ S_1 w17 ∧ (Calls Tryz.prog 113 #[(.pointer (some ⟨t28b, t28o, none⟩))] w17 fun e29 w18 => ∃ t29, e29 = .returned (.int .i64 t29) ∧ (∃ S_2 : World → Prop, (∀ w', S_2 w' → S_1 w') ∧ S_2 w18 ∧ (Calls Tryz.prog 113 #[(.pointer (some ⟨t31b, t31o, none⟩))] w18 fun e32 w19 => ∃ t32, e32 = .returned (.int .i64 t32) ∧ (∃ S_3 : World → Prop, (∀ w', S_3 w' → S_2 w') ∧ S_3 w19 ∧ (∃ t33, (∀ w', S_3 w' → (Instr.build 47 #[(0, (.int .i64 t29)), (1, (.int .i64 t32))]).run Tryz.prog w' = .ok (.agg t33) w') ∧ (∃ w20, StQ 47 g9 0 (.agg t33) w19 w20 ∧ (J g9 0 w20))))))))))))) ∧ (∀ x9b x9o, ∀ w21, J x9b x9o w21 → (∃ S_4 : World → Prop, S_4 w21.drew ∧ (∃ t35b t35o, (∀ w', S_4 w' → LdQ 198 g8 0 (.pointer (some ⟨t35b, t35o, none⟩)) w') ∧ (∃ t39b t39o, (∀ w', S_4 w' → LdQ 198 g8 0 (.pointer (some ⟨t39b, t39o, none⟩)) w') ∧ (∃ t42b t42o, (∀ w', S_4 w' → LdQ 198 g8 0 (.pointer (some ⟨t42b, t42o, none⟩)) w') ∧ (∃ t45b t45o, (∀ w', S_4 w' → LdQ 198 g8 0 (.pointer (some ⟨t45b, t45o, none⟩)) w') ∧ (∃ t48b t48o, (∀ w', S_4 w' → LdQ 198 g8 0 (.pointer (some ⟨t48b, t48o, none⟩)) w') ∧ (Calls Tryz.prog 113 #[(.pointer (some ⟨t35b, t35o, none⟩))] w21.drew fun e36 w22 => ∃ t36, e36 = .returned (.int .i64 t36) ∧ (∃ S_5 : World → Prop, (∀ w', S_5 w' → S_4 w') ∧ S_5 w22 ∧ (Calls Tryz.prog 114 #[(.pointer (some ⟨t39b, t39o, none⟩))] w22 fun e40 w23 => ∃ t40, e40 = .returned (.int .i64 t40) ∧ (∃ S_6 : World → Prop, (∀ w', S_6 w' → S_5 w') ∧ S_6 w23 ∧ (Calls Tryz.prog 114 #[(.pointer (some ⟨t42b, t42o, none⟩))] w23 fun e43 w24 => ∃ t43, e43 = .returned (.int .i64 t43) ∧ (∃ S_7 : World → Prop, (∀ w', S_7 w' → S_6 w') ∧ S_7 w24 ∧ (Calls Tryz.prog 114 #[(.pointer (some ⟨t45b, t45o, none⟩))] w24 fun e46 w25 => ∃ t46, e46 = .returned (.int .i64 t46) ∧ (∃ S_8 : World → Prop, (∀ w', S_8 w' → S_7 w') ∧ S_8 w25 ∧ (Calls Tryz.prog 114 #[(.pointer (some ⟨t48b, t48o, none⟩))] w25 fun e49 w26 => ∃ t49, e49 = .returned (.int .i64 t49) ∧ (∃ S_9 : World → Prop, (∀ w', S_9 w' → S_8 w') ∧ S_9 w26 ∧ (∃ t50, (∀ w', S_9 w' → (Instr.build 44 #[(0, (.int .u64 (IntKind.wrap .u64 t36))), (1, (.int .i64 t40)), (2, (.int .i64 t43)), (3, (.int .i64 t46)), (4, (.int .i64 t49))]).run Tryz.prog w' = .ok (.agg t50) w') ∧ (∃ w27, StQ 44 x9b (x9o + 2) (.agg t50) w26 w27 ∧ (∃ t53b t53o, LdQ 198 g8 0 (.pointer (some ⟨t53b, t53o, none⟩)) w27 ∧ (Calls Tryz.prog 114 #[(.pointer (some ⟨t53b, t53o, none⟩))] w27 fun e54 w28 => ∃ t54, e54 = .returned (.int .i64 t54) ∧ (∃ (I : Int → World → Prop) (μ : Int → World → Nat), I t54 w28 ∧ (∀ x10, ∀ w29, I x10 w29 → (∃ J_1 : Bool → World → Prop, ((decide (x10 > (0 : Int)) = true → (∃ t59b t59o, LdQ 198 g8 0 (.pointer (some ⟨t59b, t59o, none⟩)) w29 ∧ (Calls Tryz.prog 115 #[(.pointer (some ⟨t59b, t59o, none⟩))] w29 fun e60 w30 => ∃ t60, e60 = .returned t60 ∧ (∃ t61, (eqlS .eql 58 (.tmp 60) (.const .nilIface) t60 .nilIface).run Tryz.prog w30 = .ok (.bool t61) w30 ∧ (J_1 t61 w30))))) ∧ (decide (x10 > (0 : Int)) = false → (J_1 false w29))) ∧ (∀ x62, ∀ w31, J_1 x62 w31 → ((x62 = true → (∃ S_10 : World → Prop, S_10 w31.drew ∧ (∃ t66a t66n t66c, (∀ w', S_10 w' → LdQ 25 x9b (x9o + 7) (.slice t66a t66n t66c) w') ∧ (∃ t67, (∀ w', S_10 w' → LdQ 201 g8 0 (.agg t67) w') ∧ (Calls Tryz.prog 116 #[(.agg t67)] w31.drew fun e68 w32 => ∃ t68, e68 = .returned (.agg t68) ∧ (∃ S_11 : World → Prop, (∀ w', S_11 w' → S_10 w') ∧ S_11 w32 ∧ (∃ t69a t69n t69c w33, (Instr.buildSlice 25 1 #[(0, (.agg t68))]).run Tryz.prog w32 = .ok (.slice t69a t69n t69c) w33 ∧ (∃ S_12 : World → Prop, (∀ w', S_12 w' → S_11 w') ∧ S_12 w33 ∧ (∃ t70a t70n t70c w34, (Builtin.append_ #[25, 25] 25 #[(.slice t66a t66n t66c), (.slice t69a t69n t69c)]).run Tryz.prog w33 = .ok (.slice t70a t70n t70c) w34 ∧ (∃ S_13 : World → Prop, (∀ w', S_13 w' → S_12 w') ∧ S_13 w34 ∧ (∃ w35, StQ 25 x9b (x9o + 7) (.slice t70a t70n t70c) w34 w35 ∧ (I (IntKind.wrap .i64 (x10 - (1 : Int))) w35 ∧ μ (IntKind.wrap .i64 (x10 - (1 : Int))) w35 < μ x10 w29)))))))))))) ∧ (x62 = false → (∃ t73b t73o, LdQ 198 g8 0 (.pointer (some ⟨t73b, t73o, none⟩)) w31 ∧ (Calls Tryz.prog 114 #[(.pointer (some ⟨t73b, t73o, none⟩))] w31 fun e74 w36 => ∃ t74, e74 = .returned (.int .i64 t74) ∧ (∃ (I_1 : Int → World → Prop) (μ_1 : Int → World → Nat), I_1 t74 w36 ∧ (∀ x11, ∀ w37, I_1 x11 w37 → (∃ J_2 : Bool → World → Prop, ((decide (x11 > (0 : Int)) = true → (∃ t79b t79o, LdQ 198 g8 0 (.pointer (some ⟨t79b, t79o, none⟩)) w37 ∧ (Calls Tryz.prog 115 #[(.pointer (some ⟨t79b, t79o, none⟩))] w37 fun e80 w38 => ∃ t80, e80 = .returned t80 ∧ (∃ t81, (eqlS .eql 58 (.tmp 80) (.const .nilIface) t80 .nilIface).run Tryz.prog w38 = .ok (.bool t81) w38 ∧ (J_2 t81 w38))))) ∧ (decide (x11 > (0 : Int)) = false → (J_2 false w37))) ∧ (∀ x82, ∀ w39, J_2 x82 w39 → ((x82 = true → (∃ S_10 : World → Prop, S_10 w39.drew ∧ (∃ t86a t86n t86c, (∀ w', S_10 w' → LdQ 45 x9b (x9o + 8) (.slice t86a t86n t86c) w') ∧ (∃ t88b t88o, (∀ w', S_10 w' → LdQ 198 g8 0 (.pointer (some ⟨t88b, t88o, none⟩)) w') ∧ (∃ t91b t91o, (∀ w', S_10 w' → LdQ 198 g8 0 (.pointer (some ⟨t91b, t91o, none⟩)) w') ∧ (∃ t94b t94o, (∀ w', S_10 w' → LdQ 198 g8 0 (.pointer (some ⟨t94b, t94o, none⟩)) w') ∧ (Calls Tryz.prog 114 #[(.pointer (some ⟨t88b, t88o, none⟩))] w39.drew fun e89 w40 => ∃ t89, e89 = .returned (.int .i64 t89) ∧ (∃ S_11 : World → Prop, (∀ w', S_11 w' → S_10 w') ∧ S_11 w40 ∧ (Calls Tryz.prog 114 #[(.pointer (some ⟨t91b, t91o, none⟩))] w40 fun e92 w41 => ∃ t92, e92 = .returned (.int .i64 t92) ∧ (∃ S_12 : World → Prop, (∀ w', S_12 w' → S_11 w') ∧ S_12 w41 ∧ (Calls Tryz.prog 114 #[(.pointer (some ⟨t94b, t94o, none⟩))] w41 fun e95 w42 => ∃ t95, e95 = .returned (.int .i64 t95) ∧ (∃ S_13 : World → Prop, (∀ w', S_13 w' → S_12 w') ∧ S_13 w42 ∧ (∃ t96, (∀ w', S_13 w' → (Instr.build 91 #[(0, (.int .i64 t89)), (1, (.int .i64 t92)), (2, (.int .i64 t95))]).run Tryz.prog w' = .ok (.agg t96) w') ∧ (∃ t97a t97n t97c w43, (Instr.buildSlice 45 1 #[(0, (.agg t96))]).run Tryz.prog w42 = .ok (.slice t97a t97n t97c) w43 ∧ (∃ S_14 : World → Prop, (∀ w', S_14 w' → S_13 w') ∧ S_14 w43 ∧ (∃ t98a t98n t98c w44, (Builtin.append_ #[45, 45] 45 #[(.slice t86a t86n t86c), (.slice t97a t97n t97c)]).run Tryz.prog w43 = .ok (.slice t98a t98n t98c) w44 ∧ (∃ S_15 : World → Prop, (∀ w', S_15 w' → S_14 w') ∧ S_15 w44 ∧ (∃ w45, StQ 45 x9b (x9o + 8) (.slice t98a t98n t98c) w44 w45 ∧ (I_1 (IntKind.wrap .i64 (x11 - (1 : Int))) w45 ∧ μ_1 (IntKind.wrap .i64 (x11 - (1 : Int))) w45 < μ_1 x11 w37))))))))))))))))))) ∧ (x82 = false → (∃ J_3 : Bool → World → Prop, (∃ t101b t101o, LdQ 198 g8 0 (.pointer (some ⟨t101b, t101o, none⟩)) w39 ∧ (Calls Tryz.prog 117 #[(.pointer (some ⟨t101b, t101o, none⟩))] w39 fun e102 w46 => ∃ t102, e102 = .returned t102 ∧ (∃ t103, (eqlS .neq 58 (.tmp 102) (.const .nilIface) t102 .nilIface).run Tryz.prog w46 = .ok (.bool t103) w46 ∧ ((t103 = true → (J_3 true w46)) ∧ (t103 = false → (∃ t105, LdQ 47 x9b x9o (.agg t105) w46 ∧ (Calls Tryz.prog 38 #[(.agg t105)] w46 fun e106 w47 => ∃ t106, e106 = .returned t106 ∧ (∃ t107, (eqlS .neq 58 (.tmp 106) (.const .nilIface) t106 .nilIface).run Tryz.prog w47 = .ok (.bool t107) w47 ∧ (J_3 t107 w47))))))))) ∧ (∀ x108, ∀ w48, J_3 x108 w48 → ((x108 = true → (∃ t109, (Instr.build 47 #[]).run Tryz.prog w48 = .ok (.agg t109) w48 ∧ (∃ w49, StQ 47 g4 0 (.agg t109) w48 w49 ∧ (∃ r4, (loadVar 47 ⟨g4, 0, none⟩).run Tryz.prog w49 = .ok r4 w49 ∧ (R (.returned (.tuple #[r4, (.iface 65 (.int .i64 10))])) w49))))) ∧ (x108 = false → (∃ t111, LdQ 47 x9b x9o (.agg t111) w48 ∧ (∃ w50, StQ 47 g4 0 (.agg t111) w48 w50 ∧ (∃ r4, (loadVar 47 ⟨g4, 0, none⟩).run Tryz.prog w50 = .ok r4 w50 ∧ (R (.returned (.tuple #[r4, .nilIface])) w50))))))))))))))))))))))))))))))))))))))))))))))))))))))))) : Calls Tryz.prog 41 #[(.agg a0), (.slice a1a a1n a1c)] w R := calls_of_ev2 (tc := .sq [.reg (.op .bx (.op .bx (.op .p .nil))), .reg (.op (.ld .agg) (.op (.r .slice) (.op (.r .slice) (.op .p (.op (.cl [.slice, .val]) (.pp 5 .nil)))))), .seq (.reg (.op .p (.op (.ld .bool) .nil))) (.cond (.seq (.reg (.op (.ld .agg) (.op .p (.op .u (.op .p .nil))))) .leaf) .leaf), .reg (.op .p (.op (.cl [.ptr]) (.op (.ld .agg) (.op .bx (.op .u .nil))))), .join (lr [(9, 1), (27, 7)]) [9] [.ptr] (.drawS (.tks [0, 3] (.ts 1 .ptr (.ts 4 .ptr (.two 2 (.cl [.int .i64]) (.two 5 (.cl [.int .i64]) (.ts 6 .agg (.go 7 .bx (.go 8 .u .nil))) 7 .bx (.go 5 (.cl [.int .i64]) (.ts 6 .agg (.go 8 .u .nil)))) 7 .bx (.go 2 (.cl [.int .i64]) (.go 5 (.cl [.int .i64]) (.ts 6 .agg (.go 8 .u .nil)))))))) [8]), .drawS (.tks [0, 4, 7, 10, 13] (.ts 1 .ptr (.ts 5 .ptr (.ts 8 .ptr (.ts 11 .ptr (.ts 14 .ptr (.go 2 (.cl [.int .i64]) (.tk 3 .p (.go 6 (.cl [.int .i64]) (.go 9 (.cl [.int .i64]) (.go 12 (.cl [.int .i64]) (.go 15 (.cl [.int .i64]) (.ts 16 .agg (.tk 17 .p (.go 18 .u .nil))))))))))))))) [18], .seq (.reg (.op .p (.op (.ld .ptr) (.op (.cl [.int .i64]) (.op .p .nil))))) (.blk (.loop (lr [(10, 1), (55, 17)]) [10] [.int .i64] (.sq [.seq (.join (lr [(55, 8)]) [62] [.bool] (.reg (.pp 3 (.sp 57 (.op .p (.op (.ld .ptr) (.op (.cl [.val]) (.op (.ld .bool) (.op .p .nil))))) (.pp 5 .nil))))) (.cond .leaf .leaf), .blk (.drawS (.tk 0 .p (.ts 1 .slice (.ts 2 .agg (.go 3 (.cl [.agg]) (.go 4 (.r .slice) (.go 5 (.r .slice) (.tk 6 .p (.go 7 .u .nil)))))))) [7])] (.rg 3)))), .seq (.reg (.op .p (.op (.ld .ptr) (.op (.cl [.int .i64]) (.op .p .nil))))) (.blk (.loop (lr [(11, 1), (75, 25)]) [11] [.int .i64] (.sq [.seq (.join (lr [(75, 8)]) [82] [.bool] (.reg (.pp 3 (.sp 77 (.op .p (.op (.ld .ptr) (.op (.cl [.val]) (.op (.ld .bool) (.op .p .nil))))) (.pp 5 .nil))))) (.cond .leaf .leaf), .blk (.drawS (.tks [0, 2, 5, 8] (.ts 1 .slice (.ts 3 .ptr (.ts 6 .ptr (.ts 9 .ptr (.go 4 (.cl [.int .i64]) (.go 7 (.cl [.int .i64]) (.go 10 (.cl [.int .i64]) (.ts 11 .agg (.go 12 (.r .slice) (.go 13 (.r .slice) (.tk 14 .p (.go 15 .u .nil))))))))))))) [15])] (.rg 3)))), .seq (.join (lr [(100, 9)]) [108] [.bool] (.reg (.op .p (.op (.ld .ptr) (.op (.cl [.val]) (.op (.ld .bool) (.op .p (.sp 104 (.pp 4 .nil) (.op (.ld .agg) (.op (.cl [.val]) (.op (.ld .bool) (.op .p .nil)))))))))))) (.cond (.seq (.reg (.op (.ld .agg) (.op .p (.op .u (.op .p .nil))))) .leaf) .leaf), .reg (.op (.ld .agg) (.op .u (.op .p .nil)))] .leaf) Tryz.func41 (by kernel_rfl) (by kernel_rfl) h

theorem catalog_Name_vc (a0 : Int) (w : World) (R : Ending → World → Prop) (h : (((decide (a0 < (1 : Int))) || (decide (a0 > (1099511627776 : Int)))) = true → (R (.returned (.string (ByteArray.mk #[]))) w)) ∧ (((decide (a0 < (1 : Int))) || (decide (a0 > (1099511627776 : Int)))) = false → (Calls Tryz.prog 95 #[(.int .i64 a0)] w fun e10 w1 => ∃ t10, e10 = .returned (.string t10) ∧ (∃ t11, (eqlS .add 9 (.const (.string (ByteArray.mk #[99]))) (.tmp 10) (.string (ByteArray.mk #[99])) (.string t10)).run Tryz.prog w1 = .ok (.string t11) w1 ∧ (R (.returned (.string t11)) w1))))) : Calls Tryz.prog 30 #[(.int .i64 a0)] w R := calls_of_ev2 (tc := .sq [.rg 1, .seq (.reg (.pp 3 (.ap 2 .nil))) (.cond (.seq (.rg 1) .leaf) .leaf), .reg (.op .p (.op (.cl [.str]) (.op (.ld .str) (.op .p .nil))))] .leaf) Tryz.func30 (by kernel_rfl) (by kernel_rfl) h

theorem catalog_Gen_vc (a0 : ByteArray) (w : World) (R : Ending → World → Prop) (h : ((a0.toList == (ByteArray.mk #[]).toList) = true → (R (.returned (.tuple #[(.int .i64 0), (.bool false)])) w)) ∧ ((a0.toList == (ByteArray.mk #[]).toList) = false → (0 ≤ (1 : Int) ∧ (1 : Int) ≤ (a0.size : Int) ∧ (Calls Tryz.prog 94 #[(.string (a0.extract (Int.toNat (1 : Int)) a0.size))] w fun e11 w1 => ∃ t11_0 t11_1, e11 = .returned (.tuple #[(.int .i64 t11_0), t11_1]) ∧ (∃ J : Bool → World → Prop, (∃ t15, (eqlS .neq 58 (.tmp 14) (.const .nilIface) t11_1 .nilIface).run Tryz.prog w1 = .ok (.bool t15) w1 ∧ ((t15 = true → (J true w1)) ∧ (t15 = false → (Calls Tryz.prog 30 #[(.int .i64 t11_0)] w1 fun e18 w2 => ∃ t18, e18 = .returned (.string t18) ∧ (J (!(t18.toList == a0.toList)) w2))))) ∧ (∀ x21, ∀ w3, J x21 w3 → ((x21 = true → (R (.returned (.tuple #[(.int .i64 0), (.bool false)])) w3)) ∧ (x21 = false → (R (.returned (.tuple #[(.int .i64 t11_0), (.bool true)])) w3))))))))) : Calls Tryz.prog 26 #[(.string a0)] w R := calls_of_ev2 (tc := .sq [.rg 2, .seq (.rg 2) (.cond (.seq (.rg 2) .leaf) .leaf), .reg (.op .p (.op .sl (.op (.cl [.int .i64, .val]) (.pp 5 .nil)))), .seq (.join (lr [(14, 8)]) [21] [.bool] (.reg (.op .p (.op (.ld .bool) (.op .p (.sp 16 (.pp 5 .nil) (.op .p (.op (.cl [.str]) (.pp 3 .nil))))))))) (.cond (.seq (.rg 2) .leaf) .leaf), .rg 3] .leaf) Tryz.func26 (by kernel_rfl) (by kernel_rfl) h

theorem catalog_Load_vc (a0b : Nat) (a0o : Nat) (a1 : Array Value) (w : World) (R : Ending → World → Prop) (h : ∃ g3 w1, (Instr.box 41 (.agg a1)).run Tryz.prog w = .ok (.pointer (some ⟨g3, 0, none⟩)) w1 ∧ (∃ g4 w2, AlQ 47 g4 w1 w2 ∧ (Calls Tryz.prog 64 #[(.pointer (some ⟨a0b, a0o, none⟩))] w2 fun e17 w3 => ∃ t17, e17 = .returned (.bool t17) ∧ ((t17 = true → (∃ t18, (Instr.build 47 #[]).run Tryz.prog w3 = .ok (.agg t18) w3 ∧ (∃ w4, StQ 47 g4 0 (.agg t18) w3 w4 ∧ (∃ r4, (loadVar 47 ⟨g4, 0, none⟩).run Tryz.prog w4 = .ok r4 w4 ∧ (R (.returned (.tuple #[r4, (.iface 65 (.int .i64 1))])) w4))))) ∧ (t17 = false → (∃ t20, (Instr.build 47 #[]).run Tryz.prog w3 = .ok (.agg t20) w3 ∧ (∃ g6 w5, AlQ 47 g6 w3 w5 ∧ (∃ w6, StQ 47 g6 0 (.agg t20) w5 w6 ∧ (Calls Tryz.prog 80 #[(.pointer (some ⟨a0b, a0o, none⟩))] w6 fun e22 w7 => ∃ t22a t22n t22c, e22 = .returned (.slice t22a t22n t22c) ∧ (∃ (I : Int → Int → World → Prop) (μ : Int → Int → World → Nat), I 21 0 w7 ∧ (∀ x7 x24, ∀ w8, I x7 x24 w8 → ((decide (x24 < (t22n : Int)) = true → (∃ t26b t26o, t22a = some ⟨t26b, t26o, none⟩ ∧ 0 ≤ x24 ∧ x24 < (t22n : Int) ∧ (∃ t27, LdQ 9 t26b (t26o + Int.toNat x24 * 1) (.string t27) w8 ∧ (Calls Tryz.prog 26 #[(.string t27)] w8 fun e30 w9 => ∃ t30_0 t30_1, e30 = .returned (.tuple #[(.int .i64 t30_0), (.bool t30_1)]) ∧ (((!t30_1) = true → (I x7 (IntKind.wrap .i64 (x24 + 1)) w9 ∧ μ x7 (IntKind.wrap .i64 (x24 + 1)) w9 < μ x7 x24 w8)) ∧ ((!t30_1) = false → (∃ J : Int → World → Prop, (((x7 == (21 : Int)) = true → (J 10 w9)) ∧ ((x7 == (21 : Int)) = false → (J x7 w9))) ∧ (∀ x7_1, ∀ w10, J x7_1 w10 → (Calls Tryz.prog 57 #[(.pointer (some ⟨a0b, a0o, none⟩)), (.string t27)] w10 fun e40 w11 => ∃ t40_0a t40_0n t40_0c t40_1, e40 = .returned (.tuple #[(.slice t40_0a t40_0n t40_0c), t40_1]) ∧ (∃ t44, (eqlS .neq 58 (.tmp 43) (.const .nilIface) t40_1 .nilIface).run Tryz.prog w11 = .ok (.bool t44) w11 ∧ ((t44 = true → (∃ t45, (Instr.build 47 #[]).run Tryz.prog w11 = .ok (.agg t45) w11 ∧ (∃ w12, StQ 47 g4 0 (.agg t45) w11 w12 ∧ (∃ r4, (loadVar 47 ⟨g4, 0, none⟩).run Tryz.prog w12 = .ok r4 w12 ∧ (R (.returned (.tuple #[r4, t40_1])) w12))))) ∧ (t44 = false → (∃ t48, LdQ 41 g3 0 (.agg t48) w11 ∧ (Calls Tryz.prog 41 #[(.agg t48), (.slice t40_0a t40_0n t40_0c)] w11 fun e50 w13 => ∃ t50_0 t50_1, e50 = .returned (.tuple #[(.agg t50_0), t50_1]) ∧ (∃ g14 w14, AlQ 47 g14 w13 w14 ∧ (∃ w15, StQ 47 g14 0 (.agg t50_0) w14 w15 ∧ (∃ J_1 : Bool → World → Prop, (∃ t54, (eqlS .eql 58 (.tmp 53) (.const .nilIface) t50_1 .nilIface).run Tryz.prog w15 = .ok (.bool t54) w15 ∧ ((t54 = true → (∃ t57, LdQ 3 g14 0 (.int .i64 t57) w15 ∧ (((t57 == t30_0) = true → (∃ t64, LdQ 3 g6 0 (.int .i64 t64) w15 ∧ (J_1 (decide (t30_0 > t64)) w15))) ∧ ((t57 == t30_0) = false → (J_1 false w15))))) ∧ (t54 = false → (J_1 false w15)))) ∧ (∀ x66, ∀ w16, J_1 x66 w16 → (∃ J_2 : World → Prop, ((x66 = true → (∃ t67, LdQ 47 g14 0 (.agg t67) w16 ∧ (∃ w17, StQ 47 g6 0 (.agg t67) w16 w17 ∧ (J_2  w17)))) ∧ (x66 = false → (J_2  w16))) ∧ (∀ w18, J_2  w18 → (I x7_1 (IntKind.wrap .i64 (x24 + 1)) w18 ∧ μ x7_1 (IntKind.wrap .i64 (x24 + 1)) w18 < μ x7 x24 w8))))))))))))))))))))) ∧ (decide (x24 < (t22n : Int)) = false → (∃ t70, LdQ 3 g6 0 (.int .i64 t70) w8 ∧ (((t70 == (0 : Int)) = true → (∃ t72, LdQ 47 g6 0 (.agg t72) w8 ∧ (∃ w19, StQ 47 g4 0 (.agg t72) w8 w19 ∧ (∃ r4, (loadVar 47 ⟨g4, 0, none⟩).run Tryz.prog w19 = .ok r4 w19 ∧ (R (.returned (.tuple #[r4, (.iface 65 (.int .i64 x7))])) w19))))) ∧ ((t70 == (0 : Int)) = false → (∃ t75, LdQ 47 g6 0 (.agg t75) w8 ∧ (∃ w20, StQ 47 g4 0 (.agg t75) w8 w20 ∧ (∃ r4, (loadVar 47 ⟨g4, 0, none⟩).run Tryz.prog w20 = .ok r4 w20 ∧ (R (.returned (.tuple #[r4, .nilIface])) w20)))))))))))))))))))) : Calls Tryz.prog 91 #[(.pointer (some ⟨a0b, a0o, none⟩)), (.agg a1)] w R := calls_of_ev2 (tc := .sq [.reg (.op .bx (.op .bx (.op .p .nil))), .seq (.reg (.op .p (.op (.cl [.bool]) .nil))) (.cond (.seq (.reg (.op (.ld .agg) (.op .p (.op .u (.op .p .nil))))) .leaf) .leaf), .reg (.op (.ld .agg) (.op .bx (.op .u (.op .p .nil)))), .seq (.reg (.op .p (.op (.cl [.slice]) (.pp 2 .nil)))) (.blk (.loop (lr [(5, 1), (7, 1), (9, 7), (24, 45)]) [7, 24] [.int .i64, .int .i64] (.sq [.rg 1, .cond .leaf .leaf, .blk (.sq [.reg (.op .ix (.op (.ld .str) (.op .p .nil))), .reg (.op .p (.op (.cl [.int .i64, .bool]) (.pp 5 .nil))), .seq (.rg 2) (.cond .leaf .leaf), .seq (.rg 2) (.join [7] [7] [.int .i64] (.cond (.rg 1) .leaf)), .reg (.pp 2 (.op (.cl [.slice, .val]) (.pp 5 .nil))), .seq (.reg (.op .p (.op (.ld .bool) .nil))) (.cond (.seq (.reg (.op (.ld .agg) (.op .p (.op .u (.op .p .nil))))) .leaf) .leaf), .reg (.op (.ld .agg) (.op .p (.op (.cl [.agg, .val]) (.pp 3 (.op .bx (.op .u (.op .p .nil))))))), .join (lr [(53, 14)]) [66] [.bool] (.reg (.op .p (.op (.ld .bool) (.op .p (.sp 55 (.op .p (.op (.ld (.int .i64)) (.pp 4 (.sp 61 (.pp 2 (.op (.ld (.int .i64)) (.pp 2 .nil))) (.pp 5 .nil))))) (.pp 11 .nil))))))] (.join [67] [] [] (.cond (.reg (.op (.ld .agg) (.op .u .nil))) .leaf)))] (.rg 2)))), .seq (.reg (.op .p (.op (.ld (.int .i64)) (.op .p .nil)))) (.cond (.seq (.reg (.op (.ld .agg) (.pp 2 (.op .u (.op .p .nil))))) .leaf) .leaf), .reg (.op (.ld .agg) (.op .u (.op .p .nil)))] .leaf) Tryz.func91 (by kernel_rfl) (by kernel_rfl) h

theorem catalog_undo_vc (a0b : Nat) (a0o : Nat) (a1 : ByteArray) (a2 : Value) (w : World) (R : Ending → World → Prop) (h : ∃ g3 w1, (Instr.box 51 (.pointer (some ⟨a0b, a0o, none⟩))).run Tryz.prog w = .ok (.pointer (some ⟨g3, 0, none⟩)) w1 ∧ (∃ g4 w2, (Instr.box 9 (.string a1)).run Tryz.prog w1 = .ok (.pointer (some ⟨g4, 0, none⟩)) w2 ∧ (∃ t10 w3, (Instr.makeFunc (.func 262) #[] #[(.pointer (some ⟨g3, 0, none⟩)), (.pointer (some ⟨g4, 0, none⟩))]).run Tryz.prog w2 = .ok t10 w3 ∧ (∃ t11b t11o, LdQ 51 g3 0 (.pointer (some ⟨t11b, t11o, none⟩)) w3 ∧ (∃ t12 w4, (Instr.makeFunc (.func 84) #[(.pointer (some ⟨t11b, t11o, none⟩))] #[]).run Tryz.prog w3 = .ok t12 w4 ∧ (∃ t13, (Instr.build 355 #[(0, t10), (1, t12)]).run Tryz.prog w4 = .ok (.agg t13) w4 ∧ (∃ (I : Int → World → Prop) (μ : Int → World → Nat), I 0 w4 ∧ (∀ x14, ∀ w5, I x14 w5 → ((decide (x14 < (2 : Int)) = true → (∃ t16, (Instr.index 355 (.agg t13) (.int .i64 x14)).run Tryz.prog w5 = .ok t16 w5 ∧ (∃ (f18 : Nat) (pr18 cb18 : List Value), t16 = .func (.func f18) ⟨pr18⟩ ⟨cb18⟩ ∧ goesIn Tryz.prog f18 = true ∧ Calls Tryz.prog f18 (pr18 ++ ([] : List Value) ++ cb18).toArray w5 fun e18 w6 => ∃ t18, e18 = .returned t18 ∧ (Calls Tryz.prog 90 #[t18, (.iface 65 (.int .i64 1))] w6 fun e21 w7 => ∃ t21, e21 = .returned (.bool t21) ∧ ((t21 = true → (R (.returned t18) w7)) ∧ (t21 = false → (∃ t24, (eqlS .neq 58 (.tmp 23) (.const .nilIface) t18 .nilIface).run Tryz.prog w7 = .ok (.bool t24) w7 ∧ ((t24 = true → (R (.returned (.iface 65 (.int .i64 22))) w7)) ∧ (t24 = false → (I (IntKind.wrap .i64 (x14 + 1)) w7 ∧ μ (IntKind.wrap .i64 (x14 + 1)) w7 < μ x14 w5)))))))))) ∧ (decide (x14 < (2 : Int)) = false → (R (.returned a2) w5))))))))))) : Calls Tryz.prog 191 #[(.pointer (some ⟨a0b, a0o, none⟩)), (.string a1), a2] w R := calls_of_ev2 (tc := .sq [.reg (.op .bx (.op .bx (.op .p .nil))), .seq (.reg (.op (.r .val) (.op (.ld .ptr) (.op (.r .val) (.op (.ld .agg) (.op .p .nil)))))) (.blk (.loop (lr [(6, 1), (8, 2), (14, 13)]) [14] [.int .i64] (.sq [.rg 1, .cond .leaf .leaf, .blk (.sq [.reg (.op (.ld .val) (.op .p .nil)), .reg (.op .p (.op (.cm [.val]) (.op .p .nil))), .reg (.pp 2 (.op (.cl [.bool]) .nil))] (.cond (.seq (.rg 2) .leaf) (.seq (.reg (.op .p (.op (.ld .bool) .nil))) (.cond (.seq (.rg 2) .leaf) .leaf))))] (.rg 2)))), .rg 2] .leaf) Tryz.func191 (by kernel_rfl) (by kernel_rfl) h

theorem catalog_undo_1_vc (a0b : Nat) (a0o : Nat) (a1b : Nat) (a1o : Nat) (w : World) (R : Ending → World → Prop) (h : ∃ t3b t3o, LdQ 51 a0b a0o (.pointer (some ⟨t3b, t3o, none⟩)) w ∧ (∃ t4, LdQ 9 a1b a1o (.string t4) w ∧ (Calls Tryz.prog 89 #[(.pointer (some ⟨t3b, t3o, none⟩)), (.string t4)] w fun e5 w1 => ∃ t5, e5 = .returned t5 ∧ (R (.returned t5) w1)))) : Calls Tryz.prog 262 #[(.pointer (some ⟨a0b, a0o, none⟩)), (.pointer (some ⟨a1b, a1o, none⟩))] w R := calls_of_ev2 (tc := .sq [.rg 1, .reg (.op (.ld .ptr) (.op (.ld .str) (.op (.cl [.val]) (.op .p .nil))))] .leaf) Tryz.func262 (by kernel_rfl) (by kernel_rfl) h

theorem catalog_Commit_vc (a0b : Nat) (a0o : Nat) (a1 : Array Value) (a2 : Array Value) (w : World) (R : Ending → World → Prop) (h : ∃ g3 w1, (Instr.box 51 (.pointer (some ⟨a0b, a0o, none⟩))).run Tryz.prog w = .ok (.pointer (some ⟨g3, 0, none⟩)) w1 ∧ (∃ g4 w2, (Instr.box 41 (.agg a1)).run Tryz.prog w1 = .ok (.pointer (some ⟨g4, 0, none⟩)) w2 ∧ (∃ g5 w3, (Instr.box 47 (.agg a2)).run Tryz.prog w2 = .ok (.pointer (some ⟨g5, 0, none⟩)) w3 ∧ (∃ t15, LdQ 41 g4 0 (.agg t15) w3 ∧ (∃ t16, LdQ 47 g5 0 (.agg t16) w3 ∧ (Calls Tryz.prog 35 #[(.agg t15), (.agg t16)] w3 fun e17 w4 => ∃ t17_0a t17_0n t17_0c t17_1, e17 = .returned (.tuple #[(.slice t17_0a t17_0n t17_0c), t17_1]) ∧ (∃ g7 w5, AlQ 26 g7 w4 w5 ∧ (∃ w6, StQ 26 g7 0 (.slice t17_0a t17_0n t17_0c) w5 w6 ∧ (∃ t21, (eqlS .neq 58 (.tmp 20) (.const .nilIface) t17_1 .nilIface).run Tryz.prog w6 = .ok (.bool t21) w6 ∧ ((t21 = true → (R (.returned t17_1) w6)) ∧ (t21 = false → (∃ t23b t23o, LdQ 51 g3 0 (.pointer (some ⟨t23b, t23o, none⟩)) w6 ∧ (Calls Tryz.prog 80 #[(.pointer (some ⟨t23b, t23o, none⟩))] w6 fun e24 w7 => ∃ t24a t24n t24c, e24 = .returned (.slice t24a t24n t24c) ∧ (Calls Tryz.prog 88 #[(.slice t24a t24n t24c), (.string (ByteArray.mk #[116]))] w7 fun e25 w8 => ∃ t25, e25 = .returned (.bool t25) ∧ (∃ J : World → Prop, ((t25 = true → (∃ t26b t26o, LdQ 51 g3 0 (.pointer (some ⟨t26b, t26o, none⟩)) w8 ∧ (Calls Tryz.prog 89 #[(.pointer (some ⟨t26b, t26o, none⟩)), (.string (ByteArray.mk #[116]))] w8 fun e27 w9 => ∃ t27, e27 = .returned t27 ∧ (∃ t29, (eqlS .neq 58 (.tmp 28) (.const .nilIface) t27 .nilIface).run Tryz.prog w9 = .ok (.bool t29) w9 ∧ ((t29 = true → (R (.returned t27) w9)) ∧ (t29 = false → (J  w9))))))) ∧ (t25 = false → (J  w8))) ∧ (∀ w10, J  w10 → (∃ t32, LdQ 3 g5 0 (.int .i64 t32) w10 ∧ (Calls Tryz.prog 30 #[(.int .i64 t32)] w10 fun e33 w11 => ∃ t33, e33 = .returned (.string t33) ∧ (∃ g10 w12, AlQ 9 g10 w11 w12 ∧ (∃ w13, StQ 9 g10 0 (.string t33) w12 w13 ∧ (∃ t34 w14, (Instr.makeFunc (.func 186) #[] #[(.pointer (some ⟨g3, 0, none⟩))]).run Tryz.prog w13 = .ok t34 w14 ∧ (∃ t35 w15, (Instr.makeFunc (.func 187) #[] #[(.pointer (some ⟨g3, 0, none⟩)), (.pointer (some ⟨g7, 0, none⟩))]).run Tryz.prog w14 = .ok t35 w15 ∧ (∃ t36 w16, (Instr.makeFunc (.func 188) #[] #[(.pointer (some ⟨g3, 0, none⟩))]).run Tryz.prog w15 = .ok t36 w16 ∧ (∃ t37b t37o, LdQ 51 g3 0 (.pointer (some ⟨t37b, t37o, none⟩)) w16 ∧ (∃ t38 w17, (Instr.makeFunc (.func 84) #[(.pointer (some ⟨t37b, t37o, none⟩))] #[]).run Tryz.prog w16 = .ok t38 w17 ∧ (∃ t39 w18, (Instr.makeFunc (.func 189) #[] #[(.pointer (some ⟨g3, 0, none⟩)), (.pointer (some ⟨g10, 0, none⟩))]).run Tryz.prog w17 = .ok t39 w18 ∧ (∃ t40, (Instr.build 279 #[(0, t34), (1, t35), (2, t36), (3, t38), (4, t39)]).run Tryz.prog w18 = .ok (.agg t40) w18 ∧ (∃ (I : Int → World → Prop) (μ : Int → World → Nat), I 0 w18 ∧ (∀ x41, ∀ w19, I x41 w19 → ((decide (x41 < (5 : Int)) = true → (∃ t43, (Instr.index 279 (.agg t40) (.int .i64 x41)).run Tryz.prog w19 = .ok t43 w19 ∧ (∃ (f45 : Nat) (pr45 cb45 : List Value), t43 = .func (.func f45) ⟨pr45⟩ ⟨cb45⟩ ∧ goesIn Tryz.prog f45 = true ∧ Calls Tryz.prog f45 (pr45 ++ ([] : List Value) ++ cb45).toArray w19 fun e45 w20 => ∃ t45, e45 = .returned t45 ∧ (∃ t47, (eqlS .neq 58 (.tmp 46) (.const .nilIface) t45 .nilIface).run Tryz.prog w20 = .ok (.bool t47) w20 ∧ ((t47 = true → (R (.returned t45) w20)) ∧ (t47 = false → (I (IntKind.wrap .i64 (x41 + 1)) w20 ∧ μ (IntKind.wrap .i64 (x41 + 1)) w20 < μ x41 w19))))))) ∧ (decide (x41 < (5 : Int)) = false → (∃ t50b t50o, LdQ 51 g3 0 (.pointer (some ⟨t50b, t50o, none⟩)) w19 ∧ (Calls Tryz.prog 84 #[(.pointer (some ⟨t50b, t50o, none⟩))] w19 fun e51 w21 => ∃ t51, e51 = .returned t51 ∧ (∃ J_1 : Bool → World → Prop, (∃ t53, (eqlS .eql 58 (.tmp 52) (.const .nilIface) t51 .nilIface).run Tryz.prog w21 = .ok (.bool t53) w21 ∧ ((t53 = true → (J_1 true w21)) ∧ (t53 = false → (Calls Tryz.prog 90 #[t51, (.iface 65 (.int .i64 1))] w21 fun e57 w22 => ∃ t57, e57 = .returned (.bool t57) ∧ (J_1 t57 w22))))) ∧ (∀ x58, ∀ w23, J_1 x58 w23 → ((x58 = true → (R (.returned t51) w23)) ∧ (x58 = false → (∃ t60b t60o, LdQ 51 g3 0 (.pointer (some ⟨t60b, t60o, none⟩)) w23 ∧ (∃ t61, LdQ 9 g10 0 (.string t61) w23 ∧ (Calls Tryz.prog 191 #[(.pointer (some ⟨t60b, t60o, none⟩)), (.string t61), t51] w23 fun e63 w24 => ∃ t63, e63 = .returned t63 ∧ (R (.returned t63) w24))))))))))))))))))))))))))))))))))))))))) : Calls Tryz.prog 92 #[(.pointer (some ⟨a0b, a0o, none⟩)), (.agg a1), (.agg a2)] w R := calls_of_ev2 (tc := .sq [.reg (.op .bx (.op .bx (.op .bx (.op .p .nil)))), .reg (.op (.ld .agg) (.op (.ld .agg) (.op (.cl [.slice, .val]) (.pp 3 (.op .bx (.op .u (.op .p .nil))))))), .seq (.reg (.op .p (.op (.ld .bool) .nil))) (.cond (.seq (.rg 2) .leaf) .leaf), .seq (.reg (.op (.ld .ptr) (.op (.cl [.slice]) (.op (.cl [.bool]) .nil)))) (.join [6, 9, 26, 27, 28, 29, 30] [] [] (.cond (.sq [.reg (.op (.ld .ptr) (.op (.cl [.val]) (.op .p .nil))), .reg (.op .p (.op (.ld .bool) .nil))] (.cond (.seq (.rg 2) .leaf) .leaf)) .leaf)), .reg (.op .p (.op (.ld (.int .i64)) (.op (.cl [.str]) (.op .bx (.op .u .nil))))), .seq (.reg (.op (.r .val) (.op (.r .val) (.op (.r .val) (.op (.ld .ptr) (.op (.r .val) (.op (.r .val) (.op (.ld .agg) (.op .p .nil))))))))) (.blk (.loop (lr [(6, 1), (12, 2), (41, 9)]) [41] [.int .i64] (.sq [.rg 1, .cond .leaf .leaf, .blk (.sq [.reg (.op (.ld .val) (.op .p .nil)), .reg (.op .p (.op (.cm [.val]) (.op .p .nil))), .reg (.op .p (.op (.ld .bool) .nil))] (.cond (.seq (.rg 2) .leaf) .leaf))] (.rg 2)))), .reg (.op (.ld .ptr) (.op (.cl [.val]) (.op .p .nil))), .seq (.join (lr [(52, 7)]) [58] [.bool] (.reg (.op .p (.op (.ld .bool) (.op .p (.sp 54 (.pp 4 .nil) (.pp 2 (.op (.cl [.bool]) (.op .p .nil))))))))) (.cond (.seq (.rg 2) .leaf) .leaf), .reg (.op (.ld .ptr) (.op (.ld .str) (.op .p (.op (.cl [.val]) (.op .p .nil)))))] .leaf) Tryz.func92 (by kernel_rfl) (by kernel_rfl) h

theorem catalog_Commit_1_vc (a0b : Nat) (a0o : Nat) (w : World) (R : Ending → World → Prop) (h : ∃ t2b t2o, LdQ 51 a0b a0o (.pointer (some ⟨t2b, t2o, none⟩)) w ∧ (Calls Tryz.prog 144 #[(.pointer (some ⟨t2b, t2o, none⟩)), (.string (ByteArray.mk #[116]))] w fun e3 w1 => ∃ t3, e3 = .returned t3 ∧ (R (.returned t3) w1))) : Calls Tryz.prog 186 #[(.pointer (some ⟨a0b, a0o, none⟩))] w R := calls_of_ev2 (tc := .sq [.rg 1, .reg (.op (.ld .ptr) (.op (.cl [.val]) (.op .p .nil)))] .leaf) Tryz.func186 (by kernel_rfl) (by kernel_rfl) h

theorem catalog_Commit_2_vc (a0b : Nat) (a0o : Nat) (a1b : Nat) (a1o : Nat) (w : World) (R : Ending → World → Prop) (h : ∃ t3b t3o, LdQ 51 a0b a0o (.pointer (some ⟨t3b, t3o, none⟩)) w ∧ (∃ t4a t4n t4c, LdQ 26 a1b a1o (.slice t4a t4n t4c) w ∧ (∃ t5a t5n t5c w1, (Instr.buildSlice 24 1 #[(0, (.slice t4a t4n t4c))]).run Tryz.prog w = .ok (.slice t5a t5n t5c) w1 ∧ (Calls Tryz.prog 145 #[(.pointer (some ⟨t3b, t3o, none⟩)), (.string (ByteArray.mk #[116])), (.slice t5a t5n t5c)] w1 fun e6 w2 => ∃ t6, e6 = .returned t6 ∧ (R (.returned t6) w2))))) : Calls Tryz.prog 187 #[(.pointer (some ⟨a0b, a0o, none⟩)), (.pointer (some ⟨a1b, a1o, none⟩))] w R := calls_of_ev2 (tc := .sq [.rg 1, .reg (.op (.ld .ptr) (.op (.ld .slice) (.op (.r .slice) (.op (.cl [.val]) (.op .p .nil)))))] .leaf) Tryz.func187 (by kernel_rfl) (by kernel_rfl) h

theorem catalog_Commit_3_vc (a0b : Nat) (a0o : Nat) (w : World) (R : Ending → World → Prop) (h : ∃ t2b t2o, LdQ 51 a0b a0o (.pointer (some ⟨t2b, t2o, none⟩)) w ∧ (Calls Tryz.prog 146 #[(.pointer (some ⟨t2b, t2o, none⟩)), (.string (ByteArray.mk #[116]))] w fun e3 w1 => ∃ t3, e3 = .returned t3 ∧ (R (.returned t3) w1))) : Calls Tryz.prog 188 #[(.pointer (some ⟨a0b, a0o, none⟩))] w R := calls_of_ev2 (tc := .sq [.rg 1, .reg (.op (.ld .ptr) (.op (.cl [.val]) (.op .p .nil)))] .leaf) Tryz.func188 (by kernel_rfl) (by kernel_rfl) h

theorem catalog_Commit_4_vc (a0b : Nat) (a0o : Nat) (a1b : Nat) (a1o : Nat) (w : World) (R : Ending → World → Prop) (h : ∃ t3b t3o, LdQ 51 a0b a0o (.pointer (some ⟨t3b, t3o, none⟩)) w ∧ (∃ t4, LdQ 9 a1b a1o (.string t4) w ∧ (Calls Tryz.prog 190 #[(.pointer (some ⟨t3b, t3o, none⟩)), (.string (ByteArray.mk #[116])), (.string t4)] w fun e5 w1 => ∃ t5, e5 = .returned t5 ∧ (R (.returned t5) w1)))) : Calls Tryz.prog 189 #[(.pointer (some ⟨a0b, a0o, none⟩)), (.pointer (some ⟨a1b, a1o, none⟩))] w R := calls_of_ev2 (tc := .sq [.rg 1, .reg (.op (.ld .ptr) (.op (.ld .str) (.op (.cl [.val]) (.op .p .nil))))] .leaf) Tryz.func189 (by kernel_rfl) (by kernel_rfl) h

theorem slices_Contains_string_string_vc (a0a : Option Addr) (a0n : Nat) (a0c : Nat) (a1 : ByteArray) (w : World) (R : Ending → World → Prop) (h : Calls Tryz.prog 183 #[(.slice a0a a0n a0c), (.string a1)] w fun e7 w1 => ∃ t7, e7 = .returned (.int .i64 t7) ∧ (R (.returned (.bool (decide (t7 ≥ (0 : Int))))) w1)) : Calls Tryz.prog 88 #[(.slice a0a a0n a0c), (.string a1)] w R := calls_of_ev2 (tc := .sq [.rg 1, .reg (.pp 2 (.op (.cl [.int .i64]) (.pp 2 .nil)))] .leaf) Tryz.func88 (by kernel_rfl) (by kernel_rfl) h

theorem slices_Index_string_string_vc (a0a : Option Addr) (a0n : Nat) (a0c : Nat) (a1 : ByteArray) (w : World) (R : Ending → World → Prop) (h : ∃ (I : Int → World → Prop) (μ : Int → World → Nat), I 0 w ∧ (∀ x8, ∀ w1, I x8 w1 → ((decide (x8 < (a0n : Int)) = true → (∃ t14b t14o, a0a = some ⟨t14b, t14o, none⟩ ∧ 0 ≤ x8 ∧ x8 < (a0n : Int) ∧ (∃ t15, LdQ 9 t14b (t14o + Int.toNat x8 * 1) (.string t15) w1 ∧ (((a1.toList == t15.toList) = true → (R (.returned (.int .i64 x8)) w1)) ∧ ((a1.toList == t15.toList) = false → (I (IntKind.wrap .i64 (x8 + 1)) w1 ∧ μ (IntKind.wrap .i64 (x8 + 1)) w1 < μ x8 w1)))))) ∧ (decide (x8 < (a0n : Int)) = false → (R (.returned (.int .i64 (-1))) w1))))) : Calls Tryz.prog 183 #[(.slice a0a a0n a0c), (.string a1)] w R := calls_of_ev2 (tc := .sq [.rg 1, .seq (.rg 3) (.blk (.loop (lr [(4, 2), (8, 11)]) [8] [.int .i64] (.sq [.rg 1, .cond .leaf .leaf, .blk (.sq [.rg 2, .reg (.pp 3 (.op .ix (.op (.ld .str) (.op .p .nil))))] (.cond (.seq (.rg 2) .leaf) .leaf))] (.rg 2)))), .rg 1] .leaf) Tryz.func183 (by kernel_rfl) (by kernel_rfl) h

end Go.Proofs.YtpmhjnhgpplmnaaGreatDoor
end

section
namespace Go.Proofs.YtpmhjnhgpplmnaaGreatDoor
open Go Go.Proofs.YtpmhjnhgpplmnaaGreatDoor.Sx

set_option maxRecDepth 100000
theorem amphoraref16_GoodName_vc (a0 : ByteArray) (w : World) (R : Ending → World → Prop) (h : ∃ (I : Int → World → Prop) (μ : Int → World → Nat), I 0 w ∧ (∀ x3, ∀ w1, I x3 w1 → ((decide (x3 < (a0.size : Int)) = true → (∃ J : Bool → World → Prop, (∃ t12, (Instr.index 9 (.string a0) (.int .i64 x3)).run Tryz.prog w1 = .ok (.int .u8 t12) w1 ∧ ((decide (t12 ≤ (32 : Int)) = true → (J true w1)) ∧ (decide (t12 ≤ (32 : Int)) = false → (∃ t17, (Instr.index 9 (.string a0) (.int .i64 x3)).run Tryz.prog w1 = .ok (.int .u8 t17) w1 ∧ (J (decide (t17 ≥ (127 : Int))) w1))))) ∧ (∀ x19, ∀ w2, J x19 w2 → ((x19 = true → (R (.returned (.bool false)) w2)) ∧ (x19 = false → (I (IntKind.wrap .i64 (x3 + 1)) w2 ∧ μ (IntKind.wrap .i64 (x3 + 1)) w2 < μ x3 w1)))))) ∧ (decide (x3 < (a0.size : Int)) = false → (R (.returned (.bool ((decide ((a0.size : Int) ≥ (1 : Int))) && (decide ((a0.size : Int) ≤ (32 : Int)))))) w1))))) : Calls Tryz.prog 29 #[(.string a0)] w R := calls_of_ev2 (tc := .sq [.rg 1, .seq (.rg 1) (.blk (.loop (lr [(2, 18)]) [3] [.int .i64] (.sq [.seq (.rg 4) (.cond .leaf .leaf), .blk (.seq (.join (lr [(10, 10)]) [19] [.bool] (.reg (.pp 2 (.op (.ld (.int .u8)) (.pp 2 (.sp 14 (.pp 5 .nil) (.pp 2 (.op (.ld (.int .u8)) (.pp 2 .nil))))))))) (.cond (.seq (.rg 1) .leaf) .leaf))] (.rg 3)))), .reg (.pp 4 (.ap 3 (.op .p .nil)))] .leaf) Tryz.func29 (by kernel_rfl) (by kernel_rfl) h

theorem amphoraref16_Name_vc (a0 : Int) (w : World) (R : Ending → World → Prop) (h : Calls Tryz.prog 96 #[(.int .i64 a0)] w fun e4 w1 => ∃ t4, e4 = .returned (.string t4) ∧ (∃ t5, (eqlS .add 9 (.const (.string (ByteArray.mk #[99]))) (.tmp 4) (.string (ByteArray.mk #[99])) (.string t4)).run Tryz.prog w1 = .ok (.string t5) w1 ∧ (R (.returned (.string t5)) w1))) : Calls Tryz.prog 31 #[(.int .i64 a0)] w R := calls_of_ev2 (tc := .sq [.rg 1, .reg (.op .p (.op (.cl [.str]) (.op (.ld .str) (.op .p .nil))))] .leaf) Tryz.func31 (by kernel_rfl) (by kernel_rfl) h

theorem amphoraref16_Gen_vc (a0 : ByteArray) (w : World) (R : Ending → World → Prop) (h : ∃ J : Bool → World → Prop, ((((decide ((a0.size : Int) < (2 : Int))) || (decide ((a0.size : Int) > (15 : Int)))) = true → (J true w)) ∧ (((decide ((a0.size : Int) < (2 : Int))) || (decide ((a0.size : Int) > (15 : Int)))) = false → (∃ t16, (Instr.index 9 (.string a0) (.int .i64 0)).run Tryz.prog w = .ok (.int .u8 t16) w ∧ (J (t16 != (99 : Int)) w)))) ∧ (∀ x18, ∀ w1, J x18 w1 → ((x18 = true → (R (.returned (.tuple #[(.int .i64 0), (.bool false)])) w1)) ∧ (x18 = false → (∃ (I : Int → Int → World → Prop) (μ : Int → Int → World → Nat), I 0 1 w1 ∧ (∀ x4 x5, ∀ w2, I x4 x5 w2 → ((decide (x5 < (a0.size : Int)) = true → (∃ J_1 : Bool → World → Prop, (∃ t27, (Instr.index 9 (.string a0) (.int .i64 x5)).run Tryz.prog w2 = .ok (.int .u8 t27) w2 ∧ ((decide (t27 < (48 : Int)) = true → (J_1 true w2)) ∧ (decide (t27 < (48 : Int)) = false → (∃ t32, (Instr.index 9 (.string a0) (.int .i64 x5)).run Tryz.prog w2 = .ok (.int .u8 t32) w2 ∧ (J_1 (decide (t32 > (57 : Int))) w2))))) ∧ (∀ x34, ∀ w3, J_1 x34 w3 → ((x34 = true → (R (.returned (.tuple #[(.int .i64 0), (.bool false)])) w3)) ∧ (x34 = false → (∃ t39, (Instr.index 9 (.string a0) (.int .i64 x5)).run Tryz.prog w3 = .ok (.int .u8 t39) w3 ∧ (I (IntKind.wrap .i64 ((IntKind.wrap .i64 ((10 : Int) * x4)) + (IntKind.wrap .i64 (IntKind.wrap .u8 (t39 - (48 : Int)))))) (IntKind.wrap .i64 (x5 + 1)) w3 ∧ μ (IntKind.wrap .i64 ((IntKind.wrap .i64 ((10 : Int) * x4)) + (IntKind.wrap .i64 (IntKind.wrap .u8 (t39 - (48 : Int)))))) (IntKind.wrap .i64 (x5 + 1)) w3 < μ x4 x5 w2))))))) ∧ (decide (x5 < (a0.size : Int)) = false → (∃ J_1 : Bool → World → Prop, ((((decide (x4 < (1 : Int))) || (decide (x4 > (1099511627776 : Int)))) = true → (J_1 true w2)) ∧ (((decide (x4 < (1 : Int))) || (decide (x4 > (1099511627776 : Int)))) = false → (Calls Tryz.prog 31 #[(.int .i64 x4)] w2 fun e51 w4 => ∃ t51, e51 = .returned (.string t51) ∧ (J_1 (!(t51.toList == a0.toList)) w4)))) ∧ (∀ x54, ∀ w5, J_1 x54 w5 → ((x54 = true → (R (.returned (.tuple #[(.int .i64 0), (.bool false)])) w5)) ∧ (x54 = false → (R (.returned (.tuple #[(.int .i64 x4), (.bool true)])) w5))))))))))))) : Calls Tryz.prog 27 #[(.string a0)] w R := calls_of_ev2 (tc := .sq [.rg 2, .rg 1, .seq (.join (lr [(6, 13)]) [18] [.bool] (.reg (.pp 4 (.ap 3 (.op .p (.sp 14 (.pp 4 .nil) (.op .p (.op (.ld (.int .u8)) (.pp 2 .nil))))))))) (.cond (.seq (.rg 2) .leaf) .leaf), .seq (.rg 1) (.blk (.loop (lr [(2, 4), (19, 24)]) [4, 5] [.int .i64, .int .i64] (.sq [.seq (.rg 4) (.cond .leaf .leaf), .blk (.seq (.seq (.join (lr [(25, 10)]) [34] [.bool] (.reg (.pp 2 (.op (.ld (.int .u8)) (.pp 2 (.sp 29 (.pp 5 .nil) (.pp 2 (.op (.ld (.int .u8)) (.pp 2 .nil))))))))) (.cond (.seq (.rg 2) .leaf) .leaf)) (.reg (.pp 4 (.op (.ld (.int .u8)) (.pp 4 .nil)))))] (.rg 3)))), .seq (.join (lr [(43, 12)]) [54] [.bool] (.reg (.pp 3 (.ap 2 (.op .p (.sp 49 (.pp 5 .nil) (.op .p (.op (.cl [.str]) (.pp 3 .nil))))))))) (.cond (.seq (.rg 2) .leaf) .leaf), .rg 3] .leaf) Tryz.func27 (by kernel_rfl) (by kernel_rfl) h

end Go.Proofs.YtpmhjnhgpplmnaaGreatDoor
end

section
namespace Go.Proofs.YtpmhjnhgpplmnaaGreatDoor
open Go Sx
set_option maxRecDepth 8000

def goodG (n : Int) : Bool := decide (1 ≤ n ∧ n ≤ 1099511627776)
theorem goodG_iff {n : Int} : goodG n = true ↔ 1 ≤ n ∧ n ≤ 1099511627776 := by simp [goodG]
theorem extract1c (c : UInt8) (r : List UInt8) : (⟨(c :: r).toArray⟩ : ByteArray).extract 1 (⟨(c :: r).toArray⟩ : ByteArray).size = ⟨r.toArray⟩ := by
 apply ByteArray.ext
 rw [ByteArray.data_extract]
 apply Array.ext'
 have : (⟨(c :: r).toArray⟩ : ByteArray).size = r.length + 1 := by show (c :: r).toArray.size = _; simp
 rw [this]
 simp
theorem sizeSc (l : List UInt8) : ((⟨l.toArray⟩ : ByteArray).size : Int) = (l.length : Int) := by show ((l.toArray.size : Nat) : Int) = _; simp

theorem catname_spec (n : Int) (hb : -9223372036854775808 ≤ n ∧ n ≤ 9223372036854775807) (w : World) (hT : PTab w) : Calls Tryz.prog 30 #[.int .i64 n] w fun e w' => e = .returned (strV (if goodG n then nameD 99 n else [])) ∧ Chg [] w w' := by
 apply catalog_Name_vc
 refine ⟨fun h => ?_, fun h => ?_⟩
 · have : goodG n = false := by
     rw [Bool.eq_false_iff]
     intro hg
     have := goodG_iff.1 hg
     simp at h; omega
   rw [this]; exact ⟨rfl, Chg.refl _ _⟩
 · have hn : 1 ≤ n ∧ n ≤ 1099511627776 := by simp at h; omega
   rw [goodG_iff.2 hn]
   refine (itoa_spec n hb w hT).mono ?_
   rintro e w1 ⟨rfl, c1⟩
   have hl := Lib.itoa_length_le n (by omega) (by omega)
   exact ⟨_, rfl, _, addSL [99] (Lib.itoa n) _ _ w1 (by simp; omega), rfl, c1⟩
theorem catgen_spec (s : List UInt8) (hs : s.length ≤ 281474976710656) (w : World) (hT : PTab w) (hE : EVar w) : Calls Tryz.prog 26 #[strV s] w fun e w' => e = .returned (.tuple #[.int .i64 ((numO 99 1 1099511627776 s).getD 0), .bool (numO 99 1 1099511627776 s).isSome]) ∧ Chg [] w w' := by
 obtain ⟨mI, hI⟩ := eI
 apply catalog_Gen_vc
 rw [emptyS]
 refine ⟨fun h => ?_, fun h => ?_⟩
 · have : s = [] := by simpa using h
   subst this
   exact ⟨rfl, Chg.refl _ _⟩
 cases s with
 | nil => simp at h
 | cons c r =>
 have hx : (⟨(c :: r).toArray⟩ : ByteArray).extract (Int.toNat 1) (⟨(c :: r).toArray⟩ : ByteArray).size = ⟨r.toArray⟩ := extract1c c r
 have hlen : (c :: r).length = r.length + 1 := rfl
 rw [hx]
 refine ⟨by omega, by rw [sizeSc, hlen]; omega, (atoi_spec r (by omega) w hE).mono ?_⟩
 rintro e w1 ⟨c1, ⟨v, hv, rfl⟩ | ⟨hbad, v, t, p, rfl⟩⟩
 · have hvb := Lib.atoiAll_bounds hv
   refine ⟨_, _, rfl, fun x w' => x = !decide (1 ≤ v ∧ v ≤ 1099511627776 ∧ nameD 99 v = c :: r) ∧ Chg [] w w', ⟨_, neqS_nil hI none _ _, fun h => by simp at h, fun _ => (catname_spec v (by omega) w1 (hT.keep0 c1)).mono ?_⟩, ?_⟩
   · rintro e w2 ⟨rfl, c2⟩
     refine ⟨_, rfl, ?_, c1.trans c2⟩
     rw [sameS]
     congr 1
     cases hg : goodG v with
     | true =>
       have := goodG_iff.1 hg
       simp [this.1, this.2]
     | false =>
       have : ¬ (1 ≤ v ∧ v ≤ 1099511627776) := fun h => by rw [goodG_iff.2 h] at hg; cases hg
       simp only [Bool.false_eq_true, if_false]
       have h2 : ¬ (1 ≤ v ∧ v ≤ 1099511627776 ∧ nameD 99 v = c :: r) := fun h => this ⟨h.1, h.2.1⟩
       simp [h2]
   · rintro x w3 ⟨rfl, c3⟩
     have hn : numO 99 1 1099511627776 (c :: r) = if 1 ≤ v ∧ v ≤ 1099511627776 ∧ nameD 99 v = c :: r then some v else none := by unfold numO; simp only [hv]
     refine ⟨fun h => ⟨?_, c3⟩, fun h => ⟨?_, c3⟩⟩
     · have : ¬ (1 ≤ v ∧ v ≤ 1099511627776 ∧ nameD 99 v = c :: r) := of_decide_eq_false (by rwa [Bool.not_eq_true'] at h)
       rw [hn, if_neg this]; rfl
     · have : 1 ≤ v ∧ v ≤ 1099511627776 ∧ nameD 99 v = c :: r := of_decide_eq_true (by rwa [Bool.not_eq_false'] at h)
       rw [hn, if_pos this]; rfl
 · have hn : numO 99 1 1099511627776 (c :: r) = none := by
     unfold numO
     cases ha : Lib.atoiAll r with
     | ok u => exact absurd ha (hbad u)
     | range => simp only [ha]
     | _ => simp only [ha]
   rw [hn]
   refine ⟨_, _, rfl, fun x w' => x = true ∧ w' = w1, ⟨_, neqI_nil hI _ _ _ _, fun _ => ⟨rfl, rfl⟩, fun h => by cases h⟩, ?_⟩
   rintro x w3 ⟨rfl, rfl⟩
   exact ⟨fun _ => ⟨rfl, c1⟩, fun h => (by cases h)⟩

theorem refname16_spec (n : Int) (hn : 0 ≤ n ∧ n ≤ 1099511627776) (w : World) : Calls Tryz.prog 31 #[.int .i64 n] w fun e w' => e = .returned (strV (nameD 99 n)) ∧ Chg [] w w' := by
 obtain ⟨u, rfl⟩ : ∃ u : Nat, n = (u : Int) := ⟨n.toNat, by omega⟩
 apply amphoraref16_Name_vc
 refine (decimal_spec u (by omega) w).mono ?_
 rintro e w1 ⟨rfl, c1⟩
 have hl := dec_len 12 u (by omega)
 refine ⟨_, rfl, _, addSL [99] (Lib.decDigits u) _ _ w1 (by simp; omega), ?_, c1⟩
 rw [nameD, itoa_nat]; rfl
theorem ixS16 {l : List UInt8} {i : Nat} (hi : i < l.length) (w : World) : (Instr.index 9 (.string ⟨l.toArray⟩) (.int .i64 (i : Int))).run Tryz.prog w = .ok (.int .u8 ((l.getD i 0).toNat : Int)) w := by
 have h1 : (⟨l.toArray⟩ : ByteArray)[i]? = some (l.getD i 0) := by
   have h2 : i < (⟨l.toArray⟩ : ByteArray).size := by show i < l.toArray.size; simpa using hi
   rw [getElem?_pos _ i h2]
   show some (l.toArray[i]'(by simpa using hi)) = _
   simp [List.getD, hi]
 have h0 : (0 : Int) ≤ (i : Int) := by omega
 simp only [Instr.index, Sem.run_bind, asIntOf, Sem.run_pure, run_underlying sS, Result.andThen_ok, h0, if_true, Int.toNat_natCast, h1]

theorem refgen_spec (s : List UInt8) (w : World) : Calls Tryz.prog 27 #[strV s] w fun e w' => e = .returned (.tuple #[.int .i64 ((numO 99 1 1099511627776 s).getD 0), .bool (numO 99 1 1099511627776 s).isSome]) ∧ Chg [] w w' := by
 apply amphoraref16_Gen_vc
 rw [sizeSc]
 have bad : ∀ {P : Prop}, P → (∀ v r, 1 ≤ v → v ≤ 1099511627776 → s = 99 :: r → r ≠ [] → r.length ≤ 13 → (∀ b ∈ r, 48 ≤ b.toNat ∧ b.toNat ≤ 57) → (foldD r : Int) = v → P → False) → numO 99 1 1099511627776 s = none := fun {P} hP h => numO_none (by omega) (by omega) fun v h0 h1 he => by
   obtain ⟨r, e1, e2, e3, e4, e5⟩ := nameD_form (c := 99) (by omega) h1
   exact h v r h0 h1 (by rw [← he, e1]) e2 e3 e4 e5 hP
 refine ⟨fun x w' => (x = true → numO 99 1 1099511627776 s = none) ∧ (x = false → 2 ≤ s.length ∧ s.length ≤ 15 ∧ s.head? = some 99) ∧ w' = w, ⟨fun h => ⟨fun _ => ?_, fun h => (by cases h), rfl⟩, fun h => ?_⟩, ?_⟩
 · refine bad h fun v r h0 h1 he hr h13 _ _ hc => ?_
   subst he
   have : 0 < r.length := List.length_pos_iff.2 hr
   simp at hc; omega
 · have h2 : 2 ≤ s.length ∧ s.length ≤ 15 := by simp at h; omega
   refine ⟨_, ixS16 (i := 0) (by omega) w, fun hc => ?_, fun hc => ⟨h2.1, h2.2, ?_⟩, rfl⟩
   · refine bad hc fun v r h0 h1 he hr h13 _ _ hc => ?_
     subst he
     simp [List.getD] at hc
   · cases s with
     | nil => simp at h2
     | cons b r =>
       have : (b.toNat : Int) = 99 := by simpa [List.getD] using hc
       have : b = 99 := UInt8.toNat_inj.1 (by show b.toNat = 99; omega)
       rw [this]; rfl
 rintro x w1 ⟨hx1, hx2, rfl⟩
 refine ⟨fun h => ⟨by rw [hx1 h]; rfl, Chg.refl _ _⟩, fun h => ?_⟩
 obtain ⟨hl2, hl15, hhead⟩ := hx2 h
 cases s with
 | nil => simp at hl2
 | cons b0 r =>
 have hb0 : b0 = 99 := by simpa using hhead
 subst hb0
 have hlen : (99 :: r : List UInt8).length = r.length + 1 := rfl
 refine ⟨fun x i w' => ∃ j : Nat, i = ((j + 1 : Nat) : Int) ∧ j ≤ r.length ∧ x = ((foldD (r.take j) : Nat) : Int) ∧ (∀ b ∈ r.take j, 48 ≤ b.toNat ∧ b.toNat ≤ 57) ∧ w' = w1, fun _ i _ => r.length + 1 - i.toNat, ⟨0, rfl, Nat.zero_le _, by simp [foldD], by simp, rfl⟩, ?_⟩
 rintro x i w2 ⟨j, rfl, hj, rfl, hok, rfl⟩
 have hfl := foldD_lt _ hok
 have hpw : 10 ^ (r.take j).length ≤ 10 ^ 14 := Nat.pow_le_pow_right (by decide) (by rw [List.length_take]; omega)
 have h14 : (10 : Nat) ^ 14 = 100000000000000 := by decide
 have hfb : foldD (r.take j) < 100000000000000 := by omega
 refine ⟨fun hlt => ?_, fun hge => ?_⟩
 · have hj' : j < r.length := by rw [hlen] at hlt; simp at hlt; omega
   have hg : (99 :: r : List UInt8).getD (j + 1) 0 = r.getD j 0 := by simp [List.getD]
   have hrj : r[j]? = some (r.getD j 0) := by simp [List.getD, hj']
   have hix := ixS16 (l := 99 :: r) (i := j + 1) (by rw [hlen]; omega) w2
   rw [hg] at hix
   obtain ⟨b, hbe⟩ : ∃ b, r.getD j 0 = b := ⟨_, rfl⟩
   rw [hbe] at hix hrj
   have hbu := u8_lt b
   have htk : r.take (j + 1) = r.take j ++ [b] := by rw [List.take_add_one, hrj]; rfl
   refine ⟨fun x w' => x = !(decide (48 ≤ b.toNat ∧ b.toNat ≤ 57)) ∧ w' = w2, ⟨_, hix, fun h => ⟨?_, rfl⟩, fun h => ⟨_, hix, ?_, rfl⟩⟩, ?_⟩
   · have : b.toNat < 48 := by simp at h; omega
     simp; omega
   · have h48 : 48 ≤ b.toNat := by simp at h; omega
     by_cases h57 : b.toNat ≤ 57
     · have : ¬ ((b.toNat : Int) > 57) := by omega
       simp [h48, h57, this]
     · have : (b.toNat : Int) > 57 := by omega
       simp [h57, this]
   rintro x w3 ⟨rfl, rfl⟩
   refine ⟨fun hc => ⟨?_, Chg.refl _ _⟩, fun hc => ?_⟩
   · have hnd : ¬ (48 ≤ b.toNat ∧ b.toNat ≤ 57) := of_decide_eq_false (by rwa [Bool.not_eq_true'] at hc)
     have : numO 99 1 1099511627776 (99 :: r) = none := bad hnd fun v r' h0 h1 he hr h13 hd _ hc => by
       injection he with _ he
       subst he
       exact hc (hd b (List.mem_of_getElem? hrj))
     rw [this]; rfl
   · have hd : 48 ≤ b.toNat ∧ b.toNat ≤ 57 := of_decide_eq_true (by rwa [Bool.not_eq_false'] at hc)
     have hw : IntKind.wrap .i64 (IntKind.wrap .i64 (10 * ((foldD (r.take j) : Nat) : Int)) + IntKind.wrap .i64 (IntKind.wrap .u8 ((b.toNat : Int) - 48))) = ((foldD (r.take (j + 1)) : Nat) : Int) := by
       rw [htk, foldD_snoc, wrap_u8, wrap_i64 (n := 10 * _) (by omega) (by omega), wrap_i64 (n := ((b.toNat : Int) - 48) % 256) (by omega) (by omega), wrap_i64 (by omega) (by omega)]
       omega
     refine ⟨_, hix, ?_, ?_⟩
     · refine ⟨j + 1, ?_, by omega, hw, ?_, rfl⟩
       · rw [wrap_i64 (by omega) (by omega)]; omega
       · rw [htk]
         intro u hu
         rcases List.mem_append.1 hu with hu | hu
         · exact hok u hu
         · rw [List.mem_singleton] at hu; rw [hu]; exact hd
     · dsimp only
       rw [wrap_i64 (n := ((j + 1 : Nat) : Int) + 1) (by omega) (by omega)]; omega
 · have hj' : j = r.length := by rw [hlen] at hge; simp at hge; omega
   subst hj'
   rw [List.take_length] at hok hfb ⊢
   obtain ⟨v, hv⟩ : ∃ v : Int, ((foldD r : Nat) : Int) = v := ⟨_, rfl⟩
   have hvb : 0 ≤ v ∧ v < 100000000000000 := by omega
   rw [hv]
   have hiff : (numO 99 1 1099511627776 (99 :: r)).isSome = true → numO 99 1 1099511627776 (99 :: r) = some v := fun h => by
     cases hn : numO 99 1 1099511627776 (99 :: r) with
     | none => rw [hn] at h; cases h
     | some u =>
       obtain ⟨h0, h1, he⟩ := (numO_iff (by omega) (by omega)).1 hn
       obtain ⟨r', e1, _, _, _, e5⟩ := nameD_form (c := 99) (by omega) h1
       rw [e1] at he
       injection he with _ he
       subst he
       rw [← e5, ← hv]
   refine ⟨fun x w' => x = !(decide (numO 99 1 1099511627776 (99 :: r) = some v)) ∧ Chg [] w2 w', ⟨fun h => ⟨?_, Chg.refl _ _⟩, fun h => (refname16_spec v (by simp at h; omega) w2).mono ?_⟩, ?_⟩
   · have hg : ¬ (1 ≤ v ∧ v ≤ 1099511627776) := by simp at h; omega
     have : ¬ numO 99 1 1099511627776 (99 :: r) = some v := fun h => by
       obtain ⟨h0, h1, _⟩ := (numO_iff (by omega) (by omega)).1 h
       exact hg ⟨h0, h1⟩
     simp [this]
   · rintro e w5 ⟨rfl, c5⟩
     refine ⟨_, rfl, ?_, c5⟩
     have hg : 1 ≤ v ∧ v ≤ 1099511627776 := by simp at h; omega
     rw [sameS]
     congr 1
     have : (nameD 99 v = 99 :: r) ↔ numO 99 1 1099511627776 (99 :: r) = some v := by
       rw [numO_iff (by omega) (by omega)]
       exact ⟨fun h => ⟨hg.1, hg.2, h⟩, fun h => h.2.2⟩
     exact decide_eq_decide.2 this
   · rintro x w6 ⟨rfl, c6⟩
     refine ⟨fun h => ⟨?_, c6⟩, fun h => ⟨?_, c6⟩⟩
     · have h1 : ¬ numO 99 1 1099511627776 (99 :: r) = some v := by simpa using h
       have : numO 99 1 1099511627776 (99 :: r) = none := by
         cases hn : numO 99 1 1099511627776 (99 :: r) with
         | none => rfl
         | some u => exact absurd (hiff (by rw [hn]; rfl)) h1
       rw [this]; rfl
     · have h1 : numO 99 1 1099511627776 (99 :: r) = some v := by simpa using h
       rw [h1]; rfl


end Go.Proofs.YtpmhjnhgpplmnaaGreatDoor
end

section
namespace Go.Proofs.YtpmhjnhgpplmnaaGreatDoor.Gf2

def cmul (a b : Nat) : Nat := if h : b = 0 then 0 else (if b % 2 = 1 then a else 0) ^^^ (2 * cmul a (b / 2))
termination_by b
decreasing_by exact Nat.div_lt_self (Nat.pos_of_ne_zero h) (by decide)

theorem half_ind {P : Nat → Prop} (h0 : P 0) (h : ∀ b, b ≠ 0 → P (b / 2) → P b) : ∀ b, P b := fun b => by
 induction b using Nat.strongRecOn with
 | ind b ih =>
   by_cases hb : b = 0
   · rw [hb]; exact h0
   · exact h b hb (ih _ (Nat.div_lt_self (Nat.pos_of_ne_zero hb) (by decide)))

@[simp] theorem cmul_zero (a : Nat) : cmul a 0 = 0 := by rw [cmul]; simp
theorem cmul_step (a b : Nat) : cmul a b = (if b % 2 = 1 then a else 0) ^^^ (2 * cmul a (b / 2)) := by
 by_cases hb : b = 0
 · subst hb; simp
 · rw [cmul, dif_neg hb]
@[simp] theorem cmul_one (a : Nat) : cmul a 1 = a := by rw [cmul_step]; simp
theorem two_xor (x y : Nat) : 2 * (x ^^^ y) = (2 * x) ^^^ (2 * y) := by
 have := Nat.shiftLeft_xor_distrib (a := x) (b := y) (i := 1)
 simpa [Nat.shiftLeft_eq, Nat.mul_comm] using this
theorem cmul_two_right (a b : Nat) : cmul a (2 * b) = 2 * cmul a b := by
 rw [cmul_step]; simp
@[simp] theorem zero_cmul (b : Nat) : cmul 0 b = 0 := by
 induction b using half_ind with
 | h0 => simp
 | h b _ ih => rw [cmul_step, ih]; simp
theorem xor4 (a b c d : Nat) : (a ^^^ b) ^^^ (c ^^^ d) = (a ^^^ c) ^^^ (b ^^^ d) := by
 rw [Nat.xor_assoc, Nat.xor_assoc, ← Nat.xor_assoc b, Nat.xor_comm b c, Nat.xor_assoc]
theorem xor_cmul (a c b : Nat) : cmul (a ^^^ c) b = cmul a b ^^^ cmul c b := by
 induction b using half_ind with
 | h0 => simp
 | h b _ ih =>
   rw [cmul_step (a ^^^ c), cmul_step a, cmul_step c, ih, two_xor, xor4]
   congr 1
   split <;> simp
theorem two_cmul (a b : Nat) : cmul (2 * a) b = 2 * cmul a b := by
 induction b using half_ind with
 | h0 => simp
 | h b _ ih =>
   rw [cmul_step (2 * a), cmul_step a, ih, two_xor]
   congr 1
   split <;> simp
theorem bit_split (b : Nat) : b = (if b % 2 = 1 then 1 else 0) ^^^ (2 * (b / 2)) := by
 refine Nat.eq_of_testBit_eq fun i => ?_
 rw [Nat.testBit_xor]
 cases i with
 | zero =>
   simp only [Nat.testBit_zero]
   rcases Nat.mod_two_eq_zero_or_one b with h | h <;> simp [h]
 | succ i =>
   rw [Nat.testBit_succ, Nat.testBit_succ (2 * (b / 2)), Nat.mul_div_cancel_left _ (by decide : 0 < 2)]
   split <;> simp [Nat.testBit_succ]
theorem cmul_xor (a b c : Nat) : cmul a (b ^^^ c) = cmul a b ^^^ cmul a c := by
 induction b using half_ind generalizing c with
 | h0 => simp
 | h b _ ih =>
   rw [cmul_step a (b ^^^ c), cmul_step a b, cmul_step a c, Nat.xor_div_two, ih, two_xor, xor4]
   congr 1
   have hx : decide ((b ^^^ c) % 2 = 1) = (decide (b % 2 = 1) ^^ decide (c % 2 = 1)) := by
     rw [← Nat.testBit_zero, ← Nat.testBit_zero, ← Nat.testBit_zero, Nat.testBit_xor]
   by_cases h1 : b % 2 = 1 <;> by_cases h2 : c % 2 = 1 <;> simp [h1, h2] at hx <;> simp [h1, h2]
@[simp] theorem one_cmul (b : Nat) : cmul 1 b = b := by
 induction b using half_ind with
 | h0 => simp
 | h b _ ih => rw [cmul_step, ih, ← bit_split]
theorem cmul_comm (a b : Nat) : cmul a b = cmul b a := by
 induction b using half_ind with
 | h0 => simp
 | h b _ ih =>
   rw [cmul_step, ih]
   conv => rhs; rw [bit_split b]
   rw [xor_cmul, two_cmul]
   congr 1
   split <;> simp
theorem cmul_assoc (a b c : Nat) : cmul (cmul a b) c = cmul a (cmul b c) := by
 induction c using half_ind with
 | h0 => simp
 | h c _ ih =>
   rw [cmul_step (cmul a b) c, cmul_step b c, cmul_xor, cmul_two_right, ih]
   congr 1
   split <;> simp

theorem cmul_two_right' (x : Nat) : cmul x 2 = 2 * x := by
 have := cmul_two_right x 1
 simpa using this
theorem xor3 (y b d : Nat) : (y ^^^ b) ^^^ (b ^^^ d) = y ^^^ d := by
 rw [Nat.xor_assoc, ← Nat.xor_assoc b, Nat.xor_self, Nat.zero_xor]
theorem xor5 (a p q c : Nat) : (a ^^^ p) ^^^ c = (a ^^^ (p ^^^ q)) ^^^ (q ^^^ c) := by
 rw [← Nat.xor_assoc a p q, xor3]

def DegIs (a d : Nat) : Prop := 2 ^ d ≤ a ∧ a < 2 ^ (d + 1)
theorem degIs_log {a : Nat} (h : a ≠ 0) : DegIs a a.log2 := ⟨Nat.log2_self_le h, Nat.lt_log2_self⟩
theorem DegIs.ne {a d : Nat} (h : DegIs a d) : a ≠ 0 := by have := Nat.two_pow_pos d; have := h.1; omega
theorem DegIs.uniq {a d e : Nat} (h : DegIs a d) (h' : DegIs a e) : d = e := by
 rcases Nat.lt_trichotomy d e with hl | hl | hl
 · have := Nat.pow_le_pow_right (show 0 < 2 by decide) (show d + 1 ≤ e from hl); have := h.2; have := h'.1; omega
 · exact hl
 · have := Nat.pow_le_pow_right (show 0 < 2 by decide) (show e + 1 ≤ d from hl); have := h'.2; have := h.1; omega
theorem top_bit {a d : Nat} (h : DegIs a d) : a.testBit d = true := by
 rw [Nat.testBit_eq_decide_div_mod_eq]
 have : a / 2 ^ d = 1 := by
   have hp := Nat.two_pow_pos d
   rw [Nat.div_eq_iff hp]
   have := h.1; have := h.2; rw [Nat.pow_succ] at this; omega
 rw [this]; rfl
theorem DegIs.xor_lt {a b d : Nat} (h : DegIs a d) (hb : b < 2 ^ d) : DegIs (a ^^^ b) d := by
 have hb' : b < 2 ^ (d + 1) := by rw [Nat.pow_succ]; omega
 refine ⟨Nat.le_of_not_lt fun hl => ?_, Nat.xor_lt_two_pow h.2 hb'⟩
 have h1 : (a ^^^ b).testBit d = false := Nat.testBit_lt_two_pow hl
 rw [Nat.testBit_xor, top_bit h, Nat.testBit_lt_two_pow hb] at h1
 cases h1
theorem DegIs.xor_same {a b d : Nat} (h : DegIs a d) (hb : DegIs b d) : a ^^^ b < 2 ^ d := by
 refine Nat.lt_pow_two_of_testBit _ fun i hi => ?_
 rw [Nat.testBit_xor]
 by_cases he : i = d
 · subst he; rw [top_bit h, top_bit hb]; rfl
 · have hl : 2 ^ (d + 1) ≤ 2 ^ i := Nat.pow_le_pow_right (by decide) (by omega)
   rw [Nat.testBit_lt_two_pow (Nat.lt_of_lt_of_le h.2 hl), Nat.testBit_lt_two_pow (Nat.lt_of_lt_of_le hb.2 hl)]; rfl
theorem DegIs.cmul {a m : Nat} (ha : DegIs a m) : ∀ (n b : Nat), DegIs b n → DegIs (Gf2.cmul a b) (m + n)
 | 0, b, hb => by
   have : b = 1 := by have := hb.1; have := hb.2; omega
   subst this; simpa using ha
 | n + 1, b, hb => by
   have h2 : DegIs (b / 2) n := by
     have h1 := hb.1; have h2 := hb.2
     rw [Nat.pow_succ] at h1 h2
     constructor <;> omega
   have ih := DegIs.cmul ha n (b / 2) h2
   rw [cmul_step, Nat.xor_comm]
   have hD : DegIs (2 * Gf2.cmul a (b / 2)) (m + (n + 1)) := by
     have h1 := ih.1; have h3 := ih.2
     rw [show m + (n + 1) = (m + n) + 1 by omega]
     refine ⟨by rw [Nat.pow_succ]; omega, ?_⟩
     rw [Nat.pow_succ]; omega
   refine hD.xor_lt ?_
   split
   · exact Nat.lt_of_lt_of_le ha.2 (Nat.pow_le_pow_right (by decide) (by omega))
   · exact Nat.two_pow_pos _
theorem xor_eq_zero {a b : Nat} (h : a ^^^ b = 0) : a = b := by
 have := congrArg (· ^^^ b) h
 simpa [Nat.xor_assoc] using this

def Dv (f a : Nat) : Prop := ∃ q, a = cmul f q
theorem Dv.zero (f : Nat) : Dv f 0 := ⟨0, by simp⟩
theorem Dv.self (f : Nat) : Dv f f := ⟨1, by simp⟩
theorem Dv.one (f : Nat) : Dv 1 f := ⟨f, by simp⟩
theorem Dv.xor {f a b : Nat} (h : Dv f a) (h' : Dv f b) : Dv f (a ^^^ b) := by
 obtain ⟨q, rfl⟩ := h
 obtain ⟨r, rfl⟩ := h'
 exact ⟨q ^^^ r, (cmul_xor _ _ _).symm⟩
theorem Dv.mul {f a : Nat} (h : Dv f a) (b : Nat) : Dv f (cmul a b) := by
 obtain ⟨q, rfl⟩ := h
 exact ⟨cmul q b, cmul_assoc _ _ _⟩
theorem Dv.mul' {f a : Nat} (h : Dv f a) (b : Nat) : Dv f (cmul b a) := by rw [cmul_comm]; exact h.mul b
theorem Dv.trans {f g h : Nat} (h1 : Dv f g) (h2 : Dv g h) : Dv f h := by
 obtain ⟨q, rfl⟩ := h2
 exact h1.mul q
theorem Dv.of_xor {f a b : Nat} (h : Dv f (a ^^^ b)) (h' : Dv f b) : Dv f a := by
 have := h.xor h'
 rwa [Nat.xor_assoc, Nat.xor_self, Nat.xor_zero] at this
theorem Dv.lt {f a d : Nat} (hf : DegIs f d) (h : Dv f a) (ha : a < 2 ^ d) : a = 0 := by
 obtain ⟨q, rfl⟩ := h
 by_cases hq : q = 0
 · subst hq; simp
 · have h1 := (DegIs.cmul hf _ _ (degIs_log hq)).1
   have h2 : 2 ^ d ≤ 2 ^ (d + q.log2) := Nat.pow_le_pow_right (by decide) (by omega)
   omega
theorem dv_one {f : Nat} (h : Dv f 1) : f = 1 := by
 obtain ⟨q, hq⟩ := h
 have hf : f ≠ 0 := by rintro rfl; simp at hq
 have hq0 : q ≠ 0 := by rintro rfl; simp at hq
 have h1 := DegIs.cmul (degIs_log hf) _ _ (degIs_log hq0)
 rw [← hq] at h1
 have h2 : DegIs 1 0 := ⟨by decide, by decide⟩
 have h3 := h1.uniq h2
 have h4 := (degIs_log hf).2
 have h5 := (degIs_log hf).1
 have h6 : f.log2 = 0 := by omega
 rw [h6] at h4 h5
 omega

structure IsMod (m d a r : Nat) : Prop where
 lt : r < 2 ^ d
 dv : Dv m (a ^^^ r)
theorem IsMod.uniq {m d a r r' : Nat} (hm : DegIs m d) (h : IsMod m d a r) (h' : IsMod m d a r') : r = r' := by
 have h1 := h.dv.xor h'.dv
 rw [xor4, Nat.xor_self, Nat.zero_xor] at h1
 exact xor_eq_zero (h1.lt hm (Nat.xor_lt_two_pow h.lt h'.lt))
theorem cmul_pow (a i : Nat) : cmul a (2 ^ i) = a * 2 ^ i := by
 induction i with
 | zero => simp
 | succ i ih => rw [Nat.pow_succ, Nat.mul_comm _ 2, cmul_two_right, ih, Nat.mul_left_comm]
theorem mul_pow_dv (m k : Nat) : Dv m (m * 2 ^ k) := ⟨2 ^ k, (cmul_pow m k).symm⟩
theorem DegIs.shift {m d : Nat} (h : DegIs m d) (k : Nat) : DegIs (m * 2 ^ k) (d + k) := by
 refine ⟨?_, ?_⟩
 · rw [Nat.pow_add]; exact Nat.mul_le_mul_right _ h.1
 · rw [show d + k + 1 = (d + 1) + k by omega, Nat.pow_add]; exact (Nat.mul_lt_mul_right (Nat.two_pow_pos k)).2 h.2
theorem xor_cancel3 (a s r : Nat) : ((a ^^^ s) ^^^ r) ^^^ s = a ^^^ r := by
 rw [Nat.xor_assoc, Nat.xor_comm r s, ← Nat.xor_assoc, Nat.xor_assoc a, Nat.xor_self, Nat.xor_zero]
theorem exists_mod {m d : Nat} (hm : DegIs m d) (a : Nat) : ∃ r, IsMod m d a r := by
 induction a using Nat.strongRecOn with
 | ind a ih =>
   by_cases ha : a < 2 ^ d
   · exact ⟨a, ha, by rw [Nat.xor_self]; exact Dv.zero m⟩
   · have ha0 : a ≠ 0 := by have := Nat.two_pow_pos d; omega
     have hd := degIs_log ha0
     have hle : d ≤ a.log2 := Nat.le_of_not_lt fun hl => ha (Nat.lt_of_lt_of_le hd.2 (Nat.pow_le_pow_right (by decide) hl))
     have hs : DegIs (m * 2 ^ (a.log2 - d)) a.log2 := by
       have := hm.shift (a.log2 - d)
       rwa [show d + (a.log2 - d) = a.log2 by omega] at this
     obtain ⟨r, hr⟩ := ih (a ^^^ (m * 2 ^ (a.log2 - d))) (Nat.lt_of_lt_of_le (hd.xor_same hs) hd.1)
     refine ⟨r, hr.lt, ?_⟩
     have h1 := hr.dv.xor (mul_pow_dv m (a.log2 - d))
     rwa [xor_cancel3] at h1

def Irr (f : Nat) : Prop := 2 ≤ f ∧ ∀ a b, f = cmul a b → a = 1 ∨ b = 1
theorem bezout {f : Nat} (hf : Irr f) {a : Nat} (ha : ¬ Dv f a) : ∃ u v, cmul f u ^^^ cmul a v = 1 := by
 have step : ∀ n, n ≠ 0 → (∃ u v, cmul f u ^^^ cmul a v = n) → ∃ u v, cmul f u ^^^ cmul a v = 1 := by
   intro n
   induction n using Nat.strongRecOn with
   | ind n ih =>
     intro hn hI
     have hd := degIs_log hn
     have red : ∀ x, (∃ u v, cmul f u ^^^ cmul a v = x) → Dv n x ∨ ∃ r, r ≠ 0 ∧ r < n ∧ ∃ u v, cmul f u ^^^ cmul a v = r := by
       intro x hx
       obtain ⟨r, hr⟩ := exists_mod hd x
       obtain ⟨q, hq⟩ := hr.dv
       by_cases h0 : r = 0
       · left; subst h0; rw [Nat.xor_zero] at hq; exact ⟨q, hq⟩
       · right
         refine ⟨r, h0, Nat.lt_of_lt_of_le hr.lt hd.1, ?_⟩
         obtain ⟨u, v, e1⟩ := hI
         obtain ⟨u2, v2, e2⟩ := hx
         refine ⟨u2 ^^^ cmul u q, v2 ^^^ cmul v q, ?_⟩
         rw [cmul_xor, cmul_xor, xor4, e2, ← cmul_assoc, ← cmul_assoc, ← xor_cmul, e1, ← hq, ← Nat.xor_assoc, Nat.xor_self, Nat.zero_xor]
     rcases red f ⟨1, 0, by simp⟩ with h1 | ⟨r, h0, hl, hr⟩
     · rcases red a ⟨0, 1, by simp⟩ with h2 | ⟨r, h0, hl, hr⟩
       · obtain ⟨q, hq⟩ := h1
         rcases hf.2 _ _ hq with h | h
         · rw [h] at hI; exact hI
         · rw [h, cmul_one] at hq; rw [← hq] at h2; exact absurd h2 ha
       · exact ih r hl h0 hr
     · exact ih r hl h0 hr
 exact step f (by have := hf.1; omega) ⟨1, 0, by simp⟩
theorem Irr.prime {f : Nat} (hf : Irr f) {a b : Nat} (h : Dv f (cmul a b)) : Dv f a ∨ Dv f b := by
 by_cases ha : Dv f a
 · exact .inl ha
 · right
   obtain ⟨u, v, e⟩ := bezout hf ha
   have h1 : Dv f (cmul (cmul f u ^^^ cmul a v) b) := by
     rw [xor_cmul]
     refine (((Dv.self f).mul u).mul b).xor ?_
     rw [cmul_assoc, cmul_comm v b, ← cmul_assoc]; exact h.mul v
   rw [e, one_cmul] at h1; exact h1
theorem Irr.not_one {f : Nat} (hf : Irr f) : ¬ Dv f 1 := fun h => by have := dv_one h; have := hf.1; omega
theorem dv_deg {f a d e : Nat} (h : Dv f a) (hd : DegIs f d) (he : DegIs a e) : d ≤ e := by
 obtain ⟨q, rfl⟩ := h
 have hq : q ≠ 0 := by rintro rfl; exact he.ne (by simp)
 have := (DegIs.cmul hd _ _ (degIs_log hq)).uniq he
 omega
theorem deg_one {a : Nat} (h0 : a ≠ 0) (h1 : a ≠ 1) : 1 ≤ a.log2 := by
 refine Nat.le_of_not_lt fun hl => ?_
 have := (degIs_log h0).2
 rw [show a.log2 = 0 by omega] at this
 omega
theorem parts_of {p : Nat} (hp : 2 ≤ p) (h : ¬ Irr p) : ∃ a b, p = cmul a b ∧ a ≠ 0 ∧ a ≠ 1 ∧ b ≠ 0 ∧ b ≠ 1 := by
 apply Classical.byContradiction
 intro hn
 refine h ⟨hp, fun a b e => ?_⟩
 by_cases ha : a = 1
 · exact .inl ha
 by_cases hb : b = 1
 · exact .inr hb
 exact absurd ⟨a, b, e, by rintro rfl; simp at e; omega, ha, by rintro rfl; simp at e; omega, hb⟩ hn
theorem exists_irr (p : Nat) (hp : 2 ≤ p) : ∃ f, Irr f ∧ Dv f p := by
 induction p using Nat.strongRecOn with
 | ind p ih =>
   by_cases h : Irr p
   · exact ⟨p, h, Dv.self p⟩
   · obtain ⟨a, b, e, a0, a1, b0, b1⟩ := parts_of hp h
     have hD := DegIs.cmul (degIs_log a0) _ _ (degIs_log b0)
     rw [← e] at hD
     have hb := deg_one b0 b1
     have hl : a < p := by
       have h1 := (degIs_log a0).2
       have h2 : 2 ^ (a.log2 + 1) ≤ 2 ^ (a.log2 + b.log2) := Nat.pow_le_pow_right (by decide) (by omega)
       have h3 := hD.1
       omega
     obtain ⟨f, h1, h2⟩ := ih a hl (by omega)
     exact ⟨f, h1, by rw [e]; exact h2.mul b⟩
theorem small_irr {p n : Nat} (hp : DegIs p n) (hn : 1 ≤ n) (h : ¬ Irr p) : ∃ f d, Irr f ∧ Dv f p ∧ DegIs f d ∧ 1 ≤ d ∧ 2 * d ≤ n := by
 have hp2 : 2 ≤ p := by
   have h1 := hp.1
   have h2 : 2 ^ 1 ≤ 2 ^ n := Nat.pow_le_pow_right (by decide) hn
   omega
 obtain ⟨a, b, e, a0, a1, b0, b1⟩ := parts_of hp2 h
 have hD := DegIs.cmul (degIs_log a0) _ _ (degIs_log b0)
 rw [← e] at hD
 have hs := hD.uniq hp
 have key : ∀ x y, x ≠ 0 → x ≠ 1 → p = cmul x y → 2 * x.log2 ≤ n → ∃ f d, Irr f ∧ Dv f p ∧ DegIs f d ∧ 1 ≤ d ∧ 2 * d ≤ n := by
   intro x y x0 x1 ex hx
   obtain ⟨f, h1, h2⟩ := exists_irr x (by omega)
   have hf0 : f ≠ 0 := by have := h1.1; omega
   have := dv_deg h2 (degIs_log hf0) (degIs_log x0)
   exact ⟨f, f.log2, h1, by rw [ex]; exact h2.mul y, degIs_log hf0, deg_one hf0 (by have := h1.1; omega), by omega⟩
 by_cases hle : a.log2 ≤ b.log2
 · exact key a b a0 a1 e (by omega)
 · exact key b a b0 b1 (by rw [cmul_comm]; exact e) (by omega)

def sqs (a : Nat) : Nat → Nat
 | 0 => a
 | i + 1 => cmul (sqs a i) (sqs a i)
theorem sq_xor (a b : Nat) : cmul (a ^^^ b) (a ^^^ b) = cmul a a ^^^ cmul b b := by
 rw [cmul_xor, xor_cmul, xor_cmul, cmul_comm b a, Nat.xor_comm (cmul a b) (cmul b b), xor4, Nat.xor_self, Nat.xor_zero]
theorem sqs_xor (a b : Nat) : ∀ i, sqs (a ^^^ b) i = sqs a i ^^^ sqs b i
 | 0 => rfl
 | i + 1 => by rw [sqs, sqs_xor a b i, sq_xor]; rfl
theorem mul4 (a b c d : Nat) : cmul (cmul a b) (cmul c d) = cmul (cmul a c) (cmul b d) := by
 rw [cmul_assoc, cmul_assoc, ← cmul_assoc b, cmul_comm b c, cmul_assoc]
theorem sqs_mul (a b : Nat) : ∀ i, sqs (cmul a b) i = cmul (sqs a i) (sqs b i)
 | 0 => rfl
 | i + 1 => by rw [sqs, sqs_mul a b i, mul4]; rfl
theorem sqs_sqs (a i : Nat) : ∀ j, sqs (sqs a i) j = sqs a (i + j)
 | 0 => rfl
 | j + 1 => by rw [sqs, sqs_sqs a i j]; rfl
theorem Dv.sqs {f a : Nat} (h : Dv f a) : ∀ i, Dv f (Gf2.sqs a i)
 | 0 => h
 | i + 1 => (Dv.sqs h i).mul _
theorem sqs_zero : ∀ i, sqs 0 i = 0
 | 0 => rfl
 | i + 1 => by rw [sqs, sqs_zero i]; simp
theorem sqs_one : ∀ i, sqs 1 i = 1
 | 0 => rfl
 | i + 1 => by rw [sqs, sqs_one i]; simp
theorem fix_all {f r : Nat} (h : Dv f (sqs 2 r ^^^ 2)) (a : Nat) : Dv f (sqs a r ^^^ a) := by
 induction a using half_ind with
 | h0 => rw [sqs_zero]; exact Dv.zero f
 | h a _ ih =>
   have e : a = (if a % 2 = 1 then 1 else 0) ^^^ cmul 2 (a / 2) := by rw [cmul_comm, cmul_two_right' (a / 2)]; exact bit_split a
   rw [e, sqs_xor, xor4]
   refine Dv.xor ?_ ?_
   · split
     · rw [sqs_one]; exact Dv.zero f
     · rw [sqs_zero]; exact Dv.zero f
   · have e2 : cmul (sqs 2 r) (sqs (a / 2) r) ^^^ cmul 2 (a / 2) = cmul (sqs 2 r ^^^ 2) (sqs (a / 2) r) ^^^ cmul 2 (sqs (a / 2) r ^^^ a / 2) := by
       rw [xor_cmul, cmul_xor, ← Nat.xor_assoc, Nat.xor_assoc (cmul (sqs 2 r) _), Nat.xor_self, Nat.xor_zero]
     rw [sqs_mul, e2]
     exact (h.mul _).xor (ih.mul' 2)

def ev (cs : List Nat) (y : Nat) : Nat := cs.foldl (fun s c => cmul s y ^^^ c) 0
theorem ev_snoc (cs : List Nat) (c y : Nat) : ev (cs ++ [c]) y = cmul (ev cs y) y ^^^ c := by simp [ev]
theorem ev_one (y : Nat) : ev [1] y = 1 := by simp [ev]
theorem synth (b : Nat) : ∀ (n : Nat) (t : List Nat), t.length = n → ∃ t' : List Nat, t'.length = n ∧ ∀ c y, ev ((1 :: t) ++ [c]) y = cmul (y ^^^ b) (ev (1 :: t') y) ^^^ ev ((1 :: t) ++ [c]) b
 | 0, t, ht => by
   have : t = [] := List.eq_nil_of_length_eq_zero ht
   subst this
   refine ⟨[], rfl, fun c y => ?_⟩
   rw [ev_snoc, ev_snoc, ev_one, ev_one, one_cmul, one_cmul, cmul_one, xor3]
 | n + 1, t, ht => by
   rcases List.eq_nil_or_concat t with rfl | ⟨L, d, hc⟩
   · simp at ht
   · rw [List.concat_eq_append] at hc
     subst hc
     obtain ⟨t', hl, h⟩ := synth b n L (by simpa using ht)
     refine ⟨t' ++ [ev ((1 :: L) ++ [d]) b], by simp [hl], fun c y => ?_⟩
     have e1 : (1 :: (L ++ [d])) ++ [c] = ((1 :: L) ++ [d]) ++ [c] := by simp
     have e2 : 1 :: (t' ++ [ev ((1 :: L) ++ [d]) b]) = (1 :: t') ++ [ev ((1 :: L) ++ [d]) b] := by simp
     rw [e1, e2, ev_snoc _ c y, ev_snoc _ c b, ev_snoc (1 :: t') _ y, h d y]
     generalize ev ((1 :: L) ++ [d]) b = P
     generalize ev (1 :: t') y = Q
     rw [xor_cmul (cmul _ _) P y, cmul_assoc, cmul_xor (y ^^^ b), xor_cmul y b P, cmul_comm y P, cmul_comm b P]
     exact xor5 _ _ _ _
theorem roots {f : Nat} (hf : Irr f) : ∀ (n : Nat) (t : List Nat), t.length = n → ∀ bs : List Nat, (bs.Pairwise fun a b => ¬ Dv f (a ^^^ b)) → (∀ b ∈ bs, Dv f (ev (1 :: t) b)) → bs.length ≤ n
 | 0, t, ht, bs, _, h => by
   have : t = [] := List.eq_nil_of_length_eq_zero ht
   subst this
   cases bs with
   | nil => simp
   | cons b bs => exact absurd (by have := h b (by simp); rwa [ev_one] at this) hf.not_one
 | n + 1, t, ht, bs, hp, h => by
   cases bs with
   | nil => simp
   | cons b bs =>
     rcases List.eq_nil_or_concat t with rfl | ⟨L, c, hc⟩
     · simp at ht
     · rw [List.concat_eq_append] at hc
       subst hc
       obtain ⟨t', hl, hs⟩ := synth b n L (by simpa using ht)
       obtain ⟨h1, h2⟩ := List.pairwise_cons.1 hp
       have := roots hf n t' hl bs h2 fun y hy => by
         have k1 := h y (by simp [hy])
         have k2 := h b (by simp)
         have e1 : (1 :: (L ++ [c])) = (1 :: L) ++ [c] := by simp
         rw [e1] at k1 k2
         rw [hs c y] at k1
         rcases hf.prime (k1.of_xor k2) with k | k
         · rw [Nat.xor_comm] at k; exact absurd k (h1 y hy)
         · exact k
       simp; omega

def ppow (y : Nat) : Nat → Nat
 | 0 => 1
 | k + 1 => cmul (ppow y k) y
theorem ppow_add (y i : Nat) : ∀ j, ppow y (i + j) = cmul (ppow y i) (ppow y j)
 | 0 => by simp [ppow]
 | j + 1 => by rw [← Nat.add_assoc, ppow, ppow_add y i j, cmul_assoc]; rfl
theorem sqs_ppow (y : Nat) : ∀ r, sqs y r = ppow y (2 ^ r)
 | 0 => by simp [sqs, ppow]
 | r + 1 => by rw [sqs, sqs_ppow y r, ← ppow_add, Nat.pow_succ, Nat.mul_two]
theorem ev_pow (y : Nat) : ∀ k, ev (1 :: List.replicate k 0) y = ppow y k
 | 0 => by rw [List.replicate_zero, ev_one]; rfl
 | k + 1 => by
   have e : (1 :: List.replicate (k + 1) 0) = (1 :: List.replicate k 0) ++ [0] := by rw [List.replicate_succ']; simp
   rw [e, ev_snoc, ev_pow y k, Nat.xor_zero]; rfl
theorem no_early {f d r : Nat} (hf : Irr f) (hd : DegIs f d) (h0 : 1 ≤ r) (h : Dv f (sqs 2 r ^^^ 2)) : d ≤ r := by
 have hr2 : 2 ≤ 2 ^ r := by have : 2 ^ 1 ≤ 2 ^ r := Nat.pow_le_pow_right (by decide) h0; omega
 have hl := roots hf (2 ^ r) ((List.replicate (2 ^ r - 2) 0 ++ [1]) ++ [0]) (by simp; omega) (List.range (2 ^ d)) (by
   rw [List.pairwise_iff_getElem]
   intro i j hi hj hij hdv
   simp only [List.length_range] at hi hj
   simp only [List.getElem_range] at hdv
   have := xor_eq_zero (hdv.lt hd (Nat.xor_lt_two_pow hi hj))
   omega) (fun y _ => by
   have e : 1 :: ((List.replicate (2 ^ r - 2) 0 ++ [1]) ++ [0]) = ((1 :: List.replicate (2 ^ r - 2) 0) ++ [1]) ++ [0] := by simp
   have e2 : ev (((1 :: List.replicate (2 ^ r - 2) 0) ++ [1]) ++ [0]) y = sqs y r ^^^ y := by
     rw [ev_snoc, ev_snoc, ev_pow, Nat.xor_zero, xor_cmul, one_cmul, sqs_ppow, show 2 ^ r = 2 ^ r - 2 + 1 + 1 by omega]; rfl
   rw [e, e2]; exact fix_all h y)
 rw [List.length_range] at hl
 exact (Nat.pow_le_pow_iff_right (by decide)).1 hl

theorem perm_of_sub : ∀ (l l' : List Nat), l.Nodup → (∀ x ∈ l, x ∈ l') → l'.length ≤ l.length → l.Perm l'
 | [], l', _, _, h => by
   have : l' = [] := List.eq_nil_of_length_eq_zero (by simpa using h)
   subst this; exact List.Perm.nil
 | a :: l, l', hn, hs, h => by
   have ha : a ∈ l' := hs a (by simp)
   have hp := List.perm_cons_erase ha
   obtain ⟨h1, h2⟩ := List.nodup_cons.1 hn
   have := perm_of_sub l (l'.erase a) h2 (fun x hx => by
     refine (List.mem_erase_of_ne ?_).2 (hs x (by simp [hx]))
     rintro rfl; exact h1 hx) (by rw [List.length_erase_of_mem ha]; simp at h; omega)
   exact (this.cons a).trans hp.symm
def prodL : List Nat → Nat
 | [] => 1
 | a :: l => cmul a (prodL l)
theorem prodL_perm {l l' : List Nat} (h : l.Perm l') : prodL l = prodL l' := by
 induction h with
 | nil => rfl
 | cons a _ ih => simp [prodL, ih]
 | swap a b l => simp only [prodL]; rw [← cmul_assoc, cmul_comm b a, cmul_assoc]
 | trans _ _ h1 h2 => exact h1.trans h2
theorem fermat {f d : Nat} (hf : Irr f) (hd : DegIs f d) : Dv f (sqs 2 d ^^^ 2) := by
 by_cases h2 : Dv f 2
 · exact (h2.sqs d).xor h2
 obtain ⟨g, hg⟩ := Classical.axiomOfChoice (exists_mod hd)
 have hpos := Nat.two_pow_pos d
 obtain ⟨L, hL⟩ : ∃ L, List.range' 1 (2 ^ d - 1) = L := ⟨_, rfl⟩
 have hmem : ∀ x, x ∈ L ↔ 1 ≤ x ∧ x < 2 ^ d := fun x => by rw [← hL, List.mem_range'_1]; omega
 have hnd : ∀ x ∈ L, ¬ Dv f x := fun x hx h => by
   have h1 := (hmem x).1 hx
   have := h.lt hd h1.2; omega
 have hin : ∀ x ∈ L, g (cmul 2 x) ∈ L := fun x hx => by
   refine (hmem _).2 ⟨Nat.pos_of_ne_zero fun h0 => ?_, (hg _).lt⟩
   have h1 := (hg (cmul 2 x)).dv
   rw [h0, Nat.xor_zero] at h1
   rcases hf.prime h1 with h | h
   · exact h2 h
   · exact hnd x hx h
 have hinj : ∀ x ∈ L, ∀ y ∈ L, g (cmul 2 x) = g (cmul 2 y) → x = y := fun x hx y hy h => by
   have h1 := (hg (cmul 2 x)).dv.xor (hg (cmul 2 y)).dv
   rw [h, xor4, Nat.xor_self, Nat.xor_zero, ← cmul_xor] at h1
   rcases hf.prime h1 with k | k
   · exact absurd k h2
   · exact xor_eq_zero (k.lt hd (Nat.xor_lt_two_pow ((hmem x).1 hx).2 ((hmem y).1 hy).2))
 have hnodL : L.Nodup := by rw [← hL]; exact List.nodup_range'
 have hperm : (L.map fun x => g (cmul 2 x)).Perm L := by
   refine perm_of_sub _ _ ?_ (fun x hx => ?_) (by simp)
   · rw [List.Nodup, List.pairwise_map]
     exact hnodL.imp_of_mem fun {x y} hx hy hne h => hne (hinj x hx y hy h)
   · obtain ⟨y, hy, rfl⟩ := List.mem_map.1 hx; exact hin y hy
 have hprod : ∀ l : List Nat, Dv f (prodL (l.map fun x => g (cmul 2 x)) ^^^ cmul (ppow 2 l.length) (prodL l)) := fun l => by
   induction l with
   | nil => simp [prodL, ppow]; exact Dv.zero f
   | cons a l ih =>
     simp only [List.map_cons, prodL, List.length_cons]
     have e : cmul (ppow 2 (l.length + 1)) (cmul a (prodL l)) = cmul (cmul 2 a) (cmul (ppow 2 l.length) (prodL l)) := by
       rw [ppow, cmul_comm (ppow 2 l.length) 2, mul4]
     rw [e]
     have e2 : cmul (g (cmul 2 a)) (prodL (l.map fun x => g (cmul 2 x))) ^^^ cmul (cmul 2 a) (cmul (ppow 2 l.length) (prodL l)) = cmul (cmul 2 a ^^^ g (cmul 2 a)) (prodL (l.map fun x => g (cmul 2 x))) ^^^ cmul (cmul 2 a) (prodL (l.map fun x => g (cmul 2 x)) ^^^ cmul (ppow 2 l.length) (prodL l)) := by
       rw [xor_cmul, cmul_xor, Nat.xor_comm (cmul (cmul 2 a) _) (cmul (g _) _), ← Nat.xor_assoc, Nat.xor_assoc (cmul (g _) _), Nat.xor_self, Nat.xor_zero]
     rw [e2]
     exact ((hg _).dv.mul _).xor (ih.mul' _)
 have hLl : L.length = 2 ^ d - 1 := by rw [← hL]; simp
 have h3 := hprod L
 rw [prodL_perm hperm, hLl] at h3
 have h4 : Dv f (cmul (1 ^^^ ppow 2 (2 ^ d - 1)) (prodL L)) := by rw [xor_cmul, one_cmul]; exact h3
 have hnP : ¬ Dv f (prodL L) := by
   have : ∀ l : List Nat, (∀ x ∈ l, ¬ Dv f x) → ¬ Dv f (prodL l) := fun l => by
     induction l with
     | nil => exact fun _ => hf.not_one
     | cons a l ih =>
       intro h hdv
       rcases hf.prime hdv with k | k
       · exact h a (by simp) k
       · exact ih (fun x hx => h x (by simp [hx])) k
   exact this L hnd
 rcases hf.prime h4 with h | h
 · have h5 := h.mul 2
   rw [xor_cmul, one_cmul] at h5
   have e : cmul (ppow 2 (2 ^ d - 1)) 2 = sqs 2 d := by
     rw [sqs_ppow, show 2 ^ d = 2 ^ d - 1 + 1 by omega]; rfl
   rw [e, Nat.xor_comm] at h5
   exact h5
 · exact absurd h hnP

def Alone (p y : Nat) : Prop := ∀ h, Dv h p → Dv h y → h = 1
theorem alone_irr {p y : Nat} (hp : Irr p) : Alone p y ↔ ¬ Dv p y := by
 constructor
 · intro h hd
   have := h p (Dv.self p) hd
   have := hp.1
   omega
 · intro h x hx hy
   obtain ⟨q, hq⟩ := hx
   rcases hp.2 _ _ hq with k | k
   · exact k
   · rw [k, cmul_one] at hq; rw [← hq] at hy; exact absurd hy h
theorem irr_ne {f : Nat} (hf : Irr f) (h : f = 1) : False := by have := hf.1; omega
theorem sqs_mult {f d : Nat} (h : Dv f (sqs 2 d ^^^ 2)) (r : Nat) : ∀ k, Dv f (sqs 2 (d * k + r) ^^^ sqs 2 r)
 | 0 => by simp; exact Dv.zero f
 | k + 1 => by
   have h1 := sqs_mult h r k
   have h2 := h.sqs (d * k + r)
   rw [sqs_xor, sqs_sqs] at h2
   have h3 := h2.xor h1
   rw [Nat.xor_assoc, ← Nat.xor_assoc (sqs 2 (d * k + r)), Nat.xor_self, Nat.zero_xor] at h3
   rwa [show d * (k + 1) + r = d + (d * k + r) by rw [Nat.mul_succ]; omega]
theorem rabin {p n : Nat} (hp : DegIs p n) (hn : 1 ≤ n) (Q : List Nat) (hQ : ∀ q ∈ Q, 1 ≤ n / q ∧ n / q < n) (hC : ∀ d, 1 ≤ d → d < n → d ∣ n → ∃ q ∈ Q, d ∣ n / q) :
   ((∀ q ∈ Q, Alone p (sqs 2 (n / q) ^^^ 2)) ∧ Dv p (sqs 2 n ^^^ 2)) ↔ Irr p := by
 constructor
 · rintro ⟨h1, h2⟩
   apply Classical.byContradiction
   intro hi
   obtain ⟨f, d, f1, f2, f3, f4, f5⟩ := small_irr hp hn hi
   have hF := fermat f1 f3
   have h3 : Dv f (sqs 2 n ^^^ 2) := f2.trans h2
   have hr : n % d = 0 := by
     apply Classical.byContradiction
     intro h0
     have h4 := sqs_mult hF (n % d) (n / d)
     rw [Nat.div_add_mod] at h4
     have h5 := h4.xor h3
     rw [Nat.xor_comm (sqs 2 n) (sqs 2 (n % d)), xor3] at h5
     have := no_early f1 f3 (Nat.pos_of_ne_zero h0) h5
     have := Nat.mod_lt n f4
     omega
   obtain ⟨q, hq, k, hk⟩ := hC d f4 (by omega) (Nat.dvd_of_mod_eq_zero hr)
   have h6 := sqs_mult hF 0 k
   rw [Nat.add_zero, ← hk] at h6
   exact irr_ne f1 (h1 q hq f f2 h6)
 · intro h
   refine ⟨fun q hq => (alone_irr h).2 fun hd => ?_, fermat h hp⟩
   have := no_early h hp (hQ q hq).1 hd
   have := (hQ q hq).2
   omega

end Go.Proofs.YtpmhjnhgpplmnaaGreatDoor.Gf2
end

section
namespace Go.Proofs.YtpmhjnhgpplmnaaGreatDoor
open Go Go.Proofs.YtpmhjnhgpplmnaaGreatDoor.Sx

set_option maxRecDepth 100000
theorem bits_Len64_vc (a0 : Int) (w : World) (R : Ending → World → Prop) (h : ∃ J : Int → Int → World → Prop, ((decide (a0 ≥ (4294967296 : Int)) = true → (J (shrI .u64 a0 (32 : Int)) 32 w)) ∧ (decide (a0 ≥ (4294967296 : Int)) = false → (J a0 0 w))) ∧ (∀ x0 x2, ∀ w1, J x0 x2 w1 → (∃ J_1 : Int → Int → World → Prop, ((decide (x0 ≥ (65536 : Int)) = true → (J_1 (shrI .u64 x0 (16 : Int)) (IntKind.wrap .i64 (x2 + (16 : Int))) w1)) ∧ (decide (x0 ≥ (65536 : Int)) = false → (J_1 x0 x2 w1))) ∧ (∀ x0_1 x2_1, ∀ w2, J_1 x0_1 x2_1 w2 → (∃ J_2 : Int → Int → World → Prop, ((decide (x0_1 ≥ (256 : Int)) = true → (J_2 (shrI .u64 x0_1 (8 : Int)) (IntKind.wrap .i64 (x2_1 + (8 : Int))) w2)) ∧ (decide (x0_1 ≥ (256 : Int)) = false → (J_2 x0_1 x2_1 w2))) ∧ (∀ x0_2 x2_2, ∀ w3, J_2 x0_2 x2_2 w3 → (∃ t22, (Instr.index 9 (.string (ByteArray.mk #[0, 1, 2, 2, 3, 3, 3, 3, 4, 4, 4, 4, 4, 4, 4, 4, 5, 5, 5, 5, 5, 5, 5, 5, 5, 5, 5, 5, 5, 5, 5, 5, 6, 6, 6, 6, 6, 6, 6, 6, 6, 6, 6, 6, 6, 6, 6, 6, 6, 6, 6, 6, 6, 6, 6, 6, 6, 6, 6, 6, 6, 6, 6, 6, 7, 7, 7, 7, 7, 7, 7, 7, 7, 7, 7, 7, 7, 7, 7, 7, 7, 7, 7, 7, 7, 7, 7, 7, 7, 7, 7, 7, 7, 7, 7, 7, 7, 7, 7, 7, 7, 7, 7, 7, 7, 7, 7, 7, 7, 7, 7, 7, 7, 7, 7, 7, 7, 7, 7, 7, 7, 7, 7, 7, 7, 7, 7, 7, 8, 8, 8, 8, 8, 8, 8, 8, 8, 8, 8, 8, 8, 8, 8, 8, 8, 8, 8, 8, 8, 8, 8, 8, 8, 8, 8, 8, 8, 8, 8, 8, 8, 8, 8, 8, 8, 8, 8, 8, 8, 8, 8, 8, 8, 8, 8, 8, 8, 8, 8, 8, 8, 8, 8, 8, 8, 8, 8, 8, 8, 8, 8, 8, 8, 8, 8, 8, 8, 8, 8, 8, 8, 8, 8, 8, 8, 8, 8, 8, 8, 8, 8, 8, 8, 8, 8, 8, 8, 8, 8, 8, 8, 8, 8, 8, 8, 8, 8, 8, 8, 8, 8, 8, 8, 8, 8, 8, 8, 8, 8, 8, 8, 8, 8, 8, 8, 8, 8, 8, 8, 8, 8, 8, 8, 8, 8, 8])) (.int .u8 (IntKind.wrap .u8 x0_2))).run Tryz.prog w3 = .ok (.int .u8 t22) w3 ∧ (R (.returned (.int .i64 (IntKind.wrap .i64 (x2_2 + (IntKind.wrap .i64 t22))))) w3)))))))) : Calls Tryz.prog 274 #[(.int .u64 a0)] w R := calls_of_ev2 (tc := .sq [.rg 1, .seq (.rg 2) (.join [0, 2, 5, 6] [0, 2] [.int .u64, .int .i64] (.cond (.seq (.rg 3) (.rg 1)) .leaf)), .seq (.rg 2) (.join [0, 2, 9, 10, 11, 12] [0, 2] [.int .u64, .int .i64] (.cond (.seq (.rg 3) (.rg 3)) .leaf)), .seq (.rg 2) (.join [0, 2, 15, 16, 17, 18] [0, 2] [.int .u64, .int .i64] (.cond (.seq (.rg 3) (.rg 3)) .leaf)), .reg (.pp 3 (.op (.ld (.int .u8)) (.pp 3 .nil)))] .leaf) Tryz.func274 (by kernel_rfl) (by kernel_rfl) h

theorem poly_Deg_vc (a0 : Int) (w : World) (R : Ending → World → Prop) (h : Calls Tryz.prog 274 #[(.int .u64 a0)] w fun e4 w1 => ∃ t4, e4 = .returned (.int .i64 t4) ∧ (R (.returned (.int .i64 (IntKind.wrap .i64 (t4 - (1 : Int))))) w1)) : Calls Tryz.prog 205 #[(.int .u64 a0)] w R := calls_of_ev2 (tc := .sq [.rg 1, .reg (.op .p (.op (.cl [.int .i64]) (.pp 2 .nil)))] .leaf) Tryz.func205 (by kernel_rfl) (by kernel_rfl) h

theorem poly_mod_vc (a0 : Int) (a1 : Int) (a2 : Int) (w : World) (R : Ending → World → Prop) (h : Calls Tryz.prog 205 #[(.int .u64 a2)] w fun e11 w1 => ∃ t11, e11 = .returned (.int .i64 t11) ∧ (∃ (I : Int → Int → Int → World → Prop) (μ : Int → Int → Int → World → Nat), I a0 a1 63 w1 ∧ (∀ x0 x1 x8, ∀ w2, I x0 x1 x8 w2 → ((decide (x8 ≥ (0 : Int)) = true → (0 ≤ x8 ∧ ((((band .u64 (shrI .u64 x0 x8) (1 : Int)) == (0 : Int)) = true → (I x0 x1 (IntKind.wrap .i64 (x8 - (1 : Int))) w2 ∧ μ x0 x1 (IntKind.wrap .i64 (x8 - (1 : Int))) w2 < μ x0 x1 x8 w2)) ∧ (((band .u64 (shrI .u64 x0 x8) (1 : Int)) == (0 : Int)) = false → (((decide ((IntKind.wrap .i64 ((IntKind.wrap .i64 ((64 : Int) + x8)) - t11)) ≥ (64 : Int))) = true → (0 ≤ (IntKind.wrap .i64 ((IntKind.wrap .i64 ((IntKind.wrap .i64 ((64 : Int) + x8)) - t11)) - (64 : Int))) ∧ (I (bxor .u64 x0 (shlI .u64 a2 (IntKind.wrap .i64 ((IntKind.wrap .i64 ((IntKind.wrap .i64 ((64 : Int) + x8)) - t11)) - (64 : Int))))) x1 (IntKind.wrap .i64 (x8 - (1 : Int))) w2 ∧ μ (bxor .u64 x0 (shlI .u64 a2 (IntKind.wrap .i64 ((IntKind.wrap .i64 ((IntKind.wrap .i64 ((64 : Int) + x8)) - t11)) - (64 : Int))))) x1 (IntKind.wrap .i64 (x8 - (1 : Int))) w2 < μ x0 x1 x8 w2))) ∧ ((decide ((IntKind.wrap .i64 ((IntKind.wrap .i64 ((64 : Int) + x8)) - t11)) ≥ (64 : Int))) = false → (0 ≤ (IntKind.wrap .i64 ((64 : Int) - (IntKind.wrap .i64 ((IntKind.wrap .i64 ((64 : Int) + x8)) - t11)))) ∧ (0 ≤ (IntKind.wrap .i64 ((IntKind.wrap .i64 ((64 : Int) + x8)) - t11)) ∧ (I (bxor .u64 x0 (shrI .u64 a2 (IntKind.wrap .i64 ((64 : Int) - (IntKind.wrap .i64 ((IntKind.wrap .i64 ((64 : Int) + x8)) - t11)))))) (bxor .u64 x1 (shlI .u64 a2 (IntKind.wrap .i64 ((IntKind.wrap .i64 ((64 : Int) + x8)) - t11)))) (IntKind.wrap .i64 (x8 - (1 : Int))) w2 ∧ μ (bxor .u64 x0 (shrI .u64 a2 (IntKind.wrap .i64 ((64 : Int) - (IntKind.wrap .i64 ((IntKind.wrap .i64 ((64 : Int) + x8)) - t11)))))) (bxor .u64 x1 (shlI .u64 a2 (IntKind.wrap .i64 ((IntKind.wrap .i64 ((64 : Int) + x8)) - t11)))) (IntKind.wrap .i64 (x8 - (1 : Int))) w2 < μ x0 x1 x8 w2))))))))) ∧ (decide (x8 ≥ (0 : Int)) = false → (∃ (I_1 : Int → World → Prop) (μ_1 : Int → World → Nat), I_1 x1 w2 ∧ (∀ x1_1, ∀ w3, I_1 x1_1 w3 → (Calls Tryz.prog 205 #[(.int .u64 x1_1)] w3 fun e45 w4 => ∃ t45, e45 = .returned (.int .i64 t45) ∧ ((decide (t45 ≥ t11) = true → (Calls Tryz.prog 205 #[(.int .u64 x1_1)] w4 fun e51 w5 => ∃ t51, e51 = .returned (.int .i64 t51) ∧ (0 ≤ (IntKind.wrap .i64 (t51 - t11)) ∧ (I_1 (bxor .u64 x1_1 (shlI .u64 a2 (IntKind.wrap .i64 (t51 - t11)))) w5 ∧ μ_1 (bxor .u64 x1_1 (shlI .u64 a2 (IntKind.wrap .i64 (t51 - t11)))) w5 < μ_1 x1_1 w3)))) ∧ (decide (t45 ≥ t11) = false → (R (.returned (.int .u64 x1_1)) w4))))))))))) : Calls Tryz.prog 276 #[(.int .u64 a0), (.int .u64 a1), (.int .u64 a2)] w R := calls_of_ev2 (tc := .sq [.rg 1, .reg (.op .p (.op (.cl [.int .i64]) (.op .p .nil))), .seq (.rg 1) (.blk (.loop (lr [(0, 2), (8, 2), (12, 32)]) [0, 1, 8] [.int .u64, .int .u64, .int .i64] (.sq [.seq (.rg 2) (.cond .leaf .leaf), .blk (.sq [.seq (.reg (.pp 2 (.op .sc (.pp 2 .nil)))) (.cond .leaf .leaf), .rg 5, .seq (.rg 2) (.cond (.seq (.reg (.pp 4 (.op .sc (.pp 2 .nil)))) .leaf) .leaf), .reg (.pp 4 (.op .sc (.pp 2 .nil)))] (.reg (.pp 3 (.op .sc (.pp 2 .nil)))))] (.rg 3)))), .blk (.loop (lr [(1, 1), (44, 12)]) [1] [.int .u64] (.seq (.seq (.reg (.op .p (.op (.cl [.int .i64]) (.pp 2 .nil)))) (.cond .leaf .leaf)) (.blk (.reg (.pp 3 (.op (.cl [.int .i64]) (.pp 2 (.op .sc (.pp 2 .nil))))))))), .rg 2] .leaf) Tryz.func276 (by kernel_rfl) (by kernel_rfl) h

theorem poly_mulMod_vc (a0 : Int) (a1 : Int) (a2 : Int) (w : World) (R : Ending → World → Prop) (h : Calls Tryz.prog 330 #[(.int .u64 a1), (.int .u64 a2)] w fun e12 w1 => ∃ t12_0 t12_1, e12 = .returned (.tuple #[(.int .u64 t12_0), (.int .u64 t12_1)]) ∧ (Calls Tryz.prog 276 #[(.int .u64 t12_0), (.int .u64 t12_1), (.int .u64 a0)] w1 fun e18 w2 => ∃ t18, e18 = .returned (.int .u64 t18) ∧ (R (.returned (.int .u64 t18)) w2))) : Calls Tryz.prog 277 #[(.int .u64 a0), (.int .u64 a1), (.int .u64 a2)] w R := calls_of_ev2 (tc := .sq [.rg 1, .reg (.pp 2 (.op (.cl [.int .u64, .int .u64]) (.pp 5 .nil))), .reg (.pp 3 (.op (.cl [.int .u64]) (.op .p .nil)))] .leaf) Tryz.func277 (by kernel_rfl) (by kernel_rfl) h

theorem poly_Mul_vc (a0 : Int) (a1 : Int) (w : World) (R : Ending → World → Prop) (h : ∃ (I : Int → Int → Int → World → Prop) (μ : Int → Int → Int → World → Nat), I 0 0 0 w ∧ (∀ x6 x7 x9, ∀ w1, I x6 x7 x9 w1 → ((decide (x9 < (64 : Int)) = true → (0 ≤ x9 ∧ (∃ J : Int → Int → World → Prop, ((((band .u64 (shrI .u64 a1 x9) (1 : Int)) == (1 : Int)) = true → (0 ≤ x9 ∧ (0 ≤ (IntKind.wrap .i64 ((64 : Int) - x9)) ∧ (J (bxor .u64 x6 (shrI .u64 a0 (IntKind.wrap .i64 ((64 : Int) - x9)))) (bxor .u64 x7 (shlI .u64 a0 x9)) w1)))) ∧ (((band .u64 (shrI .u64 a1 x9) (1 : Int)) == (1 : Int)) = false → (J x6 x7 w1))) ∧ (∀ x6_1 x7_1, ∀ w2, J x6_1 x7_1 w2 → (I x6_1 x7_1 (IntKind.wrap .i64 (x9 + 1)) w2 ∧ μ x6_1 x7_1 (IntKind.wrap .i64 (x9 + 1)) w2 < μ x6 x7 x9 w1))))) ∧ (decide (x9 < (64 : Int)) = false → (R (.returned (.tuple #[(.int .u64 x6), (.int .u64 x7)])) w1))))) : Calls Tryz.prog 330 #[(.int .u64 a0), (.int .u64 a1)] w R := calls_of_ev2 (tc := .sq [.rg 2, .rg 2, .seq (.rg 1) (.blk (.loop (lr [(6, 23)]) [6, 7, 9] [.int .u64, .int .u64, .int .i64] (.sq [.rg 1, .cond .leaf .leaf, .blk (.sq [.rg 2, .reg (.pp 2 (.op .sc (.pp 2 .nil)))] (.join (lr [(6, 2), (17, 11)]) [6, 7] [.int .u64, .int .u64] (.cond (.seq (.reg (.pp 3 (.op .sc (.pp 2 .nil)))) (.reg (.pp 4 (.op .sc (.pp 2 .nil))))) .leaf)))] (.rg 2)))), .rg 4] .leaf) Tryz.func330 (by kernel_rfl) (by kernel_rfl) h

theorem poly_Gcd_vc (a0a : Option Addr) (a0n : Nat) (a0c : Nat) (w : World) (R : Ending → World → Prop) (h : ∃ (I : Int → Int → World → Prop) (μ : Int → Int → World → Nat), I 0 0 w ∧ (∀ x3 x8, ∀ w1, I x3 x8 w1 → ((decide (x8 < (a0n : Int)) = true → (∃ t10b t10o, a0a = some ⟨t10b, t10o, none⟩ ∧ 0 ≤ x8 ∧ x8 < (a0n : Int) ∧ (∃ t11, LdQ 42 t10b (t10o + Int.toNat x8 * 1) (.int .u64 t11) w1 ∧ (∃ (I_1 : Int → Int → World → Prop) (μ_1 : Int → Int → World → Nat), I_1 x3 t11 w1 ∧ (∀ x3_1 x5, ∀ w2, I_1 x3_1 x5 w2 → (((x5 != (0 : Int)) = true → (Calls Tryz.prog 276 #[(.int .u64 0), (.int .u64 x3_1), (.int .u64 x5)] w2 fun e17 w3 => ∃ t17, e17 = .returned (.int .u64 t17) ∧ (I_1 x5 t17 w3 ∧ μ_1 x5 t17 w3 < μ_1 x3_1 x5 w2))) ∧ ((x5 != (0 : Int)) = false → (I x3_1 (IntKind.wrap .i64 (x8 + 1)) w2 ∧ μ x3_1 (IntKind.wrap .i64 (x8 + 1)) w2 < μ x3 x8 w1)))))))) ∧ (decide (x8 < (a0n : Int)) = false → (R (.returned (.int .u64 x3)) w1))))) : Calls Tryz.prog 279 #[(.slice a0a a0n a0c)] w R := calls_of_ev2 (tc := .sq [.rg 1, .rg 1, .seq (.rg 3) (.blk (.loop (lr [(3, 1), (5, 1), (8, 11)]) [3, 8] [.int .u64, .int .i64] (.sq [.rg 1, .cond .leaf .leaf, .blk (.seq (.reg (.op .ix (.op (.ld (.int .u64)) (.op .p .nil)))) (.blk (.loop [3, 5, 12, 13, 14, 15, 16, 17] [3, 5] [.int .u64, .int .u64] (.seq (.seq (.rg 2) (.cond .leaf .leaf)) (.blk (.reg (.pp 3 (.op (.cl [.int .u64]) (.pp 2 .nil)))))))))] (.rg 2)))), .rg 2] .leaf) Tryz.func279 (by kernel_rfl) (by kernel_rfl) h

theorem poly_primes_vc (a0 : Int) (w : World) (R : Ending → World → Prop) (h : ∃ (I : Int → Option Addr → Nat → Nat → Int → World → Prop) (μ : Int → Option Addr → Nat → Nat → Int → World → Nat), I a0 none 0 0 2 w ∧ (∀ x0 x3a x3n x3c x4, ∀ w1, I x0 x3a x3n x3c x4 w1 → ((decide (x0 > (1 : Int)) = true → (x4 ≠ 0 ∧ ((((Int.tmod x0 x4) != (0 : Int)) = true → (I x0 x3a x3n x3c (IntKind.wrap .i64 (x4 + 1)) w1 ∧ μ x0 x3a x3n x3c (IntKind.wrap .i64 (x4 + 1)) w1 < μ x0 x3a x3n x3c x4 w1)) ∧ (((Int.tmod x0 x4) != (0 : Int)) = false → (∃ t15a t15n t15c w2, (Instr.buildSlice 29 1 #[(0, (.int .i64 x4))]).run Tryz.prog w1 = .ok (.slice t15a t15n t15c) w2 ∧ (∃ t16a t16n t16c w3, (Builtin.append_ #[29, 29] 29 #[(.slice x3a x3n x3c), (.slice t15a t15n t15c)]).run Tryz.prog w2 = .ok (.slice t16a t16n t16c) w3 ∧ (∃ (I_1 : Int → World → Prop) (μ_1 : Int → World → Nat), I_1 x0 w3 ∧ (∀ x0_1, ∀ w4, I_1 x0_1 w4 → (x4 ≠ 0 ∧ ((((Int.tmod x0_1 x4) == (0 : Int)) = true → (x4 ≠ 0 ∧ (I_1 (IntKind.wrap .i64 (Int.tdiv x0_1 x4)) w4 ∧ μ_1 (IntKind.wrap .i64 (Int.tdiv x0_1 x4)) w4 < μ_1 x0_1 w4))) ∧ (((Int.tmod x0_1 x4) == (0 : Int)) = false → (I x0_1 t16a t16n t16c (IntKind.wrap .i64 (x4 + 1)) w4 ∧ μ x0_1 t16a t16n t16c (IntKind.wrap .i64 (x4 + 1)) w4 < μ x0 x3a x3n x3c x4 w1)))))))))))) ∧ (decide (x0 > (1 : Int)) = false → (R (.returned (.slice x3a x3n x3c)) w1))))) : Calls Tryz.prog 278 #[(.int .i64 a0)] w R := calls_of_ev2 (tc := .sq [.rg 1, .rg 1, .seq (.rg 1) (.blk (.loop (lr [(0, 1), (3, 21)]) [0, 3, 4] [.int .i64, .slice, .int .i64] (.sq [.seq (.rg 2) (.cond .leaf .leaf), .blk (.sq [.seq (.reg (.pp 2 (.op .sc (.op .p .nil)))) (.cond .leaf .leaf), .reg (.pp 2 (.op (.r .slice) (.op (.r .slice) (.op .p .nil))))] (.blk (.loop (lr [(0, 1), (17, 7)]) [0] [.int .i64] (.seq (.seq (.reg (.pp 2 (.op .sc (.op .p .nil)))) (.cond .leaf .leaf)) (.blk (.reg (.pp 2 (.op .sc (.op .p .nil)))))))))] (.rg 3)))), .rg 2] .leaf) Tryz.func278 (by kernel_rfl) (by kernel_rfl) h

theorem poly_Irreducible_vc (a0 : Int) (w : World) (R : Ending → World → Prop) (h : ∃ g1 w1, (Instr.box 42 (.int .u64 a0)).run Tryz.prog w = .ok (.pointer (some ⟨g1, 0, none⟩)) w1 ∧ (∃ t7, LdQ 42 g1 0 (.int .u64 t7) w1 ∧ (Calls Tryz.prog 205 #[(.int .u64 t7)] w1 fun e8 w2 => ∃ t8, e8 = .returned (.int .i64 t8) ∧ ((decide (t8 < (1 : Int)) = true → (R (.returned (.bool false)) w2)) ∧ (decide (t8 < (1 : Int)) = false → (∃ t11 w3, (Instr.makeFunc (.func 275) #[] #[(.pointer (some ⟨g1, 0, none⟩))]).run Tryz.prog w2 = .ok t11 w3 ∧ (Calls Tryz.prog 278 #[(.int .i64 t8)] w3 fun e13 w4 => ∃ t13a t13n t13c, e13 = .returned (.slice t13a t13n t13c) ∧ (∃ (I : Int → World → Prop) (μ : Int → World → Nat), I 0 w4 ∧ (∀ x15, ∀ w5, I x15 w5 → ((decide (x15 < (t13n : Int)) = true → (∃ t17b t17o, t13a = some ⟨t17b, t17o, none⟩ ∧ 0 ≤ x15 ∧ x15 < (t13n : Int) ∧ (∃ t18, LdQ 3 t17b (t17o + Int.toNat x15 * 1) (.int .i64 t18) w5 ∧ (∃ S : World → Prop, S w5.drew ∧ (t18 ≠ 0 ∧ (∃ t19, (∀ w', S w' → LdQ 42 g1 0 (.int .u64 t19) w') ∧ (∃ t25, (∀ w', S w' → LdQ 42 g1 0 (.int .u64 t25) w') ∧ (∃ (f24 : Nat) (cb24 : List Value), t11 = .func (.func f24) #[] ⟨cb24⟩ ∧ goesIn Tryz.prog f24 = true ∧ Calls Tryz.prog f24 (([(.int .i64 (IntKind.wrap .i64 (Int.tdiv t8 t18)))] : List Value) ++ cb24).toArray w5.drew fun e24 w6 => ∃ t24, e24 = .returned (.int .u64 t24) ∧ (∃ S_1 : World → Prop, (∀ w', S_1 w' → S w') ∧ S_1 w6 ∧ (Calls Tryz.prog 276 #[(.int .u64 0), (.int .u64 2), (.int .u64 t25)] w6 fun e26 w7 => ∃ t26, e26 = .returned (.int .u64 t26) ∧ (∃ S_2 : World → Prop, (∀ w', S_2 w' → S_1 w') ∧ S_2 w7 ∧ (∃ t28a t28n t28c w8, (Instr.buildSlice 433 2 #[(0, (.int .u64 t19)), (1, (.int .u64 (bxor .u64 t24 t26)))]).run Tryz.prog w7 = .ok (.slice t28a t28n t28c) w8 ∧ (∃ S_3 : World → Prop, (∀ w', S_3 w' → S_2 w') ∧ S_3 w8 ∧ (Calls Tryz.prog 279 #[(.slice t28a t28n t28c)] w8 fun e29 w9 => ∃ t29, e29 = .returned (.int .u64 t29) ∧ (∃ S_4 : World → Prop, (∀ w', S_4 w' → S_3 w') ∧ S_4 w9 ∧ (((t29 != (1 : Int)) = true → (R (.returned (.bool false)) w9)) ∧ ((t29 != (1 : Int)) = false → (I (IntKind.wrap .i64 (x15 + 1)) w9 ∧ μ (IntKind.wrap .i64 (x15 + 1)) w9 < μ x15 w5)))))))))))))))))) ∧ (decide (x15 < (t13n : Int)) = false → (∃ S : World → Prop, S w5.drew ∧ (∃ t35, (∀ w', S w' → LdQ 42 g1 0 (.int .u64 t35) w') ∧ (∃ (f34 : Nat) (cb34 : List Value), t11 = .func (.func f34) #[] ⟨cb34⟩ ∧ goesIn Tryz.prog f34 = true ∧ Calls Tryz.prog f34 (([(.int .i64 t8)] : List Value) ++ cb34).toArray w5.drew fun e34 w10 => ∃ t34, e34 = .returned (.int .u64 t34) ∧ (∃ S_1 : World → Prop, (∀ w', S_1 w' → S w') ∧ S_1 w10 ∧ (Calls Tryz.prog 276 #[(.int .u64 0), (.int .u64 2), (.int .u64 t35)] w10 fun e36 w11 => ∃ t36, e36 = .returned (.int .u64 t36) ∧ (∃ S_2 : World → Prop, (∀ w', S_2 w' → S_1 w') ∧ S_2 w11 ∧ (R (.returned (.bool (t34 == t36))) w11)))))))))))))))))) : Calls Tryz.prog 206 #[(.int .u64 a0)] w R := calls_of_ev2 (tc := .sq [.reg (.op .bx (.op .p .nil)), .reg (.op (.ld (.int .u64)) (.op (.cl [.int .i64]) (.op .p .nil))), .seq (.rg 2) (.cond (.seq (.rg 1) .leaf) .leaf), .reg (.op (.r .val) (.op .p .nil)), .seq (.reg (.op .p (.op (.cl [.slice]) (.pp 2 .nil)))) (.blk (.loop (lr [(2, 1), (6, 1), (15, 17)]) [15] [.int .i64] (.sq [.rg 1, .cond .leaf .leaf, .blk (.sq [.reg (.op .ix (.op (.ld (.int .i64)) (.op .p .nil))), .drawS (.tks [1, 2, 3] (.tk 4 .sc (.ts 0 (.int .u64) (.ts 6 (.int .u64) (.go 5 (.cv [.int .u64]) (.go 7 (.cl [.int .u64]) (.tk 8 .p (.go 9 (.r .slice) (.go 10 (.cl [.int .u64]) (.tk 11 .p .nil)))))))))) []] (.cond (.seq (.rg 1) .leaf) .leaf))] (.rg 2)))), .drawS (.tks [0, 1] (.ts 3 (.int .u64) (.go 2 (.cv [.int .u64]) (.go 4 (.cl [.int .u64]) (.tks [5, 6] .nil))))) []] .leaf) Tryz.func206 (by kernel_rfl) (by kernel_rfl) h

theorem poly_Irreducible_1_vc (a0 : Int) (a1b : Nat) (a1o : Nat) (w : World) (R : Ending → World → Prop) (h : ∃ t5, LdQ 42 a1b a1o (.int .u64 t5) w ∧ (Calls Tryz.prog 276 #[(.int .u64 0), (.int .u64 2), (.int .u64 t5)] w fun e6 w1 => ∃ t6, e6 = .returned (.int .u64 t6) ∧ (∃ (I : Int → Int → World → Prop) (μ : Int → Int → World → Nat), I t6 0 w1 ∧ (∀ x4 x8, ∀ w2, I x4 x8 w2 → ((decide (x8 < a0) = true → (∃ t10, LdQ 42 a1b a1o (.int .u64 t10) w2 ∧ (Calls Tryz.prog 277 #[(.int .u64 t10), (.int .u64 x4), (.int .u64 x4)] w2 fun e13 w3 => ∃ t13, e13 = .returned (.int .u64 t13) ∧ (I t13 (IntKind.wrap .i64 (x8 + 1)) w3 ∧ μ t13 (IntKind.wrap .i64 (x8 + 1)) w3 < μ x4 x8 w2)))) ∧ (decide (x8 < a0) = false → (R (.returned (.int .u64 x4)) w2))))))) : Calls Tryz.prog 275 #[(.int .i64 a0), (.pointer (some ⟨a1b, a1o, none⟩))] w R := calls_of_ev2 (tc := .sq [.rg 1, .reg (.op (.ld (.int .u64)) (.op (.cl [.int .u64]) (.op .p .nil))), .seq (.rg 2) (.blk (.loop (lr [(4, 1), (8, 7)]) [4, 8] [.int .u64, .int .i64] (.sq [.rg 1, .cond .leaf .leaf, .blk (.reg (.op (.ld (.int .u64)) (.pp 2 (.op (.cl [.int .u64]) (.op .p .nil)))))] (.rg 2)))), .rg 2] .leaf) Tryz.func275 (by kernel_rfl) (by kernel_rfl) h

theorem rabin_Check_vc (a0 : Array Value) (w : World) (R : Ending → World → Prop) (h : ∃ g1 w1, (Instr.box 44 (.agg a0)).run Tryz.prog w = .ok (.pointer (some ⟨g1, 0, none⟩)) w1 ∧ (∃ t5, LdQ 42 g1 0 (.int .u64 t5) w1 ∧ (Calls Tryz.prog 205 #[(.int .u64 t5)] w1 fun e6 w2 => ∃ t6, e6 = .returned (.int .i64 t6) ∧ (∃ J : Bool → World → Prop, ((((decide (t6 < (8 : Int))) || (decide (t6 > (55 : Int)))) = true → (J true w2)) ∧ (((decide (t6 < (8 : Int))) || (decide (t6 > (55 : Int)))) = false → (∃ t16, LdQ 42 g1 0 (.int .u64 t16) w2 ∧ (Calls Tryz.prog 206 #[(.int .u64 t16)] w2 fun e17 w3 => ∃ t17, e17 = .returned (.bool t17) ∧ (J (!t17) w3))))) ∧ (∀ x7, ∀ w4, J x7 w4 → (∃ J_1 : World → Prop, ((x7 = true → (J_1  w4)) ∧ (x7 = false → (∃ J_2 : Bool → World → Prop, (∃ t22, LdQ 3 g1 1 (.int .i64 t22) w4 ∧ ((decide (t22 < (1 : Int)) = true → (J_2 true w4)) ∧ (decide (t22 < (1 : Int)) = false → (∃ t26, LdQ 3 g1 1 (.int .i64 t26) w4 ∧ (J_2 (decide (t26 > (64 : Int))) w4))))) ∧ (∀ x20, ∀ w5, J_2 x20 w5 → (∃ J_3 : World → Prop, ((x20 = true → (J_3  w5)) ∧ (x20 = false → (∃ J_4 : Bool → World → Prop, (∃ t31, LdQ 3 g1 2 (.int .i64 t31) w5 ∧ (∃ t33, LdQ 3 g1 1 (.int .i64 t33) w5 ∧ ((decide (t31 < t33) = true → (J_4 true w5)) ∧ (decide (t31 < t33) = false → (∃ t37, LdQ 3 g1 3 (.int .i64 t37) w5 ∧ (∃ t39, LdQ 3 g1 2 (.int .i64 t39) w5 ∧ ((decide (t37 < t39) = true → (J_4 true w5)) ∧ (decide (t37 < t39) = false → (∃ t44, LdQ 3 g1 3 (.int .i64 t44) w5 ∧ (J_4 (decide (t44 > (65536 : Int))) w5)))))))))) ∧ (∀ x29, ∀ w6, J_4 x29 w6 → (∃ J_5 : World → Prop, ((x29 = true → (J_5  w6)) ∧ (x29 = false → (∃ J_6 : Bool → World → Prop, (∃ t49, LdQ 3 g1 4 (.int .i64 t49) w6 ∧ ((decide (t49 < (0 : Int)) = true → (J_6 true w6)) ∧ (decide (t49 < (0 : Int)) = false → (∃ t53, LdQ 3 g1 4 (.int .i64 t53) w6 ∧ ((decide (t53 > t6) = true → (J_6 true w6)) ∧ (decide (t53 > t6) = false → (∃ t59, LdQ 3 g1 4 (.int .i64 t59) w6 ∧ (J_6 (decide (t59 > (20 : Int))) w6)))))))) ∧ (∀ x47, ∀ w7, J_6 x47 w7 → ((x47 = true → (J_5  w7)) ∧ (x47 = false → (R (.returned .nilIface) w7))))))) ∧ (∀ w8, J_5  w8 → (J_3  w8))))))) ∧ (∀ w9, J_3  w9 → (J_1  w9))))))) ∧ (∀ w10, J_1  w10 → (R (.returned (.iface 65 (.int .i64 11))) w10)))))))) : Calls Tryz.prog 105 #[(.agg a0)] w R := calls_of_ev2 (tc := .sq [.reg (.op .bx (.op .p .nil)), .reg (.op .p (.op (.ld (.int .u64)) (.op (.cl [.int .i64]) (.op .p .nil)))), .blk (.seq (.join (lr [(7, 13)]) [7] [.bool] (.reg (.pp 3 (.ap 2 (.op .p (.sp 14 (.pp 6 .nil) (.op .p (.op (.ld (.int .u64)) (.op (.cl [.bool]) (.pp 3 .nil)))))))))) (.join (lr [(2, 1), (20, 42)]) [] [] (.cond .leaf (.seq (.join (lr [(20, 9)]) [20] [.bool] (.reg (.op .p (.op (.ld (.int .i64)) (.pp 2 (.sp 24 (.pp 5 .nil) (.op .p (.op (.ld (.int .i64)) (.pp 3 .nil))))))))) (.join (lr [(2, 1), (29, 33)]) [] [] (.cond .leaf (.seq (.join (lr [(29, 18)]) [29] [.bool] (.reg (.op .p (.op (.ld (.int .i64)) (.op .p (.op (.ld (.int .i64)) (.pp 2 (.sp 35 (.pp 12 .nil) (.op .p (.op (.ld (.int .i64)) (.op .p (.op (.ld (.int .i64)) (.pp 3 (.sp 42 (.pp 5 .nil) (.op .p (.op (.ld (.int .i64)) (.pp 3 .nil))))))))))))))))) (.join (lr [(2, 1), (47, 15)]) [] [] (.cond .leaf (.seq (.join (lr [(47, 15)]) [47] [.bool] (.reg (.op .p (.op (.ld (.int .i64)) (.pp 2 (.sp 51 (.pp 11 .nil) (.op .p (.op (.ld (.int .i64)) (.pp 4 (.sp 57 (.pp 5 .nil) (.op .p (.op (.ld (.int .i64)) (.pp 3 .nil))))))))))))) (.cond .leaf (.seq (.rg 1) .leaf)))))))))))), .rg 2] .leaf) Tryz.func105 (by kernel_rfl) (by kernel_rfl) h

end Go.Proofs.YtpmhjnhgpplmnaaGreatDoor
end

section
namespace Go.Proofs.YtpmhjnhgpplmnaaGreatDoor
open Go Sx Gf2
set_option maxRecDepth 8000

abbrev W64 : Nat := 18446744073709551616
theorem w64 : W64 = 2 ^ 64 := by decide
theorem xor64_lt {a b : Nat} (ha : a < W64) (hb : b < W64) : a ^^^ b < W64 := by rw [w64] at *; exact Nat.xor_lt_two_pow ha hb
theorem x64 {a b : Nat} (ha : a < W64) (hb : b < W64) : bxor .u64 (a : Int) (b : Int) = ((a ^^^ b : Nat) : Int) := bxor_nat rfl (by simpa [kmod, IntKind.bits] using ha) (by simpa [kmod, IntKind.bits] using hb)
theorem and64 {a b : Nat} (ha : a < W64) (hb : b < W64) : band .u64 (a : Int) (b : Int) = ((a &&& b : Nat) : Int) := band_nat rfl (by simpa [kmod, IntKind.bits] using ha) (by simpa [kmod, IntKind.bits] using hb)
theorem shl64 {x n : Nat} (hn : n ≤ 64) : shlI .u64 (x : Int) ((n : Nat) : Int) = ((x * 2 ^ n % W64 : Nat) : Int) := shl_nat rfl _ _ hn
theorem shr64 {x n : Nat} (hn : n ≤ 64) : shrI .u64 (x : Int) ((n : Nat) : Int) = ((x / 2 ^ n : Nat) : Int) := shr_nat _ _ _ hn
theorem bit64 {x n : Nat} (hx : x < W64) (hn : n ≤ 64) : band .u64 (shrI .u64 (x : Int) (n : Int)) 1 = ((x / 2 ^ n % 2 : Nat) : Int) := by
 rw [shr64 hn]
 have := and64 (a := x / 2 ^ n) (b := 1) (Nat.lt_of_le_of_lt (Nat.div_le_self _ _) hx) (by decide)
 rw [Nat.and_one_is_mod] at this
 exact this

def lenN (x : Nat) : Nat := if x = 0 then 0 else x.log2 + 1
theorem lenN_deg {x d : Nat} (h : DegIs x d) : lenN x = d + 1 := by
 rw [lenN, if_neg h.ne, (degIs_log h.ne).uniq h]
theorem Gf2.DegIs.shr {x d k : Nat} (h : DegIs x d) (hk : k ≤ d) : DegIs (x / 2 ^ k) (d - k) := by
 have hp := Nat.two_pow_pos k
 refine ⟨(Nat.le_div_iff_mul_le hp).2 ?_, (Nat.div_lt_iff_lt_mul hp).2 ?_⟩
 · rw [← Nat.pow_add, show d - k + k = d by omega]; exact h.1
 · rw [← Nat.pow_add, show d - k + 1 + k = d + 1 by omega]; exact h.2
theorem lenN_shift {x k : Nat} (h : 2 ^ k ≤ x) : lenN x = k + lenN (x / 2 ^ k) := by
 have h0 : x ≠ 0 := by have := Nat.two_pow_pos k; omega
 have hd := degIs_log h0
 have hk : k ≤ x.log2 := Nat.le_of_not_lt fun hl => by
   have := Nat.pow_le_pow_right (show 0 < 2 by decide) (show x.log2 + 1 ≤ k from hl)
   have := hd.2
   omega
 rw [lenN_deg hd, lenN_deg (hd.shr hk)]
 omega
def lenTab : List UInt8 := (List.range 256).map fun x => UInt8.ofNat (lenN x)
theorem lenTab_lit : lenTab = [0, 1, 2, 2, 3, 3, 3, 3, 4, 4, 4, 4, 4, 4, 4, 4, 5, 5, 5, 5, 5, 5, 5, 5, 5, 5, 5, 5, 5, 5, 5, 5, 6, 6, 6, 6, 6, 6, 6, 6, 6, 6, 6, 6, 6, 6, 6, 6, 6, 6, 6, 6, 6, 6, 6, 6, 6, 6, 6, 6, 6, 6, 6, 6, 7, 7, 7, 7, 7, 7, 7, 7, 7, 7, 7, 7, 7, 7, 7, 7, 7, 7, 7, 7, 7, 7, 7, 7, 7, 7, 7, 7, 7, 7, 7, 7, 7, 7, 7, 7, 7, 7, 7, 7, 7, 7, 7, 7, 7, 7, 7, 7, 7, 7, 7, 7, 7, 7, 7, 7, 7, 7, 7, 7, 7, 7, 7, 7, 8, 8, 8, 8, 8, 8, 8, 8, 8, 8, 8, 8, 8, 8, 8, 8, 8, 8, 8, 8, 8, 8, 8, 8, 8, 8, 8, 8, 8, 8, 8, 8, 8, 8, 8, 8, 8, 8, 8, 8, 8, 8, 8, 8, 8, 8, 8, 8, 8, 8, 8, 8, 8, 8, 8, 8, 8, 8, 8, 8, 8, 8, 8, 8, 8, 8, 8, 8, 8, 8, 8, 8, 8, 8, 8, 8, 8, 8, 8, 8, 8, 8, 8, 8, 8, 8, 8, 8, 8, 8, 8, 8, 8, 8, 8, 8, 8, 8, 8, 8, 8, 8, 8, 8, 8, 8, 8, 8, 8, 8, 8, 8, 8, 8, 8, 8, 8, 8, 8, 8, 8, 8, 8, 8, 8, 8, 8, 8] := by kernel_rfl
theorem ixS8 {l : List UInt8} {i : Nat} (hi : i < l.length) (w : World) : (Instr.index 9 (.string ⟨l.toArray⟩) (.int .u8 (i : Int))).run Tryz.prog w = .ok (.int .u8 ((l.getD i 0).toNat : Int)) w := by
 have h1 : (⟨l.toArray⟩ : ByteArray)[i]? = some (l.getD i 0) := by
   have h2 : i < (⟨l.toArray⟩ : ByteArray).size := by show i < l.toArray.size; simpa using hi
   rw [getElem?_pos _ i h2]
   show some (l.toArray[i]'(by simpa using hi)) = _
   simp [List.getD, hi]
 have h0 : (0 : Int) ≤ (i : Int) := by omega
 simp only [Instr.index, Sem.run_bind, asIntOf, Sem.run_pure, run_underlying Tryz.underlying9, Result.andThen_ok, h0, if_true, Int.toNat_natCast, h1]
theorem len64_spec (x : Nat) (hx : x < W64) (w : World) : Calls Tryz.prog 274 #[.int .u64 (x : Int)] w fun e w' => e = .returned (.int .i64 ((lenN x : Nat) : Int)) ∧ w' = w := by
 apply bits_Len64_vc
 refine ⟨fun y n w' => ∃ y' n' : Nat, y = y' ∧ n = n' ∧ y' < 4294967296 ∧ n' ≤ 32 ∧ n' + lenN y' = lenN x ∧ w' = w, ⟨fun h => ?_, fun h => ?_⟩, ?_⟩
 · simp only [decide_eq_true_eq, ge_iff_le] at h
   have h32 : 2 ^ 32 ≤ x := by omega
   have hx' : x < 18446744073709551616 := hx
   refine ⟨x / 2 ^ 32, 32, shr64 (by decide), rfl, by omega, by omega, (lenN_shift h32).symm, rfl⟩
 · simp only [decide_eq_false_iff_not, ge_iff_le] at h
   exact ⟨x, 0, rfl, rfl, by omega, by omega, by omega, rfl⟩
 rintro y n w1 ⟨y, n, rfl, rfl, hy, hn, hl, rfl⟩
 refine ⟨fun y n w' => ∃ y' n' : Nat, y = y' ∧ n = n' ∧ y' < 65536 ∧ n' ≤ 48 ∧ n' + lenN y' = lenN x ∧ w' = w1, ⟨fun h => ?_, fun h => ?_⟩, ?_⟩
 · simp only [decide_eq_true_eq, ge_iff_le] at h
   have h16 : 2 ^ 16 ≤ y := by omega
   have := lenN_shift h16
   exact ⟨y / 2 ^ 16, n + 16, shr64 (by decide), by rw [wrap_i64 (by omega) (by omega)]; omega, by omega, by omega, by omega, rfl⟩
 · simp only [decide_eq_false_iff_not, ge_iff_le] at h
   exact ⟨y, n, rfl, rfl, by omega, by omega, hl, rfl⟩
 rintro y n w2 ⟨y, n, rfl, rfl, hy, hn, hl, rfl⟩
 refine ⟨fun y n w' => ∃ y' n' : Nat, y = y' ∧ n = n' ∧ y' < 256 ∧ n' ≤ 56 ∧ n' + lenN y' = lenN x ∧ w' = w2, ⟨fun h => ?_, fun h => ?_⟩, ?_⟩
 · simp only [decide_eq_true_eq, ge_iff_le] at h
   have h8 : 2 ^ 8 ≤ y := by omega
   have := lenN_shift h8
   exact ⟨y / 2 ^ 8, n + 8, shr64 (by decide), by rw [wrap_i64 (by omega) (by omega)]; omega, by omega, by omega, by omega, rfl⟩
 · simp only [decide_eq_false_iff_not, ge_iff_le] at h
   exact ⟨y, n, rfl, rfl, by omega, by omega, hl, rfl⟩
 rintro y n w3 ⟨y, n, rfl, rfl, hy, hn, hl, rfl⟩
 have hle : lenN y ≤ 8 := by
   unfold lenN
   split
   · omega
   · rename_i h0
     have h1 := (degIs_log h0).1
     have : y.log2 < 8 := Nat.lt_of_not_le fun h8 => by
       have := Nat.pow_le_pow_right (show 0 < 2 by decide) h8
       omega
     omega
 have hg : ((lenTab.getD y 0).toNat : Int) = ((lenN y : Nat) : Int) := by
   rw [lenTab, List.getD_eq_getElem?_getD, List.getElem?_map, List.getElem?_range hy]
   simp only [Option.map_some, Option.getD_some]
   rw [UInt8.toNat_ofNat', Nat.mod_eq_of_lt (by omega)]
 have ht : lenTab.length = 256 := by simp [lenTab]
 have hix := ixS8 (l := lenTab) (i := y) (by omega) w3
 rw [hg, lenTab_lit] at hix
 refine ⟨_, by rw [wrap_u8, Int.emod_eq_of_lt (by omega) (by omega)]; exact hix, ?_, rfl⟩
 rw [wrap_i64 (n := ((lenN y : Nat) : Int)) (by omega) (by omega), wrap_i64 (by omega) (by omega)]
 congr 2
 omega

def degZ (p : Nat) : Int := (lenN p : Int) - 1
theorem degZ_deg {p d : Nat} (h : DegIs p d) : degZ p = d := by rw [degZ, lenN_deg h]; omega
theorem deg_spec (p : Nat) (hp : p < W64) (w : World) : Calls Tryz.prog 205 #[.int .u64 (p : Int)] w fun e w' => e = .returned (.int .i64 (degZ p)) ∧ w' = w := by
 have hl : lenN p ≤ 64 := by
   unfold lenN
   split
   · omega
   · rename_i h0
     have h1 := (degIs_log h0).1
     have : p.log2 < 64 := Nat.lt_of_not_le fun h8 => by
       have := Nat.pow_le_pow_right (show 0 < 2 by decide) h8
       have := w64
       omega
     omega
 apply poly_Deg_vc
 refine (len64_spec p hp w).mono ?_
 rintro e w1 ⟨rfl, rfl⟩
 refine ⟨_, rfl, ?_, rfl⟩
 rw [wrap_i64 (by omega) (by omega)]
 rfl

end Go.Proofs.YtpmhjnhgpplmnaaGreatDoor
end

section
namespace Go.Proofs.YtpmhjnhgpplmnaaGreatDoor
open Go Sx Gf2
set_option maxRecDepth 8000

theorem beq0 (n : Nat) : (((n : Nat) : Int) == 0) = decide (n = 0) := by
 rw [Bool.eq_iff_iff]; simp
theorem beq1 (n : Nat) : (((n : Nat) : Int) == 1) = decide (n = 1) := by
 rw [Bool.eq_iff_iff]; simp; omega

theorem two_xor64 {a b c e : Nat} (hb : b < W64) (he : e < W64) : (a ^^^ c) * W64 + (b ^^^ e) = (a * W64 + b) ^^^ (c * W64 + e) := by
 rw [w64] at *
 refine Nat.eq_of_testBit_eq fun j => ?_
 rw [Nat.testBit_xor, Nat.mul_comm, Nat.mul_comm a, Nat.mul_comm c, Nat.testBit_two_pow_mul_add _ (Nat.xor_lt_two_pow hb he), Nat.testBit_two_pow_mul_add _ hb, Nat.testBit_two_pow_mul_add _ he]
 split <;> rw [Nat.testBit_xor]
theorem split64 (x : Nat) {s : Nat} (hs : s ≤ 64) : x / 2 ^ (64 - s) * W64 + x * 2 ^ s % W64 = x * 2 ^ s := by
 have h1 : x * 2 ^ s / W64 = x / 2 ^ (64 - s) := by
   rw [w64, show (64 : Nat) = (64 - s) + s by omega, Nat.pow_add, show (64 - s + s) - s = 64 - s by omega]
   exact Nat.mul_div_mul_right _ _ (Nat.two_pow_pos s)
 have := Nat.div_add_mod (x * 2 ^ s) W64
 rw [h1, Nat.mul_comm W64] at this
 exact this

theorem mod2_lt {x i : Nat} (hx : x < 2 ^ (i + 1)) : (x / 2 ^ i % 2 = 0 → x < 2 ^ i) ∧ (x / 2 ^ i % 2 ≠ 0 → DegIs x i) := by
 have hp := Nat.two_pow_pos i
 have h2 : x / 2 ^ i < 2 := (Nat.div_lt_iff_lt_mul hp).2 (by rw [Nat.pow_succ] at hx; omega)
 constructor
 · intro h
   refine Nat.lt_of_not_le fun hl => ?_
   have := (Nat.le_div_iff_mul_le hp).2 (show 1 * 2 ^ i ≤ x by omega)
   omega
 · intro h
   refine ⟨Nat.le_of_not_lt fun hl => h ?_, hx⟩
   rw [Nat.div_eq_of_lt hl]

theorem degIs_lt {m d : Nat} (h : DegIs m d) (hm : m < W64) : d < 64 := Nat.lt_of_not_le fun h8 => by
 have := Nat.pow_le_pow_right (show 0 < 2 by decide) h8
 have := h.1
 have := w64
 omega
theorem lt_of_deg {x d : Nat} (h : DegIs x d) (hd : d < 64) : x < W64 := by
 have := Nat.pow_le_pow_right (show 0 < 2 by decide) (show d + 1 ≤ 64 from hd)
 have := h.2
 have := w64
 omega

set_option maxHeartbeats 1000000 in
theorem mod_spec {m d : Nat} (hm : DegIs m d) (hm64 : m < W64) (hi lo : Nat) (hhi : hi < W64) (hlo : lo < W64) (w : World) :
   Calls Tryz.prog 276 #[.int .u64 (hi : Int), .int .u64 (lo : Int), .int .u64 (m : Int)] w fun e w' => ∃ r : Nat, e = .returned (.int .u64 (r : Int)) ∧ IsMod m d (hi * W64 + lo) r ∧ r < W64 ∧ w' = w := by
 have hd := degIs_lt hm hm64
 apply poly_mod_vc
 refine (deg_spec m hm64 w).mono ?_
 rintro e w1 ⟨rfl, rfl⟩
 rw [degZ_deg hm]
 refine ⟨_, rfl, fun x y z w' => ∃ (a b k : Nat), x = (a : Int) ∧ y = (b : Int) ∧ z = (k : Int) - 1 ∧ k ≤ 64 ∧ a < 2 ^ k ∧ b < W64 ∧ Dv m ((a * W64 + b) ^^^ (hi * W64 + lo)) ∧ w' = w1, fun _ _ z _ => (z + 1).toNat, ⟨hi, lo, 64, rfl, rfl, rfl, by omega, by rw [← w64]; exact hhi, hlo, by rw [Nat.xor_self]; exact Dv.zero m, rfl⟩, ?_⟩
 rintro x y z w2 ⟨a, b, k, rfl, rfl, rfl, hk, ha, hb, hdv, rfl⟩
 refine ⟨fun h => ?_, fun h => ?_⟩
 · simp only [ge_iff_le, decide_eq_true_eq] at h
   obtain ⟨i, rfl⟩ : ∃ i, k = i + 1 := ⟨k - 1, by omega⟩
   have ez : (((i + 1 : Nat) : Int) - 1) = (i : Int) := by omega
   have hW : IntKind.wrap .i64 ((i : Int) - 1) = (i : Int) - 1 := wrap_i64 (by omega) (by omega)
   have ha64 : a < W64 := by
     have := Nat.pow_le_pow_right (show 0 < 2 by decide) hk
     have := w64
     omega
   have hs0 : IntKind.wrap .i64 (IntKind.wrap .i64 ((64 : Int) + (i : Int)) - (d : Int)) = ((64 + i - d : Nat) : Int) := by
     rw [wrap_i64 (n := (64 : Int) + i) (by omega) (by omega), wrap_i64 (by omega) (by omega)]; omega
   rw [ez, hW, hs0]
   obtain ⟨g0, g1⟩ := mod2_lt ha
   have hmu : ((i : Int) - 1 + 1).toNat < ((i : Int) + 1).toNat := by omega
   refine ⟨by omega, fun hbit => ⟨⟨a, b, i, rfl, rfl, rfl, by omega, ?_, hb, hdv, rfl⟩, hmu⟩, fun hbit => ?_⟩
   · rw [bit64 ha64 (by omega), beq0] at hbit
     exact g0 (of_decide_eq_true hbit)
   · rw [bit64 ha64 (by omega), beq0] at hbit
     have hdeg := g1 (of_decide_eq_false hbit)
     refine ⟨fun hs => ?_, fun hs => ?_⟩
     · simp only [ge_iff_le, decide_eq_true_eq] at hs
       have hsd : d ≤ i := by omega
       have e1 : IntKind.wrap .i64 (((64 + i - d : Nat) : Int) - 64) = ((i - d : Nat) : Int) := by rw [wrap_i64 (by omega) (by omega)]; omega
       have hS := hm.shift (i - d)
       rw [show d + (i - d) = i by omega] at hS
       have hS64 := lt_of_deg hS (by omega)
       rw [e1, shl64 (by omega), Nat.mod_eq_of_lt hS64, x64 ha64 hS64]
       refine ⟨by omega, ⟨_, b, i, rfl, rfl, rfl, by omega, hdeg.xor_same hS, hb, ?_, rfl⟩, hmu⟩
       have e2 := two_xor64 (a := a) (c := m * 2 ^ (i - d)) hb (show 0 < W64 by decide)
       rw [Nat.xor_zero, Nat.add_zero] at e2
       rw [e2]
       have e3 : m * 2 ^ (i - d) * W64 = m * 2 ^ (64 + i - d) := by rw [w64, Nat.mul_assoc, ← Nat.pow_add]; congr 2; omega
       rw [e3, Nat.xor_assoc, Nat.xor_comm (m * 2 ^ (64 + i - d)), ← Nat.xor_assoc]
       exact hdv.xor (mul_pow_dv m _)
     · simp only [ge_iff_le, decide_eq_false_iff_not] at hs
       obtain ⟨s, hse⟩ : ∃ s, 64 + i - d = s := ⟨_, rfl⟩
       rw [hse] at hs ⊢
       have hs64 : s ≤ 64 := by omega
       have e1 : IntKind.wrap .i64 ((64 : Int) - (s : Int)) = ((64 - s : Nat) : Int) := by rw [wrap_i64 (by omega) (by omega)]; omega
       have hsh : DegIs (m / 2 ^ (64 - s)) i := by
         have := hm.shr (k := 64 - s) (by omega)
         rwa [show d - (64 - s) = i by omega] at this
       have hq64 : m / 2 ^ (64 - s) < W64 := Nat.lt_of_le_of_lt (Nat.div_le_self _ _) hm64
       have hr64 : m * 2 ^ s % W64 < W64 := Nat.mod_lt _ (by decide)
       rw [e1, shr64 (by omega), shl64 hs64, x64 ha64 hq64, x64 hb hr64]
       refine ⟨by omega, by omega, ⟨_, _, i, rfl, rfl, rfl, by omega, hdeg.xor_same hsh, xor64_lt hb hr64, ?_, rfl⟩, hmu⟩
       rw [two_xor64 hb hr64, split64 m hs64, Nat.xor_assoc, Nat.xor_comm (m * 2 ^ s), ← Nat.xor_assoc]
       exact hdv.xor (mul_pow_dv m _)
 · simp only [ge_iff_le, decide_eq_false_iff_not] at h
   have hk0 : k = 0 := by omega
   subst hk0
   have ha0 : a = 0 := by simpa using ha
   subst ha0
   rw [Nat.zero_mul, Nat.zero_add] at hdv
   refine ⟨fun y w' => ∃ c : Nat, y = (c : Int) ∧ c < W64 ∧ Dv m (c ^^^ (hi * W64 + lo)) ∧ w' = w2, fun y _ => y.toNat, ⟨b, rfl, hb, hdv, rfl⟩, ?_⟩
   rintro y w3 ⟨c, rfl, hc, hcd, rfl⟩
   refine (deg_spec c hc w3).mono ?_
   rintro e w4 ⟨rfl, rfl⟩
   refine ⟨_, rfl, fun hge => ?_, fun hlt => ?_⟩
   · simp only [ge_iff_le, decide_eq_true_eq] at hge
     have hc0 : c ≠ 0 := by rintro rfl; simp [degZ, lenN] at hge; omega
     have hcl := degIs_log hc0
     rw [degZ_deg hcl] at hge
     have hl64 := degIs_lt hcl hc
     refine (deg_spec c hc w4).mono ?_
     rintro e w5 ⟨rfl, rfl⟩
     rw [degZ_deg hcl]
     have e1 : IntKind.wrap .i64 ((c.log2 : Int) - (d : Int)) = ((c.log2 - d : Nat) : Int) := by rw [wrap_i64 (by omega) (by omega)]; omega
     have hS := hm.shift (c.log2 - d)
     rw [show d + (c.log2 - d) = c.log2 by omega] at hS
     have hS64 := lt_of_deg hS hl64
     refine ⟨_, rfl, ?_⟩
     rw [e1, shl64 (by omega), Nat.mod_eq_of_lt hS64, x64 hc hS64]
     have hlt := Nat.lt_of_lt_of_le (hcl.xor_same hS) hcl.1
     refine ⟨by omega, ⟨_, rfl, xor64_lt hc hS64, ?_, rfl⟩, by simp only [Int.toNat_natCast]; exact hlt⟩
     rw [Nat.xor_assoc, Nat.xor_comm (m * 2 ^ _), ← Nat.xor_assoc]
     exact hcd.xor (mul_pow_dv m _)
   · simp only [ge_iff_le, decide_eq_false_iff_not] at hlt
     refine ⟨c, rfl, ⟨?_, by rw [Nat.xor_comm]; exact hcd⟩, hc, rfl⟩
     by_cases hc0 : c = 0
     · subst hc0; exact Nat.two_pow_pos d
     · have hcl := degIs_log hc0
       rw [degZ_deg hcl] at hlt
       exact Nat.lt_of_lt_of_le hcl.2 (Nat.pow_le_pow_right (by decide) (by omega))

theorem cmul_bits (a b : Nat) (i : Nat) : cmul a (b % 2 ^ (i + 1)) = cmul a (b % 2 ^ i) ^^^ (if b / 2 ^ i % 2 = 1 then a * 2 ^ i else 0) := by
 have e : b % 2 ^ (i + 1) = (b % 2 ^ i) ^^^ (if b / 2 ^ i % 2 = 1 then 2 ^ i else 0) := by
   refine Nat.eq_of_testBit_eq fun j => ?_
   rw [Nat.testBit_xor, Nat.testBit_mod_two_pow, Nat.testBit_mod_two_pow]
   have hi : b.testBit i = decide (b / 2 ^ i % 2 = 1) := Nat.testBit_eq_decide_div_mod_eq
   by_cases hj : j = i
   · subst hj
     split <;> simp [hi, Nat.testBit_two_pow_self, *]
   · have : (if b / 2 ^ i % 2 = 1 then 2 ^ i else 0).testBit j = false := by
       split
       · exact Nat.testBit_two_pow_of_ne (fun h => hj h.symm)
       · simp
     rw [this, Bool.xor_false]
     by_cases hl : j < i
     · simp [hl, Nat.lt_succ_of_lt hl]
     · have : ¬ j < i + 1 := by omega
       simp [hl, this]
 rw [e, cmul_xor]
 congr 1
 split
 · rw [cmul_pow]
 · simp

theorem mul_spec (a b : Nat) (ha : a < W64) (hb : b < W64) (w : World) :
   Calls Tryz.prog 330 #[.int .u64 (a : Int), .int .u64 (b : Int)] w fun e w' => ∃ hi lo : Nat, e = .returned (.tuple #[.int .u64 (hi : Int), .int .u64 (lo : Int)]) ∧ hi < W64 ∧ lo < W64 ∧ hi * W64 + lo = cmul a b ∧ w' = w := by
 apply poly_Mul_vc
 refine ⟨fun x y z w' => ∃ (hi lo i : Nat), x = (hi : Int) ∧ y = (lo : Int) ∧ z = (i : Int) ∧ i ≤ 64 ∧ hi < W64 ∧ lo < W64 ∧ hi * W64 + lo = cmul a (b % 2 ^ i) ∧ w' = w, fun _ _ z _ => 64 - z.toNat, ⟨0, 0, 0, rfl, rfl, rfl, by omega, by decide, by decide, by simp [Nat.mod_one], rfl⟩, ?_⟩
 rintro x y z w1 ⟨hi, lo, i, rfl, rfl, rfl, hi64, hh, hl, he, rfl⟩
 refine ⟨fun h => ?_, fun h => ?_⟩
 · have hi' : i < 64 := by simp at h; omega
   have e1 : IntKind.wrap .i64 ((64 : Int) - (i : Int)) = ((64 - i : Nat) : Int) := by rw [wrap_i64 (by omega) (by omega)]; omega
   have hq : a / 2 ^ (64 - i) < W64 := Nat.lt_of_le_of_lt (Nat.div_le_self _ _) ha
   have hr : a * 2 ^ i % W64 < W64 := Nat.mod_lt _ (by decide)
   have hb' := cmul_bits a b i
   refine ⟨by omega, fun x y w' => ∃ (hi lo : Nat), x = (hi : Int) ∧ y = (lo : Int) ∧ hi < W64 ∧ lo < W64 ∧ hi * W64 + lo = cmul a (b % 2 ^ (i + 1)) ∧ w' = w1, ⟨fun hbit => ?_, fun hbit => ?_⟩, ?_⟩
   · rw [bit64 hb (by omega), beq1] at hbit
     have hbit' : b / 2 ^ i % 2 = 1 := of_decide_eq_true hbit
     rw [e1, shr64 (by omega), shl64 (by omega), x64 hh hq, x64 hl hr]
     refine ⟨by omega, by omega, _, _, rfl, rfl, xor64_lt hh hq, xor64_lt hl hr, ?_, rfl⟩
     rw [two_xor64 hl hr, split64 a (by omega), he, hb', if_pos hbit']
   · rw [bit64 hb (by omega), beq1] at hbit
     have hbit' : ¬ b / 2 ^ i % 2 = 1 := of_decide_eq_false hbit
     refine ⟨hi, lo, rfl, rfl, hh, hl, ?_, rfl⟩
     rw [hb', if_neg hbit', Nat.xor_zero, he]
   · rintro x y w2 ⟨hi2, lo2, rfl, rfl, h1, h2, h3, rfl⟩
     exact ⟨⟨hi2, lo2, i + 1, rfl, rfl, wrap_succ hi' (by omega), by omega, h1, h2, h3, rfl⟩, mu_succ hi' (by omega)⟩
 · have hi' : i = 64 := by simp at h; omega
   subst hi'
   rw [← w64, Nat.mod_eq_of_lt hb] at he
   exact ⟨hi, lo, rfl, hh, hl, he, rfl⟩

theorem mulMod_spec {m d : Nat} (hm : DegIs m d) (hm64 : m < W64) (a b : Nat) (ha : a < W64) (hb : b < W64) (w : World) :
   Calls Tryz.prog 277 #[.int .u64 (m : Int), .int .u64 (a : Int), .int .u64 (b : Int)] w fun e w' => ∃ r : Nat, e = .returned (.int .u64 (r : Int)) ∧ IsMod m d (cmul a b) r ∧ r < W64 ∧ w' = w := by
 apply poly_mulMod_vc
 refine (mul_spec a b ha hb w).mono ?_
 rintro e w1 ⟨hi, lo, rfl, h1, h2, h3, rfl⟩
 refine ⟨_, _, rfl, (mod_spec hm hm64 hi lo h1 h2 w1).mono ?_⟩
 rintro e w2 ⟨r, rfl, hr, hr64, rfl⟩
 rw [h3] at hr
 exact ⟨_, rfl, r, rfl, hr, hr64, rfl⟩

def IsGcd (a b g : Nat) : Prop := ∀ h, Dv h g ↔ (Dv h a ∧ Dv h b)
theorem IsGcd.alone {a b g : Nat} (h : IsGcd a b g) : g = 1 ↔ Alone a b := by
 constructor
 · rintro rfl x h1 h2
   exact dv_one ((h x).2 ⟨h1, h2⟩)
 · intro ha
   have := (h g).1 (Dv.self g)
   exact ha g this.1 this.2
theorem isGcd_step {a b r d : Nat} (hr : IsMod b d a r) : ∀ h, (Dv h b ∧ Dv h r) ↔ (Dv h a ∧ Dv h b) := fun h => by
 constructor
 · rintro ⟨h1, h2⟩
   exact ⟨(h1.trans hr.dv).of_xor h2, h1⟩
 · rintro ⟨h1, h2⟩
   refine ⟨h2, ?_⟩
   have := h2.trans hr.dv
   rw [Nat.xor_comm] at this
   exact this.of_xor h1

end Go.Proofs.YtpmhjnhgpplmnaaGreatDoor
end

section
namespace Go.Proofs.YtpmhjnhgpplmnaaGreatDoor
open Go Sx Gf2
set_option maxRecDepth 8000

theorem u64A (w : World) : (isAgg 42).run Tryz.prog w = .ok false w := Tryz.isAgg42 w
theorem p64A (w : World) : (isAgg 3).run Tryz.prog w = .ok false w := Tryz.isAgg3 w

theorem gcd_spec (p y : Nat) (hp : p < W64) (hy : y < W64) (a : Option Addr) (c : Nat) (w : World) (hr : Rd w a 2 c 1 [.int .u64 (p : Int), .int .u64 (y : Int)]) :
   Calls Tryz.prog 279 #[.slice a 2 c] w fun e w' => ∃ g : Nat, e = .returned (.int .u64 (g : Int)) ∧ IsGcd p y g ∧ g < W64 ∧ w' = w := by
 apply poly_Gcd_vc
 refine ⟨fun x z w' => ∃ (A j : Nat), x = (A : Int) ∧ z = (j : Int) ∧ j ≤ 2 ∧ A < W64 ∧ (∀ h, Dv h A ↔ ∀ v ∈ [p, y].take j, Dv h v) ∧ w' = w, fun _ z _ => 2 - z.toNat, ⟨0, 0, rfl, rfl, by omega, by decide, fun h => by simp [Dv.zero], rfl⟩, ?_⟩
 rintro x z w1 ⟨A, j, rfl, rfl, hj, hA, hG, rfl⟩
 refine ⟨fun h => ?_, fun h => ?_⟩
 · have hj' : j < 2 := by simp at h; omega
   obtain ⟨v, hv, hv64⟩ : ∃ v : Nat, [p, y][j]? = some v ∧ v < W64 := by
     match j, hj' with
     | 0, _ => exact ⟨p, rfl, hp⟩
     | 1, _ => exact ⟨y, rfl, hy⟩
   have hcell : ([.int .u64 (p : Int), .int .u64 (y : Int)] : List Value)[j]? = some (.int .u64 (v : Int)) := by
     have : [Value.int .u64 (p : Int), .int .u64 (y : Int)] = [p, y].map fun (n : Nat) => Value.int .u64 (n : Int) := rfl
     rw [this, List.getElem?_map, hv]; rfl
   obtain ⟨b, o, ha, hc⟩ := hr.cells.at_ hcell
   refine ⟨b, o, ha, by omega, by omega, _, by rw [Int.toNat_natCast, Nat.mul_one]; exact ld1 (u64A _) hc, fun x z w' => ∃ (s t : Nat), x = (s : Int) ∧ z = (t : Int) ∧ s < W64 ∧ t < W64 ∧ (∀ h, (Dv h s ∧ Dv h t) ↔ (Dv h A ∧ Dv h v)) ∧ w' = w1, fun _ z _ => z.toNat, ⟨A, v, rfl, rfl, hA, hv64, fun _ => Iff.rfl, rfl⟩, ?_⟩
   rintro x z w2 ⟨s, t, rfl, rfl, hs, ht, hst, rfl⟩
   refine ⟨fun hne => ?_, fun heq => ?_⟩
   · have ht0 : t ≠ 0 := by rintro rfl; simp at hne
     refine (mod_spec (degIs_log ht0) ht 0 s (by decide) hs w2).mono ?_
     rintro e w3 ⟨r, rfl, hm, hr64, rfl⟩
     rw [Nat.zero_mul, Nat.zero_add] at hm
     refine ⟨_, rfl, ⟨t, r, rfl, rfl, ht, hr64, fun h => (isGcd_step hm h).trans (hst h), rfl⟩, ?_⟩
     have := Nat.lt_of_lt_of_le hm.lt (degIs_log ht0).1
     simp only [Int.toNat_natCast]; exact this
   · have ht0 : t = 0 := by have : ((t : Nat) : Int) = 0 := by simpa using heq
                            omega
     subst ht0
     refine ⟨⟨s, j + 1, rfl, wrap_succ hj' (by omega), by omega, hs, fun h => ?_, rfl⟩, mu_succ hj' (by omega)⟩
     have h1 := hst h
     have h2 := hG h
     rw [List.take_add_one, hv]
     simp only [Option.toList_some, List.mem_append, List.mem_singleton, or_imp, forall_and, forall_eq]
     rw [← h2, ← h1]
     exact ⟨fun k => ⟨k, Dv.zero h⟩, fun k => k.1⟩
 · have hj' : j = 2 := by simp at h; omega
   subst hj'
   refine ⟨A, rfl, fun h => ?_, hA, rfl⟩
   rw [hG h]
   simp

theorem Gf2.IsMod.sq {p n a s r : Nat} (h1 : IsMod p n a s) (h2 : IsMod p n (cmul s s) r) : IsMod p n (cmul a a) r := ⟨h2.lt, by
 have h3 : Dv p (cmul (a ^^^ s) (a ^^^ s)) := h1.dv.mul _
 rw [sq_xor] at h3
 have := h3.xor h2.dv
 rwa [xor3] at this⟩
theorem square_spec {p n : Nat} (hp : DegIs p n) (hp64 : p < W64) (g k : Nat) (hk : k ≤ 1000) (w : World) (hld : (Instr.loadAt 42 (.pointer (some ⟨g, 0, none⟩))).run Tryz.prog w = .ok (.int .u64 (p : Int)) w) :
   Calls Tryz.prog 275 #[.int .i64 (k : Int), .pointer (some ⟨g, 0, none⟩)] w fun e w' => ∃ x : Nat, e = .returned (.int .u64 (x : Int)) ∧ x < W64 ∧ IsMod p n (sqs 2 k) x ∧ w' = w := by
 apply poly_Irreducible_1_vc
 refine ⟨_, hld, (mod_spec hp hp64 0 2 (by decide) (by decide) w).mono ?_⟩
 rintro e w1 ⟨r, rfl, hr, hr64, rfl⟩
 rw [Nat.zero_mul, Nat.zero_add] at hr
 refine ⟨_, rfl, fun x z w' => ∃ (s i : Nat), x = (s : Int) ∧ z = (i : Int) ∧ i ≤ k ∧ s < W64 ∧ IsMod p n (sqs 2 i) s ∧ w' = w1, fun _ z _ => k - z.toNat, ⟨r, 0, rfl, rfl, by omega, hr64, hr, rfl⟩, ?_⟩
 rintro x z w2 ⟨s, i, rfl, rfl, hi, hs, hm, rfl⟩
 refine ⟨fun h => ?_, fun h => ?_⟩
 · have hi' : i < k := by simp at h; omega
   refine ⟨_, hld, (mulMod_spec hp hp64 s s hs hs w2).mono ?_⟩
   rintro e w3 ⟨r2, rfl, hr2, hr264, rfl⟩
   exact ⟨_, rfl, ⟨r2, i + 1, rfl, wrap_succ hi' (by omega), by omega, hr264, hm.sq hr2, rfl⟩, mu_succ hi' (by omega)⟩
 · have hi' : i = k := by simp at h; omega
   subst hi'
   exact ⟨s, rfl, hs, hm, rfl⟩

theorem alone_congr {p a b : Nat} (h : Dv p (a ^^^ b)) : Alone p a ↔ Alone p b := by
 have key : ∀ a b, Dv p (a ^^^ b) → Alone p a → Alone p b := fun a b h ha x hx hb => by
   refine ha x hx ?_
   exact (hx.trans h).of_xor hb
 exact ⟨key a b h, key b a (by rw [Nat.xor_comm]; exact h)⟩
theorem eq_of_mod {p n a b x y : Nat} (hp : DegIs p n) (hx : IsMod p n a x) (hy : IsMod p n b y) : x = y ↔ Dv p (a ^^^ b) := by
 constructor
 · rintro rfl
   have := hx.dv.xor hy.dv
   rw [Nat.xor_comm b x, xor3] at this
   exact this
 · intro h
   refine IsMod.uniq hp (a := b) ⟨hx.lt, ?_⟩ hy
   have := h.xor hx.dv
   rw [Nat.xor_comm a b, xor3] at this
   exact this

theorem uT : ElemT Tryz.prog 29 3 1 8 (.int .i64 0) := ⟨by kernel_rfl, ⟨Tryz.t3, by kernel_rfl, by kernel_rfl, by kernel_rfl, by kernel_rfl⟩, rfl, by decide⟩
def nis (l : List Nat) : List Value := l.map fun (q : Nat) => .int .i64 (q : Int)
theorem prime_step {m p g : Nat} (hb : ∀ q, 2 ≤ q → q < p → ¬ q ∣ m) (hpm : p ∣ m) (hp : 2 ≤ p) {m3 : Nat} (hg : 1 < g) (h : g ∣ p * m3) : p ∣ g ∨ g ∣ m3 := by
 by_cases hpg : p ∣ g
 · exact .inl hpg
 · right
   have h1 : Nat.gcd g p = 1 := by
     have hd := Nat.gcd_dvd_right g p
     have hl := Nat.le_of_dvd (by omega) hd
     have h0 : Nat.gcd g p ≠ 0 := fun h0 => by rw [h0] at hd; have := Nat.eq_zero_of_zero_dvd hd; omega
     rcases Nat.lt_or_ge (Nat.gcd g p) p with h2 | h2
     · rcases Nat.lt_or_ge (Nat.gcd g p) 2 with h3 | h3
       · omega
       · exact absurd (Nat.dvd_trans hd hpm) (hb _ h3 h2)
     · have : Nat.gcd g p = p := by omega
       exact absurd (by have := Nat.gcd_dvd_left g p; rwa [‹Nat.gcd g p = p›] at this) hpg
   exact Nat.Coprime.dvd_of_dvd_mul_left h1 h

set_option maxHeartbeats 1000000 in
theorem primes_spec (n : Nat) (h1 : 1 ≤ n) (hn : n ≤ 1000) (w : World) :
   Calls Tryz.prog 278 #[.int .i64 (n : Int)] w fun e w' => ∃ (a : Option Addr) (c : Nat) (Q : List Nat), e = .returned (.slice a Q.length c) ∧ (∀ q ∈ Q, 2 ≤ q ∧ q ∣ n) ∧ (∀ e, 1 < e → e ∣ n → ∃ q ∈ Q, q ∣ e) ∧ Q.length ≤ 2000 ∧ St w [] w' [.row 3 1 (.slice a Q.length c) Q.length (nis Q)] := by
 apply poly_primes_vc
 refine ⟨fun x ra rn rc z w' => ∃ (m p : Nat) (Q : List Nat), x = (m : Int) ∧ z = (p : Int) ∧ rn = Q.length ∧ 1 ≤ m ∧ m ∣ n ∧ 2 ≤ p ∧ Q.length ≤ p ∧ p ≤ n + 2 ∧ (∀ q, 2 ≤ q → q < p → ¬ q ∣ m) ∧ (∀ q ∈ Q, 2 ≤ q ∧ q ∣ n) ∧ (∀ e, 1 < e → e ∣ n → (∃ q ∈ Q, q ∣ e) ∨ ∃ g, 1 < g ∧ g ∣ e ∧ g ∣ m) ∧ St w [] w' [.row 3 1 (.slice ra rn rc) rn (nis Q)], fun _ _ _ _ z _ => n + 2 - z.toNat,
   ⟨n, 2, [], rfl, rfl, rfl, h1, Nat.dvd_refl n, by omega, by simp, by omega, fun q h2 h3 => by omega, by simp, fun e h2 h3 => .inr ⟨e, h2, Nat.dvd_refl e, h3⟩, (St.start w).addNil 3 1⟩, ?_⟩
 rintro x ra rn rc z w1 ⟨m, p, Q, rfl, rfl, rfl, hm1, hmn, hp2, hQp, hpn, hb, hQ, hE, hS⟩
 have hml : m ≤ n := Nat.le_of_dvd h1 hmn
 refine ⟨fun hgt => ?_, fun hle => ?_⟩
 · have hm2 : 1 < m := by simp at hgt; omega
   have hpm : p ≤ m := Nat.le_of_not_lt fun hl => hb m hm2 hl (Nat.dvd_refl m)
   have hW : IntKind.wrap .i64 ((p : Int) + 1) = ((p + 1 : Nat) : Int) := by rw [wrap_i64 (by omega) (by omega)]; rfl
   have hmod : ∀ x : Nat, Int.tmod (x : Int) (p : Int) = ((x % p : Nat) : Int) := fun x => by rw [Int.tmod_eq_emod_of_nonneg (by omega)]; rfl
   have hdiv : ∀ x : Nat, Int.tdiv (x : Int) (p : Int) = ((x / p : Nat) : Int) := fun x => by rw [Int.tdiv_eq_ediv_of_nonneg (by omega)]; rfl
   refine ⟨by omega, fun hne => ?_, fun heq => ?_⟩
   · rw [hmod] at hne
     rw [hW]
     have hnd : ¬ p ∣ m := fun hd => by rw [Nat.mod_eq_zero_of_dvd hd] at hne; simp at hne
     refine ⟨⟨m, p + 1, Q, rfl, rfl, rfl, hm1, hmn, by omega, by omega, by omega, fun q h2 h3 => ?_, hQ, hE, hS⟩, by simp only [Int.toNat_natCast]; omega⟩
     by_cases hq : q = p
     · subst hq; exact hnd
     · exact hb q h2 (by omega)
   · rw [hmod] at heq
     have hd : p ∣ m := Nat.dvd_of_mod_eq_zero (by have : ((m % p : Nat) : Int) = 0 := by simpa using heq
                                                   omega)
     obtain ⟨g, w2, va, vc, w3, r2, r3, h3, _, _⟩ := hS.pushV (i := 0) (ty := 29) uT rfl (.int .i64 (p : Int)) rfl (by omega) (by simp only [maxLen]; omega)
     have e1 : nis Q ++ [Value.int .i64 (p : Int)] = nis (Q ++ [p]) := by simp [nis]
     rw [e1] at h3
     have h3 : St w [] w3 [.row 3 1 (.slice va (Q.length + 1) vc) (Q.length + 1) (nis (Q ++ [p]))] := h3
     refine ⟨_, _, _, w2, r2, _, _, _, w3, r3, fun x w' => ∃ m2 : Nat, x = (m2 : Int) ∧ 1 ≤ m2 ∧ m2 ∣ m ∧ (∀ e, 1 < e → e ∣ n → (∃ q ∈ Q ++ [p], q ∣ e) ∨ ∃ g, 1 < g ∧ g ∣ e ∧ g ∣ m2) ∧ w' = w3, fun x _ => x.toNat, ⟨m, rfl, hm1, Nat.dvd_refl m, fun e h4 h5 => ?_, rfl⟩, ?_⟩
     · rcases hE e h4 h5 with ⟨q, hq, k⟩ | k
       · exact .inl ⟨q, List.mem_append_left _ hq, k⟩
       · exact .inr k
     rintro x w4 ⟨m2, rfl, hm21, hm2m, hE2, rfl⟩
     have hm2n : m2 ≤ n := Nat.le_trans (Nat.le_of_dvd (by omega) hm2m) hml
     refine ⟨by omega, fun hz => ?_, fun hnz => ?_⟩
     · rw [hmod] at hz
       have hd2 : p ∣ m2 := Nat.dvd_of_mod_eq_zero (by have : ((m2 % p : Nat) : Int) = 0 := by simpa using hz
                                                       omega)
       obtain ⟨m3, rfl⟩ := hd2
       have hdv : p * m3 / p = m3 := Nat.mul_div_cancel_left _ (by omega)
       have hm3 : 1 ≤ m3 := Nat.pos_of_ne_zero fun h0 => by subst h0; simp at hm21
       have hlt : m3 < p * m3 := by
         have := Nat.mul_le_mul_right m3 hp2
         omega
       rw [hdiv, hdv, wrap_i64 (by omega) (by omega)]
       refine ⟨by omega, ⟨m3, rfl, hm3, Nat.dvd_trans (Nat.dvd_mul_left m3 p) hm2m, fun e h4 h5 => ?_, rfl⟩, by simp only [Int.toNat_natCast]; omega⟩
       rcases hE2 e h4 h5 with k | ⟨g, hg, hge, hgm⟩
       · exact .inl k
       · rcases prime_step hb hd hp2 hg hgm with k | k
         · exact .inl ⟨p, by simp, Nat.dvd_trans k hge⟩
         · exact .inr ⟨g, hg, hge, k⟩
     · rw [hmod] at hnz
       rw [hW]
       have hnd : ¬ p ∣ m2 := fun hd => by rw [Nat.mod_eq_zero_of_dvd hd] at hnz; simp at hnz
       refine ⟨⟨m2, p + 1, Q ++ [p], rfl, rfl, by simp, hm21, Nat.dvd_trans hm2m hmn, by omega, by simp; omega, by omega, fun q h4 h5 => ?_, fun q hq => ?_, hE2, by simpa using h3⟩, by simp only [Int.toNat_natCast]; omega⟩
       · by_cases hq : q = p
         · subst hq; exact hnd
         · exact fun hd => hb q h4 (by omega) (Nat.dvd_trans hd hm2m)
       · rcases List.mem_append.1 hq with hq | hq
         · exact hQ q hq
         · simp only [List.mem_singleton] at hq; subst hq; exact ⟨hp2, Nat.dvd_trans hd hmn⟩
 · have hm2 : m = 1 := by simp at hle; omega
   subst hm2
   refine ⟨ra, rc, Q, rfl, hQ, fun e h2 h3 => ?_, by omega, hS⟩
   rcases hE e h2 h3 with k | ⟨g, hg, _, hg1⟩
   · exact k
   · have := Nat.le_of_dvd (by omega) hg1; omega

end Go.Proofs.YtpmhjnhgpplmnaaGreatDoor
end

section
namespace Go.Proofs.YtpmhjnhgpplmnaaGreatDoor
open Go Sx Gf2
set_option maxRecDepth 8000

theorem u64T : ElemT Tryz.prog 433 42 1 8 (.int .u64 0) := ⟨by kernel_rfl, ⟨Tryz.t42, by kernel_rfl, by kernel_rfl, by kernel_rfl, by kernel_rfl⟩, rfl, by decide⟩

theorem rabin_of {p n : Nat} (hp : DegIs p n) (hn : 1 ≤ n) {Q : List Nat} (hQ : ∀ q ∈ Q, 2 ≤ q ∧ q ∣ n) (hE : ∀ e, 1 < e → e ∣ n → ∃ q ∈ Q, q ∣ e) :
   ((∀ q ∈ Q, Alone p (sqs 2 (n / q) ^^^ 2)) ∧ Dv p (sqs 2 n ^^^ 2)) ↔ Irr p := by
 refine rabin hp hn Q (fun q hq => ?_) (fun d h1 h2 h3 => ?_)
 · obtain ⟨h2, hd⟩ := hQ q hq
   exact ⟨Nat.div_pos (Nat.le_of_dvd hn hd) (by omega), Nat.div_lt_self hn h2⟩
 · obtain ⟨k, hk⟩ := h3
   have hk1 : 1 < k := by
     rcases Nat.lt_or_ge 1 k with h | h
     · exact h
     · have : d * k ≤ d * 1 := Nat.mul_le_mul_left d h
       omega
   obtain ⟨q, hq, j, hj⟩ := hE k hk1 ⟨d, by rw [Nat.mul_comm]; exact hk⟩
   refine ⟨q, hq, j, ?_⟩
   have hq2 := (hQ q hq).1
   rw [hk, hj, show d * (q * j) = q * (d * j) from Nat.mul_left_comm _ _ _]
   exact Nat.mul_div_cancel_left _ (by omega)

set_option maxHeartbeats 2000000 in
theorem irr_spec {p n : Nat} (hp : DegIs p n) (hn : 1 ≤ n) (hp64 : p < W64) (w : World) :
   Calls Tryz.prog 206 #[.int .u64 (p : Int)] w fun e w' => ∃ b : Bool, e = .returned (.bool b) ∧ (b = true ↔ Irr p) ∧ Chg [] w w' := by
 have hn64 := degIs_lt hp hp64
 apply poly_Irreducible_vc
 obtain ⟨g, w1, r1, k1⟩ := (St.start w).box (P := Tryz.prog) 42 (.int .u64 (p : Int))
 have k1 : St w [] w1 [.arr g 42 [.int .u64 (p : Int)]] := k1
 have ldP : ∀ {w' L}, St w [] w' (.arr g 42 [.int .u64 (p : Int)] :: L) → (Instr.loadAt 42 (.pointer (some ⟨g, 0, none⟩))).run Tryz.prog w' = .ok (.int .u64 (p : Int)) w' := fun h => h.ldL (i := 0) (o := 0) rfl (u64A _) rfl rfl
 refine ⟨g, w1, r1, _, ldP k1, (deg_spec p hp64 w1).mono ?_⟩
 rintro e w2 ⟨he, rfl⟩
 rw [degZ_deg hp] at he
 refine ⟨_, he, fun h => ?_, fun _ => ⟨.func (.func 275) #[] #[.pointer (some ⟨g, 0, none⟩)], w2, by simp [Instr.makeFunc], (primes_spec n hn (by omega) w2).mono ?_⟩⟩
 · simp at h; omega
 rintro e w4 ⟨a, c, Q, rfl, hQ, hE, hQl, k4⟩
 have R := rabin_of hp hn hQ hE
 have k5 := Sx.St.callPart (N := []) (by rw [List.append_nil]; exact k1) k4
 have k5 : St w [] w4 [.arr g 42 [.int .u64 (p : Int)], .row 3 1 (.slice a Q.length c) Q.length (nis Q)] := k5
 let S : World → Prop := fun w' => St w [] w' [.arr g 42 [.int .u64 (p : Int)], .row 3 1 (.slice a Q.length c) Q.length (nis Q)]
 refine ⟨_, _, _, rfl, fun x w' => ∃ i : Nat, x = (i : Int) ∧ i ≤ Q.length ∧ (∀ q ∈ Q.take i, Alone p (sqs 2 (n / q) ^^^ 2)) ∧ S w', fun x _ => Q.length - x.toNat, ⟨0, rfl, by omega, by simp, k5⟩, ?_⟩
 rintro x w5 ⟨i, rfl, hi, hA, hS⟩
 have hSd : S w5.drew := Sx.St.drew hS
 refine ⟨fun h => ?_, fun h => ?_⟩
 · have hi' : i < Q.length := by simp at h; omega
   obtain ⟨q, hq⟩ : ∃ q, Q[i]? = some q := ⟨_, List.getElem?_eq_getElem hi'⟩
   have hqm := List.mem_of_getElem? hq
   obtain ⟨hq2, hqn⟩ := hQ q hqm
   have hcell : (nis Q)[i]? = some (.int .i64 (q : Int)) := by rw [nis, List.getElem?_map, hq]; rfl
   have hr : Rd w5 a Q.length c 1 (nis Q) := Sx.St.rd hS (i := 1) rfl
   obtain ⟨b, o, ha, hc⟩ := hr.cells.at_ hcell
   have e1 : IntKind.wrap .i64 (Int.tdiv (n : Int) (q : Int)) = ((n / q : Nat) : Int) := by
     rw [Int.tdiv_eq_ediv_of_nonneg (by omega)]
     have : n / q ≤ n := Nat.div_le_self n q
     rw [show (n : Int) / (q : Int) = ((n / q : Nat) : Int) from rfl, wrap_i64_nat _ (Nat.lt_of_le_of_lt this (by omega))]
   have hle : n / q ≤ n := Nat.div_le_self n q
   refine ⟨b, o, ha, by omega, by omega, _, by rw [Int.toNat_natCast, Nat.mul_one]; exact ld1 (p64A _) hc, S, hSd, by omega, _, fun w' hw => ldP hw, _, fun w' hw => ldP hw, 275, [.pointer (some ⟨g, 0, none⟩)], rfl, by kernel_rfl, ?_⟩
   rw [e1]
   refine (square_spec hp hp64 g (n / q) (by omega) w5.drew (ldP hSd)).mono ?_
   rintro e w6 ⟨x, rfl, hx64, hx, rfl⟩
   refine ⟨_, rfl, S, fun _ h => h, hSd, (mod_spec hp hp64 0 2 (by decide) (by decide) _).mono ?_⟩
   rintro e w7 ⟨y, rfl, hy, hy64, rfl⟩
   rw [Nat.zero_mul, Nat.zero_add] at hy
   have hxy := xor64_lt hx64 hy64
   obtain ⟨ga, w8, r8, k8⟩ := (St.start w5.drew).lit u64T [.int .u64 (p : Int), .int .u64 ((x ^^^ y : Nat) : Int)] (by simp [Value.oneCell']) (by simp)
   have hS8 : S w8 := Sx.St.same hSd k8.chg
   refine ⟨_, rfl, S, fun _ h => h, hSd, _, _, _, w8, by rw [x64 hx64 hy64]; exact r8, S, fun _ h => h, hS8, (gcd_spec p (x ^^^ y) hp64 hxy _ _ w8 (k8.rd (i := 0) rfl)).mono ?_⟩
   rintro e w9 ⟨gg, rfl, hg, _, rfl⟩
   have hAl : Alone p (x ^^^ y) ↔ Alone p (sqs 2 (n / q) ^^^ 2) := alone_congr (by
     rw [xor4]
     have h1 := hx.dv
     have h2 := hy.dv
     rw [Nat.xor_comm] at h1 h2
     exact h1.xor h2)
   refine ⟨_, rfl, S, fun _ h => h, hS8, fun hne => ?_, fun heq => ?_⟩
   · refine ⟨false, rfl, ⟨fun h => (by cases h), fun hI => ?_⟩, Sx.St.chg hS8⟩
     have h1 := (R.2 hI).1 q hqm
     have h2 := hg.alone.2 (hAl.2 h1)
     subst h2
     simp at hne
   · have hg1 : gg = 1 := by have : ((gg : Nat) : Int) = 1 := by simpa using heq
                             omega
     refine ⟨⟨i + 1, wrap_succ hi' (by omega), by omega, fun q' hq' => ?_, hS8⟩, mu_succ hi' (by omega)⟩
     rw [List.take_add_one, hq] at hq'
     rcases List.mem_append.1 hq' with h1 | h1
     · exact hA q' h1
     · simp only [Option.toList_some, List.mem_singleton] at h1
       subst h1
       exact hAl.1 (hg.alone.1 hg1)
 · have hi' : i = Q.length := by simp at h; omega
   rw [hi', List.take_length] at hA
   refine ⟨S, hSd, _, fun w' hw => ldP hw, 275, [.pointer (some ⟨g, 0, none⟩)], rfl, by kernel_rfl, (square_spec hp hp64 g n (by omega) w5.drew (ldP hSd)).mono ?_⟩
   rintro e w6 ⟨x, rfl, hx64, hx, rfl⟩
   refine ⟨_, rfl, S, fun _ h => h, hSd, (mod_spec hp hp64 0 2 (by decide) (by decide) _).mono ?_⟩
   rintro e w7 ⟨y, rfl, hy, hy64, rfl⟩
   rw [Nat.zero_mul, Nat.zero_add] at hy
   refine ⟨_, rfl, S, fun _ h => h, hSd, _, rfl, ?_, Sx.St.chg hSd⟩
   have hb : (((x : Nat) : Int) == ((y : Nat) : Int)) = true ↔ x = y := by simp; omega
   rw [hb, eq_of_mod hp hx hy, ← R]
   exact ⟨fun h => ⟨hA, h⟩, fun h => h.2⟩

structure SetD where
 poly : Nat
 win : Int
 min : Int
 max : Int
 bits : Int
def setC (s : SetD) : List Value := [.int .u64 (s.poly : Int), .int .i64 s.win, .int .i64 s.min, .int .i64 s.max, .int .i64 s.bits]
noncomputable def irrB (p : Nat) : Bool := @decide (Irr p) (Classical.propDecidable _)
theorem irrB_iff (p : Nat) : irrB p = true ↔ Irr p := by unfold irrB; exact @decide_eq_true_iff _ (Classical.propDecidable _)
noncomputable def gd1 (s : SetD) : Bool := (decide (8 ≤ degZ s.poly) && decide (degZ s.poly ≤ 55)) && irrB s.poly
def gd2 (s : SetD) : Bool := decide (1 ≤ s.win) && decide (s.win ≤ 64)
def gd3 (s : SetD) : Bool := decide (s.win ≤ s.min) && (decide (s.min ≤ s.max) && decide (s.max ≤ 65536))
def gd4 (s : SetD) : Bool := decide (0 ≤ s.bits) && (decide (s.bits ≤ degZ s.poly) && decide (s.bits ≤ 20))
noncomputable def goodSet (s : SetD) : Bool := gd1 s && (gd2 s && (gd3 s && gd4 s))

theorem deg_of {p : Nat} (hp : p < W64) (h8 : 8 ≤ degZ p) : ∃ n, DegIs p n ∧ 1 ≤ n ∧ degZ p = n := by
 have h0 : p ≠ 0 := by rintro rfl; simp [degZ, lenN] at h8
 have hd := degIs_log h0
 have he := degZ_deg hd
 exact ⟨p.log2, hd, by omega, he⟩
theorem irrV {p : Nat} (hp : p < W64) (h8 : 8 ≤ degZ p) (w : World) : Calls Tryz.prog 206 #[.int .u64 (p : Int)] w fun e w' => e = .returned (.bool (irrB p)) ∧ Chg [] w w' := by
 obtain ⟨n, hd, hn, _⟩ := deg_of hp h8
 refine (irr_spec hd hn hp w).mono ?_
 rintro e w1 ⟨b, rfl, hb, c1⟩
 refine ⟨?_, c1⟩
 have : b = irrB p := by rw [Bool.eq_iff_iff, hb, irrB_iff]
 rw [this]

set_option maxHeartbeats 1000000 in
theorem rabinCheck_spec (s : SetD) (hp : s.poly < W64) (w : World) : Calls Tryz.prog 105 #[.agg (setC s).toArray] w fun e w' => e = .returned (errV (if goodSet s then none else some 11)) ∧ Chg [] w w' := by
 apply rabin_Check_vc
 obtain ⟨g, w1, r1, k1⟩ := (St.start w).boxA (P := Tryz.prog) 44 (setC s)
 let K : World → Prop := fun w' => St w [] w' [.arr g 44 (setC s)]
 have k1 : K w1 := k1
 have ldU : ∀ {w'}, K w' → (Instr.loadAt 42 (.pointer (some ⟨g, 0, none⟩))).run Tryz.prog w' = .ok (.int .u64 (s.poly : Int)) w' := fun h => Sx.St.ldL h (i := 0) (o := 0) rfl (u64A _) rfl rfl
 have ldI : ∀ {w'} (o : Nat) (z : Int), (setC s)[o]? = some (.int .i64 z) → K w' → (Instr.loadAt 3 (.pointer (some ⟨g, o, none⟩))).run Tryz.prog w' = .ok (.int .i64 z) w' := fun o z hz h => by
   have := Sx.St.ldL h (i := 0) (o := o) rfl (p64A _) rfl hz
   exact this
 let B : World → Prop := fun w' => goodSet s = false ∧ K w'
 refine ⟨g, w1, r1, _, ldU k1, (deg_spec s.poly hp w1).mono ?_⟩
 rintro e w2 ⟨rfl, rfl⟩
 refine ⟨_, rfl, fun b w' => b = !gd1 s ∧ K w', ⟨fun h => ?_, fun h => ?_⟩, ?_⟩
 · refine ⟨?_, k1⟩
   simp only [Bool.or_eq_true, decide_eq_true_eq] at h
   have : gd1 s = false := by
     unfold gd1
     rcases h with h | h
     · rw [decide_eq_false (by omega : ¬ 8 ≤ degZ s.poly)]; rfl
     · rw [decide_eq_false (by omega : ¬ degZ s.poly ≤ 55)]; simp
   rw [this]; rfl
 · simp only [Bool.or_eq_false_iff, decide_eq_false_iff_not] at h
   refine ⟨_, ldU k1, (irrV hp (by omega) w2).mono ?_⟩
   rintro e w3 ⟨rfl, c3⟩
   refine ⟨_, rfl, ?_, Sx.St.same k1 c3⟩
   rw [gd1, decide_eq_true (by omega : 8 ≤ degZ s.poly), decide_eq_true (by omega : degZ s.poly ≤ 55)]
   rfl
 rintro b w4 ⟨rfl, k4⟩
 refine ⟨B, ⟨fun h => ⟨?_, k4⟩, fun h1 => ⟨fun b w' => b = !gd2 s ∧ K w', ⟨_, ldI 1 _ rfl k4, fun h => ⟨?_, k4⟩, fun h => ⟨_, ldI 1 _ rfl k4, ?_, k4⟩⟩, ?_⟩⟩, ?_⟩
 · simp only [goodSet, Bool.not_eq_true'] at h ⊢; rw [h]; rfl
 · simp only [decide_eq_true_eq] at h
   rw [gd2, decide_eq_false (by omega : ¬ 1 ≤ s.win)]; rfl
 · simp only [decide_eq_false_iff_not] at h
   rw [gd2, decide_eq_true (by omega : 1 ≤ s.win), Bool.true_and, ← decide_not]
   exact decide_eq_decide.2 (by omega)
 · rintro b w5 ⟨rfl, k5⟩
   refine ⟨B, ⟨fun h => ⟨?_, k5⟩, fun h2 => ⟨fun b w' => b = !gd3 s ∧ K w', ⟨_, ldI 2 _ rfl k5, _, ldI 1 _ rfl k5, fun h => ⟨?_, k5⟩, fun h => ⟨_, ldI 3 _ rfl k5, _, ldI 2 _ rfl k5, fun h' => ⟨?_, k5⟩, fun h' => ⟨_, ldI 3 _ rfl k5, ?_, k5⟩⟩⟩, ?_⟩⟩, ?_⟩
   · simp only [goodSet, Bool.not_eq_true'] at h ⊢; rw [h]; simp
   · simp only [decide_eq_true_eq] at h
     rw [gd3, decide_eq_false (by omega : ¬ s.win ≤ s.min)]; rfl
   · simp only [decide_eq_true_eq] at h'
     rw [gd3, decide_eq_false (by omega : ¬ s.min ≤ s.max)]; simp
   · simp only [decide_eq_false_iff_not] at h h'
     rw [gd3, decide_eq_true (by omega : s.win ≤ s.min), decide_eq_true (by omega : s.min ≤ s.max), Bool.true_and, Bool.true_and, ← decide_not]
     exact decide_eq_decide.2 (by omega)
   · rintro b w6 ⟨rfl, k6⟩
     refine ⟨B, ⟨fun h => ⟨?_, k6⟩, fun h3 => ⟨fun b w' => b = !gd4 s ∧ K w', ⟨_, ldI 4 _ rfl k6, fun h => ⟨?_, k6⟩, fun h => ⟨_, ldI 4 _ rfl k6, fun h' => ⟨?_, k6⟩, fun h' => ⟨_, ldI 4 _ rfl k6, ?_, k6⟩⟩⟩, ?_⟩⟩, ?_⟩
     · simp only [goodSet, Bool.not_eq_true'] at h ⊢; rw [h]; simp
     · simp only [decide_eq_true_eq] at h
       rw [gd4, decide_eq_false (by omega : ¬ 0 ≤ s.bits)]; rfl
     · simp only [decide_eq_true_eq] at h'
       rw [gd4, decide_eq_false (by omega : ¬ s.bits ≤ degZ s.poly)]; simp
     · simp only [decide_eq_false_iff_not] at h h'
       rw [gd4, decide_eq_true (by omega : 0 ≤ s.bits), decide_eq_true (by omega : s.bits ≤ degZ s.poly), Bool.true_and, Bool.true_and, ← decide_not]
       exact decide_eq_decide.2 (by omega)
     · rintro b w7 ⟨rfl, k7⟩
       refine ⟨fun h => ⟨?_, k7⟩, fun h4 => ⟨?_, k7.chg⟩⟩
       · simp only [goodSet, Bool.not_eq_true'] at h ⊢; rw [h]; simp
       · simp only [Bool.not_eq_false'] at h1 h2 h3 h4
         rw [goodSet, h1, h2, h3, h4]; rfl
     · rintro w8 h8; exact h8
   · rintro w9 h9; exact h9
 · rintro w10 ⟨h10, k10⟩
   rw [h10]
   exact ⟨rfl, k10.chg⟩

end Go.Proofs.YtpmhjnhgpplmnaaGreatDoor
end

section
namespace Go.Proofs.YtpmhjnhgpplmnaaGreatDoor
open Go Sx
set_option maxRecDepth 8000

structure SnapD where
 name : List UInt8
 time : Int
 size : Int
 chunks : Int
 root : List UInt8
 rl : root.length = 32
def snapC (s : SnapD) : List Value := [strV s.name, .int .i64 s.time, .int .i64 s.size, .int .i64 s.chunks] ++ bv s.root
theorem snapC_len (s : SnapD) : (snapC s).length = 36 := by simp [snapC, s.rl]
theorem snapC_one (s : SnapD) : ∀ v ∈ snapC s, v.oneCell' = true := fun v hv => by
 simp only [snapC, List.mem_append, List.mem_cons, List.not_mem_nil, or_false] at hv
 rcases hv with (rfl | rfl | rfl | rfl) | h
 · rfl
 · rfl
 · rfl
 · rfl
 · exact bv_one _ v h
abbrev RdS (w : World) (a : Option Addr) (n c : Nat) (l : List SnapD) : Prop := RdE snapC 36 w a n c l
def iv (l : List Int) : List Value := l.map fun z => .int .i64 z
@[simp] theorem iv_len (l : List Int) : (iv l).length = l.length := by simp [iv]
theorem iv_get (l : List Int) (i : Nat) : (iv l)[i]? = l[i]?.map fun z => .int .i64 z := by simp [iv]
theorem iv_one (l : List Int) : ∀ v ∈ iv l, v.oneCell' = true := fun v hv => by
 simp only [iv, List.mem_map] at hv
 obtain ⟨z, _, rfl⟩ := hv
 rfl

def nwB (s t : SnapD) (i j : Nat) : Bool := decide (t.time < s.time) || (decide (s.time = t.time) && (lexLt t.name s.name || (decide (s.name = t.name) && decide (j < i))))
def Newer (l : List SnapD) (i j : Nat) : Prop := ∃ s t, l[i]? = some s ∧ l[j]? = some t ∧ nwB s t i j = true
theorem nwB_iff {s t : SnapD} {i j : Nat} : nwB s t i j = true ↔ t.time < s.time ∨ (s.time = t.time ∧ (lexLt t.name s.name = true ∨ (s.name = t.name ∧ j < i))) := by simp [nwB]
theorem nwB_asymm {s t : SnapD} {i j : Nat} (h : nwB s t i j = true) : nwB t s j i = false := by
 cases h2 : nwB t s j i with
 | false => rfl
 | true =>
   rw [nwB_iff] at h h2
   rcases h with h | ⟨h1, h | ⟨h3, h4⟩⟩
   · rcases h2 with h2 | ⟨h2, _⟩ <;> omega
   · rcases h2 with h2 | ⟨_, h2 | ⟨h2, _⟩⟩
     · omega
     · rw [lex_asymm h] at h2; cases h2
     · rw [h2, lex_irrefl] at h; cases h
   · rcases h2 with h2 | ⟨_, h2 | ⟨_, h2⟩⟩
     · omega
     · rw [h3, lex_irrefl] at h2; cases h2
     · omega
theorem Newer.asymm {l : List SnapD} {i j : Nat} (h : Newer l i j) : ¬ Newer l j i := by
 rintro ⟨s, t, h1, h2, h3⟩
 obtain ⟨s', t', g1, g2, g3⟩ := h
 rw [h1] at g2; rw [h2] at g1
 obtain rfl := Option.some.inj g1
 obtain rfl := Option.some.inj g2
 rw [nwB_asymm g3] at h3
 cases h3

structure NewOrd (l : List SnapD) (L : List Nat) : Prop where
 perm : L.Perm (List.range l.length)
 pw : L.Pairwise (Newer l)
theorem NewOrd.lt {l : List SnapD} {L : List Nat} (h : NewOrd l L) {i : Nat} (hi : i ∈ L) : i < l.length := by have := h.perm.mem_iff.1 hi; simpa using this
theorem NewOrd.mem {l : List SnapD} {L : List Nat} (h : NewOrd l L) {i : Nat} (hi : i < l.length) : i ∈ L := h.perm.mem_iff.2 (by simpa using hi)
theorem NewOrd.len {l : List SnapD} {L : List Nat} (h : NewOrd l L) : L.length = l.length := by have := h.perm.length_eq; simpa using this
theorem pw_uniq {α : Type} {r : α → α → Prop} (hr : ∀ a b, r a b → ¬ r b a) : ∀ {l m : List α}, l.Perm m → l.Pairwise r → m.Pairwise r → l = m
 | [], m, hp, _, _ => (List.nil_perm.1 hp).symm
 | x :: l, [], hp, _, _ => by have := hp.length_eq; simp at this
 | x :: l, y :: m, hp, h1, h2 => by
   rw [List.pairwise_cons] at h1 h2
   have hxy : x = y := by
     have hx : x ∈ y :: m := hp.mem_iff.1 List.mem_cons_self
     have hy : y ∈ x :: l := hp.mem_iff.2 List.mem_cons_self
     rcases List.mem_cons.1 hx with rfl | hx
     · rfl
     · rcases List.mem_cons.1 hy with rfl | hy
       · rfl
       · exact absurd (h1.1 y hy) (hr _ _ (h2.1 x hx))
   subst hxy
   rw [pw_uniq hr ((List.perm_cons x).1 hp) h1.2 h2.2]
theorem NewOrd.uniq {l : List SnapD} {L M : List Nat} (h : NewOrd l L) (k : NewOrd l M) : L = M := pw_uniq (fun _ _ h => h.asymm) (h.perm.trans k.perm.symm) h.pw k.pw

end Go.Proofs.YtpmhjnhgpplmnaaGreatDoor
end

section
namespace Go.Proofs.YtpmhjnhgpplmnaaGreatDoor
open Go Sx
set_option maxRecDepth 8000

def nameB (s : List UInt8) : Bool := s.all (fun b => decide (33 ≤ b.toNat ∧ b.toNat ≤ 126)) && (decide (1 ≤ s.length) && decide (s.length ≤ 32))
theorem allTake {s : List UInt8} {i : Nat} {b : UInt8} (p : UInt8 → Bool) (hb : s[i]? = some b) : (s.take (i + 1)).all p = ((s.take i).all p && p b) := by
 rw [List.take_add_one, hb]; simp

theorem snName_spec (s : List UInt8) (hs : s.length ≤ 4611686018427387904) (w : World) : Calls Tryz.prog 28 #[strV s] w fun e w' => e = .returned (.bool (nameB s)) ∧ w' = w := by
 apply catalog_GoodName_vc
 rw [sizeSc, emptyS]
 refine ⟨fun x w' => ∃ i : Nat, x = (i : Int) ∧ i ≤ s.length ∧ (s.take i).all (fun b => decide (33 ≤ b.toNat ∧ b.toNat ≤ 126)) = true ∧ w' = w, fun x _ => s.length - x.toNat, ⟨0, rfl, by omega, by simp, rfl⟩, ?_⟩
 rintro x w1 ⟨i, rfl, hi, hA, rfl⟩
 refine ⟨fun h => ?_, fun h => ?_⟩
 · have hi' : i < s.length := by simp at h; omega
   have hix := ixS16 (l := s) (i := i) hi' w1
   have hb : s[i]? = some (s.getD i 0) := by simp [List.getD, hi']
   obtain ⟨b, hbe⟩ : ∃ b, s.getD i 0 = b := ⟨_, rfl⟩
   rw [hbe] at hix hb
   refine ⟨fun y w' => y = !decide (33 ≤ b.toNat ∧ b.toNat ≤ 126) ∧ w' = w1, ⟨_, hix, fun h => ⟨?_, rfl⟩, fun h => ⟨_, hix, ?_, rfl⟩⟩, ?_⟩
   · simp only [decide_eq_true_eq] at h
     rw [decide_eq_false (by omega)]; rfl
   · simp only [decide_eq_false_iff_not] at h
     rw [← decide_not]
     exact decide_eq_decide.2 (by omega)
   · rintro y w2 ⟨rfl, rfl⟩
     refine ⟨fun h => ⟨?_, rfl⟩, fun h => ⟨⟨i + 1, wrap_succ hi' hs, by omega, ?_, rfl⟩, mu_succ hi' hs⟩⟩
     · have hbad : decide (33 ≤ b.toNat ∧ b.toNat ≤ 126) = false := by rwa [Bool.not_eq_true'] at h
       have : s.all (fun b => decide (33 ≤ b.toNat ∧ b.toNat ≤ 126)) = false := by
         rw [List.all_eq_false]
         exact ⟨b, List.mem_of_getElem? hb, by rw [hbad]; simp⟩
       rw [nameB, this]; rfl
     · have hok : decide (33 ≤ b.toNat ∧ b.toNat ≤ 126) = true := by rwa [Bool.not_eq_false'] at h
       rw [allTake _ hb, hA, hok]; rfl
 · have hi' : i = s.length := by simp at h; omega
   subst hi'
   rw [List.take_length] at hA
   refine ⟨?_, rfl⟩
   rw [nameB, hA]
   cases s with
   | nil => rfl
   | cons c r => simp; omega
theorem rsnName_spec (s : List UInt8) (hs : s.length ≤ 4611686018427387904) (w : World) : Calls Tryz.prog 29 #[strV s] w fun e w' => e = .returned (.bool (nameB s)) ∧ w' = w := by
 apply amphoraref16_GoodName_vc
 rw [sizeSc]
 refine ⟨fun x w' => ∃ i : Nat, x = (i : Int) ∧ i ≤ s.length ∧ (s.take i).all (fun b => decide (33 ≤ b.toNat ∧ b.toNat ≤ 126)) = true ∧ w' = w, fun x _ => s.length - x.toNat, ⟨0, rfl, by omega, by simp, rfl⟩, ?_⟩
 rintro x w1 ⟨i, rfl, hi, hA, rfl⟩
 refine ⟨fun h => ?_, fun h => ?_⟩
 · have hi' : i < s.length := by simp at h; omega
   have hix := ixS16 (l := s) (i := i) hi' w1
   have hb : s[i]? = some (s.getD i 0) := by simp [List.getD, hi']
   obtain ⟨b, hbe⟩ : ∃ b, s.getD i 0 = b := ⟨_, rfl⟩
   rw [hbe] at hix hb
   refine ⟨fun y w' => y = !decide (33 ≤ b.toNat ∧ b.toNat ≤ 126) ∧ w' = w1, ⟨_, hix, fun h => ⟨?_, rfl⟩, fun h => ⟨_, hix, ?_, rfl⟩⟩, ?_⟩
   · simp only [decide_eq_true_eq] at h
     rw [decide_eq_false (by omega)]; rfl
   · simp only [decide_eq_false_iff_not] at h
     rw [← decide_not]
     exact decide_eq_decide.2 (by omega)
   · rintro y w2 ⟨rfl, rfl⟩
     refine ⟨fun h => ⟨?_, rfl⟩, fun h => ⟨⟨i + 1, wrap_succ hi' hs, by omega, ?_, rfl⟩, mu_succ hi' hs⟩⟩
     · have hbad : decide (33 ≤ b.toNat ∧ b.toNat ≤ 126) = false := by rwa [Bool.not_eq_true'] at h
       have : s.all (fun b => decide (33 ≤ b.toNat ∧ b.toNat ≤ 126)) = false := by
         rw [List.all_eq_false]
         exact ⟨b, List.mem_of_getElem? hb, by rw [hbad]; simp⟩
       rw [nameB, this]; rfl
     · have hok : decide (33 ≤ b.toNat ∧ b.toNat ≤ 126) = true := by rwa [Bool.not_eq_false'] at h
       rw [allTake _ hb, hA, hok]; rfl
 · have hi' : i = s.length := by simp at h; omega
   subst hi'
   rw [List.take_length] at hA
   refine ⟨?_, rfl⟩
   rw [nameB, hA]
   have e1 : decide ((s.length : Int) ≥ 1) = decide (1 ≤ s.length) := decide_eq_decide.2 (by omega)
   have e2 : decide ((s.length : Int) ≤ 32) = decide (s.length ≤ 32) := decide_eq_decide.2 (by omega)
   rw [e1, e2]; rfl

end Go.Proofs.YtpmhjnhgpplmnaaGreatDoor
end

section
namespace Go.Proofs.YtpmhjnhgpplmnaaGreatDoor
open Go Sx
set_option maxRecDepth 8000

def goodSnap (s : SnapD) : Bool := nameB s.name && (decide (s.time ≥ (-1099511627776)) && (decide (s.time ≤ 1099511627776) && (decide (s.size ≥ 0) && (decide (s.chunks ≥ 0) && decide (s.chunks ≤ 65536)))))
theorem snStr (w : World) : (isAgg 9).run Tryz.prog w = .ok false w := Tryz.isAgg9 w
theorem goodSnap_spec (s : SnapD) (hs : s.name.length ≤ 4611686018427387904) (w : World) : Calls Tryz.prog 106 #[.agg (snapC s).toArray] w fun e w' => e = .returned (.bool (goodSnap s)) ∧ Chg [] w w' := by
 apply catalog_goodSnapshot_vc
 obtain ⟨g, w1, r1, k1⟩ := (St.start w).boxA (P := Tryz.prog) 89 (snapC s)
 have k1 : St w [] w1 [.arr g 89 (snapC s)] := k1
 have ldI : ∀ (o : Nat) (z : Int), (snapC s)[o]? = some (.int .i64 z) → (Instr.loadAt 3 (.pointer (some ⟨g, o, none⟩))).run Tryz.prog w1 = .ok (.int .i64 z) w1 := fun o z hz => by
   have := k1.ldL (i := 0) (o := o) rfl (p64A _) rfl hz
   exact this
 refine ⟨g, w1, r1, _, k1.ldL (i := 0) (o := 0) rfl (snStr _) rfl rfl, (snName_spec s.name hs w1).mono ?_⟩
 rintro e w2 ⟨rfl, rfl⟩
 refine ⟨_, rfl, fun hn => ⟨_, ldI 1 _ rfl, fun h1 => ⟨_, ldI 1 _ rfl, fun h2 => ⟨_, ldI 2 _ rfl, fun h3 => ⟨_, ldI 3 _ rfl, fun h4 => ⟨_, ldI 3 _ rfl, ?_, k1.chg⟩, fun h4 => ⟨?_, k1.chg⟩⟩, fun h3 => ⟨?_, k1.chg⟩⟩, fun h2 => ⟨?_, k1.chg⟩⟩, fun h1 => ⟨?_, k1.chg⟩⟩, fun hn => ⟨?_, k1.chg⟩⟩
 · rw [goodSnap, hn, h1, h2, h3, h4]; rfl
 · rw [goodSnap, hn, h1, h2, h3, h4]; rfl
 · rw [goodSnap, hn, h1, h2, h3]; rfl
 · rw [goodSnap, hn, h1, h2]; rfl
 · rw [goodSnap, hn, h1]; rfl
 · rw [goodSnap, hn]; rfl

structure PkD where
 num : Int
 size : Int
 count : Int
def pkC (p : PkD) : List Value := [.int .i64 p.num, .int .i64 p.size, .int .i64 p.count]
structure CatD where
 gen : Int
 next : Int
 set : SetD
 snaps : List SnapD
 packs : List PkD
def catC (C : CatD) (sa : Option Addr) (sn sc : Nat) (pa : Option Addr) (pn pc : Nat) : List Value := [.int .i64 C.gen, .int .i64 C.next] ++ (setC C.set ++ [.slice sa sn sc, .slice pa pn pc])
structure CatR (w : World) (C : CatD) (sa : Option Addr) (sn sc : Nat) (pa : Option Addr) (pn pc : Nat) : Prop where
 poly : C.set.poly < W64
 snaps : RdS w sa sn sc C.snaps
 packs : RdE pkC 3 w pa pn pc C.packs
 names : ∀ s ∈ C.snaps, s.name.length ≤ 4611686018427387904
theorem CatR.keep0 {w w' : World} {C : CatD} {sa : Option Addr} {sn sc : Nat} {pa : Option Addr} {pn pc : Nat} (h : CatR w C sa sn sc pa pn pc) (hc : Chg [] w w') : CatR w' C sa sn sc pa pn pc := ⟨h.poly, h.snaps.keep0 hc, h.packs.keep0 hc, h.names⟩
def ascAt (l : List SnapD) (j : Nat) : Bool := j == 0 || lexLt (((l[j - 1]?).map SnapD.name).getD []) (((l[j]?).map SnapD.name).getD [])
def ascB (l : List SnapD) : Bool := (List.range l.length).all (ascAt l)
def pksB (next : Int) : Int → List PkD → Bool
 | _, [] => true
 | last, p :: r => (decide (last < p.num) && (decide (p.num < next) && (decide (0 ≤ p.size) && decide (0 ≤ p.count)))) && pksB next p.num r
noncomputable def headB (C : CatD) : Bool := (decide (1 ≤ C.gen) && (decide (C.gen ≤ 1099511627776) && (decide (0 ≤ C.next) && decide (C.next ≤ 1099511627776)))) && (goodSet C.set && (decide (C.snaps.length ≤ 64) && decide (C.packs.length ≤ 1024)))
noncomputable def checkB (C : CatD) : Bool := headB C && (C.snaps.all goodSnap && (ascB C.snaps && pksB C.next (-1) C.packs))

end Go.Proofs.YtpmhjnhgpplmnaaGreatDoor
end

section
namespace Go.Proofs.YtpmhjnhgpplmnaaGreatDoor.Sx
open Go
set_option maxRecDepth 8000

theorem ba_beq (l m : List UInt8) : ((⟨l.toArray⟩ : ByteArray) == ⟨m.toArray⟩) = decide (l = m) := by
 show (l.toArray == m.toArray) = decide (l = m)
 by_cases h : l = m
 · subst h; simp
 · have : ¬ l.toArray = m.toArray := fun e => h (by have := congrArg Array.toList e; simpa using this)
   simp [h]

theorem findNow_str {α : Type} {val : α → Value} {kid : α → List UInt8} (id : List UInt8) : ∀ (L : List MapEntry) (M : List α) (i : Nat), L.map (fun x => (x.key, x.val)) = M.map (fun r => (strV (kid r), val r)) →
   Instr.findNow .string (strV id) L i = some ((M.findIdx? fun r => kid r == id).bind fun j => (M[j]?).map fun r => (i + j, val r))
 | [], [], i, _ => by simp [Instr.findNow]
 | [], r :: M, i, he => by simp at he
 | x :: L, [], i, he => by simp at he
 | x :: L, r :: M, i, he => by
   simp only [List.map_cons, List.cons.injEq, Prod.mk.injEq] at he
   obtain ⟨⟨e1, e2⟩, e3⟩ := he
   have ih := findNow_str (val := val) (kid := kid) id L M (i + 1) e3
   have hs : Instr.sameNow .string (strV id) x.key = some (decide (id = kid r)) := by
     rw [e1, strV, strV]
     simp only [Instr.sameNow, ba_beq]
   rw [Instr.findNow, hs]
   by_cases h : kid r = id
   · simp [h, e2, List.findIdx?_cons]
   · have h' : ¬ id = kid r := fun e => h e.symm
     simp only [h', decide_false, ih, List.findIdx?_cons, beq_iff_eq, h, if_false]
     cases hf : M.findIdx? fun r => kid r == id with
     | none => simp
     | some j => simp [Nat.add_assoc, Nat.add_comm 1]

theorem chk_str {P : Program} {KT : TypeId} (hT : P.underlying KT = some .string) (id : List UInt8) (em : Bool) (d : Nat) (w : World) : (Instr.checkKey em (d + 1) KT (strV id)).run P w = .ok () w := by
 simp [Instr.checkKey, run_underlying hT, strV]
theorem bits_str (id : List UInt8) (d : Nat) : Instr.sameBits (d + 1) (strV id) (strV id) = true := by
 simp only [Instr.sameBits, strV, ba_beq, decide_true]

theorem str_ops {P : Program} {KT : TypeId} (hT : P.underlying KT = some .string) : KeyOps P KT strV (fun _ => True) :=
 ⟨fun id _ em w => chk_str hT id em 9999 w,
  fun α val kid L M id _ w he _ => by
   have := findNow_str (val := val) (kid := kid) id L M 0 he
   simp only [Nat.zero_add] at this
   simp only [Instr.findKey, Sem.run_bind, run_underlying hT, Result.andThen_ok, this]
   rfl,
  fun id w => by
   unfold Instr.keyThatStays
   have : Instr.sameBits 10000 (strV id) (strV id) = true := bits_str id 9999
   simp [this]⟩

end Go.Proofs.YtpmhjnhgpplmnaaGreatDoor.Sx
end
