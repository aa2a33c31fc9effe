/- The proof of PackSavesCardSaid, part 7: what it rests on (conditions: those that each theorem names). -/
import Derived.Test.YtmdandkoajocpaaGreatDoorS6
import Derived.Test.YtmdandkoajocpaaGreatDoorRows
section
namespace Go.Proofs.YtmdandkoajocpaaGreatDoor
open Go Go.Proofs.YtmdandkoajocpaaGreatDoor.Sx

set_option maxRecDepth 100000
theorem amphoranum_Files_vc (a0a : Option Addr) (a0n : Nat) (a0c : Nat) (a1a : Option Addr) (a1n : Nat) (a1c : Nat) (w : World) (R : Ending → World → Prop) (h : (((a0n : Int) != (a1n : Int)) = true → (R (.returned (.bool false)) w)) ∧ (((a0n : Int) != (a1n : Int)) = false → (∃ (I : Int → World → Prop) (μ : Int → World → Nat), I 0 w ∧ (∀ x13, ∀ w1, I x13 w1 → ((decide (x13 < (a0n : Int)) = true → (∃ J : Bool → World → Prop, (∃ S : World → Prop, S w1.drew ∧ (∃ t18b t18o, a0a = some ⟨t18b, t18o, none⟩ ∧ 0 ≤ x13 ∧ x13 < (a0n : Int) ∧ (∃ t23b t23o, a1a = some ⟨t23b, t23o, none⟩ ∧ 0 ≤ x13 ∧ x13 < (a1n : Int) ∧ (∃ t20, (∀ w', S w' → LdQ 9 t18b (t18o + Int.toNat x13 * 2) (.string t20) w') ∧ (∃ t25, (∀ w', S w' → LdQ 9 t23b (t23o + Int.toNat x13 * 2) (.string t25) w') ∧ (((!(t20.toList == t25.toList)) = true → (J true w1.drew)) ∧ ((!(t20.toList == t25.toList)) = false → (∃ t30b t30o, a0a = some ⟨t30b, t30o, none⟩ ∧ 0 ≤ x13 ∧ x13 < (a0n : Int) ∧ (∃ t36b t36o, a1a = some ⟨t36b, t36o, none⟩ ∧ 0 ≤ x13 ∧ x13 < (a1n : Int) ∧ (∃ t32a t32n t32c, (∀ w', S w' → LdQ 33 t30b (t30o + Int.toNat x13 * 2 + 1) (.slice t32a t32n t32c) w') ∧ (∃ t33, (∀ w', S w' → (convert 33 9 (.slice t32a t32n t32c)).run Tryz.prog w' = .ok (.string t33) w') ∧ (∃ t38a t38n t38c, (∀ w', S w' → LdQ 33 t36b (t36o + Int.toNat x13 * 2 + 1) (.slice t38a t38n t38c) w') ∧ (∃ t39, (∀ w', S w' → (convert 33 9 (.slice t38a t38n t38c)).run Tryz.prog w' = .ok (.string t39) w') ∧ (J (!(t33.toList == t39.toList)) w1.drew)))))))))))))) ∧ (∀ x41, ∀ w2, J x41 w2 → ((x41 = true → (R (.returned (.bool false)) w2)) ∧ (x41 = false → (I (IntKind.wrap .i64 (x13 + 1)) w2 ∧ μ (IntKind.wrap .i64 (x13 + 1)) w2 < μ x13 w1)))))) ∧ (decide (x13 < (a0n : Int)) = false → (R (.returned (.bool true)) w1))))))) : Calls Tryz.prog 31 #[(.slice a0a a0n a0c), (.slice a1a a1n a1c)] w R := calls_of_ev2 (tc := .sq [.rg 1, .seq (.rg 5) (.cond (.seq (.rg 1) .leaf) .leaf), .seq (.rg 3) (.blk (.loop (lr [(4, 2), (13, 30)]) [13] [.int .i64] (.sq [.rg 1, .cond .leaf .leaf, .blk (.sq [.rg 2, .join (lr [(16, 26)]) [41] [.bool] (.drawS (.tks [0, 1] (.tk 2 .ix (.tks [3, 5, 6] (.tk 7 .ix (.tk 8 .p (.ts 4 .str (.ts 9 .str (.tks [10, 11] (.sp 27 (.tks (lr [(12, 4), (18, 4)]) (.ts 16 .val (.ts 17 .val (.ts 22 .val (.ts 23 .val (.tks [24, 25] .nil)))))) (.tks [12, 13] (.tk 14 .ix (.tks [15, 18, 19] (.tk 20 .ix (.tk 21 .p (.ts 16 .slice (.ts 17 .str (.ts 22 .slice (.ts 23 .str (.tks [24, 25] .nil))))))))))))))))))) [])] (.cond (.seq (.rg 1) .leaf) .leaf))] (.rg 2)))), .rg 1] .leaf) Tryz.func31 (by kernel_rfl) (by kernel_rfl) h

end Go.Proofs.YtmdandkoajocpaaGreatDoor
end

section
namespace Go.Proofs.YtmdandkoajocpaaGreatDoor
open Go Sx
set_option maxRecDepth 8000

section
variable {w0 w w' : World} {X : List Nat} {N N' T : List Res} {gd : Nat} {ps : List Nat} {m : DiskM}

theorem filesD_spec (h : DiskIn w0 X w gd ps m N) : Calls Tryz.prog 32 #[.pointer (some ⟨gd, 0, none⟩)] w fun e w' => ∃ (a : Option Addr) (c : Nat) (L : List FV), e = .returned (.slice a L.length c) ∧ L.map FV.t = filesM m ∧ St w [] w' (.row 146 2 (.slice a L.length c) L.length (L.flatMap FV.cells) :: L.map FV.row) := by
 obtain ⟨p, hps, hp, hS⟩ := h
 exact files_spec hp.mem hS
end

theorem built_surv : Tryz.prog.built 55 = fun parts => Instr.fill (fun i => (#[(0, 1), (1, 1)] : Array (Nat × Nat))[i]?) #[.int .i64 0, .slice none 0 0] parts := by kernel_rfl
theorem surv1_build (n : Int) (w : World) : (Instr.build 55 #[(0, .int .i64 n)]).run Tryz.prog w = .ok (.agg #[.int .i64 n, .slice none 0 0]) w := by
 apply run_build
 rw [built_surv]
 show Instr.fill _ _ [(0, _)] = _
 rw [fill_step (off := 0) (sz := 1) rfl rfl (by simp)]
 rfl

end Go.Proofs.YtmdandkoajocpaaGreatDoor
end

section
namespace Go.Proofs.YtmdandkoajocpaaGreatDoor
open Go Sx
set_option maxRecDepth 8000

structure FilesR (w : World) (a : Option Addr) (c : Nat) (L : List FV) : Prop where
 rd : Rd w a L.length c 2 (L.flatMap FV.cells)
 rows : ∀ v ∈ L, RdB w v.a v.data.length v.c v.data
theorem FV.cells_len (v : FV) : v.cells.length = 2 := rfl
theorem FilesR.keep0 {w w' : World} {a : Option Addr} {c : Nat} {L : List FV} (h : FilesR w a c L) (hc : Chg [] w w') : FilesR w' a c L := ⟨h.rd.keep0 hc, fun v hv => (h.rows v hv).keep0 hc⟩
theorem filesR_of {w0 w : World} {X : List Nat} {a : Option Addr} {c : Nat} {L : List FV} (h : St w0 X w (.row 146 2 (.slice a L.length c) L.length (L.flatMap FV.cells) :: L.map FV.row)) : FilesR w a c L := by
 refine ⟨h.rd (i := 0) rfl, fun v hv => ?_⟩
 obtain ⟨i, hi⟩ := List.getElem?_of_mem hv
 have : (L.map FV.row)[i]? = some v.row := by rw [List.getElem?_map, hi]; rfl
 exact h.tail.rd (i := i) this

theorem FilesR.fld {w : World} {a : Option Addr} {c : Nat} {L : List FV} (h : FilesR w a c L) {i : Nat} {v : FV} (hv : L[i]? = some v) :
   ∃ b o, a = some ⟨b, o, none⟩ ∧ ∀ w', Chg [] w w' → (Instr.loadAt 9 (.pointer (some ⟨b, o + Int.toNat (i : Int) * 2, none⟩))).run Tryz.prog w' = .ok (strV v.name) w' ∧ (Instr.loadAt 33 (.pointer (some ⟨b, o + Int.toNat (i : Int) * 2 + 1, none⟩))).run Tryz.prog w' = .ok (.slice v.a v.data.length v.c) w' := by
 have h0 : (L.flatMap FV.cells)[i * 2 + 0]? = some (strV v.name) := by rw [flatMap_at (fun x _ => FV.cells_len x) hv (by decide)]; rfl
 have h1 : (L.flatMap FV.cells)[i * 2 + 1]? = some (.slice v.a v.data.length v.c) := by rw [flatMap_at (fun x _ => FV.cells_len x) hv (by decide)]; rfl
 obtain ⟨b, o, ha, _⟩ := h.rd.cells.at_ h0
 refine ⟨b, o, ha, fun w' hc => ?_⟩
 have hr := (h.rd.keep0 hc).cells
 obtain ⟨b0, o0, e0, c0⟩ := hr.at_ h0
 obtain ⟨b1, o1, e1, c1⟩ := hr.at_ h1
 rw [ha] at e0 e1
 simp only [Option.some.injEq, Addr.mk.injEq, and_true] at e0 e1
 obtain ⟨rfl, rfl⟩ := e0
 obtain ⟨rfl, rfl⟩ := e1
 rw [Int.toNat_natCast]
 exact ⟨ld1 (stA' _) c0, ld1 (bsA _) c1⟩

theorem filesEq_spec (a1 : Option Addr) (c1 : Nat) (L1 : List FV) (a2 : Option Addr) (c2 : Nat) (L2 : List FV) (w : World) (h1 : FilesR w a1 c1 L1) (h2 : FilesR w a2 c2 L2) (he : L1.map FV.t = L2.map FV.t) (hb : L1.length ≤ 4611686018427387904) :
   Calls Tryz.prog 31 #[.slice a1 L1.length c1, .slice a2 L2.length c2] w fun e w' => e = .returned (.bool true) ∧ Chg [] w w' := by
 have hl : L1.length = L2.length := by have := congrArg List.length he; simpa using this
 apply amphoranum_Files_vc
 refine ⟨fun h => by rw [hl] at h; simp at h, fun _ => ⟨fun x w' => ∃ i : Nat, x = (i : Int) ∧ i ≤ L1.length ∧ Chg [] w w', fun x _ => L1.length - x.toNat, ⟨0, rfl, by omega, Chg.refl _ _⟩, ?_⟩⟩
 rintro x w1 ⟨i, rfl, hi, k1⟩
 refine ⟨fun hlt => ?_, fun _ => ⟨rfl, k1⟩⟩
 have hi' : i < L1.length := by simp at hlt; omega
 have g1 : L1[i]? = some L1[i] := List.getElem?_eq_getElem hi'
 have g2 : L2[i]? = some L2[i] := List.getElem?_eq_getElem (by omega)
 obtain ⟨v1, hv1⟩ : ∃ v, L1[i] = v := ⟨_, rfl⟩
 obtain ⟨v2, hv2⟩ : ∃ v, L2[i] = v := ⟨_, rfl⟩
 rw [hv1] at g1
 rw [hv2] at g2
 have ht : v1.t = v2.t := by
   have e1 : (L1.map FV.t)[i]? = some v1.t := by rw [List.getElem?_map, g1]; rfl
   rw [he, List.getElem?_map, g2] at e1
   exact (Option.some.inj e1).symm
 have hn : v1.name = v2.name := congrArg Prod.fst ht
 have hd : v1.data = v2.data := congrArg Prod.snd ht
 obtain ⟨b1, o1, e1, q1⟩ := h1.fld g1
 obtain ⟨b2, o2, e2, q2⟩ := h2.fld g2
 have kd := k1.trans (Chg.drew [] w1)
 refine ⟨fun y w' => y = false ∧ w' = w1.drew, ⟨fun w' => Chg [] w w', kd, b1, o1, e1, by omega, by omega, b2, o2, e2, by omega, by omega, _, fun w' hw => (q1 w' hw).1, _, fun w' hw => (q2 w' hw).1, fun h => ?_, fun _ => ⟨b1, o1, e1, by omega, by omega, b2, o2, e2, by omega, by omega, _, _, _, fun w' hw => (q1 w' hw).2, _, fun w' hw => toStr bS bE sS ((h1.rows v1 (List.mem_of_getElem? g1)).cells.keep0 hw) rfl, _, _, _, fun w' hw => (q2 w' hw).2, _, fun w' hw => toStr bS bE sS ((h2.rows v2 (List.mem_of_getElem? g2)).cells.keep0 hw) rfl, ?_, rfl⟩⟩, ?_⟩
 · rw [hn] at h; simp at h
 · rw [hd]; simp
 · rintro y w2 ⟨rfl, rfl⟩
   exact ⟨fun h => (by cases h), fun _ => ⟨⟨i + 1, wrap_succ hi' hb, by omega, kd⟩, mu_succ hi' hb⟩⟩

end Go.Proofs.YtmdandkoajocpaaGreatDoor
end

section
namespace Go.Proofs.YtmdandkoajocpaaGreatDoor
open Go Go.Proofs.YtmdandkoajocpaaGreatDoor.Sx

set_option maxRecDepth 100000
theorem amphoraref01_New_vc (a0 : Int) (w : World) (R : Ending → World → Prop) (h : (((decide (a0 < (0 : Int))) || (decide (a0 > (67108864 : Int)))) = true → (R (.returned (.tuple #[(.pointer none), (.int .i64 7)])) w)) ∧ (((decide (a0 < (0 : Int))) || (decide (a0 > (67108864 : Int)))) = false → (∃ t11, (Instr.build 86 #[(0, (.int .i64 a0)), (7, (.int .i64 (-1)))]).run Tryz.prog w = .ok (.agg t11) w ∧ (∃ g12 w1, (Instr.box 86 (.agg t11)).run Tryz.prog w = .ok (.pointer (some ⟨g12, 0, none⟩)) w1 ∧ (R (.returned (.tuple #[(.pointer (some ⟨g12, 0, none⟩)), (.int .i64 0)])) w1))))) : Calls Tryz.prog 28 #[(.int .i64 a0)] w R := calls_of_ev2 (tc := .sq [.rg 2, .seq (.reg (.pp 3 (.ap 2 .nil))) (.cond (.seq (.rg 2) .leaf) .leaf), .reg (.op .p (.op (.ld .agg) (.op .bx (.pp 2 .nil))))] .leaf) Tryz.func28 (by kernel_rfl) (by kernel_rfl) h

theorem amphoraref01_Name_vc (a0 : ByteArray) (w : World) (R : Ending → World → Prop) (h : (((decide ((a0.size : Int) < (1 : Int))) || (decide ((a0.size : Int) > (64 : Int)))) = true → (R (.returned (.bool false)) w)) ∧ (((decide ((a0.size : Int) < (1 : Int))) || (decide ((a0.size : Int) > (64 : Int)))) = false → (∃ (I : Int → World → Prop) (μ : Int → World → Nat), I 0 w ∧ (∀ x3, ∀ w1, I x3 w1 → ((decide (x3 < (a0.size : Int)) = true → (∃ J : Bool → World → Prop, (∃ t20, (Instr.index 9 (.string a0) (.int .i64 x3)).run Tryz.prog w1 = .ok (.int .u8 t20) w1 ∧ ((decide (t20 ≤ (32 : Int)) = true → (J true w1)) ∧ (decide (t20 ≤ (32 : Int)) = false → (∃ t25, (Instr.index 9 (.string a0) (.int .i64 x3)).run Tryz.prog w1 = .ok (.int .u8 t25) w1 ∧ ((decide (t25 ≥ (127 : Int)) = true → (J true w1)) ∧ (decide (t25 ≥ (127 : Int)) = false → (∃ t31, (Instr.index 9 (.string a0) (.int .i64 x3)).run Tryz.prog w1 = .ok (.int .u8 t31) w1 ∧ (J (t31 == (47 : Int)) w1)))))))) ∧ (∀ x33, ∀ w2, J x33 w2 → ((x33 = true → (R (.returned (.bool false)) w2)) ∧ (x33 = false → (I (IntKind.wrap .i64 (x3 + 1)) w2 ∧ μ (IntKind.wrap .i64 (x3 + 1)) w2 < μ x3 w1)))))) ∧ (decide (x3 < (a0.size : Int)) = false → (R (.returned (.bool true)) w1))))))) : Calls Tryz.prog 123 #[(.string a0)] w R := calls_of_ev2 (tc := .sq [.rg 1, .seq (.reg (.pp 4 (.ap 3 .nil))) (.cond (.seq (.rg 1) .leaf) .leaf), .seq (.rg 1) (.blk (.loop (lr [(2, 2), (12, 22)]) [3] [.int .i64] (.sq [.seq (.rg 4) (.cond .leaf .leaf), .blk (.seq (.join (lr [(18, 16)]) [33] [.bool] (.reg (.pp 2 (.op (.ld (.int .u8)) (.pp 2 (.sp 22 (.pp 11 .nil) (.pp 2 (.op (.ld (.int .u8)) (.pp 3 (.sp 28 (.pp 5 .nil) (.pp 2 (.op (.ld (.int .u8)) (.pp 2 .nil))))))))))))) (.cond (.seq (.rg 1) .leaf) .leaf))] (.rg 3)))), .rg 1] .leaf) Tryz.func123 (by kernel_rfl) (by kernel_rfl) h

theorem amphoraref01_Find_vc (a0a : Option Addr) (a0n : Nat) (a0c : Nat) (a1 : ByteArray) (w : World) (R : Ending → World → Prop) (h : ∃ (I : Int → World → Prop) (μ : Int → World → Nat), I 0 w ∧ (∀ x5, ∀ w1, I x5 w1 → ((decide (x5 < (a0n : Int)) = true → (∃ t14b t14o, a0a = some ⟨t14b, t14o, none⟩ ∧ 0 ≤ x5 ∧ x5 < (a0n : Int) ∧ (∃ t16, LdQ 9 t14b (t14o + Int.toNat x5 * 2) (.string t16) w1 ∧ (((t16.toList == a1.toList) = true → (∃ t21b t21o, a0a = some ⟨t21b, t21o, none⟩ ∧ 0 ≤ x5 ∧ x5 < (a0n : Int) ∧ (∃ t23, LdQ 3 t21b (t21o + Int.toNat x5 * 2 + 1) (.int .i64 t23) w1 ∧ (R (.returned (.int .i64 t23)) w1)))) ∧ ((t16.toList == a1.toList) = false → (I (IntKind.wrap .i64 (x5 + 1)) w1 ∧ μ (IntKind.wrap .i64 (x5 + 1)) w1 < μ x5 w1)))))) ∧ (decide (x5 < (a0n : Int)) = false → (R (.returned (.int .i64 (-1))) w1))))) : Calls Tryz.prog 99 #[(.slice a0a a0n a0c), (.string a1)] w R := calls_of_ev2 (tc := .sq [.rg 1, .seq (.rg 1) (.blk (.loop (lr [(4, 20)]) [5] [.int .i64] (.sq [.seq (.rg 4) (.cond .leaf .leaf), .blk (.seq (.reg (.pp 2 (.op .ix (.op .p (.op (.ld .str) (.pp 2 .nil)))))) (.cond (.seq (.reg (.pp 2 (.op .ix (.op .p (.op (.ld (.int .i64)) (.op .p .nil)))))) .leaf) .leaf))] (.rg 3)))), .rg 1] .leaf) Tryz.func99 (by kernel_rfl) (by kernel_rfl) h

theorem amphoraref01_without_vc (a0a : Option Addr) (a0n : Nat) (a0c : Nat) (a1 : ByteArray) (w : World) (R : Ending → World → Prop) (h : ∃ (I : Option Addr → Nat → Nat → Int → World → Prop) (μ : Option Addr → Nat → Nat → Int → World → Nat), I none 0 0 0 w ∧ (∀ x5a x5n x5c x6, ∀ w1, I x5a x5n x5c x6 w1 → ((decide (x6 < (a0n : Int)) = true → (∃ t15b t15o, a0a = some ⟨t15b, t15o, none⟩ ∧ 0 ≤ x6 ∧ x6 < (a0n : Int) ∧ (∃ t17, LdQ 9 t15b (t15o + Int.toNat x6 * 2) (.string t17) w1 ∧ (∃ J : Option Addr → Nat → Nat → World → Prop, (((!(t17.toList == a1.toList)) = true → (∃ t23b t23o, a0a = some ⟨t23b, t23o, none⟩ ∧ 0 ≤ x6 ∧ x6 < (a0n : Int) ∧ (∃ t24, LdQ 148 t23b (t23o + Int.toNat x6 * 2) (.agg t24) w1 ∧ (∃ t25a t25n t25c w2, (Instr.buildSlice 83 1 #[(0, (.agg t24))]).run Tryz.prog w1 = .ok (.slice t25a t25n t25c) w2 ∧ (∃ t26a t26n t26c w3, (Builtin.append_ #[83, 83] 83 #[(.slice x5a x5n x5c), (.slice t25a t25n t25c)]).run Tryz.prog w2 = .ok (.slice t26a t26n t26c) w3 ∧ (J t26a t26n t26c w3)))))) ∧ ((!(t17.toList == a1.toList)) = false → (J x5a x5n x5c w1))) ∧ (∀ x5a_1 x5n_1 x5c_1, ∀ w4, J x5a_1 x5n_1 x5c_1 w4 → (I x5a_1 x5n_1 x5c_1 (IntKind.wrap .i64 (x6 + 1)) w4 ∧ μ x5a_1 x5n_1 x5c_1 (IntKind.wrap .i64 (x6 + 1)) w4 < μ x5a x5n x5c x6 w1)))))) ∧ (decide (x6 < (a0n : Int)) = false → (R (.returned (.slice x5a x5n x5c)) w1))))) : Calls Tryz.prog 100 #[(.slice a0a a0n a0c), (.string a1)] w R := calls_of_ev2 (tc := .sq [.rg 1, .rg 1, .seq (.rg 1) (.blk (.loop (lr [(5, 22)]) [5, 6] [.slice, .int .i64] (.sq [.seq (.rg 4) (.cond .leaf .leaf), .blk (.seq (.reg (.pp 2 (.op .ix (.op .p (.op (.ld .str) (.pp 2 .nil)))))) (.join (lr [(5, 1), (20, 7)]) [5] [.slice] (.cond (.reg (.pp 3 (.op .ix (.op (.ld .agg) (.op (.r .slice) (.op (.r .slice) (.op .p .nil))))))) .leaf)))] (.rg 3)))), .rg 2] .leaf) Tryz.func100 (by kernel_rfl) (by kernel_rfl) h

theorem amphoraref01_with_vc (a0a : Option Addr) (a0n : Nat) (a0c : Nat) (a1 : ByteArray) (a2 : Int) (w : World) (R : Ending → World → Prop) (h : Calls Tryz.prog 100 #[(.slice a0a a0n a0c), (.string a1)] w fun e13 w1 => ∃ t13a t13n t13c, e13 = .returned (.slice t13a t13n t13c) ∧ (∃ (I : Option Addr → Nat → Nat → Bool → Int → World → Prop) (μ : Option Addr → Nat → Nat → Bool → Int → World → Nat), I none 0 0 false 0 w1 ∧ (∀ x7a x7n x7c x8 x10, ∀ w2, I x7a x7n x7c x8 x10 w2 → ((decide (x10 < (t13n : Int)) = true → (∃ J : Bool → World → Prop, (((!x8) = true → (∃ t25b t25o, t13a = some ⟨t25b, t25o, none⟩ ∧ 0 ≤ x10 ∧ x10 < (t13n : Int) ∧ (∃ t27, LdQ 9 t25b (t25o + Int.toNat x10 * 2) (.string t27) w2 ∧ (∃ t29, (eqlS .gtr 9 (.tmp 27) (.tmp 28) (.string t27) (.string a1)).run Tryz.prog w2 = .ok (.bool t29) w2 ∧ (J t29 w2))))) ∧ ((!x8) = false → (J false w2))) ∧ (∀ x30, ∀ w3, J x30 w3 → (∃ J_1 : Option Addr → Nat → Nat → Bool → World → Prop, ((x30 = true → (∃ t34, (Instr.build 148 #[(0, (.string a1)), (1, (.int .i64 a2))]).run Tryz.prog w3 = .ok (.agg t34) w3 ∧ (∃ t35a t35n t35c w4, (Instr.buildSlice 83 1 #[(0, (.agg t34))]).run Tryz.prog w3 = .ok (.slice t35a t35n t35c) w4 ∧ (∃ t36a t36n t36c w5, (Builtin.append_ #[83, 83] 83 #[(.slice x7a x7n x7c), (.slice t35a t35n t35c)]).run Tryz.prog w4 = .ok (.slice t36a t36n t36c) w5 ∧ (J_1 t36a t36n t36c true w5))))) ∧ (x30 = false → (J_1 x7a x7n x7c x8 w3))) ∧ (∀ x7a_1 x7n_1 x7c_1 x8_1, ∀ w6, J_1 x7a_1 x7n_1 x7c_1 x8_1 w6 → (∃ t40b t40o, t13a = some ⟨t40b, t40o, none⟩ ∧ 0 ≤ x10 ∧ x10 < (t13n : Int) ∧ (∃ t41, LdQ 148 t40b (t40o + Int.toNat x10 * 2) (.agg t41) w6 ∧ (∃ t42a t42n t42c w7, (Instr.buildSlice 83 1 #[(0, (.agg t41))]).run Tryz.prog w6 = .ok (.slice t42a t42n t42c) w7 ∧ (∃ t43a t43n t43c w8, (Builtin.append_ #[83, 83] 83 #[(.slice x7a_1 x7n_1 x7c_1), (.slice t42a t42n t42c)]).run Tryz.prog w7 = .ok (.slice t43a t43n t43c) w8 ∧ (I t43a t43n t43c x8_1 (IntKind.wrap .i64 (x10 + 1)) w8 ∧ μ t43a t43n t43c x8_1 (IntKind.wrap .i64 (x10 + 1)) w8 < μ x7a x7n x7c x8 x10 w2)))))))))) ∧ (decide (x10 < (t13n : Int)) = false → (∃ J : Option Addr → Nat → Nat → World → Prop, (((!x8) = true → (∃ t49, (Instr.build 148 #[(0, (.string a1)), (1, (.int .i64 a2))]).run Tryz.prog w2 = .ok (.agg t49) w2 ∧ (∃ t50a t50n t50c w9, (Instr.buildSlice 83 1 #[(0, (.agg t49))]).run Tryz.prog w2 = .ok (.slice t50a t50n t50c) w9 ∧ (∃ t51a t51n t51c w10, (Builtin.append_ #[83, 83] 83 #[(.slice x7a x7n x7c), (.slice t50a t50n t50c)]).run Tryz.prog w9 = .ok (.slice t51a t51n t51c) w10 ∧ (J t51a t51n t51c w10))))) ∧ ((!x8) = false → (J x7a x7n x7c w2))) ∧ (∀ x7a_1 x7n_1 x7c_1, ∀ w11, J x7a_1 x7n_1 x7c_1 w11 → (R (.returned (.slice x7a_1 x7n_1 x7c_1)) w11)))))))) : Calls Tryz.prog 98 #[(.slice a0a a0n a0c), (.string a1), (.int .i64 a2)] w R := calls_of_ev2 (tc := .sq [.rg 1, .rg 1, .rg 1, .reg (.pp 2 (.op (.cl [.slice]) (.op .p .nil))), .seq (.rg 1) (.blk (.loop (lr [(7, 2), (10, 1), (14, 30)]) [7, 8, 10] [.slice, .bool, .int .i64] (.sq [.seq (.rg 4) (.cond .leaf .leaf), .blk (.seq (.seq (.join (lr [(20, 11)]) [30] [.bool] (.reg (.pp 3 (.sp 22 (.pp 2 (.op .ix (.op .p (.op (.ld .str) (.op .p (.op (.ld .bool) (.op .p .nil))))))) (.pp 8 .nil))))) (.join (lr [(7, 2), (31, 6)]) [7, 8] [.slice, .bool] (.cond (.seq (.reg (.pp 3 (.op (.ld .agg) (.op (.r .slice) (.op (.r .slice) (.op .p .nil)))))) (.rg 1)) .leaf))) (.reg (.pp 3 (.op .ix (.op (.ld .agg) (.op (.r .slice) (.op (.r .slice) (.op .p .nil))))))))] (.rg 3)))), .seq (.rg 2) (.join (lr [(7, 1), (46, 6)]) [7] [.slice] (.cond (.reg (.pp 3 (.op (.ld .agg) (.op (.r .slice) (.op (.r .slice) (.op .p .nil)))))) .leaf)), .rg 2] .leaf) Tryz.func98 (by kernel_rfl) (by kernel_rfl) h

theorem amphoraref01_made_vc (a0a : Option Addr) (a0n : Nat) (a0c : Nat) (a1 : Array Value) (w : World) (R : Ending → World → Prop) (h : ∃ g3 w1, (Instr.box 153 (.agg a1)).run Tryz.prog w = .ok (.pointer (some ⟨g3, 0, none⟩)) w1 ∧ (∃ t7, LdQ 3 g3 0 (.int .i64 t7) w1 ∧ ((decide (t7 ≥ (0 : Int)) = true → (∃ t11, LdQ 9 g3 2 (.string t11) w1 ∧ (∃ t13, LdQ 3 g3 0 (.int .i64 t13) w1 ∧ (Calls Tryz.prog 98 #[(.slice a0a a0n a0c), (.string t11), (.int .i64 t13)] w1 fun e14 w2 => ∃ t14a t14n t14c, e14 = .returned (.slice t14a t14n t14c) ∧ (R (.returned (.slice t14a t14n t14c)) w2))))) ∧ (decide (t7 ≥ (0 : Int)) = false → (∃ t17, LdQ 9 g3 1 (.string t17) w1 ∧ (Calls Tryz.prog 99 #[(.slice a0a a0n a0c), (.string t17)] w1 fun e18 w3 => ∃ t18, e18 = .returned (.int .i64 t18) ∧ (∃ t21, LdQ 9 g3 1 (.string t21) w3 ∧ (Calls Tryz.prog 100 #[(.slice a0a a0n a0c), (.string t21)] w3 fun e22 w4 => ∃ t22a t22n t22c, e22 = .returned (.slice t22a t22n t22c) ∧ (∃ t24, LdQ 9 g3 2 (.string t24) w4 ∧ (((t24.toList == (ByteArray.mk #[]).toList) = true → (R (.returned (.slice t22a t22n t22c)) w4)) ∧ ((t24.toList == (ByteArray.mk #[]).toList) = false → (∃ t29, LdQ 9 g3 2 (.string t29) w4 ∧ (Calls Tryz.prog 98 #[(.slice t22a t22n t22c), (.string t29), (.int .i64 t18)] w4 fun e31 w5 => ∃ t31a t31n t31c, e31 = .returned (.slice t31a t31n t31c) ∧ (R (.returned (.slice t31a t31n t31c)) w5)))))))))))))) : Calls Tryz.prog 67 #[(.slice a0a a0n a0c), (.agg a1)] w R := calls_of_ev2 (tc := .sq [.reg (.op .bx (.op .p .nil)), .seq (.reg (.op .p (.op (.ld (.int .i64)) (.op .p .nil)))) (.cond (.seq (.reg (.pp 2 (.op (.ld .str) (.op .p (.op (.ld (.int .i64)) (.op (.cl [.slice]) (.op .p .nil))))))) .leaf) .leaf), .reg (.pp 2 (.op (.ld .str) (.op (.cl [.int .i64]) (.op .p .nil)))), .reg (.pp 2 (.op (.ld .str) (.op (.cl [.slice]) (.op .p .nil)))), .seq (.reg (.op .p (.op (.ld .str) (.op .p .nil)))) (.cond (.seq (.rg 2) .leaf) .leaf), .reg (.pp 2 (.op (.ld .str) (.op .p (.op (.cl [.slice]) (.op .p .nil)))))] .leaf) Tryz.func67 (by kernel_rfl) (by kernel_rfl) h

theorem amphoraref01_Disk_Used_vc (a0b : Nat) (a0o : Nat) (w : World) (R : Ending → World → Prop) (h : ∃ (I : Int → Int → World → Prop) (μ : Int → Int → World → Nat), I 0 0 w ∧ (∀ x3 x4, ∀ w1, I x3 x4 w1 → (∃ t9a t9n t9c, LdQ 83 a0b (a0o + 2) (.slice t9a t9n t9c) w1 ∧ ((decide (x4 < (t9n : Int)) = true → (∃ S : World → Prop, S w1.drew ∧ (∃ t18a t18n t18c, (∀ w', S w' → LdQ 82 a0b (a0o + 1) (.slice t18a t18n t18c) w') ∧ (∃ t22a t22n t22c, (∀ w', S w' → LdQ 83 a0b (a0o + 2) (.slice t22a t22n t22c) w') ∧ (∃ t24b t24o, t22a = some ⟨t24b, t24o, none⟩ ∧ 0 ≤ x4 ∧ x4 < (t22n : Int) ∧ (∃ t26, (∀ w', S w' → LdQ 3 t24b (t24o + Int.toNat x4 * 2 + 1) (.int .i64 t26) w') ∧ (∃ t27b t27o, t18a = some ⟨t27b, t27o, none⟩ ∧ 0 ≤ t26 ∧ t26 < (t18n : Int) ∧ (∃ t29a t29n t29c, (∀ w', S w' → LdQ 33 t27b (t27o + Int.toNat t26 * 2) (.slice t29a t29n t29c) w') ∧ (I (IntKind.wrap .i64 (x3 + (t29n : Int))) (IntKind.wrap .i64 (x4 + 1)) w1.drew ∧ μ (IntKind.wrap .i64 (x3 + (t29n : Int))) (IntKind.wrap .i64 (x4 + 1)) w1.drew < μ x3 x4 w1))))))))) ∧ (decide (x4 < (t9n : Int)) = false → (R (.returned (.int .i64 x3)) w1)))))) : Calls Tryz.prog 97 #[(.pointer (some ⟨a0b, a0o, none⟩))] w R := calls_of_ev2 (tc := .sq [.rg 1, .rg 1, .seq (.rg 1) (.blk (.loop (lr [(3, 29)]) [3, 4] [.int .i64, .int .i64] (.sq [.seq (.reg (.pp 4 (.op (.ld .slice) (.pp 2 .nil)))) (.cond .leaf .leaf), .blk (.drawS (.tks [0, 1, 2, 3, 5, 6, 7, 9] (.ts 4 .slice (.ts 8 .slice (.tk 10 .ix (.tk 11 .p (.ts 12 (.int .i64) (.tk 13 .ix (.tk 14 .p (.ts 15 .slice (.tks [16, 17, 18] .nil)))))))))) [])] (.rg 3)))), .rg 2] .leaf) Tryz.func97 (by kernel_rfl) (by kernel_rfl) h

theorem amphoraref01_Disk_step_vc (a0b : Nat) (a0o : Nat) (w : World) (R : Ending → World → Prop) (h : ∃ t7, LdQ 3 a0b (a0o + 7) (.int .i64 t7) w ∧ (((t7 == (0 : Int)) = true → (∃ w1, StQ 4 a0b (a0o + 6) (.bool true) w w1 ∧ (R (.returned (.int .i64 1)) w1))) ∧ ((t7 == (0 : Int)) = false → (∃ t15, LdQ 3 a0b (a0o + 7) (.int .i64 t15) w ∧ (∃ J : World → Prop, ((decide (t15 > (0 : Int)) = true → (∃ t20, LdQ 3 a0b (a0o + 7) (.int .i64 t20) w ∧ (∃ w2, StQ 3 a0b (a0o + 7) (.int .i64 (IntKind.wrap .i64 (t20 - (1 : Int)))) w w2 ∧ (J  w2)))) ∧ (decide (t15 > (0 : Int)) = false → (J  w))) ∧ (∀ w3, J  w3 → (∃ t27, LdQ 3 a0b (a0o + 5) (.int .i64 t27) w3 ∧ (∃ w4, StQ 3 a0b (a0o + 5) (.int .i64 (IntKind.wrap .i64 (t27 + 1))) w3 w4 ∧ (∃ t34a t34n t34c, LdQ 53 a0b (a0o + 8) (.slice t34a t34n t34c) w4 ∧ ((((t34n : Int) == (0 : Int)) = true → (R (.returned (.int .i64 0)) w4)) ∧ (((t34n : Int) == (0 : Int)) = false → (∃ t37a t37n t37c w5, (Instr.buildSlice 53 0 #[]).run Tryz.prog w4 = .ok (.slice t37a t37n t37c) w5 ∧ (∃ t41a t41n t41c, LdQ 53 a0b (a0o + 8) (.slice t41a t41n t41c) w5 ∧ (0 ≤ (1 : Int) ∧ (1 : Int) ≤ (t41n : Int) ∧ (t41n : Int) ≤ (t41c : Int) ∧ ∀ t42a, SubA 1 t41a 1 t41c t42a → (∃ t43a t43n t43c w6, (Builtin.append_ #[53, 53] 53 #[(.slice t37a t37n t37c), (.slice t42a ((t41n) - 1) (t41c - 1))]).run Tryz.prog w5 = .ok (.slice t43a t43n t43c) w6 ∧ (∃ t47a t47n t47c, LdQ 53 a0b (a0o + 8) (.slice t47a t47n t47c) w6 ∧ (∃ t48b t48o, t47a = some ⟨t48b, t48o, none⟩ ∧ 0 ≤ (0 : Int) ∧ (0 : Int) < (t47n : Int) ∧ (∃ t49, LdQ 3 t48b (t48o + Int.toNat (0 : Int) * 1) (.int .i64 t49) w6 ∧ (((t49 == (0 : Int)) = true → (∃ w7, StQ 53 a0b (a0o + 8) (.slice t43a t43n t43c) w6 w7 ∧ (R (.returned (.int .i64 2)) w7))) ∧ ((t49 == (0 : Int)) = false → (∃ t59a t59n t59c, LdQ 53 a0b (a0o + 8) (.slice t59a t59n t59c) w6 ∧ (∃ t60b t60o, t59a = some ⟨t60b, t60o, none⟩ ∧ 0 ≤ (0 : Int) ∧ (0 : Int) < (t59n : Int) ∧ (∃ t61, LdQ 3 t60b (t60o + Int.toNat (0 : Int) * 1) (.int .i64 t61) w6 ∧ (∃ t63a t63n t63c w8, (Instr.buildSlice 53 1 #[(0, (.int .i64 (IntKind.wrap .i64 (t61 - (1 : Int)))))]).run Tryz.prog w6 = .ok (.slice t63a t63n t63c) w8 ∧ (∃ t65a t65n t65c w9, (Builtin.append_ #[53, 53] 53 #[(.slice t63a t63n t63c), (.slice t43a t43n t43c)]).run Tryz.prog w8 = .ok (.slice t65a t65n t65c) w9 ∧ (∃ w10, StQ 53 a0b (a0o + 8) (.slice t65a t65n t65c) w9 w10 ∧ (R (.returned (.int .i64 0)) w10))))))))))))))))))))))))))) : Calls Tryz.prog 96 #[(.pointer (some ⟨a0b, a0o, none⟩))] w R := calls_of_ev2 (tc := .sq [.rg 1, .seq (.reg (.pp 3 (.op (.ld (.int .i64)) (.op .p .nil)))) (.cond (.sq [.reg (.pp 3 (.op .u .nil)), .rg 1] .leaf) .leaf), .seq (.reg (.pp 3 (.op (.ld (.int .i64)) (.op .p .nil)))) (.join (lr [(17, 7)]) [] [] (.cond (.reg (.pp 3 (.op (.ld (.int .i64)) (.pp 3 (.op .u .nil))))) .leaf)), .reg (.pp 3 (.op (.ld (.int .i64)) (.pp 3 (.op .u .nil)))), .seq (.reg (.pp 3 (.op (.ld .slice) (.pp 2 .nil)))) (.cond (.seq (.rg 1) .leaf) .leaf), .reg (.op (.r .slice) (.pp 3 (.op (.ld .slice) (.op .sl (.op (.r .slice) (.op .p .nil)))))), .seq (.reg (.pp 3 (.op (.ld .slice) (.op .ix (.op (.ld (.int .i64)) (.op .p .nil)))))) (.cond (.sq [.reg (.pp 4 (.op .u .nil)), .rg 1] .leaf) .leaf), .reg (.pp 4 (.op (.ld .slice) (.op .ix (.op (.ld (.int .i64)) (.op .p (.op (.r .slice) (.op .p (.op (.r .slice) (.pp 2 (.op .u .nil)))))))))), .rg 1] .leaf) Tryz.func96 (by kernel_rfl) (by kernel_rfl) h

theorem amphoraref01_Disk_found_vc (a0b : Nat) (a0o : Nat) (a1 : ByteArray) (w : World) (R : Ending → World → Prop) (h : ∃ t10, LdQ 4 a0b (a0o + 6) (.bool t10) w ∧ ((t10 = true → (R (.returned (.tuple #[(.int .i64 (-1)), (.int .i64 1)])) w)) ∧ (t10 = false → (Calls Tryz.prog 123 #[(.string a1)] w fun e12 w1 => ∃ t12, e12 = .returned (.bool t12) ∧ (((!t12) = true → (R (.returned (.tuple #[(.int .i64 (-1)), (.int .i64 6)])) w1)) ∧ ((!t12) = false → (∃ t17a t17n t17c, LdQ 83 a0b (a0o + 2) (.slice t17a t17n t17c) w1 ∧ (Calls Tryz.prog 99 #[(.slice t17a t17n t17c), (.string a1)] w1 fun e19 w2 => ∃ t19, e19 = .returned (.int .i64 t19) ∧ ((decide (t19 < (0 : Int)) = true → (R (.returned (.tuple #[(.int .i64 (-1)), (.int .i64 5)])) w2)) ∧ (decide (t19 < (0 : Int)) = false → (R (.returned (.tuple #[(.int .i64 t19), (.int .i64 0)])) w2))))))))))) : Calls Tryz.prog 95 #[(.pointer (some ⟨a0b, a0o, none⟩)), (.string a1)] w R := calls_of_ev2 (tc := .sq [.rg 2, .seq (.reg (.pp 3 (.op (.ld .bool) .nil))) (.cond (.seq (.rg 2) .leaf) .leaf), .seq (.reg (.op .p (.op (.cl [.bool]) (.op .p .nil)))) (.cond (.seq (.rg 2) .leaf) .leaf), .reg (.pp 3 (.op (.ld .slice) (.op .p (.op (.cl [.int .i64]) (.op .p .nil))))), .seq (.rg 2) (.cond (.seq (.rg 2) .leaf) .leaf), .rg 3] .leaf) Tryz.func95 (by kernel_rfl) (by kernel_rfl) h

theorem amphoraref01_Disk_Create_vc (a0b : Nat) (a0o : Nat) (a1 : ByteArray) (w : World) (R : Ending → World → Prop) (h : Calls Tryz.prog 95 #[(.pointer (some ⟨a0b, a0o, none⟩)), (.string a1)] w fun e11 w1 => ∃ t11_0 t11_1, e11 = .returned (.tuple #[(.int .i64 t11_0), (.int .i64 t11_1)]) ∧ (((t11_1 == (0 : Int)) = true → (R (.returned (.int .i64 4)) w1)) ∧ ((t11_1 == (0 : Int)) = false → (((t11_1 != (5 : Int)) = true → (R (.returned (.int .i64 t11_1)) w1)) ∧ ((t11_1 != (5 : Int)) = false → (∃ t22a t22n t22c, LdQ 83 a0b (a0o + 2) (.slice t22a t22n t22c) w1 ∧ ((decide ((t22n : Int) ≥ (4096 : Int)) = true → (R (.returned (.int .i64 19)) w1)) ∧ (decide ((t22n : Int) ≥ (4096 : Int)) = false → (Calls Tryz.prog 96 #[(.pointer (some ⟨a0b, a0o, none⟩))] w1 fun e26 w2 => ∃ t26, e26 = .returned (.int .i64 t26) ∧ (((t26 != (0 : Int)) = true → (R (.returned (.int .i64 t26)) w2)) ∧ ((t26 != (0 : Int)) = false → (∃ t34a t34n t34c, LdQ 82 a0b (a0o + 1) (.slice t34a t34n t34c) w2 ∧ (∃ t35, (Instr.build 150 #[]).run Tryz.prog w2 = .ok (.agg t35) w2 ∧ (∃ t36a t36n t36c w3, (Instr.buildSlice 82 1 #[(0, (.agg t35))]).run Tryz.prog w2 = .ok (.slice t36a t36n t36c) w3 ∧ (∃ t37a t37n t37c w4, (Builtin.append_ #[82, 82] 82 #[(.slice t34a t34n t34c), (.slice t36a t36n t36c)]).run Tryz.prog w3 = .ok (.slice t37a t37n t37c) w4 ∧ (∃ w5, StQ 82 a0b (a0o + 1) (.slice t37a t37n t37c) w4 w5 ∧ (∃ t43a t43n t43c, LdQ 82 a0b (a0o + 1) (.slice t43a t43n t43c) w5 ∧ (∃ t47, (Instr.build 153 #[(0, (.int .i64 (IntKind.wrap .i64 ((t43n : Int) - (1 : Int))))), (2, (.string a1))]).run Tryz.prog w5 = .ok (.agg t47) w5 ∧ (∃ g7 w6, AlQ 153 g7 w5 w6 ∧ (∃ w7, StQ 153 g7 0 (.agg t47) w6 w7 ∧ (∃ S : World → Prop, S w7.drew ∧ (∃ t52a t52n t52c, (∀ w', S w' → LdQ 83 a0b (a0o + 2) (.slice t52a t52n t52c) w') ∧ (∃ t53, (∀ w', S w' → LdQ 153 g7 0 (.agg t53) w') ∧ (Calls Tryz.prog 67 #[(.slice t52a t52n t52c), (.agg t53)] w7.drew fun e54 w8 => ∃ t54a t54n t54c, e54 = .returned (.slice t54a t54n t54c) ∧ (∃ S_1 : World → Prop, (∀ w', S_1 w' → S w') ∧ S_1 w8 ∧ (∃ w9, StQ 83 a0b (a0o + 2) (.slice t54a t54n t54c) w8 w9 ∧ (∃ S_2 : World → Prop, S_2 w9.drew ∧ (∃ t61a t61n t61c, (∀ w', S_2 w' → LdQ 84 a0b (a0o + 4) (.slice t61a t61n t61c) w') ∧ (∃ t62, (∀ w', S_2 w' → LdQ 153 g7 0 (.agg t62) w') ∧ (∃ t63a t63n t63c w10, (Instr.buildSlice 84 1 #[(0, (.agg t62))]).run Tryz.prog w9.drew = .ok (.slice t63a t63n t63c) w10 ∧ (∃ S_3 : World → Prop, (∀ w', S_3 w' → S_2 w') ∧ S_3 w10 ∧ (∃ t64a t64n t64c w11, (Builtin.append_ #[84, 84] 84 #[(.slice t61a t61n t61c), (.slice t63a t63n t63c)]).run Tryz.prog w10 = .ok (.slice t64a t64n t64c) w11 ∧ (∃ S_4 : World → Prop, (∀ w', S_4 w' → S_3 w') ∧ S_4 w11 ∧ (∃ w12, StQ 84 a0b (a0o + 4) (.slice t64a t64n t64c) w11 w12 ∧ (R (.returned (.int .i64 0)) w12))))))))))))))))))))))))))))))))))) : Calls Tryz.prog 64 #[(.pointer (some ⟨a0b, a0o, none⟩)), (.string a1)] w R := calls_of_ev2 (tc := .sq [.rg 1, .reg (.pp 2 (.op (.cl [.int .i64, .int .i64]) (.pp 5 .nil))), .seq (.rg 2) (.cond (.seq (.rg 1) .leaf) .leaf), .seq (.rg 2) (.cond (.seq (.rg 2) .leaf) .leaf), .seq (.reg (.pp 3 (.op (.ld .slice) (.pp 2 .nil)))) (.cond (.seq (.rg 1) .leaf) .leaf), .reg (.op .p (.op (.cl [.int .i64]) (.op .p .nil))), .seq (.rg 2) (.cond (.seq (.rg 2) .leaf) .leaf), .reg (.pp 4 (.op (.ld .slice) (.op (.ld .agg) (.op (.r .slice) (.op (.r .slice) (.pp 2 (.op .u .nil))))))), .reg (.pp 3 (.op (.ld .slice) (.pp 3 (.op (.ld .agg) (.op .bx (.op .u .nil)))))), .drawS (.tks [0, 1, 2, 3] (.ts 4 .slice (.ts 5 .agg (.go 6 (.cl [.slice]) (.tks [7, 8] (.go 9 .u .nil)))))) [9], .drawS (.tks [0, 1, 2, 3] (.ts 4 .slice (.ts 5 .agg (.go 6 (.r .slice) (.go 7 (.r .slice) (.tks [8, 9] (.go 10 .u .nil))))))) [10], .rg 1] .leaf) Tryz.func64 (by kernel_rfl) (by kernel_rfl) h

theorem amphoraref01_Disk_Append_vc (a0b : Nat) (a0o : Nat) (a1 : ByteArray) (a2a : Option Addr) (a2n : Nat) (a2c : Nat) (w : World) (R : Ending → World → Prop) (h : Calls Tryz.prog 95 #[(.pointer (some ⟨a0b, a0o, none⟩)), (.string a1)] w fun e15 w1 => ∃ t15_0 t15_1, e15 = .returned (.tuple #[(.int .i64 t15_0), (.int .i64 t15_1)]) ∧ (((t15_1 != (0 : Int)) = true → (R (.returned (.int .i64 t15_1)) w1)) ∧ ((t15_1 != (0 : Int)) = false → (∃ t21a t21n t21c w2, (Instr.buildSlice 33 0 #[]).run Tryz.prog w1 = .ok (.slice t21a t21n t21c) w2 ∧ (∃ t25a t25n t25c, LdQ 82 a0b (a0o + 1) (.slice t25a t25n t25c) w2 ∧ (∃ t27b t27o, t25a = some ⟨t27b, t27o, none⟩ ∧ 0 ≤ t15_0 ∧ t15_0 < (t25n : Int) ∧ (∃ t29a t29n t29c, LdQ 33 t27b (t27o + Int.toNat t15_0 * 2) (.slice t29a t29n t29c) w2 ∧ (∃ t30a t30n t30c w3, (Builtin.append_ #[33, 33] 33 #[(.slice t21a t21n t21c), (.slice t29a t29n t29c)]).run Tryz.prog w2 = .ok (.slice t30a t30n t30c) w3 ∧ (∃ S : World → Prop, S w3.drew ∧ (∃ t34, (∀ w', S w' → LdQ 3 a0b a0o (.int .i64 t34) w') ∧ (Calls Tryz.prog 97 #[(.pointer (some ⟨a0b, a0o, none⟩))] w3.drew fun e36 w4 => ∃ t36, e36 = .returned (.int .i64 t36) ∧ (∃ S_1 : World → Prop, (∀ w', S_1 w' → S w') ∧ S_1 w4 ∧ (∃ (I : Option Addr → Nat → Nat → Int → Int → World → Prop) (μ : Option Addr → Nat → Nat → Int → Int → World → Nat), I t30a t30n t30c (IntKind.wrap .i64 (t34 - t36)) 0 w4 ∧ (∀ x9a x9n x9c x10 x11, ∀ w5, I x9a x9n x9c x10 x11 w5 → ((decide (x11 < (a2n : Int)) = true → (∃ t46b t46o, a2a = some ⟨t46b, t46o, none⟩ ∧ 0 ≤ x11 ∧ x11 < (a2n : Int) ∧ (∃ t47a t47n t47c, LdQ 33 t46b (t46o + Int.toNat x11 * 1) (.slice t47a t47n t47c) w5 ∧ ((decide ((t47n : Int) > x10) = true → (R (.returned (.int .i64 3)) w5)) ∧ (decide ((t47n : Int) > x10) = false → (∃ t54b t54o, a2a = some ⟨t54b, t54o, none⟩ ∧ 0 ≤ x11 ∧ x11 < (a2n : Int) ∧ (∃ t55a t55n t55c, LdQ 33 t54b (t54o + Int.toNat x11 * 1) (.slice t55a t55n t55c) w5 ∧ (∃ t61b t61o, a2a = some ⟨t61b, t61o, none⟩ ∧ 0 ≤ x11 ∧ x11 < (a2n : Int) ∧ (∃ t62a t62n t62c, LdQ 33 t61b (t61o + Int.toNat x11 * 1) (.slice t62a t62n t62c) w5 ∧ (∃ t63a t63n t63c w6, (Builtin.append_ #[33, 33] 33 #[(.slice x9a x9n x9c), (.slice t62a t62n t62c)]).run Tryz.prog w5 = .ok (.slice t63a t63n t63c) w6 ∧ (I t63a t63n t63c (IntKind.wrap .i64 (x10 - (t55n : Int))) (IntKind.wrap .i64 (x11 + 1)) w6 ∧ μ t63a t63n t63c (IntKind.wrap .i64 (x10 - (t55n : Int))) (IntKind.wrap .i64 (x11 + 1)) w6 < μ x9a x9n x9c x10 x11 w5))))))))))) ∧ (decide (x11 < (a2n : Int)) = false → (Calls Tryz.prog 96 #[(.pointer (some ⟨a0b, a0o, none⟩))] w5 fun e65 w7 => ∃ t65, e65 = .returned (.int .i64 t65) ∧ (∃ J : World → Prop, (((t65 == (0 : Int)) = true → (∃ t71a t71n t71c, LdQ 82 a0b (a0o + 1) (.slice t71a t71n t71c) w7 ∧ (∃ t74b t74o, t71a = some ⟨t74b, t74o, none⟩ ∧ 0 ≤ t15_0 ∧ t15_0 < (t71n : Int) ∧ (∃ w8, StQ 33 t74b (t74o + Int.toNat t15_0 * 2) (.slice x9a x9n x9c) w7 w8 ∧ (J  w8))))) ∧ ((t65 == (0 : Int)) = false → (J  w7))) ∧ (∀ w9, J  w9 → (R (.returned (.int .i64 t65)) w9)))))))))))))))))))) : Calls Tryz.prog 65 #[(.pointer (some ⟨a0b, a0o, none⟩)), (.string a1), (.slice a2a a2n a2c)] w R := calls_of_ev2 (tc := .sq [.rg 1, .reg (.pp 2 (.op (.cl [.int .i64, .int .i64]) (.pp 5 .nil))), .seq (.rg 2) (.cond (.seq (.rg 2) .leaf) .leaf), .reg (.op (.r .slice) (.pp 3 (.op (.ld .slice) (.op .p (.op .ix (.op .p (.op (.ld .slice) (.op (.r .slice) (.op .p .nil))))))))), .drawS (.tks [0, 1, 2, 4] (.ts 3 (.int .i64) (.go 5 (.cl [.int .i64]) (.tks [6, 7] .nil)))) [], .seq (.rg 1) (.blk (.loop (lr [(6, 1), (9, 3), (38, 26)]) [9, 10, 11] [.slice, .int .i64, .int .i64] (.sq [.seq (.rg 4) (.cond .leaf .leaf), .blk (.sq [.seq (.reg (.pp 2 (.op .ix (.op (.ld .slice) (.pp 3 .nil))))) (.cond (.seq (.rg 1) .leaf) .leaf), .reg (.pp 3 (.op .ix (.op (.ld .slice) (.pp 3 .nil))))] (.reg (.pp 3 (.op .ix (.op (.ld .slice) (.op (.r .slice) (.op .p .nil)))))))] (.rg 3)))), .reg (.op .p (.op (.cl [.int .i64]) (.op .p .nil))), .seq (.rg 2) (.join (lr [(68, 8)]) [] [] (.cond (.reg (.pp 3 (.op (.ld .slice) (.pp 2 (.op .ix (.op .p (.op .u .nil))))))) .leaf)), .rg 2] .leaf) Tryz.func65 (by kernel_rfl) (by kernel_rfl) h

theorem amphoraref01_Disk_Sync_vc (a0b : Nat) (a0o : Nat) (a1 : ByteArray) (w : World) (R : Ending → World → Prop) (h : Calls Tryz.prog 95 #[(.pointer (some ⟨a0b, a0o, none⟩)), (.string a1)] w fun e10 w1 => ∃ t10_0 t10_1, e10 = .returned (.tuple #[(.int .i64 t10_0), (.int .i64 t10_1)]) ∧ (((t10_1 != (0 : Int)) = true → (R (.returned (.int .i64 t10_1)) w1)) ∧ ((t10_1 != (0 : Int)) = false → (Calls Tryz.prog 96 #[(.pointer (some ⟨a0b, a0o, none⟩))] w1 fun e17 w2 => ∃ t17, e17 = .returned (.int .i64 t17) ∧ (∃ J : World → Prop, (((t17 == (0 : Int)) = true → (∃ S : World → Prop, S w2.drew ∧ (∃ t23a t23n t23c, (∀ w', S w' → LdQ 82 a0b (a0o + 1) (.slice t23a t23n t23c) w') ∧ (∃ t28a t28n t28c, (∀ w', S w' → LdQ 82 a0b (a0o + 1) (.slice t28a t28n t28c) w') ∧ (∃ t30b t30o, t28a = some ⟨t30b, t30o, none⟩ ∧ 0 ≤ t10_0 ∧ t10_0 < (t28n : Int) ∧ (∃ t32a t32n t32c, (∀ w', S w' → LdQ 33 t30b (t30o + Int.toNat t10_0 * 2) (.slice t32a t32n t32c) w') ∧ (∃ t34b t34o, t23a = some ⟨t34b, t34o, none⟩ ∧ 0 ≤ t10_0 ∧ t10_0 < (t23n : Int) ∧ (∃ w3, StQ 3 t34b (t34o + Int.toNat t10_0 * 2 + 1) (.int .i64 (t32n : Int)) w2.drew w3 ∧ (J  w3))))))))) ∧ ((t17 == (0 : Int)) = false → (J  w2))) ∧ (∀ w4, J  w4 → (R (.returned (.int .i64 t17)) w4))))))) : Calls Tryz.prog 66 #[(.pointer (some ⟨a0b, a0o, none⟩)), (.string a1)] w R := calls_of_ev2 (tc := .sq [.rg 1, .reg (.pp 2 (.op (.cl [.int .i64, .int .i64]) (.pp 5 .nil))), .seq (.rg 2) (.cond (.seq (.rg 2) .leaf) .leaf), .reg (.op .p (.op (.cl [.int .i64]) (.op .p .nil))), .seq (.rg 2) (.join (lr [(20, 16)]) [] [] (.cond (.drawS (.tks [0, 1, 2, 4, 5, 6, 7, 9] (.ts 3 .slice (.ts 8 .slice (.tk 10 .ix (.tk 11 .p (.ts 12 .slice (.tk 13 .p (.tk 14 .ix (.tk 15 .p (.go 16 .u .nil)))))))))) [16]) .leaf)), .rg 2] .leaf) Tryz.func66 (by kernel_rfl) (by kernel_rfl) h

theorem amphoraref01_Disk_All_vc (a0b : Nat) (a0o : Nat) (w : World) (R : Ending → World → Prop) (h : ∃ (I : Option Addr → Nat → Nat → Int → World → Prop) (μ : Option Addr → Nat → Nat → Int → World → Nat), I none 0 0 0 w ∧ (∀ x3a x3n x3c x4, ∀ w1, I x3a x3n x3c x4 w1 → (∃ t9a t9n t9c, LdQ 83 a0b (a0o + 2) (.slice t9a t9n t9c) w1 ∧ ((decide (x4 < (t9n : Int)) = true → (∃ S : World → Prop, S w1.drew ∧ (∃ t18a t18n t18c, (∀ w', S w' → LdQ 83 a0b (a0o + 2) (.slice t18a t18n t18c) w') ∧ (∃ t20b t20o, t18a = some ⟨t20b, t20o, none⟩ ∧ 0 ≤ x4 ∧ x4 < (t18n : Int) ∧ (∃ t22, (∀ w', S w' → LdQ 9 t20b (t20o + Int.toNat x4 * 2) (.string t22) w') ∧ (∃ t27a t27n t27c, (∀ w', S w' → LdQ 82 a0b (a0o + 1) (.slice t27a t27n t27c) w') ∧ (∃ t31a t31n t31c, (∀ w', S w' → LdQ 83 a0b (a0o + 2) (.slice t31a t31n t31c) w') ∧ (∃ t33b t33o, t31a = some ⟨t33b, t33o, none⟩ ∧ 0 ≤ x4 ∧ x4 < (t31n : Int) ∧ (∃ t35, (∀ w', S w' → LdQ 3 t33b (t33o + Int.toNat x4 * 2 + 1) (.int .i64 t35) w') ∧ (∃ t36b t36o, t27a = some ⟨t36b, t36o, none⟩ ∧ 0 ≤ t35 ∧ t35 < (t27n : Int) ∧ (∃ t38a t38n t38c, (∀ w', S w' → LdQ 33 t36b (t36o + Int.toNat t35 * 2) (.slice t38a t38n t38c) w') ∧ (∃ t23a t23n t23c w2, (Instr.buildSlice 33 0 #[]).run Tryz.prog w1.drew = .ok (.slice t23a t23n t23c) w2 ∧ (∃ S_1 : World → Prop, (∀ w', S_1 w' → S w') ∧ S_1 w2 ∧ (∃ t39a t39n t39c w3, (Builtin.append_ #[33, 33] 33 #[(.slice t23a t23n t23c), (.slice t38a t38n t38c)]).run Tryz.prog w2 = .ok (.slice t39a t39n t39c) w3 ∧ (∃ S_2 : World → Prop, (∀ w', S_2 w' → S_1 w') ∧ S_2 w3 ∧ (∃ t40, (∀ w', S_2 w' → (Instr.build 146 #[(0, (.string t22)), (1, (.slice t39a t39n t39c))]).run Tryz.prog w' = .ok (.agg t40) w') ∧ (∃ t41a t41n t41c w4, (Instr.buildSlice 91 1 #[(0, (.agg t40))]).run Tryz.prog w3 = .ok (.slice t41a t41n t41c) w4 ∧ (∃ S_3 : World → Prop, (∀ w', S_3 w' → S_2 w') ∧ S_3 w4 ∧ (∃ t42a t42n t42c w5, (Builtin.append_ #[91, 91] 91 #[(.slice x3a x3n x3c), (.slice t41a t41n t41c)]).run Tryz.prog w4 = .ok (.slice t42a t42n t42c) w5 ∧ (∃ S_4 : World → Prop, (∀ w', S_4 w' → S_3 w') ∧ S_4 w5 ∧ (I t42a t42n t42c (IntKind.wrap .i64 (x4 + 1)) w5 ∧ μ t42a t42n t42c (IntKind.wrap .i64 (x4 + 1)) w5 < μ x3a x3n x3c x4 w1))))))))))))))))))))) ∧ (decide (x4 < (t9n : Int)) = false → (R (.returned (.slice x3a x3n x3c)) w1)))))) : Calls Tryz.prog 33 #[(.pointer (some ⟨a0b, a0o, none⟩))] w R := calls_of_ev2 (tc := .sq [.rg 1, .rg 1, .seq (.rg 1) (.blk (.loop (lr [(3, 40)]) [3, 4] [.slice, .int .i64] (.sq [.seq (.reg (.pp 4 (.op (.ld .slice) (.pp 2 .nil)))) (.cond .leaf .leaf), .blk (.drawS (.tks [0, 1, 2, 3, 5, 10, 11, 12, 14, 15, 16, 18] (.ts 4 .slice (.tk 6 .ix (.tk 7 .p (.ts 8 .str (.ts 13 .slice (.ts 17 .slice (.tk 19 .ix (.tk 20 .p (.ts 21 (.int .i64) (.tk 22 .ix (.tk 23 .p (.ts 24 .slice (.go 9 (.r .slice) (.go 25 (.r .slice) (.ts 26 .agg (.go 27 (.r .slice) (.go 28 (.r .slice) (.tk 29 .p .nil))))))))))))))))))) [])] (.rg 3)))), .rg 2] .leaf) Tryz.func33 (by kernel_rfl) (by kernel_rfl) h

theorem amphoraref01_Disk_settle_vc (a0b : Nat) (a0o : Nat) (w : World) (R : Ending → World → Prop) (h : ∃ (I : Int → World → Prop) (μ : Int → World → Nat), I 0 w ∧ (∀ x2, ∀ w1, I x2 w1 → (∃ t8a t8n t8c, LdQ 83 a0b (a0o + 2) (.slice t8a t8n t8c) w1 ∧ ((decide (x2 < (t8n : Int)) = true → (∃ t16a t16n t16c, LdQ 83 a0b (a0o + 2) (.slice t16a t16n t16c) w1 ∧ (∃ t18b t18o, t16a = some ⟨t18b, t18o, none⟩ ∧ 0 ≤ x2 ∧ x2 < (t16n : Int) ∧ (∃ t20, LdQ 3 t18b (t18o + Int.toNat x2 * 2 + 1) (.int .i64 t20) w1 ∧ (∃ S : World → Prop, S w1.drew ∧ (∃ t24a t24n t24c, (∀ w', S w' → LdQ 82 a0b (a0o + 1) (.slice t24a t24n t24c) w') ∧ (∃ t29a t29n t29c, (∀ w', S w' → LdQ 82 a0b (a0o + 1) (.slice t29a t29n t29c) w') ∧ (∃ t31b t31o, t29a = some ⟨t31b, t31o, none⟩ ∧ 0 ≤ t20 ∧ t20 < (t29n : Int) ∧ (∃ t33a t33n t33c, (∀ w', S w' → LdQ 33 t31b (t31o + Int.toNat t20 * 2) (.slice t33a t33n t33c) w') ∧ (∃ t35b t35o, t24a = some ⟨t35b, t35o, none⟩ ∧ 0 ≤ t20 ∧ t20 < (t24n : Int) ∧ (∃ w2, StQ 3 t35b (t35o + Int.toNat t20 * 2 + 1) (.int .i64 (t33n : Int)) w1.drew w2 ∧ (I (IntKind.wrap .i64 (x2 + 1)) w2 ∧ μ (IntKind.wrap .i64 (x2 + 1)) w2 < μ x2 w1)))))))))))) ∧ (decide (x2 < (t8n : Int)) = false → (∃ t41a t41n t41c, LdQ 83 a0b (a0o + 2) (.slice t41a t41n t41c) w1 ∧ (∃ w3, StQ 83 a0b (a0o + 3) (.slice t41a t41n t41c) w1 w3 ∧ (∃ w4, StQ 84 a0b (a0o + 4) (.slice none 0 0) w3 w4 ∧ (R (.returned (.tuple #[])) w4))))))))) : Calls Tryz.prog 68 #[(.pointer (some ⟨a0b, a0o, none⟩))] w R := calls_of_ev2 (tc := .sq [.seq (.rg 1) (.blk (.loop (lr [(2, 35)]) [2] [.int .i64] (.sq [.seq (.reg (.pp 4 (.op (.ld .slice) (.pp 2 .nil)))) (.cond .leaf .leaf), .blk (.seq (.reg (.pp 3 (.op (.ld .slice) (.op .p (.op .ix (.op .p (.op (.ld (.int .i64)) (.op .p .nil)))))))) (.drawS (.tks [0, 1, 2, 4, 5, 6, 7, 9] (.ts 3 .slice (.ts 8 .slice (.tk 10 .ix (.tk 11 .p (.ts 12 .slice (.tk 13 .p (.tk 14 .ix (.tk 15 .p (.go 16 .u .nil)))))))))) [16]))] (.rg 3)))), .reg (.pp 4 (.op (.ld .slice) (.pp 2 (.op .u .nil))))] (.reg (.pp 3 (.op .u .nil)))) Tryz.func68 (by kernel_rfl) (by kernel_rfl) h

theorem amphoraref01_Disk_Crash_vc (a0b : Nat) (a0o : Nat) (a1 : Array Value) (w : World) (R : Ending → World → Prop) (h : ∃ g3 w1, (Instr.box 55 (.agg a1)).run Tryz.prog w = .ok (.pointer (some ⟨g3, 0, none⟩)) w1 ∧ (∃ t12a t12n t12c, LdQ 83 a0b (a0o + 3) (.slice t12a t12n t12c) w1 ∧ (∃ (I : Option Addr → Nat → Nat → Int → World → Prop) (μ : Option Addr → Nat → Nat → Int → World → Nat), I t12a t12n t12c 0 w1 ∧ (∀ x4a x4n x4c x5, ∀ w2, I x4a x4n x4c x5 w2 → (∃ J : Bool → World → Prop, (∃ t17a t17n t17c, LdQ 84 a0b (a0o + 4) (.slice t17a t17n t17c) w2 ∧ ((decide (x5 < (t17n : Int)) = true → (∃ t23, LdQ 3 g3 0 (.int .i64 t23) w2 ∧ (J (decide (x5 < t23)) w2))) ∧ (decide (x5 < (t17n : Int)) = false → (J false w2)))) ∧ (∀ x25, ∀ w3, J x25 w3 → ((x25 = true → (∃ t32a t32n t32c, LdQ 84 a0b (a0o + 4) (.slice t32a t32n t32c) w3 ∧ (∃ t34b t34o, t32a = some ⟨t34b, t34o, none⟩ ∧ 0 ≤ x5 ∧ x5 < (t32n : Int) ∧ (∃ t35, LdQ 153 t34b (t34o + Int.toNat x5 * 3) (.agg t35) w3 ∧ (Calls Tryz.prog 67 #[(.slice x4a x4n x4c), (.agg t35)] w3 fun e36 w4 => ∃ t36a t36n t36c, e36 = .returned (.slice t36a t36n t36c) ∧ (I t36a t36n t36c (IntKind.wrap .i64 (x5 + 1)) w4 ∧ μ t36a t36n t36c (IntKind.wrap .i64 (x5 + 1)) w4 < μ x4a x4n x4c x5 w2)))))) ∧ (x25 = false → (∃ w5, StQ 83 a0b (a0o + 2) (.slice x4a x4n x4c) w3 w5 ∧ (∃ (I_1 : Int → World → Prop) (μ_1 : Int → World → Nat), I_1 0 w5 ∧ (∀ x6, ∀ w6, I_1 x6 w6 → ((decide (x6 < (x4n : Int)) = true → (∃ S : World → Prop, S w6.drew ∧ (∃ t53b t53o, x4a = some ⟨t53b, t53o, none⟩ ∧ 0 ≤ x6 ∧ x6 < (x4n : Int) ∧ (∃ t50a t50n t50c, (∀ w', S w' → LdQ 82 a0b (a0o + 1) (.slice t50a t50n t50c) w') ∧ (∃ t55, (∀ w', S w' → LdQ 3 t53b (t53o + Int.toNat x6 * 2 + 1) (.int .i64 t55) w') ∧ (∃ t56b t56o, t50a = some ⟨t56b, t56o, none⟩ ∧ 0 ≤ t55 ∧ t55 < (t50n : Int) ∧ (∃ t57, (∀ w', S w' → LdQ 150 t56b (t56o + Int.toNat t55 * 2) (.agg t57) w') ∧ (∃ g7 w7, AlQ 150 g7 w6.drew w7 ∧ (∃ S_1 : World → Prop, (∀ w', S_1 w' → S w') ∧ S_1 w7 ∧ (∃ w8, StQ 150 g7 0 (.agg t57) w7 w8 ∧ (∃ J_1 : Bool → World → Prop, (∃ t60a t60n t60c, LdQ 53 g3 1 (.slice t60a t60n t60c) w8 ∧ ((decide (x6 < (t60n : Int)) = true → (∃ t65a t65n t65c, LdQ 53 g3 1 (.slice t65a t65n t65c) w8 ∧ (∃ t67b t67o, t65a = some ⟨t67b, t67o, none⟩ ∧ 0 ≤ x6 ∧ x6 < (t65n : Int) ∧ (∃ t68, LdQ 3 t67b (t67o + Int.toNat x6 * 1) (.int .i64 t68) w8 ∧ (J_1 (decide (t68 > (0 : Int))) w8))))) ∧ (decide (x6 < (t60n : Int)) = false → (J_1 false w8)))) ∧ (∀ x70, ∀ w9, J_1 x70 w9 → (∃ J_2 : Int → World → Prop, ((x70 = true → (∃ S_2 : World → Prop, S_2 w9.drew ∧ (∃ t72a t72n t72c, (∀ w', S_2 w' → LdQ 53 g3 1 (.slice t72a t72n t72c) w') ∧ (∃ t74b t74o, t72a = some ⟨t74b, t74o, none⟩ ∧ 0 ≤ x6 ∧ x6 < (t72n : Int) ∧ (∃ t75, (∀ w', S_2 w' → LdQ 3 t74b (t74o + Int.toNat x6 * 1) (.int .i64 t75) w') ∧ (∃ t77a t77n t77c, (∀ w', S_2 w' → LdQ 33 g7 0 (.slice t77a t77n t77c) w') ∧ (∃ t80, (∀ w', S_2 w' → LdQ 3 g7 1 (.int .i64 t80) w') ∧ (J_2 (if (IntKind.wrap .i64 ((t77n : Int) - t80)) < t75 then (IntKind.wrap .i64 ((t77n : Int) - t80)) else t75) w9.drew)))))))) ∧ (x70 = false → (J_2 0 w9))) ∧ (∀ x8, ∀ w10, J_2 x8 w10 → (∃ t84a t84n t84c, LdQ 33 g7 0 (.slice t84a t84n t84c) w10 ∧ (∃ t86, LdQ 3 g7 1 (.int .i64 t86) w10 ∧ (0 ≤ (IntKind.wrap .i64 (t86 + x8)) ∧ (IntKind.wrap .i64 (t86 + x8)) ≤ (t84c : Int) ∧ (∃ w11, StQ 33 g7 0 (.slice t84a (Int.toNat (IntKind.wrap .i64 (t86 + x8))) t84c) w10 w11 ∧ (∃ S_2 : World → Prop, S_2 w11.drew ∧ (∃ t97b t97o, x4a = some ⟨t97b, t97o, none⟩ ∧ 0 ≤ x6 ∧ x6 < (x4n : Int) ∧ (∃ t94a t94n t94c, (∀ w', S_2 w' → LdQ 82 a0b (a0o + 1) (.slice t94a t94n t94c) w') ∧ (∃ t99, (∀ w', S_2 w' → LdQ 3 t97b (t97o + Int.toNat x6 * 2 + 1) (.int .i64 t99) w') ∧ (∃ t100, (∀ w', S_2 w' → LdQ 150 g7 0 (.agg t100) w') ∧ (∃ t101b t101o, t94a = some ⟨t101b, t101o, none⟩ ∧ 0 ≤ t99 ∧ t99 < (t94n : Int) ∧ (∃ w12, StQ 150 t101b (t101o + Int.toNat t99 * 2) (.agg t100) w11.drew w12 ∧ (I_1 (IntKind.wrap .i64 (x6 + 1)) w12 ∧ μ_1 (IntKind.wrap .i64 (x6 + 1)) w12 < μ_1 x6 w6)))))))))))))))))))))))))) ∧ (decide (x6 < (x4n : Int)) = false → (Calls Tryz.prog 68 #[(.pointer (some ⟨a0b, a0o, none⟩))] w6 fun e103 w13 => e103 = .returned (.tuple #[]) ∧ (∃ w14, StQ 4 a0b (a0o + 6) (.bool false) w13 w14 ∧ (∃ w15, StQ 3 a0b (a0o + 7) (.int .i64 (-1)) w14 w15 ∧ (∃ w16, StQ 53 a0b (a0o + 8) (.slice none 0 0) w15 w16 ∧ (R (.returned (.tuple #[])) w16)))))))))))))))))) : Calls Tryz.prog 35 #[(.pointer (some ⟨a0b, a0o, none⟩)), (.agg a1)] w R := calls_of_ev2 (tc := .sq [.reg (.op .bx .nil), .reg (.pp 3 (.op (.ld .slice) (.op .p .nil))), .seq (.rg 1) (.blk (.loop (lr [(4, 2), (13, 24)]) [4, 5] [.slice, .int .i64] (.sq [.seq (.join (lr [(13, 13)]) [25] [.bool] (.reg (.pp 4 (.op (.ld .slice) (.pp 3 (.sp 20 (.pp 2 (.op (.ld (.int .i64)) (.pp 2 .nil))) (.pp 5 .nil))))))) (.cond .leaf .leaf), .blk (.reg (.pp 4 (.op (.ld .slice) (.op .p (.op .ix (.op (.ld .agg) (.op (.cl [.slice]) (.op .p .nil))))))))] (.rg 3)))), .reg (.pp 4 (.op .u .nil)), .seq (.rg 1) (.blk (.loop (lr [(6, 3), (41, 61)]) [6] [.int .i64] (.sq [.seq (.rg 4) (.cond .leaf .leaf), .blk (.sq [.drawS (.tks [0, 1, 2, 4, 5] (.tk 6 .ix (.tk 7 .p (.ts 3 .slice (.ts 8 (.int .i64) (.tk 9 .ix (.ts 10 .agg (.go 11 .bx (.go 12 .u .nil))))))))) [12], .rg 1, .seq (.join (lr [(58, 13)]) [70] [.bool] (.reg (.pp 2 (.op (.ld .slice) (.pp 3 (.sp 63 (.op .p (.op (.ld .slice) (.op .p (.op .ix (.op (.ld (.int .i64)) (.pp 2 .nil)))))) (.pp 7 .nil))))))) (.join (lr [(8, 1), (71, 12)]) [8] [.int .i64] (.cond (.drawS (.tks [0, 2, 5, 8] (.ts 1 .slice (.tk 3 .ix (.ts 4 (.int .i64) (.ts 6 .slice (.tk 7 .p (.ts 9 (.int .i64) (.tks [10, 11, 12] .nil)))))))) []) .leaf)), .reg (.op .p (.op (.ld .slice) (.op .p (.op (.ld (.int .i64)) (.pp 2 (.op .sl (.op .p (.op .u .nil))))))))] (.drawS (.tks [0, 1, 2, 4, 5] (.tk 6 .ix (.tk 7 .p (.ts 3 .slice (.ts 8 (.int .i64) (.ts 9 .agg (.tk 10 .ix (.go 11 .u .nil)))))))) [11]))] (.rg 3)))), .reg (.op .p (.op (.cl []) .nil)), .reg (.pp 3 (.op .u .nil)), .reg (.pp 3 (.op .u .nil))] (.reg (.pp 3 (.op .u .nil)))) Tryz.func35 (by kernel_rfl) (by kernel_rfl) h

end Go.Proofs.YtmdandkoajocpaaGreatDoor
end

section
namespace Go.Proofs.YtmdandkoajocpaaGreatDoor
open Go Sx
set_option maxRecDepth 8000

theorem gtrStr (l m : Nm) (x y : Operand) (w : World) : (eqlS .gtr 9 x y (strV l) (strV m)).run Tryz.prog w = .ok (.bool (lexLt m l)) w := by
 have h1 : (⟨l.toArray⟩ : ByteArray).toList = l := by rw [ByteArray.toList_eq]
 have h2 : (⟨m.toArray⟩ : ByteArray).toList = m := by rw [ByteArray.toList_eq]
 have h3 : (eqGuard .gtr 9 x y (strV l) (strV m)).run Tryz.prog w = .ok () w := rfl
 have h4 : binOp .gtr 9 (strV l) (strV m) = pure (.bool (lexLt m l)) := by
   have : binOp .gtr 9 (strV l) (strV m) = pure (.bool !(Op.bytesLess (⟨l.toArray⟩ : ByteArray).toList (⟨m.toArray⟩ : ByteArray).toList || ((⟨l.toArray⟩ : ByteArray).toList == (⟨m.toArray⟩ : ByteArray).toList))) := by simp [binOp, Op.stringOp, strV]
   rw [this, h1, h2, less_lex, lex_gt]
 simp only [eqlS, Sem.run_bind, h3, Result.andThen_ok, h4, Sem.run_pure]

def nC (e : Ent) : List Value := [strV e.name, .int .i64 (e.file : Int)]
theorem nC_len (e : Ent) : (nC e).length = 2 := rfl
theorem nC_one (e : Ent) : ∀ v ∈ nC e, v.oneCell' = true := fun v hv => by
 simp only [nC, List.mem_cons, List.not_mem_nil, or_false] at hv
 rcases hv with rfl | rfl <;> rfl
abbrev RdN (w : World) (a : Option Addr) (n c : Nat) (d : Dir) : Prop := RdE nC 2 w a n c d
abbrev rowN (a : Option Addr) (c : Nat) (d : Dir) : Res := .row 148 2 (.slice a d.length c) d.length (d.flatMap nC)
theorem rdN_of {w0 w : World} {X : List Nat} {M : List Res} {a : Option Addr} {c i : Nat} {d : Dir} (h : St w0 X w M) (hi : M[i]? = some (rowN a c d)) : RdN w a d.length c d := ⟨h.rd hi, fun e _ => nC_len e⟩
theorem nT : ElemT Tryz.prog 83 148 2 24 (.agg #[.string ByteArray.empty, .int .i64 0]) := ⟨by kernel_rfl, ⟨Tryz.t148, by kernel_rfl, by kernel_rfl, by kernel_rfl, by kernel_rfl⟩, rfl, by decide⟩
theorem nAg (w : World) : (isAgg 148).run Tryz.prog w = .ok true w := Tryz.isAgg148 w
theorem nSz (w : World) : (sizeOf 148).run Tryz.prog w = .ok 2 w := Tryz.sizeOf148 w
theorem built_n : Tryz.prog.built 148 = fun parts => Instr.fill (fun i => (#[(0, 1), (1, 1)] : Array (Nat × Nat))[i]?) #[.string ⟨#[]⟩, .int .i64 0] parts := by kernel_rfl
theorem n_build (e : Ent) (w : World) : (Instr.build 148 #[(0, strV e.name), (1, .int .i64 (e.file : Int))]).run Tryz.prog w = .ok (.agg (nC e).toArray) w := by
 apply run_build
 rw [built_n]
 show Instr.fill _ _ [(0, strV e.name), (1, _)] = _
 rw [fill_step (off := 0) (sz := 1) rfl rfl (by simp), fill_step (off := 1) (sz := 1) rfl rfl (by simp [Value.cells, strV])]
 rfl

theorem RdN.fld {w : World} {a : Option Addr} {n c : Nat} {d : Dir} (h : RdN w a n c d) {i : Nat} {e : Ent} (he : d[i]? = some e) :
   ∃ b o, a = some ⟨b, o, none⟩ ∧ ∀ w', RdN w' a n c d → (Instr.loadAt 9 (.pointer (some ⟨b, o + Int.toNat (i : Int) * 2, none⟩))).run Tryz.prog w' = .ok (strV e.name) w' ∧ (Instr.loadAt 3 (.pointer (some ⟨b, o + Int.toNat (i : Int) * 2 + 1, none⟩))).run Tryz.prog w' = .ok (.int .i64 (e.file : Int)) w' ∧ (Instr.loadAt 148 (.pointer (some ⟨b, o + Int.toNat (i : Int) * 2, none⟩))).run Tryz.prog w' = .ok (.agg (nC e).toArray) w' := by
 obtain ⟨b, o, ha, q⟩ := h.at_ (by decide) he
 refine ⟨b, o, ha, fun w' hr => ?_⟩
 have hrg := q w' hr
 rw [Int.toNat_natCast]
 have c0 : w'.cell? ⟨b, o + i * 2, none⟩ = some (strV e.name) := hrg 0 _ rfl
 have c1 : w'.cell? ⟨b, o + i * 2 + 1, none⟩ = some (.int .i64 (e.file : Int)) := hrg 1 _ rfl
 have := loadCells_cells (P := Tryz.prog) hrg
 rw [nC_len] at this
 exact ⟨ld1 (stA' _) c0, ld1 (intA _) c1, by simp [Instr.loadAt, Instr.sureAddr, loadVar, nAg, nSz, this]⟩

theorem ba_eq (l m : Nm) : ((⟨l.toArray⟩ : ByteArray).toList == (⟨m.toArray⟩ : ByteArray).toList) = decide (l = m) := by
 rw [ByteArray.toList_eq, ByteArray.toList_eq]
 show (l == m) = _
 by_cases h : l = m
 · rw [h]; simp
 · rw [decide_eq_false h]; exact beq_eq_false_iff_ne.2 h

def findV (d : Dir) (n : Nm) : Int := match findD d n with | some e => (e.file : Int) | none => -1
theorem find_spec (a : Option Addr) (n c : Nat) (d : Dir) (nm : Nm) (w : World) (hr : RdN w a n c d) (hb : n ≤ 4611686018427387904) :
   Calls Tryz.prog 99 #[.slice a n c, strV nm] w fun e w' => e = .returned (.int .i64 (findV d nm)) ∧ w' = w := by
 have hln := hr.num (by decide)
 apply amphoraref01_Find_vc
 refine ⟨fun x w' => ∃ i : Nat, x = (i : Int) ∧ i ≤ n ∧ findD d nm = findD (d.drop i) nm ∧ w' = w, fun x _ => n - x.toNat, ⟨0, rfl, by omega, rfl, rfl⟩, ?_⟩
 rintro x w1 ⟨i, rfl, hi, hf, rfl⟩
 refine ⟨fun h => ?_, fun h => ?_⟩
 · have hi' : i < n := by simp at h; omega
   have he : d[i]? = some d[i] := List.getElem?_eq_getElem (by omega)
   obtain ⟨e, hed⟩ : ∃ e, d[i] = e := ⟨_, rfl⟩
   rw [List.drop_eq_getElem_cons (by omega), hed] at hf
   rw [hed] at he
   obtain ⟨b, o, ha, q⟩ := hr.fld he
   obtain ⟨q1, q2, _⟩ := q w1 hr
   have hfc : findD (e :: d.drop (i + 1)) nm = if e.name = nm then some e else findD (d.drop (i + 1)) nm := by
     show List.find? _ _ = _
     rw [List.find?_cons]
     by_cases h : e.name = nm
     · rw [if_pos h]; simp [h]
     · have : (e.name == nm) = false := beq_eq_false_iff_ne.2 h
       rw [if_neg h, this]; rfl
   rw [hfc] at hf
   refine ⟨b, o, ha, by omega, by omega, _, q1, fun h => ⟨b, o, ha, by omega, by omega, _, q2, ?_, rfl⟩, fun h => ?_⟩
   · rw [ba_eq] at h
     rw [if_pos (by simpa using h)] at hf
     rw [findV, hf]
   · rw [ba_eq] at h
     rw [if_neg (by simpa using h)] at hf
     exact ⟨⟨i + 1, wrap_succ hi' hb, by omega, hf, rfl⟩, mu_succ hi' hb⟩
 · have hi' : i = n := by simp at h; omega
   rw [hi', List.drop_of_length_le (by omega)] at hf
   have : findV d nm = -1 := by rw [findV, hf]; rfl
   rw [this]
   exact ⟨rfl, rfl⟩

theorem name_spec (l : Nm) (w : World) : Calls Tryz.prog 123 #[strV l] w fun e w' => e = .returned (.bool (goodN l)) ∧ w' = w := by
 apply amphoraref01_Name_vc
 rw [size_mk]
 refine ⟨fun h => ?_, fun h => ?_⟩
 · have : goodN l = false := by
     unfold goodN
     simp only [Bool.or_eq_true, decide_eq_true_eq] at h
     have : ¬ (0 < l.length ∧ l.length ≤ 64) := by omega
     by_cases h1 : 0 < l.length <;> by_cases h2 : l.length ≤ 64 <;> simp [h1, h2] <;> omega
   rw [this]
   exact ⟨rfl, rfl⟩
 · have hl : 0 < l.length ∧ l.length ≤ 64 := by
     simp only [Bool.or_eq_false_iff, decide_eq_false_iff_not] at h
     omega
   refine ⟨fun x w' => ∃ i : Nat, x = (i : Int) ∧ i ≤ l.length ∧ (l.take i).all goodB = true ∧ w' = w, fun x _ => l.length - x.toNat, ⟨0, rfl, by omega, by simp, rfl⟩, ?_⟩
   rintro x w1 ⟨i, rfl, hi, hall, rfl⟩
   refine ⟨fun h => ?_, fun h => ?_⟩
   · have hi' : i < l.length := by simp at h; omega
     have hx := ixStr (T := 9) Tryz.underlying9 hi' w1
     have hb : l[i]? = some (l.getD i 0) := by simp [List.getD, hi']
     obtain ⟨b, hbd⟩ : ∃ b, l.getD i 0 = b := ⟨_, rfl⟩
     rw [hbd] at hx hb
     refine ⟨fun y w' => y = !goodB b ∧ w' = w1, ⟨_, hx, fun h1 => ⟨?_, rfl⟩, fun h1 => ⟨_, hx, fun h2 => ⟨?_, rfl⟩, fun h2 => ⟨_, hx, ?_, rfl⟩⟩⟩, ?_⟩
     · simp only [decide_eq_true_eq] at h1
       have : ¬ 33 ≤ b.toNat := by omega
       simp [goodB, this]
     · simp only [decide_eq_true_eq] at h2
       have : ¬ b.toNat ≤ 126 := by omega
       simp [goodB, this]
     · simp only [decide_eq_false_iff_not] at h1 h2
       have e1 : 33 ≤ b.toNat := by omega
       have e2 : b.toNat ≤ 126 := by omega
       by_cases h3 : b.toNat = 47
       · simp [goodB, h3]
       · have : ¬ ((b.toNat : Int) = 47) := by omega
         simp [goodB, e1, e2, h3, this]
     · rintro y w2 ⟨rfl, rfl⟩
       refine ⟨fun hbad => ?_, fun hgd => ⟨⟨i + 1, wrap_succ hi' (by omega), by omega, ?_, rfl⟩, mu_succ hi' (by omega)⟩⟩
       · have : goodN l = false := by
           have h0 : l.all goodB = false := by
             rw [List.all_eq_false]
             exact ⟨b, List.mem_of_getElem? hb, by simpa using hbad⟩
           simp [goodN, h0]
         rw [this]
         exact ⟨rfl, rfl⟩
       · rw [List.take_add_one, hb, List.all_append, hall]
         simpa using hgd
   · have hi' : i = l.length := by simp at h; omega
     rw [hi', List.take_length] at hall
     have : goodN l = true := by simp [goodN, hl.1, hl.2, hall]
     rw [this]
     exact ⟨rfl, rfl⟩

theorem without_spec (a : Option Addr) (n c : Nat) (d : Dir) (nm : Nm) (w : World) (hr : RdN w a n c d) (hb : n ≤ 1000000) :
   Calls Tryz.prog 100 #[.slice a n c, strV nm] w fun e w' => ∃ a' c', e = .returned (.slice a' (delA Ent.name d nm).length c') ∧ St w [] w' [rowN a' c' (delA Ent.name d nm)] := by
 have hln := hr.num (by decide)
 apply amphoraref01_without_vc
 refine ⟨fun xa xn xc x w' => ∃ i : Nat, x = (i : Int) ∧ i ≤ n ∧ xn = (delA Ent.name (d.take i) nm).length ∧ St w [] w' [rowN xa xc (delA Ent.name (d.take i) nm)], fun _ _ _ x _ => n - x.toNat, ⟨0, rfl, by omega, rfl, (St.start w).addNil _ _⟩, ?_⟩
 rintro xa xn xc x w1 ⟨i, rfl, hi, rfl, h1⟩
 refine ⟨fun h => ?_, fun h => ?_⟩
 · have hi' : i < n := by simp at h; omega
   have he : d[i]? = some d[i] := List.getElem?_eq_getElem (by omega)
   obtain ⟨e, hed⟩ : ∃ e, d[i] = e := ⟨_, rfl⟩
   rw [hed] at he
   obtain ⟨b, o, ha, q⟩ := hr.fld he
   obtain ⟨q1, _, q3⟩ := q w1 (hr.keep0 h1.chg)
   have hdl : (delA Ent.name (d.take i) nm).length ≤ n := by have := delA_len (kid := Ent.name) (d.take i) nm; simp at this; omega
   have hstep : delA Ent.name (d.take (i + 1)) nm = delA Ent.name (d.take i) nm ++ if e.name = nm then [] else [e] := by
     rw [List.take_add_one, he, delA, delA, List.filter_append]
     congr 1
     by_cases h : e.name = nm <;> simp [h]
   refine ⟨b, o, ha, by omega, by omega, _, q1, fun ya yn yc w' => yn = (delA Ent.name (d.take (i + 1)) nm).length ∧ St w [] w' [rowN ya yc (delA Ent.name (d.take (i + 1)) nm)], ⟨fun hne => ?_, fun heq => ?_⟩, ?_⟩
   · rw [ba_eq] at hne
     have hne' : ¬ e.name = nm := by simpa using hne
     rw [if_neg hne'] at hstep
     obtain ⟨g2, w2, va, vc, w3, r2, r3, h3, _⟩ := h1.pushA (i := 0) (ty := 83) nT rfl (nC e) (nC_len e) (by decide) (nC_one e) (by omega) (by simp only [maxLen]; omega)
     refine ⟨b, o, ha, by omega, by omega, _, q3, _, _, _, w2, r2, va, _, vc, w3, r3, by rw [hstep]; simp, ?_⟩
     have e1 : (delA Ent.name (d.take i) nm ++ [e]).length = (delA Ent.name (d.take i) nm).length + 1 := by simp
     have e2 : (delA Ent.name (d.take i) nm ++ [e]).flatMap nC = (delA Ent.name (d.take i) nm).flatMap nC ++ nC e := by simp
     rw [hstep]
     unfold rowN
     rw [e1, e2]
     exact h3
   · rw [ba_eq] at heq
     have heq' : e.name = nm := by simpa using heq
     rw [if_pos heq', List.append_nil] at hstep
     rw [hstep]
     exact ⟨rfl, h1⟩
   · rintro ya yn yc w4 ⟨rfl, h4⟩
     exact ⟨⟨i + 1, wrap_succ hi' (by omega), by omega, rfl, h4⟩, mu_succ hi' (by omega)⟩
 · have hi' : i = n := by simp at h; omega
   rw [hi', List.take_of_length_le (by omega)] at h1 ⊢
   exact ⟨xa, xc, rfl, h1⟩

end Go.Proofs.YtmdandkoajocpaaGreatDoor
end

section
namespace Go.Proofs.YtmdandkoajocpaaGreatDoor
open Go Sx
set_option maxRecDepth 8000

theorem insA_delA (d : Dir) (e : Ent) : insA Ent.name (delA Ent.name d e.name) e = insA Ent.name d e := by
 unfold insA delA
 rw [List.filter_filter, List.filter_filter]
 congr 1
 · refine List.filter_congr fun x _ => ?_
   by_cases h : x.name = e.name
   · rw [h, lex_irrefl]; rfl
   · simp [h]
 · congr 1
   refine List.filter_congr fun x _ => ?_
   by_cases h : x.name = e.name
   · rw [h, lex_irrefl]; rfl
   · simp [h]

theorem filt_all {α : Type} {l : List α} {p : α → Bool} (h : ∀ x ∈ l, p x = true) : l.filter p = l := List.filter_eq_self.2 h
theorem filt_none {α : Type} {l : List α} {p : α → Bool} (h : ∀ x ∈ l, p x = false) : l.filter p = [] := by
 rw [List.filter_eq_nil_iff]
 intro x hx
 rw [h x hx]; simp

def WithI (l : Dir) (e : Ent) (put : Bool) (out : Dir) : Prop :=
 (put = false ∧ out = l ∧ ∀ x ∈ l, lexLt x.name e.name = true) ∨ (put = true ∧ out = insA Ent.name l e ∧ ∃ x ∈ l, lexLt e.name x.name = true)

theorem WithI.skip {l : Dir} {e x : Ent} (h : ∀ y ∈ l, lexLt y.name e.name = true) (hx : lexLt x.name e.name = true) : WithI (l ++ [x]) e false (l ++ [x]) := .inl ⟨rfl, rfl, fun y hy => by
 rcases List.mem_append.1 hy with hy | hy
 · exact h y hy
 · simp at hy; subst hy; exact hx⟩
theorem WithI.put {l : Dir} {e x : Ent} (h : ∀ y ∈ l, lexLt y.name e.name = true) (hx : lexLt e.name x.name = true) : WithI (l ++ [x]) e true (l ++ [e] ++ [x]) := by
 refine .inr ⟨rfl, ?_, x, by simp, hx⟩
 have hx2 : lexLt x.name e.name = false := by
   cases h2 : lexLt x.name e.name with
   | false => rfl
   | true => have := lex_trans _ _ _ hx h2; rw [lex_irrefl] at this; cases this
 have hl2 : ∀ y ∈ l, lexLt e.name y.name = false := fun y hy => by
   cases h2 : lexLt e.name y.name with
   | false => rfl
   | true => have := lex_trans _ _ _ h2 (h y hy); rw [lex_irrefl] at this; cases this
 unfold insA
 rw [List.filter_append, List.filter_append, filt_all h, filt_none hl2]
 simp [hx, hx2]
theorem WithI.more {l : Dir} {e x : Ent} (hx : lexLt e.name x.name = true) (hex : ∃ y ∈ l, lexLt e.name y.name = true) : WithI (l ++ [x]) e true (insA Ent.name l e ++ [x]) := by
 obtain ⟨y, hy, hlt⟩ := hex
 have hx2 : lexLt x.name e.name = false := by
   cases h2 : lexLt x.name e.name with
   | false => rfl
   | true => have := lex_trans _ _ _ hx h2; rw [lex_irrefl] at this; cases this
 refine .inr ⟨rfl, ?_, y, by simp [hy], hlt⟩
 unfold insA
 rw [List.filter_append, List.filter_append]
 simp [hx, hx2]

theorem pushN {w0 w : World} {X : List Nat} {a : Option Addr} {c : Nat} {d : Dir} (h : St w0 X w [rowN a c d]) (e : Ent) (hb : d.length ≤ 1000001) :
   ∃ g w2 va vc w3, (Instr.buildSlice 83 1 #[(0, .agg (nC e).toArray)]).run Tryz.prog w = .ok (.slice (some ⟨g, 0, none⟩) 1 1) w2 ∧ (Builtin.append_ #[83, 83] 83 #[.slice a d.length c, .slice (some ⟨g, 0, none⟩) 1 1]).run Tryz.prog w2 = .ok (.slice va (d ++ [e]).length vc) w3 ∧ St w0 X w3 [rowN va vc (d ++ [e])] := by
 obtain ⟨g2, w2, va, vc, w3, r2, r3, h3, _⟩ := h.pushA (i := 0) (ty := 83) nT rfl (nC e) (nC_len e) (by decide) (nC_one e) (by omega) (by simp only [maxLen]; omega)
 have e1 : (d ++ [e]).length = d.length + 1 := by simp
 have e2 : (d ++ [e]).flatMap nC = d.flatMap nC ++ nC e := by simp
 refine ⟨g2, w2, va, vc, w3, r2, by rw [e1]; exact r3, ?_⟩
 unfold rowN
 rw [e1, e2]
 exact h3

set_option maxHeartbeats 1000000 in
theorem with_spec (a : Option Addr) (n c : Nat) (d : Dir) (nm : Nm) (f : Nat) (w : World) (hr : RdN w a n c d) (hasc : AscBy Ent.name d) (hb : n ≤ 100000) :
   Calls Tryz.prog 98 #[.slice a n c, strV nm, .int .i64 (f : Int)] w fun e w' => ∃ a' c', e = .returned (.slice a' (insA Ent.name d ⟨nm, f⟩).length c') ∧ St w [] w' [rowN a' c' (insA Ent.name d ⟨nm, f⟩)] := by
 have hln := hr.num (by decide)
 apply amphoraref01_with_vc
 refine (without_spec a n c d nm w hr (by omega)).mono ?_
 rintro e w1 ⟨oa, oc, rfl, k1⟩
 obtain ⟨E, hE⟩ : ∃ E : Ent, (⟨nm, f⟩ : Ent) = E := ⟨_, rfl⟩
 have hEn : E.name = nm := by rw [← hE]
 have hEf : E.file = f := by rw [← hE]
 have hfin : insA Ent.name (delA Ent.name d nm) E = insA Ent.name d E := by have := insA_delA d E; rw [hEn] at this; exact this
 obtain ⟨o, ho⟩ : ∃ o, delA Ent.name d nm = o := ⟨_, rfl⟩
 have hoasc : AscBy Ent.name o := by rw [← ho]; exact asc_delA hasc nm
 have honm : ∀ x ∈ o, x.name ≠ E.name := by rw [← ho, hEn]; exact fun x hx => (mem_delA.1 hx).2
 have holen : o.length ≤ n := by rw [← ho, ← hln]; exact delA_len _ _
 rw [ho] at k1 hfin ⊢
 rw [hE, ← hfin]
 have hro : RdN w1 oa o.length oc o := rdN_of k1 (i := 0) rfl
 have hbld : ∀ w', (Instr.build 148 #[(0, strV nm), (1, .int .i64 (f : Int))]).run Tryz.prog w' = .ok (.agg (nC E).toArray) w' := fun w' => by
   have := n_build E w'
   rw [hEn, hEf] at this
   exact this
 refine ⟨_, _, _, rfl, fun xa xn xc p x w' => ∃ (i : Nat) (out : Dir), x = (i : Int) ∧ i ≤ o.length ∧ xn = out.length ∧ out.length ≤ i + 1 ∧ WithI (o.take i) E p out ∧ Chg [] w w' ∧ St w1 [] w' [rowN xa xc out], fun _ _ _ _ x _ => o.length - x.toNat, ⟨0, [], rfl, by omega, rfl, by simp, .inl ⟨rfl, by simp, by simp⟩, k1.chg, (St.start w1).addNil _ _⟩, ?_⟩
 rintro xa xn xc p x w2 ⟨i, out, rfl, hi, rfl, hol, hW, c2, k2⟩
 refine ⟨fun h => ?_, fun h => ?_⟩
 · have hi' : i < o.length := by simp at h; omega
   have he : o[i]? = some o[i] := List.getElem?_eq_getElem hi'
   obtain ⟨e, hed⟩ : ∃ e, o[i] = e := ⟨_, rfl⟩
   rw [hed] at he
   have hne := honm e (List.mem_of_getElem? he)
   have htk : o.take (i + 1) = o.take i ++ [e] := by rw [List.take_add_one, he]; rfl
   obtain ⟨b, q, ha, ql⟩ := hro.fld he
   have hlo : ∀ {w'}, Chg [] w1 w' → (Instr.loadAt 148 (.pointer (some ⟨b, q + Int.toNat (i : Int) * 2, none⟩))).run Tryz.prog w' = .ok (.agg (nC e).toArray) w' := fun hc => (ql _ (hro.keep0 hc)).2.2
   refine ⟨fun x w' => x = (!p && lexLt E.name e.name) ∧ w' = w2, ⟨fun hp => ⟨b, q, ha, by omega, by omega, _, (ql _ (hro.keep0 k2.chg)).1, _, gtrStr e.name nm _ _ w2, ?_, rfl⟩, fun hp => ⟨?_, rfl⟩⟩, ?_⟩
   · rw [hp, hEn]; rfl
   · rw [hp]; rfl
   rintro x w3 ⟨rfl, rfl⟩
   refine ⟨fun ya yn yc p' w' => ∃ out', yn = out'.length ∧ out'.length ≤ i + 1 ∧ WithI (o.take (i + 1)) E p' (out' ++ [e]) ∧ Chg [] w w' ∧ St w1 [] w' [rowN ya yc out'], ⟨fun hput => ?_, fun hput => ?_⟩, ?_⟩
   · simp only [Bool.and_eq_true, Bool.not_eq_true'] at hput
     obtain ⟨hp, hlt⟩ := hput
     rcases hW with ⟨_, rfl, hall⟩ | ⟨hp2, _⟩
     · obtain ⟨g4, w4, va, vc, w5, r4, r5, k5⟩ := pushN k2 E (by simp; omega)
       refine ⟨_, hbld w3, _, _, _, w4, r4, va, _, vc, w5, r5, _, rfl, by simp; omega, ?_, ?_, k5⟩
       · rw [htk]; exact WithI.put hall hlt
       · exact k1.chg.trans k5.chg
     · rw [hp] at hp2; cases hp2
   · refine ⟨out, rfl, ?_, ?_, c2, k2⟩
     · rcases hW with ⟨_, rfl, _⟩ | ⟨_, rfl, y, hy, _⟩
       · simp; omega
       · exact hol
     · rcases hW with ⟨hp, rfl, hall⟩ | ⟨hp, rfl, y, hy, hlt⟩
       · rw [hp] at hput ⊢
         have hnlt : lexLt E.name e.name = false := by simpa using hput
         have hlt : lexLt e.name E.name = true := by
           cases h2 : lexLt e.name E.name with
           | true => rfl
           | false => exact absurd (lex_tri _ _ h2 hnlt) hne
         rw [htk]; exact WithI.skip hall hlt
       · rw [hp]
         have hye : lexLt y.name e.name = true := by
           obtain ⟨j, hj⟩ := List.getElem?_of_mem hy
           have hjl : j < (o.take i).length := (List.getElem?_eq_some_iff.1 hj).1
           have hji : j < i := by simp at hjl; omega
           rw [List.getElem?_take, if_pos hji] at hj
           obtain ⟨hj1, hj2⟩ := List.getElem?_eq_some_iff.1 hj
           have := List.pairwise_iff_getElem.1 hoasc j i hj1 hi' hji
           rw [hj2, hed] at this
           exact this
         rw [htk]; exact WithI.more (lex_trans _ _ _ hlt hye) ⟨y, hy, hlt⟩
   · rintro ya yn yc p' w6 ⟨out', rfl, hol', hW', c6, k6⟩
     obtain ⟨g7, w7, va, vc, w8, r7, r8, k8⟩ := pushN k6 e (by omega)
     exact ⟨b, q, ha, by omega, by omega, _, hlo k6.chg, _, _, _, w7, r7, va, _, vc, w8, r8, ⟨i + 1, out' ++ [e], wrap_succ hi' (by omega), by omega, rfl, by simp; omega, hW', k1.chg.trans k8.chg, k8⟩, mu_succ hi' (by omega)⟩
 · have hi' : i = o.length := by simp at h; omega
   rw [hi', List.take_of_length_le (Nat.le_refl _)] at hW
   have hup : ∀ {w' : World} {M : List Res}, St w1 [] w' M → St w [] w' M := fun hk => by
     have := Sx.St.callPart (M := []) (N := []) ((St.start w).same k1.chg) hk
     simpa using this
   refine ⟨fun ya yn yc w' => yn = (insA Ent.name o E).length ∧ St w [] w' [rowN ya yc (insA Ent.name o E)], ⟨fun hp => ?_, fun hp => ?_⟩, ?_⟩
   · rcases hW with ⟨_, rfl, hall⟩ | ⟨hp2, _⟩
     · obtain ⟨g4, w4, va, vc, w5, r4, r5, k5⟩ := pushN k2 E (by omega)
       have hins : insA Ent.name out E = out ++ [E] := by
         have hl2 : ∀ y ∈ out, lexLt E.name y.name = false := fun y hy => by
           cases h2 : lexLt E.name y.name with
           | false => rfl
           | true => have := lex_trans _ _ _ h2 (hall y hy); rw [lex_irrefl] at this; cases this
         unfold insA
         rw [filt_all hall, filt_none hl2]
       rw [hins]
       exact ⟨_, hbld w2, _, _, _, w4, r4, va, _, vc, w5, r5, rfl, hup k5⟩
     · rw [hp2] at hp; cases hp
   · rcases hW with ⟨hp2, _⟩ | ⟨_, rfl, _⟩
     · rw [hp2] at hp; cases hp
     · exact ⟨rfl, hup k2⟩
   · rintro ya yn yc w11 ⟨rfl, k11⟩
     exact ⟨ya, yc, rfl, k11⟩

def madeV (c : ChM) : Int := match c.made with | some i => (i : Int) | none => -1
def chR (c : ChM) : List Value := [.int .i64 (madeV c), strV c.fr, strV c.to]
theorem chR_len (c : ChM) : (chR c).length = 3 := rfl
theorem chR_one (c : ChM) : ∀ v ∈ chR c, v.oneCell' = true := fun v hv => by
 simp only [chR, List.mem_cons, List.not_mem_nil, or_false] at hv
 rcases hv with rfl | rfl | rfl <;> rfl

theorem made_spec (a : Option Addr) (n c : Nat) (d : Dir) (ch : ChM) (w : World) (hr : RdN w a n c d) (hasc : AscBy Ent.name d) (hl : ch.made = none → ch.to ≠ [] → (findD d ch.fr).isSome = true) (hb : n ≤ 100000) :
   Calls Tryz.prog 67 #[.slice a n c, .agg (chR ch).toArray] w fun e w' => ∃ a' c', e = .returned (.slice a' (mkD d ch).length c') ∧ St w [] w' [rowN a' c' (mkD d ch)] := by
 have hln := hr.num (by decide)
 apply amphoraref01_made_vc
 obtain ⟨g, w1, r1, k1⟩ := (St.start w).boxA (P := Tryz.prog) 153 (chR ch)
 have hup : ∀ {w1 w' : World} {M : List Res}, Chg [] w w1 → St w1 [] w' M → St w [] w' M := fun hc hk => by
   have := Sx.St.callPart (M := []) (N := []) ((St.start w).same hc) hk
   simpa using this
 refine ⟨g, w1, r1, _, k1.ldL (i := 0) (o := 0) rfl (intA _) rfl rfl, fun hge => ?_, fun hlt => ?_⟩
 · obtain ⟨i, hi⟩ : ∃ i, ch.made = some i := by
     cases hq : ch.made with
     | none => rw [madeV, hq] at hge; simp at hge
     | some i => exact ⟨i, rfl⟩
   have hv : madeV ch = (i : Int) := by rw [madeV, hi]
   have hmk : mkD d ch = insA Ent.name d ⟨ch.to, i⟩ := by unfold mkD; rw [hi]
   rw [hmk]
   have hl0 : (Instr.loadAt 3 (.pointer (some ⟨g, 0, none⟩))).run Tryz.prog w1 = .ok (.int .i64 (i : Int)) w1 := by rw [← hv]; exact k1.ldL (i := 0) (o := 0) rfl (intA _) rfl rfl
   refine ⟨_, k1.ldL (i := 0) (o := 2) rfl (stA' _) rfl rfl, _, hl0, (with_spec a n c d ch.to i w1 (hr.keep0 k1.chg) hasc hb).mono ?_⟩
   rintro e w2 ⟨a', c', rfl, k2⟩
   exact ⟨_, _, _, rfl, a', c', rfl, hup k1.chg k2⟩
 · have hnone : ch.made = none := by
     cases hq : ch.made with
     | none => rfl
     | some i => rw [madeV, hq] at hlt; simp at hlt
   refine ⟨_, k1.ldL (i := 0) (o := 1) rfl (stA' _) rfl rfl, (find_spec a n c d ch.fr w1 (hr.keep0 k1.chg) (by omega)).mono ?_⟩
   rintro e w3 ⟨rfl, rfl⟩
   refine ⟨_, rfl, _, k1.ldL (i := 0) (o := 1) rfl (stA' _) rfl rfl, (without_spec a n c d ch.fr w3 (hr.keep0 k1.chg) (by omega)).mono ?_⟩
   rintro e w4 ⟨a4, c4, rfl, k4⟩
   have h4 := k1.same k4.chg
   refine ⟨_, _, _, rfl, _, h4.ldL (i := 0) (o := 2) rfl (stA' _) rfl rfl, fun he => ?_, fun hne => ?_⟩
   · rw [empty_eq] at he
     have hto : ch.to = [] := List.eq_nil_of_length_eq_zero (by simpa using he)
     have hmk : mkD d ch = delA Ent.name d ch.fr := by
       unfold mkD
       rw [hnone]
       cases hq : findD d ch.fr with
       | none => exact (delA_none hq).symm
       | some e => simp only [if_pos hto]
     rw [hmk]
     exact ⟨a4, c4, rfl, hup k1.chg k4⟩
   · rw [empty_eq] at hne
     have hto : ¬ ch.to = [] := by
       intro h0; rw [h0] at hne; simp at hne
     obtain ⟨e, hf⟩ := Option.isSome_iff_exists.1 (hl hnone hto)
     have hmk : mkD d ch = insA Ent.name (delA Ent.name d ch.fr) ⟨ch.to, e.file⟩ := by unfold mkD; rw [hnone]; simp only [hf, if_neg hto]
     have hfv : findV d ch.fr = (e.file : Int) := by rw [findV, hf]
     rw [hmk, hfv]
     have hdl : (delA Ent.name d ch.fr).length ≤ n := by rw [← hln]; exact delA_len _ _
     refine ⟨_, h4.ldL (i := 0) (o := 2) rfl (stA' _) rfl rfl, (with_spec a4 _ c4 (delA Ent.name d ch.fr) ch.to e.file w4 (rdN_of k4 (i := 0) rfl) (asc_delA hasc _) (by omega)).mono ?_⟩
     rintro e5 w5 ⟨a5, c5, rfl, k5⟩
     exact ⟨_, _, _, rfl, a5, c5, rfl, hup (k1.chg.trans k4.chg) k5⟩

end Go.Proofs.YtmdandkoajocpaaGreatDoor
end

section
namespace Go.Proofs.YtmdandkoajocpaaGreatDoor
open Go Sx
set_option maxRecDepth 8000

structure FD where
 a : Option Addr
 c : Nat
 data : List UInt8
 syn : Nat
def FD.cells (f : FD) : List Value := [.slice f.a f.data.length f.c, .int .i64 (f.syn : Int)]
theorem FD.cells_len (f : FD) : f.cells.length = 2 := rfl
theorem FD.cells_one (f : FD) : ∀ v ∈ f.cells, v.oneCell' = true := fun v hv => by
 simp only [FD.cells, List.mem_cons, List.not_mem_nil, or_false] at hv
 rcases hv with rfl | rfl <;> rfl
def FD.row (f : FD) : Res := .row 5 1 (.slice f.a f.data.length f.c) f.data.length (bv f.data)
def FD.m (f : FD) : FileM := ⟨f.data, f.syn⟩
structure RP where
 Fa : Option Addr
 Fc : Nat
 FL : List FD
 na : Option Addr
 nc : Nat
 sa : Option Addr
 sc : Nat
 ca : Option Addr
 cc : Nat
 fa : Option Addr
 fc : Nat
 P : List Res
def armV (m : DiskM) : Int := match m.arm with | some k => (k : Int) | none => -1
def Live (m : DiskM) : Prop := ∀ k c, m.chs[k]? = some c → c.made = none → (findD (replay m.syn (m.chs.take k)) c.fr).isSome = true
structure ROk (m : DiskM) (p : RP) : Prop where
 wf : WFD m
 live : Live m
 files : p.FL.map FD.m = m.files
 now : rowN p.na p.nc m.now ∈ p.P
 syn : rowN p.sa p.sc m.syn ∈ p.P
 arm : ∀ k, m.arm = some k → k ≤ 9223372036854775807
 fails : ∀ x ∈ m.fails, x ≤ 9223372036854775807
 flen : m.fails.length * 8 ≤ 140737488355328
def rdL (m : DiskM) (p : RP) : List Value := [.int .i64 m.size, .slice p.Fa p.FL.length p.Fc, .slice p.na m.now.length p.nc, .slice p.sa m.syn.length p.sc, .slice p.ca m.chs.length p.cc, .int .i64 (m.steps : Int), .bool m.down, .int .i64 (armV m), .slice p.fa m.fails.length p.fc]
def resR (gr : Nat) (m : DiskM) (p : RP) : List Res := [.arr gr 86 (rdL m p), .row 150 2 (.slice p.Fa p.FL.length p.Fc) p.FL.length (p.FL.flatMap FD.cells), .row 153 3 (.slice p.ca m.chs.length p.cc) m.chs.length (m.chs.flatMap chR), .row 3 1 (.slice p.fa m.fails.length p.fc) m.fails.length (niv m.fails)]
def RefIn (w0 : World) (X : List Nat) (w : World) (gr : Nat) (m : DiskM) (N : List Res) : Prop := ∃ p, ROk m p ∧ St w0 X w (resR gr m p ++ (p.FL.map FD.row ++ (p.P ++ N)))

theorem nsA (w : World) : (isAgg 83).run Tryz.prog w = .ok false w := Tryz.isAgg83 w
theorem nsS (w : World) : (sizeOf 83).run Tryz.prog w = .ok 1 w := Tryz.sizeOf83 w
theorem fsA (w : World) : (isAgg 82).run Tryz.prog w = .ok false w := Tryz.isAgg82 w
theorem fsS (w : World) : (sizeOf 82).run Tryz.prog w = .ok 1 w := Tryz.sizeOf82 w
theorem csA (w : World) : (isAgg 84).run Tryz.prog w = .ok false w := Tryz.isAgg84 w
theorem csS (w : World) : (sizeOf 84).run Tryz.prog w = .ok 1 w := Tryz.sizeOf84 w

section
variable {w0 w w' : World} {X : List Nat} {N N' T : List Res} {gr : Nat} {m : DiskM}

theorem RefIn.same (h : RefIn w0 X w gr m N) (hc : Chg [] w w') : RefIn w0 X w' gr m N := by obtain ⟨p, hp, hS⟩ := h; exact ⟨p, hp, hS.same hc⟩
theorem RefIn.wf (h : RefIn w0 X w gr m N) : WFD m := by obtain ⟨p, hp, hS⟩ := h; exact hp.wf
theorem RefIn.rest (h : RefIn w0 X w gr m N) : St w0 X w N := by
 obtain ⟨p, hp, hS⟩ := h
 exact hS.sub (((List.sublist_append_right _ _).trans (List.sublist_append_right _ _)).trans (List.sublist_append_right _ _))

theorem poolRd {p : RP} {R : List Res} {a : Option Addr} {c : Nat} {d : Dir} (hS : St w0 X w (R ++ (p.FL.map FD.row ++ (p.P ++ N)))) (hm : rowN a c d ∈ p.P) : RdN w a d.length c d := by
 have h1 : rowN a c d ∈ R ++ (p.FL.map FD.row ++ (p.P ++ N)) := List.mem_append_right _ (List.mem_append_right _ (List.mem_append_left _ hm))
 obtain ⟨i, hi⟩ := List.getElem?_of_mem h1
 exact rdN_of hS hi

theorem RefIn.cell {p : RP} (hS : St w0 X w (resR gr m p ++ (p.FL.map FD.row ++ (p.P ++ N)))) {i : Nat} {v : Value} {T : TypeId} (hT : (isAgg T).run Tryz.prog w = .ok false w) (hv : (rdL m p)[i]? = some v) : (Instr.loadAt T (.pointer (some ⟨gr, i, none⟩))).run Tryz.prog w = .ok v w :=
 hS.ldL (i := 0) (o := i) rfl hT rfl hv

theorem rfound_spec (n : Nm) (h : RefIn w0 X w gr m N) :
   Calls Tryz.prog 95 #[.pointer (some ⟨gr, 0, none⟩), strV n] w fun e w' => e = .returned (.tuple #[.int .i64 (if foundE m n = none then (foundI m n : Int) else -1), .int .i64 ((foundE m n).getD 0)]) ∧ w' = w := by
 obtain ⟨p, hp, hS⟩ := h
 have hln := hp.wf.okNow.len
 apply amphoraref01_Disk_found_vc
 refine ⟨_, RefIn.cell hS (i := 6) (boolA _) rfl, fun hd => ?_, fun hd => (name_spec n w).mono ?_⟩
 · have : foundE m n = some 1 := by unfold foundE; rw [if_pos hd]
   rw [this]; exact ⟨rfl, rfl⟩
 · rintro e w1 ⟨rfl, rfl⟩
   refine ⟨_, rfl, fun hg => ?_, fun hg => ⟨_, _, _, RefIn.cell hS (i := 2) (nsA _) rfl, (find_spec _ _ _ m.now n w1 (poolRd hS hp.now) (by omega)).mono ?_⟩⟩
   · have : foundE m n = some 6 := by unfold foundE; rw [if_neg (by rw [hd]; simp), if_pos hg]
     rw [this]; exact ⟨rfl, rfl⟩
   · rintro e w2 ⟨rfl, rfl⟩
     cases hf : findD m.now n with
     | none =>
       have h1 : findV m.now n = -1 := by rw [findV, hf]
       have h2 : foundE m n = some 5 := by unfold foundE; rw [if_neg (by rw [hd]; simp), if_neg (by rw [hg]; simp), hf]; rfl
       rw [h1, h2]
       exact ⟨_, rfl, fun _ => ⟨rfl, rfl⟩, fun h => (by simp at h)⟩
     | some e =>
       have h1 : findV m.now n = (e.file : Int) := by rw [findV, hf]
       have h2 : foundE m n = none := by unfold foundE; rw [if_neg (by rw [hd]; simp), if_neg (by rw [hg]; simp), hf]; rfl
       have h3 : foundI m n = e.file := by unfold foundI; rw [hf]; rfl
       rw [h1, h2, h3]
       exact ⟨_, rfl, fun h => (by simp at h; omega), fun _ => ⟨rfl, rfl⟩⟩

theorem Live.same {m m' : DiskM} (h : Live m) (e1 : m'.chs = m.chs) (e2 : m'.syn = m.syn) : Live m' := by
 unfold Live
 rw [e1, e2]
 exact h
theorem Live.note {m : DiskM} (h : Live m) (hw : WFD m) {c : ChM} (hc : c.made = none → (findD m.now c.fr).isSome = true) : Live (doCh m c) := by
 intro k c' hk hm
 have hk : (m.chs ++ [c])[k]? = some c' := hk
 show (findD (replay m.syn ((m.chs ++ [c]).take k)) c'.fr).isSome = true
 by_cases hl : k < m.chs.length
 · rw [List.getElem?_append_left hl] at hk
   rw [List.take_append_of_le_length (by omega)]
   exact h k c' hk hm
 · have hkl := (List.getElem?_eq_some_iff.1 hk).1
   have : k = m.chs.length := by simp at hkl; omega
   subst this
   rw [List.getElem?_append_right (Nat.le_refl _), Nat.sub_self] at hk
   have : c = c' := Option.some.inj hk
   subst this
   rw [List.take_append_of_le_length (Nat.le_refl _), List.take_length, ← hw.now]
   exact hc hm
theorem Live.none {m : DiskM} (h : m.chs = []) : Live m := by
 intro k c hk _
 rw [h] at hk
 simp at hk

theorem ROk.upd {p : RP} (hp : ROk m p) (s : Nat) (d : Bool) (a : Option Nat) (f : List Nat) {fa : Option Addr} {fc : Nat} (ha : ∀ k, a = some k → k ≤ 9223372036854775807) (hf : ∀ x ∈ f, x ≤ 9223372036854775807) (hl : f.length * 8 ≤ 140737488355328) : ROk { m with steps := s, down := d, arm := a, fails := f } { p with fa := fa, fc := fc } :=
 ⟨hp.wf.upd s d a f, hp.live.same rfl rfl, hp.files, hp.now, hp.syn, ha, hf, hl⟩

end

end Go.Proofs.YtmdandkoajocpaaGreatDoor
end

section
namespace Go.Proofs.YtmdandkoajocpaaGreatDoor
open Go Sx
set_option maxRecDepth 8000

section
variable {w0 w w' : World} {X : List Nat} {N N' T : List Res} {gr : Nat} {m : DiskM}

theorem St.newFails {p : RP} {l : List Nat} {fa' : Option Addr} {fc' : Nat} (h : St w0 X w ((resR gr m p ++ T) ++ [.row 3 1 (.slice fa' l.length fc') l.length (niv l)])) :
   ∃ w', (Instr.storeAt 53 (.pointer (some ⟨gr, 8, none⟩)) (.slice fa' l.length fc')).run Tryz.prog w = .ok () w' ∧ St w0 X w' (resR gr { m with fails := l } { p with fa := fa', fc := fc' } ++ T) := by
 obtain ⟨w1, r1, h1⟩ := h.stL (i := 0) (o := 8) (off := 8) (T := 53) (v := .slice fa' l.length fc') rfl (insS _) rfl (by simp [rdL]) rfl
 refine ⟨w1, r1, ?_⟩
 have h2 : St w0 X w1 ([.arr gr 86 (rdL { m with fails := l } { p with fa := fa', fc := fc' }), .row 150 2 (.slice p.Fa p.FL.length p.Fc) p.FL.length (p.FL.flatMap FD.cells), .row 153 3 (.slice p.ca m.chs.length p.cc) m.chs.length (m.chs.flatMap chR)] ++ ((.row 3 1 (.slice p.fa m.fails.length p.fc) m.fails.length (niv m.fails) :: T) ++ [.row 3 1 (.slice fa' l.length fc') l.length (niv l)])) := h1
 have h3 := h2.sub (List.Sublist.append_left (List.Sublist.append_right (List.sublist_cons_self _ _) _) _)
 exact h3.perm (List.Perm.append_left _ List.perm_append_comm)

set_option maxHeartbeats 1000000 in
theorem rstep_spec (h : RefIn w0 X w gr m N) (hb : m.steps < 4611686018427387904) :
   Calls Tryz.prog 96 #[.pointer (some ⟨gr, 0, none⟩)] w fun e w' => e = .returned (.int .i64 ((stepM m).2.getD 0)) ∧ RefIn w0 X w' gr (stepM m).1 N := by
 obtain ⟨p, hp, hS⟩ := h
 apply amphoraref01_Disk_step_vc
 refine ⟨_, RefIn.cell hS (i := 7) (intA _) rfl, fun h0 => ?_, fun h0 => ?_⟩
 · have ha : m.arm = some 0 := by
     have : armV m = 0 := by simpa using h0
     cases hq : m.arm with
     | none => rw [armV, hq] at this; simp at this
     | some k =>
       rw [armV, hq] at this
       have : k = 0 := by simpa using this
       rw [this]
   obtain ⟨w1, r1, h1⟩ := hS.stL (i := 0) (o := 6) (off := 6) (T := 4) (v := .bool true) rfl (boolS _) rfl (by simp [rdL]) rfl
   have hst : stepM m = ({ m with down := true }, some 1) := by unfold stepM; rw [if_pos ha]
   rw [hst]
   exact ⟨w1, r1, rfl, p, hp.upd m.steps true m.arm m.fails hp.arm hp.fails hp.flen, h1⟩
 have ha0 : ¬ m.arm = some 0 := by
   intro e; rw [armV, e] at h0; simp at h0
 obtain ⟨am, ham⟩ : ∃ am, m.arm.map (fun x : Nat => x - 1) = am := ⟨_, rfl⟩
 have hamb : ∀ k, am = some k → k ≤ 9223372036854775807 := by
   intro k hk
   rw [← ham] at hk
   obtain ⟨j, hj, rfl⟩ := Option.map_eq_some_iff.1 hk
   have := hp.arm j hj
   omega
 refine ⟨_, RefIn.cell hS (i := 7) (intA _) rfl, fun w' => St w0 X w' (resR gr { m with arm := am } p ++ (p.FL.map FD.row ++ (p.P ++ N))), ⟨fun hpos => ?_, fun hneg => ?_⟩, ?_⟩
 · obtain ⟨k, hk⟩ : ∃ k, m.arm = some k := by
     cases hq : m.arm with
     | none => rw [armV, hq] at hpos; simp at hpos
     | some k => exact ⟨k, rfl⟩
   have hkb := hp.arm k hk
   have hk0 : k ≠ 0 := fun e => ha0 (by rw [hk, e])
   have hv : armV m = (k : Int) := by rw [armV, hk]
   have hw : IntKind.wrap .i64 (armV m - 1) = ((k - 1 : Nat) : Int) := by rw [hv, wrap_i64 (by omega) (by omega)]; omega
   obtain ⟨w2, r2, h2⟩ := hS.stL (i := 0) (o := 7) (off := 7) (T := 3) (v := .int .i64 ((k - 1 : Nat) : Int)) rfl (intS _) rfl (by simp [rdL]) rfl
   refine ⟨_, RefIn.cell hS (i := 7) (intA _) rfl, w2, by rw [hw]; exact r2, ?_⟩
   have : am = some (k - 1) := by rw [← ham, hk]; rfl
   rw [this]
   exact h2
 · have hnone : m.arm = none := by
     cases hq : m.arm with
     | none => rfl
     | some k =>
       have hk0 : k ≠ 0 := fun e => ha0 (by rw [hq, e])
       rw [armV, hq] at hneg
       simp at hneg
       omega
   have : am = none := by rw [← ham, hnone]; rfl
   have e : resR gr { m with arm := am } p = resR gr m p := by
     unfold resR rdL armV
     simp only [this, hnone]
   rw [e]; exact hS
 rintro w3 h3
 have hw1 : IntKind.wrap .i64 ((m.steps : Int) + 1) = ((m.steps + 1 : Nat) : Int) := by rw [wrap_i64 (by omega) (by omega)]; omega
 obtain ⟨w4, r4, h4⟩ := h3.stL (i := 0) (o := 5) (off := 5) (T := 3) (v := .int .i64 ((m.steps + 1 : Nat) : Int)) rfl (intS _) rfl (by simp [rdL]) rfl
 have h4 : St w0 X w4 (resR gr { m with steps := m.steps + 1, arm := am } p ++ (p.FL.map FD.row ++ (p.P ++ N))) := h4
 have hflen := hp.flen
 refine ⟨_, h3.ldL (i := 0) (o := 5) rfl (intA _) rfl rfl, w4, by show (Instr.storeAt _ _ (.int .i64 (IntKind.wrap .i64 ((m.steps : Int) + 1)))).run _ _ = _; rw [hw1]; exact r4, _, _, _, h4.ldL (i := 0) (o := 8) rfl (insA' _) rfl rfl, fun hz => ?_, fun hz => ?_⟩
 · have hfn : m.fails = [] := List.eq_nil_of_length_eq_zero (by simpa using hz)
   have hst : stepM m = ({ m with steps := m.steps + 1, arm := am }, none) := by unfold stepM; rw [if_neg ha0, hfn, ← ham]
   rw [hst]
   exact ⟨rfl, p, hp.upd (m.steps + 1) m.down am m.fails hamb hp.fails hp.flen, h4⟩
 obtain ⟨x, r, hxr⟩ : ∃ x r, m.fails = x :: r := by
   cases hq : m.fails with
   | nil => rw [hq] at hz; simp at hz
   | cons x r => exact ⟨x, r, rfl⟩
 have hx63 : x ≤ 9223372036854775807 := hp.fails x (by rw [hxr]; simp)
 have hr63 : ∀ y ∈ r, y ≤ 9223372036854775807 := fun y hy => hp.fails y (by rw [hxr]; simp [hy])
 have hlr : m.fails.length = r.length + 1 := by rw [hxr]; simp
 have hrow : Rd w4 p.fa m.fails.length p.fc 1 (niv m.fails) := h4.rd (i := 3) rfl
 obtain ⟨g5, w5, r5, k5⟩ := (St.start w4).lit intT [] (by simp) (by simp)
 have hcap := hrow.le
 refine ⟨_, _, _, w5, r5, _, _, _, (h4.same k5.chg).ldL (i := 0) (o := 8) rfl (insA' _) rfl rfl, by omega, by show (1 : Int) ≤ ((m.fails.length : Nat) : Int); omega, by show ((m.fails.length : Nat) : Int) ≤ ((p.fc : Nat) : Int); omega, fun a' hsub => ?_⟩
 have hsubr := Rd.sub (hrow.keep0 k5.chg) hsub (hh := m.fails.length) (by omega) (Nat.le_refl _) hcap (Nat.le_refl _)
 have e2 : ((niv m.fails).drop (1 * 1)).take ((m.fails.length - 1) * 1) = niv r := by
   rw [hlr, hxr]
   show ((niv r)).take _ = _
   exact List.take_of_length_le (by simp [niv])
 rw [e2] at hsubr
 obtain ⟨va, vc, w6, r6, k6, _, _⟩ := k5.append (i := 0) (ty := 53) intT rfl hsubr (fun u hu => by obtain ⟨y, _, rfl⟩ := List.mem_map.1 hu; rfl) (by simp; omega) (by simp only [maxLen]; simp; omega)
 have hl1 : m.fails.length - 1 = r.length := by omega
 simp only [List.length_nil, Nat.zero_add, List.nil_append, hl1] at r6 k6
 have k6 : St w4 [] w6 [.row 3 1 (.slice va r.length vc) r.length (niv r)] := k6
 have h6 : St w0 X w6 ((resR gr { m with steps := m.steps + 1, arm := am } p ++ (p.FL.map FD.row ++ (p.P ++ N))) ++ [.row 3 1 (.slice va r.length vc) r.length (niv r)]) := Sx.St.callPart (N := []) (by rw [List.append_nil]; exact h4) k6
 have hn0 : (niv m.fails)[0]? = some (.int .i64 (x : Int)) := by rw [hxr]; rfl
 obtain ⟨b, o, hab, hcell⟩ := (hrow.keep0 k6.chg).cells.at_ hn0
 have hcell : (Instr.loadAt 3 (.pointer (some ⟨b, o + Int.toNat (0 : Int) * 1, none⟩))).run Tryz.prog w6 = .ok (.int .i64 (x : Int)) w6 := ld1 (intA _) hcell
 refine ⟨va, r.length, vc, w6, by rw [hl1]; exact r6, _, _, _, h6.ldL (i := 0) (o := 8) rfl (insA' _) rfl rfl, b, o, hab, by omega, by show (0 : Int) < ((m.fails.length : Nat) : Int); omega, _, hcell, fun hx0 => ?_, fun hx0 => ?_⟩
 · have hx0 : x = 0 := by simp at hx0; omega
   subst hx0
   have hst : stepM m = ({ m with steps := m.steps + 1, arm := am, fails := r }, some 2) := by unfold stepM; rw [if_neg ha0, hxr, ← ham]
   rw [hst]
   obtain ⟨w7, r7, h7⟩ := St.newFails h6
   exact ⟨w7, r7, rfl, { p with fa := va, fc := vc }, hp.upd (m.steps + 1) m.down am r hamb hr63 (by omega), h7⟩
 · obtain ⟨y, rfl⟩ : ∃ y, x = y + 1 := ⟨x - 1, by simp at hx0; omega⟩
   have hst : stepM m = ({ m with steps := m.steps + 1, arm := am, fails := y :: r }, none) := by unfold stepM; rw [if_neg ha0, hxr, ← ham]
   rw [hst]
   have wy : IntKind.wrap .i64 (((y + 1 : Nat) : Int) - 1) = (y : Int) := by rw [wrap_i64 (by omega) (by omega)]; omega
   obtain ⟨g8, w8, r8, k8⟩ := (St.start w6).lit intT [.int .i64 (y : Int)] (by simp [Value.oneCell']) (by simp)
   have hrr : Rd w8 va r.length vc 1 (niv r) := (k6.rd (i := 0) rfl).keep0 k8.chg
   obtain ⟨ua, uc, w9, r9, k9, _, _⟩ := k8.append (i := 0) (ty := 53) intT rfl hrr (fun u hu => by obtain ⟨y, _, rfl⟩ := List.mem_map.1 hu; rfl) (by simp; omega) (by simp only [maxLen]; simp; omega)
   have e3 : [Value.int IntKind.i64 (y : Int)].length + r.length = (y :: r).length := by simp; omega
   rw [e3] at r9 k9
   have h9 : St w0 X w9 ((resR gr { m with steps := m.steps + 1, arm := am } p ++ (p.FL.map FD.row ++ (p.P ++ N))) ++ [.row 3 1 (.slice ua (y :: r).length uc) (y :: r).length (niv (y :: r))]) := Sx.St.callPart (N := []) (by rw [List.append_nil]; exact St.pop h6) k9
   obtain ⟨w10, r10, h10⟩ := St.newFails h9
   refine ⟨_, _, _, h6.ldL (i := 0) (o := 8) rfl (insA' _) rfl rfl, b, o, hab, by omega, by show (0 : Int) < ((m.fails.length : Nat) : Int); omega, _, hcell, _, _, _, w8, by rw [wy]; exact r8, ua, _, uc, w9, r9, w10, r10, rfl, { p with fa := ua, fc := uc }, hp.upd (m.steps + 1) m.down am (y :: r) hamb (fun z hz => ?_) (by simp; omega), h10⟩
   rcases List.mem_cons.1 hz with rfl | hz
   · omega
   · exact hr63 z hz

end

end Go.Proofs.YtmdandkoajocpaaGreatDoor
end

section
namespace Go.Proofs.YtmdandkoajocpaaGreatDoor
open Go Sx
set_option maxRecDepth 8000

theorem flatMap_set {α : Type} {enc : α → List Value} {k : Nat} : ∀ {l : List α} {i j : Nat} {x y : α} {v : Value}, (∀ z ∈ l, (enc z).length = k) → l[i]? = some x → j < k → enc y = (enc x).set j v → (l.flatMap enc).set (i * k + j) v = (l.set i y).flatMap enc
 | [], i, j, x, y, v, _, hx, _, _ => by simp at hx
 | z :: l, 0, j, x, y, v, h, hx, hj, hy => by
   have : z = x := by simpa using hx
   subst this
   have hz := h z (by simp)
   rw [List.flatMap_cons, Nat.zero_mul, Nat.zero_add, List.set_append_left _ _ (by omega), List.set_cons_zero, List.flatMap_cons, hy]
 | z :: l, i + 1, j, x, y, v, h, hx, hj, hy => by
   have hz := h z (by simp)
   have hx' : l[i]? = some x := by simpa using hx
   have ih := flatMap_set (fun q hq => h q (by simp [hq])) hx' hj hy
   rw [List.flatMap_cons, List.set_append_right _ _ (by rw [hz, Nat.succ_mul]; omega), hz, show (i + 1) * k + j - k = i * k + j by rw [Nat.succ_mul]; omega, ih, List.set_cons_succ, List.flatMap_cons]

theorem Sx.St.stRowK {P : Program} {w0 w : World} {X : List Nat} {M : List Res} (h : St w0 X w M) {i g n c j sz : Nat} {e T : TypeId} {xs : List Value} {v : Value} (hi : M[i]? = some (.row e sz (.slice (some ⟨g, 0, none⟩) n c) n xs)) (hT : (sizeOf T).run P w = .ok 1 w) (hj : j < n * sz) (hv : v.oneCell' = true) :
   ∃ w', (Instr.storeAt T (.pointer (some ⟨g, j, none⟩)) v).run P w = .ok () w' ∧ St w0 X w' (M.set i (.row e sz (.slice (some ⟨g, 0, none⟩) n c) n (xs.set j v))) := by
 have hown : w.ownsRow 0 e sz (.slice (some ⟨g, 0, none⟩) n c) n xs := h.holds i _ hi
 obtain ⟨hlen, hrow⟩ := hown
 rcases hrow with ⟨hv0, _⟩ | ⟨g', cap, cur, hv0, hb, hg, hnc, hcm, hcs, ht⟩
 · simp at hv0
 · simp only [Value.slice.injEq, Option.some.injEq, Addr.mk.injEq, and_true, true_and] at hv0
   obtain ⟨rfl, rfl⟩ := hv0
   have hle : n * sz ≤ c * sz := Nat.mul_le_mul_right _ hnc
   have hcs' : v.cells = #[v] := by cases v <;> first | rfl | (simp [Value.oneCell'] at hv)
   have hst := run_storeCells_at P g j e [v] 0 cur w hg (by simp; omega) (by simpa using hv)
   have hset : (cur.toList.take j ++ [v] ++ cur.toList.drop (j + 1)).toArray = cur.setIfInBounds j v := by
     apply Array.ext'
     rw [Array.toList_setIfInBounds, List.set_eq_take_append_cons_drop]
     simp [show j < cur.size by omega]
   simp only [Nat.add_zero, List.length_singleton] at hst
   rw [hset] at hst
   refine ⟨_, ?_, h.upd hi (w' := w.setRow g (cur.setIfInBounds j v)) ⟨rfl, rfl, rfl, by simp, fun k _ hk => setRow_other w g k _ (fun e => hk (by simp [Res.fp, Value.ownBlock, e]))⟩ ?_ (by simp [Res.fp, Value.ownBlock])⟩
   · simp [Instr.storeAt, Instr.sureAddr, storeVar, hT, hcs', hst]
   · refine ⟨by simpa using hlen, .inr ⟨g, c, _, rfl, hb, setRow_heap w g cur _ e _ hg, hnc, hcm, by simpa using hcs, ?_⟩⟩
     rw [Array.toList_setIfInBounds, ← ht, List.take_set]

theorem eraseIdx_setD (l : List FD) (i : Nat) (x : FD) : (l.set i x).eraseIdx i = l.eraseIdx i := by
 rw [List.eraseIdx_eq_take_drop_succ, List.eraseIdx_eq_take_drop_succ, List.take_set_of_le (Nat.le_refl i), List.drop_set_of_lt (by omega)]

theorem perm_FD {FL : List FD} {i : Nat} {f : FD} (hi : FL[i]? = some f) (R T : List Res) : (R ++ (FL.map FD.row ++ T)).Perm (f.row :: (R ++ ((FL.eraseIdx i).map FD.row ++ T))) := by
 obtain ⟨h1, _, h3⟩ := split_at hi
 rw [h3]
 conv => lhs; rw [h1]
 simp only [List.map_append, List.map_cons]
 have e1 : R ++ ((FL.take i).map FD.row ++ f.row :: (FL.drop (i + 1)).map FD.row ++ T) = (R ++ (FL.take i).map FD.row) ++ f.row :: ((FL.drop (i + 1)).map FD.row ++ T) := by simp [List.append_assoc]
 rw [e1]
 refine List.perm_middle.trans (List.Perm.cons _ (List.Perm.of_eq ?_))
 simp [List.append_assoc]

section
variable {w0 w w' : World} {X : List Nat} {N N' T : List Res} {gr : Nat} {m : DiskM}

theorem ROk.file {p : RP} (hp : ROk m p) {i : Nat} (hi : i < m.files.length) : ∃ f, p.FL[i]? = some f ∧ fileAt m.files i = f.m ∧ f.syn ≤ f.data.length ∧ f.data.length ≤ 1099511627776 := by
 have hl : p.FL.length = m.files.length := by have := congrArg List.length hp.files; simpa using this
 have hf : p.FL[i]? = some p.FL[i] := List.getElem?_eq_getElem (by omega)
 have hfm : fileAt m.files i = p.FL[i].m := by
   rw [← hp.files]
   simp [fileAt, List.getD, show i < p.FL.length by omega]
 have := fileAt_ok hp.wf.syn i
 rw [hfm] at this
 exact ⟨_, hf, hfm, this.1, this.2⟩

theorem filesHead {p : RP} (hS : St w0 X w (resR gr m p ++ T)) {i : Nat} (hi : i < p.FL.length) : ∃ g, p.Fa = some ⟨g, 0, none⟩ := by
 have hown : w.ownsRow 0 150 2 (.slice p.Fa p.FL.length p.Fc) p.FL.length (p.FL.flatMap FD.cells) := hS.holds 1 _ rfl
 rcases hown.2 with ⟨_, h1⟩ | ⟨g, cap, cur, h0, _⟩
 · omega
 · simp only [Value.slice.injEq] at h0
   exact ⟨g, h0.1⟩

theorem St.ldF {p : RP} {g : Nat} (hg : p.Fa = some ⟨g, 0, none⟩) {i : Nat} {f : FD} (hf : p.FL[i]? = some f) (hS : St w0 X w (resR gr m p ++ (p.FL.map FD.row ++ T))) :
   (Instr.loadAt 33 (.pointer (some ⟨g, 0 + Int.toNat (i : Int) * 2, none⟩))).run Tryz.prog w = .ok (.slice f.a f.data.length f.c) w ∧ (Instr.loadAt 3 (.pointer (some ⟨g, 0 + Int.toNat (i : Int) * 2 + 1, none⟩))).run Tryz.prog w = .ok (.int .i64 (f.syn : Int)) w ∧ RdB w f.a f.data.length f.c f.data := by
 have hc : Cells w p.Fa (p.FL.flatMap FD.cells) := hS.cells (i := 1) rfl
 have h0 : (p.FL.flatMap FD.cells)[i * 2 + 0]? = some (.slice f.a f.data.length f.c) := by rw [flatMap_at (fun x _ => FD.cells_len x) hf (by decide)]; rfl
 have h1 : (p.FL.flatMap FD.cells)[i * 2 + 1]? = some (.int .i64 (f.syn : Int)) := by rw [flatMap_at (fun x _ => FD.cells_len x) hf (by decide)]; rfl
 obtain ⟨b0, o0, e0, c0⟩ := hc.at_ h0
 obtain ⟨b1, o1, e1, c1⟩ := hc.at_ h1
 rw [hg] at e0 e1
 simp only [Option.some.injEq, Addr.mk.injEq, and_true] at e0 e1
 obtain ⟨rfl, rfl⟩ := e0
 obtain ⟨rfl, rfl⟩ := e1
 rw [Int.toNat_natCast]
 exact ⟨ld1 (bsA _) c0, ld1 (intA _) c1, (hS.perm (perm_FD hf (resR gr m p) T)).rd (i := 0) rfl⟩

theorem rused_spec (h : RefIn w0 X w gr m N) :
   Calls Tryz.prog 97 #[.pointer (some ⟨gr, 0, none⟩)] w fun e w' => e = .returned (.int .i64 (usedM m : Int)) ∧ Chg [] w w' := by
 obtain ⟨p, hp, hS⟩ := h
 have hw := hp.wf
 have hnl := hw.okNow.len
 apply amphoraref01_Disk_Used_vc
 refine ⟨fun x y w' => ∃ i : Nat, y = (i : Int) ∧ i ≤ m.now.length ∧ x = (((m.now.take i).map (lenE m.files)).sum : Int) ∧ Chg [] w w', fun _ y _ => m.now.length - y.toNat, ⟨0, rfl, by omega, by simp, Chg.refl _ _⟩, ?_⟩
 rintro x y w1 ⟨i, rfl, hi, rfl, c1⟩
 have hS1 := hS.same c1
 refine ⟨_, _, _, RefIn.cell hS1 (i := 2) (nsA _) rfl, fun hlt => ?_, fun hge => ?_⟩
 · have hi' : i < m.now.length := by simp at hlt; omega
   have he : m.now[i]? = some m.now[i] := List.getElem?_eq_getElem hi'
   obtain ⟨e, hed⟩ : ∃ e, m.now[i] = e := ⟨_, rfl⟩
   rw [hed] at he
   obtain ⟨f, hf, hfm, _, hfl⟩ := hp.file (hw.okNow.ent e (List.mem_of_getElem? he)).1
   obtain ⟨g, hg⟩ := filesHead hS (List.getElem?_eq_some_iff.1 hf).1
   have hfi := (List.getElem?_eq_some_iff.1 hf).1
   have hrn := poolRd hS hp.now
   obtain ⟨b, o, hab, q⟩ := hrn.fld he
   have kd := c1.trans (Chg.drew [] w1)
   have hsum : ((m.now.take (i + 1)).map (lenE m.files)).sum = ((m.now.take i).map (lenE m.files)).sum + f.data.length := by
     rw [List.take_add_one, he]
     simp only [Option.toList_some, List.map_append, List.sum_append, List.map_cons, List.map_nil, List.sum_cons, List.sum_nil, Nat.add_zero]
     rw [lenE, hfm]; rfl
   have hbd : ((m.now.take i).map (lenE m.files)).sum ≤ 4503599627370496 := by
     have h1 := sum_le_mul (B := 1099511627776) ((m.now.take i).map (lenE m.files)) fun x hx => by
       obtain ⟨e, _, rfl⟩ := List.mem_map.1 hx
       exact lenE_le hw e
     rw [List.length_map, List.length_take] at h1
     have h3 : min i m.now.length * 1099511627776 ≤ 4096 * 1099511627776 := Nat.mul_le_mul_right _ (by omega)
     omega
   refine ⟨fun w' => Chg [] w w', kd, _, _, _, fun w' hw' => RefIn.cell (hS.same hw') (i := 1) (fsA _) rfl, _, _, _, fun w' hw' => RefIn.cell (hS.same hw') (i := 2) (nsA _) rfl, b, o, hab, by omega, by omega, _, fun w' hw' => (q w' (hrn.keep0 hw')).2.1, g, 0, hg, by omega, by omega, _, _, _, fun w' hw' => (St.ldF hg hf (hS.same hw')).1, ⟨i + 1, wrap_succ hi' (by omega), by omega, ?_, kd⟩, mu_succ hi' (by omega)⟩
   rw [wrap_i64 (by omega) (by omega), hsum]; omega
 · have hi' : i = m.now.length := by simp at hge; omega
   rw [hi', List.take_of_length_le (Nat.le_refl _)]
   exact ⟨rfl, c1⟩

end

end Go.Proofs.YtmdandkoajocpaaGreatDoor
end

section
namespace Go.Proofs.YtmdandkoajocpaaGreatDoor
open Go Sx
set_option maxRecDepth 8000

theorem foundE_pos {m : DiskM} {n : Nm} {e : Int} (h : foundE m n = some e) : e ≠ 0 ∧ e ≠ 2 := by
 unfold foundE at h
 split at h
 · cases h; decide
 · split at h
   · cases h; decide
   · split at h
     · cases h; decide
     · cases h
theorem stepM_pos {m : DiskM} {e : Int} (h : (stepM m).2 = some e) : e ≠ 0 := by
 unfold stepM at h
 split at h
 · cases h; decide
 · split at h
   · cases h
   · cases h; decide
   · cases h

section
variable {w0 w w' : World} {X : List Nat} {N N' T : List Res} {gr : Nat} {m : DiskM}

theorem RefIn.addSt (h : RefIn w0 X w gr m N) (h' : St w [] w' T) : RefIn w0 X w' gr m (N ++ T) := by
 obtain ⟨p, hp, hS⟩ := h
 refine ⟨p, hp, ?_⟩
 have h1 := Sx.St.callPart (N := []) (by rw [List.append_nil]; exact hS) h'
 have e : resR gr m p ++ (p.FL.map FD.row ++ (p.P ++ N)) ++ T = resR gr m p ++ (p.FL.map FD.row ++ (p.P ++ (N ++ T))) := by simp [List.append_assoc]
 rw [← e]; exact h1
theorem RefIn.subN (h : RefIn w0 X w gr m N) (hn : N'.Sublist N) : RefIn w0 X w gr m N' := by
 obtain ⟨p, hp, hS⟩ := h
 exact ⟨p, hp, hS.sub (List.Sublist.append_left (List.Sublist.append_left (List.Sublist.append_left hn _) _) _)⟩

theorem ROk.updFile {p : RP} (hp : ROk m p) {i : Nat} {f' : FD} (hs : f'.syn ≤ f'.data.length ∧ f'.data.length ≤ 1099511627776) : ROk { m with files := setF m.files i fun _ => f'.m } { p with FL := p.FL.set i f' } := by
 refine ⟨hp.wf.files (setF_len _ _ _) (syn_setF hp.wf.syn hs), hp.live.same rfl rfl, ?_, hp.now, hp.syn, hp.arm, hp.fails, hp.flen⟩
 show (p.FL.set i f').map FD.m = setF m.files i fun _ => f'.m
 rw [List.map_set, hp.files]; rfl

theorem St.putSyn {p : RP} {g : Nat} (hg : p.Fa = some ⟨g, 0, none⟩) {i : Nat} {f : FD} (hf : p.FL[i]? = some f) (hS : St w0 X w (resR gr m p ++ (p.FL.map FD.row ++ T))) (n : Nat) :
   ∃ w', (Instr.storeAt 3 (.pointer (some ⟨g, 0 + Int.toNat (i : Int) * 2 + 1, none⟩)) (.int .i64 (n : Int))).run Tryz.prog w = .ok () w' ∧ St w0 X w' (resR gr { m with files := setF m.files i fun _ => (⟨f.a, f.c, f.data, n⟩ : FD).m } { p with FL := p.FL.set i ⟨f.a, f.c, f.data, n⟩ } ++ ((p.FL.set i ⟨f.a, f.c, f.data, n⟩).map FD.row ++ T)) := by
 have hil := (List.getElem?_eq_some_iff.1 hf).1
 have hi1 : (resR gr m p ++ (p.FL.map FD.row ++ T))[1]? = some (.row 150 2 (.slice (some ⟨g, 0, none⟩) p.FL.length p.Fc) p.FL.length (p.FL.flatMap FD.cells)) := by rw [← hg]; rfl
 obtain ⟨w1, r1, h1⟩ := hS.stRowK hi1 (T := 3) (intS _) (j := i * 2 + 1) (by omega) (v := .int .i64 (n : Int)) rfl
 refine ⟨w1, by rw [Int.toNat_natCast, Nat.zero_add]; exact r1, ?_⟩
 have e1 : (p.FL.flatMap FD.cells).set (i * 2 + 1) (.int .i64 (n : Int)) = (p.FL.set i ⟨f.a, f.c, f.data, n⟩).flatMap FD.cells := flatMap_set (fun z _ => FD.cells_len z) hf (by decide) rfl
 have e2 : (p.FL.set i ⟨f.a, f.c, f.data, n⟩).map FD.row = p.FL.map FD.row := by
   rw [List.map_set]
   have : (p.FL.map FD.row)[i]? = some (FD.row ⟨f.a, f.c, f.data, n⟩) := by rw [List.getElem?_map, hf]; rfl
   obtain ⟨h1, h2⟩ := List.getElem?_eq_some_iff.1 this
   rw [← h2, List.set_getElem_self]
 rw [e1] at h1
 rw [e2]
 have e3 : (p.FL.set i ⟨f.a, f.c, f.data, n⟩).length = p.FL.length := by simp
 unfold resR rdL
 simp only [e3, hg]
 unfold resR rdL at h1
 simp only [hg] at h1
 exact h1

theorem rsync_spec (n : Nm) (h : RefIn w0 X w gr m N) (hb : m.steps < 4611686018427387904) :
   Calls Tryz.prog 66 #[.pointer (some ⟨gr, 0, none⟩), strV n] w fun e w' => e = .returned (.int .i64 ((syncM m n).2.getD 0)) ∧ RefIn w0 X w' gr (syncM m n).1 N := by
 have hw := h.wf
 apply amphoraref01_Disk_Sync_vc
 refine (rfound_spec n h).mono ?_
 rintro e w1 ⟨rfl, rfl⟩
 refine ⟨_, _, rfl, fun hne => ?_, fun hok => ?_⟩
 · cases hf : foundE m n with
   | none => rw [hf] at hne; simp at hne
   | some e =>
     have : syncM m n = (m, some e) := by unfold syncM; rw [hf]
     rw [this]; exact ⟨rfl, h⟩
 have hfn : foundE m n = none := by
   cases hf : foundE m n with
   | none => rfl
   | some e => rw [hf] at hok; simp at hok; exact absurd hok (foundE_pos hf).1
 rw [if_pos hfn]
 obtain ⟨hil, _⟩ := foundI_lt hw hfn
 have hap : syncM m n = stepsM m fun m' => syncF m' (foundI m n) := by simp only [syncM, hfn]
 refine (rstep_spec h hb).mono ?_
 rintro e w2 ⟨rfl, h2⟩
 obtain ⟨e1, e2, e3, e4, _⟩ := stepM_same m
 refine ⟨_, rfl, fun w' => RefIn w0 X w' gr (syncM m n).1 N, ⟨fun hz => ?_, fun hz => ?_⟩, ?_⟩
 · have hst : (stepM m).2 = none := by
     cases hq : (stepM m).2 with
     | none => rfl
     | some e => rw [hq] at hz; simp at hz; exact absurd hz (stepM_pos hq)
   have hres : syncM m n = (syncF (stepM m).1 (foundI m n), none) := by rw [hap]; unfold stepsM; rw [hst]
   rw [hres]
   obtain ⟨m1, hm1⟩ : ∃ m1, (stepM m).1 = m1 := ⟨_, rfl⟩
   rw [hm1] at h2 e1 ⊢
   obtain ⟨j, hj⟩ : ∃ j, foundI m n = j := ⟨_, rfl⟩
   rw [hj] at hil ⊢
   obtain ⟨p, hp, hS⟩ := h2
   obtain ⟨f, hf, hfm, hfs, hfl⟩ := hp.file (i := j) (by rw [e1]; exact hil)
   have hfi := (List.getElem?_eq_some_iff.1 hf).1
   obtain ⟨g, hg⟩ := filesHead hS hfi
   have hSd := hS.drew
   obtain ⟨w3, r3, h3⟩ := St.putSyn hg hf hSd f.data.length
   have hok' := hp.updFile (i := j) (f' := ⟨f.a, f.c, f.data, f.data.length⟩) ⟨Nat.le_refl _, hfl⟩
   refine ⟨fun w' => Chg [] w2 w', Chg.drew _ _, _, _, _, fun w' hw' => RefIn.cell (hS.same hw') (i := 1) (fsA _) rfl, _, _, _, fun w' hw' => RefIn.cell (hS.same hw') (i := 1) (fsA _) rfl, g, 0, hg, by omega, by omega, _, _, _, fun w' hw' => (St.ldF hg hf (hS.same hw')).1, g, 0, hg, by omega, by omega, w3, r3, ?_⟩
   have hmm : syncF m1 j = { m1 with files := setF m1.files j fun _ => (⟨f.a, f.c, f.data, f.data.length⟩ : FD).m } := by
     unfold syncF setF
     rw [hfm]; rfl
   rw [hmm]
   exact ⟨_, hok', h3⟩
 · cases hq : (stepM m).2 with
   | none => rw [hq] at hz; simp at hz
   | some e =>
     have : syncM m n = ((stepM m).1, some e) := by rw [hap]; unfold stepsM; rw [hq]
     rw [this]; exact h2
 · rintro w4 h4
   refine ⟨?_, h4⟩
   rw [hap]
   unfold stepsM
   cases hq : (stepM m).2 <;> rfl

end

end Go.Proofs.YtmdandkoajocpaaGreatDoor
end

section
namespace Go.Proofs.YtmdandkoajocpaaGreatDoor
open Go Sx
set_option maxRecDepth 8000

section
variable {w0 w w' : World} {X : List Nat} {N N' T : List Res} {gr : Nat} {m : DiskM}

theorem St.putData {p : RP} {g : Nat} (hg : p.Fa = some ⟨g, 0, none⟩) {i : Nat} {f : FD} (hf : p.FL[i]? = some f) {va : Option Addr} {vc : Nat} {data : List UInt8}
   (hS : St w0 X w (resR gr m p ++ (p.FL.map FD.row ++ (T ++ [.row 5 1 (.slice va data.length vc) data.length (bv data)])))) :
   ∃ w', (Instr.storeAt 33 (.pointer (some ⟨g, 0 + Int.toNat (i : Int) * 2, none⟩)) (.slice va data.length vc)).run Tryz.prog w = .ok () w' ∧ St w0 X w' (resR gr { m with files := setF m.files i fun _ => (⟨va, vc, data, f.syn⟩ : FD).m } { p with FL := p.FL.set i ⟨va, vc, data, f.syn⟩ } ++ ((p.FL.set i ⟨va, vc, data, f.syn⟩).map FD.row ++ T)) := by
 have hil := (List.getElem?_eq_some_iff.1 hf).1
 have hi1 : (resR gr m p ++ (p.FL.map FD.row ++ (T ++ [.row 5 1 (.slice va data.length vc) data.length (bv data)])))[1]? = some (.row 150 2 (.slice (some ⟨g, 0, none⟩) p.FL.length p.Fc) p.FL.length (p.FL.flatMap FD.cells)) := by rw [← hg]; rfl
 obtain ⟨w1, r1, h1⟩ := hS.stRowK hi1 (T := 33) (bsS _) (j := i * 2 + 0) (by omega) (v := .slice va data.length vc) rfl
 refine ⟨w1, by rw [Int.toNat_natCast, Nat.zero_add]; exact r1, ?_⟩
 have e1 : (p.FL.flatMap FD.cells).set (i * 2 + 0) (.slice va data.length vc) = (p.FL.set i ⟨va, vc, data, f.syn⟩).flatMap FD.cells := flatMap_set (fun z _ => FD.cells_len z) hf (by decide) rfl
 rw [e1] at h1
 have e3 : (p.FL.set i ⟨va, vc, data, f.syn⟩).length = p.FL.length := by simp
 have h2 : St w0 X w1 (resR gr { m with files := setF m.files i fun _ => (⟨va, vc, data, f.syn⟩ : FD).m } { p with FL := p.FL.set i ⟨va, vc, data, f.syn⟩ } ++ (p.FL.map FD.row ++ (T ++ [.row 5 1 (.slice va data.length vc) data.length (bv data)]))) := by
   unfold resR rdL
   simp only [e3, hg]
   unfold resR rdL at h1
   simp only [hg] at h1
   exact h1
 have h3 := (h2.perm (perm_FD hf _ _)).tail
 have hq := perm_FD (FL := p.FL.set i ⟨va, vc, data, f.syn⟩) (i := i) (f := ⟨va, vc, data, f.syn⟩) (by rw [List.getElem?_set_self hil]) (resR gr { m with files := setF m.files i fun _ => (⟨va, vc, data, f.syn⟩ : FD).m } { p with FL := p.FL.set i ⟨va, vc, data, f.syn⟩ }) T
 rw [eraseIdx_setD] at hq
 refine (h3.perm ?_).perm hq.symm
 rw [← List.append_assoc, ← List.append_assoc]
 refine List.Perm.trans (List.Perm.of_eq ?_) (List.perm_append_comm (l₁ := resR gr { m with files := setF m.files i fun _ => (⟨va, vc, data, f.syn⟩ : FD).m } { p with FL := p.FL.set i ⟨va, vc, data, f.syn⟩ } ++ ((p.FL.eraseIdx i).map FD.row ++ T)) (l₂ := [.row 5 1 (.slice va data.length vc) data.length (bv data)]))
 simp [List.append_assoc]

set_option maxHeartbeats 1000000 in
theorem rappend_spec (n : Nm) (a : Option Addr) (k c : Nat) (vs : List Value) (qs : List (List UInt8)) (h : RefIn w0 X w gr m N) (hr : Rd w a k c 1 vs) (h2 : Row2 w vs qs) (hb : m.steps < 4611686018427387904) (hk : k ≤ 1000000000) :
   Calls Tryz.prog 65 #[.pointer (some ⟨gr, 0, none⟩), strV n, .slice a k c] w fun e w' => e = .returned (.int .i64 ((appendM m n qs).2.getD 0)) ∧ RefIn w0 X w' gr (appendM m n qs).1 N := by
 have hw := h.wf
 have hqk : qs.length = k := by
   have := hr.len
   have := h2.len
   omega
 apply amphoraref01_Disk_Append_vc
 refine (rfound_spec n h).mono ?_
 rintro e w1 ⟨rfl, rfl⟩
 refine ⟨_, _, rfl, fun hne => ?_, fun hok => ?_⟩
 · cases hf : foundE m n with
   | none => rw [hf] at hne; simp at hne
   | some e =>
     have : appendM m n qs = (m, some e) := by unfold appendM; rw [hf]
     rw [this]; exact ⟨rfl, h⟩
 have hfn : foundE m n = none := by
   cases hf : foundE m n with
   | none => rfl
   | some e => rw [hf] at hok; simp at hok; exact absurd hok (foundE_pos hf).1
 rw [if_pos hfn]
 obtain ⟨hil, e0, he0, hen, hef, _⟩ := foundI_lt hw hfn
 have hap : appendM m n qs = if fits (m.size - usedM m) qs then stepsM m fun m' => appendF m' (foundI m n) qs else (m, some 3) := by simp only [appendM, hfn]
 have hsz := hw.size
 have hus := usedM_le hw
 obtain ⟨j, hj⟩ : ∃ j, foundI m n = j := ⟨_, rfl⟩
 rw [hj] at hil hef hap ⊢
 obtain ⟨p, hp, hS⟩ := h
 obtain ⟨f, hf, hfm, hfs, hfl⟩ := hp.file hil
 obtain ⟨g, hg⟩ := filesHead hS (List.getElem?_eq_some_iff.1 hf).1
 have hdu : f.data.length ≤ usedM m := by
   refine le_sum_of_mem _ _ (List.mem_map.2 ⟨e0, he0, ?_⟩)
   rw [hef, hfm]; rfl
 obtain ⟨g2, w2, r2, k2⟩ := (St.start w1).lit bT [] (by simp) (by simp)
 have hS2 := hS.same k2.chg
 obtain ⟨l1, _, l3⟩ := St.ldF hg hf hS2
 obtain ⟨va, vc, w3, r3, k3⟩ := k2.appendB (i := 0) (xs := []) rfl l3 (by simp; omega)
 simp only [List.length_nil, Nat.zero_add, List.nil_append] at r3 k3
 have k3 : St w1 [] w3 [.row 5 1 (.slice va f.data.length vc) f.data.length (bv f.data)] := k3
 have hR3 : RefIn w0 X w3 gr m N := RefIn.same ⟨p, hp, hS⟩ k3.chg
 have k3d := k3.drew
 have wr : IntKind.wrap .i64 (m.size - (usedM m : Int)) = m.size - (usedM m : Int) := wrap_i64 (by omega) (by omega)
 refine ⟨_, _, _, w2, r2, _, _, _, RefIn.cell hS2 (i := 1) (fsA _) rfl, g, 0, hg, by omega, by have := (List.getElem?_eq_some_iff.1 hf).1; omega, _, _, _, l1, _, _, _, w3, r3, fun w' => Chg [] w1 w', k3d.chg, _, fun w' hw' => RefIn.cell (hS.same hw') (i := 0) (intA _) rfl, (rused_spec (hR3.same (Chg.drew _ _))).mono ?_⟩
 rintro e w4 ⟨rfl, c4⟩
 have k4 := k3d.same c4
 refine ⟨_, rfl, fun w' => Chg [] w1 w', fun _ h => h, k4.chg, ?_⟩
 rw [wr]
 refine ⟨fun xa xn xc x y w' => ∃ i : Nat, y = (i : Int) ∧ i ≤ k ∧ xn = (f.data ++ (qs.take i).flatten).length ∧ x = m.size - (usedM m : Int) - ((qs.take i).flatten.length : Int) ∧ (i = 0 ∨ 0 ≤ x) ∧ fits (m.size - usedM m) qs = fits x (qs.drop i) ∧ St w1 [] w' [.row 5 1 (.slice xa xn xc) xn (bv (f.data ++ (qs.take i).flatten))], fun _ _ _ _ y _ => k - y.toNat, ⟨0, rfl, by omega, by simp, by simp, .inl rfl, by simp, by simpa using k4⟩, ?_⟩
 rintro xa xn xc x y w5 ⟨i, rfl, hi, rfl, rfl, hpos, hfit, k5⟩
 have hS5 := hS.same k5.chg
 have hfl0 : (qs.take i).flatten.length ≤ 67108864 := by
   rcases hpos with rfl | h
   · simp
   · omega
 refine ⟨fun hlt => ?_, fun hge => ?_⟩
 · have hi' : i < k := by simp at hlt; omega
   obtain ⟨b, o, a', n', c', ha, hv, hrd, q⟩ := ixS hr.cells h2 (i := i) (by omega)
   have hln := hrd.lenB
   have hdr : qs.drop i = qs.getD i [] :: qs.drop (i + 1) := by rw [List.drop_eq_getElem_cons (by omega)]; simp [List.getD, show i < qs.length by omega]
   rw [hdr, fits, hln] at hfit
   have htk := flat_take (ls := qs) (i := i) (by omega)
   refine ⟨b, o, ha, by omega, by omega, _, _, _, q w5 (hr.keep0 k5.chg).cells, fun hgt => ?_, fun hle => ?_⟩
   · have : ¬ ((n' : Int) ≤ m.size - (usedM m : Int) - ((qs.take i).flatten.length : Int)) := by simp only [decide_eq_true_eq] at hgt; omega
     rw [hap, hfit]
     simp only [this, decide_false, Bool.false_and, Bool.false_eq_true, if_false]
     exact ⟨rfl, p, hp, hS5⟩
   · have hle : (n' : Int) ≤ m.size - (usedM m : Int) - ((qs.take i).flatten.length : Int) := by simp only [decide_eq_false_iff_not] at hle; omega
     rw [decide_eq_true hle, Bool.true_and] at hfit
     obtain ⟨ua, uc, w6, r6, k6⟩ := k5.appendB (i := 0) (xs := f.data ++ (qs.take i).flatten) rfl (hrd.keep0 k5.chg) (by simp only [List.length_append]; omega)
     have e2 : f.data ++ (qs.take (i + 1)).flatten = f.data ++ (qs.take i).flatten ++ qs.getD i [] := by rw [htk, List.append_assoc]
     have e3 : (f.data ++ (qs.take (i + 1)).flatten).length = (f.data ++ (qs.take i).flatten).length + n' := by rw [e2, List.length_append, hln]
     have e4 : ((qs.take (i + 1)).flatten.length : Int) = ((qs.take i).flatten.length : Int) + (n' : Int) := by rw [htk, List.length_append, hln]; omega
     have wx : IntKind.wrap .i64 (m.size - (usedM m : Int) - ((qs.take i).flatten.length : Int) - (n' : Int)) = m.size - (usedM m : Int) - ((qs.take i).flatten.length : Int) - (n' : Int) := wrap_i64 (by omega) (by omega)
     refine ⟨b, o, ha, by omega, by omega, _, _, _, q w5 (hr.keep0 k5.chg).cells, b, o, ha, by omega, by omega, _, _, _, q w5 (hr.keep0 k5.chg).cells, ua, _, uc, w6, r6, ?_⟩
     rw [wx]
     refine ⟨⟨i + 1, wrap_succ hi' (by omega), by omega, by rw [e3], by rw [e4]; omega, .inr (by omega), hfit, ?_⟩, mu_succ hi' (by omega)⟩
     rw [e2]
     exact k6
 · have hi' : i = k := by simp at hge; omega
   subst hi'
   have hft : fits (m.size - usedM m) qs = true := by rw [hfit, List.drop_of_length_le (by omega)]; rfl
   have hall : qs.take i = qs := List.take_of_length_le (by omega)
   rw [hall] at k5 hfl0
   rw [hft, if_pos rfl] at hap
   have hRef : RefIn w0 X w5 gr m (N ++ [.row 5 1 (.slice xa (f.data ++ qs.flatten).length xc) (f.data ++ qs.flatten).length (bv (f.data ++ qs.flatten))]) := RefIn.addSt ⟨p, hp, hS⟩ k5
   have hdl : (f.data ++ qs.flatten).length ≤ 1099511627776 := by
     rcases fits_le qs _ hft with rfl | hle
     · simpa using hfl
     · rw [List.length_append]; omega
   clear hS2 l1 l3
   refine (rstep_spec hRef hb).mono ?_
   rintro e w7 ⟨rfl, h7⟩
   obtain ⟨e1, _, e3, e4, _⟩ := stepM_same m
   refine ⟨_, rfl, fun w' => RefIn w0 X w' gr (appendM m n qs).1 N, ⟨fun hz => ?_, fun hz => ?_⟩, ?_⟩
   · have hst : (stepM m).2 = none := by
       cases hq : (stepM m).2 with
       | none => rfl
       | some e => rw [hq] at hz; simp at hz; exact absurd hz (stepM_pos hq)
     have hres : appendM m n qs = (appendF (stepM m).1 j qs, none) := by rw [hap]; unfold stepsM; rw [hst]
     rw [hres]
     obtain ⟨m1, hm1⟩ : ∃ m1, (stepM m).1 = m1 := ⟨_, rfl⟩
     rw [hm1] at h7 e1 ⊢
     obtain ⟨q, hq, hSq⟩ := h7
     obtain ⟨f1, hf1, hfm1, hfs1, _⟩ := hq.file (i := j) (by rw [e1]; exact hil)
     have hsame : f1.data = f.data ∧ f1.syn = f.syn := by
       rw [e1, hfm] at hfm1
       exact ⟨(congrArg FileM.data hfm1).symm, (congrArg FileM.syn hfm1).symm⟩
     obtain ⟨g1, hg1⟩ := filesHead hSq (List.getElem?_eq_some_iff.1 hf1).1
     have hSq' : St w0 X w7 (resR gr m1 q ++ (q.FL.map FD.row ++ ((q.P ++ N) ++ [.row 5 1 (.slice xa (f.data ++ qs.flatten).length xc) (f.data ++ qs.flatten).length (bv (f.data ++ qs.flatten))]))) := by rw [List.append_assoc]; exact hSq
     obtain ⟨w8, r8, h8⟩ := St.putData hg1 hf1 hSq'
     have hok' := hq.updFile (i := j) (f' := ⟨xa, xc, f.data ++ qs.flatten, f1.syn⟩) ⟨by show f1.syn ≤ (f.data ++ qs.flatten).length; rw [List.length_append, ← hsame.1]; omega, hdl⟩
     have e9 : (f.data ++ (qs.take i).flatten).length = (f.data ++ qs.flatten).length := by rw [hall]
     refine ⟨_, _, _, RefIn.cell hSq (i := 1) (fsA _) rfl, g1, 0, hg1, by omega, by have := (List.getElem?_eq_some_iff.1 hf1).1; omega, w8, by rw [e9]; exact r8, ?_⟩
     have hmm : appendF m1 j qs = { m1 with files := setF m1.files j fun _ => (⟨xa, xc, f.data ++ qs.flatten, f1.syn⟩ : FD).m } := by
       unfold appendF setF
       have : (⟨(fileAt m1.files j).data ++ qs.flatten, (fileAt m1.files j).syn⟩ : FileM) = (⟨xa, xc, f.data ++ qs.flatten, f1.syn⟩ : FD).m := by
         rw [hfm1]
         show (⟨f1.data ++ qs.flatten, f1.syn⟩ : FileM) = ⟨f.data ++ qs.flatten, f1.syn⟩
         rw [hsame.1]
       simp only [this]
     rw [hmm]
     exact ⟨_, hok', h8⟩
   · cases hq : (stepM m).2 with
     | none => rw [hq] at hz; simp at hz
     | some e =>
       have : appendM m n qs = ((stepM m).1, some e) := by rw [hap]; unfold stepsM; rw [hq]
       rw [this]; exact h7.subN (List.sublist_append_left _ _)
   · rintro w9 h9
     refine ⟨?_, h9⟩
     rw [hap]
     unfold stepsM
     cases hq : (stepM m).2 <;> rfl

end

end Go.Proofs.YtmdandkoajocpaaGreatDoor
end

section
namespace Go.Proofs.YtmdandkoajocpaaGreatDoor
open Go Sx
set_option maxRecDepth 8000

theorem last2 {α : Type} (B : List α) (x y : α) : ((B ++ [x]) ++ [y]).Perm ((B ++ [y]) ++ [x]) := by
 rw [List.append_assoc, List.append_assoc]
 exact List.Perm.append_left B (.swap _ _ _)

theorem cT : ElemT Tryz.prog 84 153 3 40 (.agg #[.int .i64 0, .string ByteArray.empty, .string ByteArray.empty]) := ⟨by kernel_rfl, ⟨Tryz.t153, by kernel_rfl, by kernel_rfl, by kernel_rfl, by kernel_rfl⟩, rfl, by decide⟩
theorem cZ (w : World) : (zeroValue 153).run Tryz.prog w = .ok (.agg [Value.int .i64 0, strV [], strV []].toArray) w := Tryz.zeroValue153 w
theorem cSz (w : World) : (sizeOf 153).run Tryz.prog w = .ok 3 w := Tryz.sizeOf153 w
theorem cAg (w : World) : (isAgg 153).run Tryz.prog w = .ok true w := Tryz.isAgg153 w
theorem built_c : Tryz.prog.built 153 = fun parts => Instr.fill (fun i => (#[(0, 1), (1, 1), (2, 1)] : Array (Nat × Nat))[i]?) #[.int .i64 0, .string ⟨#[]⟩, .string ⟨#[]⟩] parts := by kernel_rfl
theorem c_build02 (n : Int) (b : Nm) (w : World) : (Instr.build 153 #[(0, .int .i64 n), (2, strV b)]).run Tryz.prog w = .ok (.agg #[.int .i64 n, strV [], strV b]) w := by
 apply run_build
 rw [built_c]
 show Instr.fill _ _ [(0, _), (2, strV b)] = _
 rw [fill_step (off := 0) (sz := 1) rfl rfl (by simp), fill_step (off := 2) (sz := 1) rfl rfl (by simp [Value.cells, strV])]
 rfl

section
variable {w0 w w' : World} {X : List Nat} {N N' T : List Res} {gr : Nat} {m : DiskM}

theorem poolAdd {R F P : List Res} {r : Res} (h : St w0 X w ((R ++ (F ++ (P ++ N))) ++ [r])) : St w0 X w (R ++ (F ++ ((P ++ [r]) ++ N))) := by
 refine h.perm ?_
 have e : (R ++ (F ++ (P ++ N))) ++ [r] = R ++ (F ++ (P ++ (N ++ [r]))) := by simp [List.append_assoc]
 rw [e, List.append_assoc]
 exact List.Perm.append_left _ (List.Perm.append_left _ (List.Perm.append_left _ List.perm_append_comm))

set_option maxHeartbeats 1000000 in
/-- The directory changes, and the change is noted. -/
theorem noteR {p : RP} (hp : ROk m p) (c : ChM) (hlive : c.made = none → (findD m.now c.fr).isSome = true) (hmade : ∀ i, c.made = some i → i < m.files.length) (hokd : OkDir m.files.length (mkD m.now c)) {g : Nat} (hS : St w0 X w ((resR gr m p ++ (p.FL.map FD.row ++ (p.P ++ N))) ++ [.arr g 153 (chR c)])) (hc : m.chs.length < 1000000000) {R' : World → Prop} (hend : ∀ w12, RefIn w0 X w12 gr (doCh m c) N → R' w12) :
   ∃ S : World → Prop, S w.drew ∧
     (∃ (t42a : Option Addr) (t42n : Nat) (t42c : Nat), (∀ w' : World, S w' → (Instr.loadAt 83 (.pointer (some ⟨gr, 0 + 2, none⟩))).run Tryz.prog w' = .ok (.slice t42a t42n t42c) w') ∧
       (∃ (t43 : Array Value), (∀ w' : World, S w' → (Instr.loadAt 153 (.pointer (some ⟨g, 0, none⟩))).run Tryz.prog w' = .ok (.agg t43) w') ∧
         (Calls Tryz.prog 67 #[(.slice t42a t42n t42c), (.agg t43)] w.drew fun (e44 : Ending) (w8 : World) => ∃ (t44a : Option Addr) (t44n : Nat) (t44c : Nat), e44 = .returned (.slice t44a t44n t44c) ∧
           (∃ S_1 : World → Prop, (∀ w' : World, S_1 w' → S w') ∧ S_1 w8 ∧
             (∃ w9 : World, (Instr.storeAt 83 (.pointer (some ⟨gr, 0 + 2, none⟩)) (.slice t44a t44n t44c)).run Tryz.prog w8 = .ok () w9 ∧
               (∃ S_2 : World → Prop, S_2 w9.drew ∧
                 (∃ (t51a : Option Addr) (t51n : Nat) (t51c : Nat), (∀ w' : World, S_2 w' → (Instr.loadAt 84 (.pointer (some ⟨gr, 0 + 4, none⟩))).run Tryz.prog w' = .ok (.slice t51a t51n t51c) w') ∧
                   (∃ (t52 : Array Value), (∀ w' : World, S_2 w' → (Instr.loadAt 153 (.pointer (some ⟨g, 0, none⟩))).run Tryz.prog w' = .ok (.agg t52) w') ∧
                     (∃ (t53a : Option Addr) (t53n : Nat) (t53c : Nat) (w10 : World), (Instr.buildSlice 84 1 #[(0, (.agg t52))]).run Tryz.prog w9.drew = .ok (.slice t53a t53n t53c) w10 ∧
                       (∃ S_3 : World → Prop, (∀ w' : World, S_3 w' → S_2 w') ∧ S_3 w10 ∧
                         (∃ (t54a : Option Addr) (t54n : Nat) (t54c : Nat) (w11 : World), (Builtin.append_ #[84, 84] 84 #[(.slice t51a t51n t51c), (.slice t53a t53n t53c)]).run Tryz.prog w10 = .ok (.slice t54a t54n t54c) w11 ∧
                           (∃ S_4 : World → Prop, (∀ w' : World, S_4 w' → S_3 w') ∧ S_4 w11 ∧
                             (∃ w12 : World, (Instr.storeAt 84 (.pointer (some ⟨gr, 0 + 4, none⟩)) (.slice t54a t54n t54c)).run Tryz.prog w11 = .ok () w12 ∧
                               (R' w12)))))))))))))) := by
 have hw := hp.wf
 have hnl := hw.okNow.len
 have hSb := St.pop hS
 have hrn : RdN w.drew p.na m.now.length p.nc m.now := (poolRd hSb hp.now).keep0 (Chg.drew _ _)
 refine ⟨fun w' => Chg [] w w', Chg.drew _ _, _, _, _, fun w' hw' => RefIn.cell (hSb.same hw') (i := 2) (nsA _) rfl, (chR c).toArray, fun w' hw' => (hS.same hw').ldA (l := chR c) getLast' (cAg _) (cSz _) (chR_len _), (made_spec _ _ _ m.now c w.drew hrn hw.okNow.asc (fun h _ => hlive h) (by omega)).mono ?_⟩
 rintro e w8 ⟨a8, c8, rfl, k8⟩
 have c8' : Chg [] w w8 := (Chg.drew [] w).trans k8.chg
 have h8 : St w0 X w8 (((resR gr m p ++ (p.FL.map FD.row ++ (p.P ++ N))) ++ [.arr g 153 (chR c)]) ++ [rowN a8 c8 (mkD m.now c)]) := Sx.St.callPart (N := []) (by rw [List.append_nil]; exact hS.drew) k8
 obtain ⟨w9, r9, h9⟩ := h8.stL (i := 0) (o := 2) (off := 0 + 2) (T := 83) (v := .slice a8 (mkD m.now c).length c8) rfl (nsS _) rfl (by simp [rdL]) rfl
 have h9a : St w0 X w9 (((resR gr { m with now := mkD m.now c } { p with na := a8, nc := c8 } ++ (p.FL.map FD.row ++ (p.P ++ N))) ++ [.arr g 153 (chR c)]) ++ [rowN a8 c8 (mkD m.now c)]) := h9
 have h9b : St w0 X w9 (((resR gr { m with now := mkD m.now c } { p with na := a8, nc := c8 } ++ (p.FL.map FD.row ++ (p.P ++ N))) ++ [rowN a8 c8 (mkD m.now c)]) ++ [.arr g 153 (chR c)]) := by
   exact h9a.perm (last2 _ _ _)
 have h9d := h9b.drew
 obtain ⟨g10, w10, vb, vd, w11, r10, r11, h11, h10⟩ := h9d.pushA (i := 2) (ty := 84) cT rfl (chR c) (chR_len _) (by decide) (chR_one _) (by show (m.chs.length + 1) * 40 ≤ _; omega) (by show m.chs.length + 1 ≤ _; simp only [maxLen]; omega)
 have r11 : (Builtin.append_ #[84, 84] 84 #[.slice p.ca m.chs.length p.cc, .slice (some ⟨g10, 0, none⟩) 1 1]).run Tryz.prog w10 = .ok (.slice vb (m.chs.length + 1) vd) w11 := r11
 obtain ⟨w12, r12, h12⟩ := h11.stL (i := 0) (o := 4) (off := 0 + 4) (T := 84) (v := .slice vb (m.chs.length + 1) vd) rfl (csS _) rfl (by simp [rdL]) rfl
 have hlt2 : 2 < ((resR gr { m with now := mkD m.now c } { p with na := a8, nc := c8 } ++ (p.FL.map FD.row ++ (p.P ++ N))) ++ [rowN a8 c8 (mkD m.now c)]).length := by simp only [resR, List.length_append, List.length_cons]; omega
 have h11' := h11
 rw [List.set_append_left _ _ hlt2] at h11'
 refine ⟨a8, _, c8, rfl, fun w' => Chg [] w w', fun _ h => h, c8', w9, r9, fun w' => ∃ Y, St w0 X w' ((.arr gr 86 (rdL { m with now := mkD m.now c } { p with na := a8, nc := c8 }) :: Y) ++ [.arr g 153 (chR c)]), ⟨_, h9d⟩, p.ca, m.chs.length, p.cc, fun w' ⟨Y, hY⟩ => hY.ldL (i := 0) (o := 4) rfl (csA _) rfl rfl, (chR c).toArray, fun w' ⟨Y, hY⟩ => hY.ldA (l := chR c) getLast' (cAg _) (cSz _) (chR_len _), _, _, _, w10, r10, fun w' => ∃ Y, St w0 X w' ((.arr gr 86 (rdL { m with now := mkD m.now c } { p with na := a8, nc := c8 }) :: Y) ++ [.arr g 153 (chR c)]), fun _ h => h, ⟨_, h10⟩, vb, _, vd, w11, r11, fun w' => ∃ Y, St w0 X w' ((.arr gr 86 (rdL { m with now := mkD m.now c } { p with na := a8, nc := c8 }) :: Y) ++ [.arr g 153 (chR c)]), fun _ h => h, ⟨_, h11'⟩, w12, r12, hend w12 ?_⟩
 have el : (m.chs ++ [c]).length = m.chs.length + 1 := by simp
 have ef : (m.chs ++ [c]).flatMap chR = m.chs.flatMap chR ++ chR c := by simp
 refine ⟨{ p with na := a8, nc := c8, ca := vb, cc := vd, P := p.P ++ [rowN a8 c8 (mkD m.now c)] }, ⟨hw.snoc (Nat.le_refl _) hw.syn hmade hokd, hp.live.note hw hlive, hp.files, by simp [doCh], List.mem_append_left _ hp.syn, hp.arm, hp.fails, hp.flen⟩, poolAdd ?_⟩
 have h13 : St w0 X w12 (((resR gr (doCh m c) { p with na := a8, nc := c8, ca := vb, cc := vd } ++ (p.FL.map FD.row ++ (p.P ++ N))) ++ [rowN a8 c8 (mkD m.now c)]) ++ [.arr g 153 (chR c)]) := by
   unfold resR rdL doCh
   show St w0 X w12 (((.arr gr 86 [_, _, _, _, .slice vb (m.chs ++ [c]).length vd, _, _, _, _] :: .row _ _ _ _ _ :: .row _ _ (.slice vb (m.chs ++ [c]).length vd) (m.chs ++ [c]).length ((m.chs ++ [c]).flatMap chR) :: .row _ _ _ _ _ :: _) ++ _) ++ _)
   simp only [el, ef]
   exact h12
 exact St.pop h13

end

end Go.Proofs.YtmdandkoajocpaaGreatDoor
end

section
namespace Go.Proofs.YtmdandkoajocpaaGreatDoor
open Go Sx
set_option maxRecDepth 8000

theorem fT : ElemT Tryz.prog 82 150 2 32 (.agg #[.slice none 0 0, .int .i64 0]) := ⟨by kernel_rfl, ⟨Tryz.t150, by kernel_rfl, by kernel_rfl, by kernel_rfl, by kernel_rfl⟩, rfl, by decide⟩
theorem built_f : Tryz.prog.built 150 = fun parts => Instr.fill (fun i => (#[(0, 1), (1, 1)] : Array (Nat × Nat))[i]?) #[.slice none 0 0, .int .i64 0] parts := by kernel_rfl
theorem f_build (w : World) : (Instr.build 150 #[]).run Tryz.prog w = .ok (.agg #[.slice none 0 0, .int .i64 0]) w := by
 apply run_build
 rw [built_f]
 rfl
section
variable {w0 w w' : World} {X : List Nat} {N N' T : List Res} {gr : Nat} {m : DiskM}

end

end Go.Proofs.YtmdandkoajocpaaGreatDoor
end

section
namespace Go.Proofs.YtmdandkoajocpaaGreatDoor
open Go Sx
set_option maxRecDepth 8000

section
variable {w0 w w' : World} {X : List Nat} {N N' T : List Res} {gr : Nat} {m : DiskM}

theorem ROk.addFile {p : RP} (hp : ROk m p) (f : FD) (hf : f.syn ≤ f.data.length ∧ f.data.length ≤ 1099511627776) {va : Option Addr} {vc : Nat} : ROk { m with files := m.files ++ [f.m] } { p with Fa := va, Fc := vc, FL := p.FL ++ [f] } :=
 ⟨hp.wf.addFile hf, hp.live.same rfl rfl, by simp [hp.files], hp.now, hp.syn, hp.arm, hp.fails, hp.flen⟩

theorem St.newFile {p : RP} {f : FD} (hS : St w0 X w ((resR gr m p ++ (p.FL.map FD.row ++ (p.P ++ N))) ++ [f.row])) (hl : p.FL.length < 1000000000) :
   ∃ g2 w2 va vc w3 w4, (Instr.buildSlice 82 1 #[(0, .agg f.cells.toArray)]).run Tryz.prog w = .ok (.slice (some ⟨g2, 0, none⟩) 1 1) w2 ∧ (Builtin.append_ #[82, 82] 82 #[.slice p.Fa p.FL.length p.Fc, .slice (some ⟨g2, 0, none⟩) 1 1]).run Tryz.prog w2 = .ok (.slice va (p.FL.length + 1) vc) w3 ∧
     St w0 X w2 ((resR gr m p ++ (p.FL.map FD.row ++ (p.P ++ N))) ++ [f.row]) ∧ (∃ Y, St w0 X w3 (.arr gr 86 (rdL m p) :: Y)) ∧ (Instr.storeAt 82 (.pointer (some ⟨gr, 1, none⟩)) (.slice va (p.FL.length + 1) vc)).run Tryz.prog w3 = .ok () w4 ∧
     St w0 X w4 (resR gr { m with files := m.files ++ [f.m] } { p with Fa := va, Fc := vc, FL := p.FL ++ [f] } ++ ((p.FL ++ [f]).map FD.row ++ (p.P ++ N))) := by
 obtain ⟨g2, w2, va, vc, w3, r2, r3, h3, h2⟩ := hS.pushA (i := 1) (ty := 82) fT rfl f.cells (FD.cells_len _) (by decide) (FD.cells_one _) (by omega) (by simp only [maxLen]; omega)
 obtain ⟨w4, r4, h4⟩ := h3.stL (i := 0) (o := 1) (off := 1) (T := 82) (v := .slice va (p.FL.length + 1) vc) rfl (fsS _) rfl (by simp [rdL]) rfl
 refine ⟨g2, w2, va, vc, w3, w4, r2, r3, h2, ⟨_, h3⟩, r4, ?_⟩
 have e1 : (p.FL ++ [f]).length = p.FL.length + 1 := by simp
 have e2 : (p.FL ++ [f]).flatMap FD.cells = p.FL.flatMap FD.cells ++ f.cells := by simp
 have h5 : St w0 X w4 ((resR gr { m with files := m.files ++ [f.m] } { p with Fa := va, Fc := vc, FL := p.FL ++ [f] } ++ (p.FL.map FD.row ++ (p.P ++ N))) ++ [f.row]) := by
   unfold resR rdL
   simp only [e1, e2]
   exact h4
 refine h5.perm ?_
 have e3 : (p.FL ++ [f]).map FD.row = p.FL.map FD.row ++ [f.row] := by simp
 rw [e3, List.append_assoc, List.append_assoc (p.FL.map FD.row), List.append_assoc (p.FL.map FD.row)]
 exact List.Perm.append_left _ (List.Perm.append_left _ List.perm_append_comm)

set_option maxHeartbeats 1000000 in
theorem rcreate_spec (n : Nm) (h : RefIn w0 X w gr m N) (hb : m.steps < 4611686018427387904) (hc : m.chs.length < 1000000000) (hfl : m.files.length < 1000000000) :
   Calls Tryz.prog 64 #[.pointer (some ⟨gr, 0, none⟩), strV n] w fun e w' => e = .returned (.int .i64 ((createM m n).2.getD 0)) ∧ RefIn w0 X w' gr (createM m n).1 N := by
 have hw := h.wf
 apply amphoraref01_Disk_Create_vc
 refine (rfound_spec n h).mono ?_
 rintro e w1 ⟨rfl, rfl⟩
 refine ⟨_, _, rfl, fun h0 => ?_, fun h0 => ⟨fun h5 => ?_, fun h5 => ?_⟩⟩
 · have hfn : foundE m n = none := by
     cases hf : foundE m n with
     | none => rfl
     | some e => rw [hf] at h0; simp at h0; exact absurd h0 (foundE_pos hf).1
   obtain ⟨_, e0, _, _, _, hfd⟩ := foundI_lt hw hfn
   have hrd : readyM m [n] = none := by
     unfold foundE at hfn
     unfold readyM
     by_cases hd : m.down = true
     · rw [if_pos hd] at hfn; cases hfn
     · rw [if_neg hd] at hfn ⊢
       by_cases hg : goodN n = true
       · simp [hg]
       · rw [if_pos (by simpa using hg)] at hfn; cases hfn
   have : createM m n = (m, some 4) := by unfold createM; rw [hrd]; simp only [hfd, Option.isSome_some, if_true]
   rw [this]; exact ⟨rfl, h⟩
 · obtain ⟨e, hf⟩ : ∃ e, foundE m n = some e := by
     cases hf : foundE m n with
     | none => rw [hf] at h0; simp at h0
     | some e => exact ⟨e, rfl⟩
   rw [hf] at h5 ⊢
   have he5 : e ≠ 5 := by simpa using h5
   have hrd : readyM m [n] = some e := by
     unfold foundE at hf
     unfold readyM
     by_cases hd : m.down = true
     · rw [if_pos hd] at hf ⊢; exact hf
     · rw [if_neg hd] at hf ⊢
       by_cases hg : goodN n = true
       · rw [if_neg (by simp [hg])] at hf
         split at hf
         · cases hf; exact absurd rfl he5
         · cases hf
       · rw [if_pos (by simpa using hg)] at hf
         have hg' : goodN n = false := by simpa using hg
         simp only [List.all_cons, List.all_nil, hg', Bool.false_and, Bool.false_eq_true, if_false]
         exact hf
   have : createM m n = (m, some e) := by unfold createM; rw [hrd]
   rw [this]; exact ⟨rfl, h⟩
 have hf5 : foundE m n = some 5 := by
   cases hf : foundE m n with
   | none => rw [hf] at h0; simp at h0
   | some e =>
     rw [hf] at h5
     have : e = 5 := by simpa using h5
     rw [this]
 have hall : readyM m [n] = none ∧ findD m.now n = none ∧ goodN n = true := by
   unfold foundE at hf5
   unfold readyM
   by_cases hd : m.down = true
   · rw [if_pos hd] at hf5; cases hf5
   · rw [if_neg hd] at hf5 ⊢
     by_cases hg : goodN n = true
     · rw [if_neg (by simp [hg])] at hf5
       split at hf5
       · rename_i hq
         exact ⟨by simp [hg], by simpa using hq, hg⟩
       · cases hf5
     · rw [if_pos (by simpa using hg)] at hf5; cases hf5
 obtain ⟨hrd, hfd, hgood⟩ := hall
 have hcr : createM m n = if 4096 ≤ m.now.length then (m, some 19) else stepsM m fun m => createF m n := by unfold createM; rw [hrd]; simp [hfd]
 have hcell : (Instr.loadAt 83 (.pointer (some ⟨gr, 0 + 2, none⟩))).run Tryz.prog w1 = .ok (.slice (Classical.choose h).na m.now.length (Classical.choose h).nc) w1 := by
   obtain ⟨hp, hS⟩ := Classical.choose_spec h
   exact RefIn.cell hS (i := 2) (nsA _) rfl
 refine ⟨_, _, _, hcell, fun hge => ?_, fun hlt => (rstep_spec h hb).mono ?_⟩
 · have : 4096 ≤ m.now.length := by simp at hge; omega
   rw [hcr, if_pos this]
   exact ⟨rfl, h⟩
 have hlen : ¬ 4096 ≤ m.now.length := by simp at hlt; omega
 rw [if_neg hlen] at hcr
 rintro e w2 ⟨rfl, h2⟩
 obtain ⟨e1, e2, e3, e4, _⟩ := stepM_same m
 refine ⟨_, rfl, fun hne => ?_, fun hok => ?_⟩
 · obtain ⟨e, hq⟩ : ∃ e, (stepM m).2 = some e := by
     cases hq : (stepM m).2 with
     | none => rw [hq] at hne; simp at hne
     | some e => exact ⟨e, rfl⟩
   have : createM m n = ((stepM m).1, some e) := by rw [hcr]; unfold stepsM; rw [hq]
   rw [this, hq]; exact ⟨rfl, h2⟩
 have hst : (stepM m).2 = none := by
   cases hq : (stepM m).2 with
   | none => rfl
   | some e => rw [hq] at hok; simp at hok; exact absurd hok (stepM_pos hq)
 have hres : createM m n = (createF (stepM m).1 n, none) := by rw [hcr]; unfold stepsM; rw [hst]
 rw [hres]
 obtain ⟨m1, hm1⟩ : ∃ m1, (stepM m).1 = m1 := ⟨_, rfl⟩
 rw [hm1] at h2 e1 e2 e3 ⊢
 obtain ⟨p, hp, hS⟩ := h2
 have hFLl : p.FL.length = m1.files.length := by have := congrArg List.length hp.files; simpa using this
 let f : FD := ⟨none, 0, [], 0⟩
 have hS' : St w0 X w2 ((resR gr m1 p ++ (p.FL.map FD.row ++ (p.P ++ N))) ++ [f.row]) := hS.addNil _ _
 obtain ⟨g3, w3, va, vc, w4, w5, r3, r4, h3, _, r5, h5⟩ := St.newFile hS' (by rw [hFLl, e1]; exact hfl)
 have hp5 := hp.addFile f ⟨Nat.le_refl _, by simp [f]⟩ (va := va) (vc := vc)
 have hfm : f.m = file0 := rfl
 rw [hfm] at h5 hp5
 obtain ⟨m2, hm2⟩ : ∃ m2, ({ m1 with files := m1.files ++ [file0] } : DiskM) = m2 := ⟨_, rfl⟩
 obtain ⟨p2, hp2⟩ : ∃ p2, ({ p with Fa := va, Fc := vc, FL := p.FL ++ [f] } : RP) = p2 := ⟨_, rfl⟩
 have hFL2 : p.FL ++ [f] = p2.FL := by rw [← hp2]
 have hP2 : p.P = p2.P := by rw [← hp2]
 have hFa : va = p2.Fa := by rw [← hp2]
 rw [hm2, hp2] at hp5
 rw [hm2, hp2, hFL2, hP2] at h5
 have hm2n : m2.now = m1.now := by rw [← hm2]
 have hm2c : m2.chs = m1.chs := by rw [← hm2]
 have hm2f : m2.files = m1.files ++ [file0] := by rw [← hm2]
 have hF2l : p2.FL.length = p.FL.length + 1 := by rw [← hFL2]; simp
 obtain ⟨c, hcd⟩ : ∃ c : ChM, chMade m1 n = c := ⟨_, rfl⟩
 have hcv : chR c = [.int .i64 (m1.files.length : Int), strV [], strV n] := by rw [← hcd]; rfl
 obtain ⟨g, w6, w7, r6, r7, h7⟩ := h5.varA (v := chR c) cZ cSz rfl (chR_len _) (chR_one _)
 rw [hcv] at r7
 have hl1 : m1.files.length = m.files.length := by rw [e1]
 have hwl : IntKind.wrap .i64 (((p2.FL.length : Nat) : Int) - 1) = (m1.files.length : Int) := by rw [hF2l, hFLl, wrap_i64 (by omega) (by omega)]; omega
 have hmk : mkD m2.now c = insA Ent.name m2.now ⟨n, m1.files.length⟩ := by rw [← hcd]; rfl
 refine ⟨_, _, _, RefIn.cell hS (i := 1) (fsA _) rfl, _, f_build w2, _, _, _, w3, r3, va, _, vc, w4, r4, w5, r5, _, _, _, RefIn.cell h5 (i := 1) (fsA _) rfl, _, by rw [hwl]; exact c_build02 _ n w5, g, w6, r6, w7, r7, ?_⟩
 refine noteR hp5 c (fun h => by rw [← hcd] at h; cases h) (fun i hi => ?_) ?_ h7 (by rw [hm2c, e3]; exact hc) (fun w12 h12 => ⟨rfl, ?_⟩)
 · have : some m1.files.length = some i := by rw [← hcd] at hi; exact hi
   rw [hm2f, ← Option.some.inj this]; simp
 · rw [hmk]
   refine hp5.wf.okNow.ins (by rw [hm2f]; simp) hgood (.inl ?_) fun x hx _ => ?_
   · rw [hm2n, e2]; omega
   · rw [hm2n] at hx
     have := (hp.wf.okNow.ent x hx).1
     omega
 · have hfin : createF m1 n = doCh m2 c := by rw [← hm2, ← hcd]; rfl
   rw [hfin]; exact h12

end

end Go.Proofs.YtmdandkoajocpaaGreatDoor
end

section
namespace Go.Proofs.YtmdandkoajocpaaGreatDoor
open Go Sx
set_option maxRecDepth 8000

section
variable {w0 w w' : World} {X : List Nat} {N N' T : List Res} {gr : Nat} {m : DiskM}

structure RMem (m : DiskM) (p : RP) : Prop where
 okn : OkDir m.files.length m.now
 fsyn : ∀ f ∈ m.files, f.syn ≤ f.data.length ∧ f.data.length ≤ 1099511627776
 size : 0 ≤ m.size ∧ m.size ≤ 67108864
 files : p.FL.map FD.m = m.files
 now : rowN p.na p.nc m.now ∈ p.P
 arm : ∀ k, m.arm = some k → k ≤ 9223372036854775807
 fails : ∀ x ∈ m.fails, x ≤ 9223372036854775807
 flen : m.fails.length * 8 ≤ 140737488355328
set_option maxHeartbeats 1000000 in
theorem rsettle_spec {p : RP} (hp : RMem m p) (hS : St w0 X w (resR gr m p ++ (p.FL.map FD.row ++ (p.P ++ N)))) :
   Calls Tryz.prog 68 #[.pointer (some ⟨gr, 0, none⟩)] w fun e w' => e = .returned (.tuple #[]) ∧ RefIn w0 X w' gr (settleM m) N := by
 have hnl := hp.okn.len
 apply amphoraref01_Disk_settle_vc
 refine ⟨fun x w' => ∃ (i : Nat) (FL : List FD), x = (i : Int) ∧ i ≤ m.now.length ∧ FL.map FD.m = settled m.files (m.now.take i) ∧ St w0 X w' (resR gr m { p with FL := FL } ++ (FL.map FD.row ++ (p.P ++ N))), fun x _ => m.now.length - x.toNat, ⟨0, p.FL, rfl, by omega, hp.files, hS⟩, ?_⟩
 rintro x w1 ⟨i, FL, rfl, hi, hFm, h1⟩
 have c2 : (Instr.loadAt 83 (.pointer (some ⟨gr, 0 + 2, none⟩))).run Tryz.prog w1 = .ok (.slice p.na m.now.length p.nc) w1 := h1.ldL (i := 0) (o := 2) rfl (nsA _) rfl rfl
 refine ⟨_, _, _, c2, fun hlt => ?_, fun hge => ?_⟩
 · have hi' : i < m.now.length := by simp at hlt; omega
   have he : m.now[i]? = some m.now[i] := List.getElem?_eq_getElem hi'
   obtain ⟨e, hed⟩ : ∃ e, m.now[i] = e := ⟨_, rfl⟩
   rw [hed] at he
   have hil := (hp.okn.ent e (List.mem_of_getElem? he)).1
   have hFl : FL.length = m.files.length := by have := congrArg List.length hFm; rw [settled_len] at this; simpa using this
   obtain ⟨f, hf⟩ : ∃ f, FL[e.file]? = some f := ⟨_, List.getElem?_eq_getElem (by omega)⟩
   have hfm : fileAt (settled m.files (m.now.take i)) e.file = f.m := by
     rw [← hFm, fileAt, List.getD, List.getElem?_map, hf]; rfl
   have hrn : RdN w1 p.na m.now.length p.nc m.now := poolRd (p := { p with FL := FL }) h1 hp.now
   obtain ⟨b, o, hab, q⟩ := hrn.fld he
   obtain ⟨g, hg⟩ := filesHead (p := { p with FL := FL }) h1 (i := e.file) (by show e.file < FL.length; omega)
   have h1d := h1.drew
   obtain ⟨w2, r2, h2⟩ := St.putSyn (p := { p with FL := FL }) hg hf h1d f.data.length
   refine ⟨_, _, _, c2, b, o, hab, by omega, by omega, _, (q w1 hrn).2.1, fun w' => Chg [] w1 w', Chg.drew _ _, p.Fa, FL.length, p.Fc, fun w' hw' => (h1.same hw').ldL (i := 0) (o := 1) rfl (fsA _) rfl rfl, p.Fa, FL.length, p.Fc, fun w' hw' => (h1.same hw').ldL (i := 0) (o := 1) rfl (fsA _) rfl rfl, g, 0, hg, by omega, by omega, _, _, _, fun w' hw' => (St.ldF (p := { p with FL := FL }) hg hf (h1.same hw')).1, g, 0, hg, by omega, by omega, w2, r2, ⟨i + 1, FL.set e.file ⟨f.a, f.c, f.data, f.data.length⟩, wrap_succ hi' (by omega), by omega, ?_, h2⟩, mu_succ hi' (by omega)⟩
   rw [List.map_set, List.take_add_one, he]
   simp only [Option.toList_some]
   rw [settled_snoc, hFm, setF, hfm]; rfl
 · have hi' : i = m.now.length := by simp at hge; omega
   rw [hi', List.take_of_length_le (Nat.le_refl _)] at hFm
   obtain ⟨w4, r4, h4⟩ := h1.stL (i := 0) (o := 3) (off := 0 + 3) (T := 83) (v := .slice p.na m.now.length p.nc) rfl (nsS _) rfl (by simp [rdL]) rfl
   obtain ⟨w5, r5, h5⟩ := h4.stL (i := 0) (o := 4) (off := 0 + 4) (T := 84) (v := .slice none 0 0) rfl (csS _) rfl (by simp [rdL]) rfl
   have h6 := h5.upd (i := 2) (r' := .row 153 3 (.slice none 0 0) 0 []) rfl (Chg.refl _ _) (World.ownsRow_nil _ _ _ _) (by simp [Res.fp, Value.ownBlock])
   refine ⟨_, _, _, c2, w4, r4, w5, r5, rfl, { p with FL := FL, sa := p.na, sc := p.nc, ca := none, cc := 0 }, ?_, h6⟩
   refine ⟨⟨rfl, fun k => ?_, by simp [settleM], settled_ok _ _ hp.fsyn, hp.size⟩, Live.none rfl, hFm, hp.now, hp.now, hp.arm, hp.fails, hp.flen⟩
   show OkDir (settled m.files m.now).length (replay m.now (([] : List ChM).take k))
   rw [List.take_nil, settled_len]
   exact hp.okn

end

end Go.Proofs.YtmdandkoajocpaaGreatDoor
end

section
namespace Go.Proofs.YtmdandkoajocpaaGreatDoor
open Go Sx
set_option maxRecDepth 8000

theorem built_rdisk : Tryz.prog.built 86 = fun parts => Instr.fill (fun i => (#[(0, 1), (1, 1), (2, 1), (3, 1), (4, 1), (5, 1), (6, 1), (7, 1), (8, 1)] : Array (Nat × Nat))[i]?) #[.int .i64 0, .slice none 0 0, .slice none 0 0, .slice none 0 0, .slice none 0 0, .int .i64 0, .bool false, .int .i64 0, .slice none 0 0] parts := by kernel_rfl
theorem rdisk_build (s : Int) (w : World) : (Instr.build 86 #[(0, .int .i64 s), (7, .int .i64 (-1))]).run Tryz.prog w = .ok (.agg [.int .i64 s, .slice none 0 0, .slice none 0 0, .slice none 0 0, .slice none 0 0, .int .i64 0, .bool false, .int .i64 (-1), .slice none 0 0].toArray) w := by
 apply run_build
 rw [built_rdisk]
 show Instr.fill _ _ [(0, _), (7, _)] = _
 rw [fill_step (off := 0) (sz := 1) rfl rfl (by simp), fill_step (off := 7) (sz := 1) rfl rfl (by simp [Value.cells])]
 rfl

section
variable {w0 w w' : World} {X : List Nat} {N N' T : List Res} {gr : Nat} {m : DiskM}

theorem rnew_spec (s : Int) (w : World) : Calls Tryz.prog 28 #[.int .i64 s] w fun e w' => (s < 0 ∨ 67108864 < s) ∧ e = .returned (.tuple #[.pointer none, .int .i64 7]) ∧ w' = w ∨ ¬ (s < 0 ∨ 67108864 < s) ∧ ∃ gr, e = .returned (.tuple #[.pointer (some ⟨gr, 0, none⟩), .int .i64 0]) ∧ RefIn w [] w' gr (newM s) [] := by
 apply amphoraref01_New_vc
 refine ⟨fun h => .inl ⟨by simpa using h, rfl, rfl⟩, fun h => ?_⟩
 have hs : ¬ (s < 0 ∨ 67108864 < s) := by simp at h; omega
 obtain ⟨g, w1, r1, h1⟩ := (St.start w).boxA (P := Tryz.prog) 86 [.int .i64 s, .slice none 0 0, .slice none 0 0, .slice none 0 0, .slice none 0 0, .int .i64 0, .bool false, .int .i64 (-1), .slice none 0 0]
 refine ⟨_, rdisk_build s w, g, w1, r1, .inr ⟨hs, g, rfl, ?_⟩⟩
 have h2 := (((h1.addNil 150 2).addNil 153 3).addNil 3 1).addNil 148 2
 exact ⟨{ Fa := none, Fc := 0, FL := [], na := none, nc := 0, sa := none, sc := 0, ca := none, cc := 0, fa := none, fc := 0, P := [rowN none 0 []] }, ⟨wfd_new (by omega), Live.none rfl, rfl, by simp [newM], by simp [newM], fun k hk => (by cases hk), by simp [newM], by simp [newM]⟩, h2⟩

end

end Go.Proofs.YtmdandkoajocpaaGreatDoor
end

section
namespace Go.Proofs.YtmdandkoajocpaaGreatDoor
open Go Sx
set_option maxRecDepth 8000

section
variable {w0 w w' : World} {X : List Nat} {N N' T : List Res} {gr : Nat} {m : DiskM}

set_option maxHeartbeats 1000000 in
theorem rall_spec (h : RefIn w0 X w gr m N) : Calls Tryz.prog 33 #[.pointer (some ⟨gr, 0, none⟩)] w fun e w' => ∃ (a : Option Addr) (c : Nat) (L : List FV), e = .returned (.slice a L.length c) ∧ L.map FV.t = filesM m ∧ St w [] w' (.row 146 2 (.slice a L.length c) L.length (L.flatMap FV.cells) :: L.map FV.row) := by
 obtain ⟨p, hp, hS⟩ := h
 have hw := hp.wf
 have hnl := hw.okNow.len
 have hrn := poolRd hS hp.now
 apply amphoraref01_Disk_All_vc
 refine ⟨fun xa xn xc x w' => ∃ (i : Nat) (L : List FV), x = (i : Int) ∧ i ≤ m.now.length ∧ xn = L.length ∧ L.map FV.t = (filesM m).take i ∧ St w [] w' (.row 146 2 (.slice xa L.length xc) L.length (L.flatMap FV.cells) :: L.map FV.row), fun _ _ _ x _ => m.now.length - x.toNat, ⟨0, [], rfl, by omega, rfl, rfl, (St.start w).addNil _ _⟩, ?_⟩
 rintro xa xn xc x w1 ⟨i, L, rfl, hi, rfl, hL, k1⟩
 have hS1 := hS.same k1.chg
 have hLl : L.length = i := by have := congrArg List.length hL; simp [filesM] at this; omega
 refine ⟨_, _, _, RefIn.cell hS1 (i := 2) (nsA _) rfl, fun hlt => ?_, fun hge => ?_⟩
 · have hi' : i < m.now.length := by simp at hlt; omega
   have he : m.now[i]? = some m.now[i] := List.getElem?_eq_getElem hi'
   obtain ⟨e, hed⟩ : ∃ e, m.now[i] = e := ⟨_, rfl⟩
   rw [hed] at he
   obtain ⟨b, o, hab, q⟩ := hrn.fld he
   obtain ⟨f, hf, hfm, _, hfl⟩ := hp.file (hw.okNow.ent e (List.mem_of_getElem? he)).1
   have hfi := (List.getElem?_eq_some_iff.1 hf).1
   obtain ⟨g, hg⟩ := filesHead hS hfi
   have k1d := k1.drew
   obtain ⟨g2, w2, r2, k2⟩ := k1d.lit bT [] (by simp) (by simp)
   have hl3 : RdB w2 f.a f.data.length f.c f.data := (St.ldF hg hf (hS.same k2.chg)).2.2
   obtain ⟨va, vc, w3, r3, k3⟩ := k2.appendB (i := (.row 146 2 (.slice xa L.length xc) L.length (L.flatMap FV.cells) :: L.map FV.row : List Res).length) (xs := []) getLast' hl3 (by simp; omega)
   simp only [List.length_nil, Nat.zero_add, List.nil_append] at r3 k3
   rw [List.set_append_right _ _ (Nat.le_refl _), Nat.sub_self] at k3
   let v : FV := ⟨e.name, va, vc, f.data⟩
   have k3 : St w [] w3 ((.row 146 2 (.slice xa L.length xc) L.length (L.flatMap FV.cells) :: L.map FV.row) ++ [v.row]) := k3
   obtain ⟨g4, w4, ua, uc, w5, r4, r5, k5, k4⟩ := k3.pushA (i := 0) (ty := 91) fileT rfl v.cells rfl (by decide) (fun u hu => by simp only [v, FV.cells, List.mem_cons, List.not_mem_nil, or_false] at hu; rcases hu with rfl | rfl <;> rfl) (by omega) (by simp only [maxLen]; omega)
   refine ⟨fun w' => Chg [] w w', k1d.chg, _, _, _, fun w' hw' => RefIn.cell (hS.same hw') (i := 2) (nsA _) rfl, b, o, hab, by omega, by omega, _, fun w' hw' => (q w' (hrn.keep0 hw')).1, _, _, _, fun w' hw' => RefIn.cell (hS.same hw') (i := 1) (fsA _) rfl, _, _, _, fun w' hw' => RefIn.cell (hS.same hw') (i := 2) (nsA _) rfl, b, o, hab, by omega, by omega, _, fun w' hw' => (q w' (hrn.keep0 hw')).2.1, g, 0, hg, by omega, by omega, _, _, _, fun w' hw' => (St.ldF hg hf (hS.same hw')).1, _, _, _, w2, r2, fun w' => Chg [] w w', fun _ h => h, k2.chg, va, _, vc, w3, r3, fun w' => Chg [] w w', fun _ h => h, k3.chg, _, fun w' _ => file_build e.name va _ vc w', _, _, _, w4, r4, fun w' => Chg [] w w', fun _ h => h, k4.chg, ua, _, uc, w5, r5, fun w' => Chg [] w w', fun _ h => h, k5.chg, ⟨i + 1, L ++ [v], wrap_succ hi' (by omega), by omega, by simp, ?_, ?_⟩, mu_succ hi' (by omega)⟩
   · rw [List.map_append, hL, List.take_add_one, filesM, List.getElem?_map, he]
     simp only [Option.map_some, Option.toList_some, hfm]
     rfl
   · have e1 : (L ++ [v]).flatMap FV.cells = L.flatMap FV.cells ++ v.cells := by simp
     have e2 : (L ++ [v]).length = L.length + 1 := by simp
     have e3 : (L ++ [v]).map FV.row = L.map FV.row ++ [v.row] := by simp
     rw [e1, e2, e3]
     exact k5
 · have hi' : i = m.now.length := by simp at hge; omega
   refine ⟨xa, xc, L, rfl, ?_, k1⟩
   rw [hL, hi', List.take_of_length_le (by simp [filesM])]

end

end Go.Proofs.YtmdandkoajocpaaGreatDoor
end

section
namespace Go.Proofs.YtmdandkoajocpaaGreatDoor
open Go Sx
set_option maxRecDepth 8000

theorem fZ (w : World) : (zeroValue 150).run Tryz.prog w = .ok (.agg [Value.slice none 0 0, Value.int .i64 0].toArray) w := Tryz.zeroValue150 w
theorem fSz (w : World) : (sizeOf 150).run Tryz.prog w = .ok 2 w := Tryz.sizeOf150 w
theorem fAg (w : World) : (isAgg 150).run Tryz.prog w = .ok true w := Tryz.isAgg150 w

theorem Sx.St.stRowA' {P : Program} {w0 w : World} {X : List Nat} {M : List Res} (h : St w0 X w M) {i g n c j k : Nat} {e T : TypeId} {xs vs : List Value} (hi : M[i]? = some (.row e k (.slice (some ⟨g, 0, none⟩) n c) n xs)) (hT : (sizeOf T).run P w = .ok k w) (hl : vs.length = k) (h1 : ∀ v ∈ vs, v.oneCell' = true) (hj : j < n) :
   ∃ w', (Instr.storeAt T (.pointer (some ⟨g, j * k, none⟩)) (.agg vs.toArray)).run P w = .ok () w' ∧ St w0 X w' (M.set i (.row e k (.slice (some ⟨g, 0, none⟩) n c) n (xs.take (j * k) ++ vs ++ xs.drop (j * k + k)))) := by
 have hown : w.ownsRow 0 e k (.slice (some ⟨g, 0, none⟩) n c) n xs := h.holds i _ hi
 obtain ⟨hlen, hrow⟩ := hown
 rcases hrow with ⟨hv0, _⟩ | ⟨g', cap, cur, hv0, hb, hg, hnc, hcm, hcs, ht⟩
 · simp at hv0
 · simp only [Value.slice.injEq, Option.some.injEq, Addr.mk.injEq, and_true, true_and] at hv0
   obtain ⟨rfl, rfl⟩ := hv0
   have hjk : j * k + k ≤ n * k := by rw [← Nat.succ_mul]; exact Nat.mul_le_mul_right k hj
   have hck : n * k ≤ c * k := Nat.mul_le_mul_right k hnc
   have hst := run_storeCells_at P g (j * k) e vs 0 cur w hg (by omega) h1
   simp only [Nat.add_zero, hl] at hst
   have hcl : cur.toList.length = c * k := by rw [Array.length_toList, hcs]
   refine ⟨_, ?_, h.upd hi (w' := w.setRow g (cur.toList.take (j * k) ++ vs ++ cur.toList.drop (j * k + k)).toArray) ⟨rfl, rfl, rfl, by simp, fun q _ hk => setRow_other w g q _ (fun e => hk (by simp [Res.fp, Value.ownBlock, e]))⟩ ?_ (by simp [Res.fp, Value.ownBlock])⟩
   · simp [Instr.storeAt, Instr.sureAddr, storeVar, hT, Value.cells, hl, hst]
   · have hxl : xs.length = n * k := hlen
     refine ⟨?_, .inr ⟨g, c, _, rfl, hb, setRow_heap w g cur _ e _ hg, hnc, hcm, ?_, ?_⟩⟩
     · simp only [List.length_append, List.length_take, List.length_drop, hxl, hl]; omega
     · simp only [List.size_toArray, List.length_append, List.length_take, List.length_drop, hcl, hl]; omega
     · rw [List.toList_toArray]
       have hx : xs = cur.toList.take (n * k) := ht.symm
       apply List.ext_getElem?
       intro q
       rw [hx]
       by_cases hq : q < n * k
       · rw [List.getElem?_take, if_pos hq]
         by_cases h2 : q < j * k
         · have la : (cur.toList.take (j * k)).length = j * k := by simp only [List.length_take, hcl]; omega
           have lb : ((cur.toList.take (n * k)).take (j * k)).length = j * k := by simp only [List.length_take, hcl]; omega
           have e1 : ∀ B : List Value, (cur.toList.take (j * k) ++ vs ++ B)[q]? = cur.toList[q]? := fun B => by rw [List.append_assoc, List.getElem?_append_left (by omega), List.getElem?_take, if_pos h2]
           have e2 : ∀ B : List Value, ((cur.toList.take (n * k)).take (j * k) ++ vs ++ B)[q]? = cur.toList[q]? := fun B => by rw [List.append_assoc, List.getElem?_append_left (by omega), List.getElem?_take, if_pos h2, List.getElem?_take, if_pos hq]
           rw [e1, e2]
         · by_cases h3 : q < j * k + k
           · have la : (cur.toList.take (j * k)).length = j * k := by simp only [List.length_take, hcl]; omega
             have lb : ((cur.toList.take (n * k)).take (j * k)).length = j * k := by simp only [List.length_take, hcl]; omega
             have e1 : ∀ A B : List Value, A.length = j * k → (A ++ vs ++ B)[q]? = vs[q - j * k]? := fun A B hA => by rw [List.append_assoc, List.getElem?_append_right (by omega), hA, List.getElem?_append_left (by omega)]
             rw [e1 _ _ la, e1 _ _ lb]
           · have la : (cur.toList.take (j * k) ++ vs).length = j * k + k := by simp only [List.length_append, List.length_take, hcl, hl]; omega
             have lb : ((cur.toList.take (n * k)).take (j * k) ++ vs).length = j * k + k := by simp only [List.length_append, List.length_take, hcl, hl]; omega
             have e1 : ∀ A B : List Value, A.length = j * k + k → (A ++ B)[q]? = B[q - (j * k + k)]? := fun A B hA => by rw [List.getElem?_append_right (by omega), hA]
             rw [e1 _ _ la, e1 _ _ lb, List.getElem?_drop, List.getElem?_drop, List.getElem?_take, if_pos (by omega)]
       · rw [List.getElem?_take, if_neg hq, List.getElem?_eq_none]
         simp only [List.length_append, List.length_take, List.length_drop, hcl, hl]; omega

theorem flatMap_setA {α : Type} {enc : α → List Value} {k : Nat} : ∀ {l : List α} {i : Nat} {x y : α}, (∀ z ∈ l, (enc z).length = k) → l[i]? = some x → (l.flatMap enc).take (i * k) ++ enc y ++ (l.flatMap enc).drop (i * k + k) = (l.set i y).flatMap enc
 | [], i, x, y, _, hx => by simp at hx
 | z :: l, 0, x, y, h, hx => by
   have hz := h z (by simp)
   rw [Nat.zero_mul, List.take_zero, List.nil_append, Nat.zero_add, List.flatMap_cons, List.set_cons_zero, List.flatMap_cons, List.drop_left' hz]
 | z :: l, i + 1, x, y, h, hx => by
   have hz := h z (by simp)
   have hx' : l[i]? = some x := by simpa using hx
   have ih := flatMap_setA (y := y) (fun q hq => h q (by simp [hq])) hx'
   have e1 : (i + 1) * k = k + i * k := by rw [Nat.succ_mul]; omega
   rw [List.flatMap_cons, List.set_cons_succ, List.flatMap_cons, ← ih, e1]
   rw [List.take_append, List.drop_append, List.take_of_length_le (by omega), List.drop_of_length_le (by omega), hz, List.nil_append]
   have e2 : k + i * k - k = i * k := by omega
   have e3 : k + i * k + k - k = i * k + k := by omega
   rw [e2, e3]
   simp [List.append_assoc]

end Go.Proofs.YtmdandkoajocpaaGreatDoor
end

section
namespace Go.Proofs.YtmdandkoajocpaaGreatDoor
open Go Sx
set_option maxRecDepth 8000

section
variable {w0 w w' : World} {X : List Nat} {N N' T : List Res} {gr : Nat} {m : DiskM}

theorem St.cutFile {p : RP} {g : Nat} (hg : p.Fa = some ⟨g, 0, none⟩) {i Z : Nat} {f : FD} (hf : p.FL[i]? = some f) (hZ : Z ≤ f.data.length) (hS : St w0 X w (resR gr m p ++ (p.FL.map FD.row ++ T))) :
   ∃ w', (Instr.storeAt 150 (.pointer (some ⟨g, 0 + Int.toNat (i : Int) * 2, none⟩)) (.agg (FD.cells ⟨f.a, f.c, f.data.take Z, f.syn⟩).toArray)).run Tryz.prog w = .ok () w' ∧ St w0 X w' (resR gr m { p with FL := p.FL.set i ⟨f.a, f.c, f.data.take Z, f.syn⟩ } ++ ((p.FL.set i ⟨f.a, f.c, f.data.take Z, f.syn⟩).map FD.row ++ T)) := by
 have hil := (List.getElem?_eq_some_iff.1 hf).1
 have hi1 : (resR gr m p ++ (p.FL.map FD.row ++ T))[1]? = some (.row 150 2 (.slice (some ⟨g, 0, none⟩) p.FL.length p.Fc) p.FL.length (p.FL.flatMap FD.cells)) := by rw [← hg]; rfl
 obtain ⟨w1, r1, h1⟩ := hS.stRowA' hi1 (T := 150) (fSz _) (FD.cells_len ⟨f.a, f.c, f.data.take Z, f.syn⟩) (FD.cells_one _) hil
 refine ⟨w1, by rw [Int.toNat_natCast, Nat.zero_add]; exact r1, ?_⟩
 rw [flatMap_setA (fun z _ => FD.cells_len z) hf] at h1
 have e3 : (p.FL.set i ⟨f.a, f.c, f.data.take Z, f.syn⟩).length = p.FL.length := by simp
 have h2 : St w0 X w1 (resR gr m { p with FL := p.FL.set i ⟨f.a, f.c, f.data.take Z, f.syn⟩ } ++ (p.FL.map FD.row ++ T)) := by
   unfold resR rdL
   simp only [e3, hg]
   unfold resR rdL at h1
   simp only [hg] at h1
   exact h1
 have h3 := h2.perm (perm_FD hf _ _)
 have hzl : (f.data.take Z).length = Z := by rw [List.length_take]; omega
 have h4 := h3.upd (i := 0) (r' := FD.row ⟨f.a, f.c, f.data.take Z, f.syn⟩) rfl (Chg.refl _ _) (by have := rowTake (h3.holds 0 _ rfl) hZ; show w1.ownsRow 0 _ 1 (.slice f.a (f.data.take Z).length f.c) (f.data.take Z).length _; rw [hzl]; exact this) (fun k hk => .inl (by revert hk; unfold FD.row Res.fp; cases f.a <;> exact id))
 have hq := perm_FD (FL := p.FL.set i ⟨f.a, f.c, f.data.take Z, f.syn⟩) (i := i) (f := ⟨f.a, f.c, f.data.take Z, f.syn⟩) (by rw [List.getElem?_set_self hil]) (resR gr m { p with FL := p.FL.set i ⟨f.a, f.c, f.data.take Z, f.syn⟩ }) T
 rw [eraseIdx_setD] at hq
 exact h4.perm hq.symm

end

end Go.Proofs.YtmdandkoajocpaaGreatDoor
end

section
namespace Go.Proofs.YtmdandkoajocpaaGreatDoor
open Go Sx
set_option maxRecDepth 8000

section
variable {w0 w w' : World} {X : List Nat} {N N' T : List Res} {gr : Nat} {m : DiskM}

set_option maxHeartbeats 4000000 in
theorem rcrash_spec (dirs : Int) (ca : Option Addr) (cn cc : Nat) (cuts : List Int) (h : RefIn w0 X w gr m N) (hq : ∀ w', St w0 X w' N → Rd w' ca cn cc 1 (zv cuts)) (hb : m.chs.length < 1000000000) :
   Calls Tryz.prog 35 #[.pointer (some ⟨gr, 0, none⟩), .agg #[.int .i64 dirs, .slice ca cn cc]] w fun e w' => e = .returned (.tuple #[]) ∧ RefIn w0 X w' gr (crashM m dirs cuts) N := by
 have hcl : cuts.length = cn := by have := (hq w h.rest).len; simpa using this
 apply amphoraref01_Disk_Crash_vc
 obtain ⟨p, hp, hS⟩ := h
 have hw := hp.wf
 obtain ⟨g3, w1, r1, k1⟩ := (St.start w).boxA (P := Tryz.prog) 55 [.int .i64 dirs, .slice ca cn cc]
 have k1 : St w [] w1 [.arr g3 55 [.int .i64 dirs, .slice ca cn cc]] := k1
 obtain ⟨sv, hsv⟩ : ∃ sv : Res, (.arr g3 55 [.int .i64 dirs, .slice ca cn cc] : Res) = sv := ⟨_, rfl⟩
 rw [hsv] at k1
 have h1 : St w0 X w1 (resR gr m p ++ (p.FL.map FD.row ++ (p.P ++ (N ++ [sv])))) := by
   have := Sx.St.callPart (N := []) (by rw [List.append_nil]; exact hS) k1
   have e : resR gr m p ++ (p.FL.map FD.row ++ (p.P ++ N)) ++ [sv] = resR gr m p ++ (p.FL.map FD.row ++ (p.P ++ (N ++ [sv]))) := by simp [List.append_assoc]
   rw [← e]; exact this
 have hsvS : ∀ {w' : World} {R F P : List Res}, St w0 X w' (R ++ (F ++ (P ++ (N ++ [sv])))) → St w0 X w' [sv] ∧ St w0 X w' N := fun h => by
   have h2 := h.sub (((List.sublist_append_right _ _).trans (List.sublist_append_right _ _)).trans (List.sublist_append_right _ _))
   exact ⟨h2.sub (List.sublist_append_right _ _), h2.sub (List.sublist_append_left _ _)⟩
 have hd0 : ∀ {w' : World}, St w0 X w' [sv] → (Instr.loadAt 3 (.pointer (some ⟨g3, 0, none⟩))).run Tryz.prog w' = .ok (.int .i64 dirs) w' ∧ (Instr.loadAt 53 (.pointer (some ⟨g3, 1, none⟩))).run Tryz.prog w' = .ok (.slice ca cn cc) w' := fun h => by
   rw [← hsv] at h
   exact ⟨h.ldL (i := 0) (o := 0) rfl (intA _) rfl rfl, h.ldL (i := 0) (o := 1) rfl (insA' _) rfl rfl⟩
 obtain ⟨K, hKd⟩ : ∃ K : Nat, min dirs.toNat m.chs.length = K := ⟨_, rfl⟩
 have hKle : K ≤ m.chs.length := by omega
 refine ⟨g3, w1, r1, p.sa, m.syn.length, p.sc, h1.ldL (i := 0) (o := 3) rfl (nsA _) rfl rfl, fun xa xn xc x w' => ∃ (i : Nat) (P' : List Res), x = (i : Int) ∧ i ≤ K ∧ xn = (replay m.syn (m.chs.take i)).length ∧ rowN xa xc (replay m.syn (m.chs.take i)) ∈ P' ∧ St w0 X w' (resR gr m p ++ (p.FL.map FD.row ++ (P' ++ (N ++ [sv])))), fun _ _ _ x _ => K - x.toNat, ⟨0, p.P, rfl, by omega, rfl, hp.syn, h1⟩, ?_⟩
 rintro xa xn xc x w2 ⟨i, P', rfl, hi, rfl, hrow, h2⟩
 have hdi := hw.dirs i
 have hchl : (Instr.loadAt 84 (.pointer (some ⟨gr, 0 + 4, none⟩))).run Tryz.prog w2 = .ok (.slice p.ca m.chs.length p.cc) w2 := h2.ldL (i := 0) (o := 4) rfl (csA _) rfl rfl
 refine ⟨fun x w' => x = decide (i < K) ∧ w' = w2, ⟨_, _, _, hchl, fun hlt => ⟨_, (hd0 (hsvS h2).1).1, ?_, rfl⟩, fun hge => ⟨?_, rfl⟩⟩, ?_⟩
 · have : i < m.chs.length := by simp at hlt; omega
   by_cases hk : i < K
   · rw [decide_eq_true hk, decide_eq_true (by omega)]
   · rw [decide_eq_false hk, decide_eq_false (by omega)]
 · have : ¬ i < m.chs.length := by simp at hge; omega
   rw [decide_eq_false (by omega)]
 rintro x w3 ⟨rfl, rfl⟩
 have hrn : RdN w3 xa (replay m.syn (m.chs.take i)).length xc (replay m.syn (m.chs.take i)) := poolRd (p := { p with P := P' }) h2 hrow
 refine ⟨fun hlt => ?_, fun hge => ?_⟩
 · have hi' : i < K := by simpa using hlt
   have hx : m.chs[i]? = some m.chs[i] := List.getElem?_eq_getElem (by omega)
   obtain ⟨c, hc⟩ : ∃ c, m.chs[i] = c := ⟨_, rfl⟩
   rw [hc] at hx
   have hrc : RdE chR 3 w3 p.ca m.chs.length p.cc m.chs := ⟨h2.rd (i := 2) rfl, fun y _ => chR_len y⟩
   obtain ⟨b, o, hab, q⟩ := hrc.ld (P := Tryz.prog) (by decide) cAg cSz hx
   refine ⟨_, _, _, hchl, b, o, hab, by omega, by omega, _, q w3 hrc, (made_spec xa _ xc _ c w3 hrn hdi.asc (fun hm _ => hp.live i c hx hm) (by have := hdi.len; omega)).mono ?_⟩
   rintro e w4 ⟨a4, c4, rfl, k4⟩
   have h4 := poolAdd (Sx.St.callPart (N := []) (by rw [List.append_nil]; exact h2) k4)
   have hstep : replay m.syn (m.chs.take (i + 1)) = mkD (replay m.syn (m.chs.take i)) c := by
     rw [List.take_add_one, hx]
     simp only [Option.toList_some, replay_snoc]
   exact ⟨a4, _, c4, rfl, ⟨i + 1, P' ++ [rowN a4 c4 (mkD (replay m.syn (m.chs.take i)) c)], wrap_succ hi' (by omega), by omega, by rw [hstep], by rw [hstep]; simp, h4⟩, mu_succ hi' (by omega)⟩
 have hi' : i = K := by
   have : ¬ i < K := by simpa using hge
   omega
 subst hi'
 obtain ⟨d, hd⟩ : ∃ d, crashD m dirs = d := ⟨_, rfl⟩
 have hrd : replay m.syn (m.chs.take i) = d := by
   rw [← hd, crashD]
   congr 1
   rw [← hKd]
   by_cases hle : dirs.toNat ≤ m.chs.length
   · rw [Nat.min_eq_left hle]
   · rw [Nat.min_eq_right (by omega), List.take_of_length_le (Nat.le_refl _), List.take_of_length_le (by omega)]
 rw [hrd] at hdi hrn hrow ⊢
 have hdl := hdi.len
 obtain ⟨w5, r5, h5⟩ := h2.stL (i := 0) (o := 2) (off := 0 + 2) (T := 83) (v := .slice xa d.length xc) rfl (nsS _) rfl (by simp [rdL]) rfl
 have h5 : St w0 X w5 (resR gr { m with now := d } { p with na := xa, nc := xc } ++ (p.FL.map FD.row ++ (P' ++ (N ++ [sv])))) := h5
 refine ⟨w5, r5, fun x w' => ∃ (i : Nat) (FL : List FD), x = (i : Int) ∧ i ≤ d.length ∧ FL.map FD.m = cutAll cuts 0 (d.take i) m.files ∧ St w0 X w' (resR gr { m with now := d } { p with na := xa, nc := xc, FL := FL } ++ (FL.map FD.row ++ (P' ++ (N ++ [sv])))), fun x _ => d.length - x.toNat, ⟨0, p.FL, rfl, by omega, hp.files, h5⟩, ?_⟩
 clear hge
 rintro x w6 ⟨i, FL, rfl, hi, hFm, h6⟩
 obtain ⟨p6, hp6⟩ : ∃ p6 : RP, { p with na := xa, nc := xc, FL := FL } = p6 := ⟨_, rfl⟩
 have hFL6 : FL = p6.FL := by rw [← hp6]
 rw [hp6, hFL6] at h6
 rw [hFL6] at hFm
 have hFl : p6.FL.length = m.files.length := by have := congrArg List.length hFm; rw [cutAll_len] at this; simpa using this
 refine ⟨fun hlt => ?_, fun hge => ?_⟩
 · have hi' : i < d.length := by simp at hlt; omega
   have he : d[i]? = some d[i] := List.getElem?_eq_getElem hi'
   obtain ⟨e, hed⟩ : ∃ e, d[i] = e := ⟨_, rfl⟩
   rw [hed] at he
   have hem : e ∈ d := List.mem_of_getElem? he
   have hil := (hdi.ent e hem).1
   obtain ⟨f, hf⟩ : ∃ f, p6.FL[e.file]? = some f := ⟨_, List.getElem?_eq_getElem (by omega)⟩
   have hfm : fileAt (cutAll cuts 0 (d.take i) m.files) e.file = f.m := by
     rw [← hFm, fileAt, List.getD, List.getElem?_map, hf]; rfl
   have hfok := fileAt_ok (cutAll_ok cuts (d.take i) 0 m.files hw.syn) e.file
   rw [hfm] at hfok
   have hfok : f.syn ≤ f.data.length ∧ f.data.length ≤ 1099511627776 := hfok
   have hrn6 : ∀ {w'}, St w0 X w' (resR gr { m with now := d } p6 ++ (p6.FL.map FD.row ++ (P' ++ (N ++ [sv])))) → RdN w' xa d.length xc d := fun h => poolRd (p := { p6 with P := P' }) h hrow
   obtain ⟨b, o, hab, q⟩ := (hrn6 h6).fld he
   obtain ⟨g, hg⟩ := filesHead h6 (i := e.file) (by omega)
   have hFld : ∀ {w'}, St w0 X w' (resR gr { m with now := d } p6 ++ (p6.FL.map FD.row ++ (P' ++ (N ++ [sv])))) → (Instr.loadAt 150 (.pointer (some ⟨g, 0 + Int.toNat ((e.file : Nat) : Int) * 2, none⟩))).run Tryz.prog w' = .ok (.agg f.cells.toArray) w' := fun {w'} h => by
     have hrf : RdE FD.cells 2 w' p6.Fa p6.FL.length p6.Fc p6.FL := ⟨h.rd (i := 1) rfl, fun y _ => FD.cells_len y⟩
     obtain ⟨b2, o2, ha2, q2⟩ := hrf.ld (P := Tryz.prog) (by decide) fAg fSz hf
     rw [hg] at ha2
     simp only [Option.some.injEq, Addr.mk.injEq, and_true] at ha2
     obtain ⟨rfl, rfl⟩ := ha2
     exact q2 w' hrf
   have h6d := h6.drew
   obtain ⟨g7, w7, r7, k7⟩ := (St.start w6.drew).zeroA fZ
   obtain ⟨w8, r8, k8⟩ := k7.stA (i := 0) (v := f.cells) rfl (fSz _) rfl rfl f.cells_one
   have k8 : St w6.drew [] w8 [.arr g7 150 f.cells] := k8
   have h8 : St w0 X w8 ((resR gr { m with now := d } p6 ++ (p6.FL.map FD.row ++ (P' ++ (N ++ [sv])))) ++ [.arr g7 150 f.cells]) := Sx.St.callPart (N := []) (by rw [List.append_nil]; exact h6d) k8
   obtain ⟨hs8, hN8⟩ := hsvS (St.pop h8)
   have hcr8 := hq w8 hN8
   obtain ⟨more, hmore⟩ : ∃ more, cutAt cuts i = more := ⟨_, rfl⟩
   have hmoreV : more = (cuts.getD i 0).toNat := by rw [← hmore]; rfl
   refine ⟨fun w' => Chg [] w6 w', Chg.drew _ _, b, o, hab, by omega, by omega, _, _, _, fun w' hw' => (h6.same hw').ldL (i := 0) (o := 1) rfl (fsA _) rfl rfl, _, fun w' hw' => (q w' (hrn6 (h6.same hw'))).2.1, g, 0, hg, by omega, by omega, _, fun w' hw' => hFld (h6.same hw'), g7, w7, r7, fun w' => Chg [] w6 w', fun _ h => h, (Chg.drew [] w6).trans k7.chg, w8, r8, fun x w' => x = (decide (i < cn) && decide (cuts.getD i 0 > 0)) ∧ w' = w8, ⟨_, _, _, (hd0 hs8).2, fun hic => ?_, fun hic => ⟨?_, rfl⟩⟩, ?_⟩
   · have hic' : i < cn := by simp at hic; omega
     have hcx : cuts[i]? = some (cuts.getD i 0) := by simp [List.getD, show i < cuts.length by omega]
     have hcv : (zv cuts)[i]? = some (.int .i64 (cuts.getD i 0)) := by rw [List.getElem?_map, hcx]; rfl
     obtain ⟨b2, o2, ha2, hcell2⟩ := hcr8.cells.at_ hcv
     exact ⟨_, _, _, (hd0 hs8).2, b2, o2, ha2, by omega, by omega, _, by rw [Int.toNat_natCast, Nat.mul_one]; exact ld1 (intA _) hcell2, by rw [decide_eq_true hic', Bool.true_and], rfl⟩
   · have hic' : ¬ i < cn := by simp at hic; omega
     rw [decide_eq_false hic', Bool.false_and]
   rintro x w9 ⟨rfl, rfl⟩
   have hwl : IntKind.wrap .i64 ((f.data.length : Int) - (f.syn : Int)) = ((f.data.length - f.syn : Nat) : Int) := by rw [wrap_i64 (by omega) (by omega)]; omega
   refine ⟨fun x w' => x = ((min more (f.data.length - f.syn) : Nat) : Int) ∧ St w0 X w' ((resR gr { m with now := d } p6 ++ (p6.FL.map FD.row ++ (P' ++ (N ++ [sv])))) ++ [.arr g7 150 f.cells]), ⟨fun hy => ?_, fun hn => ⟨?_, h8⟩⟩, ?_⟩
   · simp only [Bool.and_eq_true, decide_eq_true_eq] at hy
     obtain ⟨hic', hpos⟩ := hy
     have hcx : cuts[i]? = some (cuts.getD i 0) := by simp [List.getD, show i < cuts.length by omega]
     have hcv : (zv cuts)[i]? = some (.int .i64 (cuts.getD i 0)) := by rw [List.getElem?_map, hcx]; rfl
     obtain ⟨b2, o2, ha2, _⟩ := hcr8.cells.at_ hcv
     have hcell2 : ∀ w', Chg [] w9 w' → (Instr.loadAt 3 (.pointer (some ⟨b2, o2 + Int.toNat ((i : Nat) : Int) * 1, none⟩))).run Tryz.prog w' = .ok (.int .i64 (cuts.getD i 0)) w' := fun w' hc => by
       obtain ⟨b3, o3, ha3, hc3⟩ := (hcr8.keep0 hc).cells.at_ hcv
       rw [ha2] at ha3
       simp only [Option.some.injEq, Addr.mk.injEq, and_true] at ha3
       obtain ⟨rfl, rfl⟩ := ha3
       rw [Int.toNat_natCast, Nat.mul_one]; exact ld1 (intA _) hc3
     refine ⟨fun w' => Chg [] w9 w', Chg.drew _ _, _, _, _, fun w' hw' => (hd0 (hs8.same hw')).2, b2, o2, ha2, by omega, by omega, _, hcell2, _, _, _, fun w' hw' => (h8.same hw').ldL (o := 0) getLast' (bsA _) rfl rfl, _, fun w' hw' => (h8.same hw').ldL (o := 1) getLast' (intA _) rfl rfl, ?_, h8.drew⟩
     rw [hwl, hmoreV]
     split <;> omega
   · have : more = 0 := by
       rw [hmoreV]
       by_cases hic' : i < cn
       · rw [decide_eq_true hic', Bool.true_and] at hn
         simp only [decide_eq_false_iff_not] at hn
         omega
       · rw [List.getD, List.getElem?_eq_none (by omega)]; rfl
     rw [this, Nat.zero_min]; rfl
   rintro x w10 ⟨rfl, h10⟩
   obtain ⟨Z, hZ⟩ : ∃ Z, f.syn + min more (f.data.length - f.syn) = Z := ⟨_, rfl⟩
   have hZl : Z ≤ f.data.length := by omega
   have hWW : IntKind.wrap .i64 ((f.syn : Int) + ((min more (f.data.length - f.syn) : Nat) : Int)) = (Z : Int) := by rw [wrap_i64 (by omega) (by omega)]; omega
   have hcap2 : f.data.length ≤ f.c := (((St.pop h10).perm (perm_FD hf _ _)).rd (i := 0) rfl).le
   refine ⟨_, _, _, h10.ldL (o := 0) getLast' (bsA _) rfl rfl, _, h10.ldL (o := 1) getLast' (intA _) rfl rfl, ?_⟩
   rw [hWW, Int.toNat_natCast]
   obtain ⟨w11, r11, h11⟩ := h10.stL (o := 0) (off := 0) (T := 33) (v := .slice f.a Z f.c) getLast' (bsS _) rfl (by simp [FD.cells]) rfl
   rw [List.set_append_right _ _ (Nat.le_refl _), Nat.sub_self] at h11
   have hzl : (f.data.take Z).length = Z := by rw [List.length_take]; omega
   have hce : f.cells.set 0 (.slice f.a Z f.c) = FD.cells ⟨f.a, f.c, f.data.take Z, f.syn⟩ := by
     show [Value.slice f.a Z f.c, _] = [Value.slice f.a (f.data.take Z).length f.c, _]
     rw [hzl]
   have h11 : St w0 X w11 ((resR gr { m with now := d } p6 ++ (p6.FL.map FD.row ++ (P' ++ (N ++ [sv])))) ++ [.arr g7 150 (FD.cells ⟨f.a, f.c, f.data.take Z, f.syn⟩)]) := by rw [← hce]; exact h11
   have h11b := St.pop h11
   obtain ⟨w12, r12, h12⟩ := St.cutFile hg hf hZl h11b.drew
   refine ⟨by omega, by omega, w11, r11, fun w' => Chg [] w11 w', Chg.drew _ _, b, o, hab, by omega, by omega, _, _, _, fun w' hw' => (h11b.same hw').ldL (i := 0) (o := 1) rfl (fsA _) rfl rfl, _, fun w' hw' => (q w' (hrn6 (h11b.same hw'))).2.1, _, fun w' hw' => (h11.same hw').ldA (l := FD.cells ⟨f.a, f.c, f.data.take Z, f.syn⟩) getLast' (fAg _) (fSz _) (FD.cells_len _), g, 0, hg, by omega, by omega, w12, r12, ⟨i + 1, p6.FL.set e.file ⟨f.a, f.c, f.data.take Z, f.syn⟩, wrap_succ hi' (by omega), by omega, ?_, ?_⟩, mu_succ hi' (by omega)⟩
   · rw [List.map_set, List.take_add_one, he]
     simp only [Option.toList_some]
     rw [cutAll_snoc, hFm, setF, hfm, List.length_take, Nat.min_eq_left hi, Nat.zero_add, hmore]
     show _ = List.set _ _ (⟨f.data.take (f.syn + min more (f.data.length - f.syn)), f.syn⟩ : FileM)
     rw [hZ]; rfl
   · rw [← hp6]
     rw [← hp6] at h12
     exact h12
 · have hi' : i = d.length := by simp at hge; omega
   rw [hi', List.take_of_length_le (Nat.le_refl _)] at hFm
   have hmem2 : RMem { m with now := d, files := cutAll cuts 0 d m.files } { p6 with P := P' } := ⟨by show OkDir (cutAll cuts 0 d m.files).length d; rw [cutAll_len]; exact hdi, cutAll_ok _ _ _ _ hw.syn, hw.size, hFm, by rw [← hp6]; exact hrow, hp.arm, hp.fails, hp.flen⟩
   refine (rsettle_spec (m := { m with now := d, files := cutAll cuts 0 d m.files }) hmem2 h6).mono ?_
   rintro e w13 ⟨rfl, h13⟩
   have h14 := h13.subN (N' := N) (List.sublist_append_left _ _)
   obtain ⟨p4, hp4, h15⟩ := h14
   obtain ⟨w14, r14, h16⟩ := h15.stL (i := 0) (o := 6) (off := 0 + 6) (T := 4) (v := .bool false) rfl (boolS _) rfl (by simp [rdL]) rfl
   obtain ⟨w15, r15, h17⟩ := h16.stL (i := 0) (o := 7) (off := 0 + 7) (T := 3) (v := .int .i64 (-1)) rfl (intS _) rfl (by simp [rdL]) rfl
   obtain ⟨w16, r16, h18⟩ := h17.stL (i := 0) (o := 8) (off := 0 + 8) (T := 53) (v := .slice none 0 0) rfl (insS _) rfl (by simp [rdL]) rfl
   have h19 := h18.upd (i := 3) (r' := .row 3 1 (.slice none 0 0) 0 []) rfl (Chg.refl _ _) (World.ownsRow_nil _ _ _ _) (by simp [Res.fp, Value.ownBlock])
   refine ⟨rfl, w14, r14, w15, r15, w16, r16, rfl, { p4 with fa := none, fc := 0 }, ?_, ?_⟩
   · have := hp4.upd m.steps false none [] (fa := none) (fc := 0) (fun k hk => by cases hk) (by simp) (by simp)
     rw [crashM, hd]
     exact this
   · rw [crashM, hd]
     exact h19

end

end Go.Proofs.YtmdandkoajocpaaGreatDoor
end

section
namespace Go.Proofs.YtmdandkoajocpaaGreatDoor
open Go Sx
set_option maxRecDepth 8000

theorem filesM_len {m : DiskM} (hw : WFD m) : (filesM m).length ≤ 4096 := by
 have := hw.okNow.len
 simpa [filesM] using this
end Go.Proofs.YtmdandkoajocpaaGreatDoor
end

section
namespace Go.Proofs.YtmdandkoajocpaaGreatDoor
open Go Sx
set_option maxRecDepth 8000

def refRes (gr : Nat) (m : DiskM) (q : RP) : List Res := resR gr m q ++ (q.FL.map FD.row ++ q.P)
def dskRes (gd : Nat) (m : DiskM) (p : DP) : List Res := resD gd m p ++ DR p.FL []
def Two (w0 : World) (X : List Nat) (w : World) (gd gr : Nat) (md mr : DiskM) (N : List Res) : Prop := ∃ p q, DOk md p ∧ ROk mr q ∧ St w0 X w (dskRes gd md p ++ (refRes gr mr q ++ N))

section
variable {w0 w w' : World} {X : List Nat} {N N' T : List Res} {gd gr : Nat} {md mr : DiskM}

theorem Two.disk (h : Two w0 X w gd gr md mr N) : ∃ ps q, ROk mr q ∧ DiskIn w0 X w gd ps md (refRes gr mr q ++ N) := by
 obtain ⟨p, q, hp, hq, hS⟩ := h
 refine ⟨p.ps, q, hq, p, rfl, hp, ?_⟩
 have e : resD gd md p ++ DR p.FL (refRes gr mr q ++ N) = dskRes gd md p ++ (refRes gr mr q ++ N) := by simp [dskRes, DR, List.append_assoc]
 rw [e]; exact hS
theorem Two.of_disk {ps : List Nat} {q : RP} (hq : ROk mr q) (h : DiskIn w0 X w gd ps md (refRes gr mr q ++ N)) : Two w0 X w gd gr md mr N := by
 obtain ⟨p, _, hp, hS⟩ := h
 refine ⟨p, q, hp, hq, ?_⟩
 have e : resD gd md p ++ DR p.FL (refRes gr mr q ++ N) = dskRes gd md p ++ (refRes gr mr q ++ N) := by simp [dskRes, DR, List.append_assoc]
 rw [← e]; exact hS
theorem Two.ref (h : Two w0 X w gd gr md mr N) : ∃ p, DOk md p ∧ RefIn w0 X w gr mr (dskRes gd md p ++ N) := by
 obtain ⟨p, q, hp, hq, hS⟩ := h
 refine ⟨p, hp, q, hq, hS.perm ?_⟩
 have e : resR gr mr q ++ (q.FL.map FD.row ++ (q.P ++ (dskRes gd md p ++ N))) = refRes gr mr q ++ (dskRes gd md p ++ N) := by simp [refRes, List.append_assoc]
 rw [e, ← List.append_assoc, ← List.append_assoc]
 exact List.perm_append_comm.append_right N
theorem Two.of_ref {p : DP} (hp : DOk md p) (h : RefIn w0 X w gr mr (dskRes gd md p ++ N)) : Two w0 X w gd gr md mr N := by
 obtain ⟨q, hq, hS⟩ := h
 refine ⟨p, q, hp, hq, hS.perm ?_⟩
 have e : resR gr mr q ++ (q.FL.map FD.row ++ (q.P ++ (dskRes gd md p ++ N))) = refRes gr mr q ++ (dskRes gd md p ++ N) := by simp [refRes, List.append_assoc]
 rw [e, ← List.append_assoc, ← List.append_assoc]
 exact List.perm_append_comm.append_right N
theorem Two.same (h : Two w0 X w gd gr md mr N) (hc : Chg [] w w') : Two w0 X w' gd gr md mr N := by obtain ⟨p, q, hp, hq, hS⟩ := h; exact ⟨p, q, hp, hq, hS.same hc⟩
theorem Two.chg (h : Two w0 X w gd gr md mr N) : Chg X w0 w := by obtain ⟨p, q, hp, hq, hS⟩ := h; exact hS.chg
theorem Two.rest (h : Two w0 X w gd gr md mr N) : St w0 X w N := by
 obtain ⟨p, q, hp, hq, hS⟩ := h
 exact hS.sub ((List.sublist_append_right _ _).trans (List.sublist_append_right _ _))
theorem Two.wf (h : Two w0 X w gd gr md mr N) : WFD md ∧ WFD mr := by obtain ⟨p, q, hp, hq, hS⟩ := h; exact ⟨hp.wf, hq.wf⟩
theorem Two.addSt (h : Two w0 X w gd gr md mr N) (h' : St w [] w' T) : Two w0 X w' gd gr md mr (N ++ T) := by
 obtain ⟨p, q, hp, hq, hS⟩ := h
 refine ⟨p, q, hp, hq, ?_⟩
 have := Sx.St.callPart (N := []) (by rw [List.append_nil]; exact hS) h'
 rw [List.append_assoc, List.append_assoc] at this
 exact this
theorem Two.subN (h : Two w0 X w gd gr md mr N) (hn : N'.Sublist N) : Two w0 X w gd gr md mr N' := by
 obtain ⟨p, q, hp, hq, hS⟩ := h
 exact ⟨p, q, hp, hq, hS.sub (List.Sublist.append_left (List.Sublist.append_left hn _) _)⟩

end

end Go.Proofs.YtmdandkoajocpaaGreatDoor
end

section
namespace Go.Proofs.YtmdandkoajocpaaGreatDoor
open Go Sx
set_option maxRecDepth 8000

theorem ready_ne0 (m : DiskM) (l : List Nm) : readyM m l ≠ some 0 := by unfold readyM; split; · simp
                                                                        split <;> simp
theorem found_ne0 (m : DiskM) (n : Nm) : foundE m n ≠ some 0 := by unfold foundE; split; · simp
                                                                   split; · simp
                                                                   split <;> simp
theorem step_ne0 (m : DiskM) : (stepM m).2 ≠ some 0 := by
 unfold stepM
 split
 · simp
 · split <;> simp
theorem steps_ne0 (m : DiskM) (f : DiskM → DiskM) : (stepsM m f).2 ≠ some 0 := by
 unfold stepsM
 split
 · rename_i e h; intro h2; exact step_ne0 m (h.trans h2)
 · simp
theorem create_ne0 (m : DiskM) (n : Nm) : (createM m n).2 ≠ some 0 := by
 unfold createM
 split
 · rename_i e h; intro h2; exact ready_ne0 m _ (h.trans h2)
 · split
   · simp
   · split
     · simp
     · exact steps_ne0 _ _
theorem append_ne0 (m : DiskM) (n : Nm) (ps : List (List UInt8)) : (appendM m n ps).2 ≠ some 0 := by
 unfold appendM
 split
 · rename_i e h; intro h2; exact found_ne0 m _ (h.trans h2)
 · split
   · exact steps_ne0 _ _
   · simp
theorem sync_ne0 (m : DiskM) (n : Nm) : (syncM m n).2 ≠ some 0 := by
 unfold syncM
 split
 · rename_i e h; intro h2; exact found_ne0 m _ (h.trans h2)
 · exact steps_ne0 _ _
section
variable {w0 w w' : World} {X : List Nat} {N N' T T' : List Res} {gd gr : Nat} {md mr m : DiskM}

theorem RefIn.setArm (h : RefIn w0 X w gr m N) (i : Int) (h0 : 0 ≤ i) (hi : i ≤ 9223372036854775807) : ∃ w', (Instr.storeAt 3 (.pointer (some ⟨gr, 7, none⟩)) (.int .i64 i)).run Tryz.prog w = .ok () w' ∧ RefIn w0 X w' gr { m with arm := some i.toNat } N := by
 obtain ⟨p, hp, hS⟩ := h
 obtain ⟨w2, r2, h2⟩ := hS.stL (i := 0) (o := 7) (off := 7) (T := 3) (v := .int .i64 ((i.toNat : Nat) : Int)) rfl (intS _) rfl (by simp [rdL]) rfl
 refine ⟨w2, by rw [Int.toNat_of_nonneg h0] at r2; exact r2, p, hp.upd m.steps m.down (some i.toNat) m.fails (fun k hk => by have := Option.some.inj hk; omega) hp.fails hp.flen, h2⟩

theorem Two.setFail {l : List Nat} {fa : Option Addr} {fc : Nat} (h : Two w0 X w gd gr md mr (N ++ [.row 3 1 (.slice fa l.length fc) l.length (niv l)])) (hl : ∀ x ∈ l, x ≤ 9223372036854775807) (hn : l.length * 8 ≤ 140737488355328) :
   ∃ w', (Instr.storeAt 53 (.pointer (some ⟨gr, 8, none⟩)) (.slice fa l.length fc)).run Tryz.prog w = .ok () w' ∧ Two w0 X w' gd gr md { mr with fails := l } N := by
 obtain ⟨p, hp, q, hq, hS⟩ := h.ref
 have e : resR gr mr q ++ (q.FL.map FD.row ++ (q.P ++ (dskRes gd md p ++ (N ++ [.row 3 1 (.slice fa l.length fc) l.length (niv l)])))) = (resR gr mr q ++ (q.FL.map FD.row ++ (q.P ++ (dskRes gd md p ++ N)))) ++ [.row 3 1 (.slice fa l.length fc) l.length (niv l)] := by simp [List.append_assoc]
 rw [e] at hS
 obtain ⟨w2, r2, h2⟩ := St.newFails hS
 exact ⟨w2, r2, Two.of_ref hp ⟨{ q with fa := fa, fc := fc }, hq.upd mr.steps mr.down mr.arm l hq.arm hl hn, h2⟩⟩

end

end Go.Proofs.YtmdandkoajocpaaGreatDoor
end

section
namespace Go.Proofs.YtmdandkoajocpaaGreatDoor
open Go Sx
set_option maxRecDepth 8000

def svRf : Option Int → List RefD → List RefD
 | none, rs => rs
 | some _, _ => []
def svPf : Option Int → Int → Nat → Nat → List Value
 | none, num, s, k => pk3 num (s : Int) (k : Int)
 | some _, _, _, _ => pk3 0 0 0
abbrev rowRf (ra : Option Addr) (rc : Nat) (rs : List RefD) : Res := .row 75 35 (.slice ra rs.length rc) rs.length (rs.flatMap refC)
theorem svPf_len (e : Option Int) (num : Int) (s k : Nat) : (svPf e num s k).length = 3 := by cases e <;> rfl
section
variable {w0 w w' : World} {X : List Nat} {N N' T T' : List Res} {gd gr : Nat} {ps : List Nat} {m : DiskM}

set_option maxHeartbeats 2000000 in
theorem pksave2_spec (K : List UInt8) (hk : K.length = 96) (num : Int) (a : Option Addr) (n c : Nat) (l : List ItD) (h : DiskIn w0 [] w gd ps m N) (hK : KTab w) (hT : PTab w) (hg : goodP num = true) (hr : ItR w a n c l) (hs : SmallI (l.map ItD.t)) (hb : m.steps ≤ 1000000) (hc : m.chs.length < 1000000000) :
   Calls Tryz.prog 23 #[.pointer (some ⟨gd, 0, none⟩), .agg (bv K).toArray, .int .i64 num, .slice a n c] w fun e w' => ∃ ra rc, e = .returned (.tuple #[.slice ra (svRf (saveM m (nameP num) (piecesP K num (l.map ItD.t))).2 (refsP num 16 (l.map ItD.t))).length rc, .agg (svPf (saveM m (nameP num) (piecesP K num (l.map ItD.t))).2 num (buildP K num (l.map ItD.t)).length l.length).toArray, errV (saveM m (nameP num) (piecesP K num (l.map ItD.t))).2]) ∧ ∃ ps', DiskIn w0 [] w' gd ps' (saveM m (nameP num) (piecesP K num (l.map ItD.t))).1 (N ++ [rowRf ra rc (svRf (saveM m (nameP num) (piecesP K num (l.map ItD.t))).2 (refsP num 16 (l.map ItD.t)))]) := by
 obtain ⟨mI, hI⟩ := eI
 have hnl : l.length ≤ 4096 := by have := hs.num; simpa using this
 apply pack_Save_vc
 obtain ⟨g5, w1, r1, k1⟩ := (St.start w).boxA (P := Tryz.prog) 28 (bv K)
 obtain ⟨g9, w2, r2, k2⟩ := k1.zeroA pkZ
 have k2 : St w [] w2 [.arr g5 28 (bv K), .arr g9 63 (pk3 0 0 0)] := k2
 refine ⟨g5, w1, r1, g9, w2, r2, _, k2.ldA (i := 0) (l := bv K) rfl (kyA' _) (kyS' _) (by simp [hk]), (pkmade_spec K hk num a n c l w2 (hK.keep0 k2.chg) hg (hr.keep0 k2.chg) hs).mono ?_⟩
 rintro e w3 ⟨g, rfl, f, hf1, hf2, k3⟩
 have h3 := (h.addSt (k2.sub (N := [.arr g9 63 (pk3 0 0 0)]) (List.sublist_cons_self _ _))).addSt k3
 obtain ⟨F1, hF1⟩ : ∃ F1, fileR g num f ++ (f.ps.map PcD.row ++ []) = F1 := ⟨_, rfl⟩
 rw [hF1] at h3
 have fin : ∀ {w' : World} {ps' : List Nat} {m' : DiskM}, DiskIn w0 [] w' gd ps' m' ((N ++ [.arr g9 63 (pk3 0 0 0)]) ++ F1) → St w0 [] w' F1 := fun h => h.rest.sub (List.sublist_append_right _ _)
 have out : ∀ {w' : World} {ps' : List Nat} {m' : DiskM}, DiskIn w0 [] w' gd ps' m' ((N ++ [.arr g9 63 (pk3 0 0 0)]) ++ F1) → DiskIn w0 [] w' gd ps' m' (N ++ [.arr g9 63 (pk3 0 0 0)]) := fun h => h.subN (List.sublist_append_left _ _)
 refine ⟨_, _, rfl, _, neqS_nil hI none _ _, fun h => (by cases h), fun _ => (pkname_spec num w3 (hT.keep0 ((k2.chg).trans k3.chg)) hg).mono ?_⟩
 rintro e w5 ⟨rfl, c5⟩
 have h5 := h3.same c5
 refine ⟨_, rfl, (create_spec (nameP num) h5 (by omega) hc).mono ?_⟩
 rintro e w6 ⟨rfl, ps1, h6⟩
 obtain ⟨xs, hxs⟩ : ∃ xs, piecesP K num (l.map ItD.t) = xs := ⟨_, rfl⟩
 have hcc := create_count m (nameP num)
 obtain ⟨m1, hm1⟩ : ∃ m1, (createM m (nameP num)).1 = m1 := ⟨_, rfl⟩
 rw [hm1] at h6 hcc
 rw [hxs]
 have hxl : xs.length = l.length + 2 := by rw [← hxs, pieces_len, List.length_map]
 cases hce : (createM m (nameP num)).2 with
 | some e =>
   have hsv : saveM m (nameP num) xs = (m1, some e) := by unfold saveM; rw [hce]; simp only [hm1]
   obtain ⟨w7, r7, l7, h7⟩ := pkRet (out h6) rfl 0 0 0
   refine ⟨_, rfl, _, neqS_nil hI (some e) _ _, fun _ => ⟨_, pk_build0 w6, w7, r7, _, l7, none, 0, ?_, ps1, ?_⟩, fun h => by cases h⟩
   · rw [hsv]; rfl
   · rw [hsv]; exact h7.addSt ((St.start _).addNil 75 35)
 | none =>
   have hsv : saveM m (nameP num) xs = (match (appendsM m1 (nameP num) xs).2 with
     | some e => ((appendsM m1 (nameP num) xs).1, some e)
     | none => syncM (appendsM m1 (nameP num) xs).1 (nameP num)) := by unfold saveM; rw [hce]; simp only [hm1] <;> rfl
   have F0 : ∀ {w' : World} {ps' : List Nat} {m' : DiskM}, DiskIn w0 [] w' gd ps' m' ((N ++ [.arr g9 63 (pk3 0 0 0)]) ++ F1) → St w0 [] w' ([.arr g 105 (fileL num f), .row 33 1 (.slice f.la f.ps.length f.lc) f.ps.length (f.ps.map PcD.v), .row 75 35 (.slice f.ra f.rs.length f.rc) f.rs.length (f.rs.flatMap refC)] ++ (f.ps.map PcD.row ++ [])) := fun h => by rw [← hF1] at h; exact h.rest.sub (List.sublist_append_right _ _)
   have hpl : f.ps.length = xs.length := by have := congrArg List.length hf1; rw [List.length_map, hxs] at this; exact this
   refine ⟨_, rfl, _, neqS_nil hI none _ _, fun h => (by cases h), fun _ => ⟨g, 0, rfl, _, _, _, (F0 h6).ldL (i := 0) (o := 0) rfl (bbA' _) rfl rfl, fun x w' => ∃ (j : Nat) (m' : DiskM), x = (j : Int) ∧ j ≤ f.ps.length ∧ appendsM m1 (nameP num) xs = appendsM m' (nameP num) (xs.drop j) ∧ m'.steps ≤ m1.steps + j ∧ DiskIn w0 [] w' gd ps1 m' ((N ++ [.arr g9 63 (pk3 0 0 0)]) ++ F1), fun x _ => f.ps.length - x.toNat, ⟨0, m1, rfl, by omega, by simp, by omega, h6⟩, ?_⟩⟩
   rintro x w8 ⟨j, m', rfl, hj, hap, hst, h8⟩
   refine ⟨fun hlt => ?_, fun hge => ?_⟩
   · have hj' : j < f.ps.length := by simp at hlt; omega
     have hp : f.ps[j]? = some f.ps[j] := List.getElem?_eq_getElem hj'
     obtain ⟨p, hpp⟩ : ∃ p, f.ps[j] = p := ⟨_, rfl⟩
     rw [hpp] at hp
     have hxj : xs.drop j = p.l :: xs.drop (j + 1) := by
       have : xs[j]? = some p.l := by rw [← hxs, ← hf1, List.getElem?_map, hp]; rfl
       obtain ⟨hj2, he⟩ := List.getElem?_eq_some_iff.1 this
       rw [List.drop_eq_getElem_cons hj2, he]
     have hrow : Rd w8 f.la f.ps.length f.lc 1 (f.ps.map PcD.v) := (F0 h8).rd (i := 1) rfl
     obtain ⟨b, o, hab, hcell⟩ := hrow.cells.at_ (i := j) (v := p.v) (by rw [List.getElem?_map, hp]; rfl)
     obtain ⟨g11, w9, r9, k9⟩ := (St.start w8).lit bbT [p.v] (by simp [PcD.v, Value.oneCell']) (by simp)
     have h9 := h8.addSt k9
     refine ⟨b, o, hab, by omega, by omega, _, _, _, by rw [Int.toNat_natCast, Nat.mul_one]; exact ld1 (bsA' _) hcell, _, _, _, w9, r9, (append_spec (nameP num) _ 1 1 [p.v] [p.l] h9 (fun {w2 ps2 m2} hD => ?_) (by omega) (by decide)).mono ?_⟩
     · have hF := F0 (hD.subN (List.sublist_append_left _ _))
       have hrd : RdB w2 p.a p.l.length p.c p.l := hF.rd (i := 3 + j) (by
         rw [List.getElem?_append_right (by simp), List.getElem?_append_left (by simp; omega)]
         simp only [List.length_cons, List.length_nil]
         rw [List.getElem?_map, show 3 + j - (0 + 1 + 1 + 1) = j by omega, hp]; rfl)
       exact ⟨(hD.rest.sub (List.sublist_append_right _ _)).rd (i := 0) rfl, Row2.cons hrd (Row2.nil _)⟩
     rintro e w10 ⟨rfl, h10⟩
     have h10 := h10.subN (N' := (N ++ [.arr g9 63 (pk3 0 0 0)]) ++ F1) (List.sublist_append_left _ _)
     have hac := append_count m' (nameP num) [p.l]
     obtain ⟨m2, hm2⟩ : ∃ m2, (appendM m' (nameP num) [p.l]).1 = m2 := ⟨_, rfl⟩
     rw [hm2] at h10 hac
     rw [hxj] at hap
     cases hae : (appendM m' (nameP num) [p.l]).2 with
     | some e =>
       have hap2 : appendsM m1 (nameP num) xs = (m2, some e) := by rw [hap, appendsM, hae]; simp only [hm2]
       have hsv2 : saveM m (nameP num) xs = (m2, some e) := by rw [hsv, hap2]
       obtain ⟨w11, r11, l11, h11⟩ := pkRet (out h10) rfl 0 0 0
       refine ⟨_, rfl, _, neqS_nil hI (some e) _ _, fun _ => ⟨_, pk_build0 w10, w11, r11, _, l11, none, 0, ?_, ps1, ?_⟩, fun h => by cases h⟩
       · rw [hsv2]; rfl
       · rw [hsv2]; exact h11.addSt ((St.start _).addNil 75 35)
     | none =>
       have hap2 : appendsM m1 (nameP num) xs = appendsM m2 (nameP num) (xs.drop (j + 1)) := by rw [hap, appendsM, hae]; simp only [hm2]
       exact ⟨_, rfl, _, neqS_nil hI none _ _, fun h => (by cases h), fun _ => ⟨⟨j + 1, m2, wrap_succ hj' (by omega), by omega, hap2, by omega, h10⟩, mu_succ hj' (by omega)⟩⟩
   · have hj' : j = f.ps.length := by simp at hge; omega
     rw [hj', hpl, List.drop_length] at hap
     have hap : appendsM m1 (nameP num) xs = (m', none) := hap
     have hsv2 : saveM m (nameP num) xs = syncM m' (nameP num) := by rw [hsv, hap]
     refine (sync_spec (nameP num) h8 (by omega)).mono ?_
     rintro e w12 ⟨rfl, h12⟩
     rw [← hsv2] at h12 ⊢
     cases hse : (saveM m (nameP num) xs).2 with
     | some e =>
       obtain ⟨w13, r13, l13, h13⟩ := pkRet (out h12) rfl 0 0 0
       exact ⟨_, rfl, _, neqS_nil hI (some e) _ _, fun _ => ⟨_, pk_build0 w12, w13, r13, _, l13, none, 0, rfl, ps1, h13.addSt ((St.start _).addNil 75 35)⟩, fun h => by cases h⟩
     | none =>
       have h12d := h12.same (Chg.drew [] w12)
       have hsub : [rowRf f.ra f.rc f.rs].Sublist F1 := List.singleton_sublist.2 (by rw [← hF1]; exact List.mem_append_left _ (show _ ∈ fileR g num f by unfold fileR; simp [rowRf]))
       have h12e := (h12d.subN (List.Sublist.append_left hsub _)).permN (N' := (N ++ [rowRf f.ra f.rc f.rs]) ++ [.arr g9 63 (pk3 0 0 0)]) (by
         rw [List.append_assoc, List.append_assoc]
         exact List.Perm.append_left _ (List.perm_append_comm))
       obtain ⟨w14, r14, l14, h14⟩ := pkRet h12e rfl num (((f.ps.map PcD.l).flatten.length : Nat) : Int) ((n : Nat) : Int)
       let S : World → Prop := fun w' => St w0 [] w' ([.arr g 105 (fileL num f), .row 33 1 (.slice f.la f.ps.length f.lc) f.ps.length (f.ps.map PcD.v), .row 75 35 (.slice f.ra f.rs.length f.rc) f.rs.length (f.rs.flatMap refC)] ++ (f.ps.map PcD.row ++ []))
       have hbl : (f.ps.map PcD.l).flatten.length = (buildP K num (l.map ItD.t)).length := by rw [hf1]; rfl
       have hln := hr.rd.num (by decide)
       refine ⟨_, rfl, _, neqS_nil hI none _ _, fun h => (by cases h), fun _ => ⟨S, F0 h12d, g, 0, rfl, g, 0, rfl, _, _, _, fun w' hw => Sx.St.ldL hw (i := 0) (o := 3) rfl (rsA' _) rfl rfl, _, fun w' hw => Sx.St.ldL hw (i := 0) (o := 1) rfl (inA _) rfl rfl, _, fun w' _ => pk_build _ _ _ w', w14, r14, _, l14, f.ra, f.rc, ?_, ps1, ?_⟩⟩
       · rw [hbl, ← hln, ← hf2]; rfl
       · rw [← hf2]; exact h14


theorem rbuild2_spec (K : List UInt8) (hk : K.length = 96) (num : Int) (a : Option Addr) (n c : Nat) (l : List ItD) (w : World) (hr : ItR w a n c l) (hs : SmallI (l.map ItD.t)) :
   Calls Tryz.prog 12 #[.agg (bv K).toArray, .int .i64 num, .slice a n c] w fun e w' => ∃ ba bc ra rc, e = .returned (.tuple #[.slice ba (if goodP num then buildP K num (l.map ItD.t) else []).length bc, .slice ra (if goodP num then refsP num 16 (l.map ItD.t) else []).length rc, .int .i64 (if goodP num then 0 else 28)]) ∧
     St w [] w' [.row 5 1 (.slice ba (if goodP num then buildP K num (l.map ItD.t) else []).length bc) (if goodP num then buildP K num (l.map ItD.t) else []).length (bv (if goodP num then buildP K num (l.map ItD.t) else [])), rowRf ra rc (if goodP num then refsP num 16 (l.map ItD.t) else [])] := by
 have hln := hr.rd.num (by decide)
 have hnum := hs.num
 rw [List.length_map] at hnum
 apply amphoraref13_Build_vc
 obtain ⟨g3, w1, r1, k1⟩ := (St.start w).boxA (P := Tryz.prog) 28 (bv K)
 have k1 : St w [] w1 [.arr g3 28 (bv K)] := k1
 refine ⟨g3, w1, r1, (rgood13_spec num w1).mono ?_⟩
 rintro e w2 ⟨rfl, rfl⟩
 cases hg : goodP num with
 | false => exact ⟨_, rfl, fun _ => ⟨none, 0, none, 0, rfl, (((k1.addNil 5 1).addNil 75 35)).tail⟩, fun h => by cases h⟩
 | true =>
   refine ⟨_, rfl, fun h => (by cases h), fun _ => ⟨fun x w' => ∃ i : Nat, x = (i : Int) ∧ i ≤ n ∧ w' = w2, fun x _ => n - x.toNat, ⟨0, rfl, by omega, rfl⟩, ?_⟩⟩
   rintro x w3 ⟨i, rfl, hi, rfl⟩
   refine ⟨fun h => ?_, fun h => ?_⟩
   · have hi' : i < n := by simp at h; omega
     have hx : l[i]? = some l[i] := List.getElem?_eq_getElem (by omega)
     obtain ⟨b2, o2, hab2, q2⟩ := hr.rd.fld (P := Tryz.prog) (by decide) bsA' (j := 32) hx (itC_blob l[i])
     have hb : l[i].n ≤ 16777216 := by
       have h1 := (hr.blobs l[i] (List.getElem_mem _)).lenB
       have h2 : l[i].blob.length ≤ 16777216 := hs.blob (List.mem_map_of_mem (List.getElem_mem _))
       omega
     refine ⟨b2, o2, hab2, by omega, by omega, _, _, _, q2 w3 (hr.rd.keep0 k1.chg), fun h => ?_, fun _ => ⟨⟨i + 1, wrap_succ hi' (by omega), by omega, rfl⟩, mu_succ hi' (by omega)⟩⟩
     simp at h; omega
   refine ⟨_, k1.ldA (i := 0) (l := bv K) rfl (kyA' _) (kyS' _) (by simp [hk]), (rpieces_spec K hk num a n c l w3 hg (hr.keep0 k1.chg) hs).mono ?_⟩
   rintro e w4 ⟨ps, la, lc, ra, rc, rfl, hps, k4⟩
   have hfl : (ps.map PcD.l).flatten = buildP K num (l.map ItD.t) := by rw [hps]; rfl
   have hbl := build_len K num hs
   have hpl : ps.length = l.length + 2 := by have := congrArg List.length hps; rw [List.length_map, pieces_len, List.length_map] at this; exact this
   obtain ⟨g5, w5, r5, k5⟩ := (St.start w4).lit bT [] (by simp) (by simp)
   have hrow : Rd w4 la ps.length lc 1 (ps.map PcD.v) := k4.rd (i := 0) rfl
   have h2 : Row2 w4 (ps.map PcD.v) (ps.map PcD.l) := rowsR2 (L := []) (by rw [List.append_nil]; exact k4.sub (List.sublist_append_right _ _))
   obtain ⟨ls, hls⟩ : ∃ ls, ps.map PcD.l = ls := ⟨_, rfl⟩
   have hll : ls.length = ps.length := by rw [← hls]; simp
   rw [hls] at h2 hfl
   refine ⟨_, _, _, _, _, _, rfl, _, _, _, w5, r5, fun xa xn xc x w' => ∃ i : Nat, x = (i : Int) ∧ i ≤ ps.length ∧ xn = (ls.take i).flatten.length ∧ St w4 [] w' [.row 5 1 (.slice xa xn xc) xn (bv (ls.take i).flatten)], fun _ _ _ x _ => ps.length - x.toNat, ⟨0, rfl, by omega, by simp, by simpa using k5⟩, ?_⟩
   rintro xa xn xc x w6 ⟨i, rfl, hi, rfl, hS⟩
   have hft := flat_take_le ls i
   refine ⟨fun h => ?_, fun h => ?_⟩
   · have hi' : i < ps.length := by simp at h; omega
     obtain ⟨b, o, a', n', c', ha, hv, hrd, hld⟩ := ixS hrow.cells h2 (i := i) (by omega)
     have hl' := hrd.lenB
     have hf1 := flat_take (ls := ls) (i := i) (by omega)
     have hf2 := flat_take_le ls (i + 1)
     rw [hf1, List.length_append, hl'] at hf2
     rw [hfl] at hf2
     obtain ⟨va, vc, w7, r7, h7⟩ := hS.appendB (i := 0) rfl (hS.rd1 hrd) (by omega)
     refine ⟨b, o, ha, by omega, by omega, _, _, _, hld w6 (hrow.cells.keep0 hS.chg), _, _, _, _, r7, ⟨i + 1, wrap_succ hi' (by omega), by omega, ?_, ?_⟩, mu_succ hi' (by omega)⟩
     · rw [hf1, List.length_append, hl']
     · rw [hf1]; exact h7
   · have hi' : i = ps.length := by simp at h; omega
     subst hi'
     rw [← hll, List.take_length, hfl] at hS
     rw [← hll, List.take_length, hfl]
     have kA := Sx.St.callPart (M := [.arr g3 28 (bv K)]) (N := []) (by rw [List.append_nil]; exact k1) k4
     have kB := Sx.St.callPart (N := []) (by rw [List.append_nil]; exact kA) hS
     have kC := kB.sub (N := [rowRf ra rc (refsP num 16 (l.map ItD.t))] ++ [.row 5 1 (.slice xa (buildP K num (l.map ItD.t)).length xc) (buildP K num (l.map ItD.t)).length (bv (buildP K num (l.map ItD.t)))]) (List.Sublist.append (List.singleton_sublist.2 (by simp)) (List.Sublist.refl _))
     exact ⟨_, _, _, _, rfl, kC.perm (List.Perm.swap _ _ _)⟩

def tailM (m : DiskM) (n : Nm) (ps : List (List UInt8)) : DiskM × Option Int := match (appendsM m n ps).2 with
 | some e => ((appendsM m n ps).1, some e)
 | none => syncM (appendsM m n ps).1 n
theorem save_tail (m : DiskM) (n : Nm) (ps : List (List UInt8)) : saveM m n ps = match (createM m n).2 with
 | some e => ((createM m n).1, some e)
 | none => tailM (createM m n).1 n ps := rfl
theorem tail_cons (m : DiskM) (n : Nm) (p : List UInt8) (ps : List (List UInt8)) : tailM m n (p :: ps) = match (appendM m n [p]).2 with
 | some e => ((appendM m n [p]).1, some e)
 | none => tailM (appendM m n [p]).1 n ps := by
 unfold tailM
 rw [appendsM]
 cases h : (appendM m n [p]).2 <;> simp only [h]
theorem tail_nil (m : DiskM) (n : Nm) : tailM m n [] = syncM m n := rfl
theorem save_ne0 (m : DiskM) (n : Nm) (ps : List (List UInt8)) : (saveM m n ps).2 ≠ some 0 := by
 have ht : ∀ (ps : List (List UInt8)) (m : DiskM), (tailM m n ps).2 ≠ some 0 := by
   intro ps
   induction ps with
   | nil => intro m; rw [tail_nil]; exact sync_ne0 m n
   | cons p ps ih =>
     intro m
     rw [tail_cons]
     have := append_ne0 m n [p]
     split
     · rename_i e h; rw [h] at this; exact this
     · exact ih _
 rw [save_tail]
 have := create_ne0 m n
 split
 · rename_i e h; rw [h] at this; exact this
 · exact ht _ _

theorem RefIn.callN (h : RefIn w0 X w gr m (N ++ T)) (h' : St w (fpsL T) w' T') : RefIn w0 X w' gr m (N ++ T') := by
 obtain ⟨q, hq, hS⟩ := h
 have e : ∀ U, resR gr m q ++ (q.FL.map FD.row ++ (q.P ++ (N ++ U))) = (resR gr m q ++ (q.FL.map FD.row ++ (q.P ++ N))) ++ U := fun U => by simp [List.append_assoc]
 rw [e] at hS
 refine ⟨q, hq, ?_⟩
 rw [e]
 exact Sx.St.callPart hS h'
theorem pkRetR {g9 : Nat} {l : List Value} (h : RefIn w0 X w gr m (N ++ [.arr g9 63 l])) (hl : l.length = 3) (x y z : Int) :
   ∃ w', (Instr.storeAt 63 (.pointer (some ⟨g9, 0, none⟩)) (.agg (pk3 x y z).toArray)).run Tryz.prog w = .ok () w' ∧ (loadVar 63 ⟨g9, 0, none⟩).run Tryz.prog w' = .ok (.agg (pk3 x y z).toArray) w' ∧ RefIn w0 X w' gr m N := by
 have h1 := (h.rest.sub (List.sublist_append_right N _)).self
 obtain ⟨w2, r2, h2⟩ := h1.stA (i := 0) (v := pk3 x y z) rfl (pkS _) hl rfl (pk3_one _ _ _)
 have h2 : St w (fpsL [.arr g9 63 l]) w2 [.arr g9 63 (pk3 x y z)] := h2
 exact ⟨w2, r2, h2.ldVarA (i := 0) rfl (pkA _) (pkS _) rfl, (h.callN h2).subN (List.sublist_append_left _ _)⟩

set_option maxHeartbeats 4000000 in
theorem rsave_spec (K : List UInt8) (hk : K.length = 96) (num : Int) (a : Option Addr) (n c : Nat) (l : List ItD) (h : RefIn w0 [] w gr m N) (hg : goodP num = true) (hr : ItR w a n c l) (hs : SmallI (l.map ItD.t)) (hb : m.steps ≤ 1000000) (hc : m.chs.length < 1000000000) (hfl : m.files.length < 1000000000) :
   Calls Tryz.prog 30 #[.pointer (some ⟨gr, 0, none⟩), .agg (bv K).toArray, .int .i64 num, .slice a n c] w fun e w' => ∃ ra rc, e = .returned (.tuple #[.slice ra (svRf (saveM m (nameP num) (piecesP K num (l.map ItD.t))).2 (refsP num 16 (l.map ItD.t))).length rc, .agg (svPf (saveM m (nameP num) (piecesP K num (l.map ItD.t))).2 num (buildP K num (l.map ItD.t)).length l.length).toArray, .int .i64 ((saveM m (nameP num) (piecesP K num (l.map ItD.t))).2.getD 0)]) ∧
     RefIn w0 [] w' gr (saveM m (nameP num) (piecesP K num (l.map ItD.t))).1 (N ++ [rowRf ra rc (svRf (saveM m (nameP num) (piecesP K num (l.map ItD.t))).2 (refsP num 16 (l.map ItD.t)))]) := by
 have hln := hr.rd.num (by decide)
 have hnl : l.length ≤ 4096 := by have := hs.num; simpa using this
 apply amphoraref13_Save_vc
 obtain ⟨g5, w1, r1, k1⟩ := (St.start w).boxA (P := Tryz.prog) 28 (bv K)
 obtain ⟨g9, w2, r2, k2⟩ := k1.zeroA pkZ
 have k2 : St w [] w2 [.arr g5 28 (bv K), .arr g9 63 (pk3 0 0 0)] := k2
 have ldK : ∀ {w' L}, St w [] w' (.arr g5 28 (bv K) :: L) → (Instr.loadAt 28 (.pointer (some ⟨g5, 0, none⟩))).run Tryz.prog w' = .ok (.agg (bv K).toArray) w' := fun h => h.ldA (i := 0) (l := bv K) rfl (kyA' _) (kyS' _) (by simp [hk])
 refine ⟨g5, w1, r1, g9, w2, r2, _, ldK k2, (rbuild2_spec K hk num a n c l w2 (hr.keep0 k2.chg) hs).mono ?_⟩
 rintro e w3 ⟨ba, bc, ra, rc, rfl, k3⟩
 rw [hg] at k3 ⊢
 obtain ⟨xs, hxs⟩ : ∃ xs, piecesP K num (l.map ItD.t) = xs := ⟨_, rfl⟩
 obtain ⟨B, hB⟩ : ∃ B, buildP K num (l.map ItD.t) = B := ⟨_, rfl⟩
 obtain ⟨rs, hrs⟩ : ∃ rs, refsP num 16 (l.map ItD.t) = rs := ⟨_, rfl⟩
 have k3 : St w2 [] w3 [.row 5 1 (.slice ba B.length bc) B.length (bv B), rowRf ra rc rs] := by rw [← hB, ← hrs]; exact k3
 have k3b := Sx.St.callPart (M := [.arr g5 28 (bv K), .arr g9 63 (pk3 0 0 0)]) (N := []) (by rw [List.append_nil]; exact k2) k3
 rw [hxs, hB, hrs]
 have hB2 : ∀ (X : List UInt8), (if true = true then X else []) = X := fun _ => rfl
 have hR2 : ∀ (X : List RefD), (if true = true then X else []) = X := fun _ => rfl
 rw [hB2, hR2]
 refine ⟨_, _, _, _, _, _, _, rfl, fun h => by simp at h, fun _ => ⟨_, ldK k3b, (rpieces_spec K hk num a n c l w3 hg (hr.keep0 k3b.chg) hs).mono ?_⟩⟩
 rintro e w5 ⟨ps, la, lc, qa, qc, rfl, hps, k5⟩
 rw [hrs] at k5 ⊢
 rw [hxs] at hps
 have hpl : ps.length = xs.length := by have := congrArg List.length hps; simpa using this
 have hxl : xs.length = l.length + 2 := by rw [← hxs, pieces_len, List.length_map]
 have k5b := Sx.St.callPart (N := []) (by rw [List.append_nil]; exact k3b) k5
 obtain ⟨T, hT⟩ : ∃ T, ([.row 33 1 (.slice la ps.length lc) ps.length (ps.map PcD.v), .row 75 35 (.slice qa rs.length qc) rs.length (rs.flatMap refC)] ++ ps.map PcD.row : List Res) = T := ⟨_, rfl⟩
 rw [hT] at k5b
 -- what is held: the refs, the pieces, the pack
 have k5c : St w [] w5 ([rowRf ra rc rs] ++ (T ++ [.arr g9 63 (pk3 0 0 0)])) := by
   have h1 := k5b.sub (N := [.arr g9 63 (pk3 0 0 0)] ++ ([rowRf ra rc rs] ++ T)) (by simp)
   refine h1.perm ?_
   rw [← List.append_assoc [rowRf ra rc rs]]
   exact List.perm_append_comm
 have h5 := h.addSt k5c
 obtain ⟨Q, hQ⟩ : ∃ Q, N ++ [rowRf ra rc rs] = Q := ⟨_, rfl⟩
 have h5 : RefIn w0 [] w5 gr m (Q ++ (T ++ [.arr g9 63 (pk3 0 0 0)])) := by rw [← hQ]; simpa [List.append_assoc] using h5
 obtain ⟨nm, hnm⟩ : ∃ nm, nameP num = nm := ⟨_, rfl⟩
 rw [hnm]
 have name1 : ∀ w, Calls Tryz.prog 20 #[.int .i64 num] w fun e w' => e = .returned (strV nm) ∧ Chg [] w w' := fun w => by rw [← hnm]; exact refname_spec num hg w
 refine ⟨_, _, _, _, _, _, rfl, (name1 w5).mono ?_⟩
 rintro e w6 ⟨rfl, c6⟩
 refine ⟨_, rfl, (rcreate_spec nm (h5.same c6) (by omega) hc hfl).mono ?_⟩
 rintro e w7 ⟨rfl, h7⟩
 have hcc := create_count m nm
 have hc0 := create_ne0 m nm
 have hrow : ∀ {w'} {m' : DiskM}, RefIn w0 [] w' gr m' (Q ++ (T ++ [.arr g9 63 (pk3 0 0 0)])) → St w0 [] w' T := fun h => h.rest.sub ((List.sublist_append_left _ _).trans (List.sublist_append_right _ _))
 have hrow2 : ∀ {w'} {m' : DiskM}, RefIn w0 [] w' gr m' (Q ++ (T ++ [.arr g9 63 (pk3 0 0 0)])) → Rd w' la ps.length lc 1 (ps.map PcD.v) := fun h => by
   have := hrow h
   rw [← hT] at this
   exact this.rd (i := 0) rfl
 refine ⟨_, rfl, fun x y w' => ∃ (j : Nat) (m' : DiskM) (eo : Option Int), y = (j : Int) ∧ j ≤ xs.length ∧ x = eo.getD 0 ∧ eo ≠ some 0 ∧ m'.steps ≤ m.steps + 1 + j ∧ (eo = none → saveM m nm xs = tailM m' nm (xs.drop j)) ∧ (∀ e, eo = some e → saveM m nm xs = (m', some e)) ∧ RefIn w0 [] w' gr m' (Q ++ (T ++ [.arr g9 63 (pk3 0 0 0)])), fun _ y _ => xs.length - y.toNat, ⟨0, (createM m nm).1, (createM m nm).2, rfl, Nat.zero_le _, rfl, hc0, by omega, fun he => by rw [save_tail, he]; rfl, fun e he => by rw [save_tail, he], h7⟩, ?_⟩
 rintro x y w8 ⟨j, m', eo, rfl, hj, rfl, hne, hst, hgo, hstop, h8⟩
 refine ⟨fun hlt => ?_, fun hge => ?_⟩
 · rw [Bool.and_eq_true] at hlt
   have hj' : j < xs.length := by have := hlt.1; rw [hpl] at this; simp at this; omega
   have he : eo = none := by
     cases eo with
     | none => rfl
     | some e => have := hlt.2; simp at this; exact absurd (congrArg some this) hne
   subst he
   have hp : ps[j]? = some ps[j] := List.getElem?_eq_getElem (by omega)
   obtain ⟨p, hpp⟩ : ∃ p, ps[j] = p := ⟨_, rfl⟩
   rw [hpp] at hp
   have hxj : xs.drop j = p.l :: xs.drop (j + 1) := by
     have : xs[j]? = some p.l := by rw [← hps, List.getElem?_map, hp]; rfl
     obtain ⟨hj2, he⟩ := List.getElem?_eq_some_iff.1 this
     rw [List.drop_eq_getElem_cons hj2, he]
   have hgo2 := hgo rfl
   rw [hxj, tail_cons] at hgo2
   obtain ⟨b, o, hab, hcell⟩ := (hrow2 h8).cells.at_ (i := j) (v := p.v) (by rw [List.getElem?_map, hp]; rfl)
   have ldp : ∀ {w'} {m' : DiskM}, RefIn w0 [] w' gr m' (Q ++ (T ++ [.arr g9 63 (pk3 0 0 0)])) → (Instr.loadAt 33 (.pointer (some ⟨b, o + Int.toNat (j : Int) * 1, none⟩))).run Tryz.prog w' = .ok p.v w' := fun h => by
     obtain ⟨b', o', hab', hc'⟩ := (hrow2 h).cells.at_ (i := j) (v := p.v) (by rw [List.getElem?_map, hp]; rfl)
     rw [hab] at hab'
     simp only [Option.some.injEq, Addr.mk.injEq] at hab'
     obtain ⟨rfl, rfl, _⟩ := hab'
     rw [Int.toNat_natCast, Nat.mul_one]; exact ld1 (bsA' _) hc'
   have hprd : ∀ {w'} {m' : DiskM}, RefIn w0 [] w' gr m' (Q ++ (T ++ [.arr g9 63 (pk3 0 0 0)])) → RdB w' p.a p.l.length p.c p.l := fun h => by
     have := hrow h
     rw [← hT] at this
     exact this.rd (i := 2 + j) (by
       rw [List.getElem?_append_right (by simp)]
       simp only [List.length_cons, List.length_nil]
       rw [List.getElem?_map, show 2 + j - (0 + 1 + 1) = j by omega, hp]; rfl)
   let S : World → Prop := fun w' => ∃ m2, RefIn w0 [] w' gr m2 (Q ++ (T ++ [.arr g9 63 (pk3 0 0 0)]))
   have app : ∀ {w'} {g : Nat}, RefIn w0 [] w' gr m' (Q ++ (T ++ [.arr g9 63 (pk3 0 0 0)])) → Rd w' (some ⟨g, 0, none⟩) 1 1 1 [p.v] → Calls Tryz.prog 65 #[.pointer (some ⟨gr, 0, none⟩), strV nm, .slice (some ⟨g, 0, none⟩) 1 1] w' fun e w'' => e = .returned (.int .i64 ((appendM m' nm [p.l]).2.getD 0)) ∧ RefIn w0 [] w'' gr (appendM m' nm [p.l]).1 (Q ++ (T ++ [.arr g9 63 (pk3 0 0 0)])) := fun h hrd => rappend_spec nm _ 1 1 [p.v] [p.l] h hrd (Row2.cons (hprd h) (Row2.nil _)) (by omega) (by decide)
   have h8d := h8.same (Chg.drew [] w8)
   have next : ∀ {w'}, RefIn w0 [] w' gr (appendM m' nm [p.l]).1 (Q ++ (T ++ [.arr g9 63 (pk3 0 0 0)])) → ∃ m2 eo2, (appendM m' nm [p.l]).2.getD 0 = eo2.getD 0 ∧ eo2 ≠ some 0 ∧ m2.steps ≤ m.steps + 1 + (j + 1) ∧ (eo2 = none → saveM m nm xs = tailM m2 nm (xs.drop (j + 1))) ∧ (∀ e, eo2 = some e → saveM m nm xs = (m2, some e)) ∧ RefIn w0 [] w' gr m2 (Q ++ (T ++ [.arr g9 63 (pk3 0 0 0)])) := fun h => by
     have := append_count m' nm [p.l]
     refine ⟨_, (appendM m' nm [p.l]).2, rfl, append_ne0 m' nm _, by omega, fun he => ?_, fun e he => ?_, h⟩
     · rw [hgo2, he]
     · rw [hgo2, he]
   refine ⟨fun z w' => ∃ m2 eo2, z = eo2.getD 0 ∧ eo2 ≠ some 0 ∧ m2.steps ≤ m.steps + 1 + (j + 1) ∧ (eo2 = none → saveM m nm xs = tailM m2 nm (xs.drop (j + 1))) ∧ (∀ e, eo2 = some e → saveM m nm xs = (m2, some e)) ∧ RefIn w0 [] w' gr m2 (Q ++ (T ++ [.arr g9 63 (pk3 0 0 0)])), ⟨S, ⟨_, h8d⟩, b, o, hab, by omega, by omega, _, _, _, fun w' ⟨_, hw⟩ => ldp hw, (name1 _).mono ?_, ?_⟩, ?_⟩
   · rintro e w9 ⟨rfl, c9⟩
     have h9 := h8d.same c9
     obtain ⟨g, w10, r10, k10⟩ := (St.start w9).lit bbT [p.v] (by simp [PcD.v, Value.oneCell']) (by simp)
     have h10 := h9.same k10.chg
     refine ⟨_, rfl, S, fun _ h => h, ⟨_, h9⟩, _, _, _, w10, r10, S, fun _ h => h, ⟨_, h10⟩, (app h10 (k10.rd (i := 0) rfl)).mono ?_⟩
     rintro e w11 ⟨rfl, h11⟩
     exact ⟨_, rfl, S, fun _ h => h, ⟨_, h11⟩, next h11⟩
   · obtain ⟨g, w12, r12, k12⟩ := (St.start w8.drew).lit bbT [p.v] (by simp [PcD.v, Value.oneCell']) (by simp)
     have h12 := h8d.same k12.chg
     refine ⟨_, _, _, w12, r12, S, fun _ h => h, ⟨_, h12⟩, (name1 w12).mono ?_⟩
     rintro e w13 ⟨rfl, c13⟩
     have h13 := h12.same c13
     have hrd : Rd w13 (some ⟨g, 0, none⟩) 1 1 1 [p.v] := (k12.same c13).rd (i := 0) rfl
     refine ⟨_, rfl, S, fun _ h => h, ⟨_, h13⟩, (app h13 hrd).mono ?_⟩
     rintro e w14 ⟨rfl, h14⟩
     exact ⟨_, rfl, S, fun _ h => h, ⟨_, h14⟩, next h14⟩
   · rintro z w15 ⟨m2, eo2, rfl, hne2, hst2, hg2, hs2, h15⟩
     exact ⟨⟨j + 1, m2, eo2, wrap_succ hj' (by omega), by omega, rfl, hne2, by omega, hg2, hs2, h15⟩, mu_succ hj' (by omega)⟩
 · refine ⟨fun z w' => ∃ m2 eo2, z = eo2.getD 0 ∧ eo2 ≠ some 0 ∧ saveM m nm xs = (m2, eo2) ∧ RefIn w0 [] w' gr m2 (Q ++ (T ++ [.arr g9 63 (pk3 0 0 0)])), ⟨fun hz => ?_, fun hz => ?_⟩, ?_⟩
   · have he : eo = none := by
       cases eo with
       | none => rfl
       | some e => simp at hz; exact absurd (congrArg some hz) hne
     subst he
     have hj' : j = xs.length := by
       rw [hz, Bool.and_true, hpl] at hge
       simp at hge; omega
     have hgo2 := hgo rfl
     rw [hj', List.drop_length, tail_nil] at hgo2
     refine (name1 w8).mono ?_
     rintro e w16 ⟨rfl, c16⟩
     refine ⟨_, rfl, (rsync_spec nm (h8.same c16) (by omega)).mono ?_⟩
     rintro e w17 ⟨rfl, h17⟩
     exact ⟨_, rfl, _, _, rfl, sync_ne0 m' nm, by rw [hgo2], h17⟩
   · cases eo with
     | none => simp at hz
     | some e => exact ⟨_, _, rfl, hne, hstop e rfl, h8⟩
   rintro z w18 ⟨m2, eo2, rfl, hne2, hsv, h18⟩
   rw [hsv]
   have h18' : RefIn w0 [] w18 gr m2 ((Q ++ T) ++ [.arr g9 63 (pk3 0 0 0)]) := by rw [List.append_assoc]; exact h18
   refine ⟨fun hz => ?_, fun hz => ?_⟩
   · cases eo2 with
     | none => simp at hz
     | some e =>
       obtain ⟨w19, r19, l19, h19⟩ := pkRetR h18' rfl 0 0 0
       have hN : N.Sublist (Q ++ T) := by rw [← hQ]; exact (List.sublist_append_left N _).trans (List.sublist_append_left _ _)
       exact ⟨_, pk_build0 w18, w19, r19, _, l19, none, 0, rfl, (h19.subN hN).addSt ((St.start _).addNil 75 35)⟩
   · cases eo2 with
     | some e => simp at hz; exact absurd (congrArg some hz) hne2
     | none =>
       obtain ⟨w19, r19, l19, h19⟩ := pkRetR h18' rfl num ((B.length : Nat) : Int) ((n : Nat) : Int)
       refine ⟨_, pk_build _ _ _ w18, w19, r19, _, l19, ra, rc, ?_, ?_⟩
       · rw [hln]; rfl
       · have := h19.subN (List.sublist_append_left Q T)
         rw [← hQ] at this
         exact this

end

end Go.Proofs.YtmdandkoajocpaaGreatDoor
end
