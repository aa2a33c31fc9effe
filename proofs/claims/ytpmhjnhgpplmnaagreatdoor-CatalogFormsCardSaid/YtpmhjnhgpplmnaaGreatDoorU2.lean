/- The proof of CatalogFormsCardSaid, part 2: what it rests on (conditions: those that each theorem names). -/
import Derived.Test.YtpmhjnhgpplmnaaGreatDoorU1
import Derived.Test.YtpmhjnhgpplmnaaGreatDoorRows
import Derived.LaidMore
import Derived.LaidHandle
import Derived.Lib.LaidTab
import Derived.Stop.Joined
import Derived.Laws.StructEq
import Derived.Laws.CopyRow
import Derived.Laws.IdiomCopy
section
namespace Go.Proofs.YtpmhjnhgpplmnaaGreatDoor
open Go Go.Proofs.YtpmhjnhgpplmnaaGreatDoor.Sx

abbrev LdQ (T g o:Nat) (v:Value) (w:World):Prop:=(Instr.loadAt T (.pointer (some ⟨g,o,none⟩))).run Tryz.prog w=.ok v w
abbrev StQ (T g o:Nat) (v:Value) (w w':World):Prop:=(Instr.storeAt T (.pointer (some ⟨g,o,none⟩)) v).run Tryz.prog w=.ok () w'
abbrev AlQ (T g:Nat) (w w':World):Prop:=(Instr.alloc T true (.tuple #[])).run Tryz.prog w=.ok (.pointer (some ⟨g,0,none⟩)) w'
set_option maxRecDepth 100000
theorem sha_begin_vc  (w:World) (R:Ending→World→Prop) (h:∃g0 w1,AlQ 462 g0 w w1∧(∃t1,(Instr.build 394 #[(0,(.int .u32 1779033703)),(1,(.int .u32 3144134277)),(2,(.int .u32 1013904242)),(3,(.int .u32 2773480762)),(4,(.int .u32 1359893119)),(5,(.int .u32 2600822924)),(6,(.int .u32 528734635)),(7,(.int .u32 1541459225))]).run Tryz.prog w1=.ok (.agg t1) w1∧(∃t2,(Instr.build 462 #[(0,(.agg t1))]).run Tryz.prog w1=.ok (.agg t2) w1∧(∃w2,StQ 462 g0 0 (.agg t2) w1 w2∧(∃r0,(loadVar 462 ⟨g0,0,none⟩).run Tryz.prog w2=.ok r0 w2∧(R (.returned r0) w2)))))):Calls Tryz.prog 361 #[] w R:=calls_of_ev2 (tc:=.sq [.reg (.op .bx .nil),.reg (.op (.ld .agg) (.op (.ld .agg) (.op .u .nil)))] .leaf) Tryz.func361 (by kernel_rfl) (by kernel_rfl) h

theorem sha_rotr_vc (a0:Int) (a1:Int) (w:World) (R:Ending→World→Prop) (h:Calls Tryz.prog 383 #[(.int .u32 a0),(.int .i64 (IntKind.wrap .i64 (0-a1)))] w fun e8 w1=>∃t8,e8=.returned (.int .u32 t8)∧(R (.returned (.int .u32 t8)) w1)):Calls Tryz.prog 381 #[(.int .u32 a0),(.int .i64 a1)] w R:=calls_of_ev2 (tc:=.sq [.rg 1,.reg (.pp 3 (.op (.cl [.int .u32]) (.op .p .nil)))] .leaf) Tryz.func381 (by kernel_rfl) (by kernel_rfl) h

theorem sha_schedule_vc (a0a:Option Addr) (a0n:Nat) (a0c:Nat) (w:World) (R:Ending→World→Prop) (h:∃g2 w1,AlQ 393 g2 w w1∧(∃g3 w2,AlQ 393 g3 w1 w2∧(∃(I:Int→World→Prop) (μ:Int→World→Nat),I 0 w2∧(∀x8,∀w3,I x8 w3→((decide (x8<(16:Int))=true→(∃S:World→Prop,S w3.drew∧(∃t15b t15o,a0a=some ⟨t15b,t15o,none⟩∧0≤(IntKind.wrap .i64 ((4:Int)*x8))∧(IntKind.wrap .i64 ((4:Int)*x8))<(a0n:Int)∧(∃t23b t23o,a0a=some ⟨t23b,t23o,none⟩∧0≤(IntKind.wrap .i64 ((IntKind.wrap .i64 ((4:Int)*x8))+(1:Int)))∧(IntKind.wrap .i64 ((IntKind.wrap .i64 ((4:Int)*x8))+(1:Int)))<(a0n:Int)∧(∃t32b t32o,a0a=some ⟨t32b,t32o,none⟩∧0≤(IntKind.wrap .i64 ((IntKind.wrap .i64 ((4:Int)*x8))+(2:Int)))∧(IntKind.wrap .i64 ((IntKind.wrap .i64 ((4:Int)*x8))+(2:Int)))<(a0n:Int)∧(∃t41b t41o,a0a=some ⟨t41b,t41o,none⟩∧0≤(IntKind.wrap .i64 ((IntKind.wrap .i64 ((4:Int)*x8))+(3:Int)))∧(IntKind.wrap .i64 ((IntKind.wrap .i64 ((4:Int)*x8))+(3:Int)))<(a0n:Int)∧(∃t16,(∀w',S w'→LdQ 5 t15b (t15o+Int.toNat (IntKind.wrap .i64 ((4:Int)*x8))*1) (.int .u8 t16) w')∧(∃t24,(∀w',S w'→LdQ 5 t23b (t23o+Int.toNat (IntKind.wrap .i64 ((IntKind.wrap .i64 ((4:Int)*x8))+(1:Int)))*1) (.int .u8 t24) w')∧(∃t33,(∀w',S w'→LdQ 5 t32b (t32o+Int.toNat (IntKind.wrap .i64 ((IntKind.wrap .i64 ((4:Int)*x8))+(2:Int)))*1) (.int .u8 t33) w')∧(∃t42,(∀w',S w'→LdQ 5 t41b (t41o+Int.toNat (IntKind.wrap .i64 ((IntKind.wrap .i64 ((4:Int)*x8))+(3:Int)))*1) (.int .u8 t42) w')∧(0≤x8∧x8<(64:Int)∧(∃w4,(Instr.storeAt 370 (.pointer (some ⟨g3,0+Int.toNat x8*1,none⟩)) (.int .u32 (bor .u32 (bor .u32 (bor .u32 (shlI .u32 (IntKind.wrap .u32 t16) (24:Int)) (shlI .u32 (IntKind.wrap .u32 t24) (16:Int))) (shlI .u32 (IntKind.wrap .u32 t33) (8:Int))) (IntKind.wrap .u32 t42)))).run Tryz.prog w3.drew=.ok () w4∧(I (IntKind.wrap .i64 (x8+1)) w4∧μ (IntKind.wrap .i64 (x8+1)) w4<μ x8 w3)))))))))))))∧(decide (x8<(16:Int))=false→(∃(I_1:Int→World→Prop) (μ_1:Int→World→Nat),I_1 16 w3∧(∀x5,∀w5,I_1 x5 w5→((decide (x5<(64:Int))=true→(∃S:World→Prop,S w5.drew∧(0≤(IntKind.wrap .i64 (x5- (15:Int)))∧(IntKind.wrap .i64 (x5- (15:Int)))<(64:Int)∧(0≤(IntKind.wrap .i64 (x5- (15:Int)))∧(IntKind.wrap .i64 (x5- (15:Int)))<(64:Int)∧(0≤(IntKind.wrap .i64 (x5- (15:Int)))∧(IntKind.wrap .i64 (x5- (15:Int)))<(64:Int)∧(∃t54,(∀w',S w'→LdQ 370 g3 (0+Int.toNat (IntKind.wrap .i64 (x5- (15:Int)))*1) (.int .u32 t54) w')∧(∃t59,(∀w',S w'→LdQ 370 g3 (0+Int.toNat (IntKind.wrap .i64 (x5- (15:Int)))*1) (.int .u32 t59) w')∧(∃t65,(∀w',S w'→LdQ 370 g3 (0+Int.toNat (IntKind.wrap .i64 (x5- (15:Int)))*1) (.int .u32 t65) w')∧(Calls Tryz.prog 381 #[(.int .u32 t54),(.int .i64 7)] w5.drew fun e55 w6=>∃t55,e55=.returned (.int .u32 t55)∧(∃S_1:World→Prop,(∀w',S_1 w'→S w')∧S_1 w6∧(Calls Tryz.prog 381 #[(.int .u32 t59),(.int .i64 18)] w6 fun e60 w7=>∃t60,e60=.returned (.int .u32 t60)∧(∃S_2:World→Prop,(∀w',S_2 w'→S_1 w')∧S_2 w7∧(∃S_3:World→Prop,S_3 w7.drew∧(0≤(IntKind.wrap .i64 (x5- (2:Int)))∧(IntKind.wrap .i64 (x5- (2:Int)))<(64:Int)∧(0≤(IntKind.wrap .i64 (x5- (2:Int)))∧(IntKind.wrap .i64 (x5- (2:Int)))<(64:Int)∧(0≤(IntKind.wrap .i64 (x5- (2:Int)))∧(IntKind.wrap .i64 (x5- (2:Int)))<(64:Int)∧(∃t71,(∀w',S_3 w'→LdQ 370 g3 (0+Int.toNat (IntKind.wrap .i64 (x5- (2:Int)))*1) (.int .u32 t71) w')∧(∃t76,(∀w',S_3 w'→LdQ 370 g3 (0+Int.toNat (IntKind.wrap .i64 (x5- (2:Int)))*1) (.int .u32 t76) w')∧(∃t82,(∀w',S_3 w'→LdQ 370 g3 (0+Int.toNat (IntKind.wrap .i64 (x5- (2:Int)))*1) (.int .u32 t82) w')∧(Calls Tryz.prog 381 #[(.int .u32 t71),(.int .i64 17)] w7.drew fun e72 w8=>∃t72,e72=.returned (.int .u32 t72)∧(∃S_4:World→Prop,(∀w',S_4 w'→S_3 w')∧S_4 w8∧(Calls Tryz.prog 381 #[(.int .u32 t76),(.int .i64 19)] w8 fun e77 w9=>∃t77,e77=.returned (.int .u32 t77)∧(∃S_5:World→Prop,(∀w',S_5 w'→S_4 w')∧S_5 w9∧(∃S_6:World→Prop,S_6 w9.drew∧(0≤(IntKind.wrap .i64 (x5- (7:Int)))∧(IntKind.wrap .i64 (x5- (7:Int)))<(64:Int)∧(0≤(IntKind.wrap .i64 (x5- (16:Int)))∧(IntKind.wrap .i64 (x5- (16:Int)))<(64:Int)∧(∃t90,(∀w',S_6 w'→LdQ 370 g3 (0+Int.toNat (IntKind.wrap .i64 (x5- (7:Int)))*1) (.int .u32 t90) w')∧(∃t97,(∀w',S_6 w'→LdQ 370 g3 (0+Int.toNat (IntKind.wrap .i64 (x5- (16:Int)))*1) (.int .u32 t97) w')∧(0≤x5∧x5<(64:Int)∧(∃w10,(Instr.storeAt 370 (.pointer (some ⟨g3,0+Int.toNat x5*1,none⟩)) (.int .u32 (IntKind.wrap .u32 ((IntKind.wrap .u32 ((IntKind.wrap .u32 ((bxor .u32 (bxor .u32 t72 t77) (shrI .u32 t82 (10:Int)))+t90))+(bxor .u32 (bxor .u32 t55 t60) (shrI .u32 t65 (3:Int)))))+t97)))).run Tryz.prog w9.drew=.ok () w10∧(I_1 (IntKind.wrap .i64 (x5+1)) w10∧μ_1 (IntKind.wrap .i64 (x5+1)) w10<μ_1 x5 w5)))))))))))))))))))))))))))))))∧(decide (x5<(64:Int))=false→(∃t100,LdQ 393 g3 0 (.agg t100) w5∧(∃w11,StQ 393 g2 0 (.agg t100) w5 w11∧(∃r2,(loadVar 393 ⟨g2,0,none⟩).run Tryz.prog w11=.ok r2 w11∧(R (.returned r2) w11)))))))))))))):Calls Tryz.prog 380 #[(.slice a0a a0n a0c)] w R:=calls_of_ev2 (tc:=.sq [.reg (.op .bx .nil),.reg (.op .bx .nil),.seq (.rg 1) (.blk (.loop (lr [(4,1),(8,39)]) [8] [.int .i64] (.sq [.rg 1,.cond .leaf .leaf,.blk (.seq (.rg 2) (.drawS (.tks [0,1,2,3] (.tk 4 .ix (.tks (lr [(8,4)]) (.tk 12 .ix (.tks (lr [(17,4)]) (.tk 21 .ix (.tks (lr [(26,4)]) (.tk 30 .ix (.ts 5 (.int .u8) (.tks [6,7] (.ts 13 (.int .u8) (.tks [14,15,16] (.ts 22 (.int .u8) (.tks [23,24,25] (.ts 31 (.int .u8) (.tks [32,33] (.tk 34 .ix (.go 35 .u .nil)))))))))))))))))) [35]))] (.rg 2)))),.seq (.rg 1) (.blk (.loop (lr [(5,3),(47,53)]) [5] [.int .i64] (.sq [.seq (.rg 2) (.cond .leaf .leaf),.blk (.sq [.drawS (.tks [0,1] (.tk 2 .ix (.tks [5,6] (.tk 7 .ix (.tks [11,12] (.tk 13 .ix (.ts 3 (.int .u32) (.ts 8 (.int .u32) (.ts 14 (.int .u32) (.tk 15 .p (.go 4 (.cl [.int .u32]) (.go 9 (.cl [.int .u32]) (.tks [10,16,17] .nil))))))))))))) [],.drawS (.tks [0,1] (.tk 2 .ix (.tks [5,6] (.tk 7 .ix (.tks [11,12] (.tk 13 .ix (.ts 3 (.int .u32) (.ts 8 (.int .u32) (.ts 14 (.int .u32) (.tk 15 .p (.go 4 (.cl [.int .u32]) (.go 9 (.cl [.int .u32]) (.tks [10,16,17] .nil))))))))))))) []] (.drawS (.tks [0,1,2,3] (.tk 4 .ix (.tks [7,9,10] (.tk 11 .ix (.ts 5 (.int .u32) (.tks [6,8] (.ts 12 (.int .u32) (.tk 13 .p (.tk 14 .ix (.go 15 .u .nil)))))))))) [15]))] (.rg 3)))),.reg (.op (.ld .agg) (.op .u .nil))] .leaf) Tryz.func380 (by kernel_rfl) (by kernel_rfl) h

theorem sha_state_block_vc (a0b:Nat) (a0o:Nat) (a1a:Option Addr) (a1n:Nat) (a1c:Nat) (w:World) (R:Ending→World→Prop) (h:Calls Tryz.prog 380 #[(.slice a1a a1n a1c)] w fun e19 w1=>∃t19,e19=.returned (.agg t19)∧(∃g4 w2,AlQ 393 g4 w1 w2∧(∃w3,StQ 393 g4 0 (.agg t19) w2 w3∧(∃S:World→Prop,S w3.drew∧(∃t24,(∀w',S w'→LdQ 370 a0b a0o (.int .u32 t24) w')∧(∃t29,(∀w',S w'→LdQ 370 a0b (a0o+1) (.int .u32 t29) w')∧(∃t34,(∀w',S w'→LdQ 370 a0b (a0o+2) (.int .u32 t34) w')∧(∃t39,(∀w',S w'→LdQ 370 a0b (a0o+3) (.int .u32 t39) w')∧(∃t44,(∀w',S w'→LdQ 370 a0b (a0o+4) (.int .u32 t44) w')∧(∃t49,(∀w',S w'→LdQ 370 a0b (a0o+5) (.int .u32 t49) w')∧(∃t54,(∀w',S w'→LdQ 370 a0b (a0o+6) (.int .u32 t54) w')∧(∃t59,(∀w',S w'→LdQ 370 a0b (a0o+7) (.int .u32 t59) w')∧(∃(I:Int→Int→Int→Int→Int→Int→Int→Int→Int→World→Prop) (μ:Int→Int→Int→Int→Int→Int→Int→Int→Int→World→Nat),I t24 t29 t34 t39 t44 t49 t54 t59 0 w3.drew∧(∀x5 x6 x7 x8 x9 x10 x11 x12 x60,∀w4,I x5 x6 x7 x8 x9 x10 x11 x12 x60 w4→((decide (x60<(64:Int))=true→(∃S_1:World→Prop,S_1 w4.drew∧(0≤x60∧x60<(64:Int)∧(0≤x60∧x60<(64:Int)∧(∃t84,(∀w',S_1 w'→LdQ 370 6 (0+Int.toNat x60*1) (.int .u32 t84) w')∧(∃t88,(∀w',S_1 w'→LdQ 370 g4 (0+Int.toNat x60*1) (.int .u32 t88) w')∧(Calls Tryz.prog 381 #[(.int .u32 x9),(.int .i64 6)] w4.drew fun e65 w5=>∃t65,e65=.returned (.int .u32 t65)∧(∃S_2:World→Prop,(∀w',S_2 w'→S_1 w')∧S_2 w5∧(Calls Tryz.prog 381 #[(.int .u32 x9),(.int .i64 11)] w5 fun e67 w6=>∃t67,e67=.returned (.int .u32 t67)∧(∃S_3:World→Prop,(∀w',S_3 w'→S_2 w')∧S_3 w6∧(Calls Tryz.prog 381 #[(.int .u32 x9),(.int .i64 25)] w6 fun e70 w7=>∃t70,e70=.returned (.int .u32 t70)∧(∃S_4:World→Prop,(∀w',S_4 w'→S_3 w')∧S_4 w7∧(Calls Tryz.prog 381 #[(.int .u32 x5),(.int .i64 2)] w7 fun e91 w8=>∃t91,e91=.returned (.int .u32 t91)∧(Calls Tryz.prog 381 #[(.int .u32 x5),(.int .i64 13)] w8 fun e93 w9=>∃t93,e93=.returned (.int .u32 t93)∧(Calls Tryz.prog 381 #[(.int .u32 x5),(.int .i64 22)] w9 fun e96 w10=>∃t96,e96=.returned (.int .u32 t96)∧(I (IntKind.wrap .u32 ((IntKind.wrap .u32 ((IntKind.wrap .u32 ((IntKind.wrap .u32 ((IntKind.wrap .u32 (x12+(bxor .u32 (bxor .u32 t65 t67) t70)))+(bxor .u32 (band .u32 x9 x10) (band .u32 (bxor .u32 ((IntKind.max .u32)) x9) x11))))+t84))+t88))+(IntKind.wrap .u32 ((bxor .u32 (bxor .u32 t91 t93) t96)+(bxor .u32 (bxor .u32 (band .u32 x5 x6) (band .u32 x5 x7)) (band .u32 x6 x7)))))) x5 x6 x7 (IntKind.wrap .u32 (x8+(IntKind.wrap .u32 ((IntKind.wrap .u32 ((IntKind.wrap .u32 ((IntKind.wrap .u32 (x12+(bxor .u32 (bxor .u32 t65 t67) t70)))+(bxor .u32 (band .u32 x9 x10) (band .u32 (bxor .u32 ((IntKind.max .u32)) x9) x11))))+t84))+t88)))) x9 x10 x11 (IntKind.wrap .i64 (x60+1)) w10∧μ (IntKind.wrap .u32 ((IntKind.wrap .u32 ((IntKind.wrap .u32 ((IntKind.wrap .u32 ((IntKind.wrap .u32 (x12+(bxor .u32 (bxor .u32 t65 t67) t70)))+(bxor .u32 (band .u32 x9 x10) (band .u32 (bxor .u32 ((IntKind.max .u32)) x9) x11))))+t84))+t88))+(IntKind.wrap .u32 ((bxor .u32 (bxor .u32 t91 t93) t96)+(bxor .u32 (bxor .u32 (band .u32 x5 x6) (band .u32 x5 x7)) (band .u32 x6 x7)))))) x5 x6 x7 (IntKind.wrap .u32 (x8+(IntKind.wrap .u32 ((IntKind.wrap .u32 ((IntKind.wrap .u32 ((IntKind.wrap .u32 (x12+(bxor .u32 (bxor .u32 t65 t67) t70)))+(bxor .u32 (band .u32 x9 x10) (band .u32 (bxor .u32 ((IntKind.max .u32)) x9) x11))))+t84))+t88)))) x9 x10 x11 (IntKind.wrap .i64 (x60+1)) w10<μ x5 x6 x7 x8 x9 x10 x11 x12 x60 w4))))))))))))))))∧(decide (x60<(64:Int))=false→(∃t131,(Instr.build 394 #[(0,(.int .u32 x5)),(1,(.int .u32 x6)),(2,(.int .u32 x7)),(3,(.int .u32 x8)),(4,(.int .u32 x9)),(5,(.int .u32 x10)),(6,(.int .u32 x11)),(7,(.int .u32 x12))]).run Tryz.prog w4=.ok (.agg t131) w4∧(∃(I_1:Int→World→Prop) (μ_1:Int→World→Nat),I_1 0 w4∧(∀x132,∀w11,I_1 x132 w11→((decide (x132<(8:Int))=true→(∃t135,(Instr.index 394 (.agg t131) (.int .i64 x132)).run Tryz.prog w11=.ok (.int .u32 t135) w11∧(∃S_1:World→Prop,S_1 w11.drew∧(0≤x132∧x132<(8:Int)∧(∃t141,(∀w',S_1 w'→LdQ 370 a0b (a0o+Int.toNat x132*1) (.int .u32 t141) w')∧(0≤x132∧x132<(8:Int)∧(∃w12,StQ 370 a0b (a0o+Int.toNat x132*1) (.int .u32 (IntKind.wrap .u32 (t141+t135))) w11.drew w12∧(I_1 (IntKind.wrap .i64 (x132+1)) w12∧μ_1 (IntKind.wrap .i64 (x132+1)) w12<μ_1 x132 w11))))))))∧(decide (x132<(8:Int))=false→(R (.returned (.tuple #[])) w11)))))))))))))))))))))):Calls Tryz.prog 376 #[(.pointer (some ⟨a0b,a0o,none⟩)),(.slice a1a a1n a1c)] w R:=calls_of_ev2 (tc:=.sq [.reg (.op .p (.op (.cl [.agg]) (.op .bx (.op .u .nil)))),.drawS (.tks (lr [(0,4),(5,4),(10,4),(15,4),(20,4),(25,4),(30,4),(35,4)]) (.ts 4 (.int .u32) (.tk 40 .p (.ts 9 (.int .u32) (.tk 41 .p (.ts 14 (.int .u32) (.tk 42 .p (.ts 19 (.int .u32) (.tk 43 .p (.ts 24 (.int .u32) (.tk 44 .p (.ts 29 (.int .u32) (.tk 45 .p (.ts 34 (.int .u32) (.tk 46 .p (.ts 39 (.int .u32) (.tk 47 .p .nil))))))))))))))))) [],.seq (.rg 1) (.blk (.loop (lr [(5,11),(60,63)]) (lr [(5,8),(60,1)]) [.int .u32,.int .u32,.int .u32,.int .u32,.int .u32,.int .u32,.int .u32,.int .u32,.int .i64] (.sq [.rg 1,.cond .leaf .leaf,.blk (.sq [.rg 2,.drawS (.tks (lr [(0,2),(3,1),(6,1),(10,8),(19,1)]) (.tk 20 .ix (.tk 23 .p (.tk 24 .ix (.ts 21 (.int .u32) (.ts 25 (.int .u32) (.go 2 (.cl [.int .u32]) (.go 4 (.cl [.int .u32]) (.tk 5 .p (.go 7 (.cl [.int .u32]) (.tks [8,9,18,22,26,27] .nil))))))))))) [],.reg (.op .p (.op (.cl [.int .u32]) (.op .p (.op (.cl [.int .u32]) (.pp 2 (.op (.cl [.int .u32]) (.pp 14 .nil)))))))] (.rg 20))] (.rg 2)))),.reg (.pp 8 (.op (.ld .agg) (.op .p .nil)))] (.blk (.loop (lr [(16,2),(132,16)]) [132] [.int .i64] (.sq [.rg 1,.cond .leaf .leaf,.blk (.seq (.reg (.op .p (.op (.ld (.int .u32)) (.pp 2 .nil)))) (.drawS (.tks [0,1,2,3] (.tk 4 .ix (.tks [6,8,9] (.ts 5 (.int .u32) (.tk 7 .p (.tk 10 .ix (.go 11 .u .nil))))))) [11]))] (.rg 2))))) Tryz.func376 (by kernel_rfl) (by kernel_rfl) h

theorem sha_state_write_vc (a0b:Nat) (a0o:Nat) (a1a:Option Addr) (a1n:Nat) (a1c:Nat) (w:World) (R:Ending→World→Prop) (h:∃t8,LdQ 3 a0b (a0o+9) (.int .i64 t8) w∧(∃w1,StQ 3 a0b (a0o+9) (.int .i64 (IntKind.wrap .i64 (t8+(a1n:Int)))) w w1∧(∃t17a t17n t17c,LdQ 26 a0b (a0o+8) (.slice t17a t17n t17c) w1∧(∃J:Option Addr→Nat→Nat→World→Prop,((decide ((t17n:Int)>(0:Int))=true→(∃t23a t23n t23c,LdQ 26 a0b (a0o+8) (.slice t23a t23n t23c) w1∧(∃S:World→Prop,S w1.drew∧(0≤(if (a1n:Int)<(IntKind.wrap .i64 ((64:Int)- (t23n:Int))) then (a1n:Int) else (IntKind.wrap .i64 ((64:Int)- (t23n:Int))))∧(if (a1n:Int)<(IntKind.wrap .i64 ((64:Int)- (t23n:Int))) then (a1n:Int) else (IntKind.wrap .i64 ((64:Int)- (t23n:Int))))≤(a1c:Int)∧(∃t33a t33n t33c,(∀w',S w'→LdQ 26 a0b (a0o+8) (.slice t33a t33n t33c) w')∧(∃t37a t37n t37c w2,(Builtin.append_ #[26,26] 26 #[(.slice t33a t33n t33c),(.slice a1a (Int.toNat (if (a1n:Int)<(IntKind.wrap .i64 ((64:Int)- (t23n:Int))) then (a1n:Int) else (IntKind.wrap .i64 ((64:Int)- (t23n:Int))))) a1c)]).run Tryz.prog w1.drew=.ok (.slice t37a t37n t37c) w2∧(∃S_1:World→Prop,(∀w',S_1 w'→S w')∧S_1 w2∧(∃w3,StQ 26 a0b (a0o+8) (.slice t37a t37n t37c) w2 w3∧(0≤(if (a1n:Int)<(IntKind.wrap .i64 ((64:Int)- (t23n:Int))) then (a1n:Int) else (IntKind.wrap .i64 ((64:Int)- (t23n:Int))))∧(if (a1n:Int)<(IntKind.wrap .i64 ((64:Int)- (t23n:Int))) then (a1n:Int) else (IntKind.wrap .i64 ((64:Int)- (t23n:Int))))≤(a1n:Int)∧(a1n:Int)≤(a1c:Int)∧∀t42a,SubA 1 a1a (Int.toNat (if (a1n:Int)<(IntKind.wrap .i64 ((64:Int)- (t23n:Int))) then (a1n:Int) else (IntKind.wrap .i64 ((64:Int)- (t23n:Int))))) a1c t42a→(∃t46a t46n t46c,LdQ 26 a0b (a0o+8) (.slice t46a t46n t46c) w3∧((decide ((t46n:Int)<(64:Int))=true→(R (.returned (.tuple #[])) w3))∧(decide ((t46n:Int)<(64:Int))=false→(∃t53a t53n t53c,LdQ 26 a0b (a0o+8) (.slice t53a t53n t53c) w3∧(Calls Tryz.prog 376 #[(.pointer (some ⟨a0b,a0o,none⟩)),(.slice t53a t53n t53c)] w3 fun e54 w4=>e54=.returned (.tuple #[])∧(∃t59a t59n t59c,LdQ 26 a0b (a0o+8) (.slice t59a t59n t59c) w4∧(0≤(0:Int)∧(0:Int)≤(t59c:Int)∧(∃w5,StQ 26 a0b (a0o+8) (.slice t59a 0 t59c) w4 w5∧(J t42a ((a1n)- (Int.toNat (if (a1n:Int)<(IntKind.wrap .i64 ((64:Int)- (t23n:Int))) then (a1n:Int) else (IntKind.wrap .i64 ((64:Int)- (t23n:Int)))))) (a1c- (Int.toNat (if (a1n:Int)<(IntKind.wrap .i64 ((64:Int)- (t23n:Int))) then (a1n:Int) else (IntKind.wrap .i64 ((64:Int)- (t23n:Int)))))) w5))))))))))))))))))∧(decide ((t17n:Int)>(0:Int))=false→(J a1a a1n a1c w1)))∧(∀x1a x1n x1c,∀w6,J x1a x1n x1c w6→(∃(I:Option Addr→Nat→Nat→World→Prop) (μ:Option Addr→Nat→Nat→World→Nat),I x1a x1n x1c w6∧(∀x1a_1 x1n_1 x1c_1,∀w7,I x1a_1 x1n_1 x1c_1 w7→((decide ((x1n_1:Int)≥(64:Int))=true→(0≤(64:Int)∧(64:Int)≤(x1c_1:Int)∧(Calls Tryz.prog 376 #[(.pointer (some ⟨a0b,a0o,none⟩)),(.slice x1a_1 64 x1c_1)] w7 fun e69 w8=>e69=.returned (.tuple #[])∧(0≤(64:Int)∧(64:Int)≤(x1n_1:Int)∧(x1n_1:Int)≤(x1c_1:Int)∧∀t71a,SubA 1 x1a_1 64 x1c_1 t71a→(I t71a ((x1n_1)-64) (x1c_1-64) w8∧μ t71a ((x1n_1)-64) (x1c_1-64) w8<μ x1a_1 x1n_1 x1c_1 w7)))))∧(decide ((x1n_1:Int)≥(64:Int))=false→(∃t76a t76n t76c,LdQ 26 a0b (a0o+8) (.slice t76a t76n t76c) w7∧(∃t78a t78n t78c w9,(Builtin.append_ #[26,26] 26 #[(.slice t76a t76n t76c),(.slice x1a_1 x1n_1 x1c_1)]).run Tryz.prog w7=.ok (.slice t78a t78n t78c) w9∧(∃w10,StQ 26 a0b (a0o+8) (.slice t78a t78n t78c) w9 w10∧(R (.returned (.tuple #[])) w10))))))))))))):Calls Tryz.prog 362 #[(.pointer (some ⟨a0b,a0o,none⟩)),(.slice a1a a1n a1c)] w R:=calls_of_ev2 (tc:=.sq [.reg (.pp 3 (.op (.ld (.int .i64)) (.pp 5 (.op .u .nil)))),.seq (.reg (.pp 3 (.op (.ld .slice) (.pp 2 .nil)))) (.join (lr [(1,1),(4,1),(20,43)]) [1] [.slice] (.cond (.sq [.reg (.pp 3 (.op (.ld .slice) (.pp 6 .nil))),.drawS (.tks [0,1,2,3,5,6] (.tk 7 .sl (.ts 4 .slice (.go 8 (.r .slice) (.tks [9,10] (.go 11 .u .nil)))))) [11],.reg (.pp 2 (.op .sl (.op .p .nil))),.seq (.reg (.pp 3 (.op (.ld .slice) (.pp 2 .nil)))) (.cond .leaf .leaf),.reg (.pp 4 (.op (.ld .slice) (.op (.cl []) .nil)))] (.reg (.pp 4 (.op (.ld .slice) (.op .sl (.pp 2 (.op .u .nil))))))) .leaf)),.blk (.loop (lr [(1,1),(63,9)]) [1] [.slice] (.seq (.seq (.rg 3) (.cond .leaf .leaf)) (.blk (.seq (.reg (.pp 2 (.op .sl (.op (.cl []) .nil)))) (.reg (.op .p (.op .sl (.op .p .nil))))))))] (.reg (.pp 4 (.op (.ld .slice) (.op .p (.op (.r .slice) (.pp 2 (.op .u .nil)))))))) Tryz.func362 (by kernel_rfl) (by kernel_rfl) h

theorem sha_state_sum_vc (a0:Array Value) (w:World) (R:Ending→World→Prop) (h:∃g1 w1,(Instr.box 462 (.agg a0)).run Tryz.prog w=.ok (.pointer (some ⟨g1,0,none⟩)) w1∧(∃g2 w2,AlQ 39 g2 w1 w2∧(∃t10,LdQ 3 g1 9 (.int .i64 t10) w2∧(∃t14a t14n t14c,LdQ 26 g1 8 (.slice t14a t14n t14c) w2∧(Calls Tryz.prog 150 #[(.slice t14a t14n t14c)] w2 fun e15 w3=>∃t15a t15n t15c,e15=.returned (.slice t15a t15n t15c)∧(∃w4,StQ 26 g1 8 (.slice t15a t15n t15c) w3 w4∧(∃t17a t17n t17c w5,(Instr.makeSlice 26 (.int .i64 0) (.int .i64 80)).run Tryz.prog w4=.ok (.slice t17a t17n t17c) w5∧(∃t18a t18n t18c w6,(Instr.buildSlice 26 1 #[(0,(.int .u8 128))]).run Tryz.prog w5=.ok (.slice t18a t18n t18c) w6∧(∃t19a t19n t19c w7,(Builtin.append_ #[26,26] 26 #[(.slice t17a t17n t17c),(.slice t18a t18n t18c)]).run Tryz.prog w6=.ok (.slice t19a t19n t19c) w7∧(∃(I:Option Addr→Nat→Nat→World→Prop) (μ:Option Addr→Nat→Nat→World→Nat),I t19a t19n t19c w7∧(∀x4a x4n x4c,∀w8,I x4a x4n x4c w8→(∃t21,LdQ 3 g1 9 (.int .i64 t21) w8∧((((Int.tmod (IntKind.wrap .i64 ((IntKind.wrap .i64 (t21+(x4n:Int)))+(8:Int))) (64:Int)) != (0:Int))=true→(∃t29a t29n t29c w9,(Instr.buildSlice 26 1 #[(0,(.int .u8 0))]).run Tryz.prog w8=.ok (.slice t29a t29n t29c) w9∧(∃t30a t30n t30c w10,(Builtin.append_ #[26,26] 26 #[(.slice x4a x4n x4c),(.slice t29a t29n t29c)]).run Tryz.prog w9=.ok (.slice t30a t30n t30c) w10∧(I t30a t30n t30c w10∧μ t30a t30n t30c w10<μ x4a x4n x4c w8))))∧(((Int.tmod (IntKind.wrap .i64 ((IntKind.wrap .i64 (t21+(x4n:Int)))+(8:Int))) (64:Int)) != (0:Int))=false→(∃(I_1:Option Addr→Nat→Nat→Int→World→Prop) (μ_1:Option Addr→Nat→Nat→Int→World→Nat),I_1 x4a x4n x4c 0 w8∧(∀x4a_1 x4n_1 x4c_1 x31,∀w11,I_1 x4a_1 x4n_1 x4c_1 x31 w11→((decide (x31<(8:Int))=true→(0≤(IntKind.wrap .i64 ((56:Int)- (IntKind.wrap .i64 ((8:Int)*x31))))∧(∃t41a t41n t41c w12,(Instr.buildSlice 26 1 #[(0,(.int .u8 (IntKind.wrap .u8 (shrI .u64 (IntKind.wrap .u64 ((IntKind.wrap .u64 t10)*(8:Int))) (IntKind.wrap .i64 ((56:Int)- (IntKind.wrap .i64 ((8:Int)*x31))))))))]).run Tryz.prog w11=.ok (.slice t41a t41n t41c) w12∧(∃t42a t42n t42c w13,(Builtin.append_ #[26,26] 26 #[(.slice x4a_1 x4n_1 x4c_1),(.slice t41a t41n t41c)]).run Tryz.prog w12=.ok (.slice t42a t42n t42c) w13∧(I_1 t42a t42n t42c (IntKind.wrap .i64 (x31+1)) w13∧μ_1 t42a t42n t42c (IntKind.wrap .i64 (x31+1)) w13<μ_1 x4a_1 x4n_1 x4c_1 x31 w11)))))∧(decide (x31<(8:Int))=false→(Calls Tryz.prog 362 #[(.pointer (some ⟨g1,0,none⟩)),(.slice x4a_1 x4n_1 x4c_1)] w11 fun e45 w14=>e45=.returned (.tuple #[])∧(∃g6 w15,AlQ 39 g6 w14 w15∧(∃t47,LdQ 394 g1 0 (.agg t47) w15∧(∃(I_2:Int→World→Prop) (μ_2:Int→World→Nat),I_2 0 w15∧(∀x48,∀w16,I_2 x48 w16→((decide (x48<(8:Int))=true→(∃t51,(Instr.index 394 (.agg t47) (.int .i64 x48)).run Tryz.prog w16=.ok (.int .u32 t51) w16∧(0≤(IntKind.wrap .i64 ((4:Int)*x48))∧(IntKind.wrap .i64 ((4:Int)*x48))<(32:Int)∧(∃w17,StQ 5 g6 (0+Int.toNat (IntKind.wrap .i64 ((4:Int)*x48))*1) (.int .u8 (IntKind.wrap .u8 (shrI .u32 t51 (24:Int)))) w16 w17∧(0≤(IntKind.wrap .i64 ((IntKind.wrap .i64 ((4:Int)*x48))+(1:Int)))∧(IntKind.wrap .i64 ((IntKind.wrap .i64 ((4:Int)*x48))+(1:Int)))<(32:Int)∧(∃w18,StQ 5 g6 (0+Int.toNat (IntKind.wrap .i64 ((IntKind.wrap .i64 ((4:Int)*x48))+(1:Int)))*1) (.int .u8 (IntKind.wrap .u8 (shrI .u32 t51 (16:Int)))) w17 w18∧(0≤(IntKind.wrap .i64 ((IntKind.wrap .i64 ((4:Int)*x48))+(2:Int)))∧(IntKind.wrap .i64 ((IntKind.wrap .i64 ((4:Int)*x48))+(2:Int)))<(32:Int)∧(∃w19,StQ 5 g6 (0+Int.toNat (IntKind.wrap .i64 ((IntKind.wrap .i64 ((4:Int)*x48))+(2:Int)))*1) (.int .u8 (IntKind.wrap .u8 (shrI .u32 t51 (8:Int)))) w18 w19∧(0≤(IntKind.wrap .i64 ((IntKind.wrap .i64 ((4:Int)*x48))+(3:Int)))∧(IntKind.wrap .i64 ((IntKind.wrap .i64 ((4:Int)*x48))+(3:Int)))<(32:Int)∧(∃w20,StQ 5 g6 (0+Int.toNat (IntKind.wrap .i64 ((IntKind.wrap .i64 ((4:Int)*x48))+(3:Int)))*1) (.int .u8 (IntKind.wrap .u8 t51)) w19 w20∧(I_2 (IntKind.wrap .i64 (x48+1)) w20∧μ_2 (IntKind.wrap .i64 (x48+1)) w20<μ_2 x48 w16)))))))))))∧(decide (x48<(8:Int))=false→(∃t79,LdQ 39 g6 0 (.agg t79) w16∧(∃w21,StQ 39 g2 0 (.agg t79) w16 w21∧(∃r2,(loadVar 39 ⟨g2,0,none⟩).run Tryz.prog w21=.ok r2 w21∧(R (.returned r2) w21))))))))))))))))))))))))))))):Calls Tryz.prog 363 #[(.agg a0)] w R:=calls_of_ev2 (tc:=.sq [.reg (.op .bx (.op .bx .nil)),.reg (.op .p (.op (.ld (.int .i64)) (.pp 3 .nil))),.reg (.op .p (.op (.ld .slice) (.op (.cl [.slice]) (.op .p (.op .u .nil))))),.reg (.op (.r .slice) (.op (.r .slice) (.op (.r .slice) (.op .p .nil)))),.blk (.loop (lr [(4,1),(20,11)]) [4] [.slice] (.seq (.seq (.reg (.op .p (.op (.ld (.int .i64)) (.pp 6 .nil)))) (.cond .leaf .leaf)) (.blk (.reg (.op .p (.op (.r .slice) (.op (.r .slice) (.op .p .nil)))))))),.seq (.rg 1) (.blk (.loop (lr [(4,2),(31,13)]) [4,31] [.slice,.int .i64] (.sq [.rg 1,.cond .leaf .leaf,.blk (.seq (.rg 2) (.reg (.pp 5 (.op .sc (.op .p (.op (.r .slice) (.op (.r .slice) (.op .p .nil))))))))] (.rg 2)))),.reg (.op .p (.op (.cl []) .nil)),.reg (.op .bx .nil),.seq (.reg (.op .p (.op (.ld .agg) (.op .p .nil)))) (.blk (.loop (lr [(7,2),(48,31)]) [48] [.int .i64] (.sq [.rg 1,.cond .leaf .leaf,.blk (.seq (.reg (.op .p (.op (.ld (.int .u32)) (.pp 2 .nil)))) (.reg (.pp 22 (.op .ix (.op .u (.op .ix (.op .u (.op .ix (.op .u (.op .ix (.op .u .nil)))))))))))] (.rg 2)))),.reg (.op (.ld .agg) (.op .u .nil))] .leaf) Tryz.func363 (by kernel_rfl) (by kernel_rfl) h

theorem sha_New_vc  (w:World) (R:Ending→World→Prop) (h:Calls Tryz.prog 361 #[] w fun e1 w1=>∃t1,e1=.returned (.agg t1)∧(∃t2,(Instr.build 465 #[(0,(.agg t1))]).run Tryz.prog w1=.ok (.agg t2) w1∧(∃g3 w2,(Instr.box 465 (.agg t2)).run Tryz.prog w1=.ok (.pointer (some ⟨g3,0,none⟩)) w2∧(R (.returned (.pointer (some ⟨g3,0,none⟩))) w2)))):Calls Tryz.prog 324 #[] w R:=calls_of_ev2 (tc:=.sq [.rg 1,.reg (.op (.cl [.agg]) (.op (.ld .agg) (.op .bx (.op .p .nil))))] .leaf) Tryz.func324 (by kernel_rfl) (by kernel_rfl) h

theorem sha_Hasher_Write_vc (a0b:Nat) (a0o:Nat) (a1a:Option Addr) (a1n:Nat) (a1c:Nat) (w:World) (R:Ending→World→Prop) (h:∃(I:Int→World→Prop) (μ:Int→World→Nat),I 0 w∧(∀x10,∀w1,I x10 w1→((decide (x10<(a1n:Int))=true→(∃t12b t12o,a1a=some ⟨t12b,t12o,none⟩∧0≤x10∧x10<(a1n:Int)∧(∃t13a t13n t13c,LdQ 26 t12b (t12o+Int.toNat x10*1) (.slice t13a t13n t13c) w1∧(Calls Tryz.prog 362 #[(.pointer (some ⟨a0b,a0o,none⟩)),(.slice t13a t13n t13c)] w1 fun e18 w2=>e18=.returned (.tuple #[])∧(I (IntKind.wrap .i64 (x10+1)) w2∧μ (IntKind.wrap .i64 (x10+1)) w2<μ x10 w1)))))∧(decide (x10<(a1n:Int))=false→(R (.returned (.tuple #[])) w1))))):Calls Tryz.prog 325 #[(.pointer (some ⟨a0b,a0o,none⟩)),(.slice a1a a1n a1c)] w R:=calls_of_ev2 (tc:=.sq [.seq (.rg 2) (.cf .leaf),.rg 3] (.blk (.loop (lr [(5,1),(10,10)]) [10] [.int .i64] (.sq [.rg 1,.cond .leaf .leaf,.blk (.seq (.reg (.op .ix (.op (.ld .slice) (.op .p .nil)))) (.reg (.pp 4 (.op (.cl []) .nil))))] (.rg 2))))) Tryz.func325 (by kernel_rfl) (by kernel_rfl) h

theorem sha_Hasher_Sum_vc (a0b:Nat) (a0o:Nat) (w:World) (R:Ending→World→Prop) (h:∃g2 w1,AlQ 39 g2 w w1∧(∃t9,LdQ 462 a0b a0o (.agg t9) w1∧(Calls Tryz.prog 363 #[(.agg t9)] w1 fun e10 w2=>∃t10,e10=.returned (.agg t10)∧(∃w3,StQ 39 g2 0 (.agg t10) w2 w3∧(∃r2,(loadVar 39 ⟨g2,0,none⟩).run Tryz.prog w3=.ok r2 w3∧(R (.returned r2) w3)))))):Calls Tryz.prog 326 #[(.pointer (some ⟨a0b,a0o,none⟩))] w R:=calls_of_ev2 (tc:=.sq [.reg (.op .bx .nil),.seq (.rg 2) (.cf .leaf),.reg (.pp 3 (.op (.ld .agg) (.op (.cl [.agg]) (.op .u .nil))))] .leaf) Tryz.func326 (by kernel_rfl) (by kernel_rfl) h

theorem sha_Sum_vc (a0a:Option Addr) (a0n:Nat) (a0c:Nat) (w:World) (R:Ending→World→Prop) (h:∃g2 w1,AlQ 39 g2 w w1∧(Calls Tryz.prog 324 #[] w1 fun e4 w2=>∃t4b t4o,e4=.returned (.pointer (some ⟨t4b,t4o,none⟩))∧(Calls Tryz.prog 325 #[(.pointer (some ⟨t4b,t4o,none⟩)),(.slice a0a a0n a0c)] w2 fun e7 w3=>e7=.returned (.tuple #[])∧(Calls Tryz.prog 326 #[(.pointer (some ⟨t4b,t4o,none⟩))] w3 fun e9 w4=>∃t9,e9=.returned (.agg t9)∧(∃w5,StQ 39 g2 0 (.agg t9) w4 w5∧(∃r2,(loadVar 39 ⟨g2,0,none⟩).run Tryz.prog w5=.ok r2 w5∧(R (.returned r2) w5))))))):Calls Tryz.prog 323 #[(.slice a0a a0n a0c)] w R:=calls_of_ev2 (tc:=.sq [.reg (.op .bx .nil),.reg (.op (.cl [.ptr]) (.op .p .nil)),.reg (.pp 2 (.op (.cl []) .nil)),.reg (.op .p (.op (.cl [.agg]) (.op .u .nil)))] .leaf) Tryz.func323 (by kernel_rfl) (by kernel_rfl) h

theorem sha_NewMac_vc (a0a:Option Addr) (a0n:Nat) (a0c:Nat) (w:World) (R:Ending→World→Prop) (h:∃g3 w1,AlQ 368 g3 w w1∧(∃J:World→Prop,((decide ((a0n:Int)>(64:Int))=true→(∃t12a t12n t12c w2,(Instr.buildSlice 24 1 #[(0,(.slice a0a a0n a0c))]).run Tryz.prog w1=.ok (.slice t12a t12n t12c) w2∧(Calls Tryz.prog 323 #[(.slice t12a t12n t12c)] w2 fun e13 w3=>∃t13,e13=.returned (.agg t13)∧(∃g4 w4,AlQ 39 g4 w3 w4∧(∃w5,StQ 39 g4 0 (.agg t13) w4 w5∧(0≤(64:Int)∧(64:Int)≤(64:Int)∧(0≤(32:Int)∧(32:Int)≤(32:Int)∧(∃t16 w6,(Builtin.copy_ #[26,26] 3 #[(.slice (some ⟨g3,0,none⟩) (64) 64),(.slice (some ⟨g4,0,none⟩) (32) 32)]).run Tryz.prog w5.drew=.ok (.int .i64 t16) w6∧(J  w6)))))))))∧(decide ((a0n:Int)>(64:Int))=false→(0≤(64:Int)∧(64:Int)≤(64:Int)∧(∃t19 w7,(Builtin.copy_ #[26,26] 3 #[(.slice (some ⟨g3,0,none⟩) (64) 64),(.slice a0a a0n a0c)]).run Tryz.prog w1=.ok (.int .i64 t19) w7∧(J  w7)))))∧(∀w8,J  w8→(Calls Tryz.prog 324 #[] w8 fun e20 w9=>∃t20b t20o,e20=.returned (.pointer (some ⟨t20b,t20o,none⟩))∧(∃t21,(Instr.build 424 #[(0,(.pointer (some ⟨t20b,t20o,none⟩)))]).run Tryz.prog w9=.ok (.agg t21) w9∧(∃g22 w10,(Instr.box 424 (.agg t21)).run Tryz.prog w9=.ok (.pointer (some ⟨g22,0,none⟩)) w10∧(∃t23,LdQ 368 g3 0 (.agg t23) w10∧(∃(I:Int→World→Prop) (μ:Int→World→Nat),I 0 w10∧(∀x24,∀w11,I x24 w11→((decide (x24<(64:Int))=true→(∃t27,(Instr.index 368 (.agg t23) (.int .i64 x24)).run Tryz.prog w11=.ok (.int .u8 t27) w11∧(0≤x24∧x24<(64:Int)∧(∃w12,StQ 5 g22 (1+Int.toNat x24*1) (.int .u8 (bxor .u8 t27 (92:Int))) w11 w12∧(0≤x24∧x24<(64:Int)∧(∃w13,StQ 5 g3 (0+Int.toNat x24*1) (.int .u8 (bxor .u8 t27 (54:Int))) w12 w13∧(I (IntKind.wrap .i64 (x24+1)) w13∧μ (IntKind.wrap .i64 (x24+1)) w13<μ x24 w11)))))))∧(decide (x24<(64:Int))=false→(0≤(64:Int)∧(64:Int)≤(64:Int)∧(∃t42a t42n t42c w14,(Instr.buildSlice 24 1 #[(0,(.slice (some ⟨g3,0,none⟩) (64) 64))]).run Tryz.prog w11=.ok (.slice t42a t42n t42c) w14∧(Calls Tryz.prog 270 #[(.pointer (some ⟨g22,0,none⟩)),(.slice t42a t42n t42c)] w14 fun e43 w15=>e43=.returned (.tuple #[])∧(R (.returned (.pointer (some ⟨g22,0,none⟩))) w15))))))))))))))):Calls Tryz.prog 269 #[(.slice a0a a0n a0c)] w R:=calls_of_ev2 (tc:=.sq [.rg 1,.reg (.op .bx .nil),.seq (.rg 3) (.join (lr [(4,1),(11,9)]) [] [] (.cond (.seq (.reg (.op .p (.op (.r .slice) (.op (.cl [.agg]) (.op .bx (.op .u .nil)))))) (.draw (.tk 0 .sl (.tk 1 .sl (.go 2 (.r (.int .i64)) .nil))) [0,1,2])) (.reg (.op .sl (.op .p (.op (.r (.int .i64)) .nil)))))),.reg (.op (.cl [.ptr]) (.op (.ld .agg) (.op .bx (.op .p .nil)))),.seq (.reg (.op (.ld .agg) (.op .p .nil))) (.blk (.loop (lr [(6,2),(24,16)]) [24] [.int .i64] (.sq [.rg 1,.cond .leaf .leaf,.blk (.sq [.reg (.op .p (.op (.ld (.int .u8)) (.pp 2 .nil))),.reg (.pp 6 (.op .ix (.op .u .nil)))] (.reg (.pp 3 (.op .ix (.op .u .nil)))))] (.rg 2)))),.reg (.op .p (.op .sl (.op (.r .slice) (.op (.cl []) .nil)))),.rg 2] .leaf) Tryz.func269 (by kernel_rfl) (by kernel_rfl) h

theorem sha_Keyed_Write_vc (a0b:Nat) (a0o:Nat) (a1a:Option Addr) (a1n:Nat) (a1c:Nat) (w:World) (R:Ending→World→Prop) (h:∃t9b t9o,LdQ 421 a0b a0o (.pointer (some ⟨t9b,t9o,none⟩)) w∧(Calls Tryz.prog 325 #[(.pointer (some ⟨t9b,t9o,none⟩)),(.slice a1a a1n a1c)] w fun e11 w1=>e11=.returned (.tuple #[])∧(R (.returned (.tuple #[])) w1))):Calls Tryz.prog 270 #[(.pointer (some ⟨a0b,a0o,none⟩)),(.slice a1a a1n a1c)] w R:=calls_of_ev2 (tc:=.seq (.rg 2) (.ct (.reg (.pp 3 (.op (.ld .ptr) (.op .p (.op (.cl []) .nil))))))) Tryz.func270 (by kernel_rfl) (by kernel_rfl) h

theorem sha_Keyed_Sum_vc (a0b:Nat) (a0o:Nat) (w:World) (R:Ending→World→Prop) (h:∃g2 w1,AlQ 39 g2 w w1∧(∃t10b t10o,LdQ 421 a0b a0o (.pointer (some ⟨t10b,t10o,none⟩)) w1∧(Calls Tryz.prog 326 #[(.pointer (some ⟨t10b,t10o,none⟩))] w1 fun e11 w2=>∃t11,e11=.returned (.agg t11)∧(∃g3 w3,AlQ 39 g3 w2 w3∧(∃w4,StQ 39 g3 0 (.agg t11) w3 w4∧(0≤(64:Int)∧(64:Int)≤(64:Int)∧(0≤(32:Int)∧(32:Int)≤(32:Int)∧(∃t17a t17n t17c w5,(Instr.buildSlice 24 2 #[(0,(.slice (some ⟨a0b,a0o+1,none⟩) (64) 64)),(1,(.slice (some ⟨g3,0,none⟩) (32) 32))]).run Tryz.prog w4.drew=.ok (.slice t17a t17n t17c) w5∧(Calls Tryz.prog 323 #[(.slice t17a t17n t17c)] w5 fun e18 w6=>∃t18,e18=.returned (.agg t18)∧(∃w7,StQ 39 g2 0 (.agg t18) w6 w7∧(∃r2,(loadVar 39 ⟨g2,0,none⟩).run Tryz.prog w7=.ok r2 w7∧(R (.returned r2) w7)))))))))))):Calls Tryz.prog 271 #[(.pointer (some ⟨a0b,a0o,none⟩))] w R:=calls_of_ev2 (tc:=.sq [.reg (.op .bx .nil),.seq (.rg 2) (.cf .leaf),.reg (.pp 3 (.op (.ld .ptr) (.op (.cl [.agg]) (.op .bx (.op .u .nil))))),.draw (.tks [0,1,2] (.tk 3 .sl (.tk 4 .sl (.go 5 (.r .slice) (.go 6 (.cl [.agg]) (.go 7 .u .nil)))))) (lr [(0,8)])] .leaf) Tryz.func271 (by kernel_rfl) (by kernel_rfl) h

theorem sha_Mac_vc (a0a:Option Addr) (a0n:Nat) (a0c:Nat) (a1a:Option Addr) (a1n:Nat) (a1c:Nat) (w:World) (R:Ending→World→Prop) (h:∃g4 w1,AlQ 39 g4 w w1∧(Calls Tryz.prog 269 #[(.slice a0a a0n a0c)] w1 fun e7 w2=>∃t7b t7o,e7=.returned (.pointer (some ⟨t7b,t7o,none⟩))∧(Calls Tryz.prog 270 #[(.pointer (some ⟨t7b,t7o,none⟩)),(.slice a1a a1n a1c)] w2 fun e10 w3=>e10=.returned (.tuple #[])∧(Calls Tryz.prog 271 #[(.pointer (some ⟨t7b,t7o,none⟩))] w3 fun e12 w4=>∃t12,e12=.returned (.agg t12)∧(∃w5,StQ 39 g4 0 (.agg t12) w4 w5∧(∃r4,(loadVar 39 ⟨g4,0,none⟩).run Tryz.prog w5=.ok r4 w5∧(R (.returned r4) w5))))))):Calls Tryz.prog 198 #[(.slice a0a a0n a0c),(.slice a1a a1n a1c)] w R:=calls_of_ev2 (tc:=.sq [.reg (.op .bx .nil),.reg (.op .p (.op (.cl [.ptr]) (.op .p .nil))),.reg (.pp 2 (.op (.cl []) .nil)),.reg (.op .p (.op (.cl [.agg]) (.op .u .nil)))] .leaf) Tryz.func198 (by kernel_rfl) (by kernel_rfl) h

theorem sha_Equal_vc (a0a:Option Addr) (a0n:Nat) (a0c:Nat) (a1a:Option Addr) (a1n:Nat) (a1c:Nat) (w:World) (R:Ending→World→Prop) (h:(((a0n:Int) != (a1n:Int))=true→(R (.returned (.bool false)) w))∧(((a0n:Int) != (a1n:Int))=false→(∃(I:Int→Int→World→Prop) (μ:Int→Int→World→Nat),I 0 0 w∧(∀x5 x14,∀w1,I x5 x14 w1→((decide (x14<(a0n:Int))=true→(∃S:World→Prop,S w1.drew∧(∃t20b t20o,a0a=some ⟨t20b,t20o,none⟩∧0≤x14∧x14<(a0n:Int)∧(∃t24b t24o,a1a=some ⟨t24b,t24o,none⟩∧0≤x14∧x14<(a1n:Int)∧(∃t21,(∀w',S w'→LdQ 5 t20b (t20o+Int.toNat x14*1) (.int .u8 t21) w')∧(∃t25,(∀w',S w'→LdQ 5 t24b (t24o+Int.toNat x14*1) (.int .u8 t25) w')∧(I (bor .u8 x5 (bxor .u8 t21 t25)) (IntKind.wrap .i64 (x14+1)) w1.drew∧μ (bor .u8 x5 (bxor .u8 t21 t25)) (IntKind.wrap .i64 (x14+1)) w1.drew<μ x5 x14 w1)))))))∧(decide (x14<(a0n:Int))=false→(R (.returned (.bool (x5==(0:Int)))) w1))))))):Calls Tryz.prog 207 #[(.slice a0a a0n a0c),(.slice a1a a1n a1c)] w R:=calls_of_ev2 (tc:=.sq [.rg 1,.seq (.rg 5) (.cond (.seq (.rg 1) .leaf) .leaf),.rg 1,.seq (.rg 3) (.blk (.loop (lr [(5,2),(14,15)]) [5,14] [.int .u8,.int .i64] (.sq [.rg 1,.cond .leaf .leaf,.blk (.seq (.rg 2) (.drawS (.tks [0,1,2] (.tk 3 .ix (.tks [5,6] (.tk 7 .ix (.ts 4 (.int .u8) (.ts 8 (.int .u8) (.tks [9,10,11] .nil))))))) []))] (.rg 2)))),.rg 3] .leaf) Tryz.func207 (by kernel_rfl) (by kernel_rfl) h

end Go.Proofs.YtpmhjnhgpplmnaaGreatDoor
end

section
namespace Go.Proofs.YtpmhjnhgpplmnaaGreatDoor
open Go Go.Proofs.YtpmhjnhgpplmnaaGreatDoor.Sx

set_option maxRecDepth 100000
theorem bits_RotateLeft32_vc (a0:Int) (a1:Int) (w:World) (R:Ending→World→Prop) (h:0≤(band .u64 (IntKind.wrap .u64 a1) (31:Int))∧(0≤(IntKind.wrap .u64 ((32:Int)- (band .u64 (IntKind.wrap .u64 a1) (31:Int))))∧(R (.returned (.int .u32 (bor .u32 (shlI .u32 a0 (band .u64 (IntKind.wrap .u64 a1) (31:Int))) (shrI .u32 a0 (IntKind.wrap .u64 ((32:Int)- (band .u64 (IntKind.wrap .u64 a1) (31:Int)))))))) w))):Calls Tryz.prog 383 #[(.int .u32 a0),(.int .i64 a1)] w R:=calls_of_ev2 (tc:=.sq [.rg 1,.rg 4,.reg (.pp 2 (.op .sc (.pp 3 (.op .sc (.pp 2 .nil)))))] .leaf) Tryz.func383 (by kernel_rfl) (by kernel_rfl) h

end Go.Proofs.YtpmhjnhgpplmnaaGreatDoor
end

section
namespace Go.Proofs.YtpmhjnhgpplmnaaGreatDoor.Sx
open Go
set_option maxRecDepth 8000

section
variable {P:Program} {w0 w:World} {X:List Nat} {M:List Res}

theorem St.addAt (h:St w0 X w M) {s:Res} (hs:s.holds w) (hlo:∀k∈s.fp,w0.heap.size≤k∨k∈X) (hap:∀(i:Nat) (r:Res),M[i]?=some r→∀k∈r.fp,k∉s.fp):St w0 X w (M++ [s]):=by
 have get:∀(j:Nat) (r:Res),(M++ [s])[j]?=some r→(j<M.length∧M[j]?=some r)∨(j=M.length∧r=s):=by
   intro j r hj
   by_cases hlt:j<M.length
   · rw [List.getElem?_append_left hlt] at hj;exact .inl ⟨hlt,hj⟩
   · rw [List.getElem?_append_right (by omega)] at hj
     have:=(List.getElem?_eq_some_iff.1 hj).1
     simp only [List.length_cons,List.length_nil] at this
     have e:j-M.length=0:=by omega
     rw [e] at hj
     exact .inr ⟨by omega,(Option.some.inj hj).symm⟩
 refine ⟨h.chg,fun j r hj=>?_,fun j r hj k hk=>?_,fun j l r t hjl hj hl k hk hk'=>?_⟩
 · rcases get j r hj with ⟨_,h1⟩ | ⟨_,rfl⟩
   · exact h.holds j r h1
   · exact hs
 · rcases get j r hj with ⟨_,h1⟩ | ⟨_,rfl⟩
   · exact h.own j r h1 k hk
   · exact hlo k hk
 · rcases get j r hj with ⟨_,h1⟩ | ⟨e1,rfl⟩<;>rcases get l t hl with ⟨_,h2⟩ | ⟨e2,rfl⟩
   · exact h.apart j l r t hjl h1 h2 k hk hk'
   · exact hap j r h1 k hk hk'
   · exact hap l t h2 k hk' hk
   · omega

theorem St.part (h:St w0 X w M) (js:List Nat) (N:List Res) (F:List Nat) (hN:∀(i:Nat) (r:Res),N[i]?=some r→∃j,js[i]?=some j∧M[j]?=some r) (hinj:∀(i l j:Nat),js[i]?=some j→js[l]?=some j→i=l)
   (hF:∀(i:Nat) (r:Res),N[i]?=some r→∀k∈r.fp,k∈F):St w F w N:=by
 refine ⟨Chg.refl _ _,fun i r hi=>?_,fun i r hi k hk=>.inr (hF i r hi k hk),fun i l r t hil hi hl k hk hk'=>?_⟩
 · obtain ⟨j,_,hj⟩:=hN i r hi
   exact h.holds j r hj
 · obtain ⟨j,h1,hj⟩:=hN i r hi
   obtain ⟨j',h2,hj'⟩:=hN l t hl
   refine h.apart j j' r t (fun e=>hil ?_) hj hj' k hk hk'
   subst e
   exact hinj i l j h1 h2

end
end Go.Proofs.YtpmhjnhgpplmnaaGreatDoor.Sx
end

section
namespace Go.Proofs.YtpmhjnhgpplmnaaGreatDoor
open Go Sx
set_option maxRecDepth 8000

theorem bbT:ElemT Tryz.prog 24 26 1 24 (.slice none 0 0):=⟨by kernel_rfl,⟨Tryz.t26,by kernel_rfl,by kernel_rfl,by kernel_rfl,by kernel_rfl⟩,rfl,by decide⟩
theorem bsA (w:World):(isAgg 26).run Tryz.prog w=.ok false w:=Tryz.isAgg26 w

structure Row2 (w:World) (vs:List Value) (ls:List (List UInt8)):Prop where
 len:vs.length=ls.length
 rd:∀i,i<ls.length→∃a n c,vs[i]?=some (.slice a n c)∧RdB w a n c (ls.getD i [])

theorem Row2.keep0 {w w':World} {vs:List Value} {ls:List (List UInt8)} (h:Row2 w vs ls) (hc:Chg [] w w'):Row2 w' vs ls:=
 ⟨h.len,fun i hi=>by obtain ⟨a,n,c,h1,h2⟩:=h.rd i hi;exact ⟨a,n,c,h1,h2.keep0 hc⟩⟩

theorem ixS {w:World} {a:Option Addr} {vs:List Value} {ls:List (List UInt8)} (hc:Cells w a vs) (h2:Row2 w vs ls) {i:Nat} (hi:i<ls.length):
   ∃b o a' n' c',a=some ⟨b,o,none⟩∧vs[i]?=some (.slice a' n' c')∧RdB w a' n' c' (ls.getD i [])∧∀w',Cells w' a vs→(Instr.loadAt 26 (.pointer (some ⟨b,o+Int.toNat (i:Int)*1,none⟩))).run Tryz.prog w'=.ok (.slice a' n' c') w':=by
 obtain ⟨a',n',c',hv,hrd⟩:=h2.rd i hi
 obtain ⟨b,o,ha,hcell⟩:=hc.at_ hv
 refine ⟨b,o,a',n',c',ha,hv,hrd,fun w' hc'=>?_⟩
 obtain ⟨b',o',ha',hcell'⟩:=hc'.at_ hv
 rw [ha] at ha'
 simp only [Option.some.injEq,Addr.mk.injEq,and_true] at ha'
 obtain ⟨rfl,rfl⟩:=ha'
 rw [show o+Int.toNat (i:Int)*1=o+i by omega]
 exact ld1 (bsA _) hcell'

theorem flat_take {ls:List (List UInt8)} {i:Nat} (h:i<ls.length):(ls.take (i+1)).flatten=(ls.take i).flatten++ls.getD i []:=by
 rw [List.take_add_one,List.getElem?_eq_getElem h,List.flatten_append];simp [List.getD,h]
theorem flat_take_le (ls:List (List UInt8)) (i:Nat):(ls.take i).flatten.length≤ls.flatten.length:=by
 have:ls.flatten=(ls.take i).flatten++(ls.drop i).flatten:=by rw [←List.flatten_append,List.take_append_drop]
 rw [this,List.length_append];omega
theorem getD_le_flat {ls:List (List UInt8)} {i:Nat} (h:i<ls.length):(ls.getD i []).length≤ls.flatten.length:=by
 have h1:=flat_take h
 have h2:=flat_take_le ls (i+1)
 rw [h1,List.length_append] at h2;omega

theorem Sx.St.updAdd {w0 w w':World} {X:List Nat} {M:List Res} (h:St w0 X w M) {i:Nat} {r r' s:Res} (hi:M[i]?=some r) (hc:Chg r.fp w w') (hr':r'.holds w') (hfp:∀k∈r'.fp,k∈r.fp∨w.heap.size≤k) (hs:s.holds w') (hsn:∀k∈s.fp,w.heap.size≤k)
   (hrs:∀k∈r'.fp,k∉s.fp):St w0 X w' (M.set i r'++ [s]):=by
 have h':=h.upd hi hc hr' hfp
 have hsz:=h.chg.size
 refine h'.addAt hs (fun k hk=>.inl (by have:=hsn k hk;omega)) (fun j t hj k hk hk'=>?_)
 have hlt:i<M.length:=(List.getElem?_eq_some_iff.1 hi).1
 by_cases e:i=j
 · subst e
   rw [List.getElem?_set_self hlt] at hj
   obtain rfl:=Option.some.inj hj
   exact hrs k hk hk'
 · rw [List.getElem?_set_ne e] at hj
   have:=Res.lt (h.holds j t hj) k hk
   have:=hsn k hk'
   omega

theorem Sx.St.appendB {w0 w:World} {X:List Nat} {M:List Res} (hS:St w0 X w M) {i:Nat} {va a:Option Addr} {n vc m c:Nat} {xs l:List UInt8} (hi:M[i]?=some (.row 5 1 (.slice va n vc) n (bv xs))) (hr:RdB w a m c l) (hb:n+m≤140737488355000):
   ∃va' vc' w',(Builtin.append_ #[26,26] 26 #[.slice va n vc,.slice a m c]).run Tryz.prog w=.ok (.slice va' (n+m) vc') w'∧St w0 X w' (M.set i (.row 5 1 (.slice va' (n+m) vc') (n+m) (bv (xs++l)))):=by
 obtain ⟨va',vc',w',hr',h',_,_⟩:=hS.append (i:=i) (ty:=26) bT hi hr (bv_one l) (by omega) (by simp only [maxLen];omega)
 rw [←bv_append] at h'
 exact ⟨va',vc',w',hr',h'⟩

theorem Sx.St.pushV {w0 w:World} {X:List Nat} {M:List Res} (hS:St w0 X w M) {i t ty e by_:Nat} {z:Value} (E:ElemT Tryz.prog t e 1 by_ z) {a:Option Addr} {n c:Nat} {xs:List Value} (hi:M[i]?=some (.row e 1 (.slice a n c) n xs)) (v:Value) (hv:v.oneCell'=true)
   (hb:(n+1)*by_≤140737488355328) (hm:n+1≤maxLen):
   ∃g w2 va vc w3,(Instr.buildSlice t 1 #[(0,v)]).run Tryz.prog w=.ok (.slice (some ⟨g,0,none⟩) 1 1) w2∧(Builtin.append_ #[t,t] ty #[.slice a n c,.slice (some ⟨g,0,none⟩) 1 1]).run Tryz.prog w2=.ok (.slice va (n+1) vc) w3∧
     St w0 X w3 (M.set i (.row e 1 (.slice va (n+1) vc) (n+1) (xs++ [v])))∧St w0 X w2 M∧Chg [] w w2:=by
 have him:i<M.length:=(List.getElem?_eq_some_iff.1 hi).1
 obtain ⟨g,w2,hr2,h2⟩:=hS.lit E [v] (by simp [hv]) (by simp)
 obtain ⟨g',w2',hr2',h2'⟩:=(St.start w).lit E [v] (by simp [hv]) (by simp)
 have hw:=hr2.symm.trans hr2'
 simp only [Result.ok.injEq] at hw
 obtain ⟨_,rfl⟩:=hw
 obtain ⟨va,vc,w3,hr3,h3,_,_⟩:=h2.append (i:=i) (ty:=ty) E (by rw [List.getElem?_append_left him];exact hi) h2.rdLast (by simp [hv]) (by simpa using hb) (by simpa using hm)
 refine ⟨g,w2,va,vc,w3,hr2,hr3,?_,St.pop h2,h2'.chg⟩
 rw [List.set_append_left _ _ him] at h3
 exact St.pop h3

theorem Sx.St.of_mem {w0 w:World} {X:List Nat} {M:List Res} (hc:Chg X w0 w) (h1:∀r∈M,r.holds w) (h2:∀r∈M,∀k∈r.fp,w0.heap.size≤k∨k∈X) (h3:M.Pairwise fun r s=>∀k∈r.fp,k∉s.fp):St w0 X w M:=by
 refine ⟨hc,fun i r hi=>h1 r (List.mem_of_getElem? hi),fun i r hi=>h2 r (List.mem_of_getElem? hi),fun i j r s hij hi hj k hk hk'=>?_⟩
 obtain ⟨hil,rfl⟩:=List.getElem?_eq_some_iff.1 hi
 obtain ⟨hjl,rfl⟩:=List.getElem?_eq_some_iff.1 hj
 rcases Nat.lt_or_gt_of_ne hij with h | h
 · exact List.pairwise_iff_getElem.1 h3 i j hil hjl h k hk hk'
 · exact List.pairwise_iff_getElem.1 h3 j i hjl hil h k hk' hk

theorem Sx.St.pw {w0 w:World} {X:List Nat} {M:List Res} (h:St w0 X w M):(∀r∈M,r.holds w)∧(∀r∈M,∀k∈r.fp,w0.heap.size≤k∨k∈X)∧M.Pairwise fun r s=>∀k∈r.fp,k∉s.fp:=by
 refine ⟨fun r hr=>?_,fun r hr=>?_,List.pairwise_iff_getElem.2 fun i j hi hj hij=>?_⟩
 · obtain ⟨i,hi⟩:=List.getElem?_of_mem hr;exact h.holds i r hi
 · obtain ⟨i,hi⟩:=List.getElem?_of_mem hr;exact h.own i r hi
 · exact h.apart i j _ _ (by omega) (by simp [hi]) (by simp [hj])

theorem Sx.St.sub {w0 w:World} {X:List Nat} {M N:List Res} (h:St w0 X w M) (hs:N.Sublist M):St w0 X w N:=by
 obtain ⟨h1,h2,h3⟩:=h.pw
 exact St.of_mem h.chg (fun r hr=>h1 r (hs.subset hr)) (fun r hr=>h2 r (hs.subset hr)) (h3.sublist hs)

theorem Sx.St.perm {w0 w:World} {X:List Nat} {M N:List Res} (h:St w0 X w M) (hp:M.Perm N):St w0 X w N:=by
 obtain ⟨h1,h2,h3⟩:=h.pw
 exact St.of_mem h.chg (fun r hr=>h1 r (hp.mem_iff.2 hr)) (fun r hr=>h2 r (hp.mem_iff.2 hr)) (h3.perm hp fun h k hk hk'=>h k hk' hk)

theorem Sx.St.tail {w0 w:World} {X:List Nat} {r:Res} {M:List Res} (h:St w0 X w (r::M)):St w0 X w M:=h.sub (List.sublist_cons_self r M)

def fpsL (M:List Res):List Nat:=M.flatMap Res.fp

theorem Sx.St.self {w0 w:World} {X:List Nat} {M:List Res} (h:St w0 X w M):St w (fpsL M) w M:=by
 obtain ⟨h1,_,h3⟩:=h.pw
 exact St.of_mem (Chg.refl _ _) h1 (fun r hr k hk=>.inr (List.mem_flatMap.2 ⟨r,hr,hk⟩)) h3

theorem Sx.St.callPart {w0 w w':World} {X:List Nat} {M N N':List Res} (h:St w0 X w (M++N)) (h':St w (fpsL N) w' N'):St w0 X w' (M++N'):=by
 obtain ⟨h1,h2,h3⟩:=h.pw
 obtain ⟨k1,k2,k3⟩:=h'.pw
 obtain ⟨p1,p2,p3⟩:=List.pairwise_append.1 h3
 have hown:∀k∈fpsL N,w0.heap.size≤k∨k∈X:=fun k hk=>by
   obtain ⟨r,hr,hk⟩:=List.mem_flatMap.1 hk
   exact h2 r (List.mem_append_right _ hr) k hk
 have hsz:=h.chg.size
 refine St.of_mem (h.chg.trans' h'.chg hown) (fun r hr=>?_) (fun r hr k hk=>?_) (List.pairwise_append.2 ⟨p1,k3,fun r hr s hs k hk hk'=>?_⟩)
 · rcases List.mem_append.1 hr with hr | hr
   · refine Res.kept (h1 r (List.mem_append_left _ hr)) fun k hk=>h'.chg.block k (Res.lt (h1 r (List.mem_append_left _ hr)) k hk) fun hx=>?_
     obtain ⟨s,hs,hk'⟩:=List.mem_flatMap.1 hx
     exact p3 r hr s hs k hk hk'
   · exact k1 r hr
 · rcases List.mem_append.1 hr with hr | hr
   · exact h2 r (List.mem_append_left _ hr) k hk
   · rcases k2 r hr k hk with h | h
     · left;omega
     · exact hown k h
 · rcases k2 s hs k hk' with h | h
   · have:=Res.lt (h1 r (List.mem_append_left _ hr)) k hk;omega
   · obtain ⟨t,ht,hkt⟩:=List.mem_flatMap.1 h
     exact p3 r hr t ht k hk hkt

theorem Sx.Cells.keepG {w w':World} {g:Nat} {cur:Array Value} {T:TypeId} {fr:Nat×Nat} {a:Option Addr} {cs:List Value} (h:Cells w a cs) (hg:w.heap[g]?=some (.cells cur T fr)) (hne:∀v∈cs,v∉cur.toList) (hc:Chg [g] w w'):Cells w' a cs:=by
 rcases h with rfl | ⟨b,o,ha,hr⟩
 · exact .inl rfl
 · refine .inr ⟨b,o,ha,fun j v hv=>?_⟩
   have h1:=hr j v hv
   by_cases hb:b=g
   · subst hb
     rw [cell_of_row w b _ cur T fr hg] at h1
     exact absurd (Array.mem_toList_iff.2 (Array.mem_of_getElem? h1)) (hne v (List.mem_of_getElem? hv))
   · rw [←h1]
     exact World.cell?_of_block (hc.block b (World.block_lt_of_cell? w _ h1) (by simpa using hb))

theorem Sx.Rd.keepG {w w':World} {g:Nat} {cur:Array Value} {T:TypeId} {fr:Nat×Nat} {a:Option Addr} {n c sz:Nat} {cs:List Value} (h:Rd w a n c sz cs) (hg:w.heap[g]?=some (.cells cur T fr)) (hne:∀v∈cs,v∉cur.toList) (hc:Chg [g] w w'):Rd w' a n c sz cs:=
 ⟨h.cells.keepG hg hne hc,h.len,h.le,h.nil⟩

theorem Sx.St.litA {w0 w:World} {X:List Nat} {M:List Res} (h:St w0 X w M) {t e sz by_:Nat} {z:Value} (E:ElemT Tryz.prog t e sz by_ z) (cs:List Value) (hl:cs.length=sz) (hb:sz≤16777216):
   ∃g w',(Instr.buildSlice t 1 #[(0,.agg cs.toArray)]).run Tryz.prog w=.ok (.slice (some ⟨g,0,none⟩) 1 1) w'∧St w0 X w' (M++ [.row e sz (.slice (some ⟨g,0,none⟩) 1 1) 1 cs]):=by
 obtain ⟨inf,hinf,hz,hsz,hby⟩:=E.inf
 have hpos:=E.pos
 have hlt:¬sz>2^24:=by omega
 have hrow:(w.alloc (.cells cs.toArray e)).ownsRow 0 e sz (.slice (some ⟨w.heap.size,0,none⟩) 1 1) 1 cs:=by
   have:=World.ownsRow_lit (base:=0) (e:=e) (size:=sz) w cs.toArray 1 (Nat.zero_le _) (by simp only [maxLen];omega) (by simp [hl])
   simpa using this
 refine ⟨w.heap.size,_,?_,h.add (Chg.alloc _ (.cells cs.toArray e)) hrow (by simp [Res.fp,Value.ownBlock])⟩
 have hne:¬sz=0:=by omega
 simp only [Instr.buildSlice,Sem.run_bind,run_underlying E.ht,Result.andThen_ok,sizeOf,typeInfo,run_program,hinf,hsz,Sem.run_pure,Nat.one_mul,hne,if_false,zeroValue,hz,hlt,newRow]
 rw [fill_step (off:=0) (sz:=sz) (by simp) (by simp [Value.cells,hl]) (by simp),Array.toList_map,Array.toList_range,Nat.zero_add,List.drop_of_length_le (by simp),List.append_nil]
 simp [Instr.fill,Value.cells]

theorem Sx.St.pushA {w0 w:World} {X:List Nat} {M:List Res} (hS:St w0 X w M) {i t ty e sz by_:Nat} {z:Value} (E:ElemT Tryz.prog t e sz by_ z) {a:Option Addr} {n c:Nat} {xs:List Value} (hi:M[i]?=some (.row e sz (.slice a n c) n xs)) (cs:List Value) (hl:cs.length=sz) (hsz:sz≤16777216) (hv:∀v∈cs,v.oneCell'=true)
   (hb:(n+1)*by_≤140737488355328) (hm:n+1≤maxLen):
   ∃g w2 va vc w3,(Instr.buildSlice t 1 #[(0,.agg cs.toArray)]).run Tryz.prog w=.ok (.slice (some ⟨g,0,none⟩) 1 1) w2∧(Builtin.append_ #[t,t] ty #[.slice a n c,.slice (some ⟨g,0,none⟩) 1 1]).run Tryz.prog w2=.ok (.slice va (n+1) vc) w3∧
     St w0 X w3 (M.set i (.row e sz (.slice va (n+1) vc) (n+1) (xs++cs)))∧St w0 X w2 M:=by
 have him:i<M.length:=(List.getElem?_eq_some_iff.1 hi).1
 obtain ⟨g,w2,hr2,h2⟩:=hS.litA E cs hl hsz
 obtain ⟨va,vc,w3,hr3,h3,_,_⟩:=h2.append (i:=i) (ty:=ty) E (by rw [List.getElem?_append_left him];exact hi) h2.rdLast hv hb hm
 refine ⟨g,w2,va,vc,w3,hr2,hr3,?_,St.pop h2⟩
 rw [List.set_append_left _ _ him] at h3
 exact St.pop h3

theorem Sx.St.fps_own {w0 w:World} {M:List Res} (h:St w0 [] w M):∀k∈fpsL M,w0.heap.size≤k:=by
 intro k hk
 obtain ⟨r,hr,hk⟩:=List.mem_flatMap.1 hk
 simpa using h.pw.2.1 r hr k hk

theorem Sx.St.keptPart {w0 w:World} {X:List Nat} {M N:List Res} (h:St w0 X w (M++N)) {r:Res} (hr:r∈M) {w':World} (hc:Chg (fpsL N) w w'):r.holds w':=by
 obtain ⟨h1,_,h3⟩:=h.pw
 obtain ⟨_,_,p3⟩:=List.pairwise_append.1 h3
 have hh:=h1 r (List.mem_append_left _ hr)
 refine Res.kept hh fun k hk=>hc.block k (Res.lt hh k hk) fun hx=>?_
 obtain ⟨s,hs,hk'⟩:=List.mem_flatMap.1 hx
 exact p3 r hr s hs k hk hk'

theorem convHold {w0 w:World} {X:List Nat} {M:List Res} (hS:St w0 X w M) {i:Nat} {g n c:Nat} {l:List UInt8} (hi:M[i]?=some (.row 5 1 (.slice (some ⟨g,0,none⟩) n c) n (bv l))):
   ∃w' o,(convert 26 26 (.slice (some ⟨g,0,none⟩) n c)).run Tryz.prog w=.ok (.slice (some ⟨g,0,none⟩) n c) w'∧St w0 X w' (M.set i (.blk g o))∧∀w'':World,w''.heap[g]?=some o→RdB w'' (some ⟨g,0,none⟩) n c l:=by
 have hown:w.ownsRow 0 5 1 (.slice (some ⟨g,0,none⟩) n c) n (bv l):=hS.holds i _ hi
 rcases hown.2 with ⟨hv,_⟩ | ⟨g',cap,cur,hv,_,hg,hle,_,hcs,ht⟩
 · simp at hv
 · simp only [Value.slice.injEq,Option.some.injEq,Addr.mk.injEq,and_true,true_and] at hv
   obtain ⟨rfl,rfl⟩:=hv
   have hglt:=(Array.getElem?_eq_some_iff.1 hg).1
   have hg':∃fr,(w.freeze ⟨g,cur.size,none⟩ 1).heap[g]?=some (.cells cur 5 fr):=by
     simp only [World.freeze,Nat.succ_ne_zero,if_false,Array.getElem?_modify,if_true,hg,Option.map_some]
     exact ⟨_,rfl⟩
   obtain ⟨fr,hg'⟩:=hg'
   refine ⟨w.freeze ⟨g,cur.size,none⟩ 1,.cells cur 5 fr,?_,hS.upd hi ?_ hg' (by simp [Res.fp,Value.ownBlock]),fun w'' h=>?_⟩
   · simp [convert,run_underlying bS,run_underlying bE,markStringish,World.shape?,hg]
   · refine ⟨by simp [World.freeze],by simp [World.freeze],by simp [World.freeze],by simp [World.freeze],fun k _ hk=>?_⟩
     simp only [World.freeze,Nat.succ_ne_zero,if_false,Array.getElem?_modify]
     rw [if_neg (by simpa using fun h=>hk (by simp [Res.fp,Value.ownBlock,h]))]
   · have h1:=cells_blk (o:=0) (n:=n) h
     rw [List.drop_zero,show cur.toList.take n=bv l by rw [←ht,Nat.mul_one]] at h1
     exact ⟨h1,by have:=hown.1;simpa using this,hle,by simp⟩

theorem Sx.St.litA0 {w0 w:World} {X:List Nat} {M:List Res} (h:St w0 X w M) {t e sz by_:Nat} {z:Value} (E:ElemT Tryz.prog t e sz by_ z):
   ∃g w',(Instr.buildSlice t 0 #[]).run Tryz.prog w=.ok (.slice (some ⟨g,0,none⟩) 0 0) w'∧St w0 X w' (M++ [.row e sz (.slice (some ⟨g,0,none⟩) 0 0) 0 []]):=by
 obtain ⟨inf,hinf,hz,hsz,hby⟩:=E.inf
 have hrow:(w.alloc (.cells #[] e)).ownsRow 0 e sz (.slice (some ⟨w.heap.size,0,none⟩) 0 0) 0 []:=by
   have:=World.ownsRow_lit (base:=0) (e:=e) (size:=sz) w #[] 0 (Nat.zero_le _) (by simp only [maxLen];omega) (by simp)
   simpa using this
 refine ⟨w.heap.size,_,?_,h.add (Chg.alloc _ (.cells #[] e)) hrow (by simp [Res.fp,Value.ownBlock])⟩
 simp [Instr.buildSlice,run_underlying E.ht,sizeOf,typeInfo,hinf,newRow,Instr.fill]
 rw [show (Array.range 0)= #[] from Array.size_eq_zero_iff.1 (by simp)]
 simp

end Go.Proofs.YtpmhjnhgpplmnaaGreatDoor
end

section
namespace Go.Proofs.YtpmhjnhgpplmnaaGreatDoor
open Go Go.Proofs.YtpmhjnhgpplmnaaGreatDoor.Sx

set_option maxRecDepth 100000
theorem slices_Clone_byte_byte_vc (a0a:Option Addr) (a0n:Nat) (a0c:Nat) (w:World) (R:Ending→World→Prop) (h:(a0a.isNone=true→(R (.returned (.slice none 0 0)) w))∧(a0a.isNone=false→(∃t5a t5n t5c w1,(Instr.buildSlice 26 0 #[]).run Tryz.prog w=.ok (.slice t5a t5n t5c) w1∧(∃t7a t7n t7c w2,(Builtin.append_ #[26,26] 26 #[(.slice t5a t5n t5c),(.slice a0a a0n a0c)]).run Tryz.prog w1=.ok (.slice t7a t7n t7c) w2∧(R (.returned (.slice t7a t7n t7c)) w2))))):Calls Tryz.prog 150 #[(.slice a0a a0n a0c)] w R:=calls_of_ev2 (tc:=.sq [.rg 1,.seq (.rg 2) (.cond (.seq (.rg 1) .leaf) .leaf),.reg (.op (.r .slice) (.op .p (.op (.r .slice) (.op .p .nil))))] .leaf) Tryz.func150 (by kernel_rfl) (by kernel_rfl) h

end Go.Proofs.YtpmhjnhgpplmnaaGreatDoor
end

section
namespace Go.Proofs.YtpmhjnhgpplmnaaGreatDoor
open Go Sx
set_option maxRecDepth 8000

theorem rdNil (w:World):RdB w none 0 0 []:=⟨Cells.nil _ _,rfl,Nat.le_refl _,fun _=>rfl⟩

def FreshX (X:List Nat) (w w':World) (a:Option Addr) (n c:Nat) (l:List UInt8):Prop:=
 Chg X w w'∧l.length=n∧w'.ownsRow w.heap.size 5 1 (.slice a n c) n (bv l)

theorem FreshX.addBlk {w0 w w':World} {X:List Nat} {M:List Res} {g i:Nat} {o o':Obj} {a:Option Addr} {n c:Nat} {l:List UInt8} (h:FreshX [g] w w' a n c l) (hS:St w0 X w M) (hi:M[i]?=some (.blk g o)) (hg:w'.heap[g]?=some o'):
   St w0 X w' (M.set i (.blk g o')++ [.row 5 1 (.slice a n c) n (bv l)]):=by
 have hlt:=(Array.getElem?_eq_some_iff.1 (show w.heap[g]?=some o from hS.holds i _ hi)).1
 have hn:∀k∈(Res.row 5 1 (.slice a n c) n (bv l)).fp,w.heap.size≤k:=fun k hk=>(World.ownsRow.lt h.2.2 k (by simpa [Res.fp] using hk)).1
 refine hS.updAdd hi h.1 hg (by simp [Res.fp]) (ownsRow_base h.2.2 (Nat.zero_le _)) hn (fun k hk hk'=>?_)
 have:=hn k hk'
 simp [Res.fp] at hk
 omega

theorem clone_spec (a:Option Addr) (n c:Nat) (l:List UInt8) (w:World) (hr:RdB w a n c l) (hb:n≤140737488355000):
   Calls Tryz.prog 150 #[.slice a n c] w fun e w'=>∃a' c',e=.returned (.slice a' n c')∧FreshB w w' a' n c' l:=by
 apply slices_Clone_byte_byte_vc
 have hl:=hr.lenB
 refine ⟨fun h=>?_,fun _=>?_⟩
 · have ha:a=none:=by cases a with
     | none=>rfl
     | some _=>simp at h
   have hc:=hr.nil ha
   have hle:=hr.le
   obtain rfl:n=0:=by omega
   obtain rfl:l=[]:=List.eq_nil_of_length_eq_zero hl
   exact ⟨_,_,rfl,FreshB.nil _⟩
 · obtain ⟨g,w1,r1,h1⟩:=(St.start w).lit bT [] (by simp) (by simp)
   obtain ⟨va,vc,w2,r2,h2⟩:=h1.appendB (i:=0) (xs:=[]) rfl (h1.rd1 hr) (by simp;omega)
   simp only [List.length_nil,Nat.zero_add,List.nil_append] at r2 h2
   exact ⟨_,_,_,_,r1,_,_,_,_,r2,_,_,rfl,h2.freshB (i:=0) rfl⟩

theorem FreshB.after {X:List Nat} {w w1 w':World} {a:Option Addr} {n c:Nat} {l:List UInt8} (h:FreshB w1 w' a n c l) (hc:Chg X w w1):FreshX X w w' a n c l:=by
 refine ⟨hc.trans' h.1 (by simp),h.2.1,?_⟩
 exact ownsRow_base h.2.2 hc.size

theorem rdB_upto {w:World} {a:Option Addr} {n c k:Nat} {l:List UInt8} (h:RdB w a n c l) (hk:k≤n):RdB w a k c (l.take k):=by
 have h0:SubA 1 a 0 c a:=⟨fun _=>rfl,fun _=>by cases a<;>simp [Addr.add]⟩
 have:=h.sub h0 (hh:=k) (by omega) hk (by have:=h.le;omega) (Nat.le_refl _)
 have e2:((bv l).drop (0*1)).take ((k-0)*1)=bv (l.take k):=by simp [bv_take]
 rw [e2] at this
 exact this

theorem FreshB.rdB {w w':World} {a:Option Addr} {n c:Nat} {l:List UInt8} (h:FreshB w w' a n c l):RdB w' a n c l:=(h.add (St.start w)).rd (i:=0) rfl

end Go.Proofs.YtpmhjnhgpplmnaaGreatDoor
end

section
namespace Go.Proofs.YtpmhjnhgpplmnaaGreatDoor
open Go Sx
set_option maxRecDepth 8000

theorem uA (w:World):(isAgg 370).run Tryz.prog w=.ok false w:=Tryz.isAgg370 w
theorem uS (w:World):(sizeOf 370).run Tryz.prog w=.ok 1 w:=Tryz.sizeOf370 w
theorem w64A (w:World):(isAgg 393).run Tryz.prog w=.ok true w:=Tryz.isAgg393 w
theorem w64S (w:World):(sizeOf 393).run Tryz.prog w=.ok 64 w:=Tryz.sizeOf393 w
theorem w8A (w:World):(isAgg 394).run Tryz.prog w=.ok true w:=Tryz.isAgg394 w
theorem w8S (w:World):(sizeOf 394).run Tryz.prog w=.ok 8 w:=Tryz.sizeOf394 w
theorem w64Z (w:World):(zeroValue 393).run Tryz.prog w=.ok (.agg (kv .u32 (List.replicate 64 0)).toArray) w:=Tryz.zeroValue393 w
theorem w8Z (w:World):(zeroValue 394).run Tryz.prog w=.ok (.agg (kv .u32 (List.replicate 8 0)).toArray) w:=Tryz.zeroValue394 w

def KTab (w:World):Prop:=w.rangeAt 6 0 (kv .u32 kTab)

theorem KTab.keep0 {w w':World} (h:KTab w) (hc:Chg [] w w'):KTab w':=fun j v hj=>by
 have h1:=h j v hj
 rw [←h1]
 exact World.cell?_of_block (hc.block _ (World.block_lt_of_cell? w _ h1) (by simp))
theorem KTab.lt {w:World} (h:KTab w):6<w.heap.size:=World.block_lt_of_cell? w ⟨6,0+0,none⟩ (h 0 (.int .u32 1116352408) rfl)
theorem KTab.keep {w w':World} {X:List Nat} (h:KTab w) (hc:Chg X w w') (hX:6∉X):KTab w':=fun j v hj=>by
 have h1:=h j v hj
 rw [←h1]
 exact World.cell?_of_block (hc.block _ (World.block_lt_of_cell? w _ h1) hX)

theorem and_val {a b:Nat} (ha:a<4294967296) (hb:b<4294967296):band .u32 (a:Int) (b:Int)=((a&&& b:Nat):Int):=band_nat rfl (by simpa [kmod,IntKind.bits] using ha) (by simpa [kmod,IntKind.bits] using hb)
theorem not_val {a:Nat} (ha:a<4294967296):bxor .u32 (IntKind.max .u32) (a:Int)=((4294967295^^^a:Nat):Int):=by
 rw [show (IntKind.max .u32)=((4294967295:Nat):Int) by decide]
 exact xor_val (by decide) ha
theorem shr_val (x n:Nat) (h:n≤32):shrI .u32 (x:Int) ((n:Nat):Int)=((x / 2^n:Nat):Int):=shr_nat _ _ _ h

theorem rotr_spec (x n:Nat) (w:World) (hx:x<4294967296) (hn:n<32) (h0:0<n):Calls Tryz.prog 381 #[.int .u32 (x:Int),.int .i64 (n:Int)] w fun e w'=>e=.returned (.int .u32 ((rotr x n:Nat):Int))∧w'=w:=by
 apply sha_rotr_vc
 apply bits_RotateLeft32_vc
 have h1:band .u64 (IntKind.wrap .u64 (IntKind.wrap .i64 (0- (n:Int)))) 31=((32-n:Nat):Int):=by
   have e:IntKind.wrap .u64 (IntKind.wrap .i64 (0- (n:Int)))=((18446744073709551616-n:Nat):Int):=by rw [wrap_i64 (by omega) (by omega),wrap_u64];omega
   rw [e,show (31:Int)=((31:Nat):Int) from rfl,band_nat rfl (by simp [kmod,IntKind.bits];omega) (by simp [kmod,IntKind.bits]),show (18446744073709551616-n)&&& 31=(18446744073709551616-n)%32 from Nat.and_two_pow_sub_one_eq_mod _ 5]
   omega
 have h2:IntKind.wrap .u64 ((32:Int)- ((32-n:Nat):Int))=((n:Nat):Int):=by rw [wrap_u64];omega
 rw [h1,h2]
 refine ⟨by omega,by omega,_,rfl,?_,rfl⟩
 rw [shl_val (show 32-n≤32 by omega),shr_val _ _ (by omega),or_val (Nat.mod_lt _ (by decide)) (shr_lt _ hx)]
 rfl

theorem sg0_val {x:Nat} (h:x<4294967296):bxor .u32 (bxor .u32 ((rotr x 7:Nat):Int) ((rotr x 18:Nat):Int)) (shrI .u32 (x:Int) 3)=((sg0 x:Nat):Int):=by
 rw [show (3:Int)=((3:Nat):Int) from rfl,shr_val _ _ (by decide),xor_val (rotr_lt _ h) (rotr_lt _ h),xor_val (xor_lt (rotr_lt _ h) (rotr_lt _ h)) (shr_lt _ h)];rfl
theorem sg1_val {x:Nat} (h:x<4294967296):bxor .u32 (bxor .u32 ((rotr x 17:Nat):Int) ((rotr x 19:Nat):Int)) (shrI .u32 (x:Int) 10)=((sg1 x:Nat):Int):=by
 rw [show (10:Int)=((10:Nat):Int) from rfl,shr_val _ _ (by decide),xor_val (rotr_lt _ h) (rotr_lt _ h),xor_val (xor_lt (rotr_lt _ h) (rotr_lt _ h)) (shr_lt _ h)];rfl
theorem bg0_val {x:Nat} (h:x<4294967296):bxor .u32 (bxor .u32 ((rotr x 2:Nat):Int) ((rotr x 13:Nat):Int)) ((rotr x 22:Nat):Int)=((bg0 x:Nat):Int):=by
 rw [xor_val (rotr_lt _ h) (rotr_lt _ h),xor_val (xor_lt (rotr_lt _ h) (rotr_lt _ h)) (rotr_lt _ h)];rfl
theorem bg1_val {x:Nat} (h:x<4294967296):bxor .u32 (bxor .u32 ((rotr x 6:Nat):Int) ((rotr x 11:Nat):Int)) ((rotr x 25:Nat):Int)=((bg1 x:Nat):Int):=by
 rw [xor_val (rotr_lt _ h) (rotr_lt _ h),xor_val (xor_lt (rotr_lt _ h) (rotr_lt _ h)) (rotr_lt _ h)];rfl
theorem ch_val {e f g:Nat} (he:e<4294967296) (hf:f<4294967296) (hg:g<4294967296):bxor .u32 (band .u32 (e:Int) (f:Int)) (band .u32 (bxor .u32 (IntKind.max .u32) (e:Int)) (g:Int))=((chF e f g:Nat):Int):=by
 rw [not_val he,and_val he hf,and_val (xor_lt (by decide) he) hg,xor_val (and_lt _ he) (and_lt _ (xor_lt (by decide) he))];rfl
theorem maj_val {a b c:Nat} (ha:a<4294967296) (hb:b<4294967296) (hc:c<4294967296):bxor .u32 (bxor .u32 (band .u32 (a:Int) (b:Int)) (band .u32 (a:Int) (c:Int))) (band .u32 (b:Int) (c:Int))=((majF a b c:Nat):Int):=by
 rw [and_val ha hb,and_val ha hc,and_val hb hc,xor_val (and_lt _ ha) (and_lt _ ha),xor_val (xor_lt (and_lt _ ha) (and_lt _ ha)) (and_lt _ hb)];rfl

theorem be4_val (b0 b1 b2 b3:Nat) (h0:b0<256) (h1:b1<256) (h2:b2<256) (h3:b3<256):
   bor .u32 (bor .u32 (bor .u32 (shlI .u32 (IntKind.wrap .u32 (b0:Int)) 24) (shlI .u32 (IntKind.wrap .u32 (b1:Int)) 16)) (shlI .u32 (IntKind.wrap .u32 (b2:Int)) 8)) (IntKind.wrap .u32 (b3:Int))=((((b0*256+b1)*256+b2)*256+b3:Nat):Int):=by
 rw [wrap_u32_nat (show b0<4294967296 by omega),wrap_u32_nat (show b1<4294967296 by omega),wrap_u32_nat (show b2<4294967296 by omega),wrap_u32_nat (show b3<4294967296 by omega),
   show (24:Int)=((24:Nat):Int) from rfl,show (16:Int)=((16:Nat):Int) from rfl,show (8:Int)=((8:Nat):Int) from rfl,shl_val (by decide),shl_val (by decide),shl_val (by decide),
   Nat.mod_eq_of_lt (show b0*2^24<4294967296 by omega),Nat.mod_eq_of_lt (show b1*2^16<4294967296 by omega),Nat.mod_eq_of_lt (show b2*2^8<4294967296 by omega),
   or_val (by omega) (by omega),or_sum _ _ 24 (by omega),show b0*2^24+b1*2^16=(b0*256+b1)*2^16 by omega,or_val (by omega) (by omega),or_sum _ _ 16 (by omega),show (b0*256+b1)*2^16+b2*2^8=((b0*256+b1)*256+b2)*2^8 by omega,or_val (by omega) (by omega),or_sum _ _ 8 (by omega)]

theorem schedule_spec (a:Option Addr) (n c:Nat) (l:List UInt8) (w:World) (hr:RdB w a n c l) (hn:n=64):
   Calls Tryz.prog 380 #[.slice a n c] w fun e w'=>e=.returned (.agg (kv .u32 (schedK l 64)).toArray)∧Chg [] w w':=by
 have hl:=hr.lenB
 apply sha_schedule_vc
 obtain ⟨g1,w1,r1,h1⟩:=(St.start w).zeroA w64Z
 obtain ⟨g2,w2,r2,h2⟩:=h1.zeroA w64Z
 have ze:∀k:Nat,0+Int.toNat (k:Int)*1=k:=fun k=>by omega
 refine ⟨_,_,r1,_,_,r2,fun x w'=>∃k:Nat,x=(k:Int)∧k≤16∧St w [] w' [.arr g1 393 (kv .u32 (List.replicate 64 0)),.arr g2 393 (kv .u32 (schedK l k))],fun x _=>16-x.toNat,⟨0,rfl,by omega,h2⟩,?_⟩
 rintro x w3 ⟨k,rfl,hk,hS⟩
 refine ⟨fun h=>?_,fun h=>?_⟩
 · have hk':k<16:=by simp at h;omega
   have e1:IntKind.wrap .i64 ((4:Int)*(k:Int))=((4*k:Nat):Int):=by rw [wrap_i64 (by omega) (by omega)];omega
   have e2:∀j:Nat,j<4→IntKind.wrap .i64 (((4*k:Nat):Int)+(j:Int))=((4*k+j:Nat):Int):=fun j hj=>by rw [wrap_i64 (by omega) (by omega)];omega
   have e21:IntKind.wrap .i64 (((4*k:Nat):Int)+1)=((4*k+1:Nat):Int):=e2 1 (by omega)
   have e22:IntKind.wrap .i64 (((4*k:Nat):Int)+2)=((4*k+2:Nat):Int):=e2 2 (by omega)
   have e23:IntKind.wrap .i64 (((4*k:Nat):Int)+3)=((4*k+3:Nat):Int):=e2 3 (by omega)
   rw [e1,e21,e22,e23]
   have hc3:=hr.cells.keep0 hS.chg
   refine ⟨fun w'=>St w [] w' [.arr g1 393 (kv .u32 (List.replicate 64 0)),.arr g2 393 (kv .u32 (schedK l k))],hS.drew,?_⟩
   refine ix0 hc3 hl (4*k) (by omega) fun b0 o0 a0 q0=>ix0 hc3 hl (4*k+1) (by omega) fun b1 o1 a1 q1=>ix0 hc3 hl (4*k+2) (by omega) fun b2 o2 a2 q2=>ix0 hc3 hl (4*k+3) (by omega) fun b3 o3 a3 q3=>?_
   have H:∀w',St w [] w' [.arr g1 393 (kv .u32 (List.replicate 64 0)),.arr g2 393 (kv .u32 (schedK l k))]→Cells w' a (bv l):=fun w' h=>hr.cells.keep0 h.chg
   refine ⟨b0,o0,a0,by omega,by omega,b1,o1,a1,by omega,by omega,b2,o2,a2,by omega,by omega,b3,o3,a3,by omega,by omega,_,fun w' h=>q0 w' (H w' h),_,fun w' h=>q1 w' (H w' h),_,fun w' h=>q2 w' (H w' h),_,fun w' h=>q3 w' (H w' h),by omega,by omega,?_⟩
   rw [be4_val _ _ _ _ (by exact (l.getD (4*k) 0).toNat_lt) (by exact (l.getD (4*k+1) 0).toNat_lt) (by exact (l.getD (4*k+2) 0).toNat_lt) (by exact (l.getD (4*k+3) 0).toNat_lt)]
   obtain ⟨w4,r4,h4⟩:=hS.drew.stK (i:=1) (n:=be4 l (4*k)) rfl (uS _) (ze k) (by simp;omega)
   refine ⟨w4,r4,⟨k+1,wrap_succ hk' (by omega),by omega,?_⟩,mu_succ hk' (by omega)⟩
   have:schedK l (k+1)=(schedK l k).set k (be4 l (4*k)):=by rw [schedK,if_pos hk']
   rw [this];exact h4
 · have hk':k=16:=by simp at h;omega
   subst hk'
   refine ⟨fun x w'=>∃k:Nat,x=(k:Int)∧16≤k∧k≤64∧St w [] w' [.arr g1 393 (kv .u32 (List.replicate 64 0)),.arr g2 393 (kv .u32 (schedK l k))],fun x _=>64-x.toNat,⟨16,rfl,by omega,by omega,hS⟩,?_⟩
   clear hS
   rintro x w5 ⟨k,rfl,hk16,hk,hS⟩
   refine ⟨fun h=>?_,fun h=>?_⟩
   · have hk':k<64:=by simp at h;omega
     have e:∀j:Nat,j≤16→IntKind.wrap .i64 ((k:Int)- (j:Int))=((k-j:Nat):Int):=fun j hj=>by rw [wrap_i64 (by omega) (by omega)];omega
     have e15:IntKind.wrap .i64 ((k:Int)-15)=((k-15:Nat):Int):=e 15 (by omega)
     have e2:IntKind.wrap .i64 ((k:Int)-2)=((k-2:Nat):Int):=e 2 (by omega)
     have e7:IntKind.wrap .i64 ((k:Int)-7)=((k-7:Nat):Int):=e 7 (by omega)
     have e16:IntKind.wrap .i64 ((k:Int)-16)=((k-16:Nat):Int):=e 16 (by omega)
     rw [e15,e2,e7,e16]
     obtain ⟨W,hW⟩:∃W,schedK l k=W:=⟨_,rfl⟩
     have hWl:W.length=64:=by rw [←hW];simp
     have hlt:Lt32 W:=by rw [←hW];exact schedK_lt l k
     have hnext:schedK l (k+1)=W.set k (nextW W k):=by rw [schedK,if_neg (by omega),hW]
     rw [hW] at hS
     obtain ⟨Q,hQ⟩:∃Q:World→Prop,Q=fun w'=>St w [] w' [.arr g1 393 (kv .u32 (List.replicate 64 0)),.arr g2 393 (kv .u32 W)]:=⟨_,rfl⟩
     have hS':Q w5:=by rw [hQ];exact hS
     have hd:∀w',Q w'→Q w'.drew:=fun w' h=>by rw [hQ] at h ⊢;exact h.drew
     have ld:∀j:Nat,j<64→∀w',Q w'→(Instr.loadAt 370 (.pointer (some ⟨g2,0+Int.toNat (j:Int)*1,none⟩))).run Tryz.prog w'=.ok (.int .u32 ((W.getD j 0:Nat):Int)) w':=fun j hj w' h=>by
       rw [hQ] at h;exact h.ldK (i:=1) rfl (uA _) (ze j) (by omega)
     refine ⟨Q,hd _ hS',by omega,by omega,by omega,by omega,by omega,by omega,_,ld _ (by omega),_,ld _ (by omega),_,ld _ (by omega),(rotr_spec _ 7 _ (hlt _) (by decide) (by decide)).mono ?_⟩
     rintro e w6 ⟨rfl,rfl⟩
     refine ⟨_,rfl,Q,fun _ h=>h,hd _ hS',(rotr_spec _ 18 _ (hlt _) (by decide) (by decide)).mono ?_⟩
     rintro e w7 ⟨rfl,rfl⟩
     refine ⟨_,rfl,Q,fun _ h=>h,hd _ hS',Q,hd _ (hd _ hS'),by omega,by omega,by omega,by omega,by omega,by omega,_,ld _ (by omega),_,ld _ (by omega),_,ld _ (by omega),(rotr_spec _ 17 _ (hlt _) (by decide) (by decide)).mono ?_⟩
     rintro e w8 ⟨rfl,rfl⟩
     refine ⟨_,rfl,Q,fun _ h=>h,hd _ (hd _ hS'),(rotr_spec _ 19 _ (hlt _) (by decide) (by decide)).mono ?_⟩
     rintro e w9 ⟨rfl,rfl⟩
     refine ⟨_,rfl,Q,fun _ h=>h,hd _ (hd _ hS'),Q,hd _ (hd _ (hd _ hS')),by omega,by omega,by omega,by omega,_,ld _ (by omega),_,ld _ (by omega),by omega,by omega,?_⟩
     rw [sg0_val (hlt _),sg1_val (hlt _),add_val,add_val,add_val]
     have h9:=hd _ (hd _ (hd _ hS'))
     rw [hQ] at h9
     obtain ⟨w10,r10,h10⟩:=h9.stK (i:=1) (n:=nextW W k) rfl (uS _) (ze k) (by omega)
     refine ⟨w10,r10,⟨k+1,wrap_succ hk' (by omega),by omega,by omega,?_⟩,mu_succ hk' (by omega)⟩
     rw [hnext];exact h10
   · have hk':k=64:=by simp at h;omega
     subst hk'
     obtain ⟨W,hW⟩:∃W,schedK l 64=W:=⟨_,rfl⟩
     have hWl:W.length=64:=by rw [←hW];simp
     rw [hW] at hS ⊢
     obtain ⟨w6,r6,h6⟩:=hS.stA (i:=0) (v:=kv .u32 W) rfl (w64S _) (by simp) (by simp [hWl]) (kv_one _ _)
     exact ⟨_,hS.ldA (i:=1) rfl (w64A _) (w64S _) (by simp [hWl]),w6,r6,_,h6.ldVarA (i:=0) rfl (w64A _) (w64S _) (by simp [hWl]),rfl,h6.chg⟩

theorem ixArr {P:Program} {w:World} {T e n i:Nat} {cs:List Value} {v:Value} (hT:P.underlying T=some (.array n e)) (hS:(sizeOf e).run P w=.ok 1 w) (hA:(isAgg e).run P w=.ok false w) (hi:i<n) (hv:cs[i]?=some v):
   (Instr.index T (.agg cs.toArray) (.int .i64 (i:Int))).run P w=.ok v w:=by
 have h1:(0:Int)≤(i:Int)∧(i:Int)<(n:Int):=by omega
 simp [Instr.index,asIntOf,run_underlying hT,hS,part,hA,hv,hi]

def mixG {α:Type} (x l:List α) (i:Nat):List α:=x.take i++l.drop i
theorem mixG_zero {α:Type} (x l:List α):mixG x l 0=l:=by simp [mixG]
theorem mixG_all {α:Type} {x l:List α} (h:x.length=l.length):mixG x l l.length=x:=by simp [mixG,←h]
theorem mixG_len {α:Type} {x l:List α} {i:Nat} (h:x.length=l.length) (hi:i≤l.length):(mixG x l i).length=l.length:=by simp [mixG];omega
theorem mixG_set {α:Type} {x l:List α} {i:Nat} {b:α} (h:x.length=l.length) (hb:x[i]?=some b):(mixG x l i).set i b=mixG x l (i+1):=by
 have hi:i<x.length:=(List.getElem?_eq_some_iff.1 hb).1
 have hl:(x.take i).length=i:=by rw [List.length_take];omega
 rw [mixG,mixG,List.set_append_right _ _ (by omega),hl,Nat.sub_self,List.drop_eq_getElem_cons (by omega:i<l.length),List.set_cons_zero,List.take_add_one,hb]
 simp
theorem mixG_get {α:Type} {x l:List α} {i:Nat} (h:x.length=l.length) (hi:i<l.length):(mixG x l i)[i]?=l[i]?:=by
 rw [mixG,List.getElem?_append_right (by rw [List.length_take];omega),List.length_take,Nat.min_eq_left (by omega),Nat.sub_self,List.getElem?_drop,Nat.add_zero]

theorem shaBlock_spec (g T:Nat) (h:List Nat) (t:List Value) (a:Option Addr) (n c:Nat) (l:List UInt8) (w:World) (hK:KTab w) (hg:w.heap[g]?=some (.cells (kv .u32 h++t).toArray T)) (hh:h.length=8) (hlt:Lt32 h) (hr:RdB w a n c l) (hn:n=64):
   Calls Tryz.prog 376 #[.pointer (some ⟨g,0,none⟩),.slice a n c] w fun e w'=>e=.returned (.tuple #[])∧Chg [g] w w'∧w'.heap[g]?=some (.cells (kv .u32 (compress h l)++t).toArray T):=by
 apply sha_state_block_vc
 refine (schedule_spec a n c l w hr hn).mono ?_
 rintro e w1 ⟨rfl,hc1⟩
 obtain ⟨W,hW⟩:∃W,schedK l 64=W:=⟨_,rfl⟩
 have hWl:W.length=64:=by rw [←hW];exact schedK_len l 64
 obtain ⟨V,hV⟩:∃V,rounds W h 64=V:=⟨_,rfl⟩
 have hcomp:compress h l=List.zipWith add32 h V:=by rw [compress,hW,hV]
 rw [hcomp]
 rw [hW]
 have ze:∀k:Nat,0+Int.toNat (k:Int)*1=k:=fun k=>by omega
 have hS0:St w [g] w1 [.arr g T (kv .u32 h++t)]:=(St.ofBlk (w:=w) hg).same hc1
 obtain ⟨g2,w2,r2,h2⟩:=hS0.zeroA w64Z
 obtain ⟨w3,r3,h3⟩:=h2.stA (i:=1) (v:=kv .u32 W) rfl (w64S _) (by simp) (by simp [hWl]) (kv_one _ _)
 have hget:∀(x:List Nat),x.length=8→∀j,j<8→(kv .u32 x++t)[j]?=some (.int .u32 ((x.getD j 0:Nat):Int)):=fun x hx j hj=>by
   rw [List.getElem?_append_left (by simp;omega),kv_get (by omega)]
 have hk3:KTab w3.drew:=(hK.keep0 hc1).keep0 ((Chg.drew [] w3).trans (Chg.refl _ _) |> fun c=>by
   have hc:Chg [] w1 w3:=by
     obtain ⟨g2',w2',r2',h2'⟩:=(St.start w1).zeroA w64Z
     have e1:=r2.symm.trans r2'
     simp only [Result.ok.injEq,Value.pointer.injEq,Option.some.injEq,Addr.mk.injEq,and_true] at e1
     obtain ⟨rfl,rfl⟩:=e1
     obtain ⟨w3',r3',h3'⟩:=h2'.stA (i:=0) (v:=kv .u32 W) rfl (w64S _) (by simp) (by simp [hWl]) (kv_one _ _)
     have e2:=r3.symm.trans r3'
     simp only [Result.ok.injEq,true_and] at e2
     obtain rfl:=e2
     exact h3'.chg
   exact hc.trans c)
 have h3d:=h3.drew
 have hQ0:=h3d
 obtain ⟨Q,hQ⟩:∃Q:World→Prop,Q=fun w'=>St w [g] w' [.arr g T (kv .u32 h++t),.arr g2 393 (kv .u32 W)]∧KTab w':=⟨_,rfl⟩
 have hQ3:Q w3.drew:=by rw [hQ];exact ⟨h3d,hk3⟩
 have hd:∀w',Q w'→Q w'.drew:=fun w' h=>by rw [hQ] at h ⊢;exact ⟨h.1.drew,h.2.keep0 (Chg.drew _ _)⟩
 have ldh:∀j:Nat,j<8→∀off,off=j→∀w',Q w'→(Instr.loadAt 370 (.pointer (some ⟨g,off,none⟩))).run Tryz.prog w'=.ok (.int .u32 ((h.getD j 0:Nat):Int)) w':=fun j hj off ho w' hq=>by
   rw [hQ] at hq;exact hq.1.ldL (i:=0) rfl (uA _) ho (hget h hh j hj)
 have ldw:∀j:Nat,j<64→∀w',Q w'→(Instr.loadAt 370 (.pointer (some ⟨g2,0+Int.toNat (j:Int)*1,none⟩))).run Tryz.prog w'=.ok (.int .u32 ((W.getD j 0:Nat):Int)) w':=fun j hj w' hq=>by
   rw [hQ] at hq;exact hq.1.ldK (i:=1) rfl (uA _) (ze j) (by omega)
 have ldk:∀j:Nat,j<64→∀w',Q w'→(Instr.loadAt 370 (.pointer (some ⟨6,0+Int.toNat (j:Int)*1,none⟩))).run Tryz.prog w'=.ok (.int .u32 ((kTab.getD j 0:Nat):Int)) w':=fun j hj w' hq=>by
   rw [hQ] at hq
   have:=hq.2 j _ (kv_get (k:=.u32) (l:=kTab) (by rw [kTab_len];exact hj))
   rw [show 0+Int.toNat (j:Int)*1=0+j by omega]
   exact ld1 (uA _) this
 refine ⟨_,rfl,_,_,r2,w3,r3,Q,hQ3,_,ldh 0 (by decide) _ rfl,_,ldh 1 (by decide) _ rfl,_,ldh 2 (by decide) _ rfl,_,ldh 3 (by decide) _ rfl,_,ldh 4 (by decide) _ rfl,_,ldh 5 (by decide) _ rfl,_,ldh 6 (by decide) _ rfl,_,ldh 7 (by decide) _ rfl,?_⟩
 refine ⟨fun x0 x1 x2 x3 x4 x5 x6 x7 y w'=>∃k:Nat,y=(k:Int)∧k≤64∧Q w'∧∃v:List Nat,rounds W h k=v∧x0=((v.getD 0 0:Nat):Int)∧x1=((v.getD 1 0:Nat):Int)∧x2=((v.getD 2 0:Nat):Int)∧x3=((v.getD 3 0:Nat):Int)∧x4=((v.getD 4 0:Nat):Int)∧x5=((v.getD 5 0:Nat):Int)∧x6=((v.getD 6 0:Nat):Int)∧x7=((v.getD 7 0:Nat):Int),
   fun _ _ _ _ _ _ _ _ y _=>64-y.toNat,⟨0,rfl,by omega,hQ3,h,rfl,rfl,rfl,rfl,rfl,rfl,rfl,rfl,rfl⟩,?_⟩
 rintro x0 x1 x2 x3 x4 x5 x6 x7 y w4 ⟨k,rfl,hk,hq,v,hv,rfl,rfl,rfl,rfl,rfl,rfl,rfl,rfl⟩
 have hvlt:Lt32 v:=by rw [←hv];exact rounds_lt W hlt k
 have hvl:v.length=8:=by rw [←hv];exact rounds_len W hh k
 refine ⟨fun hc=>?_,fun hc=>?_⟩
 · have hk':k<64:=by simp at hc;omega
   refine ⟨Q,hd _ hq,by omega,by omega,by omega,by omega,_,ldk k hk',_,ldw k hk',(rotr_spec _ 6 _ (hvlt _) (by decide) (by decide)).mono ?_⟩
   rintro e w5 ⟨rfl,rfl⟩
   refine ⟨_,rfl,Q,fun _ h=>h,hd _ hq,(rotr_spec _ 11 _ (hvlt _) (by decide) (by decide)).mono ?_⟩
   rintro e w6 ⟨rfl,rfl⟩
   refine ⟨_,rfl,Q,fun _ h=>h,hd _ hq,(rotr_spec _ 25 _ (hvlt _) (by decide) (by decide)).mono ?_⟩
   rintro e w7 ⟨rfl,rfl⟩
   refine ⟨_,rfl,Q,fun _ h=>h,hd _ hq,(rotr_spec _ 2 _ (hvlt _) (by decide) (by decide)).mono ?_⟩
   rintro e w8 ⟨rfl,rfl⟩
   refine ⟨_,rfl,(rotr_spec _ 13 _ (hvlt _) (by decide) (by decide)).mono ?_⟩
   rintro e w9 ⟨rfl,rfl⟩
   refine ⟨_,rfl,(rotr_spec _ 22 _ (hvlt _) (by decide) (by decide)).mono ?_⟩
   rintro e w10 ⟨rfl,rfl⟩
   refine ⟨_,rfl,?_⟩
   rw [bg1_val (hvlt _),bg0_val (hvlt _),ch_val (hvlt _) (hvlt _) (hvlt _),maj_val (hvlt _) (hvlt _) (hvlt _)]
   simp only [add_val]
   refine ⟨⟨k+1,wrap_succ hk' (by omega),by omega,hd _ hq,roundL (kTab.getD k 0) (W.getD k 0) v,by rw [rounds,hv],?_⟩,mu_succ hk' (by omega)⟩
   obtain ⟨q1,q2,q3,q5,q6,q7⟩:=roundL_gs (kTab.getD k 0) (W.getD k 0) v
   rw [roundL_g0,roundL_g4,q1,q2,q3,q5,q6,q7]
   exact ⟨rfl,rfl,rfl,rfl,rfl,rfl,rfl,rfl⟩
 · have hk':k=64:=by simp at hc;omega
   have hvV:v=V:=by rw [←hv,hk',hV]
   rw [←hvV]
   clear hv hV hcomp hvV
   obtain ⟨Z,hZ⟩:∃Z,List.zipWith add32 h v=Z:=⟨_,rfl⟩
   have hZl:Z.length=8:=by rw [←hZ];exact zip_len hh hvl
   have hZg:∀j,j<8→Z[j]?=some (add32 (h.getD j 0) (v.getD j 0)):=fun j hj=>by rw [←hZ];exact zip_get hh hvl hj
   rw [hZ]
   rw [hQ] at hq
   have hv8:v=[v.getD 0 0,v.getD 1 0,v.getD 2 0,v.getD 3 0,v.getD 4 0,v.getD 5 0,v.getD 6 0,v.getD 7 0]:=by
     match v,hvl with
     | [_,_,_,_,_,_,_,_],_=>rfl
   have hb:(Instr.build 394 (((kv .u32 [v.getD 0 0,v.getD 1 0,v.getD 2 0,v.getD 3 0,v.getD 4 0,v.getD 5 0,v.getD 6 0,v.getD 7 0]).zipIdx 0).map fun p=>(p.2,p.1)).toArray).run Tryz.prog w4=.ok (.agg (kv .u32 v).toArray) w4:=by
     have:=build_arr (P:=Tryz.prog) (w:=w4) (w8Z w4) Tryz.underlying394 (uS _) (kv .u32 [v.getD 0 0,v.getD 1 0,v.getD 2 0,v.getD 3 0,v.getD 4 0,v.getD 5 0,v.getD 6 0,v.getD 7 0]) (kv_one _ _) (by simp)
     have e:kv .u32 [v.getD 0 0,v.getD 1 0,v.getD 2 0,v.getD 3 0,v.getD 4 0,v.getD 5 0,v.getD 6 0,v.getD 7 0]++(kv .u32 (List.replicate 8 0)).drop (kv .u32 [v.getD 0 0,v.getD 1 0,v.getD 2 0,v.getD 3 0,v.getD 4 0,v.getD 5 0,v.getD 6 0,v.getD 7 0]).length=kv .u32 v:=by
       rw [List.drop_of_length_le (by simp),List.append_nil,←hv8]
     rw [e] at this
     exact this
   refine ⟨_,hb,fun x w'=>∃j:Nat,x=(j:Int)∧j≤8∧St w [g] w' [.arr g T (kv .u32 (mixG Z h j)++t),.arr g2 393 (kv .u32 W)],fun x _=>8-x.toNat,⟨0,rfl,by omega,by rw [mixG_zero];exact hq.1⟩,?_⟩
   rintro x w11 ⟨j,rfl,hj,hS⟩
   have hml:(mixG Z h j).length=8:=by rw [mixG_len (by omega) (by omega)];exact hh
   refine ⟨fun hc=>?_,fun hc=>?_⟩
   · have hj':j<8:=by simp at hc;omega
     have hgj:(kv .u32 (mixG Z h j)++t)[j]?=some (.int .u32 ((h.getD j 0:Nat):Int)):=by
       rw [hget _ hml j hj']
       simp only [List.getD,mixG_get (show Z.length=h.length by omega) (show j<h.length by omega)]
     obtain ⟨w12,r12,h12⟩:=hS.drew.stL (i:=0) (v:=.int .u32 ((add32 (h.getD j 0) (v.getD j 0):Nat):Int)) rfl (uS _) (ze j) (by simp [hml];omega) rfl
     refine ⟨_,ixArr (cs:=kv .u32 v) Tryz.underlying394 (uS _) (uA _) hj' (kv_get (by omega)),fun w'=>St w [g] w' [.arr g T (kv .u32 (mixG Z h j)++t),.arr g2 393 (kv .u32 W)],hS.drew,by omega,by omega,_,fun w' h=>h.ldL (i:=0) rfl (uA _) (ze j) hgj,by omega,by omega,w12,?_,⟨j+1,wrap_succ hj' (by omega),by omega,?_⟩,mu_succ hj' (by omega)⟩
     · rw [add_val];exact r12
     · have:(kv .u32 (mixG Z h j)++t).set j (.int .u32 ((add32 (h.getD j 0) (v.getD j 0):Nat):Int))=kv .u32 (mixG Z h (j+1))++t:=by
         rw [List.set_append_left _ _ (by simp [hml];omega),kv_set,mixG_set (by omega) (hZg j hj')]
       rw [←this];exact h12
   · have hj':j=8:=by simp at hc;omega
     subst hj'
     have:mixG Z h 8=Z:=by have:=mixG_all (x:=Z) (l:=h) (by omega);rwa [hh] at this
     rw [this] at hS
     exact ⟨rfl,hS.chg,hS.holds 0 _ rfl⟩

end Go.Proofs.YtpmhjnhgpplmnaaGreatDoor
end

section
namespace Go.Proofs.YtpmhjnhgpplmnaaGreatDoor
open Go Sx
set_option maxRecDepth 8000

theorem laidK_eq:(Rows.laid_amphora_sha_k:DataW Unit)=Lib.tabData .u32 (kTab.map fun n:Nat=>(n:Int)):=by kernel_rfl

theorem kTab_of_laid {W:World} {rest:List (String×DataW Unit)} (hp:∀w,laidMetH Tryz.prog (("amphora/sha.k",Rows.laid_amphora_sha_k)::rest) w=laidMet Tryz.prog (("amphora/sha.k",Rows.laid_amphora_sha_k)::rest) w) (h:laidMetH Tryz.prog (("amphora/sha.k",Rows.laid_amphora_sha_k)::rest) W):KTab W:=by
 rw [hp,laidK_eq] at h
 have hg:Tryz.prog.globalNamed "amphora/sha.k" =some 6:=by kernel_rfl
 have hT:=Lib.tabIs_of_head hg (by kernel_rfl) Tryz.underlying393 Tryz.underlying370 (by kernel_rfl) (by kernel_rfl) h
 intro j v hj
 have hjl:j<kTab.length:=by have:=(List.getElem?_eq_some_iff.1 hj).1;simpa using this
 rw [kv_get hjl,Option.some.injEq] at hj
 have:=hT.cell hg j (by simpa using hjl)
 rw [Nat.zero_add,this,←hj]
 congr 2
 simp [List.getD,hjl]

end Go.Proofs.YtpmhjnhgpplmnaaGreatDoor
end

section
namespace Go.Proofs.YtpmhjnhgpplmnaaGreatDoor
open Go Sx
set_option maxRecDepth 8000

def varL (n:Nat):List UInt8:=if h:n<128 then [UInt8.ofNat n] else UInt8.ofNat (n%128+128)::varL (n / 128)
termination_by n
decreasing_by omega

theorem varL_small {n:Nat} (h:n<128):varL n=[UInt8.ofNat n]:=by rw [varL];simp [h]
theorem varL_big {n:Nat} (h:¬n<128):varL n=UInt8.ofNat (n%128+128)::varL (n / 128):=by rw [varL];simp [h]
theorem varL_pos (n:Nat):0<(varL n).length:=by rw [varL];split<;>simp

theorem varL_len:∀(k n:Nat),n<128^k→0<k→(varL n).length≤k
 | 0,_,_,h=>by omega
 | k+1,n,hn,_=>by
   by_cases h:n<128
   · rw [varL_small h];simp
   · rw [varL_big h]
     have hk:0<k:=by
       rcases Nat.eq_zero_or_pos k with rfl | h'
       · simp at hn;omega
       · exact h'
     have:=varL_len k (n / 128) (by rw [Nat.pow_succ] at hn;exact Nat.div_lt_of_lt_mul (by rw [Nat.mul_comm];exact hn)) hk
     simp only [List.length_cons]
     omega

def rdVar:Nat→List UInt8→Nat→Nat→Option (Nat×Nat)
 | 0,_,_,_=>none
 | f+1,l,i,n=>match l with
   | []=>none
   | b::r=>if b.toNat<128 then (if b.toNat=0∧0<i then none else some (n+b.toNat*128^i,i+1)) else rdVar f r (i+1) (n+(b.toNat-128)*128^i)

def readVarF (l:List UInt8):Option (Nat×Nat):=rdVar 9 l 0 0

def numL (u:Nat):List UInt8:=(List.range 8).map fun k=>UInt8.ofNat (u / 256^(7-k)%256)
theorem numL_len (u:Nat):(numL u).length=8:=by simp [numL]
theorem numL_get (u k:Nat) (hk:k<8):(numL u)[k]?=some (UInt8.ofNat (u / 256^(7-k)%256)):=by simp [numL,hk]

def beNat (l:List UInt8):Nat:=l.foldl (fun a b=>a*256+b.toNat) 0

theorem beNat_lt (l:List UInt8):beNat l<256^l.length:=by
 have key:∀(l:List UInt8) (a k:Nat),a<256^k→l.foldl (fun a b=>a*256+b.toNat) a<256^(k+l.length):=by
   intro l
   induction l with
   | nil=>intro a k h;simpa using h
   | cons b l ih=>
     intro a k h
     have hb:=b.toNat_lt
     have:=ih (a*256+b.toNat) (k+1) (by rw [Nat.pow_succ];omega)
     simp only [List.foldl_cons,List.length_cons]
     rw [show k+(l.length+1)=k+1+l.length by omega]
     exact this
 have:=key l 0 0 (by decide)
 simpa [beNat] using this

theorem beNat_snoc (l:List UInt8) (b:UInt8):beNat (l++ [b])=beNat l*256+b.toNat:=by simp [beNat]

def readNumF (l:List UInt8):Option Int:=if l.length=8 then some (IntKind.wrap .i64 (beNat l:Int)) else none

end Go.Proofs.YtpmhjnhgpplmnaaGreatDoor
end

section
namespace Go.Proofs.YtpmhjnhgpplmnaaGreatDoor
open Go Go.Proofs.YtpmhjnhgpplmnaaGreatDoor.Sx

set_option maxRecDepth 100000
theorem amphoranum_Num_vc_nil  (w:World) (R:Ending→World→Prop) (h:R (.returned (.int .i64 0)) w):Calls Tryz.prog 37 #[.nilIface] w R:=calls_of_ev2 (tc:=.sq [.rg 1,.seq (.rg 2) (.ct (.seq (.rg 1) .leaf))] .leaf) Tryz.func37 (by kernel_rfl) (by kernel_rfl) h

theorem amphoranum_Num_vc_err (n0:Int) (w:World) (R:Ending→World→Prop) (h:((n0==(0:Int))=true→(R (.returned (.int .i64 (-1))) w))∧((n0==(0:Int))=false→(R (.returned (.int .i64 n0)) w))):Calls Tryz.prog 37 #[(.iface 65 (.int .i64 n0))] w R:=calls_of_ev2 (tc:=.sq [.rg 1,.seq (.rg 2) (.cf .leaf),.rg 7,.seq (.rg 6) (.cond (.seq (.rg 1) .leaf) .leaf),.rg 2] .leaf) Tryz.func37 (by kernel_rfl) (by kernel_rfl) h

end Go.Proofs.YtpmhjnhgpplmnaaGreatDoor
end

section
namespace Go.Proofs.YtpmhjnhgpplmnaaGreatDoor
open Go Sx
set_option maxRecDepth 8000

def errV:Option Int→Value
 | none=>.nilIface
 | some n=>.iface 65 (.int .i64 n)

theorem eqlS_nil {T:TypeId} {m} (hT:Tryz.prog.underlying T=some (.interface m)) (o:Option Int) (x:Operand) (w:World):(eqlS .eql T x (.const .nilIface) (errV o) .nilIface).run Tryz.prog w=.ok (.bool o.isNone) w:=by
 have h1:∀d,(Op.equalIn (d+1) T .nilIface .nilIface).run Tryz.prog w=.ok true w:=fun d=>by simp [Op.equalIn,run_underlying hT]
 have h2:∀d U v,(Op.equalIn (d+1) T (.iface U v) .nilIface).run Tryz.prog w=.ok false w:=fun d U v=>by simp [Op.equalIn,run_underlying hT]
 cases o with
 | none=>simp [eqlS,eqGuard,errV,binOp,Op.equal,show Op.maxDepth=9999+1 from rfl,h1 9999]
 | some n=>simp [eqlS,eqGuard,errV,binOp,Op.equal,show Op.maxDepth=9999+1 from rfl,h2 9999]

theorem neqS_nil {T:TypeId} {m} (hT:Tryz.prog.underlying T=some (.interface m)) (o:Option Int) (x:Operand) (w:World):(eqlS .neq T x (.const .nilIface) (errV o) .nilIface).run Tryz.prog w=.ok (.bool o.isSome) w:=by
 have h1:∀d,(Op.equalIn (d+1) T .nilIface .nilIface).run Tryz.prog w=.ok true w:=fun d=>by simp [Op.equalIn,run_underlying hT]
 have h2:∀d U v,(Op.equalIn (d+1) T (.iface U v) .nilIface).run Tryz.prog w=.ok false w:=fun d U v=>by simp [Op.equalIn,run_underlying hT]
 cases o with
 | none=>simp [eqlS,eqGuard,errV,binOp,Op.equal,show Op.maxDepth=9999+1 from rfl,h1 9999]
 | some n=>simp [eqlS,eqGuard,errV,binOp,Op.equal,show Op.maxDepth=9999+1 from rfl,h2 9999]

theorem eI:∃m,Tryz.prog.underlying 58=some (.interface m):=⟨_,Tryz.underlying58⟩

structure MarkB (w:World) (g:Nat) (n c:Nat) (l:List UInt8) (cur:Array Value):Prop where
 blk:w.heap[g]?=some (.cells cur 5 (0,0))
 len:l.length=n
 le:n+2≤c
 size:c=cur.size
 cells:cur.toList.take (n+2)=bv (l++ [0xa5,0x5a])
 cm:c≤maxLen

theorem MarkB.rd {w:World} {g n c:Nat} {l:List UInt8} {cur:Array Value} (h:MarkB w g n c l cur):RdB w (some ⟨g,0,none⟩) n c l:=by
 have hl:=h.len
 refine ⟨?_,by simp [hl],by have:=h.le;omega,by simp⟩
 have h1:=cells_blk (o:=0) (n:=n) h.blk
 have h2:(cur.toList.drop 0).take n=bv l:=by
   have:=congrArg (List.take n) h.cells
   rw [List.take_take,Nat.min_eq_left (by omega),bv_append,List.take_left' (by simp [hl])] at this
   simpa using this
 rw [h2] at h1
 exact h1

theorem MarkB.at_ {w:World} {g n c:Nat} {l:List UInt8} {cur:Array Value} (h:MarkB w g n c l cur) {i:Nat} (hi:i<n+2):w.cell? ⟨g,i,none⟩=some (.int .u8 (((l++ [0xa5,0x5a]).getD i 0).toNat:Int)):=by
 rw [cell_of_row w g i cur _ _ h.blk]
 have h1:cur.toList[i]?=(bv (l++ [0xa5,0x5a]))[i]?:=by rw [←h.cells,List.getElem?_take,if_pos hi]
 have h2:i<(l++ [0xa5,0x5a]).length:=by have:=h.len;simp;omega
 rw [←Array.getElem?_toList,h1,bv_get,List.getD,List.getElem?_eq_getElem h2]
 rfl

theorem MarkB.keep {w w':World} {g n c:Nat} {l:List UInt8} {cur:Array Value} (h:MarkB w g n c l cur) (hb:w'.heap[g]?=w.heap[g]?):MarkB w' g n c l cur:=⟨by rw [hb];exact h.blk,h.len,h.le,h.size,h.cells,h.cm⟩

theorem MarkB.row {w:World} {g n c:Nat} {l:List UInt8} {cur:Array Value} (h:MarkB w g n c l cur) {b:Nat} (hb:b≤g):w.ownsRow b 5 1 (.slice (some ⟨g,0,none⟩) n c) n (bv l):=by
 have hl:=h.len
 refine ⟨by simp [hl],.inr ⟨g,c,cur,rfl,hb,h.blk,by have:=h.le;omega,h.cm,by have:=h.size;omega,?_⟩⟩
 have:=congrArg (List.take n) h.cells
 rw [List.take_take,Nat.min_eq_left (by omega),bv_append,List.take_left' (by simp [hl])] at this
 simpa using this

theorem num_spec (o:Option Int) (w:World) (h0:o≠some 0):Calls Tryz.prog 37 #[errV o] w fun e w'=>e=.returned (.int .i64 (o.getD 0))∧w'=w:=by
 cases o with
 | none=>exact amphoranum_Num_vc_nil w _ ⟨rfl,rfl⟩
 | some n=>
   have hn:(n==0)=false:=by simpa using fun e=>h0 (by rw [e])
   exact amphoranum_Num_vc_err n w _ ⟨fun h=>(by rw [hn] at h;cases h),fun _=>⟨rfl,rfl⟩⟩

end Go.Proofs.YtpmhjnhgpplmnaaGreatDoor
end

section
namespace Go.Proofs.YtpmhjnhgpplmnaaGreatDoor
open Go Go.Proofs.YtpmhjnhgpplmnaaGreatDoor.Sx

set_option maxRecDepth 100000
theorem wire_Var_vc (a0:Int) (w:World) (R:Ending→World→Prop) (h:(decide (a0<(0:Int))=true→(R (.returned (.slice none 0 0)) w))∧(decide (a0<(0:Int))=false→(∃(I:Int→Option Addr→Nat→Nat→World→Prop) (μ:Int→Option Addr→Nat→Nat→World→Nat),I a0 none 0 0 w∧(∀x0 x3a x3n x3c,∀w1,I x0 x3a x3n x3c w1→((decide (x0≥(128:Int))=true→(∃t12a t12n t12c w2,(Instr.buildSlice 26 1 #[(0,(.int .u8 (bor .u8 (IntKind.wrap .u8 x0) (128:Int))))]).run Tryz.prog w1=.ok (.slice t12a t12n t12c) w2∧(∃t13a t13n t13c w3,(Builtin.append_ #[26,26] 26 #[(.slice x3a x3n x3c),(.slice t12a t12n t12c)]).run Tryz.prog w2=.ok (.slice t13a t13n t13c) w3∧(I (shrI .i64 x0 (7:Int)) t13a t13n t13c w3∧μ (shrI .i64 x0 (7:Int)) t13a t13n t13c w3<μ x0 x3a x3n x3c w1))))∧(decide (x0≥(128:Int))=false→(∃t19a t19n t19c w4,(Instr.buildSlice 26 1 #[(0,(.int .u8 (IntKind.wrap .u8 x0)))]).run Tryz.prog w1=.ok (.slice t19a t19n t19c) w4∧(∃t20a t20n t20c w5,(Builtin.append_ #[26,26] 26 #[(.slice x3a x3n x3c),(.slice t19a t19n t19c)]).run Tryz.prog w4=.ok (.slice t20a t20n t20c) w5∧(R (.returned (.slice t20a t20n t20c)) w5))))))))):Calls Tryz.prog 197 #[(.int .i64 a0)] w R:=calls_of_ev2 (tc:=.sq [.rg 1,.seq (.rg 2) (.cond (.seq (.rg 1) .leaf) .leaf),.rg 1,.blk (.loop (lr [(0,1),(3,1),(6,10)]) [0,3] [.int .i64,.slice] (.seq (.seq (.rg 2) (.cond .leaf .leaf)) (.blk (.seq (.reg (.pp 4 (.op (.r .slice) (.op (.r .slice) (.op .p .nil))))) (.rg 3))))),.reg (.pp 3 (.op (.r .slice) (.op (.r .slice) (.op .p .nil))))] .leaf) Tryz.func197 (by kernel_rfl) (by kernel_rfl) h

theorem wire_ReadVar_vc (a0a:Option Addr) (a0n:Nat) (a0c:Nat) (w:World) (R:Ending→World→Prop) (h:∃(I:Int→Int→World→Prop) (μ:Int→Int→World→Nat),I 0 0 w∧(∀x5 x6,∀w1,I x5 x6 w1→((((decide (x6<(a0n:Int)))&&(decide (x6<(9:Int))))=true→(∃t20b t20o,a0a=some ⟨t20b,t20o,none⟩∧0≤x6∧x6<(a0n:Int)∧(∃t21,LdQ 5 t20b (t20o+Int.toNat x6*1) (.int .u8 t21) w1∧(0≤(IntKind.wrap .i64 ((7:Int)*x6))∧(∃t30b t30o,a0a=some ⟨t30b,t30o,none⟩∧0≤x6∧x6<(a0n:Int)∧(∃t31,LdQ 5 t30b (t30o+Int.toNat x6*1) (.int .u8 t31) w1∧((decide (t31<(128:Int))=true→(∃t35b t35o,a0a=some ⟨t35b,t35o,none⟩∧0≤x6∧x6<(a0n:Int)∧(∃t36,LdQ 5 t35b (t35o+Int.toNat x6*1) (.int .u8 t36) w1∧((((t36==(0:Int))&&(decide (x6>(0:Int))))=true→(R (.returned (.tuple #[(.int .i64 0),(.int .i64 0),(.iface 65 (.int .i64 9))])) w1))∧(((t36==(0:Int))&&(decide (x6>(0:Int))))=false→(R (.returned (.tuple #[(.int .i64 (IntKind.wrap .i64 (bor .u64 x5 (shlI .u64 (IntKind.wrap .u64 (band .u8 t21 (127:Int))) (IntKind.wrap .i64 ((7:Int)*x6)))))),(.int .i64 (IntKind.wrap .i64 (x6+1))),.nilIface])) w1))))))∧(decide (t31<(128:Int))=false→(I (bor .u64 x5 (shlI .u64 (IntKind.wrap .u64 (band .u8 t21 (127:Int))) (IntKind.wrap .i64 ((7:Int)*x6)))) (IntKind.wrap .i64 (x6+1)) w1∧μ (bor .u64 x5 (shlI .u64 (IntKind.wrap .u64 (band .u8 t21 (127:Int))) (IntKind.wrap .i64 ((7:Int)*x6)))) (IntKind.wrap .i64 (x6+1)) w1<μ x5 x6 w1)))))))))∧(((decide (x6<(a0n:Int)))&&(decide (x6<(9:Int))))=false→(R (.returned (.tuple #[(.int .i64 0),(.int .i64 0),(.iface 65 (.int .i64 9))])) w1))))):Calls Tryz.prog 210 #[(.slice a0a a0n a0c)] w R:=calls_of_ev2 (tc:=.sq [.rg 3,.rg 1,.seq (.rg 1) (.blk (.loop (lr [(2,44)]) [5,6] [.int .u64,.int .i64] (.sq [.seq (.reg (.pp 5 (.ap 2 .nil))) (.cond .leaf .leaf),.blk (.sq [.reg (.pp 3 (.op .ix (.op (.ld (.int .u8)) (.pp 4 (.op .sc (.pp 2 .nil)))))),.reg (.pp 2 (.op .ix (.op (.ld (.int .u8)) (.op .p .nil))))] (.cond (.sq [.seq (.reg (.pp 2 (.op .ix (.op (.ld (.int .u8)) (.pp 2 (.ap 2 .nil)))))) (.cond .leaf .leaf),.rg 7] .leaf) .leaf))] (.rg 3)))),.rg 4] .leaf) Tryz.func210 (by kernel_rfl) (by kernel_rfl) h

theorem wire_Num_vc (a0:Int) (w:World) (R:Ending→World→Prop) (h:∃t5a t5n t5c w1,(Instr.makeSlice 26 (.int .i64 0) (.int .i64 8)).run Tryz.prog w=.ok (.slice t5a t5n t5c) w1∧(∃(I:Option Addr→Nat→Nat→Int→World→Prop) (μ:Option Addr→Nat→Nat→Int→World→Nat),I t5a t5n t5c 56 w1∧(∀x3a x3n x3c x4,∀w2,I x3a x3n x3c x4 w2→((decide (x4≥(0:Int))=true→(0≤x4∧(∃t16a t16n t16c w3,(Instr.buildSlice 26 1 #[(0,(.int .u8 (IntKind.wrap .u8 (shrI .u64 (IntKind.wrap .u64 a0) x4))))]).run Tryz.prog w2=.ok (.slice t16a t16n t16c) w3∧(∃t17a t17n t17c w4,(Builtin.append_ #[26,26] 26 #[(.slice x3a x3n x3c),(.slice t16a t16n t16c)]).run Tryz.prog w3=.ok (.slice t17a t17n t17c) w4∧(I t17a t17n t17c (IntKind.wrap .i64 (x4- (8:Int))) w4∧μ t17a t17n t17c (IntKind.wrap .i64 (x4- (8:Int))) w4<μ x3a x3n x3c x4 w2)))))∧(decide (x4≥(0:Int))=false→(R (.returned (.slice x3a x3n x3c)) w2)))))):Calls Tryz.prog 196 #[(.int .i64 a0)] w R:=calls_of_ev2 (tc:=.sq [.rg 1,.reg (.op (.r .slice) (.op .p .nil)),.seq (.rg 1) (.blk (.loop (lr [(3,2),(6,12)]) [3,4] [.slice,.int .i64] (.sq [.seq (.rg 2) (.cond .leaf .leaf),.blk (.reg (.pp 4 (.op .sc (.op .p (.op (.r .slice) (.op (.r .slice) (.op .p .nil)))))))] (.rg 3)))),.rg 2] .leaf) Tryz.func196 (by kernel_rfl) (by kernel_rfl) h

theorem wire_ReadNum_vc (a0a:Option Addr) (a0n:Nat) (a0c:Nat) (w:World) (R:Ending→World→Prop) (h:(((a0n:Int) != (8:Int))=true→(R (.returned (.tuple #[(.int .i64 0),(.iface 65 (.int .i64 9))])) w))∧(((a0n:Int) != (8:Int))=false→(∃(I:Int→Int→World→Prop) (μ:Int→Int→World→Nat),I 0 0 w∧(∀x4 x13,∀w1,I x4 x13 w1→((decide (x13<(a0n:Int))=true→(∃t15b t15o,a0a=some ⟨t15b,t15o,none⟩∧0≤x13∧x13<(a0n:Int)∧(∃t16,LdQ 5 t15b (t15o+Int.toNat x13*1) (.int .u8 t16) w1∧(I (bor .u64 (shlI .u64 x4 (8:Int)) (IntKind.wrap .u64 t16)) (IntKind.wrap .i64 (x13+1)) w1∧μ (bor .u64 (shlI .u64 x4 (8:Int)) (IntKind.wrap .u64 t16)) (IntKind.wrap .i64 (x13+1)) w1<μ x4 x13 w1))))∧(decide (x13<(a0n:Int))=false→(R (.returned (.tuple #[(.int .i64 (IntKind.wrap .i64 x4)),.nilIface])) w1))))))):Calls Tryz.prog 208 #[(.slice a0a a0n a0c)] w R:=calls_of_ev2 (tc:=.sq [.rg 2,.seq (.rg 3) (.cond (.seq (.rg 3) .leaf) .leaf),.rg 1,.seq (.rg 3) (.blk (.loop (lr [(4,1),(6,1),(13,10)]) [4,13] [.int .u64,.int .i64] (.sq [.rg 1,.cond .leaf .leaf,.blk (.seq (.reg (.op .ix (.op (.ld (.int .u8)) (.op .p .nil)))) (.rg 6))] (.rg 2)))),.rg 4] .leaf) Tryz.func208 (by kernel_rfl) (by kernel_rfl) h

theorem wire_Pack_vc (a0a:Option Addr) (a0n:Nat) (a0c:Nat) (w:World) (R:Ending→World→Prop) (h:∃(I:Option Addr→Nat→Nat→Int→World→Prop) (μ:Option Addr→Nat→Nat→Int→World→Nat),I none 0 0 0 w∧(∀x3a x3n x3c x8,∀w1,I x3a x3n x3c x8 w1→((decide (x8<(a0n:Int))=true→(∃t10b t10o,a0a=some ⟨t10b,t10o,none⟩∧0≤x8∧x8<(a0n:Int)∧(∃t11a t11n t11c,LdQ 26 t10b (t10o+Int.toNat x8*1) (.slice t11a t11n t11c) w1∧((decide ((t11n:Int)>(67108864:Int))=true→(R (.returned (.slice none 0 0)) w1))∧(decide ((t11n:Int)>(67108864:Int))=false→(Calls Tryz.prog 197 #[(.int .i64 (t11n:Int))] w1 fun e18 w2=>∃t18a t18n t18c,e18=.returned (.slice t18a t18n t18c)∧(∃t19a t19n t19c w3,(Builtin.append_ #[26,26] 26 #[(.slice x3a x3n x3c),(.slice t18a t18n t18c)]).run Tryz.prog w2=.ok (.slice t19a t19n t19c) w3∧(∃t22a t22n t22c w4,(Builtin.append_ #[26,26] 26 #[(.slice t19a t19n t19c),(.slice t11a t11n t11c)]).run Tryz.prog w3=.ok (.slice t22a t22n t22c) w4∧(I t22a t22n t22c (IntKind.wrap .i64 (x8+1)) w4∧μ t22a t22n t22c (IntKind.wrap .i64 (x8+1)) w4<μ x3a x3n x3c x8 w1)))))))))∧(decide (x8<(a0n:Int))=false→(R (.returned (.slice x3a x3n x3c)) w1))))):Calls Tryz.prog 100 #[(.slice a0a a0n a0c)] w R:=calls_of_ev2 (tc:=.sq [.rg 1,.rg 1,.seq (.rg 3) (.blk (.loop (lr [(2,2),(5,1),(8,16)]) [3,8] [.slice,.int .i64] (.sq [.rg 1,.cond .leaf .leaf,.blk (.sq [.reg (.op .ix (.op (.ld .slice) (.op .p .nil))),.seq (.rg 3) (.cond (.seq (.rg 1) .leaf) .leaf),.reg (.pp 3 (.op (.cl [.slice]) (.op (.r .slice) (.op .p .nil))))] (.reg (.pp 2 (.op (.r .slice) (.op .p .nil)))))] (.rg 2)))),.rg 2] .leaf) Tryz.func100 (by kernel_rfl) (by kernel_rfl) h

theorem wire_NewReader_vc (a0a:Option Addr) (a0n:Nat) (a0c:Nat) (w:World) (R:Ending→World→Prop) (h:Calls Tryz.prog 150 #[(.slice a0a a0n a0c)] w fun e4 w1=>∃t4a t4n t4c,e4=.returned (.slice t4a t4n t4c)∧(∃t5,(Instr.build 292 #[(0,(.slice t4a t4n t4c))]).run Tryz.prog w1=.ok (.agg t5) w1∧(∃g6 w2,(Instr.box 292 (.agg t5)).run Tryz.prog w1=.ok (.pointer (some ⟨g6,0,none⟩)) w2∧(R (.returned (.pointer (some ⟨g6,0,none⟩))) w2)))):Calls Tryz.prog 112 #[(.slice a0a a0n a0c)] w R:=calls_of_ev2 (tc:=.sq [.rg 1,.reg (.op .p (.op (.cl [.slice]) (.op (.ld .agg) (.op .bx (.op .p .nil)))))] .leaf) Tryz.func112 (by kernel_rfl) (by kernel_rfl) h

theorem wire_Reader_fail_vc (a0b:Nat) (a0o:Nat) (w:World) (R:Ending→World→Prop) (h:∃w1,StQ 4 a0b (a0o+1) (.bool true) w w1∧(∃w2,StQ 26 a0b a0o (.slice none 0 0) w1 w2∧(R (.returned (.tuple #[])) w2))):Calls Tryz.prog 211 #[(.pointer (some ⟨a0b,a0o,none⟩))] w R:=calls_of_ev2 (tc:=.reg (.pp 4 (.op .u (.pp 2 (.op .u .nil))))) Tryz.func211 (by kernel_rfl) (by kernel_rfl) h

theorem wire_Reader_raw_vc (a0b:Nat) (a0o:Nat) (a1:Int) (w:World) (R:Ending→World→Prop) (h:∃J:Bool→World→Prop,((decide (a1<(0:Int))=true→(J true w))∧(decide (a1<(0:Int))=false→(∃t13a t13n t13c,LdQ 26 a0b a0o (.slice t13a t13n t13c) w∧(J (decide (a1>(t13n:Int))) w))))∧(∀x16,∀w1,J x16 w1→(∃J_1:World→Prop,((x16=true→(Calls Tryz.prog 211 #[(.pointer (some ⟨a0b,a0o,none⟩))] w1 fun e18 w2=>e18=.returned (.tuple #[])∧(J_1  w2)))∧(x16=false→(J_1  w1)))∧(∀w3,J_1  w3→(∃t22,LdQ 4 a0b (a0o+1) (.bool t22) w3∧((t22=true→(R (.returned (.slice none 0 0)) w3))∧(t22=false→(∃t26a t26n t26c,LdQ 26 a0b a0o (.slice t26a t26n t26c) w3∧(0≤a1∧a1≤a1∧a1≤(t26c:Int)∧(∃t34a t34n t34c,LdQ 26 a0b a0o (.slice t34a t34n t34c) w3∧(0≤a1∧a1≤(t34n:Int)∧(t34n:Int)≤(t34c:Int)∧∀t36a,SubA 1 t34a (Int.toNat a1) t34c t36a→(∃w4,StQ 26 a0b a0o (.slice t36a ((t34n)- (Int.toNat a1)) (t34c- (Int.toNat a1))) w3 w4∧(R (.returned (.slice t26a (Int.toNat a1) (Int.toNat a1))) w4))))))))))))):Calls Tryz.prog 209 #[(.pointer (some ⟨a0b,a0o,none⟩)),(.int .i64 a1)] w R:=calls_of_ev2 (tc:=.sq [.rg 1,.seq (.join (lr [(6,11)]) [16] [.bool] (.reg (.pp 3 (.sp 8 (.pp 8 .nil) (.pp 4 (.op (.ld .slice) (.pp 3 .nil))))))) (.join [17,18] [] [] (.cond (.reg (.op .p (.op (.cl []) .nil))) .leaf)),.seq (.reg (.pp 3 (.op (.ld .bool) .nil))) (.cond (.seq (.rg 1) .leaf) .leaf),.reg (.pp 3 (.op (.ld .slice) (.pp 2 (.op .sl (.op .p .nil))))),.reg (.pp 4 (.op (.ld .slice) (.op .p (.op .sl (.pp 2 (.op .u .nil)))))),.rg 2] .leaf) Tryz.func209 (by kernel_rfl) (by kernel_rfl) h

theorem wire_Reader_Var_vc (a0b:Nat) (a0o:Nat) (w:World) (R:Ending→World→Prop) (h:∃t12,LdQ 4 a0b (a0o+1) (.bool t12) w∧((t12=true→(R (.returned (.int .i64 0)) w))∧(t12=false→(∃t18a t18n t18c,LdQ 26 a0b a0o (.slice t18a t18n t18c) w∧(Calls Tryz.prog 210 #[(.slice t18a t18n t18c)] w fun e19 w1=>∃t19_0 t19_1 t19_2,e19=.returned (.tuple #[(.int .i64 t19_0),(.int .i64 t19_1),t19_2])∧(∃t24,(eqlS .neq 58 (.tmp 23) (.const .nilIface) t19_2 .nilIface).run Tryz.prog w1=.ok (.bool t24) w1∧((t24=true→(Calls Tryz.prog 211 #[(.pointer (some ⟨a0b,a0o,none⟩))] w1 fun e26 w2=>e26=.returned (.tuple #[])∧(R (.returned (.int .i64 0)) w2)))∧(t24=false→(∃t31a t31n t31c,LdQ 26 a0b a0o (.slice t31a t31n t31c) w1∧(0≤t19_1∧t19_1≤(t31n:Int)∧(t31n:Int)≤(t31c:Int)∧∀t33a,SubA 1 t31a (Int.toNat t19_1) t31c t33a→(∃w3,StQ 26 a0b a0o (.slice t33a ((t31n)- (Int.toNat t19_1)) (t31c- (Int.toNat t19_1))) w1 w3∧(R (.returned (.int .i64 t19_0)) w3)))))))))))):Calls Tryz.prog 114 #[(.pointer (some ⟨a0b,a0o,none⟩))] w R:=calls_of_ev2 (tc:=.sq [.rg 1,.seq (.reg (.pp 6 (.op (.ld .bool) (.op .p .nil)))) (.cond (.seq (.rg 1) .leaf) .leaf),.reg (.pp 3 (.op (.ld .slice) (.op (.cl [.int .i64,.int .i64,.val]) (.pp 7 .nil)))),.seq (.reg (.op .p (.op (.ld .bool) .nil))) (.cond (.sq [.reg (.op .p (.op (.cl []) .nil)),.rg 1] .leaf) .leaf),.reg (.pp 4 (.op (.ld .slice) (.op .p (.op .sl (.pp 2 (.op .u .nil)))))),.rg 2] .leaf) Tryz.func114 (by kernel_rfl) (by kernel_rfl) h

theorem wire_Reader_Num_vc (a0b:Nat) (a0o:Nat) (w:World) (R:Ending→World→Prop) (h:Calls Tryz.prog 209 #[(.pointer (some ⟨a0b,a0o,none⟩)),(.int .i64 8)] w fun e9 w1=>∃t9a t9n t9c,e9=.returned (.slice t9a t9n t9c)∧(Calls Tryz.prog 208 #[(.slice t9a t9n t9c)] w1 fun e10 w2=>∃t10_0 t10_1,e10=.returned (.tuple #[(.int .i64 t10_0),t10_1])∧(∃t14,(eqlS .neq 58 (.tmp 13) (.const .nilIface) t10_1 .nilIface).run Tryz.prog w2=.ok (.bool t14) w2∧((t14=true→(R (.returned (.int .i64 0)) w2))∧(t14=false→(R (.returned (.int .i64 t10_0)) w2)))))):Calls Tryz.prog 113 #[(.pointer (some ⟨a0b,a0o,none⟩))] w R:=calls_of_ev2 (tc:=.sq [.rg 1,.seq (.rg 2) (.cf .leaf),.reg (.op .p (.op (.cl [.slice]) (.op (.cl [.int .i64,.val]) (.pp 5 .nil)))),.seq (.reg (.op .p (.op (.ld .bool) .nil))) (.cond (.seq (.rg 1) .leaf) .leaf),.rg 2] .leaf) Tryz.func113 (by kernel_rfl) (by kernel_rfl) h

theorem wire_Reader_Field_vc (a0b:Nat) (a0o:Nat) (w:World) (R:Ending→World→Prop) (h:Calls Tryz.prog 114 #[(.pointer (some ⟨a0b,a0o,none⟩))] w fun e5 w1=>∃t5,e5=.returned (.int .i64 t5)∧(∃t12,LdQ 4 a0b (a0o+1) (.bool t12) w1∧((t12=true→(R (.returned (.slice none 0 0)) w1))∧(t12=false→((decide (t5>(67108864:Int))=true→(Calls Tryz.prog 211 #[(.pointer (some ⟨a0b,a0o,none⟩))] w1 fun e17 w2=>e17=.returned (.tuple #[])∧(R (.returned (.slice none 0 0)) w2)))∧(decide (t5>(67108864:Int))=false→(Calls Tryz.prog 213 #[(.pointer (some ⟨a0b,a0o,none⟩)),(.int .i64 t5)] w1 fun e20 w3=>∃t20a t20n t20c,e20=.returned (.slice t20a t20n t20c)∧(R (.returned (.slice t20a t20n t20c)) w3)))))))):Calls Tryz.prog 212 #[(.pointer (some ⟨a0b,a0o,none⟩))] w R:=calls_of_ev2 (tc:=.sq [.rg 1,.reg (.op .p (.op (.cl [.int .i64]) (.op .p .nil))),.seq (.reg (.pp 6 (.op (.ld .bool) (.op .p .nil)))) (.cond (.seq (.rg 1) .leaf) .leaf),.seq (.rg 2) (.cond (.sq [.reg (.op .p (.op (.cl []) .nil)),.rg 1] .leaf) .leaf),.reg (.pp 2 (.op (.cl [.slice]) (.op .p .nil)))] .leaf) Tryz.func212 (by kernel_rfl) (by kernel_rfl) h

theorem wire_Reader_Raw_vc (a0b:Nat) (a0o:Nat) (a1:Int) (w:World) (R:Ending→World→Prop) (h:Calls Tryz.prog 209 #[(.pointer (some ⟨a0b,a0o,none⟩)),(.int .i64 a1)] w fun e9 w1=>∃t9a t9n t9c,e9=.returned (.slice t9a t9n t9c)∧(Calls Tryz.prog 150 #[(.slice t9a t9n t9c)] w1 fun e10 w2=>∃t10a t10n t10c,e10=.returned (.slice t10a t10n t10c)∧(R (.returned (.slice t10a t10n t10c)) w2))):Calls Tryz.prog 213 #[(.pointer (some ⟨a0b,a0o,none⟩)),(.int .i64 a1)] w R:=calls_of_ev2 (tc:=.sq [.rg 1,.seq (.rg 2) (.cf .leaf),.reg (.pp 2 (.op (.cl [.slice]) (.op (.cl [.slice]) (.op .p .nil))))] .leaf) Tryz.func213 (by kernel_rfl) (by kernel_rfl) h

theorem wire_Reader_Left_vc (a0b:Nat) (a0o:Nat) (w:World) (R:Ending→World→Prop) (h:∃t8a t8n t8c,LdQ 26 a0b a0o (.slice t8a t8n t8c) w∧(R (.returned (.int .i64 (t8n:Int))) w)):Calls Tryz.prog 214 #[(.pointer (some ⟨a0b,a0o,none⟩))] w R:=calls_of_ev2 (tc:=.sq [.rg 1,.seq (.rg 2) (.cf .leaf),.reg (.pp 3 (.op (.ld .slice) (.pp 2 .nil)))] .leaf) Tryz.func214 (by kernel_rfl) (by kernel_rfl) h

theorem wire_Reader_Err_vc (a0b:Nat) (a0o:Nat) (w:World) (R:Ending→World→Prop) (h:∃t9,LdQ 4 a0b (a0o+1) (.bool t9) w∧((t9=true→(R (.returned (.iface 65 (.int .i64 9))) w))∧(t9=false→(R (.returned .nilIface) w)))):Calls Tryz.prog 115 #[(.pointer (some ⟨a0b,a0o,none⟩))] w R:=calls_of_ev2 (tc:=.sq [.rg 1,.seq (.reg (.pp 6 (.op (.ld .bool) (.op .p .nil)))) (.cond (.seq (.rg 2) .leaf) .leaf),.rg 1] .leaf) Tryz.func115 (by kernel_rfl) (by kernel_rfl) h

theorem wire_Reader_Done_vc (a0b:Nat) (a0o:Nat) (w:World) (R:Ending→World→Prop) (h:Calls Tryz.prog 214 #[(.pointer (some ⟨a0b,a0o,none⟩))] w fun e4 w1=>∃t4,e4=.returned (.int .i64 t4)∧((decide (t4>(0:Int))=true→(R (.returned (.iface 65 (.int .i64 9))) w1))∧(decide (t4>(0:Int))=false→(Calls Tryz.prog 115 #[(.pointer (some ⟨a0b,a0o,none⟩))] w1 fun e8 w2=>∃t8,e8=.returned t8∧(R (.returned t8) w2))))):Calls Tryz.prog 117 #[(.pointer (some ⟨a0b,a0o,none⟩))] w R:=calls_of_ev2 (tc:=.sq [.rg 1,.seq (.reg (.op .p (.op (.cl [.int .i64]) (.op .p .nil)))) (.cond (.seq (.rg 2) .leaf) .leaf),.reg (.op .p (.op (.cl [.val]) (.op .p .nil)))] .leaf) Tryz.func117 (by kernel_rfl) (by kernel_rfl) h

end Go.Proofs.YtpmhjnhgpplmnaaGreatDoor
end

section
namespace Go.Proofs.YtpmhjnhgpplmnaaGreatDoor
open Go Sx
set_option maxRecDepth 8000

theorem or128 (r:Nat):(r%256)||| 128=r%128+128:=by
 have h:∀x<256,x||| 128=x%128+128:=by decide+kernel
 rw [h _ (Nat.mod_lt _ (by decide))]
 omega

theorem var_neg (x:Int) (w:World) (h:x<0):Calls Tryz.prog 197 #[.int .i64 x] w fun e w'=>e=.returned (.slice none 0 0)∧w'=w:=by
 apply wire_Var_vc
 exact ⟨fun _=>⟨rfl,rfl⟩,fun h'=>by simp at h';omega⟩

theorem var_spec (m:Nat) (w:World) (hm:m<9223372036854775808):Calls Tryz.prog 197 #[.int .i64 (m:Int)] w fun e w'=>∃a n c,e=.returned (.slice a n c)∧FreshB w w' a n c (varL m):=by
 have hlen:=varL_len 9 m (by simpa using hm) (by decide)
 apply wire_Var_vc
 refine ⟨fun h=>by simp at h;omega,fun _=>?_⟩
 refine ⟨fun x a n c w'=>∃(k:Nat) (pre:List UInt8),x=(k:Int)∧varL m=pre++varL k∧pre.length=n∧St w [] w' [.row 5 1 (.slice a n c) n (bv pre)],fun x _ _ _ _=>x.toNat,
   ⟨m,[],rfl,rfl,rfl,(St.start w).addNil _ _⟩,?_⟩
 rintro x a n c w1 ⟨k,pre,rfl,he,hl,hS⟩
 have hn:n+(varL k).length≤9:=by have:=congrArg List.length he;simp at this;omega
 have hk1:=varL_pos k
 have key:∀b:Nat,b<256→∃g w2 va vc w3,(Instr.buildSlice 26 1 #[(0,.int .u8 (b:Int))]).run Tryz.prog w1=.ok (.slice (some ⟨g,0,none⟩) 1 1) w2∧
     (Builtin.append_ #[26,26] 26 #[.slice a n c,.slice (some ⟨g,0,none⟩) 1 1]).run Tryz.prog w2=.ok (.slice va (n+1) vc) w3∧St w [] w3 [.row 5 1 (.slice va (n+1) vc) (n+1) (bv (pre++ [UInt8.ofNat b]))]:=by
   intro b hb
   obtain ⟨g,w2,hr2,h2⟩:=hS.lit bT [.int .u8 (b:Int)] (by simp [Value.oneCell']) (by simp)
   obtain ⟨va,vc,w3,hr3,h3,_,_⟩:=h2.append (i:=0) (ty:=26) bT rfl (h2.rd (i:=1) rfl) (by simp [Value.oneCell']) (by simp;omega) (by simp only [maxLen,List.length_cons,List.length_nil];omega)
   refine ⟨g,w2,va,vc,w3,hr2,hr3,?_⟩
   have h4:=St.pop (M:=[_]) h3
   have:bv (pre++ [UInt8.ofNat b])=bv pre++ [.int .u8 (b:Int)]:=by
     rw [bv_append];congr 1;simp [bv,Nat.mod_eq_of_lt hb]
   rw [this]
   exact h4
 refine ⟨fun h=>?_,fun h=>?_⟩
 · have hk:¬k<128:=by simp at h;omega
   have hv:bor .u8 (IntKind.wrap .u8 (k:Int)) 128=((k%128+128:Nat):Int):=by
     rw [wrap_u8,show ((k:Int)%256)=((k%256:Nat):Int) by omega,show (128:Int)=((128:Nat):Int) from rfl,bor_nat rfl (by simp [kmod,IntKind.bits];omega) (by simp [kmod,IntKind.bits]),or128]
   have hs:shrI .i64 (k:Int) 7=((k / 128:Nat):Int):=by rw [show (7:Int)=((7:Nat):Int) from rfl,shr_nat _ _ _ (by decide)]
   rw [hv,hs]
   obtain ⟨g,w2,va,vc,w3,hr2,hr3,h3⟩:=key (k%128+128) (by omega)
   refine ⟨_,_,_,_,hr2,_,_,_,_,hr3,⟨k / 128,pre++ [UInt8.ofNat (k%128+128)],rfl,?_,by simp [hl],h3⟩,?_⟩
   · rw [he,varL_big hk];simp
   · simp;omega
 · have hk:k<128:=by simp at h;omega
   have hv:IntKind.wrap .u8 (k:Int)=(k:Int):=by rw [wrap_u8];omega
   rw [hv]
   obtain ⟨g,w2,va,vc,w3,hr2,hr3,h3⟩:=key k (by omega)
   refine ⟨_,_,_,_,hr2,_,_,_,_,hr3,_,_,_,rfl,?_⟩
   rw [he,varL_small hk]
   exact h3.freshB (i:=0) rfl

def rvOut:Option (Nat×Nat)→Value
 | some (n,s)=>.tuple #[.int .i64 (n:Int),.int .i64 (s:Int),errV none]
 | none=>.tuple #[.int .i64 0,.int .i64 0,errV (some 9)]

theorem or_add (n b i:Nat) (hn:n<128^i):n||| (b*128^i)=n+b*128^i:=by
 have e:128^i=2^(7*i):=by rw [Nat.pow_mul]
 rw [e] at hn ⊢
 have:=Nat.shiftLeft_add_eq_or_of_lt hn b
 rw [Nat.shiftLeft_eq] at this
 rw [Nat.or_comm,←this,Nat.add_comm]

theorem pow128_le {i:Nat} (hi:i<9):128^(i+1)≤9223372036854775808:=by
 have:128^(i+1)≤128^9:=Nat.pow_le_pow_right (by decide) (by omega)
 simpa using this

theorem readVar_spec (a:Option Addr) (n c:Nat) (l:List UInt8) (w:World) (hr:RdB w a n c l):
   Calls Tryz.prog 210 #[.slice a n c] w fun e w'=>e=.returned (rvOut (readVarF l))∧w'=w:=by
 have hl:=hr.lenB
 apply wire_ReadVar_vc
 refine ⟨fun x y w'=>w'=w∧∃(m i:Nat),x=(m:Int)∧y=(i:Int)∧i≤9∧i≤n∧m<128^i∧rdVar (9-i) (l.drop i) i m=readVarF l,fun _ y _=>9-y.toNat,
   ⟨rfl,0,0,rfl,rfl,by omega,by omega,by decide,rfl⟩,?_⟩
 rintro x y w1 ⟨rfl,m,i,rfl,rfl,hi9,hin,hm,hv⟩
 refine ⟨fun h=>?_,fun h=>?_⟩
 · simp only [Bool.and_eq_true,decide_eq_true_eq] at h
   have hi:i<9:=by omega
   have hil:i<l.length:=by omega
   obtain ⟨b,hb⟩:∃b,l.getD i 0=b:=⟨_,rfl⟩
   have hdrop:l.drop i=b::l.drop (i+1):=by
     rw [List.drop_eq_getElem_cons hil,←hb];simp [List.getD,hil]
   have hf:9-i=(9- (i+1))+1:=by omega
   have hbl:=b.toNat_lt
   rw [hdrop,hf,rdVar] at hv
   have h7:IntKind.wrap .i64 (7*(i:Int))=((7*i:Nat):Int):=by rw [wrap_i64 (by omega) (by omega)];omega
   have hi1:IntKind.wrap .i64 ((i:Int)+1)=((i+1:Nat):Int):=by rw [wrap_i64 (by omega) (by omega)];rfl
   rw [h7,hi1]
   have hand:IntKind.wrap .u64 (band .u8 (b.toNat:Int) 127)=((b.toNat%128:Nat):Int):=by
     rw [show (127:Int)=((127:Nat):Int) from rfl,band_nat rfl (by simp [kmod,IntKind.bits];omega) (by simp [kmod,IntKind.bits]),
       show b.toNat&&& 127=b.toNat%128 from Nat.and_two_pow_sub_one_eq_mod _ 7,wrap_u64]
     omega
   have hp:=pow128_le hi
   have hpow:128^i*128=128^(i+1):=(Nat.pow_succ ..).symm
   have hlt:b.toNat%128*128^i<9223372036854775808:=by
     have h1:b.toNat%128<128:=Nat.mod_lt _ (by decide)
     have h2:b.toNat%128*128^i≤127*128^i:=Nat.mul_le_mul_right _ (by omega)
     have h3:0<128^i:=Nat.pow_pos (by decide)
     omega
   have hshl:shlI .u64 ((b.toNat%128:Nat):Int) ((7*i:Nat):Int)=((b.toNat%128*128^i:Nat):Int):=by
     rw [shl_nat rfl _ _ (by simp [IntKind.bits];omega),show 2^(7*i)=128^i by rw [Nat.pow_mul],Nat.mod_eq_of_lt (by simp [kmod,IntKind.bits];omega)]
   have hsum:m+b.toNat%128*128^i<128^(i+1):=by
     have h1:b.toNat%128<128:=Nat.mod_lt _ (by decide)
     have h2:b.toNat%128*128^i≤127*128^i:=Nat.mul_le_mul_right _ (by omega)
     omega
   have hor:bor .u64 (m:Int) ((b.toNat%128*128^i:Nat):Int)=((m+b.toNat%128*128^i:Nat):Int):=by
     rw [bor_nat rfl (by simp [kmod,IntKind.bits];omega) (by simp [kmod,IntKind.bits];omega),or_add _ _ _ hm]
   have hw:IntKind.wrap .i64 ((m+b.toNat%128*128^i:Nat):Int)=((m+b.toNat%128*128^i:Nat):Int):=wrap_i64_nat _ (by omega)
   refine ixB (bA _) hr.cells hl (by omega) (by omega) fun _ _ _=>?_
   simp only [Int.toNat_natCast,hb,hand,hshl,hor,hw]
   refine ⟨by omega,ixB (bA _) hr.cells hl (by omega) (by omega) fun _ _ _=>?_⟩
   simp only [Int.toNat_natCast,hb]
   refine ⟨fun h1=>ixB (bA _) hr.cells hl (by omega) (by omega) fun _ _ _=>?_,fun h1=>?_⟩
   · simp only [decide_eq_true_eq] at h1
     rw [if_pos (by omega)] at hv
     simp only [Int.toNat_natCast,hb]
     refine ⟨fun h2=>?_,fun h2=>?_⟩
     · simp only [Bool.and_eq_true,beq_iff_eq,decide_eq_true_eq] at h2
       rw [if_pos (by omega)] at hv
       rw [←hv]
       exact ⟨rfl,trivial⟩
     · rw [if_neg (by intro h3;simp at h2;omega)] at hv
       rw [←hv,Nat.mod_eq_of_lt (by omega)]
       exact ⟨rfl,trivial⟩
   · simp only [decide_eq_false_iff_not] at h1
     rw [if_neg (by omega)] at hv
     refine ⟨⟨trivial,m+b.toNat%128*128^i,i+1,rfl,rfl,by omega,by omega,hsum,?_⟩,by omega⟩
     rw [←hv,show b.toNat%128=b.toNat-128 by omega]
 · have:9-i=0∨l.drop i=[]:=by
     simp at h
     rcases Nat.lt_or_ge i 9 with h1 | h1
     · right;exact List.drop_eq_nil_of_le (by omega)
     · left;omega
   have h0:readVarF l=none:=by
     rw [←hv]
     rcases this with h1 | h1
     · rw [h1];rfl
     · rw [h1];cases 9-i<;>rfl
   rw [h0]
   exact ⟨rfl,rfl⟩

theorem take_succ_get {l:List UInt8} {j:Nat} {b:UInt8} (h:l[j]?=some b):l.take (j+1)=l.take j++ [b]:=by
 rw [List.take_add_one,h];rfl

theorem num_bytes (x:Int) (w:World):Calls Tryz.prog 196 #[.int .i64 x] w fun e w'=>∃a n c,e=.returned (.slice a n c)∧FreshB w w' a n c (numL (x%18446744073709551616).toNat):=by
 obtain ⟨u,hu⟩:∃u:Nat,(x%18446744073709551616).toNat=u:=⟨_,rfl⟩
 have hux:x%18446744073709551616=(u:Int):=by omega
 have hult:u<18446744073709551616:=by omega
 rw [hu]
 apply wire_Num_vc
 obtain ⟨g,w1,hr1,h1⟩:=(St.start w).mk0n (kl:=.i64) (kc:=.i64) (c:=8) bT (by omega) (by omega)
 refine ⟨_,_,_,_,hr1,fun a n c i w'=>∃j:Nat,j≤8∧n=j∧i=56-8*(j:Int)∧St w [] w' [.row 5 1 (.slice a n c) n (bv ((numL u).take j))],fun _ n _ _ _=>8-n,⟨0,by omega,rfl,rfl,h1⟩,?_⟩
 rintro a n c i w2 ⟨j,hj,rfl,rfl,hS⟩
 refine ⟨fun h=>?_,fun h=>?_⟩
 · have hj8:n<8:=by simp at h;omega
   refine ⟨by omega,?_⟩
   have hv:IntKind.wrap .u8 (shrI .u64 (IntKind.wrap .u64 x) (56-8*(n:Int)))=((UInt8.ofNat (u / 256^(7-n)%256)).toNat:Int):=by
     rw [wrap_u64,hux,show (56-8*(n:Int))=((8*(7-n):Nat):Int) by omega,shr_nat _ _ _ (by simp [IntKind.bits];omega),show 2^(8*(7-n))=256^(7-n) by rw [Nat.pow_mul],wrap_u8]
     simp
   rw [hv]
   obtain ⟨b,hb⟩:∃b,UInt8.ofNat (u / 256^(7-n)%256)=b:=⟨_,rfl⟩
   rw [hb]
   obtain ⟨g,w3,hr3,h3⟩:=hS.lit bT [.int .u8 (b.toNat:Int)] (by simp [Value.oneCell']) (by simp)
   obtain ⟨va,vc,w4,hr4,h4,_,_⟩:=h3.append (i:=0) (ty:=26) bT rfl (h3.rd (i:=1) rfl) (by simp [Value.oneCell']) (by simp;omega) (by simp only [maxLen,List.length_cons,List.length_nil];omega)
   refine ⟨_,_,_,_,hr3,_,_,_,_,hr4,⟨n+1,by omega,rfl,?_,?_⟩,?_⟩
   · rw [wrap_i64 (by omega) (by omega)];omega
   · rw [take_succ_get (by rw [numL_get _ _ hj8,hb]),bv_append]
     exact St.pop (M:=[_]) h4
   · simp;omega
 · have hj8:n=8:=by simp at h;omega
   subst hj8
   rw [List.take_of_length_le (by rw [numL_len];exact Nat.le_refl _)] at hS
   exact ⟨_,_,_,rfl,hS.freshB (i:=0) rfl⟩

theorem be_step (m b:Nat) (hb:b<256) (hm:m<72057594037927936):bor .u64 (shlI .u64 (m:Int) (8:Int)) (IntKind.wrap .u64 (b:Int))=((m*256+b:Nat):Int):=by
 rw [show (8:Int)=((8:Nat):Int) from rfl,shl_nat rfl _ _ (by decide),Nat.mod_eq_of_lt (by simp [kmod,IntKind.bits];omega),wrap_u64,show ((b:Int)%18446744073709551616)=(b:Int) by omega,
   bor_nat rfl (by simp [kmod,IntKind.bits];omega) (by simp [kmod,IntKind.bits];omega)]
 have:=Nat.shiftLeft_add_eq_or_of_lt (show b<2^8 by omega) m
 rw [Nat.shiftLeft_eq] at this
 rw [←this]

def rnOut:Option Int→Value
 | some x=>.tuple #[.int .i64 x,errV none]
 | none=>.tuple #[.int .i64 0,errV (some 9)]

theorem pow256_le {i:Nat} (hi:i<8):256^i≤72057594037927936:=by
 have:256^i≤256^7:=Nat.pow_le_pow_right (by decide) (by omega)
 simpa using this

theorem readNum_spec (a:Option Addr) (n c:Nat) (l:List UInt8) (w:World) (hr:RdB w a n c l):
   Calls Tryz.prog 208 #[.slice a n c] w fun e w'=>e=.returned (rnOut (readNumF l))∧w'=w:=by
 have hl:=hr.lenB
 apply wire_ReadNum_vc
 refine ⟨fun h=>?_,fun h=>?_⟩
 · have:l.length≠8:=by simp at h;omega
   simp only [readNumF,if_neg this]
   exact ⟨rfl,trivial⟩
 · have h8:l.length=8:=by simp at h;omega
   refine ⟨fun x y w'=>w'=w∧∃i:Nat,y=(i:Int)∧i≤8∧x=(beNat (l.take i):Int),fun _ y _=>8-y.toNat,⟨rfl,0,rfl,by omega,rfl⟩,?_⟩
   rintro x y w1 ⟨rfl,i,rfl,hi,rfl⟩
   refine ⟨fun h=>?_,fun h=>?_⟩
   · have hi8:i<8:=by simp at h;omega
     have hil:i<l.length:=by omega
     obtain ⟨b,hb⟩:∃b,l.getD i 0=b:=⟨_,rfl⟩
     have hget:l[i]?=some b:=by rw [←hb];simp [List.getD,hil]
     have hm:=beNat_lt (l.take i)
     rw [List.length_take,Nat.min_eq_left (by omega)] at hm
     have hp:=pow256_le hi8
     refine ixB (bA _) hr.cells hl (by omega) (by omega) fun _ _ _=>?_
     simp only [Int.toNat_natCast,hb]
     rw [be_step _ _ b.toNat_lt (by omega),wrap_i64 (by omega) (by omega)]
     exact ⟨⟨trivial,i+1,rfl,by omega,by rw [take_succ_get hget,beNat_snoc]⟩,by omega⟩
   · have hi8:i=8:=by simp at h;omega
     subst hi8
     rw [List.take_of_length_le (by omega)]
     simp only [readNumF,if_pos h8]
     exact ⟨rfl,trivial⟩

end Go.Proofs.YtpmhjnhgpplmnaaGreatDoor
end

section
namespace Go.Proofs.YtpmhjnhgpplmnaaGreatDoor
open Go Sx
set_option maxRecDepth 8000

def packL (ls:List (List UInt8)):List UInt8:=(ls.map fun l=>varL l.length++l).flatten

theorem packL_take {ls:List (List UInt8)} {i:Nat} (h:i<ls.length):packL (ls.take (i+1))=packL (ls.take i)++varL (ls.getD i []).length++ls.getD i []:=by
 rw [List.take_add_one,List.getElem?_eq_getElem h,packL,packL,List.map_append,List.flatten_append,List.append_assoc]
 congr 1
 simp [List.getD,h]

theorem packL_len:∀ls:List (List UInt8),(∀l∈ls,l.length<9223372036854775808)→(packL ls).length≤ls.flatten.length+9*ls.length
 | [],_=>by simp [packL]
 | l::ls,h=>by
   have ih:=packL_len ls fun x hx=>h x (by simp [hx])
   have h9:=varL_len 9 l.length (by have:=h l (by simp);simpa using this) (by decide)
   have e:packL (l::ls)=varL l.length++l++packL ls:=by simp [packL]
   rw [e]
   simp only [List.length_append,List.flatten_cons,List.length_cons]
   omega

theorem mem_le_flat {ls:List (List UInt8)} {l:List UInt8} (h:l∈ls):l.length≤ls.flatten.length:=by
 obtain ⟨i,hi,rfl⟩:=List.getElem_of_mem h
 have:=getD_le_flat hi
 simpa [List.getD,hi] using this

theorem packL_bound {ls:List (List UInt8)} (h:ls.flatten.length≤67108864) (i:Nat):(packL (ls.take i)).length≤67108864+9*ls.length:=by
 have h1:=packL_len (ls.take i) fun l hl=>by have:=mem_le_flat (List.mem_of_mem_take hl);omega
 have h2:=flat_take_le ls i
 have h3:(ls.take i).length≤ls.length:=by rw [List.length_take];omega
 omega

theorem pack_spec (a:Option Addr) (n c:Nat) (vs:List Value) (ls:List (List UInt8)) (w:World) (hr:Rd w a n c 1 vs) (h2:Row2 w vs ls) (hb:ls.flatten.length≤67108864) (hn:ls.length≤1048576):
   Calls Tryz.prog 100 #[.slice a n c] w fun e w'=>∃a' n' c',e=.returned (.slice a' n' c')∧FreshB w w' a' n' c' (packL ls):=by
 have hln:ls.length=n:=by have:=hr.len;have:=h2.len;omega
 apply wire_Pack_vc
 refine ⟨fun xa xn xc x w'=>∃i:Nat,x=(i:Int)∧i≤n∧xn=(packL (ls.take i)).length∧St w [] w' [.row 5 1 (.slice xa xn xc) xn (bv (packL (ls.take i)))],fun _ _ _ x _=>n-x.toNat,
   ⟨0,rfl,by omega,by simp [packL],(St.start w).addNil _ _⟩,?_⟩
 rintro xa xn xc x w1 ⟨i,rfl,hi,hxn,hS⟩
 have hpb:=packL_bound hb i
 refine ⟨fun h=>?_,fun h=>?_⟩
 · have hi':i<n:=by simp at h;omega
   obtain ⟨b,o,a',n',c',ha,hv,hrd,hld⟩:=ixS hr.cells h2 (i:=i) (by omega)
   have hl':=hrd.lenB
   have hle:=getD_le_flat (ls:=ls) (i:=i) (by omega)
   refine ⟨b,o,ha,by omega,by omega,_,_,_,hld w1 (hr.cells.keep0 hS.chg),fun h=>?_,fun _=>?_⟩
   · simp at h;omega
   · have h9:=varL_len 9 n' (by simp;omega) (by decide)
     refine (var_spec n' w1 (by omega)).mono ?_
     rintro e w2 ⟨a2,n2,c2,rfl,hf2⟩
     have hS2:=hf2.add hS
     have hn2:=hf2.2.1
     obtain ⟨va,vc,w3,hr3,hS3⟩:=hS2.appendB (i:=0) rfl (hS2.rd (i:=1) rfl) (by omega)
     obtain ⟨vb,vd,w4,hr4,hS4⟩:=hS3.appendB (i:=0) rfl (hS3.rd1 hrd) (by omega)
     have hpt:=packL_take (ls:=ls) (i:=i) (by omega)
     rw [hl'] at hpt
     refine ⟨_,_,_,rfl,_,_,_,_,hr3,_,_,_,_,hr4,⟨i+1,?_,by omega,?_,?_⟩,?_⟩
     · rw [wrap_i64 (by omega) (by omega)];rfl
     · rw [hpt];simp only [List.length_append];omega
     · rw [hpt];exact St.pop (M:=[_]) hS4
     · show n- (IntKind.wrap .i64 ((i:Int)+1)).toNat<n- ((i:Int)).toNat
       rw [wrap_i64 (by omega) (by omega)];omega
 · have hi':i=n:=by simp at h;omega
   rw [hi',←hln,List.take_length] at hS
   exact ⟨_,_,_,rfl,hS.freshB (i:=0) rfl⟩

def SubB (a:Option Addr) (n c:Nat) (l:List UInt8) (a':Option Addr) (n' c':Nat) (l':List UInt8):Prop:=∀v:World,RdB v a n c l→RdB v a' n' c' l'

def RdrA (g T:Nat) (a:Option Addr) (n c:Nat) (st:Option (List UInt8)) (w:World):Prop:=w.heap[g]?=some (.cells #[.slice a n c,.bool st.isNone] T)

def RdrP (g T:Nat) (a:Option Addr) (n c:Nat) (st st':Option (List UInt8)) (w':World):Prop:=∃a' n' c',RdrA g T a' n' c' st' w'∧SubB a n c (st.getD []) a' n' c' (st'.getD [])

theorem rdr_ne (a:Option Addr) (n c:Nat) (t:Bool) (l:List UInt8):∀v∈bv l,v∉(#[Value.slice a n c,.bool t]:Array Value).toList:=by
 intro v hv
 simp only [bv,List.mem_map] at hv
 obtain ⟨b,_,rfl⟩:=hv
 simp

theorem fail_spec (g T:Nat) (a:Option Addr) (n c:Nat) (t:Bool) (w:World) (hg:w.heap[g]?=some (.cells #[.slice a n c,.bool t] T)):
   Calls Tryz.prog 211 #[.pointer (some ⟨g,0,none⟩)] w fun e w'=>e=.returned (.tuple #[])∧Chg [g] w w'∧w'.heap[g]?=some (.cells #[.slice none 0 0,.bool true] T):=by
 apply wire_Reader_fail_vc
 have s1:∀w,(sizeOf 4).run Tryz.prog w=.ok 1 w:=fun w=>Tryz.sizeOf4 w
 have s2:∀w,(sizeOf 26).run Tryz.prog w=.ok 1 w:=fun w=>Tryz.sizeOf26 w
 obtain ⟨w1,r1,h1⟩:=(St.ofBlk hg).st (i:=0) (o:=1) (v:=.bool true) rfl (s1 _) (by simp) rfl
 obtain ⟨w2,r2,h2⟩:=h1.st (i:=0) (o:=0) (v:=.slice none 0 0) rfl (s2 _) (by simp) rfl
 exact ⟨w1,r1,w2,r2,rfl,h2.chg,h2.holds 0 _ rfl⟩

def rawF (st:Option (List UInt8)) (x:Int):Option (List UInt8×List UInt8):=st.bind fun l=>if 0≤x∧x≤(l.length:Int) then some (l.take x.toNat,l.drop x.toNat) else none

theorem raw_spec (g T:Nat) (st:Option (List UInt8)) (x:Int) (a:Option Addr) (n c:Nat) (w:World) (hg:RdrA g T a n c st w) (hr:RdB w a n c (st.getD [])):
   Calls Tryz.prog 209 #[.pointer (some ⟨g,0,none⟩),.int .i64 x] w fun e w'=>∃a' n' c',e=.returned (.slice a' n' c')∧Chg [g] w w'∧RdrP g T a n c st ((rawF st x).map (·.2)) w'∧RdB w' a' n' c' (((rawF st x).map (·.1)).getD []):=by
 unfold RdrA at hg
 have iB:∀w,(isAgg 4).run Tryz.prog w=.ok false w:=fun w=>Tryz.isAgg4 w
 have s2:∀w,(sizeOf 26).run Tryz.prog w=.ok 1 w:=fun w=>Tryz.sizeOf26 w
 have hl:=hr.lenB
 have hle:=hr.le
 have hS:=St.ofBlk hg
 have ld0:=hS.ld (i:=0) (o:=0) (P:=Tryz.prog) (v:=.slice a n c) rfl (bsA _) rfl
 have ld1':=hS.ld (i:=0) (o:=1) (P:=Tryz.prog) (v:=.bool st.isNone) rfl (iB _) rfl
 apply wire_Reader_raw_vc
 refine ⟨fun b w'=>b=decide (x<0∨(n:Int)<x)∧w'=w,⟨fun h=>?_,fun h=>⟨a,n,c,ld0,?_,rfl⟩⟩,?_⟩
 · simp at h;exact ⟨by simp [h],rfl⟩
 · simp at h;simp [show ¬x<0 by omega]
 rintro b w1 ⟨rfl,rfl⟩
 refine ⟨fun w'=>(¬(x<0∨(n:Int)<x)∧w'=w1)∨((x<0∨(n:Int)<x)∧Chg [g] w1 w'∧w'.heap[g]?=some (.cells #[.slice none 0 0,.bool true] T)),⟨fun h=>?_,fun h=>?_⟩,?_⟩
 · refine (fail_spec g T a n c _ w1 hg).mono ?_
   rintro e w2 ⟨rfl,hc2,hg2⟩
   exact ⟨rfl,.inr ⟨by simpa using h,hc2,hg2⟩⟩
 · exact .inl ⟨by simpa using h,rfl⟩
 rintro w2 (⟨hx,rfl⟩ | ⟨hx,hc2,hg2⟩)
 · refine ⟨_,ld1',fun h=>?_,fun h=>?_⟩
   · cases st with
     | some l=>simp at h
     | none=>
       refine ⟨_,_,_,rfl,Chg.refl _ _,?_,?_⟩
       · exact ⟨a,n,c,hg,fun v hv=>by simpa [rawF] using hv⟩
       · simpa [rawF] using rdNil _
   · cases st with
     | none=>simp at h
     | some l=>
       simp only [Option.getD_some] at hr hl
       have hxn:0≤x∧x≤(n:Int):=by omega
       obtain ⟨m,rfl⟩:=Int.eq_ofNat_of_zero_le hxn.1
       refine ⟨_,_,_,ld0,by omega,by omega,by omega,_,_,_,ld0,by omega,by omega,by omega,fun a2 hs2=>?_⟩
       simp only [Int.toNat_natCast] at hs2 ⊢
       obtain ⟨w3,r3,h3⟩:=hS.st (i:=0) (o:=0) (P:=Tryz.prog) (v:=.slice a2 (n-m) (c-m)) rfl (s2 _) (by simp) rfl
       have hc3:=h3.chg
       have hrf:rawF (some l) (m:Int)=some (l.take m,l.drop m):=by simp [rawF];omega
       rw [hrf]
       have e1:((bv l).drop (m*1)).take ((n-m)*1)=bv (l.drop m):=by
         rw [Nat.mul_one,Nat.mul_one,List.take_of_length_le (by simp;omega),bv_drop]
       refine ⟨w3,r3,_,_,_,rfl,hc3,⟨a2,n-m,c-m,h3.holds 0 _ rfl,fun v hv=>?_⟩,?_⟩
       · have hsub:=(show RdB v a n c l from hv).sub hs2 (hh:=n) (by omega) (Nat.le_refl _) hle (Nat.le_refl _)
         rw [e1] at hsub
         exact hsub
       · have h0:SubA 1 a 0 c a:=⟨fun _=>rfl,fun _=>by cases a<;>simp [Addr.add]⟩
         have:=hr.sub h0 (hh:=m) (by omega) (by omega) (by omega) (Nat.le_refl _)
         have e2:((bv l).drop (0*1)).take ((m-0)*1)=bv (l.take m):=by simp [bv_take]
         rw [e2] at this
         have h4:=this.keepG hg (rdr_ne _ _ _ _ _) hc3
         exact ⟨h4.cells,by simpa using h4.len,Nat.le_refl _,fun ha=>by have:=hr.nil ha;omega⟩
 · have hS2:=St.ofBlk hg2
   refine ⟨true,hS2.ld (i:=0) (o:=1) (P:=Tryz.prog) (v:=.bool true) rfl (iB _) rfl,fun _=>?_,fun h=>by cases h⟩
   have hrf:rawF st x=none:=by
     cases st with
     | none=>rfl
     | some l=>
       simp only [Option.getD_some] at hl
       simp [rawF];omega
   rw [hrf]
   exact ⟨_,_,_,rfl,hc2,⟨none,0,0,hg2,fun v _=>rdNil v⟩,rdNil _⟩

theorem rRaw_spec (g T:Nat) (st:Option (List UInt8)) (x:Int) (a:Option Addr) (n c:Nat) (w:World) (hg:RdrA g T a n c st w) (hr:RdB w a n c (st.getD [])) (hb:(st.getD []).length≤140737488355000):
   Calls Tryz.prog 213 #[.pointer (some ⟨g,0,none⟩),.int .i64 x] w fun e w'=>∃a' n' c',e=.returned (.slice a' n' c')∧FreshX [g] w w' a' n' c' (((rawF st x).map (·.1)).getD [])∧RdrP g T a n c st ((rawF st x).map (·.2)) w':=by
 apply wire_Reader_Raw_vc
 refine (raw_spec g T st x a n c w hg hr).mono ?_
 rintro e w1 ⟨a1,n1,c1,rfl,hc1,hv1,hr1⟩
 have hl:=hr1.lenB
 have hn:n1≤140737488355000:=by
   rw [←hl]
   cases st with
   | none=>simp [rawF]
   | some l=>
     simp only [Option.getD_some] at hb
     simp only [rawF,Option.bind_some]
     split
     · simp;omega
     · simp
 refine ⟨_,_,_,rfl,(clone_spec a1 n1 c1 _ w1 hr1 hn).mono ?_⟩
 rintro e w2 ⟨a2,c2,rfl,hf⟩
 obtain ⟨a3,n3,c3,hg3,hr3⟩:=hv1
 unfold RdrA at hg3
 refine ⟨_,_,_,rfl,_,_,_,rfl,hf.after hc1,a3,n3,c3,?_,hr3⟩
 unfold RdrA
 rw [hf.1.block g (Array.getElem?_eq_some_iff.1 hg3).1 (by simp)]
 exact hg3

theorem rdVar_some:∀(f:Nat) (l:List UInt8) (i n m s:Nat),rdVar f l i n=some (m,s)→n<128^i→i<s∧s≤i+l.length∧s≤i+f∧m<128^s
 | 0,_,_,_,_,_,h,_=>by simp [rdVar] at h
 | f+1,[],i,n,m,s,h,_=>by simp [rdVar] at h
 | f+1,b::r,i,n,m,s,h,hn=>by
   have hp:128^(i+1)=128^i*128:=Nat.pow_succ ..
   have hpos:0<128^i:=Nat.pow_pos (by decide)
   have hbl:=b.toNat_lt
   simp only [rdVar] at h
   split at h
   · rename_i hb
     split at h
     · cases h
     · simp only [Option.some.injEq,Prod.mk.injEq] at h
       obtain ⟨rfl,rfl⟩:=h
       have:b.toNat*128^i≤127*128^i:=Nat.mul_le_mul_right _ (by omega)
       refine ⟨by omega,by simp only [List.length_cons];omega,by omega,by omega⟩
   · rename_i hb
     have:(b.toNat-128)*128^i≤127*128^i:=Nat.mul_le_mul_right _ (by omega)
     obtain ⟨h1,h2,h3,h4⟩:=rdVar_some f r (i+1) _ m s h (by omega)
     refine ⟨by omega,by simp only [List.length_cons];omega,by omega,h4⟩

theorem readVarF_some {l:List UInt8} {n s:Nat} (h:readVarF l=some (n,s)):1≤s∧s≤l.length∧s≤9∧n<9223372036854775808:=by
 obtain ⟨h1,h2,h3,h4⟩:=rdVar_some 9 l 0 0 n s h (by decide)
 have:128^s≤128^9:=Nat.pow_le_pow_right (by decide) (by omega)
 refine ⟨by omega,by omega,by omega,by omega⟩

def varF (st:Option (List UInt8)):Option (Nat×List UInt8):=st.bind fun l=>(readVarF l).map fun p=>(p.1,l.drop p.2)

theorem rVar_spec (g T:Nat) (st:Option (List UInt8)) (a:Option Addr) (n c:Nat) (w:World) (hg:RdrA g T a n c st w) (hr:RdB w a n c (st.getD [])):
   Calls Tryz.prog 114 #[.pointer (some ⟨g,0,none⟩)] w fun e w'=>e=.returned (.int .i64 ((((varF st).map (·.1)).getD 0:Nat):Int))∧Chg [g] w w'∧RdrP g T a n c st ((varF st).map (·.2)) w':=by
 unfold RdrA at hg
 have iB:∀w,(isAgg 4).run Tryz.prog w=.ok false w:=fun w=>Tryz.isAgg4 w
 have s2:∀w,(sizeOf 26).run Tryz.prog w=.ok 1 w:=fun w=>Tryz.sizeOf26 w
 have hl:=hr.lenB
 have hle:=hr.le
 have hS:=St.ofBlk hg
 have ld0:=hS.ld (i:=0) (o:=0) (P:=Tryz.prog) (v:=.slice a n c) rfl (bsA _) rfl
 have ld1':=hS.ld (i:=0) (o:=1) (P:=Tryz.prog) (v:=.bool st.isNone) rfl (iB _) rfl
 obtain ⟨m,hI⟩:=eI
 apply wire_Reader_Var_vc
 refine ⟨_,ld1',fun h=>?_,fun h=>?_⟩
 · cases st with
   | some l=>simp at h
   | none=>exact ⟨rfl,Chg.refl _ _,a,n,c,hg,fun v hv=>by simpa [varF] using hv⟩
 cases st with
 | none=>simp at h
 | some l=>
 simp only [Option.getD_some] at hr hl
 refine ⟨_,_,_,ld0,(readVar_spec a n c l w hr).mono ?_⟩
 rintro e w1 ⟨rfl,rfl⟩
 have hvf:varF (some l)=(readVarF l).map fun p=>(p.1,l.drop p.2):=rfl
 rw [hvf]
 cases hrv:readVarF l with
 | none=>
   refine ⟨_,_,_,rfl,_,neqS_nil hI (some 9) _ _,fun _=>(fail_spec g T a n c _ w1 hg).mono ?_,fun h=>by simp at h⟩
   rintro e w2 ⟨rfl,hc2,hg2⟩
   exact ⟨rfl,rfl,hc2,none,0,0,hg2,fun v _=>rdNil v⟩
 | some p=>
   obtain ⟨k,s⟩:=p
   obtain ⟨h1,h2,_,h4⟩:=readVarF_some hrv
   refine ⟨_,_,_,rfl,_,neqS_nil hI none _ _,fun h=>by simp at h,fun _=>⟨_,_,_,ld0,by omega,by omega,by omega,fun a2 hs2=>?_⟩⟩
   simp only [Int.toNat_natCast] at hs2 ⊢
   obtain ⟨w3,r3,h3⟩:=hS.st (i:=0) (o:=0) (P:=Tryz.prog) (v:=.slice a2 (n-s) (c-s)) rfl (s2 _) (by simp) rfl
   have e1:((bv l).drop (s*1)).take ((n-s)*1)=bv (l.drop s):=by
     rw [Nat.mul_one,Nat.mul_one,List.take_of_length_le (by simp;omega),bv_drop]
   refine ⟨w3,r3,rfl,h3.chg,a2,n-s,c-s,h3.holds 0 _ rfl,fun v hv=>?_⟩
   have hsub:=(show RdB v a n c l from hv).sub hs2 (hh:=n) (by omega) (Nat.le_refl _) hle (Nat.le_refl _)
   rw [e1] at hsub
   exact hsub

def fieldF (l:List UInt8):Option (List UInt8×List UInt8):=(readVarF l).bind fun p=>if p.1≤67108864∧p.1+p.2≤l.length then some ((l.drop p.2).take p.1,l.drop (p.2+p.1)) else none

theorem fieldF_some {l f r:List UInt8} (h:fieldF l=some (f,r)):∃s,readVarF l=some (f.length,s)∧f=(l.drop s).take f.length∧r=l.drop (s+f.length)∧1≤s∧s+f.length+r.length=l.length∧f.length≤67108864:=by
 unfold fieldF at h
 cases hv:readVarF l with
 | none=>rw [hv] at h;cases h
 | some p=>
   obtain ⟨n,s⟩:=p
   rw [hv] at h
   simp only [Option.bind_some] at h
   split at h
   · rename_i hc
     simp only [Option.some.injEq,Prod.mk.injEq] at h
     obtain ⟨rfl,rfl⟩:=h
     have hlen:((l.drop s).take n).length=n:=by simp;omega
     obtain ⟨h1,h2,_,_⟩:=readVarF_some hv
     refine ⟨s,by rw [hlen],by rw [hlen],by rw [hlen],h1,?_,by omega⟩
     rw [hlen];simp;omega
   · cases h

theorem rField_spec (g T:Nat) (st:Option (List UInt8)) (a:Option Addr) (n c:Nat) (w:World) (hg:RdrA g T a n c st w) (hr:RdB w a n c (st.getD [])) (hb:(st.getD []).length≤140737488355000):
   Calls Tryz.prog 212 #[.pointer (some ⟨g,0,none⟩)] w fun e w'=>∃a' n' c',e=.returned (.slice a' n' c')∧FreshX [g] w w' a' n' c' (((st.bind fieldF).map (·.1)).getD [])∧RdrP g T a n c st ((st.bind fieldF).map (·.2)) w':=by
 have iB:∀w,(isAgg 4).run Tryz.prog w=.ok false w:=fun w=>Tryz.isAgg4 w
 apply wire_Reader_Field_vc
 refine (rVar_spec g T st a n c w hg hr).mono ?_
 rintro e w1 ⟨rfl,hc1,a1,n1,c1,hg1,hs1⟩
 have hr1:=(hs1 w hr).keepG hg (rdr_ne _ _ _ _ _) hc1
 have hS:=St.ofBlk hg1
 refine ⟨_,rfl,_,hS.ld (i:=0) (o:=1) (P:=Tryz.prog) (v:=.bool ((varF st).map (·.2)).isNone) rfl (iB _) rfl,fun h=>?_,fun h=>?_⟩
 · have hvn:varF st=none:=by cases hv:varF st with
     | none=>rfl
     | some p=>rw [hv] at h;simp at h
   have hfn:st.bind fieldF=none:=by
     cases st with
     | none=>rfl
     | some l=>
       simp only [varF,Option.bind_some,Option.map_eq_none_iff] at hvn
       simp [fieldF,hvn]
   rw [hvn] at hg1 hs1
   rw [hfn]
   exact ⟨_,_,_,rfl,⟨hc1,rfl,World.ownsRow_nil _ _ _ _⟩,a1,n1,c1,hg1,hs1⟩
 · cases st with
   | none=>simp [varF] at h
   | some l=>
   cases hv:readVarF l with
   | none=>simp [varF,hv] at h
   | some p=>
   obtain ⟨k,s⟩:=p
   obtain ⟨h1,h2,_,h4⟩:=readVarF_some hv
   have hvf:varF (some l)=some (k,l.drop s):=by simp [varF,hv]
   simp only [Option.getD_some] at hb
   rw [hvf] at hs1 hg1 hr1 ⊢
   simp only [Option.map_some,Option.getD_some,Option.bind_some] at hs1 hg1 hr1 ⊢
   refine ⟨fun hk=>?_,fun hk=>?_⟩
   · have hk':67108864<k:=by simp at hk;omega
     have hfn:fieldF l=none:=by simp [fieldF,hv];omega
     refine (fail_spec g T a1 n1 c1 _ w1 hg1).mono ?_
     rintro e w2 ⟨rfl,hc2,hg2⟩
     rw [hfn]
     exact ⟨rfl,_,_,_,rfl,⟨hc1.trans hc2,rfl,World.ownsRow_nil _ _ _ _⟩,none,0,0,hg2,fun v _=>rdNil v⟩
   · have hk':k≤67108864:=by simp at hk;omega
     have hfr:fieldF l=rawF (some (l.drop s)) (k:Int):=by
       simp only [fieldF,hv,Option.bind_some,rawF,List.length_drop,List.drop_drop]
       by_cases hks:k+s≤l.length
       · rw [if_pos ⟨hk',hks⟩,if_pos (by omega),Int.toNat_natCast]
       · rw [if_neg (by omega),if_neg (by omega)]
     rw [hfr]
     refine (rRaw_spec g T (some (l.drop s)) k a1 n1 c1 w1 hg1 hr1 (by simp;omega)).mono ?_
     rintro e w2 ⟨a2,n2,c2,rfl,hf2,a3,n3,c3,hg3,hs3⟩
     exact ⟨_,_,_,rfl,_,_,_,rfl,⟨hc1.trans hf2.1,hf2.2.1,ownsRow_base hf2.2.2 hc1.size⟩,a3,n3,c3,hg3,fun v hv=>hs3 v (hs1 v hv)⟩

end Go.Proofs.YtpmhjnhgpplmnaaGreatDoor
end

section
namespace Go.Proofs.YtpmhjnhgpplmnaaGreatDoor
open Go Sx
set_option maxRecDepth 8000

def markB (k j:Nat):UInt8:=UInt8.ofNat ((31*k+7*j+1)%256)
def marks (k m:Nat):List UInt8:=(List.range m).map (markB k)
@[simp] theorem marks_len (k m:Nat):(marks k m).length=m:=by simp [marks]
def rowsL (vs:List Value) (ls:List (List UInt8)):List Res:=List.zipWith (fun v l=>Res.row 5 1 v l.length (bv l)) vs ls

structure Grown (M:List Res) (vs gs:List Value) (lens:List Nat) (n B j:Nat):Prop where
 old:∃a m c' m0 c0,vs[j]?=some (.slice a m0 c0)∧lens.getD j 0≤m∧M[j+1]?=some (.row 5 1 (.slice a m c') m (bv (marks j m)))
 new:∃a c i,gs[j]?=some (.slice a (lens.getD j 0+12) c)∧(i=j+1∨n+1<i)∧i<B∧M[i]?=some (.row 5 1 (.slice a (lens.getD j 0+12) c) (lens.getD j 0+12) (bv (marks j (lens.getD j 0+12))))

def Ag (M M':List Res) (i B:Nat):Prop:=∀(x:Nat) (r:Res),x<B→x≠i→M[x]?=some r→M'[x]?=some r

theorem Ag.set {M:List Res} {i B:Nat} {r:Res} :Ag M (M.set i r) i B:=fun x s _ hx h=>by rw [List.getElem?_set_ne (Ne.symm hx)];exact h
theorem Ag.app {M:List Res} {i B:Nat} {N:List Res} :Ag M (M++N) i B:=fun x s _ _ h=>by rw [List.getElem?_append_left (List.getElem?_eq_some_iff.1 h).1];exact h
theorem Ag.trans {M M' M'':List Res} {i B:Nat} (h:Ag M M' i B) (k:Ag M' M'' i B):Ag M M'' i B:=fun x r hx hi hr=>k x r hx hi (h x r hx hi hr)

theorem Grown.mono {M M':List Res} {vs gs gs':List Value} {lens:List Nat} {n B B' j i:Nat} (h:Grown M vs gs lens n B j) (ha:∀(x:Nat) (r:Res),x<B→x≠i→x≠n+1→M[x]?=some r→M'[x]?=some r) (hi:i≠j+1∧(n+1<i→B≤i)) (hj:j+1<B) (hjn:j<n) (hB:B≤B') (hg:∀v,gs[j]?=some v→gs'[j]?=some v):Grown M' vs gs' lens n B' j:=by
 obtain ⟨a,m,c',m0,c0,h1,h2,h3⟩:=h.old
 obtain ⟨b,c,x,h4,h5,h6,h7⟩:=h.new
 refine ⟨⟨a,m,c',m0,c0,h1,h2,ha _ _ hj (Ne.symm hi.1) (by omega) h3⟩,b,c,x,hg _ h4,h5,by omega,ha _ _ h6 ?_ (by omega) h7⟩
 intro e
 subst e
 rcases h5 with h5 | h5
 · exact hi.1 h5
 · have:=hi.2 h5;omega

end Go.Proofs.YtpmhjnhgpplmnaaGreatDoor
end

section
namespace Go.Proofs.YtpmhjnhgpplmnaaGreatDoor
open Go Sx
set_option maxRecDepth 8000

structure OwnL (w w':World) (a:Option Addr) (n c:Nat) (vs:List Value) (ls:List (List UInt8)):Prop where
 st:St w [] w' (.row 26 1 (.slice a n c) n vs::rowsL vs ls) 
 len:vs.length=ls.length
 hd:∀i,i<ls.length→∃a c,vs[i]?=some (.slice a (ls.getD i []).length c)

theorem rowsL_snoc {vs:List Value} {ls:List (List UInt8)} (h:vs.length=ls.length) (v:Value) (l:List UInt8):rowsL (vs++ [v]) (ls++ [l])=rowsL vs ls++ [.row 5 1 v l.length (bv l)]:=by
 rw [rowsL,List.zipWith_append h];rfl

theorem hd_snoc {vs:List Value} {ls:List (List UInt8)} (h:vs.length=ls.length) (hd:∀i,i<ls.length→∃a c,vs[i]?=some (.slice a (ls.getD i []).length c)) (a:Option Addr) (c:Nat) (l:List UInt8):
   ∀i,i<(ls++ [l]).length→∃a' c',(vs++ [Value.slice a l.length c])[i]?=some (.slice a' ((ls++ [l]).getD i []).length c'):=by
 intro i hi
 by_cases hlt:i<ls.length
 · obtain ⟨a',c',h1⟩:=hd i hlt
   refine ⟨a',c',?_⟩
   rw [List.getElem?_append_left (by omega),h1]
   simp [List.getD,List.getElem?_append_left hlt]
 · have:i=ls.length:=by simp at hi;omega
   subst this
   refine ⟨a,c,?_⟩
   rw [List.getElem?_append_right (by omega),h,Nat.sub_self]
   simp [List.getD]

theorem OwnL.rd {w w':World} {a:Option Addr} {n c:Nat} {vs:List Value} {ls:List (List UInt8)} (h:OwnL w w' a n c vs ls):Rd w' a n c 1 vs:=h.st.rd (i:=0) rfl
theorem OwnL.num {w w':World} {a:Option Addr} {n c:Nat} {vs:List Value} {ls:List (List UInt8)} (h:OwnL w w' a n c vs ls):ls.length=n:=by have:=h.rd.len;have:=h.len;omega

theorem OwnL.push {w0 w w':World} {a:Option Addr} {n c:Nat} {vs:List Value} {ls:List (List UInt8)} {a3:Option Addr} {n3 c3:Nat} {f:List UInt8} (h:OwnL w0 w a n c vs ls) (hf:FreshB w w' a3 n3 c3 f) (hb:n+1≤1000000000):
   ∃g w2 va vc w3,(Instr.buildSlice 24 1 #[(0,.slice a3 n3 c3)]).run Tryz.prog w'=.ok (.slice (some ⟨g,0,none⟩) 1 1) w2∧
     (Builtin.append_ #[24,24] 24 #[.slice a n c,.slice (some ⟨g,0,none⟩) 1 1]).run Tryz.prog w2=.ok (.slice va (n+1) vc) w3∧OwnL w0 w3 va (n+1) vc (vs++ [Value.slice a3 n3 c3]) (ls++ [f]):=by
 have h4:=hf.add h.st
 have hfl:=hf.2.1
 subst hfl
 have h5:St w0 [] w' (.row 26 1 (.slice a n c) n vs::rowsL (vs++ [Value.slice a3 f.length c3]) (ls++ [f])):=by
   rw [rowsL_snoc h.len];exact h4
 obtain ⟨g6,w6,va,vc,w7,r6,r7,h7,h6,hc6⟩:=h5.pushV (i:=0) (ty:=24) bbT rfl (.slice a3 f.length c3) rfl (by omega) (by simp only [maxLen];omega)
 exact ⟨g6,w6,va,vc,w7,r6,r7,h7,by simp [h.len],hd_snoc h.len h.hd _ _ _⟩

theorem OwnL.same {w0 w w':World} {a:Option Addr} {n c:Nat} {vs:List Value} {ls:List (List UInt8)} (h:OwnL w0 w a n c vs ls) (hc:Chg [] w w'):OwnL w0 w' a n c vs ls:=⟨h.st.same hc,h.len,h.hd⟩

theorem OwnL.nil (w:World):OwnL w w none 0 0 [] []:=⟨(St.start w).addNil _ _,rfl,by simp⟩

theorem built_reader:Tryz.prog.built 292=fun parts=>Instr.fill (fun i=>(#[(0,1),(1,1)]:Array (Nat×Nat))[i]?) #[.slice none 0 0,.bool false] parts:=by kernel_rfl

theorem reader_build (a:Option Addr) (n c:Nat) (w:World):(Instr.build 292 #[(0,.slice a n c)]).run Tryz.prog w=.ok (.agg #[.slice a n c,.bool false]) w:=by
 apply run_build
 rw [built_reader]
 show Instr.fill _ _ [(0,.slice a n c)]=_
 rw [fill_step (off:=0) (sz:=1) rfl (by simp [Value.cells]) (by simp)]
 simp [Instr.fill,Value.cells]

end Go.Proofs.YtpmhjnhgpplmnaaGreatDoor
end

section
namespace Go.Proofs.YtpmhjnhgpplmnaaGreatDoor
open Go Sx
set_option maxRecDepth 8000

def frameL (k:UInt8) (b:List UInt8):List UInt8:=k::(varL b.length++b)

def frCells (vs:List Value) (fs:List (UInt8×List UInt8×Nat)):List Value:=(List.zipWith (fun v f=>[.int .i64 (f.1.toNat:Int),v,.int .i64 (f.2.2:Int)]) vs fs).flatten

structure OwnF (w w':World) (a:Option Addr) (n c:Nat) (vs:List Value) (fs:List (UInt8×List UInt8×Nat)):Prop where
 st:St w [] w' (.row 342 3 (.slice a n c) n (frCells vs fs)::rowsL vs (fs.map fun f=>f.2.1))
 len:vs.length=fs.length
 num:fs.length=n
 hd:∀i,i<(fs.map fun f=>f.2.1).length→∃a c,vs[i]?=some (.slice a ((fs.map fun f=>f.2.1).getD i []).length c)

end Go.Proofs.YtpmhjnhgpplmnaaGreatDoor
end

section
namespace Go.Proofs.YtpmhjnhgpplmnaaGreatDoor
open Go Sx
set_option maxRecDepth 8000

def hsL (h:List Nat) (a:Option Addr) (k c:Nat) (n:Int):List Value:=kv .u32 h++ [.slice a k c,.int .i64 n]
theorem hsL_len {h:List Nat} (hl:h.length=8) (a:Option Addr) (k c:Nat) (n:Int):(hsL h a k c n).length=10:=by simp [hsL,hl]
theorem hsL_8 {h:List Nat} (hl:h.length=8) (a:Option Addr) (k c:Nat) (n:Int):(hsL h a k c n)[8]?=some (.slice a k c):=by rw [hsL,List.getElem?_append_right (by simp [hl])];simp [hl]
theorem hsL_9 {h:List Nat} (hl:h.length=8) (a:Option Addr) (k c:Nat) (n:Int):(hsL h a k c n)[9]?=some (.int .i64 n):=by rw [hsL,List.getElem?_append_right (by simp [hl])];simp [hl]
theorem hsL_set8 {h:List Nat} (hl:h.length=8) (a a':Option Addr) (k c k' c':Nat) (n:Int):(hsL h a k c n).set 8 (.slice a' k' c')=hsL h a' k' c' n:=by rw [hsL,List.set_append_right _ _ (by simp [hl])];simp [hl,hsL]
theorem hsL_set9 {h:List Nat} (hl:h.length=8) (a:Option Addr) (k c:Nat) (n n':Int):(hsL h a k c n).set 9 (.int .i64 n')=hsL h a k c n':=by rw [hsL,List.set_append_right _ _ (by simp [hl])];simp [hl,hsL]

theorem Sx.St.shrink {w0 w:World} {X:List Nat} {M:List Res} (h:St w0 X w M) {i e:Nat} {a:Option Addr} {n c:Nat} {xs:List Value} (hi:M[i]?=some (.row e 1 (.slice a n c) n xs)) {k:Nat} (hk:k≤n):St w0 X w (M.set i (.row e 1 (.slice a k c) k (xs.take k))):=by
 have hown:w.ownsRow 0 e 1 (.slice a n c) n xs:=h.holds i _ hi
 refine h.upd hi (Chg.refl _ _) (r':=.row e 1 (.slice a k c) k (xs.take k)) ?_ (fun b hb=>.inl ?_)
 · obtain ⟨h1,h2⟩:=hown
   refine ⟨by rw [List.length_take,h1];omega,?_⟩
   rcases h2 with ⟨hv,h0⟩ | ⟨g,cap,cur,hv,hb,hg,hle,hm,hs,ht⟩
   · simp only [Value.slice.injEq] at hv
     obtain ⟨rfl,rfl,rfl⟩:=hv
     exact .inl ⟨by simp;omega,by omega⟩
   · simp only [Value.slice.injEq] at hv
     obtain ⟨rfl,_,rfl⟩:=hv
     refine .inr ⟨g,c,cur,rfl,hb,hg,by omega,hm,hs,?_⟩
     rw [←ht,List.take_take,Nat.mul_one,Nat.mul_one,Nat.min_eq_left hk]
 · cases a with
   | none=>simp [Res.fp,Value.ownBlock] at hb
   | some _=>simpa [Res.fp,Value.ownBlock] using hb

def RdK (F:List Nat) (w:World) (a:Option Addr) (n c:Nat) (l:List UInt8):Prop:=∀w',Chg F w w'→RdB w' a n c l

theorem RdK.sub {F:List Nat} {w:World} {a a':Option Addr} {n c k:Nat} {l:List UInt8} (h:RdK F w a n c l) (hs:SubA 1 a k c a') (hk:k≤n) (hn:n≤c) (hl:l.length=n):RdK F w a' (n-k) (c-k) (l.drop k):=fun w' hc=>by
 have:=(h w' hc).sub hs (hh:=n) hk (Nat.le_refl _) hn (Nat.le_refl _)
 have e1:((bv l).drop (k*1)).take ((n-k)*1)=bv (l.drop k):=by
   rw [Nat.mul_one,Nat.mul_one,List.take_of_length_le (by simp;omega),bv_drop]
 rw [e1] at this
 exact this

theorem rdK_row {w0 w:World} {X:List Nat} {M N:List Res} (h:St w0 X w (M++N)) {a:Option Addr} {n c:Nat} {l:List UInt8} (hr:Res.row 5 1 (.slice a n c) n (bv l)∈M):RdK (fpsL N) w a n c l:=fun _ hc=>
 ownsRow_rd (h.keptPart hr hc)
def hM (g T:Nat) (m:List UInt8) (a:Option Addr) (c:Nat):List Res:=[.arr g T (hsL (hOf m) a (rOf m).length c (m.length:Int)),.row 5 1 (.slice a (rOf m).length c) (rOf m).length (bv (rOf m))]

theorem write_spec (F:List Nat) (g T:Nat) (m:List UInt8) (a:Option Addr) (c:Nat) (a1:Option Addr) (n1 c1:Nat) (l:List UInt8) (w:World) (hK:KTab w) (hF:6∉F) (hS:St w F w (hM g T m a c)) (hr:RdK F w a1 n1 c1 l) (hb:m.length+l.length≤140737488350000):
   Calls Tryz.prog 362 #[.pointer (some ⟨g,0,none⟩),.slice a1 n1 c1] w fun e w'=>e=.returned (.tuple #[])∧∃a' c',St w F w' (hM g T (m++l) a' c'):=by
 have hrd:=hr w (Chg.refl _ _)
 have hl:=hrd.lenB
 have hle:=hrd.le
 have iI:∀w,(isAgg 3).run Tryz.prog w=.ok false w:=fun w=>Tryz.isAgg3 w
 have sI:∀w,(sizeOf 3).run Tryz.prog w=.ok 1 w:=fun w=>Tryz.sizeOf3 w
 have sS:∀w,(sizeOf 26).run Tryz.prog w=.ok 1 w:=fun w=>Tryz.sizeOf26 w
 have hhl:=hOf_len m
 have hrl:=rOf_len m
 obtain ⟨k,hk⟩:∃k,(rOf m).length=k:=⟨_,rfl⟩
 rw [hM,hk] at hS
 rw [hk] at hrl
 -- taking a block
 have blk:∀(wx:World) (h:List Nat) (a':Option Addr) (k' c':Nat) (n':Int) (R':Res) (ab:Option Addr) (cb:Nat) (lb:List UInt8) (K:Ending→World→Prop),St w F wx [.arr g T (hsL h a' k' c' n'),R']→h.length=8→Lt32 h→RdB wx ab 64 cb lb→
     (∀wy,Chg [g] wx wy→St w F wy [.arr g T (hsL (compress h lb) a' k' c' n'),R']→K (.returned (.tuple #[])) wy)→Calls Tryz.prog 376 #[.pointer (some ⟨g,0,none⟩),.slice ab 64 cb] wx K:=by
   intro wx h a' k' c' n' R' ab cb lb K hSx hh hlt hrb hK'
   refine (shaBlock_spec g T h _ ab 64 cb lb wx (hK.keep hSx.chg hF) (hSx.holds 0 _ rfl) hh hlt hrb rfl).mono ?_
   rintro e wy ⟨rfl,hc,hg⟩
   exact hK' wy hc (hSx.upd (i:=0) (r':=.arr g T (hsL (compress h lb) a' k' c' n')) rfl hc hg (by simp [Res.fp]))
 apply sha_state_write_vc
 obtain ⟨w1,r1,h1⟩:=hS.stL (i:=0) (o:=9) (v:=.int .i64 ((m.length+n1:Nat):Int)) rfl (sI _) rfl (by rw [hsL_len hhl];omega) rfl
 rw [hsL_set9 hhl] at h1
 have hw:IntKind.wrap .i64 ((m.length:Int)+(n1:Int))=((m.length+n1:Nat):Int):=by rw [wrap_i64 (by omega) (by omega)];omega
 refine ⟨_,hS.ldL (i:=0) (o:=9) rfl (iI _) rfl (hsL_9 hhl _ _ _ _),?_⟩
 rw [hw]
 refine ⟨w1,r1,_,_,_,h1.ldL (i:=0) (o:=8) rfl (bsA _) rfl (hsL_8 hhl _ _ _ _),
   fun xa xn xc w'=>∃(m1 l1:List UInt8) (a':Option Addr) (c':Nat),m++l=m1++l1∧m1.length%64=0∧l1.length=xn∧xn≤xc∧RdK F w xa xn xc l1∧St w F w' [.arr g T (hsL (hOf m1) a' 0 c' ((m.length+n1:Nat):Int)),.row 5 1 (.slice a' 0 c') 0 []],⟨fun h=>?_,fun h=>?_⟩,?_⟩
 · have hk0:0<k:=by simp at h;omega
   clear h
   obtain ⟨t,ht⟩:∃t:Nat,t=min n1 (64-k):=⟨_,rfl⟩
   have e:(if (n1:Int)<IntKind.wrap .i64 (64- (k:Int)) then (n1:Int) else IntKind.wrap .i64 (64- (k:Int)))=(t:Int):=by
     rw [wrap_i64 (by omega) (by omega)]
     split<;>omega
   have h1d:=h1.drew
   have hrt:RdB w1.drew a1 t c1 (l.take t):=rdB_upto (hr _ h1d.chg) (by omega)
   obtain ⟨va,vc,w2,r2,h2⟩:=h1d.appendB (i:=1) rfl hrt (by omega)
   obtain ⟨w3,r3,h3⟩:=h2.stL (i:=0) (o:=8) (v:=.slice va (k+t) vc) rfl (sS _) rfl (by rw [hsL_len hhl];omega) rfl
   rw [hsL_set8 hhl] at h3
   have h3':St w F w3 [.arr g T (hsL (hOf m) va (k+t) vc ((m.length+n1:Nat):Int)),.row 5 1 (.slice va (k+t) vc) (k+t) (bv (rOf m++l.take t))]:=h3
   have ld3:=h3'.ldL (P:=Tryz.prog) (T:=26) (i:=0) (o:=8) rfl (bsA _) rfl (hsL_8 hhl _ _ _ _)
   refine ⟨_,_,_,h1.ldL (i:=0) (o:=8) rfl (bsA _) rfl (hsL_8 hhl _ _ _ _),?_⟩
   rw [e]
   simp only [Int.toNat_natCast]
   refine ⟨fun w'=>∃R':Res,St w F w' [.arr g T (hsL (hOf m) a k c ((m.length+n1:Nat):Int)),R'],⟨_,h1d⟩,by omega,by omega,_,_,_,fun w' ⟨_,h⟩=>h.ldL (i:=0) (o:=8) rfl (bsA _) rfl (hsL_8 hhl _ _ _ _),va,k+t,vc,w2,r2,fun w'=>∃R':Res,St w F w' [.arr g T (hsL (hOf m) a k c ((m.length+n1:Nat):Int)),R'],fun _ h=>h,⟨_,h2⟩,w3,r3,by omega,by omega,by omega,fun a2 hs2=>?_⟩
   refine ⟨_,_,_,ld3,fun h=>?_,fun h=>?_⟩
   · have hlt:k+t<64:=by simp at h;omega
     have htn:t=n1:=by omega
     have htk:l.take t=l:=List.take_of_length_le (by omega)
     obtain ⟨f1,f2⟩:=hOf_few (m:=m) (b:=l) (by omega)
     refine ⟨trivial,va,vc,?_⟩
     rw [htk,htn] at h3'
     rw [hM,f1,f2,List.length_append,hk,hl,List.length_append,hl]
     exact h3'
   · have hge:k+t=64:=by simp at h;omega
     have hlt':(l.take t).length=t:=by rw [List.length_take];omega
     obtain ⟨f1,f2⟩:=hOf_fill (m:=m) (b:=l.take t) (by omega)
     rw [hge] at h3' ld3
     refine ⟨_,_,_,ld3,blk w3 (hOf m) _ _ _ _ _ _ _ _ _ h3' hhl (hOf_lt m) (h3'.rd (i:=1) rfl) fun w4 _ h4=>⟨rfl,?_⟩⟩
     rw [←f1] at h4
     have hhl2:=hOf_len (m++l.take t)
     obtain ⟨w5,r5,h5⟩:=h4.stL (i:=0) (o:=8) (v:=.slice va 0 vc) rfl (sS _) rfl (by rw [hsL_len hhl2];omega) rfl
     rw [hsL_set8 hhl2] at h5
     have h5':=h5.shrink (i:=1) rfl (k:=0) (by omega)
     refine ⟨_,_,_,h4.ldL (i:=0) (o:=8) rfl (bsA _) rfl (hsL_8 hhl2 _ _ _ _),by omega,by omega,w5,r5,m++l.take t,l.drop t,va,vc,by rw [List.append_assoc,List.take_append_drop],?_,by simp;omega,by omega,hr.sub hs2 (by omega) hle hl,h5'⟩
     rw [List.length_append,hlt'];omega
 · have hk0:k=0:=by simp at h;omega
   subst hk0
   have hr0:rOf m=[]:=List.eq_nil_of_length_eq_zero hk
   rw [hr0] at h1
   exact ⟨m,l,a,c,rfl,by omega,hl,hle,hr,h1⟩
 rintro xa xn xc w6 ⟨m1,l1,a6,c6,he6,hm6,hl6,hx6,hr6,h6⟩
 refine ⟨fun xa xn xc w'=>∃(m1 l1:List UInt8) (a':Option Addr) (c':Nat),m++l=m1++l1∧m1.length%64=0∧l1.length=xn∧xn≤xc∧RdK F w xa xn xc l1∧St w F w' [.arr g T (hsL (hOf m1) a' 0 c' ((m.length+n1:Nat):Int)),.row 5 1 (.slice a' 0 c') 0 []],fun _ xn _ _=>xn,⟨m1,l1,a6,c6,he6,hm6,hl6,hx6,hr6,h6⟩,?_⟩
 clear h6 hr6 hx6 hl6 hm6 he6 a6 c6 m1 l1
 rintro xa xn xc w7 ⟨m1,l1,a',c',he,hm,hl1,hx,hr7,h7⟩
 have hm1r:rOf m1=[]:=List.eq_nil_of_length_eq_zero (by rw [rOf_len];exact hm)
 refine ⟨fun h=>?_,fun h=>?_⟩
 · have h64:64≤xn:=by simp at h;omega
   have hlt':(l1.take 64).length=64:=by rw [List.length_take];omega
   obtain ⟨f1,f2⟩:=hOf_fill (m:=m1) (b:=l1.take 64) (by omega)
   rw [hm1r,List.nil_append] at f1
   refine ⟨by omega,by omega,blk w7 (hOf m1) _ _ _ _ _ _ _ _ _ h7 (hOf_len m1) (hOf_lt m1) (rdB_upto (hr7 w7 h7.chg) (k:=64) h64) fun w8 hc8 h8=>⟨rfl,by omega,by omega,by omega,fun a9 hs9=>⟨⟨m1++l1.take 64,l1.drop 64,a',c',by rw [he,List.append_assoc,List.take_append_drop],by rw [List.length_append,hlt'];omega,by simp;omega,by omega,hr7.sub hs9 h64 hx hl1,?_⟩,?_⟩⟩⟩
   · rw [f1];exact h8
   · show xn-64<xn
     omega
 · have h64:xn<64:=by simp at h;omega
   obtain ⟨f1,f2⟩:=hOf_few (m:=m1) (b:=l1) (by omega)
   rw [hm1r,List.nil_append] at f2
   have hhl2:=hOf_len m1
   have hlen:(m++l).length=m.length+n1:=by rw [List.length_append,hl]
   obtain ⟨va,vc,w9,r9,h9⟩:=h7.appendB (i:=1) (xs:=[]) rfl (hr7 w7 h7.chg) (by omega)
   simp only [Nat.zero_add,List.nil_append] at r9 h9
   obtain ⟨w10,r10,h10⟩:=h9.stL (i:=0) (o:=8) (v:=.slice va xn vc) rfl (sS _) rfl (by rw [hsL_len hhl2];omega) rfl
   rw [hsL_set8 hhl2] at h10
   refine ⟨_,_,_,h7.ldL (i:=0) (o:=8) rfl (bsA _) rfl (hsL_8 hhl2 _ _ _ _),_,_,_,_,r9,w10,r10,rfl,va,vc,?_⟩
   rw [hM,hlen,he,f1,f2,hl1]
   exact h10

end Go.Proofs.YtpmhjnhgpplmnaaGreatDoor
end

section
namespace Go.Proofs.YtpmhjnhgpplmnaaGreatDoor
open Go Sx
set_option maxRecDepth 8000

theorem d32A (w:World):(isAgg 39).run Tryz.prog w=.ok true w:=Tryz.isAgg39 w
theorem d32S (w:World):(sizeOf 39).run Tryz.prog w=.ok 32 w:=Tryz.sizeOf39 w
theorem d32Z (w:World):(zeroValue 39).run Tryz.prog w=.ok (.agg (bv (List.replicate 32 0)).toArray) w:=Tryz.zeroValue39 w
theorem stA (w:World):(isAgg 462).run Tryz.prog w=.ok true w:=Tryz.isAgg462 w
theorem stS (w:World):(sizeOf 462).run Tryz.prog w=.ok 10 w:=Tryz.sizeOf462 w
theorem stZ (w:World):(zeroValue 462).run Tryz.prog w=.ok (.agg (hsL (List.replicate 8 0) none 0 0 0).toArray) w:=Tryz.zeroValue462 w

theorem hsL_one (h:List Nat) (a:Option Addr) (k c:Nat) (n:Int):∀u∈hsL h a k c n,u.oneCell'=true:=by
 intro u hu
 simp only [hsL,List.mem_append,List.mem_cons,List.not_mem_nil,or_false] at hu
 rcases hu with hu | rfl | rfl
 · exact kv_one _ _ u hu
 · rfl
 · rfl

theorem built_state:Tryz.prog.built 462=fun parts=>Instr.fill (fun i=>(#[(0,8),(8,1),(9,1)]:Array (Nat×Nat))[i]?) (hsL (List.replicate 8 0) none 0 0 0).toArray parts:=by kernel_rfl
theorem built_hasher:Tryz.prog.built 465=fun parts=>Instr.fill (fun i=>(#[(0,10)]:Array (Nat×Nat))[i]?) (hsL (List.replicate 8 0) none 0 0 0).toArray parts:=by kernel_rfl

theorem state_build {h:List Nat} (hh:h.length=8) (w:World):(Instr.build 462 #[(0,.agg (kv .u32 h).toArray)]).run Tryz.prog w=.ok (.agg (hsL h none 0 0 0).toArray) w:=by
 apply run_build
 rw [built_state]
 show Instr.fill _ _ [(0,.agg (kv .u32 h).toArray)]=_
 rw [fill_step (off:=0) (sz:=8) rfl (by simp [Value.cells,hh]) (by simp [hsL])]
 simp [Instr.fill,Value.cells,hsL]
theorem hasher_build {l:List Value} (hl:l.length=10) (w:World):(Instr.build 465 #[(0,.agg l.toArray)]).run Tryz.prog w=.ok (.agg l.toArray) w:=by
 apply run_build
 rw [built_hasher]
 show Instr.fill _ _ [(0,.agg l.toArray)]=_
 rw [fill_step (off:=0) (sz:=10) rfl (by simp [Value.cells,hl]) (by simp [hsL])]
 simp [Instr.fill,Value.cells,hsL]

theorem shaBegin_spec (w:World):Calls Tryz.prog 361 #[] w fun e w'=>e=.returned (.agg (hsL h0L none 0 0 0).toArray)∧Chg [] w w':=by
 apply sha_begin_vc
 obtain ⟨g1,w1,r1,h1⟩:=(St.start w).zeroA stZ
 have hb:(Instr.build 394 (((kv .u32 h0L).zipIdx 0).map fun p=>(p.2,p.1)).toArray).run Tryz.prog w1=.ok (.agg (kv .u32 h0L).toArray) w1:=by
   have:=build_arr (P:=Tryz.prog) (w:=w1) (w8Z w1) Tryz.underlying394 (uS _) (kv .u32 h0L) (kv_one _ _) (by simp [h0L])
   rwa [List.drop_of_length_le (by simp [h0L]),List.append_nil] at this
 obtain ⟨w2,r2,h2⟩:=h1.stA (i:=0) (v:=hsL h0L none 0 0 0) rfl (stS _) (hsL_len (by simp) _ _ _ _) (hsL_len rfl _ _ _ _) (hsL_one _ _ _ _ _)
 exact ⟨_,_,r1,_,hb,_,state_build rfl _,w2,r2,_,h2.ldVarA (i:=0) rfl (stA _) (stS _) (hsL_len rfl _ _ _ _),rfl,h2.chg⟩

theorem shaNew_spec (w:World):Calls Tryz.prog 324 #[] w fun e w'=>∃g,e=.returned (.pointer (some ⟨g,0,none⟩))∧St w [] w' (hM g 465 [] none 0):=by
 apply sha_New_vc
 refine (shaBegin_spec w).mono ?_
 rintro e w1 ⟨rfl,hc1⟩
 obtain ⟨g,w2,r2,h2⟩:=((St.start w).same hc1).boxA (P:=Tryz.prog) 465 (hsL h0L none 0 0 0)
 exact ⟨_,rfl,_,hasher_build (hsL_len rfl _ _ _ _) w1,g,w2,r2,g,rfl,h2.addNil _ _⟩

theorem lenB_val (n x:Nat) (hx:x<8):IntKind.wrap .u8 (shrI .u64 (IntKind.wrap .u64 (IntKind.wrap .u64 (n:Int)*8)) ((56-8*x:Nat):Int))=((lenB n x).toNat:Int):=by
 have e:IntKind.wrap .u64 (IntKind.wrap .u64 (n:Int)*8)=((n*8%18446744073709551616:Nat):Int):=by
   rw [wrap_u64,wrap_u64];omega
 rw [e,shr_nat _ _ _ (by simp [IntKind.bits];omega),wrap_u8,lenB,UInt8.toNat_ofNat']
 simp

theorem digB_val (h:List Nat) (i j:Nat) (hj:j<4):IntKind.wrap .u8 (shrI .u32 ((h.getD i 0:Nat):Int) ((24-8*j:Nat):Int))=((digB h (4*i+j)).toNat:Int):=by
 rw [shr_val _ _ (by omega),wrap_u8,digB,show (4*i+j) / 4=i by omega,show (4*i+j)%4=j by omega,UInt8.toNat_ofNat']
 simp

theorem Sx.St.ldPre {w0 w:World} {X:List Nat} {M:List Res} (h:St w0 X w M) {i g n:Nat} {l:List Value} {T' T:TypeId} (hi:M[i]?=some (.arr g T' l)) (hT:(isAgg T).run Tryz.prog w=.ok true w) (hS:(sizeOf T).run Tryz.prog w=.ok n w) (hl:n≤l.length):
   (Instr.loadAt T (.pointer (some ⟨g,0,none⟩))).run Tryz.prog w=.ok (.agg (l.take n).toArray) w:=by
 have hr:w.rangeAt g 0 (l.take n):=fun j v hj=>by
   rw [List.getElem?_take] at hj
   split at hj
   · exact h.cellsA hi j v hj
   · cases hj
 have:=loadCells_cells (P:=Tryz.prog) hr
 rw [List.length_take,Nat.min_eq_left hl] at this
 simp [Instr.loadAt,Instr.sureAddr,loadVar,hT,hS,this]

theorem sum_val_spec (m:List UInt8) (a:Option Addr) (c:Nat) (w:World) (hK:KTab w) (hr:RdB w a (rOf m).length c (rOf m)) (hb:m.length≤70368744177664):
   Calls Tryz.prog 363 #[.agg (hsL (hOf m) a (rOf m).length c (m.length:Int)).toArray] w fun e w'=>e=.returned (.agg (bv (shaF m)).toArray)∧Chg [] w w':=by
 have iI:∀w,(isAgg 3).run Tryz.prog w=.ok false w:=fun w=>Tryz.isAgg3 w
 have sS:∀w,(sizeOf 26).run Tryz.prog w=.ok 1 w:=fun w=>Tryz.sizeOf26 w
 have sB:∀w,(sizeOf 5).run Tryz.prog w=.ok 1 w:=fun w=>Tryz.sizeOf5 w
 have hhl:=hOf_len m
 have hrl:=rOf_len m
 obtain ⟨k,hk⟩:∃k,(rOf m).length=k:=⟨_,rfl⟩
 rw [hk] at hr hrl ⊢
 apply sha_state_sum_vc
 obtain ⟨g1,w1,r1,h1⟩:=(St.start w).boxA (P:=Tryz.prog) 462 (hsL (hOf m) a k c (m.length:Int))
 obtain ⟨g2,w2,r2,h2⟩:=h1.zeroA d32Z
 refine ⟨_,_,r1,_,_,r2,_,h2.ldL (i:=0) (o:=9) rfl (iI _) rfl (hsL_9 hhl _ _ _ _),_,_,_,h2.ldL (i:=0) (o:=8) rfl (bsA _) rfl (hsL_8 hhl _ _ _ _),(clone_spec a k c (rOf m) w2 (h2.rd1 hr) (by omega)).mono ?_⟩
 rintro e w3 ⟨a3,c3,rfl,hf3⟩
 have h3:=hf3.add h2
 obtain ⟨w4,r4,h4⟩:=h3.stL (i:=0) (o:=8) (v:=.slice a3 k c3) rfl (sS _) rfl (by rw [hsL_len hhl];omega) rfl
 rw [hsL_set8 hhl] at h4
 obtain ⟨g5,w5,r5,h5⟩:=h4.mk0n (kl:=.i64) (kc:=.i64) (c:=80) bT (by omega) (by omega)
 obtain ⟨g6,w6,va,vc,w7,r6,r7,h7,_⟩:=h5.push1 (i:=3) (n:=0) (pre:=[]) rfl (by omega) 128 (by decide)
 refine ⟨_,_,_,rfl,w4,r4,_,_,_,_,r5,_,_,_,_,r6,_,_,_,_,r7,?_⟩
 have e128:UInt8.ofNat 128=0x80:=rfl
 obtain ⟨n,hn⟩:∃n,m.length=n:=⟨_,rfl⟩
 rw [hn] at hrl hb h7 ⊢
 obtain ⟨Mx,hMx⟩:∃Mx:List Res,Mx=[.arr g1 462 (hsL (hOf m) a3 k c3 (n:Int)),.arr g2 39 (bv (List.replicate 32 0)),.row 5 1 (.slice a3 k c3) k (bv (rOf m))]:=⟨_,rfl⟩
 have ldn:∀ {w':World} {N:List Res},St w [] w' (Mx++N)→(Instr.loadAt 3 (.pointer (some ⟨g1,9,none⟩))).run Tryz.prog w'=.ok (.int .i64 (n:Int)) w':=fun {w' N} h=>by
   rw [hMx] at h;exact h.ldL (i:=0) (o:=9) rfl (iI _) rfl (hsL_9 hhl _ _ _ _)
 have hi3:∀(r:Res),(Mx++ [r])[3]?=some r:=fun r=>by rw [hMx];rfl
 have hs3:∀(r s:Res),(Mx++ [r]).set 3 s=Mx++ [s]:=fun r s=>by rw [hMx];rfl
 have h7':St w [] w7 (Mx++ [.row 5 1 (.slice va 1 vc) 1 (bv [0x80])]):=by rw [hMx];exact h7
 clear h7 h5 h4 h3
 refine ⟨fun xa xn xc w'=>∃z:Nat,z≤zerosN n∧xn=1+z∧St w [] w' (Mx++ [.row 5 1 (.slice xa xn xc) xn (bv (0x80::List.replicate z 0))]),fun _ xn _ _=>1+zerosN n-xn,⟨0,by omega,rfl,h7'⟩,?_⟩
 rintro xa xn xc w8 ⟨z,hz,rfl,h8⟩
 have hzl:=zerosN_lt n
 have hmod:IntKind.wrap .i64 (IntKind.wrap .i64 ((n:Int)+((1+z:Nat):Int))+8)=((n+(1+z)+8:Nat):Int):=by
   rw [show IntKind.wrap .i64 ((n:Int)+((1+z:Nat):Int))=((n+(1+z):Nat):Int) by rw [wrap_i64 (by omega) (by omega)];omega,wrap_i64 (by omega) (by omega)];omega
 refine ⟨_,ldn h8,fun h=>?_,fun h=>?_⟩
 · rw [hmod,Int.tmod_eq_emod_of_nonneg (by omega)] at h
   have hne:(n+(1+z)+8)%64≠0:=by simp at h;omega
   have hz':z<zerosN n:=by
     rcases Nat.lt_or_ge z (zerosN n) with h1 | h1
     · exact h1
     · have:z=zerosN n:=by omega
       rw [this] at hne
       simp only [zerosN] at hne
       omega
   obtain ⟨g9,w9,vb,vd,w10,r9,r10,h10,_⟩:=h8.push1 (i:=3) (n:=1+z) (hi3 _) (by omega) 0 (by decide)
   rw [hs3] at h10
   refine ⟨_,_,_,_,r9,_,_,_,_,r10,⟨z+1,by omega,by omega,?_⟩,(by show 1+zerosN n- (1+z+1)<1+zerosN n- (1+z);omega)⟩
   have:(0x80::List.replicate z 0)++ [UInt8.ofNat 0]=(0x80:UInt8)::List.replicate (z+1) 0:=by
     rw [List.replicate_succ'];rfl
   rw [←this]
   exact h10
 · rw [hmod,Int.tmod_eq_emod_of_nonneg (by omega)] at h
   have he:(n+(1+z)+8)%64=0:=by simp at h;omega
   have hz':z=zerosN n:=by
     simp only [zerosN] at hz ⊢
     omega
   subst hz'
   refine ⟨fun xa xn xc x w'=>∃j:Nat,x=(j:Int)∧j≤8∧xn=1+zerosN n+j∧St w [] w' (Mx++ [.row 5 1 (.slice xa xn xc) xn (bv (0x80::(List.replicate (zerosN n) 0++(List.range j).map (lenB n))))]),fun _ _ _ x _=>8-x.toNat,⟨0,rfl,by omega,rfl,by simpa using h8⟩,?_⟩
   rintro ya yn yc y w11 ⟨j,rfl,hj,rfl,h11⟩
   refine ⟨fun h=>?_,fun h=>?_⟩
   · have hj':j<8:=by simp at h;omega
     have e1:IntKind.wrap .i64 ((56:Int)-IntKind.wrap .i64 (8*(j:Int)))=((56-8*j:Nat):Int):=by
       rw [show IntKind.wrap .i64 (8*(j:Int))=((8*j:Nat):Int) by rw [wrap_i64 (by omega) (by omega)];omega,wrap_i64 (by omega) (by omega)];omega
     rw [e1,lenB_val n j hj']
     obtain ⟨g12,w12,vb,vd,w13,r12,r13,h13,_⟩:=h11.push1 (i:=3) (n:=1+zerosN n+j) (hi3 _) (by omega) (lenB n j).toNat (lenB n j).toNat_lt
     rw [hs3] at h13
     refine ⟨by omega,_,_,_,_,r12,_,_,_,_,r13,⟨j+1,wrap_succ hj' (by omega),by omega,by omega,?_⟩,mu_succ hj' (by omega)⟩
     have:(0x80::(List.replicate (zerosN n) 0++(List.range j).map (lenB n)))++ [UInt8.ofNat (lenB n j).toNat]=(0x80:UInt8)::(List.replicate (zerosN n) 0++(List.range (j+1)).map (lenB n)):=by
       rw [List.range_succ,List.map_append];simp
     rw [←this]
     exact h13
   · have hj':j=8:=by simp at h;omega
     subst hj'
     have hpl:(padL n).length=1+zerosN n+8:=by rw [padL_len];omega
     have h11':St w [] w11 (Mx++ [.row 5 1 (.slice ya (1+zerosN n+8) yc) (1+zerosN n+8) (bv (padL n))]):=h11
     -- the state and its rest, the others ahead
     have hp:St w [] w11 ([.row 5 1 (.slice ya (1+zerosN n+8) yc) (1+zerosN n+8) (bv (padL n)),.arr g2 39 (bv (List.replicate 32 0))]++hM g1 462 m a3 c3):=by
       rw [hMx] at h11'
       rw [hM,hk,hn]
       refine h11'.perm ?_
       refine (List.perm_append_comm (l₁:=[_,_,_]) (l₂:=[_])).trans (List.Perm.cons _ (List.Perm.swap _ _ _))
     have hS0:=(hp.sub (List.sublist_append_right _ _))
     have hgk:6∉fpsL (hM g1 462 m a3 c3):=fun hx=>by
       have:=hS0.fps_own _ hx
       have:=hK.lt
       omega
     refine (write_spec _ g1 _ m a3 c3 ya _ yc (padL n) w11 (hK.keep0 hp.chg) hgk hS0.self (rdK_row hp (by simp)) (by omega)).mono ?_
     rintro e w14 ⟨rfl,a14,c14,h14⟩
     have h14':=hp.callPart h14
     have htot:(m++padL n).length=n+(1+zerosN n+8):=by rw [List.length_append,hpl,hn]
     obtain ⟨H,hH⟩:∃H,hOf (m++padL n)=H:=⟨_,rfl⟩
     have hHl:H.length=8:=by rw [←hH];exact hOf_len _
     have hsha:shaF m=digL H:=by rw [shaF,hn,hH]
     rw [hsha]
     rw [hM,hH] at h14'
     obtain ⟨g15,w15,r15,h15⟩:=h14'.zeroA d32Z
     obtain ⟨N,hN⟩:∃N:List Res,N=[.row 5 1 (.slice ya (1+zerosN n+8) yc) (1+zerosN n+8) (bv (padL n)),.arr g2 39 (bv (List.replicate 32 0))]++ [.arr g1 462 (hsL H a14 (rOf (m++padL n)).length c14 ((m++padL n).length:Int)),.row 5 1 (.slice a14 (rOf (m++padL n)).length c14) (rOf (m++padL n)).length (bv (rOf (m++padL n)))]:=⟨_,rfl⟩
     have hpre:((hsL H a14 (rOf (m++padL n)).length c14 ((m++padL n).length:Int))).take 8=kv .u32 H:=by
       rw [hsL,List.take_append_of_le_length (by simp [hHl]),List.take_of_length_le (by simp [hHl])]
     have hld:=h15.ldPre (T:=394) (i:=2) rfl (w8A _) (w8S _) (by rw [hsL_len hHl];omega)
     rw [hpre] at hld
     have hi4:∀(r:Res),(N++ [r])[4]?=some r:=fun r=>by rw [hN];rfl
     have hi1:∀(r:Res),(N++ [r])[1]?=some (.arr g2 39 (bv (List.replicate 32 0))):=fun r=>by rw [hN];rfl
     have hs4:∀(r s:Res),(N++ [r]).set 4 s=N++ [s]:=fun r s=>by rw [hN];rfl
     have h15':St w [] w15 (N++ [.arr g15 39 (bv (upTo (digL H) 0))]):=by rw [hN,upTo_zero,digL_len];exact h15
     clear h15
     refine ⟨rfl,g15,w15,r15,_,hld,fun x w'=>∃i:Nat,x=(i:Int)∧i≤8∧St w [] w' (N++ [.arr g15 39 (bv (upTo (digL H) (4*i)))]),fun x _=>8-x.toNat,⟨0,rfl,by omega,h15'⟩,?_⟩
     rintro x w16 ⟨i,rfl,hi,h16⟩
     refine ⟨fun h=>?_,fun h=>?_⟩
     · have hi':i<8:=by simp at h;omega
       have e1:IntKind.wrap .i64 ((4:Int)*(i:Int))=((4*i:Nat):Int):=by rw [wrap_i64 (by omega) (by omega)];omega
       have e2:∀j:Nat,j<4→IntKind.wrap .i64 (((4*i:Nat):Int)+(j:Int))=((4*i+j:Nat):Int):=fun j hj=>by rw [wrap_i64 (by omega) (by omega)];omega
       have e21:IntKind.wrap .i64 (((4*i:Nat):Int)+1)=((4*i+1:Nat):Int):=e2 1 (by omega)
       have e22:IntKind.wrap .i64 (((4*i:Nat):Int)+2)=((4*i+2:Nat):Int):=e2 2 (by omega)
       have e23:IntKind.wrap .i64 (((4*i:Nat):Int)+3)=((4*i+3:Nat):Int):=e2 3 (by omega)
       rw [e1,e21,e22,e23]
       refine ⟨_,ixArr (cs:=kv .u32 H) Tryz.underlying394 (uS _) (uA _) hi' (kv_get (by omega)),?_⟩
       have v0:IntKind.wrap .u8 (shrI .u32 ((H.getD i 0:Nat):Int) 24)=((digB H (4*i)).toNat:Int):=digB_val H i 0 (by omega)
       have v1:IntKind.wrap .u8 (shrI .u32 ((H.getD i 0:Nat):Int) 16)=((digB H (4*i+1)).toNat:Int):=digB_val H i 1 (by omega)
       have v2:IntKind.wrap .u8 (shrI .u32 ((H.getD i 0:Nat):Int) 8)=((digB H (4*i+2)).toNat:Int):=digB_val H i 2 (by omega)
       have v3:IntKind.wrap .u8 ((H.getD i 0:Nat):Int)=((digB H (4*i+3)).toNat:Int):=by
         have:=digB_val H i 3 (by omega)
         rw [show 24-8*3=0 from rfl,shr_val _ _ (by omega),Nat.pow_zero,Nat.div_one] at this
         exact this
       rw [v0,v1,v2,v3]
       have ze:∀k:Nat,0+Int.toNat (k:Int)*1=k:=fun k=>by omega
       have hdl:(digL H).length=32:=digL_len H
       obtain ⟨w17,q1,s1⟩:=h16.stB (b:=digB H (4*i)) (hi4 _) (sB _) (ze (4*i)) (by rw [upTo_len (by omega)];omega)
       rw [hs4,upTo_set (digL_get H (by omega))] at s1
       obtain ⟨w18,q2,s2⟩:=s1.stB (b:=digB H (4*i+1)) (hi4 _) (sB _) (ze (4*i+1)) (by rw [upTo_len (by omega)];omega)
       rw [hs4,upTo_set (digL_get H (by omega))] at s2
       obtain ⟨w19,q3,s3⟩:=s2.stB (b:=digB H (4*i+2)) (hi4 _) (sB _) (ze (4*i+2)) (by rw [upTo_len (by omega)];omega)
       rw [hs4,upTo_set (digL_get H (by omega))] at s3
       obtain ⟨w20,q4,s4⟩:=s3.stB (b:=digB H (4*i+3)) (hi4 _) (sB _) (ze (4*i+3)) (by rw [upTo_len (by omega)];omega)
       rw [hs4,upTo_set (digL_get H (by omega))] at s4
       refine ⟨by omega,by omega,w17,q1,by omega,by omega,w18,q2,by omega,by omega,w19,q3,by omega,by omega,w20,q4,⟨i+1,wrap_succ hi' (by omega),by omega,?_⟩,mu_succ hi' (by omega)⟩
       rw [show 4*(i+1)=4*i+3+1 by omega]
       exact s4
     · have hi':i=8:=by simp at h;omega
       subst hi'
       have hdl:(digL H).length=32:=digL_len H
       rw [show 4*8=(digL H).length by omega,upTo_all] at h16
       obtain ⟨w17,r17,h17⟩:=h16.stA (i:=1) (v:=bv (digL H)) (hi1 _) (d32S _) (by simp) (by simp) (bv_one _)
       have hi1':((N++ [Res.arr g15 39 (bv (digL H))]).set 1 (.arr g2 39 (bv (digL H))))[1]?=some (.arr g2 39 (bv (digL H))):=by rw [hN];rfl
       exact ⟨_,h16.ldA (hi4 _) (d32A _) (d32S _) (by simp),w17,r17,_,h17.ldVarA hi1' (d32A _) (d32S _) (by simp),rfl,h17.chg⟩

end Go.Proofs.YtpmhjnhgpplmnaaGreatDoor
end

section
namespace Go.Proofs.YtpmhjnhgpplmnaaGreatDoor
open Go Sx
set_option maxRecDepth 8000

theorem gk_not {w0 w:World} {X:List Nat} {N:List Res} (h:St w0 X w N) (hK:KTab w0) (hX:6∉X):6∉fpsL N:=fun hx=>by
 obtain ⟨r,hr,hk⟩:=List.mem_flatMap.1 hx
 have:=hK.lt
 rcases h.pw.2.1 r hr _ hk with h1 | h1
 · omega
 · exact hX h1

theorem Sx.St.own_or {w0 w:World} {X:List Nat} {N:List Res} (h:St w0 X w N):∀k∈fpsL N,w0.heap.size≤k∨k∈X:=fun k hk=>by
 obtain ⟨r,hr,hk⟩:=List.mem_flatMap.1 hk
 exact h.pw.2.1 r hr k hk

theorem RdK.step {w w1:World} {F:List Nat} {N:List Res} {a:Option Addr} {n c:Nat} {l:List UInt8} (h:RdK F w a n c l) (hS:St w F w1 N):RdK (fpsL N) w1 a n c l:=fun w2 hc=>
 h w2 (hS.chg.trans' hc hS.own_or)

theorem write_in {w0 w:World} {X:List Nat} {M:List Res} (g T:Nat) (m:List UInt8) (a:Option Addr) (c:Nat) (a1:Option Addr) (n1 c1:Nat) (l:List UInt8) (hK:KTab w0) (hX:6∉X) (hS:St w0 X w (M++hM g T m a c)) (hr:RdK (fpsL (hM g T m a c)) w a1 n1 c1 l) (hb:m.length+l.length≤140737488350000):
   Calls Tryz.prog 362 #[.pointer (some ⟨g,0,none⟩),.slice a1 n1 c1] w fun e w'=>e=.returned (.tuple #[])∧∃a' c',St w0 X w' (M++hM g T (m++l) a' c')∧Chg (fpsL (hM g T m a c)) w w':=by
 have hN:=hS.sub (List.sublist_append_right M _)
 refine (write_spec _ g T m a c a1 n1 c1 l w (hK.keep hS.chg hX) (gk_not hN hK hX) hN.self hr hb).mono ?_
 rintro e w' ⟨rfl,a',c',h'⟩
 exact ⟨rfl,a',c',hS.callPart h',h'.chg⟩

structure PartsK (F:List Nat) (w:World) (a:Option Addr) (n c:Nat) (vs:List Value) (ls:List (List UInt8)):Prop where
 rd:∀w',Chg F w w'→Rd w' a n c 1 vs
 row:∀w',Chg F w w'→Row2 w' vs ls

theorem partsK_old {w0 w:World} {N:List Res} (h:St w0 [] w N) {a:Option Addr} {n c:Nat} {vs:List Value} {ls:List (List UInt8)} (hr:Rd w0 a n c 1 vs) (h2:Row2 w0 vs ls):PartsK (fpsL N) w a n c vs ls:=
 ⟨fun _ hc=>hr.keep0 (h.chg.trans' hc fun k hk=>.inl (h.fps_own k hk)),fun _ hc=>h2.keep0 (h.chg.trans' hc fun k hk=>.inl (h.fps_own k hk))⟩

theorem PartsK.at_ {F:List Nat} {w:World} {a:Option Addr} {n c:Nat} {vs:List Value} {ls:List (List UInt8)} (h:PartsK F w a n c vs ls) {i:Nat} (hi:i<ls.length):∃b o a' n' c',a=some ⟨b,o,none⟩∧RdK F w a' n' c' (ls.getD i [])∧
   ∀w',Chg F w w'→(Instr.loadAt 26 (.pointer (some ⟨b,o+Int.toNat (i:Int)*1,none⟩))).run Tryz.prog w'=.ok (.slice a' n' c') w':=by
 obtain ⟨b,o,a',n',c',ha,hv,hrd,hld⟩:=ixS (h.rd w (Chg.refl _ _)).cells (h.row w (Chg.refl _ _)) hi
 refine ⟨b,o,a',n',c',ha,fun w' hc=>?_,fun w' hc=>hld w' (h.rd w' hc).cells⟩
 obtain ⟨a2,n2,c2,hv2,hrd2⟩:=(h.row w' hc).rd i hi
 rw [hv] at hv2
 simp only [Option.some.injEq,Value.slice.injEq] at hv2
 obtain ⟨rfl,rfl,rfl⟩:=hv2
 exact hrd2

theorem hWrite_spec {w0 w:World} {X:List Nat} {M:List Res} (g T:Nat) (m:List UInt8) (a:Option Addr) (c:Nat) (a1:Option Addr) (n1 c1:Nat) (vs:List Value) (ls:List (List UInt8)) (hK:KTab w0) (hX:6∉X) (hS:St w0 X w (M++hM g T m a c)) (hp:PartsK (fpsL (hM g T m a c)) w a1 n1 c1 vs ls) (hb:m.length+ls.flatten.length≤140737488350000) (hn:n1≤4611686018427387904):
   Calls Tryz.prog 325 #[.pointer (some ⟨g,0,none⟩),.slice a1 n1 c1] w fun e w'=>e=.returned (.tuple #[])∧∃a' c',St w0 X w' (M++hM g T (m++ls.flatten) a' c')∧Chg (fpsL (hM g T m a c)) w w':=by
 have hln:ls.length=n1:=by have:=(hp.rd w (Chg.refl _ _)).len;have:=(hp.row w (Chg.refl _ _)).len;omega
 have hN0:=(hS.sub (List.sublist_append_right M _)).self
 have hgk:6∉fpsL (hM g T m a c):=gk_not (hS.sub (List.sublist_append_right M _)) hK hX
 apply sha_Hasher_Write_vc
 refine ⟨fun x w'=>∃(i:Nat) (a':Option Addr) (c':Nat),x=(i:Int)∧i≤n1∧St w (fpsL (hM g T m a c)) w' (hM g T (m++(ls.take i).flatten) a' c'),fun x _=>n1-x.toNat,⟨0,a,c,rfl,by omega,by simpa using hN0⟩,?_⟩
 rintro x w1 ⟨i,a',c',rfl,hi,h1⟩
 refine ⟨fun h=>?_,fun h=>?_⟩
 · have hi':i<n1:=by simp at h;omega
   obtain ⟨b,o,a2,n2,c2,ha,hrk,hld⟩:=hp.at_ (i:=i) (by omega)
   have hf1:=flat_take (ls:=ls) (i:=i) (by omega)
   have hf2:=flat_take_le ls (i+1)
   have hf3:=congrArg List.length hf1
   rw [List.length_append] at hf3
   refine ⟨b,o,ha,by omega,by omega,a2,n2,c2,hld w1 h1.chg,(write_in (M:=[]) g T _ a' c' a2 n2 c2 _ (hK.keep hS.chg hX) hgk h1 (hrk.step h1) (by rw [List.length_append];omega)).mono ?_⟩
   rintro e w2 ⟨rfl,a3,c3,h3,_⟩
   refine ⟨rfl,⟨i+1,a3,c3,wrap_succ hi' hn,by omega,?_⟩,mu_succ hi' hn⟩
   rw [hf1,←List.append_assoc]
   exact h3
 · have hi':i=n1:=by simp at h;omega
   rw [hi',←hln,List.take_length] at h1
   exact ⟨rfl,a',c',hS.callPart h1,h1.chg⟩

theorem hSum_spec {w0 w:World} {X:List Nat} {M:List Res} (g T:Nat) (m:List UInt8) (a:Option Addr) (c:Nat) (hK:KTab w) (hS:St w0 X w (M++hM g T m a c)) (hb:m.length≤70368744177664):
   Calls Tryz.prog 326 #[.pointer (some ⟨g,0,none⟩)] w fun e w'=>e=.returned (.agg (bv (shaF m)).toArray)∧Chg [] w w':=by
 have hN:=(hS.sub (List.sublist_append_right M _)).self
 apply sha_Hasher_Sum_vc
 obtain ⟨g1,w1,r1,h1⟩:=hN.zeroA d32Z
 have hc1:Chg [] w w1:=by
   obtain ⟨g1',w1',r1',h1'⟩:=(St.start w).zeroA d32Z
   have e:=r1.symm.trans r1'
   simp only [Result.ok.injEq] at e
   obtain ⟨_,rfl⟩:=e
   exact h1'.chg
 refine ⟨_,_,r1,_,h1.ldA (i:=0) rfl (stA _) (stS _) (hsL_len (hOf_len m) _ _ _ _),(sum_val_spec m a c w1 (hK.keep0 hc1) (h1.rd (i:=1) rfl) hb).mono ?_⟩
 rintro e w2 ⟨rfl,hc2⟩
 have h0:=((St.start w).zeroA d32Z)
 obtain ⟨g1',w1',r1',h1'⟩:=h0
 have e:=r1.symm.trans r1'
 simp only [Result.ok.injEq,Value.pointer.injEq,Option.some.injEq,Addr.mk.injEq,and_true] at e
 obtain ⟨⟨rfl,_⟩,rfl⟩:=e
 have h2:=h1'.same hc2
 obtain ⟨w3,r3,h3⟩:=h2.stA (i:=0) (v:=bv (shaF m)) rfl (d32S _) (by simp) (shaF_len m |> fun h=>by simp [h]) (bv_one _)
 exact ⟨_,rfl,w3,r3,_,h3.ldVarA (i:=0) rfl (d32A _) (d32S _) (by simp),rfl,h3.chg⟩

theorem shaSum_spec (a:Option Addr) (n c:Nat) (vs:List Value) (ls:List (List UInt8)) (w:World) (hK:KTab w) (hr:Rd w a n c 1 vs) (h2:Row2 w vs ls) (hb:ls.flatten.length≤70368744177664) (hn:n≤4611686018427387904):
   Calls Tryz.prog 323 #[.slice a n c] w fun e w'=>e=.returned (.agg (bv (shaF ls.flatten)).toArray)∧Chg [] w w':=by
 apply sha_Sum_vc
 obtain ⟨g1,w1,r1,h1⟩:=(St.start w).zeroA d32Z
 refine ⟨_,_,r1,(shaNew_spec w1).mono ?_⟩
 rintro e w2 ⟨g,rfl,hN2⟩
 have h2':St w [] w2 ([.arr g1 39 (bv (List.replicate 32 0))]++hM g 465 [] none 0):=by
   refine St.callPart (N:=[]) (w:=w1) (by simpa using h1) ?_
   simpa [fpsL] using hN2
 have hN:=h2'.sub (List.sublist_append_right _ _)
 refine ⟨_,_,rfl,(hWrite_spec g _ [] none 0 a n c vs ls hK (by simp) h2' (partsK_old hN hr h2) (by simp only [List.length_nil];omega) hn).mono ?_⟩
 rintro e w3 ⟨rfl,a3,c3,h3,_⟩
 rw [List.nil_append] at h3
 refine ⟨rfl,(hSum_spec g _ _ a3 c3 (hK.keep0 h3.chg) h3 hb).mono ?_⟩
 rintro e w4 ⟨rfl,hc4⟩
 have h4:=h3.same hc4
 obtain ⟨w5,r5,h5⟩:=h4.stA (i:=0) (v:=bv (shaF ls.flatten)) rfl (d32S _) (by simp) (by simp) (bv_one _)
 exact ⟨_,rfl,w5,r5,_,h5.ldVarA (i:=0) (l:=bv (shaF ls.flatten)) rfl (d32A _) (d32S _) (by simp),rfl,h5.chg⟩

theorem or_zero {d x y:Nat} (hd:d<256) (hx:x<256) (hy:y<256):bor .u8 (d:Int) (bxor .u8 (x:Int) (y:Int))=((d||| (x^^^y):Nat):Int)∧d||| (x^^^y)<256∧(d||| (x^^^y)=0↔d=0∧x=y):=by
 have hxy:x^^^y<256:=Nat.xor_lt_two_pow (n:=8) hx hy
 refine ⟨?_,Nat.or_lt_two_pow (n:=8) hd hxy,?_⟩
 · rw [bxor_nat rfl (by simpa [kmod,IntKind.bits] using hx) (by simpa [kmod,IntKind.bits] using hy),bor_nat rfl (by simpa [kmod,IntKind.bits] using hd) (by simpa [kmod,IntKind.bits] using hxy)]
 · constructor
   · intro h
     have h1:d=0:=by
       have:d≤d||| (x^^^y):=Nat.left_le_or
       omega
     have h2:x^^^y=0:=by
       have:x^^^y≤d||| (x^^^y):=Nat.right_le_or
       omega
     refine ⟨h1,?_⟩
     have h3:(x^^^y)^^^y=0^^^y:=by rw [h2]
     rwa [Nat.xor_assoc,Nat.xor_self,Nat.xor_zero,Nat.zero_xor] at h3
   · rintro ⟨rfl,rfl⟩;simp

theorem equal_spec (a:Option Addr) (n c:Nat) (l:List UInt8) (a2:Option Addr) (n2 c2:Nat) (l2:List UInt8) (w:World) (hr:RdB w a n c l) (hr2:RdB w a2 n2 c2 l2) (hb:n≤4611686018427387904):
   Calls Tryz.prog 207 #[.slice a n c,.slice a2 n2 c2] w fun e w'=>e=.returned (.bool (decide (l=l2)))∧Chg [] w w':=by
 have hl:=hr.lenB
 have hl2:=hr2.lenB
 apply sha_Equal_vc
 refine ⟨fun h=>?_,fun h=>?_⟩
 · have:l≠l2:=by rintro rfl;simp at h;omega
   exact ⟨by simp [this],Chg.refl _ _⟩
 · have hnn:n2=n:=by simp at h;omega
   subst hnn
   refine ⟨fun x y w'=>∃i d:Nat,y=(i:Int)∧x=(d:Int)∧i≤n2∧d<256∧(d=0↔l.take i=l2.take i)∧Chg [] w w',fun _ y _=>n2-y.toNat,⟨0,0,rfl,rfl,by omega,by decide,by simp,Chg.refl _ _⟩,?_⟩
   rintro x y w1 ⟨i,d,rfl,rfl,hi,hd,hiff,hc1⟩
   refine ⟨fun h=>?_,fun h=>?_⟩
   · have hi':i<n2:=by simp at h;omega
     have hcd:=hc1.trans (Chg.drew [] w1)
     refine ⟨fun w'=>Chg [] w w',hcd,ix0 hr.cells hl i hi' fun b o ha q=>ix0 hr2.cells hl2 i hi' fun b2 o2 ha2 q2=>?_⟩
     obtain ⟨e1,e2,e3⟩:=or_zero hd (l.getD i 0).toNat_lt (l2.getD i 0).toNat_lt
     refine ⟨b,o,ha,by omega,by omega,b2,o2,ha2,by omega,by omega,_,fun w' h=>q w' (hr.keep0 h).cells,_,fun w' h=>q2 w' (hr2.keep0 h).cells,⟨i+1,_,wrap_succ hi' hb,e1,by omega,e2,?_,hcd⟩,mu_succ hi' hb⟩
     rw [e3,hiff]
     have ht:∀m:List UInt8,m.length=n2→m.take (i+1)=m.take i++ [m.getD i 0]:=fun m hm=>by
       rw [List.take_add_one,List.getElem?_eq_getElem (by omega)];simp [List.getD,show i<m.length by omega]
     rw [ht l hl,ht l2 hl2]
     constructor
     · rintro ⟨h1,h2⟩;rw [h1,UInt8.toNat_inj.1 h2]
     · intro h1
       have:=List.append_inj' h1 rfl
       exact ⟨this.1,by simpa using congrArg (fun m=>(m.getD 0 0).toNat) this.2⟩
   · have hi':i=n2:=by simp at h;omega
     subst hi'
     rw [List.take_of_length_le (by omega),List.take_of_length_le (by omega)] at hiff
     refine ⟨?_,hc1⟩
     have:(((d:Int)==0):Bool)=decide (l=l2):=by
       by_cases h0:d=0
       · subst h0;simp [hiff.1 rfl]
       · have:¬l=l2:=fun h=>h0 (hiff.2 h)
         simp [this,h0]
     rw [this]

end Go.Proofs.YtpmhjnhgpplmnaaGreatDoor
end

section
namespace Go.Proofs.YtpmhjnhgpplmnaaGreatDoor.Sx
open Go
set_option maxRecDepth 8000

theorem bv_ints (l:List UInt8):bv l=(l.map fun b=>(b.toNat:Int)).map (Value.int .u8):=by simp [bv]

end Go.Proofs.YtpmhjnhgpplmnaaGreatDoor.Sx
end

section
namespace Go.Proofs.YtpmhjnhgpplmnaaGreatDoor
open Go Sx
set_option maxRecDepth 8000

theorem o64A (w:World):(isAgg 368).run Tryz.prog w=.ok true w:=Tryz.isAgg368 w
theorem o64S (w:World):(sizeOf 368).run Tryz.prog w=.ok 64 w:=Tryz.sizeOf368 w
theorem o64Z (w:World):(zeroValue 368).run Tryz.prog w=.ok (.agg (bv (List.replicate 64 0)).toArray) w:=Tryz.zeroValue368 w
theorem sB1 (w:World):(sizeOf 5).run Tryz.prog w=.ok 1 w:=Tryz.sizeOf5 w

theorem Sx.St.copyB {w0 w:World} {X:List Nat} {M:List Res} (h:St w0 X w M) {i g T n c d:Nat} {a:Option Addr} {l src:List UInt8} (hi:M[i]?=some (.arr g T (bv l))) (hd:l.length=d) (hr:RdB w a n c src) (hn:n≤d):
   ∃w',(Builtin.copy_ #[26,26] 3 #[.slice (some ⟨g,0,none⟩) d d,.slice a n c]).run Tryz.prog w=.ok (.int .i64 (n:Int)) w'∧St w0 X w' (M.set i (.arr g T (bv (src++l.drop n)))):=by
 have hl:=hr.lenB
 have hinf:(Tryz.prog.info? 5).map (·.size)=some 1:=by kernel_rfl
 have hg:=h.holds i _ hi
 have done:n=0→St w0 X w (M.set i (.arr g T (bv (src++l.drop n)))):=fun h0=>by
   subst h0
   have:src=[]:=List.eq_nil_of_length_eq_zero hl
   subst this
   rw [List.nil_append,List.drop_zero]
   exact h.upd hi (Chg.refl _ _) hg (fun k hk=>.inl hk)
 rcases hr.cells with h0 | ⟨b,o,rfl,hrg⟩
 · have h0':n=0:=by rw [←hl];simpa [bv] using congrArg List.length h0
   refine ⟨w,?_,done h0'⟩
   subst h0'
   exact run_copy_none w _ _ _ 5 _ _ _ _ _ _ bS hinf (by simp)
 · have hr':=run_copy_row (P:=Tryz.prog) w 26 26 3 5 g 0 d d ⟨b,o,none⟩ n c (bv l).toArray T (bv src) bS hinf hg (by rw [bv_length,hl];exact (Nat.min_eq_left hn).symm) (fun j v hj=>by rw [Addr.add_mid];exact hrg j v hj) (by simp;omega) (bv_one _)
   have e:((bv l).toArray.toList.take 0++bv src++(bv l).toArray.toList.drop (0+(bv src).length)).toArray=(bv (src++l.drop n)).toArray:=by
     simp [bv_drop,hl]
   rw [e] at hr'
   refine ⟨_,by rw [hr',bv_length,hl];rfl,h.upd hi (w':=w.setRow g _) ⟨rfl,rfl,rfl,by simp,fun k _ hk=>setRow_other w g k _ (fun e=>hk (by simp [Res.fp,e]))⟩ (setRow_heap w g _ _ T _ hg) (by simp [Res.fp])⟩

theorem xorc_val (b c:UInt8):bxor .u8 (b.toNat:Int) (c.toNat:Int)=((b^^^c).toNat:Int):=by
 rw [bxor_nat rfl (by have:=b.toNat_lt;simpa [kmod,IntKind.bits] using this) (by have:=c.toNat_lt;simpa [kmod,IntKind.bits] using this),UInt8.toNat_xor]

def kdL (g:Nat) (o:List UInt8):List Value:=.pointer (some ⟨g,0,none⟩)::bv o

def ipad (key:List UInt8):List UInt8:=(macK key).map (· ^^^0x36)
def opad (key:List UInt8):List UInt8:=(macK key).map (· ^^^0x5c)
theorem ipad_len (key:List UInt8):(ipad key).length=64:=by rw [ipad,List.length_map];exact macK_len key
theorem opad_len (key:List UInt8):(opad key).length=64:=by rw [opad,List.length_map];exact macK_len key
def kM (gk g:Nat) (key m:List UInt8) (a:Option Addr) (c:Nat):List Res:=.arr gk 424 (kdL g (opad key))::hM g 465 (ipad key++m) a c
theorem macF_pads (key m:List UInt8):macF key m=shaF (opad key++shaF (ipad key++m)):=rfl

theorem built_keyed:Tryz.prog.built 424=fun parts=>Instr.fill (fun i=>(#[(0,1),(1,64)]:Array (Nat×Nat))[i]?) (.pointer none::bv (List.replicate 64 0)).toArray parts:=by kernel_rfl
theorem keyed_build (g:Nat) (w:World):(Instr.build 424 #[(0,.pointer (some ⟨g,0,none⟩))]).run Tryz.prog w=.ok (.agg (kdL g (List.replicate 64 0)).toArray) w:=by
 apply run_build
 rw [built_keyed]
 show Instr.fill _ _ [(0,.pointer (some ⟨g,0,none⟩))]=_
 rw [fill_step (off:=0) (sz:=1) rfl (by simp [Value.cells]) (by simp)]
 simp [Instr.fill,Value.cells,kdL]

theorem pA (w:World):(isAgg 421).run Tryz.prog w=.ok false w:=Tryz.isAgg421 w

theorem kWrite_spec {w0 w:World} {X:List Nat} {M:List Res} (gk g:Nat) (key m:List UInt8) (a:Option Addr) (c:Nat) (a1:Option Addr) (n1 c1:Nat) (vs:List Value) (ls:List (List UInt8)) (hK:KTab w0) (hX:6∉X) (hS:St w0 X w (M++kM gk g key m a c))
   (hp:PartsK (fpsL (hM g 465 (ipad key++m) a c)) w a1 n1 c1 vs ls) (hb:m.length+ls.flatten.length≤140737488340000) (hn:n1≤4611686018427387904):
   Calls Tryz.prog 270 #[.pointer (some ⟨gk,0,none⟩),.slice a1 n1 c1] w fun e w'=>e=.returned (.tuple #[])∧∃a' c',St w0 X w' (M++kM gk g key (m++ls.flatten) a' c')∧Chg (fpsL (hM g 465 (ipad key++m) a c)) w w':=by
 have hS':St w0 X w ((M++ [.arr gk 424 (kdL g (opad key))])++hM g 465 (ipad key++m) a c):=by rw [List.append_assoc];exact hS
 have hN:=hS.sub (List.sublist_append_right M _)
 have hip:=ipad_len key
 apply sha_Keyed_Write_vc
 refine ⟨g,0,hN.ldL (i:=0) (o:=0) rfl (pA _) rfl rfl,(hWrite_spec g _ (ipad key++m) a c a1 n1 c1 vs ls hK hX hS' hp (by rw [List.length_append,hip];omega) hn).mono ?_⟩
 rintro e w' ⟨rfl,a',c',h',hc'⟩
 refine ⟨rfl,rfl,a',c',?_,hc'⟩
 rw [List.append_assoc,List.append_assoc] at h'
 exact h'

theorem Sx.St.rdAt1 {w0 w:World} {X:List Nat} {M:List Res} (h:St w0 X w M) {i g T:Nat} {v:Value} {l:List UInt8} (hi:M[i]?=some (.arr g T (v::bv l))):RdB w (some ⟨g,1,none⟩) l.length l.length l:=
 ⟨.inr ⟨g,1,rfl,fun j u hj=>by
   have:=h.cellsA hi (j+1) u (by simpa using hj)
   rw [show 1+j=0+(j+1) by omega];exact this⟩,by simp,Nat.le_refl _,by simp⟩

theorem row2_one {w:World} {a:Option Addr} {n c:Nat} {l:List UInt8} (h:RdB w a n c l):Row2 w [.slice a n c] [l]:=by
 refine ⟨rfl,fun i hi=>?_⟩
 have:i=0:=by simpa using hi
 subst this
 exact ⟨a,n,c,rfl,h⟩
theorem row2_two {w:World} {a:Option Addr} {n c:Nat} {l:List UInt8} {a2:Option Addr} {n2 c2:Nat} {l2:List UInt8} (h:RdB w a n c l) (h2:RdB w a2 n2 c2 l2):Row2 w [.slice a n c,.slice a2 n2 c2] [l,l2]:=by
 refine ⟨rfl,fun i hi=>?_⟩
 rcases i with _ | _ | i
 · exact ⟨a,n,c,rfl,h⟩
 · exact ⟨a2,n2,c2,rfl,h2⟩
 · simp only [List.length_cons,List.length_nil] at hi;omega

theorem kSum_spec {w0 w:World} {X:List Nat} {M:List Res} (gk g:Nat) (key m:List UInt8) (a:Option Addr) (c:Nat) (hK:KTab w) (hS:St w0 X w (M++kM gk g key m a c)) (hb:m.length≤70368744170000):
   Calls Tryz.prog 271 #[.pointer (some ⟨gk,0,none⟩)] w fun e w'=>e=.returned (.agg (bv (macF key m)).toArray)∧Chg [] w w':=by
 have hN:=(hS.sub (List.sublist_append_right M _)).self
 have hip:=ipad_len key
 apply sha_Keyed_Sum_vc
 obtain ⟨g1,w1,r1,h1⟩:=(St.start w).zeroA d32Z
 have hN1:=hN.same h1.chg
 have hK1:=hK.keep0 h1.chg
 refine ⟨_,_,r1,g,0,hN1.ldL (i:=0) (o:=0) rfl (pA _) rfl rfl,(hSum_spec (M:=[_]) g _ _ a c hK1 hN1 (by rw [List.length_append,hip];omega)).mono ?_⟩
 rintro e w2 ⟨rfl,hc2⟩
 have h2:=h1.same hc2
 obtain ⟨g3,w3,r3,h3⟩:=h2.zeroA d32Z
 obtain ⟨w4,r4,h4⟩:=h3.stA (i:=1) (v:=bv (shaF (ipad key++m))) rfl (d32S _) (by simp) (by simp) (bv_one _)
 have h4d:=h4.drew
 have hop:=opad_len key
 obtain ⟨g5,w5,r5,h5⟩:=h4d.lit bbT [.slice (some ⟨gk,1,none⟩) 64 64,.slice (some ⟨g3,0,none⟩) 32 32] (by simp [Value.oneCell']) (by simp)
 have hN5:=hN.same h5.chg
 have q1:=hN5.rdAt1 (i:=0) rfl
 rw [hop] at q1
 have q2:RdB w5 (some ⟨g3,0,none⟩) 32 32 (shaF (ipad key++m)):=h5.rdA (i:=1) rfl (by simp)
 refine ⟨_,rfl,g3,w3,r3,w4,r4,by omega,by omega,by omega,by omega,_,_,_,_,r5,(shaSum_spec _ 2 2 _ [opad key,shaF (ipad key++m)] w5 (hK.keep0 h5.chg) (h5.rd (i:=2) rfl) (row2_two q1 q2) (by simp [hop]) (by decide)).mono ?_⟩
 rintro e w6 ⟨rfl,hc6⟩
 have hm:shaF [opad key,shaF (ipad key++m)].flatten=macF key m:=by rw [macF_pads];simp
 rw [hm]
 have h6:=h5.same hc6
 obtain ⟨w7,r7,h7⟩:=h6.stA (i:=0) (v:=bv (macF key m)) rfl (d32S _) (by simp) (by simp) (bv_one _)
 exact ⟨_,rfl,w7,r7,_,h7.ldVarA (i:=0) (l:=bv (macF key m)) rfl (d32A _) (d32S _) (by simp),rfl,h7.chg⟩

theorem newMac_spec (a:Option Addr) (n c:Nat) (key:List UInt8) (w:World) (hK:KTab w) (hr:RdB w a n c key) (hb:n≤70368744170000):
   Calls Tryz.prog 269 #[.slice a n c] w fun e w'=>∃gk g a' c',e=.returned (.pointer (some ⟨gk,0,none⟩))∧St w [] w' (kM gk g key [] a' c'):=by
 have hl:=hr.lenB
 have hle:=hr.le
 apply sha_NewMac_vc
 obtain ⟨g1,w1,r1,h1⟩:=(St.start w).zeroA o64Z
 refine ⟨_,_,r1,fun w'=>St w [] w' [.arr g1 368 (bv (macK key))],⟨fun h=>?_,fun h=>?_⟩,?_⟩
 · have hn:64<key.length:=by simp at h;omega
   obtain ⟨g2,w2,r2,h2⟩:=h1.lit bbT [.slice a n c] (by simp [Value.oneCell']) (by simp)
   refine ⟨_,_,_,_,r2,(shaSum_spec _ 1 1 _ [key] w2 (hK.keep0 h2.chg) (h2.rd (i:=1) rfl) (row2_one (h2.rd1 hr)) (by simp;omega) (by decide)).mono ?_⟩
   rintro e w3 ⟨rfl,hc3⟩
   have hk1:shaF [key].flatten=shaF key:=by simp
   rw [hk1]
   have h3:=h2.same hc3
   obtain ⟨g4,w4,r4,h4⟩:=h3.zeroA d32Z
   obtain ⟨w5,r5,h5⟩:=h4.stA (i:=2) (v:=bv (shaF key)) rfl (d32S _) (by simp) (by simp) (bv_one _)
   have h5d:=h5.drew
   obtain ⟨w6,r6,h6⟩:=h5d.copyB (i:=0) (d:=64) (n:=32) (c:=32) (a:=some ⟨g4,0,none⟩) (src:=shaF key) rfl (by simp) (h5d.rdA (i:=2) rfl (by simp)) (by omega)
   refine ⟨_,rfl,g4,w4,r4,w5,r5,by omega,by omega,by omega,by omega,_,w6,r6,?_⟩
   have hmk:macK key=shaF key++(List.replicate 64 0).drop 32:=by
     simp only [macK,if_pos hn,shaF_len]
     rfl
   rw [hmk]
   exact h6.sub (List.Sublist.cons_cons _ (List.nil_sublist _))
 · have hn:¬64<key.length:=by simp at h;omega
   obtain ⟨w6,r6,h6⟩:=h1.copyB (i:=0) (d:=64) (n:=n) (c:=c) (a:=a) (src:=key) rfl (by simp) (h1.rd1 hr) (by omega)
   refine ⟨by omega,by omega,_,w6,r6,?_⟩
   have hmk:macK key=key++(List.replicate 64 0).drop n:=by
     simp only [macK,if_neg hn]
     rw [List.drop_replicate,hl]
   rw [hmk]
   exact h6
 rintro w8 h8
 obtain ⟨K,hKk⟩:∃K,macK key=K:=⟨_,rfl⟩
 have hKl:K.length=64:=by rw [←hKk];exact macK_len key
 rw [hKk] at h8
 refine (shaNew_spec w8).mono ?_
 rintro e w9 ⟨g,rfl,hN9⟩
 have h9:St w [] w9 ([.arr g1 368 (bv K)]++hM g 465 [] none 0):=by
   refine St.callPart (N:=[]) (w:=w8) (by simpa using h8) ?_
   simpa [fpsL] using hN9
 obtain ⟨gk,w10,r10,h10⟩:=h9.boxA (P:=Tryz.prog) 424 (kdL g (List.replicate 64 0))
 refine ⟨_,_,rfl,_,keyed_build g w9,gk,w10,r10,_,h10.ldA (i:=0) (l:=bv K) rfl (o64A _) (o64S _) (by simp [hKl]),?_⟩
 refine ⟨fun x w'=>∃i:Nat,x=(i:Int)∧i≤64∧St w [] w' ([.arr g1 368 (bv (mixG (K.map (· ^^^0x36)) K i))]++hM g 465 [] none 0++ [.arr gk 424 (kdL g (mixG (K.map (· ^^^0x5c)) (List.replicate 64 0) i))]),fun x _=>64-x.toNat,
   ⟨0,rfl,by omega,by rw [mixG_zero,mixG_zero];exact h10⟩,?_⟩
 rintro x w11 ⟨i,rfl,hi,h11⟩
 have hm1:(mixG (K.map (· ^^^0x36)) K i).length=64:=by rw [mixG_len (by simp) (by omega)];exact hKl
 have hm2:(mixG (K.map (· ^^^0x5c)) (List.replicate 64 (0:UInt8)) i).length=64:=by rw [mixG_len (by simp [hKl]) (by simp;omega)];simp
 refine ⟨fun h=>?_,fun h=>?_⟩
 · have hi':i<64:=by simp at h;omega
   have hb5:(K.map (· ^^^0x5c))[i]?=some (K.getD i 0^^^0x5c):=by simp [List.getD,show i<K.length by omega]
   have hb3:(K.map (· ^^^0x36))[i]?=some (K.getD i 0^^^0x36):=by simp [List.getD,show i<K.length by omega]
   have x5:bxor .u8 ((K.getD i 0).toNat:Int) 92=((K.getD i 0^^^0x5c).toNat:Int):=xorc_val _ 0x5c
   have x3:bxor .u8 ((K.getD i 0).toNat:Int) 54=((K.getD i 0^^^0x36).toNat:Int):=xorc_val _ 0x36
   obtain ⟨w12,r12,h12⟩:=h11.stL (i:=3) (o:=1+i) (off:=1+Int.toNat (i:Int)*1) (v:=.int .u8 ((K.getD i 0^^^0x5c).toNat:Int)) rfl (sB1 _) (by omega) (by rw [kdL,List.length_cons,bv_length,hm2];omega) rfl
   have hset:(kdL g (mixG (K.map (· ^^^0x5c)) (List.replicate 64 0) i)).set (1+i) (.int .u8 ((K.getD i 0^^^0x5c).toNat:Int))=kdL g (mixG (K.map (· ^^^0x5c)) (List.replicate 64 0) (i+1)):=by
     rw [kdL,Nat.add_comm 1 i,List.set_cons_succ,bv_set,mixG_set (by simp [hKl]) hb5];rfl
   rw [hset] at h12
   have h12':St w [] w12 ([.arr g1 368 (bv (mixG (K.map (· ^^^0x36)) K i))]++hM g 465 [] none 0++ [.arr gk 424 (kdL g (mixG (K.map (· ^^^0x5c)) (List.replicate 64 0) (i+1)))]):=h12
   obtain ⟨w13,r13,h13⟩:=h12'.stB (i:=0) (o:=i) (off:=0+Int.toNat (i:Int)*1) (b:=K.getD i 0^^^0x36) rfl (sB1 _) (by omega) (by omega)
   rw [mixG_set (by simp) hb3] at h13
   refine ⟨_,ixArr (cs:=bv K) Tryz.underlying368 (sB1 _) (bA _) hi' (bv_getD (by omega)),by omega,by omega,w12,by rw [x5];exact r12,by omega,by omega,w13,by rw [x3];exact r13,⟨i+1,wrap_succ hi' (by omega),by omega,h13⟩,mu_succ hi' (by omega)⟩
 · have hi':i=64:=by simp at h;omega
   have f1:mixG (K.map (· ^^^0x36)) K i=ipad key:=by
     have:=mixG_all (x:=K.map (· ^^^0x36)) (l:=K) (by simp)
     rw [hKl] at this;rw [hi',this,ipad,hKk]
   have f2:mixG (K.map (· ^^^0x5c)) (List.replicate 64 (0:UInt8)) i=opad key:=by
     have:=mixG_all (x:=K.map (· ^^^0x5c)) (l:=List.replicate 64 (0:UInt8)) (by simp [hKl])
     rw [List.length_replicate] at this;rw [hi',this,opad,hKk]
   rw [f1,f2] at h11
   clear f1 f2 hm1 hm2 h hi hi'
   have hip:=ipad_len key
   obtain ⟨g14,w14,r14,h14⟩:=h11.lit bbT [.slice (some ⟨g1,0,none⟩) 64 64] (by simp [Value.oneCell']) (by simp)
   have hP:List.Perm ([Res.arr g1 368 (bv (ipad key))]++hM g 465 [] none 0++ [Res.arr gk 424 (kdL g (opad key))]++ [Res.row 26 1 (.slice (some ⟨g14,0,none⟩) 1 1) 1 [.slice (some ⟨g1,0,none⟩) 64 64]])
       (([Res.row 26 1 (.slice (some ⟨g14,0,none⟩) 1 1) 1 [.slice (some ⟨g1,0,none⟩) 64 64],Res.arr g1 368 (bv (ipad key))]++ [Res.arr gk 424 (kdL g (opad key))])++hM g 465 [] none 0):=by
     refine List.perm_append_comm.trans ?_
     refine List.Perm.cons _ ?_
     refine List.Perm.cons _ ?_
     exact List.perm_append_comm
   have h14':=h14.perm hP
   have hkp:∀w',Chg (fpsL (hM g 465 [] none 0)) w14 w'→Rd w' (some ⟨g14,0,none⟩) 1 1 1 [.slice (some ⟨g1,0,none⟩) 64 64]∧RdB w' (some ⟨g1,0,none⟩) 64 64 (ipad key):=fun w' hc=>by
     have q1:Res.holds w' (Res.row 26 1 (.slice (some ⟨g14,0,none⟩) 1 1) 1 [.slice (some ⟨g1,0,none⟩) 64 64]):=h14'.keptPart (by simp) hc
     have q2:Res.holds w' (Res.arr g1 368 (bv (ipad key))):=h14'.keptPart (by simp) hc
     exact ⟨ownsRow_rd q1,(St.ofBlk (o:=.cells (bv (ipad key)).toArray 368) q2).rdA (i:=0) rfl (by simp [hip])⟩
   -- the inner pad is the first that is written
   refine ⟨by omega,by omega,_,_,_,_,r14,?_⟩
   apply sha_Keyed_Write_vc
   have hNk:=h14'.sub (List.sublist_append_left _ _)
   refine ⟨g,0,hNk.ldL (i:=2) (o:=0) rfl (pA _) rfl rfl,(hWrite_spec g _ [] none 0 _ 1 1 _ [ipad key] hK (by simp) h14' ⟨fun w' hc=>(hkp w' hc).1,fun w' hc=>row2_one (hkp w' hc).2⟩ (by simp [hip]) (by decide)).mono ?_⟩
   rintro e w15 ⟨rfl,a15,c15,h15,_⟩
   have e1: []++ [ipad key].flatten=ipad key++ []:=by simp
   rw [e1,List.append_assoc] at h15
   exact ⟨rfl,rfl,gk,g,a15,c15,rfl,h15.sub (List.sublist_append_right _ _)⟩

theorem mac_spec (a:Option Addr) (n c:Nat) (key:List UInt8) (a1:Option Addr) (n1 c1:Nat) (vs:List Value) (ls:List (List UInt8)) (w:World) (hK:KTab w) (hr:RdB w a n c key) (hb:n≤70368744170000) (hr1:Rd w a1 n1 c1 1 vs) (h2:Row2 w vs ls) (hb1:ls.flatten.length≤70368744170000) (hn1:n1≤4611686018427387904):
   Calls Tryz.prog 198 #[.slice a n c,.slice a1 n1 c1] w fun e w'=>e=.returned (.agg (bv (macF key ls.flatten)).toArray)∧Chg [] w w':=by
 apply sha_Mac_vc
 obtain ⟨g1,w1,r1,h1⟩:=(St.start w).zeroA d32Z
 refine ⟨_,_,r1,(newMac_spec a n c key w1 (hK.keep0 h1.chg) (h1.rd1 hr) hb).mono ?_⟩
 rintro e w2 ⟨gk,g,a2,c2,rfl,hN2⟩
 have h2':St w [] w2 ([.arr g1 39 (bv (List.replicate 32 0))]++kM gk g key [] a2 c2):=by
   refine St.callPart (N:=[]) (w:=w1) (by simpa using h1) ?_
   simpa [fpsL] using hN2
 have hNh:St w [] w2 (hM g 465 (ipad key++ []) a2 c2):=h2'.sub ((List.sublist_append_right [_,_] _))
 refine ⟨gk,0,rfl,(kWrite_spec gk g key [] a2 c2 a1 n1 c1 vs ls hK (by simp) h2' (partsK_old hNh hr1 h2) (by simp only [List.length_nil];omega) hn1).mono ?_⟩
 rintro e w3 ⟨rfl,a3,c3,h3,_⟩
 rw [List.nil_append] at h3
 refine ⟨rfl,(kSum_spec gk g key _ a3 c3 (hK.keep0 h3.chg) h3 hb1).mono ?_⟩
 rintro e w4 ⟨rfl,hc4⟩
 have h4:=h3.same hc4
 obtain ⟨w5,r5,h5⟩:=h4.stA (i:=0) (v:=bv (macF key ls.flatten)) rfl (d32S _) (by simp) (by simp) (bv_one _)
 exact ⟨_,rfl,w5,r5,_,h5.ldVarA (i:=0) (l:=bv (macF key ls.flatten)) rfl (d32A _) (d32S _) (by simp),rfl,h5.chg⟩

end Go.Proofs.YtpmhjnhgpplmnaaGreatDoor
end
