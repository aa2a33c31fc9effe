/- The proof of CatalogFormsCardSaid, part 3: what it rests on (conditions: those that each theorem names). -/
import Derived.Test.YtpmhjnhgpplmnaaGreatDoorU2
import Derived.Test.YtpmhjnhgpplmnaaGreatDoorRows
import Derived.Lib.ConvBytes
section
namespace Go.Proofs.YtpmhjnhgpplmnaaGreatDoor
open Go Go.Proofs.YtpmhjnhgpplmnaaGreatDoor.Sx

set_option maxRecDepth 100000
theorem amphoraref02_turn_vc (a0:Int) (a1:Int) (w:World) (R:Ending→World→Prop) (h:0≤a1∧(0≤(IntKind.wrap .u64 ((32:Int)-a1))∧(R (.returned (.int .u32 (bor .u32 (shrI .u32 a0 a1) (shlI .u32 a0 (IntKind.wrap .u64 ((32:Int)-a1)))))) w))):Calls Tryz.prog 297 #[(.int .u32 a0),(.int .u64 a1)] w R:=calls_of_ev2 (tc:=.sq [.rg 1,.reg (.pp 2 (.op .sc (.pp 3 (.op .sc (.pp 2 .nil)))))] .leaf) Tryz.func297 (by kernel_rfl) (by kernel_rfl) h

theorem amphoraref02_filled_vc (a0a:Option Addr) (a0n:Nat) (a0c:Nat) (w:World) (R:Ending→World→Prop) (h:∃t6a t6n t6c w1,(Instr.buildSlice 26 0 #[]).run Tryz.prog w=.ok (.slice t6a t6n t6c) w1∧(∃t8a t8n t8c w2,(Builtin.append_ #[26,26] 26 #[(.slice t6a t6n t6c),(.slice a0a a0n a0c)]).run Tryz.prog w1=.ok (.slice t8a t8n t8c) w2∧(∃t10a t10n t10c w3,(Instr.buildSlice 26 1 #[(0,(.int .u8 128))]).run Tryz.prog w2=.ok (.slice t10a t10n t10c) w3∧(∃t11a t11n t11c w4,(Builtin.append_ #[26,26] 26 #[(.slice t8a t8n t8c),(.slice t10a t10n t10c)]).run Tryz.prog w3=.ok (.slice t11a t11n t11c) w4∧(∃(I:Option Addr→Nat→Nat→World→Prop) (μ:Option Addr→Nat→Nat→World→Nat),I t11a t11n t11c w4∧(∀x3a x3n x3c,∀w5,I x3a x3n x3c w5→((((Int.tmod (x3n:Int) (64:Int)) != (56:Int))=true→(∃t17a t17n t17c w6,(Instr.buildSlice 26 1 #[(0,(.int .u8 0))]).run Tryz.prog w5=.ok (.slice t17a t17n t17c) w6∧(∃t18a t18n t18c w7,(Builtin.append_ #[26,26] 26 #[(.slice x3a x3n x3c),(.slice t17a t17n t17c)]).run Tryz.prog w6=.ok (.slice t18a t18n t18c) w7∧(I t18a t18n t18c w7∧μ t18a t18n t18c w7<μ x3a x3n x3c w5))))∧(((Int.tmod (x3n:Int) (64:Int)) != (56:Int))=false→(∃(I_1:Option Addr→Nat→Nat→Int→World→Prop) (μ_1:Option Addr→Nat→Nat→Int→World→Nat),I_1 x3a x3n x3c 0 w5∧(∀x3a_1 x3n_1 x3c_1 x5,∀w8,I_1 x3a_1 x3n_1 x3c_1 x5 w8→((decide (x5<(8:Int))=true→(0≤(IntKind.wrap .u64 ((56:Int)- (IntKind.wrap .u64 ((8:Int)*(IntKind.wrap .u64 x5)))))∧(∃t35a t35n t35c w9,(Instr.buildSlice 26 1 #[(0,(.int .u8 (IntKind.wrap .u8 (shrI .u64 (IntKind.wrap .u64 ((IntKind.wrap .u64 (a0n:Int))*(8:Int))) (IntKind.wrap .u64 ((56:Int)- (IntKind.wrap .u64 ((8:Int)*(IntKind.wrap .u64 x5)))))))))]).run Tryz.prog w8=.ok (.slice t35a t35n t35c) w9∧(∃t36a t36n t36c w10,(Builtin.append_ #[26,26] 26 #[(.slice x3a_1 x3n_1 x3c_1),(.slice t35a t35n t35c)]).run Tryz.prog w9=.ok (.slice t36a t36n t36c) w10∧(I_1 t36a t36n t36c (IntKind.wrap .i64 (x5+1)) w10∧μ_1 t36a t36n t36c (IntKind.wrap .i64 (x5+1)) w10<μ_1 x3a_1 x3n_1 x3c_1 x5 w8)))))∧(decide (x5<(8:Int))=false→(R (.returned (.slice x3a_1 x3n_1 x3c_1)) w8))))))))))))):Calls Tryz.prog 296 #[(.slice a0a a0n a0c)] w R:=calls_of_ev2 (tc:=.sq [.rg 1,.reg (.op (.r .slice) (.op .p (.op (.r .slice) (.op .p .nil)))),.reg (.op .p (.op (.r .slice) (.op (.r .slice) (.op .p .nil)))),.blk (.loop (lr [(3,1),(12,7)]) [3] [.slice] (.seq (.seq (.rg 4) (.cond .leaf .leaf)) (.blk (.reg (.op .p (.op (.r .slice) (.op (.r .slice) (.op .p .nil)))))))),.rg 5,.seq (.rg 1) (.blk (.loop (lr [(3,1),(5,1),(23,14)]) [3,5] [.slice,.int .i64] (.sq [.seq (.rg 2) (.cond .leaf .leaf),.blk (.reg (.pp 6 (.op .sc (.op .p (.op (.r .slice) (.op (.r .slice) (.op .p .nil)))))))] (.rg 3)))),.rg 2] .leaf) Tryz.func296 (by kernel_rfl) (by kernel_rfl) h

theorem amphoraref02_Sum_vc (a0a:Option Addr) (a0n:Nat) (a0c:Nat) (w:World) (R:Ending→World→Prop) (h:∃g2 w1,AlQ 39 g2 w w1∧(∃t23,(Instr.build 393 #[(0,(.int .u32 1116352408)),(1,(.int .u32 1899447441)),(2,(.int .u32 3049323471)),(3,(.int .u32 3921009573)),(4,(.int .u32 961987163)),(5,(.int .u32 1508970993)),(6,(.int .u32 2453635748)),(7,(.int .u32 2870763221)),(8,(.int .u32 3624381080)),(9,(.int .u32 310598401)),(10,(.int .u32 607225278)),(11,(.int .u32 1426881987)),(12,(.int .u32 1925078388)),(13,(.int .u32 2162078206)),(14,(.int .u32 2614888103)),(15,(.int .u32 3248222580)),(16,(.int .u32 3835390401)),(17,(.int .u32 4022224774)),(18,(.int .u32 264347078)),(19,(.int .u32 604807628)),(20,(.int .u32 770255983)),(21,(.int .u32 1249150122)),(22,(.int .u32 1555081692)),(23,(.int .u32 1996064986)),(24,(.int .u32 2554220882)),(25,(.int .u32 2821834349)),(26,(.int .u32 2952996808)),(27,(.int .u32 3210313671)),(28,(.int .u32 3336571891)),(29,(.int .u32 3584528711)),(30,(.int .u32 113926993)),(31,(.int .u32 338241895)),(32,(.int .u32 666307205)),(33,(.int .u32 773529912)),(34,(.int .u32 1294757372)),(35,(.int .u32 1396182291)),(36,(.int .u32 1695183700)),(37,(.int .u32 1986661051)),(38,(.int .u32 2177026350)),(39,(.int .u32 2456956037)),(40,(.int .u32 2730485921)),(41,(.int .u32 2820302411)),(42,(.int .u32 3259730800)),(43,(.int .u32 3345764771)),(44,(.int .u32 3516065817)),(45,(.int .u32 3600352804)),(46,(.int .u32 4094571909)),(47,(.int .u32 275423344)),(48,(.int .u32 430227734)),(49,(.int .u32 506948616)),(50,(.int .u32 659060556)),(51,(.int .u32 883997877)),(52,(.int .u32 958139571)),(53,(.int .u32 1322822218)),(54,(.int .u32 1537002063)),(55,(.int .u32 1747873779)),(56,(.int .u32 1955562222)),(57,(.int .u32 2024104815)),(58,(.int .u32 2227730452)),(59,(.int .u32 2361852424)),(60,(.int .u32 2428436474)),(61,(.int .u32 2756734187)),(62,(.int .u32 3204031479)),(63,(.int .u32 3329325298))]).run Tryz.prog w1=.ok (.agg t23) w1∧(∃g3 w2,AlQ 393 g3 w1 w2∧(∃w3,StQ 393 g3 0 (.agg t23) w2 w3∧(∃(I:Option Addr→Nat→Nat→Int→World→Prop) (μ:Option Addr→Nat→Nat→Int→World→Nat),I none 0 0 0 w3∧(∀x4a x4n x4c x5,∀w4,I x4a x4n x4c x5 w4→((decide (x5<(a0n:Int))=true→(∃t33b t33o,a0a=some ⟨t33b,t33o,none⟩∧0≤x5∧x5<(a0n:Int)∧(∃t34a t34n t34c,LdQ 26 t33b (t33o+Int.toNat x5*1) (.slice t34a t34n t34c) w4∧(∃t35a t35n t35c w5,(Builtin.append_ #[26,26] 26 #[(.slice x4a x4n x4c),(.slice t34a t34n t34c)]).run Tryz.prog w4=.ok (.slice t35a t35n t35c) w5∧(I t35a t35n t35c (IntKind.wrap .i64 (x5+1)) w5∧μ t35a t35n t35c (IntKind.wrap .i64 (x5+1)) w5<μ x4a x4n x4c x5 w4)))))∧(decide (x5<(a0n:Int))=false→(Calls Tryz.prog 296 #[(.slice x4a x4n x4c)] w4 fun e37 w6=>∃t37a t37n t37c,e37=.returned (.slice t37a t37n t37c)∧(∃t38,(Instr.build 394 #[(0,(.int .u32 1779033703)),(1,(.int .u32 3144134277)),(2,(.int .u32 1013904242)),(3,(.int .u32 2773480762)),(4,(.int .u32 1359893119)),(5,(.int .u32 2600822924)),(6,(.int .u32 528734635)),(7,(.int .u32 1541459225))]).run Tryz.prog w6=.ok (.agg t38) w6∧(∃g6 w7,AlQ 394 g6 w6 w7∧(∃w8,StQ 394 g6 0 (.agg t38) w7 w8∧(∃(I_1:Int→World→Prop) (μ_1:Int→World→Nat),I_1 0 w8∧(∀x7,∀w9,I_1 x7 w9→((decide (x7<(t37n:Int))=true→(∃t45,(Instr.build 393 #[]).run Tryz.prog w9=.ok (.agg t45) w9∧(∃g8 w10,AlQ 393 g8 w9 w10∧(∃w11,StQ 393 g8 0 (.agg t45) w10 w11∧(∃(I_2:Int→World→Prop) (μ_2:Int→World→Nat),I_2 0 w11∧(∀x9,∀w12,I_2 x9 w12→((decide (x9<(64:Int))=true→((decide (x9<(16:Int))=true→(∃(I_3:Int→World→Prop) (μ_3:Int→World→Nat),I_3 0 w12∧(∀x10,∀w13,I_3 x10 w13→((decide (x10<(4:Int))=true→(∃S:World→Prop,S w13.drew∧(0≤x9∧x9<(64:Int)∧(∃t68b t68o,t37a=some ⟨t68b,t68o,none⟩∧0≤(IntKind.wrap .i64 ((IntKind.wrap .i64 (x7+(IntKind.wrap .i64 ((4:Int)*x9))))+x10))∧(IntKind.wrap .i64 ((IntKind.wrap .i64 (x7+(IntKind.wrap .i64 ((4:Int)*x9))))+x10))<(t37n:Int)∧(∃t59,(∀w',S w'→LdQ 370 g8 (0+Int.toNat x9*1) (.int .u32 t59) w')∧(∃t69,(∀w',S w'→LdQ 5 t68b (t68o+Int.toNat (IntKind.wrap .i64 ((IntKind.wrap .i64 (x7+(IntKind.wrap .i64 ((4:Int)*x9))))+x10))*1) (.int .u8 t69) w')∧(0≤x9∧x9<(64:Int)∧(∃w14,StQ 370 g8 (0+Int.toNat x9*1) (.int .u32 (bor .u32 (shlI .u32 t59 (8:Int)) (IntKind.wrap .u32 t69))) w13.drew w14∧(I_3 (IntKind.wrap .i64 (x10+1)) w14∧μ_3 (IntKind.wrap .i64 (x10+1)) w14<μ_3 x10 w13)))))))))∧(decide (x10<(4:Int))=false→(I_2 (IntKind.wrap .i64 (x9+1)) w13∧μ_2 (IntKind.wrap .i64 (x9+1)) w13<μ_2 x9 w12))))))∧(decide (x9<(16:Int))=false→(0≤(IntKind.wrap .i64 (x9- (15:Int)))∧(IntKind.wrap .i64 (x9- (15:Int)))<(64:Int)∧(∃t76,LdQ 370 g8 (0+Int.toNat (IntKind.wrap .i64 (x9- (15:Int)))*1) (.int .u32 t76) w12∧(0≤(IntKind.wrap .i64 (x9- (2:Int)))∧(IntKind.wrap .i64 (x9- (2:Int)))<(64:Int)∧(∃t80,LdQ 370 g8 (0+Int.toNat (IntKind.wrap .i64 (x9- (2:Int)))*1) (.int .u32 t80) w12∧(∃S:World→Prop,S w12.drew∧(0≤(IntKind.wrap .i64 (x9- (7:Int)))∧(IntKind.wrap .i64 (x9- (7:Int)))<(64:Int)∧(0≤(IntKind.wrap .i64 (x9- (16:Int)))∧(IntKind.wrap .i64 (x9- (16:Int)))<(64:Int)∧(∃t93,(∀w',S w'→LdQ 370 g8 (0+Int.toNat (IntKind.wrap .i64 (x9- (7:Int)))*1) (.int .u32 t93) w')∧(∃t107,(∀w',S w'→LdQ 370 g8 (0+Int.toNat (IntKind.wrap .i64 (x9- (16:Int)))*1) (.int .u32 t107) w')∧(Calls Tryz.prog 297 #[(.int .u32 t80),(.int .u64 17)] w12.drew fun e83 w15=>∃t83,e83=.returned (.int .u32 t83)∧(∃S_1:World→Prop,(∀w',S_1 w'→S w')∧S_1 w15∧(Calls Tryz.prog 297 #[(.int .u32 t80),(.int .u64 19)] w15 fun e85 w16=>∃t85,e85=.returned (.int .u32 t85)∧(∃S_2:World→Prop,(∀w',S_2 w'→S_1 w')∧S_2 w16∧(Calls Tryz.prog 297 #[(.int .u32 t76),(.int .u64 7)] w16 fun e96 w17=>∃t96,e96=.returned (.int .u32 t96)∧(∃S_3:World→Prop,(∀w',S_3 w'→S_2 w')∧S_3 w17∧(Calls Tryz.prog 297 #[(.int .u32 t76),(.int .u64 18)] w17 fun e98 w18=>∃t98,e98=.returned (.int .u32 t98)∧(∃S_4:World→Prop,(∀w',S_4 w'→S_3 w')∧S_4 w18∧(0≤x9∧x9<(64:Int)∧(∃w19,(Instr.storeAt 370 (.pointer (some ⟨g8,0+Int.toNat x9*1,none⟩)) (.int .u32 (IntKind.wrap .u32 ((IntKind.wrap .u32 ((IntKind.wrap .u32 ((bxor .u32 (bxor .u32 t83 t85) (shrI .u32 t80 (10:Int)))+t93))+(bxor .u32 (bxor .u32 t96 t98) (shrI .u32 t76 (3:Int)))))+t107)))).run Tryz.prog w18=.ok () w19∧(I_2 (IntKind.wrap .i64 (x9+1)) w19∧μ_2 (IntKind.wrap .i64 (x9+1)) w19<μ_2 x9 w12)))))))))))))))))))))))∧(decide (x9<(64:Int))=false→(∃t110,LdQ 394 g6 0 (.agg t110) w12∧(∃g13 w20,AlQ 394 g13 w12 w20∧(∃w21,StQ 394 g13 0 (.agg t110) w20 w21∧(∃(I_3:Int→World→Prop) (μ_3:Int→World→Nat),I_3 0 w21∧(∀x14,∀w22,I_3 x14 w22→((decide (x14<(64:Int))=true→(∃t116,LdQ 370 g13 4 (.int .u32 t116) w22∧(∃t118,LdQ 370 g13 5 (.int .u32 t118) w22∧(∃t121,LdQ 370 g13 4 (.int .u32 t121) w22∧(∃t124,LdQ 370 g13 6 (.int .u32 t124) w22∧(∃t128,LdQ 370 g13 0 (.int .u32 t128) w22∧(∃t130,LdQ 370 g13 1 (.int .u32 t130) w22∧(∃t133,LdQ 370 g13 0 (.int .u32 t133) w22∧(∃t135,LdQ 370 g13 2 (.int .u32 t135) w22∧(∃t139,LdQ 370 g13 1 (.int .u32 t139) w22∧(∃t141,LdQ 370 g13 2 (.int .u32 t141) w22∧(∃S:World→Prop,S w22.drew∧(0≤x14∧x14<(64:Int)∧(0≤x14∧x14<(64:Int)∧(∃t145,(∀w',S w'→LdQ 370 g13 7 (.int .u32 t145) w')∧(∃t147,(∀w',S w'→LdQ 370 g13 4 (.int .u32 t147) w')∧(∃t150,(∀w',S w'→LdQ 370 g13 4 (.int .u32 t150) w')∧(∃t154,(∀w',S w'→LdQ 370 g13 4 (.int .u32 t154) w')∧(∃t162,(∀w',S w'→LdQ 370 g3 (0+Int.toNat x14*1) (.int .u32 t162) w')∧(∃t166,(∀w',S w'→LdQ 370 g8 (0+Int.toNat x14*1) (.int .u32 t166) w')∧(Calls Tryz.prog 297 #[(.int .u32 t147),(.int .u64 6)] w22.drew fun e148 w23=>∃t148,e148=.returned (.int .u32 t148)∧(∃S_1:World→Prop,(∀w',S_1 w'→S w')∧S_1 w23∧(Calls Tryz.prog 297 #[(.int .u32 t150),(.int .u64 11)] w23 fun e151 w24=>∃t151,e151=.returned (.int .u32 t151)∧(∃S_2:World→Prop,(∀w',S_2 w'→S_1 w')∧S_2 w24∧(Calls Tryz.prog 297 #[(.int .u32 t154),(.int .u64 25)] w24 fun e155 w25=>∃t155,e155=.returned (.int .u32 t155)∧(∃S_3:World→Prop,(∀w',S_3 w'→S_2 w')∧S_3 w25∧(∃S_4:World→Prop,S_4 w25.drew∧(∃t169,(∀w',S_4 w'→LdQ 370 g13 0 (.int .u32 t169) w')∧(∃t172,(∀w',S_4 w'→LdQ 370 g13 0 (.int .u32 t172) w')∧(∃t176,(∀w',S_4 w'→LdQ 370 g13 0 (.int .u32 t176) w')∧(Calls Tryz.prog 297 #[(.int .u32 t169),(.int .u64 2)] w25.drew fun e170 w26=>∃t170,e170=.returned (.int .u32 t170)∧(∃S_5:World→Prop,(∀w',S_5 w'→S_4 w')∧S_5 w26∧(Calls Tryz.prog 297 #[(.int .u32 t172),(.int .u64 13)] w26 fun e173 w27=>∃t173,e173=.returned (.int .u32 t173)∧(∃S_6:World→Prop,(∀w',S_6 w'→S_5 w')∧S_6 w27∧(Calls Tryz.prog 297 #[(.int .u32 t176),(.int .u64 22)] w27 fun e177 w28=>∃t177,e177=.returned (.int .u32 t177)∧(∃S_7:World→Prop,(∀w',S_7 w'→S_6 w')∧S_7 w28∧(∃(I_4:Int→World→Prop) (μ_4:Int→World→Nat),I_4 7 w28∧(∀x19,∀w29,I_4 x19 w29→((decide (x19>(0:Int))=true→(0≤(IntKind.wrap .i64 (x19- (1:Int)))∧(IntKind.wrap .i64 (x19- (1:Int)))<(8:Int)∧(∃t189,LdQ 370 g13 (0+Int.toNat (IntKind.wrap .i64 (x19- (1:Int)))*1) (.int .u32 t189) w29∧(0≤x19∧x19<(8:Int)∧(∃w30,StQ 370 g13 (0+Int.toNat x19*1) (.int .u32 t189) w29 w30∧(I_4 (IntKind.wrap .i64 (x19- (1:Int))) w30∧μ_4 (IntKind.wrap .i64 (x19- (1:Int))) w30<μ_4 x19 w29))))))∧(decide (x19>(0:Int))=false→(∃t192,LdQ 370 g13 4 (.int .u32 t192) w29∧(∃w31,(Instr.storeAt 370 (.pointer (some ⟨g13,4,none⟩)) (.int .u32 (IntKind.wrap .u32 (t192+(IntKind.wrap .u32 ((IntKind.wrap .u32 ((IntKind.wrap .u32 ((IntKind.wrap .u32 (t145+(bxor .u32 (bxor .u32 t148 t151) t155)))+(bxor .u32 (band .u32 t116 t118) (band .u32 (bxor .u32 ((IntKind.max .u32)) t121) t124))))+t162))+t166)))))).run Tryz.prog w29=.ok () w31∧(∃w32,(Instr.storeAt 370 (.pointer (some ⟨g13,0,none⟩)) (.int .u32 (IntKind.wrap .u32 ((IntKind.wrap .u32 ((IntKind.wrap .u32 ((IntKind.wrap .u32 ((IntKind.wrap .u32 (t145+(bxor .u32 (bxor .u32 t148 t151) t155)))+(bxor .u32 (band .u32 t116 t118) (band .u32 (bxor .u32 ((IntKind.max .u32)) t121) t124))))+t162))+t166))+(IntKind.wrap .u32 ((bxor .u32 (bxor .u32 t170 t173) t177)+(bxor .u32 (bxor .u32 (band .u32 t128 t130) (band .u32 t133 t135)) (band .u32 t139 t141)))))))).run Tryz.prog w31=.ok () w32∧(I_3 (IntKind.wrap .i64 (x14+1)) w32∧μ_3 (IntKind.wrap .i64 (x14+1)) w32<μ_3 x14 w22))))))))))))))))))))))))))))))))))))))))))))∧(decide (x14<(64:Int))=false→(∃(I_4:Int→World→Prop) (μ_4:Int→World→Nat),I_4 0 w22∧(∀x20,∀w33,I_4 x20 w33→((decide (x20<(8:Int))=true→(∃S:World→Prop,S w33.drew∧(0≤x20∧x20<(8:Int)∧(0≤x20∧x20<(8:Int)∧(∃t207,(∀w',S w'→LdQ 370 g6 (0+Int.toNat x20*1) (.int .u32 t207) w')∧(∃t210,(∀w',S w'→LdQ 370 g13 (0+Int.toNat x20*1) (.int .u32 t210) w')∧(0≤x20∧x20<(8:Int)∧(∃w34,StQ 370 g6 (0+Int.toNat x20*1) (.int .u32 (IntKind.wrap .u32 (t207+t210))) w33.drew w34∧(I_4 (IntKind.wrap .i64 (x20+1)) w34∧μ_4 (IntKind.wrap .i64 (x20+1)) w34<μ_4 x20 w33)))))))))∧(decide (x20<(8:Int))=false→(I_1 (IntKind.wrap .i64 (x7+(64:Int))) w33∧μ_1 (IntKind.wrap .i64 (x7+(64:Int))) w33<μ_1 x7 w9))))))))))))))))))))∧(decide (x7<(t37n:Int))=false→(∃t213,(Instr.build 39 #[]).run Tryz.prog w9=.ok (.agg t213) w9∧(∃g21 w35,AlQ 39 g21 w9 w35∧(∃w36,StQ 39 g21 0 (.agg t213) w35 w36∧(∃(I_2:Int→World→Prop) (μ_2:Int→World→Nat),I_2 0 w36∧(∀x22,∀w37,I_2 x22 w37→((decide (x22<(32:Int))=true→(0≤(IntKind.wrap .i64 (Int.tdiv x22 (4:Int)))∧(IntKind.wrap .i64 (Int.tdiv x22 (4:Int)))<(8:Int)∧(∃t222,LdQ 370 g6 (0+Int.toNat (IntKind.wrap .i64 (Int.tdiv x22 (4:Int)))*1) (.int .u32 t222) w37∧(0≤(IntKind.wrap .u64 ((24:Int)- (IntKind.wrap .u64 ((8:Int)*(IntKind.wrap .u64 (Int.tmod x22 (4:Int)))))))∧(0≤x22∧x22<(32:Int)∧(∃w38,(Instr.storeAt 5 (.pointer (some ⟨g21,0+Int.toNat x22*1,none⟩)) (.int .u8 (IntKind.wrap .u8 (shrI .u32 t222 (IntKind.wrap .u64 ((24:Int)- (IntKind.wrap .u64 ((8:Int)*(IntKind.wrap .u64 (Int.tmod x22 (4:Int))))))))))).run Tryz.prog w37=.ok () w38∧(I_2 (IntKind.wrap .i64 (x22+1)) w38∧μ_2 (IntKind.wrap .i64 (x22+1)) w38<μ_2 x22 w37)))))))∧(decide (x22<(32:Int))=false→(∃t231,LdQ 39 g21 0 (.agg t231) w37∧(∃w39,StQ 39 g2 0 (.agg t231) w37 w39∧(∃r2,(loadVar 39 ⟨g2,0,none⟩).run Tryz.prog w39=.ok r2 w39∧(R (.returned r2) w39))))))))))))))))))))))))))):Calls Tryz.prog 239 #[(.slice a0a a0n a0c)] w R:=calls_of_ev2 (tc:=.sq [.reg (.op .bx .nil),.reg (.op (.ld .agg) (.op .bx (.op .u .nil))),.rg 1,.seq (.rg 1) (.blk (.loop (lr [(4,2),(24,12)]) [4,5] [.slice,.int .i64] (.sq [.seq (.rg 4) (.cond .leaf .leaf),.blk (.reg (.pp 3 (.op .ix (.op (.ld .slice) (.op (.r .slice) (.op .p .nil))))))] (.rg 3)))),.reg (.op .p (.op (.cl [.slice]) (.op .p .nil))),.reg (.op (.ld .agg) (.op .bx (.op .u .nil))),.seq (.rg 1) (.blk (.loop (lr [(7,14),(39,174)]) [7] [.int .i64] (.sq [.seq (.rg 4) (.cond .leaf .leaf),.blk (.sq [.reg (.op (.ld .agg) (.op .bx (.op .u .nil))),.seq (.rg 1) (.blk (.loop (lr [(9,4),(46,64)]) [9] [.int .i64] (.sq [.seq (.rg 2) (.cond .leaf .leaf),.blk (.sq [.seq (.rg 2) (.cond (.seq (.seq (.rg 1) (.blk (.loop (lr [(10,1),(52,21)]) [10] [.int .i64] (.sq [.seq (.rg 2) (.cond .leaf .leaf),.blk (.drawS (.tks [0,1] (.tk 2 .ix (.tks (lr [(5,7)]) (.tk 12 .ix (.ts 3 (.int .u32) (.tk 4 .p (.ts 13 (.int .u8) (.tks [14,15] (.tk 16 .ix (.go 17 .u .nil)))))))))) [17])] (.rg 3))))) .leaf) .leaf),.reg (.pp 2 (.op .ix (.op (.ld (.int .u32)) (.op .p .nil)))),.reg (.pp 2 (.op .ix (.op (.ld (.int .u32)) (.op .p .nil))))] (.drawS (.tks [0,1,3,6,7,9,10] (.tk 11 .ix (.tks [14,16,19,20,23,24] (.tk 25 .ix (.ts 12 (.int .u32) (.ts 26 (.int .u32) (.go 2 (.cl [.int .u32]) (.go 4 (.cl [.int .u32]) (.tks [5,8,13] (.go 15 (.cl [.int .u32]) (.go 17 (.cl [.int .u32]) (.tks [18,21,22,27] (.tk 28 .ix (.go 29 .u .nil)))))))))))))) [29]))] (.rg 3)))),.reg (.op (.ld .agg) (.op .bx (.op .u .nil))),.seq (.rg 1) (.blk (.loop (lr [(14,6),(111,89)]) [14] [.int .i64] (.sq [.seq (.rg 2) (.cond .leaf .leaf),.blk (.sq [.reg (.op .p (.op (.ld (.int .u32)) (.op .p (.op (.ld (.int .u32)) (.pp 2 (.op (.ld (.int .u32)) (.pp 2 (.op (.ld (.int .u32)) (.pp 3 .nil))))))))),.reg (.op .p (.op (.ld (.int .u32)) (.op .p (.op (.ld (.int .u32)) (.pp 2 (.op (.ld (.int .u32)) (.op .p (.op (.ld (.int .u32)) (.pp 3 (.op (.ld (.int .u32)) (.op .p (.op (.ld (.int .u32)) (.pp 3 .nil))))))))))))),.drawS (.tks [0,2,5,9,14,16] (.tk 17 .ix (.tk 20 .p (.tk 21 .ix (.ts 1 (.int .u32) (.ts 3 (.int .u32) (.ts 6 (.int .u32) (.ts 10 (.int .u32) (.ts 18 (.int .u32) (.ts 22 (.int .u32) (.go 4 (.cl [.int .u32]) (.go 7 (.cl [.int .u32]) (.tk 8 .p (.go 11 (.cl [.int .u32]) (.tks [12,13,15,19,23,24] .nil))))))))))))))) [],.drawS (.tks [0,3,7,11] (.ts 1 (.int .u32) (.ts 4 (.int .u32) (.ts 8 (.int .u32) (.go 2 (.cl [.int .u32]) (.go 5 (.cl [.int .u32]) (.tk 6 .p (.go 9 (.cl [.int .u32]) (.tks [10,12,13] .nil))))))))) [],.seq (.rg 1) (.blk (.loop (lr [(19,1),(181,10)]) [19] [.int .i64] (.sq [.seq (.rg 2) (.cond .leaf .leaf),.blk (.reg (.pp 3 (.op .ix (.op (.ld (.int .u32)) (.op .ix (.op .u .nil))))))] (.rg 3)))),.reg (.op .p (.op (.ld (.int .u32)) (.pp 3 (.op .u .nil))))] (.reg (.pp 4 (.op .u .nil))))] (.rg 3)))),.rg 1] (.blk (.loop (lr [(20,1),(200,13)]) [20] [.int .i64] (.sq [.seq (.rg 2) (.cond .leaf .leaf),.blk (.drawS (.tks [0,1] (.tk 2 .ix (.tk 4 .p (.tk 5 .ix (.ts 3 (.int .u32) (.ts 6 (.int .u32) (.tk 7 .p (.tk 8 .ix (.go 9 .u .nil))))))))) [9])] (.rg 3)))))] (.rg 3)))),.reg (.op (.ld .agg) (.op .bx (.op .u .nil))),.seq (.rg 1) (.blk (.loop (lr [(22,1),(214,17)]) [22] [.int .i64] (.sq [.seq (.rg 2) (.cond .leaf .leaf),.blk (.reg (.pp 3 (.op .ix (.op (.ld (.int .u32)) (.pp 5 (.op .sc (.op .p (.op .ix (.op .u .nil)))))))))] (.rg 3)))),.reg (.op (.ld .agg) (.op .u .nil))] .leaf) Tryz.func239 (by kernel_rfl) (by kernel_rfl) h

theorem amphoraref02_Mac_vc (a0a:Option Addr) (a0n:Nat) (a0c:Nat) (a1a:Option Addr) (a1n:Nat) (a1c:Nat) (w:World) (R:Ending→World→Prop) (h:∃g4 w1,AlQ 39 g4 w w1∧(∃J:Option Addr→Nat→Nat→World→Prop,((decide ((a0n:Int)>(64:Int))=true→(∃t16a t16n t16c w2,(Instr.buildSlice 24 1 #[(0,(.slice a0a a0n a0c))]).run Tryz.prog w1=.ok (.slice t16a t16n t16c) w2∧(Calls Tryz.prog 239 #[(.slice t16a t16n t16c)] w2 fun e17 w3=>∃t17,e17=.returned (.agg t17)∧(∃g5 w4,AlQ 39 g5 w3 w4∧(∃w5,StQ 39 g5 0 (.agg t17) w4 w5∧(0≤(32:Int)∧(32:Int)≤(32:Int)∧(J (some ⟨g5,0,none⟩) (32) 32 w5)))))))∧(decide ((a0n:Int)>(64:Int))=false→(J a0a a0n a0c w1)))∧(∀x0a x0n x0c,∀w6,J x0a x0n x0c w6→(∃t19a t19n t19c w7,(Instr.makeSlice 26 (.int .i64 64) (.int .i64 64)).run Tryz.prog w6=.ok (.slice t19a t19n t19c) w7∧(∃t20a t20n t20c w8,(Instr.makeSlice 26 (.int .i64 64) (.int .i64 64)).run Tryz.prog w7=.ok (.slice t20a t20n t20c) w8∧(∃(I:Int→World→Prop) (μ:Int→World→Nat),I 0 w8∧(∀x8,∀w9,I x8 w9→((decide (x8<(64:Int))=true→(∃J_1:Int→World→Prop,((decide (x8<(x0n:Int))=true→(∃t31b t31o,x0a=some ⟨t31b,t31o,none⟩∧0≤x8∧x8<(x0n:Int)∧(∃t32,LdQ 5 t31b (t31o+Int.toNat x8*1) (.int .u8 t32) w9∧(J_1 t32 w9))))∧(decide (x8<(x0n:Int))=false→(J_1 0 w9)))∧(∀x9,∀w10,J_1 x9 w10→(∃t37b t37o,t19a=some ⟨t37b,t37o,none⟩∧0≤x8∧x8<(t19n:Int)∧(∃w11,StQ 5 t37b (t37o+Int.toNat x8*1) (.int .u8 (bxor .u8 x9 (54:Int))) w10 w11∧(∃t42b t42o,t20a=some ⟨t42b,t42o,none⟩∧0≤x8∧x8<(t20n:Int)∧(∃w12,StQ 5 t42b (t42o+Int.toNat x8*1) (.int .u8 (bxor .u8 x9 (92:Int))) w11 w12∧(I (IntKind.wrap .i64 (x8+1)) w12∧μ (IntKind.wrap .i64 (x8+1)) w12<μ x8 w9))))))))∧(decide (x8<(64:Int))=false→(∃(I_1:Option Addr→Nat→Nat→Int→World→Prop) (μ_1:Option Addr→Nat→Nat→Int→World→Nat),I_1 t19a t19n t19c 0 w9∧(∀x6a x6n x6c x10,∀w13,I_1 x6a x6n x6c x10 w13→((decide (x10<(a1n:Int))=true→(∃t52b t52o,a1a=some ⟨t52b,t52o,none⟩∧0≤x10∧x10<(a1n:Int)∧(∃t53a t53n t53c,LdQ 26 t52b (t52o+Int.toNat x10*1) (.slice t53a t53n t53c) w13∧(∃t54a t54n t54c w14,(Builtin.append_ #[26,26] 26 #[(.slice x6a x6n x6c),(.slice t53a t53n t53c)]).run Tryz.prog w13=.ok (.slice t54a t54n t54c) w14∧(I_1 t54a t54n t54c (IntKind.wrap .i64 (x10+1)) w14∧μ_1 t54a t54n t54c (IntKind.wrap .i64 (x10+1)) w14<μ_1 x6a x6n x6c x10 w13)))))∧(decide (x10<(a1n:Int))=false→(∃t56a t56n t56c w15,(Instr.buildSlice 24 1 #[(0,(.slice x6a x6n x6c))]).run Tryz.prog w13=.ok (.slice t56a t56n t56c) w15∧(Calls Tryz.prog 239 #[(.slice t56a t56n t56c)] w15 fun e57 w16=>∃t57,e57=.returned (.agg t57)∧(∃g11 w17,AlQ 39 g11 w16 w17∧(∃w18,StQ 39 g11 0 (.agg t57) w17 w18∧(0≤(32:Int)∧(32:Int)≤(32:Int)∧(∃t60a t60n t60c w19,(Instr.buildSlice 24 2 #[(0,(.slice t20a t20n t20c)),(1,(.slice (some ⟨g11,0,none⟩) (32) 32))]).run Tryz.prog w18=.ok (.slice t60a t60n t60c) w19∧(Calls Tryz.prog 239 #[(.slice t60a t60n t60c)] w19 fun e61 w20=>∃t61,e61=.returned (.agg t61)∧(∃w21,StQ 39 g4 0 (.agg t61) w20 w21∧(∃r4,(loadVar 39 ⟨g4,0,none⟩).run Tryz.prog w21=.ok r4 w21∧(R (.returned r4) w21))))))))))))))))))))))):Calls Tryz.prog 162 #[(.slice a0a a0n a0c),(.slice a1a a1n a1c)] w R:=calls_of_ev2 (tc:=.sq [.reg (.op .bx .nil),.seq (.rg 3) (.join [0,5,15,16,17,18] [0] [.slice] (.cond (.seq (.reg (.op .p (.op (.r .slice) (.op (.cl [.agg]) (.op .bx (.op .u .nil)))))) (.reg (.op .sl (.op .p .nil)))) .leaf)),.reg (.op (.r .slice) (.op .p .nil)),.reg (.op (.r .slice) (.op .p .nil)),.seq (.rg 1) (.blk (.loop (lr [(8,2),(21,22)]) [8] [.int .i64] (.sq [.seq (.rg 2) (.cond .leaf .leaf),.blk (.sq [.rg 1,.seq (.rg 4) (.join [9,29,30,31,32] [9] [.int .u8] (.cond (.reg (.pp 2 (.op .ix (.op (.ld (.int .u8)) (.op .p .nil))))) .leaf)),.reg (.pp 4 (.op .ix (.op .u .nil)))] (.reg (.pp 4 (.op .ix (.op .u .nil)))))] (.rg 3)))),.seq (.rg 1) (.blk (.loop (lr [(6,1),(10,1),(43,12)]) [6,10] [.slice,.int .i64] (.sq [.seq (.rg 4) (.cond .leaf .leaf),.blk (.reg (.pp 3 (.op .ix (.op (.ld .slice) (.op (.r .slice) (.op .p .nil))))))] (.rg 3)))),.reg (.op .p (.op (.r .slice) (.op (.cl [.agg]) (.op .bx (.op .u .nil))))),.reg (.op .p (.op .sl (.op (.r .slice) (.op (.cl [.agg]) (.op .u .nil)))))] .leaf) Tryz.func162 (by kernel_rfl) (by kernel_rfl) h

theorem amphoraref02_Derive_vc (a0a:Option Addr) (a0n:Nat) (a0c:Nat) (a1a:Option Addr) (a1n:Nat) (a1c:Nat) (a2a:Option Addr) (a2n:Nat) (a2c:Nat) (a3:Int) (w:World) (R:Ending→World→Prop) (h:(((decide (a3<(0:Int)))||(decide (a3>(8160:Int))))=true→(R (.returned (.tuple #[(.slice none 0 0),(.int .i64 7)])) w))∧(((decide (a3<(0:Int)))||(decide (a3>(8160:Int))))=false→(∃J:Option Addr→Nat→Nat→World→Prop,((((a0n:Int)==(0:Int))=true→(∃t24a t24n t24c w1,(Instr.makeSlice 26 (.int .i64 32) (.int .i64 32)).run Tryz.prog w=.ok (.slice t24a t24n t24c) w1∧(J t24a t24n t24c w1)))∧(((a0n:Int)==(0:Int))=false→(J a0a a0n a0c w)))∧(∀x0a x0n x0c,∀w2,J x0a x0n x0c w2→(∃t27a t27n t27c w3,(Instr.buildSlice 24 1 #[(0,(.slice a1a a1n a1c))]).run Tryz.prog w2=.ok (.slice t27a t27n t27c) w3∧(Calls Tryz.prog 162 #[(.slice x0a x0n x0c),(.slice t27a t27n t27c)] w3 fun e28 w4=>∃t28,e28=.returned (.agg t28)∧(∃g10 w5,AlQ 39 g10 w4 w5∧(∃w6,StQ 39 g10 0 (.agg t28) w5 w6∧(∃t29a t29n t29c w7,(Instr.buildSlice 26 0 #[]).run Tryz.prog w6=.ok (.slice t29a t29n t29c) w7∧(∃(I:Option Addr→Nat→Nat→Option Addr→Nat→Nat→Int→World→Prop) (μ:Option Addr→Nat→Nat→Option Addr→Nat→Nat→Int→World→Nat),I none 0 0 t29a t29n t29c 1 w7∧(∀x11a x11n x11c x12a x12n x12c x13,∀w8,I x11a x11n x11c x12a x12n x12c x13 w8→((decide ((x11n:Int)<a3)=true→(0≤(32:Int)∧(32:Int)≤(32:Int)∧(∃t41a t41n t41c w9,(Instr.buildSlice 26 1 #[(0,(.int .u8 (IntKind.wrap .u8 x13)))]).run Tryz.prog w8=.ok (.slice t41a t41n t41c) w9∧(∃t42a t42n t42c w10,(Instr.buildSlice 24 3 #[(0,(.slice x12a x12n x12c)),(1,(.slice a2a a2n a2c)),(2,(.slice t41a t41n t41c))]).run Tryz.prog w9=.ok (.slice t42a t42n t42c) w10∧(Calls Tryz.prog 162 #[(.slice (some ⟨g10,0,none⟩) (32) 32),(.slice t42a t42n t42c)] w10 fun e43 w11=>∃t43,e43=.returned (.agg t43)∧(∃g14 w12,AlQ 39 g14 w11 w12∧(∃w13,StQ 39 g14 0 (.agg t43) w12 w13∧(∃t44a t44n t44c w14,(Instr.buildSlice 26 0 #[]).run Tryz.prog w13=.ok (.slice t44a t44n t44c) w14∧(0≤(32:Int)∧(32:Int)≤(32:Int)∧(∃t46a t46n t46c w15,(Builtin.append_ #[26,26] 26 #[(.slice t44a t44n t44c),(.slice (some ⟨g14,0,none⟩) (32) 32)]).run Tryz.prog w14=.ok (.slice t46a t46n t46c) w15∧(∃t49a t49n t49c w16,(Builtin.append_ #[26,26] 26 #[(.slice x11a x11n x11c),(.slice t46a t46n t46c)]).run Tryz.prog w15=.ok (.slice t49a t49n t49c) w16∧(I t49a t49n t49c t46a t46n t46c (IntKind.wrap .i64 (x13+1)) w16∧μ t49a t49n t49c t46a t46n t46c (IntKind.wrap .i64 (x13+1)) w16<μ x11a x11n x11c x12a x12n x12c x13 w8))))))))))))∧(decide ((x11n:Int)<a3)=false→(0≤a3∧a3≤(x11c:Int)∧(R (.returned (.tuple #[(.slice x11a (Int.toNat a3) x11c),(.int .i64 0)])) w8))))))))))))))):Calls Tryz.prog 195 #[(.slice a0a a0n a0c),(.slice a1a a1n a1c),(.slice a2a a2n a2c),(.int .i64 a3)] w R:=calls_of_ev2 (tc:=.sq [.rg 2,.seq (.reg (.pp 3 (.ap 2 .nil))) (.cond (.seq (.rg 2) .leaf) .leaf),.seq (.rg 3) (.join [0,24] [0] [.slice] (.cond (.reg (.op (.r .slice) (.op .p .nil))) .leaf)),.reg (.pp 2 (.op (.r .slice) (.op (.cl [.agg]) (.op .bx (.op .u .nil))))),.rg 1,.reg (.op (.r .slice) (.op .p .nil)),.seq (.rg 1) (.blk (.loop (lr [(11,4),(30,20)]) [11,12,13] [.slice,.slice,.int .i64] (.sq [.seq (.rg 4) (.cond .leaf .leaf),.blk (.sq [.reg (.op .sl (.pp 4 (.op (.r .slice) (.op (.r .slice) (.op (.cl [.agg]) (.op .bx (.op .u .nil))))))),.reg (.op (.r .slice) (.op .sl (.op (.r .slice) (.op .p .nil))))] (.reg (.pp 2 (.op (.r .slice) (.op .p .nil)))))] (.rg 3)))),.reg (.pp 2 (.op .sl (.pp 2 .nil)))] .leaf) Tryz.func195 (by kernel_rfl) (by kernel_rfl) h

end Go.Proofs.YtpmhjnhgpplmnaaGreatDoor
end

section
namespace Go.Proofs.YtpmhjnhgpplmnaaGreatDoor
open Go Sx
set_option maxRecDepth 8000

theorem turn_spec (x n:Nat) (w:World) (hx:x<4294967296) (hn:n<32) (h0:0<n):Calls Tryz.prog 297 #[.int .u32 (x:Int),.int .u64 (n:Int)] w fun e w'=>e=.returned (.int .u32 ((rotr x n:Nat):Int))∧w'=w:=by
 apply amphoraref02_turn_vc
 have h2:IntKind.wrap .u64 ((32:Int)- (n:Int))=((32-n:Nat):Int):=by rw [wrap_u64];omega
 rw [h2]
 refine ⟨by omega,by omega,?_,rfl⟩
 rw [shl_val (show 32-n≤32 by omega),shr_val _ _ (by omega),or_val (shr_lt _ hx) (Nat.mod_lt _ (by decide)),Nat.or_comm]
 rfl

theorem filled_spec (a:Option Addr) (k c:Nat) (m:List UInt8) (w:World) (hr:RdB w a k c m) (hb:k≤70368744177664):
   Calls Tryz.prog 296 #[.slice a k c] w fun e w'=>∃a' n' c',e=.returned (.slice a' n' c')∧FreshB w w' a' n' c' (m++padL m.length):=by
 have hl:=hr.lenB
 subst hl
 obtain ⟨n,hn⟩:∃n,m.length=n:=⟨_,rfl⟩
 rw [hn] at hr hb ⊢
 apply amphoraref02_filled_vc
 obtain ⟨g1,w1,r1,h1⟩:=(St.start w).lit bT [] (by simp) (by simp)
 obtain ⟨va,vc,w2,r2,h2⟩:=h1.appendB (i:=0) (xs:=[]) rfl (h1.rd1 hr) (by simp;omega)
 simp only [List.length_nil,Nat.zero_add,List.nil_append] at r2 h2
 obtain ⟨g3,w3,vb,vd,w4,r3,r4,h4,_⟩:=h2.push1 (i:=0) (n:=n) (pre:=m) rfl (by omega) 128 (by decide)
 refine ⟨_,_,_,_,r1,_,_,_,_,r2,_,_,_,_,r3,_,_,_,_,r4,?_⟩
 have hzl:=zerosN_lt n
 refine ⟨fun xa xn xc w'=>∃z:Nat,z≤zerosN n∧xn=n+1+z∧St w [] w' [.row 5 1 (.slice xa xn xc) xn (bv (m++(0x80::List.replicate z 0)))],fun _ xn _ _=>n+1+zerosN n-xn,⟨0,by omega,rfl,h4⟩,?_⟩
 rintro xa xn xc w5 ⟨z,hz,rfl,h5⟩
 refine ⟨fun h=>?_,fun h=>?_⟩
 · rw [Int.tmod_eq_emod_of_nonneg (by omega)] at h
   have hne:(n+1+z)%64≠56:=by simp at h;omega
   have hz':z<zerosN n:=by
     rcases Nat.lt_or_ge z (zerosN n) with h1 | h1
     · exact h1
     · have:z=zerosN n:=by omega
       rw [this] at hne
       simp only [zerosN] at hne
       omega
   obtain ⟨g6,w6,vb,vd,w7,r6,r7,h7,_⟩:=h5.push1 (i:=0) (n:=n+1+z) rfl (by omega) 0 (by decide)
   refine ⟨_,_,_,_,r6,_,_,_,_,r7,⟨z+1,by omega,by omega,?_⟩,(by show n+1+zerosN n- (n+1+z+1)<n+1+zerosN n- (n+1+z);omega)⟩
   have:m++(0x80::List.replicate z 0)++ [UInt8.ofNat 0]=m++((0x80:UInt8)::List.replicate (z+1) 0):=by
     rw [List.replicate_succ'];simp
   rw [←this]
   exact h7
 · rw [Int.tmod_eq_emod_of_nonneg (by omega)] at h
   have he:(n+1+z)%64=56:=by simp at h;omega
   have hz':z=zerosN n:=by
     simp only [zerosN] at hz ⊢
     omega
   subst hz'
   refine ⟨fun xa xn xc x w'=>∃j:Nat,x=(j:Int)∧j≤8∧xn=n+1+zerosN n+j∧St w [] w' [.row 5 1 (.slice xa xn xc) xn (bv (m++(0x80::(List.replicate (zerosN n) 0++(List.range j).map (lenB n)))))],fun _ _ _ x _=>8-x.toNat,⟨0,rfl,by omega,rfl,by simpa using h5⟩,?_⟩
   rintro ya yn yc y w8 ⟨j,rfl,hj,rfl,h8⟩
   refine ⟨fun h=>?_,fun h=>?_⟩
   · have hj':j<8:=by simp at h;omega
     have e1:IntKind.wrap .u64 ((56:Int)-IntKind.wrap .u64 (8*IntKind.wrap .u64 (j:Int)))=((56-8*j:Nat):Int):=by
       simp only [wrap_u64];omega
     rw [e1,lenB_val n j hj']
     obtain ⟨g9,w9,vb,vd,w10,r9,r10,h10,_⟩:=h8.push1 (i:=0) (n:=n+1+zerosN n+j) rfl (by omega) (lenB n j).toNat (lenB n j).toNat_lt
     refine ⟨by omega,_,_,_,_,r9,_,_,_,_,r10,⟨j+1,wrap_succ hj' (by omega),by omega,by omega,?_⟩,mu_succ hj' (by omega)⟩
     have:m++(0x80::(List.replicate (zerosN n) 0++(List.range j).map (lenB n)))++ [UInt8.ofNat (lenB n j).toNat]=m++((0x80:UInt8)::(List.replicate (zerosN n) 0++(List.range (j+1)).map (lenB n))):=by
       rw [List.range_succ,List.map_append];simp
     rw [←this]
     exact h10
   · have hj':j=8:=by simp at h;omega
     subst hj'
     exact ⟨_,_,_,rfl,St.freshB (l:=m++padL n) h8 (i:=0) rfl⟩

def p4 (l:List UInt8) (o:Nat):Nat→Nat
 | 0=>0
 | j+1=>p4 l o j*256+(l.getD (o+j) 0).toNat
theorem p4_lt (l:List UInt8) (o:Nat):∀j,p4 l o j<256^j
 | 0=>by simp [p4]
 | j+1=>by
   have:=p4_lt l o j
   have hb:=(l.getD (o+j) 0).toNat_lt
   rw [p4,Nat.pow_succ];omega
theorem p4_be4 (l:List UInt8) (o:Nat):p4 l o 4=be4 l o:=by simp [p4,be4]

theorem schedK_tail (b:List UInt8):∀(k i:Nat),k≤i→i<64→(schedK b k)[i]?=some 0
 | 0,i,_,h=>by rw [schedK,List.getElem?_replicate,if_pos h]
 | k+1,i,hk,h=>by rw [schedK,List.getElem?_set_ne (by omega)];exact schedK_tail b k i (by omega) h

def shF (v:List Nat) (j:Nat):List Nat:=v.take (j+1)++(v.drop j).take (7-j)

theorem shF_7 {v:List Nat} (h:v.length=8):shF v 7=v:=by
 match v,h with
 | [_,_,_,_,_,_,_,_],_=>rfl
theorem shF_len {v:List Nat} (h:v.length=8) {j:Nat} (hj:j≤7):(shF v j).length=8:=by simp [shF];omega
theorem shF_step {v:List Nat} (h:v.length=8) {j:Nat} (h0:0<j) (hj:j≤7):(shF v j).getD (j-1) 0=v.getD (j-1) 0∧(shF v j).set j (v.getD (j-1) 0)=shF v (j-1):=by
 match v,h with
 | [_,_,_,_,_,_,_,_],_=>
   rcases j with _ | _ | _ | _ | _ | _ | _ | _ | j
   · omega
   · exact ⟨rfl,rfl⟩
   · exact ⟨rfl,rfl⟩
   · exact ⟨rfl,rfl⟩
   · exact ⟨rfl,rfl⟩
   · exact ⟨rfl,rfl⟩
   · exact ⟨rfl,rfl⟩
   · exact ⟨rfl,rfl⟩
   · omega
theorem shF_end {v:List Nat} (h:v.length=8) (x y:Nat):(shF v 0).getD 4 0=v.getD 3 0∧((shF v 0).set 4 x).set 0 y=[y,v.getD 0 0,v.getD 1 0,v.getD 2 0,x,v.getD 4 0,v.getD 5 0,v.getD 6 0]:=by
 match v,h with
 | [_,_,_,_,_,_,_,_],_=>exact ⟨rfl,rfl⟩

theorem getD_dt (l:List UInt8) (o i:Nat) (h:i<64):((l.drop o).take 64).getD i 0=l.getD (o+i) 0:=by
 simp only [List.getD,List.getElem?_take,List.getElem?_drop,if_pos h]

theorem rsum_spec (a:Option Addr) (n c:Nat) (vs:List Value) (ls:List (List UInt8)) (w:World) (hr:Rd w a n c 1 vs) (h2:Row2 w vs ls) (hb:ls.flatten.length≤70368744177664) (hn:n≤4611686018427387904):
   Calls Tryz.prog 239 #[.slice a n c] w fun e w'=>e=.returned (.agg (bv (shaF ls.flatten)).toArray)∧Chg [] w w':=by
 have hln:ls.length=n:=by have:=hr.len;have:=h2.len;omega
 have sB:∀w,(sizeOf 5).run Tryz.prog w=.ok 1 w:=fun w=>Tryz.sizeOf5 w
 have ze:∀k:Nat,0+Int.toNat (k:Int)*1=k:=fun k=>by omega
 apply amphoraref02_Sum_vc
 obtain ⟨g2,w1,r1,h1⟩:=(St.start w).zeroA d32Z
 have hbk:(Instr.build 393 (((kv .u32 kTab).zipIdx 0).map fun p=>(p.2,p.1)).toArray).run Tryz.prog w1=.ok (.agg (kv .u32 kTab).toArray) w1:=by
   have:=build_arr (P:=Tryz.prog) (w:=w1) (w64Z w1) Tryz.underlying393 (uS _) (kv .u32 kTab) (kv_one _ _) (by simp [kTab_len])
   rwa [List.drop_of_length_le (by simp [kTab_len]),List.append_nil] at this
 obtain ⟨g3,w2,r2,h2'⟩:=h1.zeroA w64Z
 obtain ⟨w3,r3,h3⟩:=h2'.stA (i:=1) (v:=kv .u32 kTab) rfl (w64S _) (by simp) (by simp [kTab_len]) (kv_one _ _)
 refine ⟨_,_,r1,_,hbk,g3,w2,r2,w3,r3,?_⟩
 have h3':St w [] w3 ([.arr g2 39 (bv (List.replicate 32 0)),.arr g3 393 (kv .u32 kTab)]++ [.row 5 1 (.slice none 0 0) 0 (bv [])]):=h3.addNil _ _
 refine ⟨fun xa xn xc x w'=>∃i:Nat,x=(i:Int)∧i≤n∧xn=(ls.take i).flatten.length∧St w [] w' ([.arr g2 39 (bv (List.replicate 32 0)),.arr g3 393 (kv .u32 kTab)]++ [.row 5 1 (.slice xa xn xc) xn (bv (ls.take i).flatten)]),fun _ _ _ x _=>n-x.toNat,⟨0,rfl,by omega,by simp,by simpa using h3'⟩,?_⟩
 rintro xa xn xc x w4 ⟨i,rfl,hi,rfl,h4⟩
 have hft:=flat_take_le ls i
 refine ⟨fun h=>?_,fun h=>?_⟩
 · have hi':i<n:=by simp at h;omega
   obtain ⟨b,o,a',n',c',ha,hv,hrd,hld⟩:=ixS hr.cells h2 (i:=i) (by omega)
   have hl':=hrd.lenB
   have hf1:=flat_take (ls:=ls) (i:=i) (by omega)
   have hf2:=flat_take_le ls (i+1)
   have hf3:=congrArg List.length hf1
   rw [List.length_append,hl'] at hf3
   obtain ⟨va,vc,w5,r5,h5⟩:=h4.appendB (i:=2) rfl (h4.rd1 hrd) (by omega)
   refine ⟨b,o,ha,by omega,by omega,_,_,_,hld w4 (hr.cells.keep0 h4.chg),_,_,_,_,r5,⟨i+1,wrap_succ hi' hn,by omega,by omega,?_⟩,mu_succ hi' hn⟩
   rw [hf1];exact h5
 have hi':i=n:=by simp at h;omega
 have hta:ls.take i=ls:=by rw [hi',←hln,List.take_length]
 rw [hta] at h4 ⊢
 clear hi' hi hft h hta h3' h3 h2' h1 hbk
 obtain ⟨msg,hmsg⟩:∃msg,ls.flatten=msg:=⟨_,rfl⟩
 rw [hmsg] at h4 hb ⊢
 refine (filled_spec _ _ _ msg w4 (h4.rd (i:=2) rfl) (by omega)).mono ?_
 rintro e w6 ⟨a6,n6,c6,rfl,hf6⟩
 have hn6:=hf6.2.1
 have h6:=hf6.add (h4.sub (List.sublist_append_left _ _))
 obtain ⟨L,hL⟩:∃L,msg++padL msg.length=L:=⟨_,rfl⟩
 have hmod:n6%64=0:=by rw [←hn6,List.length_append];exact padL_mod _
 have hLb:n6≤70368744177664+200:=by
   have:=padL_len msg.length
   have:=zerosN_lt msg.length
   rw [←hn6,List.length_append];omega
 rw [hL] at h6 hn6
 have hsha:shaF msg=digL (blocksF (n6 / 64) h0L L):=by rw [shaF,hL,hOf,hn6]
 rw [hsha]
 clear hf6 hsha hL hmsg
 have hb0:(Instr.build 394 (((kv .u32 h0L).zipIdx 0).map fun p=>(p.2,p.1)).toArray).run Tryz.prog w6=.ok (.agg (kv .u32 h0L).toArray) w6:=by
   have:=build_arr (P:=Tryz.prog) (w:=w6) (w8Z w6) Tryz.underlying394 (uS _) (kv .u32 h0L) (kv_one _ _) (by simp [h0L])
   rwa [List.drop_of_length_le (by simp [h0L]),List.append_nil] at this
 obtain ⟨g6,w7,r7,h7⟩:=h6.zeroA w8Z
 obtain ⟨w8,r8,h8⟩:=h7.stA (i:=3) (v:=kv .u32 h0L) rfl (w8S _) (by simp) (by simp [h0L]) (kv_one _ _)
 refine ⟨_,_,_,rfl,_,hb0,g6,w7,r7,w8,r8,?_⟩
 obtain ⟨M0,hM0⟩:∃M0:List Res,M0=[.arr g2 39 (bv (List.replicate 32 0)),.arr g3 393 (kv .u32 kTab),.row 5 1 (.slice a6 n6 c6) n6 (bv L)]:=⟨_,rfl⟩
 have h8':St w [] w8 (M0++ [.arr g6 394 (kv .u32 h0L)]):=by rw [hM0];exact h8
 clear h8 h7 h6 h4 r7 r8 hb0
 refine ⟨fun x w'=>∃b:Nat,x=((64*b:Nat):Int)∧64*b≤n6∧St w [] w' (M0++ [.arr g6 394 (kv .u32 (blocksF b h0L L))]),fun x _=>n6-x.toNat,⟨0,rfl,by omega,h8'⟩,?_⟩
 rintro x w9 ⟨b,rfl,hbn,h9⟩
 refine ⟨fun h=>?_,fun h=>?_⟩
 · have hbl:64*b+64≤n6:=by simp at h;omega
   clear h
   obtain ⟨H,hH⟩:∃H,blocksF b h0L L=H:=⟨_,rfl⟩
   have hHl:H.length=8:=by rw [←hH];exact blocksF_len _ _ rfl
   have hHlt:Lt32 H:=by rw [←hH];exact blocksF_lt _ _ rfl h0L_lt
   obtain ⟨B,hB⟩:∃B,(L.drop (64*b)).take 64=B:=⟨_,rfl⟩
   have hBg:∀i,i<64→B.getD i 0=L.getD (64*b+i) 0:=fun i hi=>by rw [←hB];exact getD_dt _ _ _ hi
   have hnext:blocksF (b+1) h0L L=compress H B:=by rw [blocksF_snoc,hH,hB]
   rw [hH] at h9
   have hz:=build_arr (P:=Tryz.prog) (w:=w9) (w64Z w9) Tryz.underlying393 (uS _) [] (by simp) (by simp)
   simp only [List.nil_append,List.length_nil,List.drop_zero] at hz
   obtain ⟨g8,w10,r10,h10⟩:=h9.zeroA w64Z
   have i3:∀(r s:Res),(M0++ [r]++ [s])[3]?=some r:=fun r s=>by rw [hM0];rfl
   have i4:∀(r s:Res),(M0++ [r]++ [s])[4]?=some s:=fun r s=>by rw [hM0];rfl
   have s4:∀(r s s':Res),(M0++ [r]++ [s]).set 4 s'=M0++ [r]++ [s']:=fun r s s'=>by rw [hM0];rfl
   have i2:∀(N:List Res),(M0++N)[2]?=some (.row 5 1 (.slice a6 n6 c6) n6 (bv L)):=fun N=>by rw [hM0];rfl
   have i1:∀(N:List Res),(M0++N)[1]?=some (.arr g3 393 (kv .u32 kTab)):=fun N=>by rw [hM0];rfl
   obtain ⟨w11,r11,h11⟩:=h10.stA (v:=kv .u32 (List.replicate 64 0)) (i4 _ _) (w64S _) (by simp) (by simp) (kv_one _ _)
   rw [s4] at h11
   refine ⟨_,hz,g8,w10,r10,w11,r11,fun x w'=>∃t:Nat,x=(t:Int)∧t≤64∧St w [] w' (M0++ [.arr g6 394 (kv .u32 H)]++ [.arr g8 393 (kv .u32 (schedK B t))]),fun x _=>64-x.toNat,⟨0,rfl,by omega,h11⟩,?_⟩
   rintro x w12 ⟨t,rfl,ht,h12⟩
   refine ⟨fun h=>?_,fun h=>?_⟩
   · have ht':t<64:=by simp at h;omega
     refine ⟨fun h=>?_,fun h=>?_⟩
     · have ht16:t<16:=by simp at h;omega
       have hself:(schedK B t).set t (p4 B (4*t) 0)=schedK B t:=by
         apply List.ext_getElem?
         intro q
         by_cases hq:t=q
         · subst hq
           rw [List.getElem?_set_self (by simp;omega),schedK_tail B t t (Nat.le_refl _) ht'];rfl
         · rw [List.getElem?_set_ne hq]
       refine ⟨fun x w'=>∃j:Nat,x=(j:Int)∧j≤4∧St w [] w' (M0++ [.arr g6 394 (kv .u32 H)]++ [.arr g8 393 (kv .u32 ((schedK B t).set t (p4 B (4*t) j)))]),fun x _=>4-x.toNat,⟨0,rfl,by omega,by rw [hself];exact h12⟩,?_⟩
       rintro x w13 ⟨j,rfl,hj,h13⟩
       refine ⟨fun h=>?_,fun h=>?_⟩
       · have hj':j<4:=by simp at h;omega
         have e1:IntKind.wrap .i64 (IntKind.wrap .i64 (((64*b:Nat):Int)+IntKind.wrap .i64 (4*(t:Int)))+(j:Int))=((64*b+(4*t+j):Nat):Int):=by
           rw [show IntKind.wrap .i64 (4*(t:Int))=((4*t:Nat):Int) by rw [wrap_i64 (by omega) (by omega)];omega,show IntKind.wrap .i64 (((64*b:Nat):Int)+((4*t:Nat):Int))=((64*b+4*t:Nat):Int) by rw [wrap_i64 (by omega) (by omega)];omega,wrap_i64 (by omega) (by omega)];omega
         rw [e1]
         have hc13:Cells w13 a6 (bv L):=h13.cells (by rw [List.append_assoc];exact i2 _)
         have hpl:=p4_lt B (4*t) j
         have hp24:p4 B (4*t) j<16777216:=by
           have:256^j≤256^3:=Nat.pow_le_pow_right (by decide) (by omega)
           omega
         have hgt:((schedK B t).set t (p4 B (4*t) j)).getD t 0=p4 B (4*t) j:=getD_set_self (by simp;omega)
         have hbyte:=(L.getD (64*b+(4*t+j)) 0).toNat_lt
         have hval:bor .u32 (shlI .u32 ((p4 B (4*t) j:Nat):Int) 8) (IntKind.wrap .u32 ((L.getD (64*b+(4*t+j)) 0).toNat:Int))=((p4 B (4*t) (j+1):Nat):Int):=by
           rw [show (8:Int)=((8:Nat):Int) from rfl,shl_val (by decide),Nat.mod_eq_of_lt (by omega),wrap_u32_nat (by omega),or_val (by omega) (by omega),or_sum _ _ 8 (by omega),p4,hBg _ (by omega)]
         refine ⟨fun w'=>St w [] w' (M0++ [.arr g6 394 (kv .u32 H)]++ [.arr g8 393 (kv .u32 ((schedK B t).set t (p4 B (4*t) j)))]),h13.drew,by omega,by omega,ix0 hc13 hn6 (64*b+(4*t+j)) (by omega) fun b1 o1 ha1 q1=>?_⟩
         have h13d:=h13.drew
         obtain ⟨w14,r14,h14⟩:=h13d.stK (n:=p4 B (4*t) (j+1)) (i4 _ _) (uS _) (ze t) (by simp;omega)
         rw [s4,List.set_set] at h14
         refine ⟨b1,o1,ha1,by omega,by omega,_,fun w' h=>h.ldK (i4 _ _) (uA _) (ze t) (by simp;omega),_,fun w' h=>q1 w' (h.cells (by rw [List.append_assoc];exact i2 _)),by omega,by omega,w14,?_,⟨j+1,wrap_succ hj' (by omega),by omega,h14⟩,mu_succ hj' (by omega)⟩
         rw [hgt,hval];exact r14
       · have hj':j=4:=by simp at h;omega
         subst hj'
         refine ⟨⟨t+1,wrap_succ ht' (by omega),by omega,?_⟩,mu_succ ht' (by omega)⟩
         have:schedK B (t+1)=(schedK B t).set t (p4 B (4*t) 4):=by rw [schedK,if_pos ht16,p4_be4]
         rw [this];exact h13
     · have ht16:16≤t:=by simp at h;omega
       have e:∀j:Nat,j≤16→IntKind.wrap .i64 ((t:Int)- (j:Int))=((t-j:Nat):Int):=fun j hj=>by rw [wrap_i64 (by omega) (by omega)];omega
       have e15:IntKind.wrap .i64 ((t:Int)-15)=((t-15:Nat):Int):=e 15 (by omega)
       have e2:IntKind.wrap .i64 ((t:Int)-2)=((t-2:Nat):Int):=e 2 (by omega)
       have e7:IntKind.wrap .i64 ((t:Int)-7)=((t-7:Nat):Int):=e 7 (by omega)
       have e16:IntKind.wrap .i64 ((t:Int)-16)=((t-16:Nat):Int):=e 16 (by omega)
       rw [e15,e2,e7,e16]
       obtain ⟨W,hW⟩:∃W,schedK B t=W:=⟨_,rfl⟩
       have hWl:W.length=64:=by rw [←hW];exact schedK_len B t
       have hlt:Lt32 W:=by rw [←hW];exact schedK_lt B t
       have hnx:schedK B (t+1)=W.set t (nextW W t):=by rw [schedK,if_neg (by omega),hW]
       rw [hW] at h12
       obtain ⟨Q,hQ⟩:∃Q:World→Prop,Q=fun w'=>St w [] w' (M0++ [.arr g6 394 (kv .u32 H)]++ [.arr g8 393 (kv .u32 W)]):=⟨_,rfl⟩
       have hQ12:Q w12:=by rw [hQ];exact h12
       have hd:∀w',Q w'→Q w'.drew:=fun w' h=>by rw [hQ] at h ⊢;exact h.drew
       have ld:∀j:Nat,j<64→∀w',Q w'→(Instr.loadAt 370 (.pointer (some ⟨g8,0+Int.toNat (j:Int)*1,none⟩))).run Tryz.prog w'=.ok (.int .u32 ((W.getD j 0:Nat):Int)) w':=fun j hj w' h=>by
         rw [hQ] at h;exact h.ldK (i4 _ _) (uA _) (ze j) (by omega)
       refine ⟨by omega,by omega,_,ld _ (by omega) _ hQ12,by omega,by omega,_,ld _ (by omega) _ hQ12,Q,hd _ hQ12,by omega,by omega,by omega,by omega,_,ld _ (by omega),_,ld _ (by omega),(turn_spec _ 17 _ (hlt _) (by decide) (by decide)).mono ?_⟩
       rintro e w15 ⟨rfl,rfl⟩
       refine ⟨_,rfl,Q,fun _ h=>h,hd _ hQ12,(turn_spec _ 19 _ (hlt _) (by decide) (by decide)).mono ?_⟩
       rintro e w16 ⟨rfl,rfl⟩
       refine ⟨_,rfl,Q,fun _ h=>h,hd _ hQ12,(turn_spec _ 7 _ (hlt _) (by decide) (by decide)).mono ?_⟩
       rintro e w17 ⟨rfl,rfl⟩
       refine ⟨_,rfl,Q,fun _ h=>h,hd _ hQ12,(turn_spec _ 18 _ (hlt _) (by decide) (by decide)).mono ?_⟩
       rintro e w18 ⟨rfl,rfl⟩
       refine ⟨_,rfl,Q,fun _ h=>h,hd _ hQ12,by omega,by omega,?_⟩
       rw [sg0_val (hlt _),sg1_val (hlt _),add_val,add_val,add_val]
       have h9:=hd _ hQ12
       rw [hQ] at h9
       obtain ⟨w19,r19,h19⟩:=h9.stK (n:=nextW W t) (i4 _ _) (uS _) (ze t) (by omega)
       rw [s4] at h19
       exact ⟨w19,r19,⟨t+1,wrap_succ ht' (by omega),by omega,by rw [hnx];exact h19⟩,mu_succ ht' (by omega)⟩
   · have ht':t=64:=by simp at h;omega
     obtain ⟨W,hW⟩:∃W,schedK B 64=W:=⟨_,rfl⟩
     have hWt:schedK B t=W:=by rw [ht',hW]
     have hWl:W.length=64:=by rw [←hW];exact schedK_len B 64
     have hWlt:Lt32 W:=by rw [←hW];exact schedK_lt B 64
     obtain ⟨V,hV⟩:∃V,rounds W H 64=V:=⟨_,rfl⟩
     have hcomp:compress H B=List.zipWith add32 H V:=by rw [compress,hW,hV]
     rw [hWt] at h12
     clear hWt ht' ht h hW
     have i5:∀(r s u:Res),(M0++ [r]++ [s]++ [u])[5]?=some u:=fun r s u=>by rw [hM0];rfl
     have i4':∀(r s u:Res),(M0++ [r]++ [s]++ [u])[4]?=some s:=fun r s u=>by rw [hM0];rfl
     have i3':∀(r s u:Res),(M0++ [r]++ [s]++ [u])[3]?=some r:=fun r s u=>by rw [hM0];rfl
     have i1':∀(r s u:Res),(M0++ [r]++ [s]++ [u])[1]?=some (.arr g3 393 (kv .u32 kTab)):=fun r s u=>by rw [hM0];rfl
     have s5:∀(r s u u':Res),(M0++ [r]++ [s]++ [u]).set 5 u'=M0++ [r]++ [s]++ [u']:=fun r s u u'=>by rw [hM0];rfl
     have s3':∀(r r' s u:Res),(M0++ [r]++ [s]++ [u]).set 3 r'=M0++ [r']++ [s]++ [u]:=fun r r' s u=>by rw [hM0];rfl
     obtain ⟨g13,w20,r20,h20⟩:=h12.zeroA w8Z
     obtain ⟨w21,r21,h21⟩:=h20.stA (v:=kv .u32 H) (i5 _ _ _) (w8S _) (by simp) (by simp [hHl]) (kv_one _ _)
     rw [s5] at h21
     refine ⟨_,h12.ldA (i3 _ _) (w8A _) (w8S _) (by simp [hHl]),g13,w20,r20,w21,r21,fun x w'=>∃t:Nat,x=(t:Int)∧t≤64∧∃v:List Nat,rounds W H t=v∧St w [] w' (M0++ [.arr g6 394 (kv .u32 H)]++ [.arr g8 393 (kv .u32 W)]++ [.arr g13 394 (kv .u32 v)]),fun x _=>64-x.toNat,⟨0,rfl,by omega,H,rfl,h21⟩,?_⟩
     rintro x w22 ⟨t,rfl,ht,v,hv,h22⟩
     have hvlt:Lt32 v:=by rw [←hv];exact rounds_lt W hHlt t
     have hvl:v.length=8:=by rw [←hv];exact rounds_len W hHl t
     refine ⟨fun h=>?_,fun h=>?_⟩
     · have ht':t<64:=by simp at h;omega
       obtain ⟨Q,hQ⟩:∃Q:World→Prop,Q=fun w'=>St w [] w' (M0++ [.arr g6 394 (kv .u32 H)]++ [.arr g8 393 (kv .u32 W)]++ [.arr g13 394 (kv .u32 v)]):=⟨_,rfl⟩
       have hQ22:Q w22:=by rw [hQ];exact h22
       have hd:∀w',Q w'→Q w'.drew:=fun w' h=>by rw [hQ] at h ⊢;exact h.drew
       have ldv:∀j:Nat,j<8→∀w',Q w'→(Instr.loadAt 370 (.pointer (some ⟨g13,j,none⟩))).run Tryz.prog w'=.ok (.int .u32 ((v.getD j 0:Nat):Int)) w':=fun j hj w' h=>by
         rw [hQ] at h;exact h.ldK (i5 _ _ _) (uA _) rfl (by omega)
       have ldw:∀w',Q w'→(Instr.loadAt 370 (.pointer (some ⟨g8,0+Int.toNat (t:Int)*1,none⟩))).run Tryz.prog w'=.ok (.int .u32 ((W.getD t 0:Nat):Int)) w':=fun w' h=>by
         rw [hQ] at h;exact h.ldK (i4' _ _ _) (uA _) (ze t) (by omega)
       have ldk:∀w',Q w'→(Instr.loadAt 370 (.pointer (some ⟨g3,0+Int.toNat (t:Int)*1,none⟩))).run Tryz.prog w'=.ok (.int .u32 ((kTab.getD t 0:Nat):Int)) w':=fun w' h=>by
         rw [hQ] at h;exact h.ldK (i1' _ _ _) (uA _) (ze t) (by rw [kTab_len];omega)
       refine ⟨_,ldv 4 (by decide) _ hQ22,_,ldv 5 (by decide) _ hQ22,_,ldv 4 (by decide) _ hQ22,_,ldv 6 (by decide) _ hQ22,_,ldv 0 (by decide) _ hQ22,_,ldv 1 (by decide) _ hQ22,_,ldv 0 (by decide) _ hQ22,_,ldv 2 (by decide) _ hQ22,_,ldv 1 (by decide) _ hQ22,_,ldv 2 (by decide) _ hQ22,
         Q,hd _ hQ22,by omega,by omega,by omega,by omega,_,ldv 7 (by decide),_,ldv 4 (by decide),_,ldv 4 (by decide),_,ldv 4 (by decide),_,ldk,_,ldw,(turn_spec _ 6 _ (hvlt _) (by decide) (by decide)).mono ?_⟩
       rintro e w23 ⟨rfl,rfl⟩
       refine ⟨_,rfl,Q,fun _ h=>h,hd _ hQ22,(turn_spec _ 11 _ (hvlt _) (by decide) (by decide)).mono ?_⟩
       rintro e w24 ⟨rfl,rfl⟩
       refine ⟨_,rfl,Q,fun _ h=>h,hd _ hQ22,(turn_spec _ 25 _ (hvlt _) (by decide) (by decide)).mono ?_⟩
       rintro e w25 ⟨rfl,rfl⟩
       refine ⟨_,rfl,Q,fun _ h=>h,hd _ hQ22,Q,hd _ (hd _ hQ22),_,ldv 0 (by decide),_,ldv 0 (by decide),_,ldv 0 (by decide),(turn_spec _ 2 _ (hvlt _) (by decide) (by decide)).mono ?_⟩
       rintro e w26 ⟨rfl,rfl⟩
       refine ⟨_,rfl,Q,fun _ h=>h,hd _ (hd _ hQ22),(turn_spec _ 13 _ (hvlt _) (by decide) (by decide)).mono ?_⟩
       rintro e w27 ⟨rfl,rfl⟩
       refine ⟨_,rfl,Q,fun _ h=>h,hd _ (hd _ hQ22),(turn_spec _ 22 _ (hvlt _) (by decide) (by decide)).mono ?_⟩
       rintro e w28 ⟨rfl,rfl⟩
       have h28:=hd _ (hd _ hQ22)
       rw [hQ] at h28
       refine ⟨_,rfl,Q,fun _ h=>h,hd _ (hd _ hQ22),fun x w'=>∃j:Nat,x=(j:Int)∧j≤7∧St w [] w' (M0++ [.arr g6 394 (kv .u32 H)]++ [.arr g8 393 (kv .u32 W)]++ [.arr g13 394 (kv .u32 (shF v j))]),fun x _=>x.toNat,⟨7,rfl,by omega,by rw [shF_7 hvl];exact h28⟩,?_⟩
       rintro x w29 ⟨j,rfl,hj,h29⟩
       refine ⟨fun h=>?_,fun h=>?_⟩
       · have hj0:0<j:=by simp at h;omega
         have e1:IntKind.wrap .i64 ((j:Int)-1)=((j-1:Nat):Int):=by rw [wrap_i64 (by omega) (by omega)];omega
         rw [e1]
         obtain ⟨f1,f2⟩:=shF_step hvl hj0 hj
         obtain ⟨w30,r30,h30⟩:=h29.stK (n:=v.getD (j-1) 0) (i5 _ _ _) (uS _) (ze j) (by rw [shF_len hvl hj];omega)
         rw [s5,f2] at h30
         refine ⟨by omega,by omega,_,h29.ldK (i5 _ _ _) (uA _) (ze (j-1)) (by rw [shF_len hvl hj];omega),by omega,by omega,w30,?_,⟨j-1,rfl,by omega,h30⟩,?_⟩
         · rw [f1];exact r30
         · show ((j-1:Nat):Int).toNat<(j:Int).toNat
           omega
       · have hj0:j=0:=by simp at h;omega
         subst hj0
         obtain ⟨f1,_⟩:=shF_end hvl 0 0
         rw [bg1_val (hvlt _),bg0_val (hvlt _),ch_val (hvlt _) (hvlt _) (hvlt _),maj_val (hvlt _) (hvlt _) (hvlt _)]
         simp only [add_val]
         refine ⟨_,h29.ldK (i5 _ _ _) (uA _) (rfl:4=4) (by rw [shF_len hvl (by omega)];omega),?_⟩
         rw [f1]
         simp only [add_val]
         obtain ⟨w31,r31,h31⟩:=h29.stK (n:=add32 (v.getD 3 0) (add32 (add32 (add32 (add32 (v.getD 7 0) (bg1 (v.getD 4 0))) (chF (v.getD 4 0) (v.getD 5 0) (v.getD 6 0))) (kTab.getD t 0)) (W.getD t 0))) (i5 _ _ _) (uS _) (rfl:4=4) (by rw [shF_len hvl (by omega)];omega)
         rw [s5] at h31
         obtain ⟨w32,r32,h32⟩:=h31.stK (n:=add32 (add32 (add32 (add32 (add32 (v.getD 7 0) (bg1 (v.getD 4 0))) (chF (v.getD 4 0) (v.getD 5 0) (v.getD 6 0))) (kTab.getD t 0)) (W.getD t 0)) (add32 (bg0 (v.getD 0 0)) (majF (v.getD 0 0) (v.getD 1 0) (v.getD 2 0)))) (i5 _ _ _) (uS _) (rfl:0=0) (by rw [List.length_set,shF_len hvl (by omega)];omega)
         rw [s5,(shF_end hvl _ _).2] at h32
         exact ⟨w31,r31,w32,r32,⟨t+1,wrap_succ ht' (by omega),by omega,_,by rw [rounds,hv];rfl,h32⟩,mu_succ ht' (by omega)⟩
     · have ht':t=64:=by simp at h;omega
       have hvV:v=V:=by rw [←hv,ht',hV]
       obtain ⟨Z,hZ⟩:∃Z,List.zipWith add32 H v=Z:=⟨_,rfl⟩
       have hZl:Z.length=8:=by rw [←hZ];exact zip_len hHl hvl
       have hZg:∀j,j<8→Z[j]?=some (add32 (H.getD j 0) (v.getD j 0)):=fun j hj=>by rw [←hZ];exact zip_get hHl hvl hj
       have hcZ:compress H B=Z:=by rw [hcomp,←hvV,hZ]
       clear hvV ht' ht h hv hV hcomp
       refine ⟨fun x w'=>∃j:Nat,x=(j:Int)∧j≤8∧St w [] w' (M0++ [.arr g6 394 (kv .u32 (mixG Z H j))]++ [.arr g8 393 (kv .u32 W)]++ [.arr g13 394 (kv .u32 v)]),fun x _=>8-x.toNat,⟨0,rfl,by omega,by rw [mixG_zero];exact h22⟩,?_⟩
       rintro x w33 ⟨j,rfl,hj,h33⟩
       have hml:(mixG Z H j).length=8:=by rw [mixG_len (by omega) (by omega)];exact hHl
       refine ⟨fun h=>?_,fun h=>?_⟩
       · have hj':j<8:=by simp at h;omega
         have hgj:(mixG Z H j).getD j 0=H.getD j 0:=by simp only [List.getD,mixG_get (show Z.length=H.length by omega) (show j<H.length by omega)]
         obtain ⟨w34,r34,h34⟩:=h33.drew.stK (n:=add32 (H.getD j 0) (v.getD j 0)) (i3' _ _ _) (uS _) (ze j) (by omega)
         rw [s3',mixG_set (by omega) (hZg j hj')] at h34
         refine ⟨fun w'=>St w [] w' (M0++ [.arr g6 394 (kv .u32 (mixG Z H j))]++ [.arr g8 393 (kv .u32 W)]++ [.arr g13 394 (kv .u32 v)]),h33.drew,by omega,by omega,by omega,by omega,_,fun w' h=>h.ldK (i3' _ _ _) (uA _) (ze j) (by omega),_,fun w' h=>h.ldK (i5 _ _ _) (uA _) (ze j) (by omega),by omega,by omega,w34,?_,⟨j+1,wrap_succ hj' (by omega),by omega,h34⟩,mu_succ hj' (by omega)⟩
         rw [hgj,add_val];exact r34
       · have hj':j=8:=by simp at h;omega
         subst hj'
         have hall:mixG Z H 8=Z:=by have:=mixG_all (x:=Z) (l:=H) (by omega);rwa [hHl] at this
         rw [hall] at h33
         have h33':=St.pop (St.pop h33)
         have ew:IntKind.wrap .i64 (((64*b:Nat):Int)+64)=((64*(b+1):Nat):Int):=by rw [wrap_i64 (by omega) (by omega)];omega
         rw [ew]
         refine ⟨⟨b+1,rfl,by omega,?_⟩,?_⟩
         · rw [hnext,hcZ];exact h33'
         · show n6- ((64*(b+1):Nat):Int).toNat<n6- ((64*b:Nat):Int).toNat
           omega
 · have hbe:64*b=n6:=by simp at h;omega
   have hbd:n6 / 64=b:=by omega
   rw [hbd]
   obtain ⟨H,hH⟩:∃H,blocksF b h0L L=H:=⟨_,rfl⟩
   have hHl:H.length=8:=by rw [←hH];exact blocksF_len _ _ rfl
   rw [hH] at h9 ⊢
   clear hH hbd hbe h
   have hz:=build_arr (P:=Tryz.prog) (w:=w9) (d32Z w9) Tryz.underlying39 (sB _) [] (by simp) (by simp)
   simp only [List.nil_append,List.length_nil,List.drop_zero] at hz
   obtain ⟨g21,w10,r10,h10⟩:=h9.zeroA d32Z
   have i3:∀(r s:Res),(M0++ [r]++ [s])[3]?=some r:=fun r s=>by rw [hM0];rfl
   have i4:∀(r s:Res),(M0++ [r]++ [s])[4]?=some s:=fun r s=>by rw [hM0];rfl
   have i0:∀(r s:Res),(M0++ [r]++ [s])[0]?=some (.arr g2 39 (bv (List.replicate 32 0))):=fun r s=>by rw [hM0];rfl
   have s4:∀(r s s':Res),(M0++ [r]++ [s]).set 4 s'=M0++ [r]++ [s']:=fun r s s'=>by rw [hM0];rfl
   have hdl:(digL H).length=32:=digL_len H
   obtain ⟨w11,r11,h11⟩:=h10.stA (v:=bv (List.replicate 32 0)) (i4 _ _) (d32S _) (by simp) (by simp) (bv_one _)
   rw [s4] at h11
   refine ⟨_,hz,g21,w10,r10,w11,r11,fun x w'=>∃i:Nat,x=(i:Int)∧i≤32∧St w [] w' (M0++ [.arr g6 394 (kv .u32 H)]++ [.arr g21 39 (bv (upTo (digL H) i))]),fun x _=>32-x.toNat,⟨0,rfl,by omega,by rw [upTo_zero,hdl];exact h11⟩,?_⟩
   rintro x w12 ⟨i,rfl,hi,h12⟩
   refine ⟨fun h=>?_,fun h=>?_⟩
   · have hi':i<32:=by simp at h;omega
     have e1:IntKind.wrap .i64 (Int.tdiv (i:Int) 4)=((i / 4:Nat):Int):=by rw [Int.tdiv_eq_ediv_of_nonneg (by omega),wrap_i64 (by omega) (by omega)];omega
     have e2:IntKind.wrap .u64 ((24:Int)-IntKind.wrap .u64 (8*IntKind.wrap .u64 (Int.tmod (i:Int) 4)))=((24-8*(i%4):Nat):Int):=by
       rw [Int.tmod_eq_emod_of_nonneg (by omega)]
       simp only [wrap_u64]
       omega
     rw [e1,e2]
     have hval:=digB_val H (i / 4) (i%4) (by omega)
     rw [show 4*(i / 4)+i%4=i by omega] at hval
     obtain ⟨w13,r13,h13⟩:=h12.stB (b:=digB H i) (i4 _ _) (sB _) (ze i) (by rw [upTo_len (by omega)];omega)
     rw [s4,upTo_set (digL_get H hi')] at h13
     refine ⟨by omega,by omega,_,h12.ldK (i3 _ _) (uA _) (ze (i / 4)) (by omega),by omega,by omega,by omega,w13,?_,⟨i+1,wrap_succ hi' (by omega),by omega,h13⟩,mu_succ hi' (by omega)⟩
     rw [hval];exact r13
   · have hi':i=(digL H).length:=by simp at h;omega
     rw [hi',upTo_all] at h12
     obtain ⟨w13,r13,h13⟩:=h12.stA (i:=0) (v:=bv (digL H)) (i0 _ _) (d32S _) (by simp) (by simp [hdl]) (bv_one _)
     have i0':((M0++ [Res.arr g6 394 (kv .u32 H)]++ [Res.arr g21 39 (bv (digL H))]).set 0 (.arr g2 39 (bv (digL H))))[0]?=some (.arr g2 39 (bv (digL H))):=by rw [hM0];rfl
     exact ⟨_,h12.ldA (i4 _ _) (d32A _) (d32S _) (by simp [hdl]),w13,r13,_,h13.ldVarA i0' (d32A _) (d32S _) (by simp [hdl]),rfl,h13.chg⟩

end Go.Proofs.YtpmhjnhgpplmnaaGreatDoor
end

section
namespace Go.Proofs.YtpmhjnhgpplmnaaGreatDoor
open Go Sx
set_option maxRecDepth 8000

theorem Row2.nil (w:World):Row2 w [] []:=⟨rfl,by simp⟩
theorem Row2.cons {w:World} {vs:List Value} {ls:List (List UInt8)} {a:Option Addr} {n c:Nat} {l:List UInt8} (h:RdB w a n c l) (h2:Row2 w vs ls):Row2 w (.slice a n c::vs) (l::ls):=by
 refine ⟨by simp [h2.len],fun i hi=>?_⟩
 cases i with
 | zero=>exact ⟨a,n,c,rfl,h⟩
 | succ i=>exact h2.rd i (by simpa using hi)

end Go.Proofs.YtpmhjnhgpplmnaaGreatDoor
end

section
namespace Go.Proofs.YtpmhjnhgpplmnaaGreatDoor
open Go Sx
set_option maxRecDepth 8000

theorem bv_zeros (n:Nat):bv (List.replicate n 0)=List.replicate n (.int .u8 0):=by simp [bv]

theorem rmac_spec (a:Option Addr) (n c:Nat) (key:List UInt8) (a1:Option Addr) (n1 c1:Nat) (vs:List Value) (ls:List (List UInt8)) (w:World) (hr:RdB w a n c key) (hb:n≤70368744170000) (hr1:Rd w a1 n1 c1 1 vs) (h2:Row2 w vs ls) (hb1:ls.flatten.length≤70368744170000) (hn1:n1≤4611686018427387904):
   Calls Tryz.prog 162 #[.slice a n c,.slice a1 n1 c1] w fun e w'=>e=.returned (.agg (bv (macF key ls.flatten)).toArray)∧Chg [] w w':=by
 have hl:=hr.lenB
 have hln:ls.length=n1:=by have:=hr1.len;have:=h2.len;omega
 apply amphoraref02_Mac_vc
 obtain ⟨g4,w1,r1,h1⟩:=(St.start w).zeroA d32Z
 refine ⟨_,_,r1,fun xa xn xc w'=>∃k:List UInt8,RdB w' xa xn xc k∧k.length≤64∧macK key=k++List.replicate (64-k.length) 0∧St w [] w' [.arr g4 39 (bv (List.replicate 32 0))],⟨fun h=>?_,fun h=>?_⟩,?_⟩
 · have hn:64<key.length:=by simp at h;omega
   obtain ⟨g2,w2,r2,h2'⟩:=h1.lit bbT [.slice a n c] (by simp [Value.oneCell']) (by simp)
   refine ⟨_,_,_,_,r2,(rsum_spec _ 1 1 _ [key] w2 (h2'.rd (i:=1) rfl) (row2_one (h2'.rd1 hr)) (by simp;omega) (by decide)).mono ?_⟩
   rintro e w3 ⟨rfl,hc3⟩
   have hk1:shaF [key].flatten=shaF key:=by simp
   rw [hk1]
   have h3:=h2'.same hc3
   obtain ⟨g5,w4,r4,h4⟩:=h3.zeroA d32Z
   obtain ⟨w5,r5,h5⟩:=h4.stA (i:=2) (v:=bv (shaF key)) rfl (d32S _) (by simp) (by simp) (bv_one _)
   refine ⟨_,rfl,g5,w4,r4,w5,r5,by omega,by omega,shaF key,h5.rdA (i:=2) rfl (by simp),by simp,?_,h5.sub (List.Sublist.cons_cons _ (List.nil_sublist _))⟩
   simp only [macK,if_pos hn]
 · have hn:¬64<key.length:=by simp at h;omega
   exact ⟨key,h1.rd1 hr,by omega,by simp only [macK,if_neg hn],h1⟩
 rintro xa xn xc w6 ⟨k,hrk,hk64,hmk,h6⟩
 have hkl:=hrk.lenB
 obtain ⟨K,hKk⟩:∃K,macK key=K:=⟨_,rfl⟩
 have hKl:K.length=64:=by rw [←hKk];exact macK_len key
 have hr16:=hr1.keep0 h6.chg
 have h26:=h2.keep0 h6.chg
 obtain ⟨gi,w7,r7,h7⟩:=(St.start w6).mkN (kl:=.i64) (kc:=.i64) (c:=64) bT rfl (by omega) (by omega) (by omega)
 obtain ⟨go,w8,r8,h8⟩:=h7.mkN (kl:=.i64) (kc:=.i64) (c:=64) bT rfl (by omega) (by omega) (by omega)
 have h8':St w6 [] w8 [.row 5 1 (.slice (some ⟨gi,0,none⟩) 64 64) 64 (bv (mixG (ipad key) (List.replicate 64 0) 0)),.row 5 1 (.slice (some ⟨go,0,none⟩) 64 64) 64 (bv (mixG (opad key) (List.replicate 64 0) 0))]:=by
   rw [mixG_zero,mixG_zero,bv_zeros];exact h8
 have hip:=ipad_len key
 have hop:=opad_len key
 refine ⟨_,_,_,_,r7,_,_,_,_,r8,fun x w'=>∃i:Nat,x=(i:Int)∧i≤64∧St w6 [] w' [.row 5 1 (.slice (some ⟨gi,0,none⟩) 64 64) 64 (bv (mixG (ipad key) (List.replicate 64 0) i)),.row 5 1 (.slice (some ⟨go,0,none⟩) 64 64) 64 (bv (mixG (opad key) (List.replicate 64 0) i))],fun x _=>64-x.toNat,
   ⟨0,rfl,by omega,h8'⟩,?_⟩
 rintro x w9 ⟨i,rfl,hi,h9⟩
 refine ⟨fun h=>?_,fun h=>?_⟩
 · have hi':i<64:=by simp at h;omega
   have hKi:K.getD i 0=if i<k.length then k.getD i 0 else 0:=by
     rw [←hKk,hmk]
     simp only [List.getD,List.getElem?_append]
     split
     · rfl
     · rw [List.getElem?_replicate];split<;>rfl
   refine ⟨fun x w'=>x=((K.getD i 0).toNat:Int)∧w'=w9,⟨fun h=>?_,fun h=>?_⟩,?_⟩
   · have hik:i<xn:=by simp at h;omega
     refine ix0 (hrk.keep0 h9.chg).cells hkl i hik fun b o ha q=>⟨b,o,ha,by omega,by omega,_,q w9 (hrk.keep0 h9.chg).cells,?_,rfl⟩
     rw [hKi,if_pos (by omega)]
   · have hik:¬i<xn:=by simp at h;omega
     refine ⟨?_,rfl⟩
     rw [hKi,if_neg (by omega)];rfl
   rintro y w10 ⟨rfl,rfl⟩
   have hb5:(opad key)[i]?=some (K.getD i 0^^^0x5c):=by simp [opad,hKk,List.getD,show i<K.length by omega]
   have hb3:(ipad key)[i]?=some (K.getD i 0^^^0x36):=by simp [ipad,hKk,List.getD,show i<K.length by omega]
   have x5:bxor .u8 ((K.getD i 0).toNat:Int) 92=((K.getD i 0^^^0x5c).toNat:Int):=xorc_val _ 0x5c
   have x3:bxor .u8 ((K.getD i 0).toNat:Int) 54=((K.getD i 0^^^0x36).toNat:Int):=xorc_val _ 0x36
   obtain ⟨w11,r11,h11⟩:=h9.stRow (i:=0) (j:=i) (T:=5) (v:=.int .u8 ((K.getD i 0^^^0x36).toNat:Int)) rfl (sB1 _) hi' rfl
   rw [bv_set,mixG_set (by rw [hip,List.length_replicate]) hb3] at h11
   obtain ⟨w12,r12,h12⟩:=h11.stRow (i:=1) (j:=i) (T:=5) (v:=.int .u8 ((K.getD i 0^^^0x5c).toNat:Int)) rfl (sB1 _) hi' rfl
   rw [bv_set,mixG_set (by rw [hop,List.length_replicate]) hb5] at h12
   have ze:0+Int.toNat (i:Int)*1=i:=by omega
   refine ⟨gi,0,rfl,by omega,by omega,w11,by rw [x3,ze];exact r11,go,0,rfl,by omega,by omega,w12,by rw [x5,ze];exact r12,⟨i+1,wrap_succ hi' (by omega),by omega,h12⟩,mu_succ hi' (by omega)⟩
 · have hi':i=64:=by simp at h;omega
   have f1:mixG (ipad key) (List.replicate 64 (0:UInt8)) i=ipad key:=by
     have:=mixG_all (x:=ipad key) (l:=List.replicate 64 (0:UInt8)) (by rw [hip,List.length_replicate])
     rw [List.length_replicate] at this;rw [hi',this]
   have f2:mixG (opad key) (List.replicate 64 (0:UInt8)) i=opad key:=by
     have:=mixG_all (x:=opad key) (l:=List.replicate 64 (0:UInt8)) (by rw [hop,List.length_replicate])
     rw [List.length_replicate] at this;rw [hi',this]
   rw [f1,f2] at h9
   clear f1 f2 hi' h hi h8' h8 h7
   refine ⟨fun xa xn xc x w'=>∃i:Nat,x=(i:Int)∧i≤n1∧xn=64+(ls.take i).flatten.length∧St w6 [] w' [.row 5 1 (.slice xa xn xc) xn (bv (ipad key++(ls.take i).flatten)),.row 5 1 (.slice (some ⟨go,0,none⟩) 64 64) 64 (bv (opad key))],fun _ _ _ x _=>n1-x.toNat,⟨0,rfl,by omega,by simp,by simpa using h9⟩,?_⟩
   rintro ya yn yc y w10 ⟨i,rfl,hi,rfl,h10⟩
   have hft:=flat_take_le ls i
   refine ⟨fun h=>?_,fun h=>?_⟩
   · have hi':i<n1:=by simp at h;omega
     obtain ⟨b,o,a',n',c',ha,hv,hrd,hld⟩:=ixS hr16.cells h26 (i:=i) (by omega)
     have hl':=hrd.lenB
     have hf1:=flat_take (ls:=ls) (i:=i) (by omega)
     have hf2:=flat_take_le ls (i+1)
     have hf3:=congrArg List.length hf1
     rw [List.length_append,hl'] at hf3
     obtain ⟨va,vc,w11,r11,h11⟩:=h10.appendB (i:=0) rfl (h10.rd1 hrd) (by omega)
     refine ⟨b,o,ha,by omega,by omega,_,_,_,hld w10 (hr16.cells.keep0 h10.chg),_,_,_,_,r11,⟨i+1,wrap_succ hi' hn1,by omega,by omega,?_⟩,mu_succ hi' hn1⟩
     rw [hf1,←List.append_assoc];exact h11
   · have hi':i=n1:=by simp at h;omega
     have hta:ls.take i=ls:=by rw [hi',←hln,List.take_length]
     rw [hta] at h10 ⊢
     obtain ⟨ms,hms⟩:∃ms,ls.flatten=ms:=⟨_,rfl⟩
     rw [hms] at h10 hb1 ⊢
     obtain ⟨g11,w11,r11,h11⟩:=h10.lit bbT [.slice ya (64+ms.length) yc] (by simp [Value.oneCell']) (by simp)
     refine ⟨_,_,_,_,r11,(rsum_spec _ 1 1 _ [ipad key++ms] w11 (h11.rd (i:=2) rfl) (row2_one (h11.rd (i:=0) rfl)) (by simp [hip];omega) (by decide)).mono ?_⟩
     rintro e w12 ⟨rfl,hc12⟩
     have hk1:shaF [ipad key++ms].flatten=shaF (ipad key++ms):=by simp
     rw [hk1]
     have h12:=h11.same hc12
     obtain ⟨g13,w13,r13,h13⟩:=h12.zeroA d32Z
     obtain ⟨w14,r14,h14⟩:=h13.stA (i:=3) (v:=bv (shaF (ipad key++ms))) rfl (d32S _) (by simp) (by simp) (bv_one _)
     obtain ⟨g15,w15,r15,h15⟩:=h14.lit bbT [.slice (some ⟨go,0,none⟩) 64 64,.slice (some ⟨g13,0,none⟩) 32 32] (by simp [Value.oneCell']) (by simp)
     refine ⟨_,rfl,g13,w13,r13,w14,r14,by omega,by omega,_,_,_,_,r15,(rsum_spec _ 2 2 _ [opad key,shaF (ipad key++ms)] w15 (h15.rd (i:=4) rfl) (row2_two (h15.rd (i:=1) rfl) (h15.rdA (i:=3) rfl (by simp))) (by simp [hop]) (by decide)).mono ?_⟩
     rintro e w16 ⟨rfl,hc16⟩
     have hm:shaF [opad key,shaF (ipad key++ms)].flatten=macF key ms:=by rw [macF_pads];simp
     rw [hm]
     have hfin:=h6.same (h15.chg.trans hc16)
     obtain ⟨w17,r17,h17⟩:=hfin.stA (i:=0) (v:=bv (macF key ms)) rfl (d32S _) (by simp) (by simp) (bv_one _)
     exact ⟨_,rfl,w17,r17,_,h17.ldVarA (i:=0) (l:=bv (macF key ms)) rfl (d32A _) (d32S _) (by simp),rfl,h17.chg⟩

theorem row2_three {w:World} {a:Option Addr} {n c:Nat} {l:List UInt8} {a2:Option Addr} {n2 c2:Nat} {l2:List UInt8} {a3:Option Addr} {n3 c3:Nat} {l3:List UInt8} (h:RdB w a n c l) (h2:RdB w a2 n2 c2 l2) (h3:RdB w a3 n3 c3 l3):Row2 w [.slice a n c,.slice a2 n2 c2,.slice a3 n3 c3] [l,l2,l3]:=
 (row2_two h2 h3).cons h

end Go.Proofs.YtpmhjnhgpplmnaaGreatDoor
end

section
namespace Go.Proofs.YtpmhjnhgpplmnaaGreatDoor
open Go Sx
set_option maxRecDepth 8000

theorem byteI (j:Nat):IntKind.wrap .u8 ((j+1:Nat):Int)=((UInt8.ofNat (j+1)).toNat:Int):=by
 rw [wrap_u8,UInt8.toNat_ofNat'];omega

theorem macF_congr {k k':List UInt8} (h:macK k=macK k') (m:List UInt8):macF k m=macF k' m:=by simp only [macF,h]

theorem outF_bound {n j:Nat} (h1:n≤32*j) (h2:j=0∨32*(j-1)<n):(n+31) / 32=j:=by omega

theorem rderive_specN (a0:Option Addr) (n0 c0:Nat) (salt:List UInt8) (a1:Option Addr) (n1 c1:Nat) (secret:List UInt8) (a2:Option Addr) (n2 c2:Nat) (info:List UInt8) (x:Int) (w:World) (hr0:RdB w a0 n0 c0 salt) (hr1:RdB w a1 n1 c1 secret) (hr2:RdB w a2 n2 c2 info) (hb:n0+n1+n2≤1099511627776):
   Calls Tryz.prog 195 #[.slice a0 n0 c0,.slice a1 n1 c1,.slice a2 n2 c2,.int .i64 x] w fun e w'=>
     ((x<0∨8160<x)∧e=.returned (.tuple #[.slice none 0 0,.int .i64 7])∧w'=w)∨
     (0≤x∧x≤8160∧∃a n c,e=.returned (.tuple #[.slice a n c,.int .i64 0])∧Chg [] w w'∧RdB w' a n c (deriveF salt secret info x.toNat)∧∀ad,a=some ad→w.heap.size≤ad.block):=by
 have e0:=hr0.lenB
 have e1:=hr1.lenB
 have e2:=hr2.lenB
 apply amphoraref02_Derive_vc
 refine ⟨fun h=>.inl ⟨by simp at h;omega,rfl,rfl⟩,fun h=>?_⟩
 have hx:0≤x∧x≤8160:=by simp at h;omega
 obtain ⟨n,rfl⟩:=Int.eq_ofNat_of_zero_le hx.1
 clear h
 refine ⟨fun xa xn xc w'=>∃s:List UInt8,RdB w' xa xn xc s∧macK s=macK salt∧xn≤1099511627776∧Chg [] w w',⟨fun h=>?_,fun _=>⟨salt,hr0,rfl,by omega,Chg.refl _ _⟩⟩,?_⟩
 · have hn0:n0=0:=by simp at h;omega
   have hs:salt=[]:=List.eq_nil_of_length_eq_zero (by omega)
   obtain ⟨g,w1,r1,h1⟩:=(St.start w).mkN (kl:=.i64) (kc:=.i64) (c:=32) bT rfl (by omega) (by omega) (by omega)
   have h1':St w [] w1 [.row 5 1 (.slice (some ⟨g,0,none⟩) 32 32) 32 (bv (List.replicate 32 0))]:=by rw [bv_zeros];exact h1
   refine ⟨_,_,_,_,r1,List.replicate 32 0,h1'.rd (i:=0) rfl,?_,by omega,h1.chg⟩
   rw [hs];rfl
 rintro xa xn xc w2 ⟨s,hrs,hms,hxn,hc2⟩
 have es:=hrs.lenB
 obtain ⟨g3,w3,r3,h3⟩:=(St.start w2).lit bbT [.slice a1 n1 c1] (by simp [Value.oneCell']) (by simp)
 have hc3:=hc2.trans h3.chg
 refine ⟨_,_,_,_,r3,(rmac_spec xa xn xc s _ 1 1 _ [secret] w3 (h3.rd1 hrs) (by omega) (h3.rd (i:=0) rfl) (row2_one (hr1.keep0 hc3)) (by simp;omega) (by decide)).mono ?_⟩
 rintro e w4 ⟨rfl,hc4⟩
 have hk1:macF s [secret].flatten=macF salt secret:=by rw [macF_congr hms];simp
 rw [hk1]
 obtain ⟨prk,hprk⟩:∃p,macF salt secret=p:=⟨_,rfl⟩
 have hpl:prk.length=32:=by rw [←hprk];exact macF_len _ _
 rw [hprk]
 have hdF:deriveF salt secret info n=(outF prk info ((n+31) / 32)).take n:=by rw [deriveF,hprk]
 have hc4':=hc3.trans hc4
 obtain ⟨g5,w5,r5,h5⟩:=((St.start w).same hc4').zeroA d32Z
 obtain ⟨w6,r6,h6⟩:=h5.stA (i:=0) (v:=bv prk) rfl (d32S _) (by simp) (by simp [hpl]) (bv_one _)
 have h6n:=h6.addNil 5 1
 obtain ⟨g7,w7,r7,h7⟩:=h6n.lit bT [] (by simp) (by simp)
 refine ⟨_,rfl,g5,w5,r5,w6,r6,_,_,_,_,r7,fun xa xn xc ya yn yc z w'=>∃j:Nat,z=((j+1:Nat):Int)∧(j=0∨32*(j-1)<n)∧xn=32*j∧St w [] w' [.arr g5 39 (bv prk),.row 5 1 (.slice xa xn xc) xn (bv (outF prk info j)),.row 5 1 (.slice ya yn yc) yn (bv (tF prk info j))],
   fun _ xn _ _ _ _ _ _=>n+32-xn,⟨0,rfl,.inl rfl,rfl,h7⟩,?_⟩
 rintro xa' xn' xc' ya yn yc z w8 ⟨j,rfl,hj,rfl,h8⟩
 refine ⟨fun h=>?_,fun h=>?_⟩
 · have hlt:32*j<n:=by simp at h;omega
   have htl:(tF prk info j).length≤32:=by
     cases j with
     | zero=>simp [tF]
     | succ j=>simp [tF]
   rw [byteI]
   obtain ⟨g9,w9,r9,h9⟩:=h8.lit bT [.int .u8 ((UInt8.ofNat (j+1)).toNat:Int)] (by simp [Value.oneCell']) (by simp)
   obtain ⟨g10,w10,r10,h10⟩:=h9.lit bbT [.slice ya yn yc,.slice a2 n2 c2,.slice (some ⟨g9,0,none⟩) 1 1] (by simp [Value.oneCell']) (by simp)
   have q1:RdB w10 ya yn yc (tF prk info j):=h10.rd (i:=2) rfl
   have q3:RdB w10 (some ⟨g9,0,none⟩) 1 1 [UInt8.ofNat (j+1)]:=h10.rd (i:=3) rfl
   refine ⟨by omega,by omega,_,_,_,_,r9,_,_,_,_,r10,(rmac_spec _ 32 32 prk _ 3 3 _ [tF prk info j,info,[UInt8.ofNat (j+1)]] w10 (h10.rdA (i:=0) rfl (by simp [hpl])) (by omega) (h10.rd (i:=4) rfl) (row2_three q1 (h10.rd1 hr2) q3) (by simp;omega) (by decide)).mono ?_⟩
   rintro e w11 ⟨rfl,hc11⟩
   have hk2:macF prk [tF prk info j,info,[UInt8.ofNat (j+1)]].flatten=tF prk info (j+1):=by rw [tF];simp
   rw [hk2]
   have h11:=h10.same hc11
   obtain ⟨g12,w12,r12,h12⟩:=h11.zeroA d32Z
   have htl1:(tF prk info (j+1)).length=32:=by simp [tF]
   obtain ⟨w13,r13,h13⟩:=h12.stA (i:=5) (v:=bv (tF prk info (j+1))) rfl (d32S _) (by simp) (by simp [htl1]) (bv_one _)
   obtain ⟨g14,w14,r14,h14⟩:=h13.lit bT [] (by simp) (by simp)
   obtain ⟨ta,tc,w15,r15,h15⟩:=h14.appendB (i:=6) (xs:=[]) rfl (h14.rdA (i:=5) (l:=bv (tF prk info (j+1))) (n:=32) rfl (by simp [htl1])) (by simp)
   simp only [List.length_nil,Nat.zero_add,List.nil_append] at r15 h15
   obtain ⟨va,vc,w16,r16,h16⟩:=h15.appendB (i:=1) rfl (h15.rd (i:=6) rfl) (by omega)
   have e1':32*j+32=32*(j+1):=by omega
   rw [e1'] at r16 h16
   refine ⟨_,rfl,g12,w12,r12,w13,r13,_,_,_,_,r14,by omega,by omega,_,_,_,_,r15,_,_,_,_,r16,⟨j+1,?_,.inr (by omega),rfl,?_⟩,?_⟩
   · rw [wrap_i64 (by omega) (by omega)];omega
   · have:List.Sublist [Res.arr g5 39 (bv prk),.row 5 1 (.slice va (32*(j+1)) vc) (32*(j+1)) (bv (outF prk info (j+1))),.row 5 1 (.slice ta 32 tc) 32 (bv (tF prk info (j+1)))]
         [Res.arr g5 39 (bv prk),.row 5 1 (.slice va (32*(j+1)) vc) (32*(j+1)) (bv (outF prk info (j+1))),.row 5 1 (.slice ya yn yc) yn (bv (tF prk info j)),.row 5 1 (.slice (some ⟨g9,0,none⟩) 1 1) 1 (bv [UInt8.ofNat (j+1)]),.row 26 1 (.slice (some ⟨g10,0,none⟩) 3 3) 3 [.slice ya yn yc,.slice a2 n2 c2,.slice (some ⟨g9,0,none⟩) 1 1],.arr g12 39 (bv (tF prk info (j+1))),.row 5 1 (.slice ta 32 tc) 32 (bv (tF prk info (j+1)))]:=
       List.Sublist.cons_cons _ (List.Sublist.cons_cons _ (List.Sublist.cons _ (List.Sublist.cons _ (List.Sublist.cons _ (List.Sublist.cons _ (List.Sublist.refl _))))))
     exact St.sub h16 this
   · show n+32-32*(j+1)<n+32-32*j
     omega
 · have hge:n≤32*j:=by simp at h;omega
   have hj':=outF_bound hge hj
   have hrow:=h8.rd (i:=1) rfl
   have hle:=hrow.le
   refine ⟨by omega,by omega,.inr ⟨by omega,by omega,_,_,_,rfl,h8.chg,?_,fun ad e=>?_⟩⟩
   · rw [Int.toNat_natCast,hdF,hj']
     exact rdB_upto (l:=outF prk info j) hrow (k:=n) hge
   · subst e
     have:=h8.own 1 _ rfl ad.block (by simp [Res.fp,Value.ownBlock])
     simpa using this

end Go.Proofs.YtpmhjnhgpplmnaaGreatDoor
end

section
namespace Go.Proofs.YtpmhjnhgpplmnaaGreatDoor
open Go Sx
set_option maxRecDepth 8000

def aStep (l:List Nat) (i j:Nat):List Nat:=l.set i (add32 (l.getD i 0) (l.getD j 0))
def xStep (l:List Nat) (i j n:Nat):List Nat:=l.set i (rotl (l.getD i 0^^^l.getD j 0) n)
@[simp] theorem aStep_len (l:List Nat) (i j:Nat):(aStep l i j).length=l.length:=by simp [aStep]
@[simp] theorem xStep_len (l:List Nat) (i j n:Nat):(xStep l i j n).length=l.length:=by simp [xStep]
theorem Lt32.aStep {l:List Nat} (h:Lt32 l) (i j:Nat):Lt32 (aStep l i j):=h.set i (add32_lt _ _)
theorem Lt32.xStep {l:List Nat} (h:Lt32 l) (i j n:Nat):Lt32 (xStep l i j n):=h.set i (rotl_lt n (xor_lt (h i) (h j)))

def rnd (l:List Nat) (a b c d:Nat):List Nat:=xStep (aStep (xStep (aStep (xStep (aStep (xStep (aStep l a b) d a 16) c d) b c 12) a b) d a 8) c d) b c 7
@[simp] theorem rnd_len (l:List Nat) (a b c d:Nat):(rnd l a b c d).length=l.length:=by simp [rnd]
theorem Lt32.rnd {l:List Nat} (h:Lt32 l) (a b c d:Nat):Lt32 (rnd l a b c d):=(((((((h.aStep a b).xStep d a 16).aStep c d).xStep b c 12).aStep a b).xStep d a 8).aStep c d).xStep b c 7

def hA (a b:Nat):Nat:=add32 a b
def hD (a b d m:Nat):Nat:=rotl (d^^^add32 a b) m
def hC (a b c d m:Nat):Nat:=add32 c (hD a b d m)
def hB (a b c d m n:Nat):Nat:=rotl (b^^^hC a b c d m) n

def qA (a b c d:Nat):Nat:=hA (hA a b) (hB a b c d 16 12)
def qD (a b c d:Nat):Nat:=hD (hA a b) (hB a b c d 16 12) (hD a b d 16) 8
def qC (a b c d:Nat):Nat:=hC (hA a b) (hB a b c d 16 12) (hC a b c d 16) (hD a b d 16) 8
def qB (a b c d:Nat):Nat:=hB (hA a b) (hB a b c d 16 12) (hC a b c d 16) (hD a b d 16) 8 7

theorem rnd_eq {l:List Nat} {a b c d:Nat} (ha:a<l.length) (hb:b<l.length) (hc:c<l.length) (hd:d<l.length) (ab:a≠b) (ac:a≠c) (ad:a≠d) (bc:b≠c) (bd:b≠d) (cd:c≠d):
   rnd l a b c d=(((l.set a (qA (l.getD a 0) (l.getD b 0) (l.getD c 0) (l.getD d 0))).set b (qB (l.getD a 0) (l.getD b 0) (l.getD c 0) (l.getD d 0))).set c (qC (l.getD a 0) (l.getD b 0) (l.getD c 0) (l.getD d 0))).set d (qD (l.getD a 0) (l.getD b 0) (l.getD c 0) (l.getD d 0)):=by
 have h1:∀(k:List Nat) (i v:Nat),i<l.length→k.length=l.length→(k.set i v).getD i 0=v:=fun k i v hi hk=>getD_set_self (by omega)
 unfold rnd
 simp only [aStep,xStep]
 simp only [h1,getD_set_ne ab,getD_set_ne ac,getD_set_ne ad,getD_set_ne bc,getD_set_ne bd,getD_set_ne cd,getD_set_ne ab.symm,getD_set_ne ac.symm,getD_set_ne ad.symm,getD_set_ne bc.symm,getD_set_ne bd.symm,getD_set_ne cd.symm,ha,hb,hc,hd,List.length_set]
 simp only [qA,qB,qC,qD,hA,hB,hC,hD]
 apply List.ext_getElem?
 intro i
 simp only [List.getElem?_set,List.length_set]
 by_cases e1:b=i
 · subst e1;simp [hb,bc.symm,bd.symm,ab,cd]
 · by_cases e2:c=i
   · subst e2;simp [hc,e1,cd.symm]
   · by_cases e3:d=i
     · subst e3;simp [hd,e1,e2]
     · by_cases e4:a=i
       · subst e4;simp [ha,e1,e2,e3]
       · simp [e1,e2,e3,e4]

def colR:Nat→List Nat→List Nat
 | 0,l=>l
 | k+1,l=>rnd (colR k l) k (4+k) (8+k) (12+k)
def diaR:Nat→List Nat→List Nat
 | 0,l=>l
 | k+1,l=>rnd (diaR k l) k (4+(k+1)%4) (8+(k+2)%4) (12+(k+3)%4)
def dblR:Nat→List Nat→List Nat
 | 0,l=>l
 | k+1,l=>diaR 4 (colR 4 (dblR k l))

@[simp] theorem colR_len:∀(k:Nat) (l:List Nat),(colR k l).length=l.length
 | 0,_=>rfl
 | k+1,l=>by simp [colR,colR_len k l]
@[simp] theorem diaR_len:∀(k:Nat) (l:List Nat),(diaR k l).length=l.length
 | 0,_=>rfl
 | k+1,l=>by simp [diaR,diaR_len k l]
@[simp] theorem dblR_len:∀(k:Nat) (l:List Nat),(dblR k l).length=l.length
 | 0,_=>rfl
 | k+1,l=>by simp [dblR,dblR_len k l]
theorem Lt32.colR {l:List Nat} (h:Lt32 l):∀k,Lt32 (colR k l)
 | 0=>h
 | k+1=>(Lt32.colR h k).rnd _ _ _ _
theorem Lt32.diaR {l:List Nat} (h:Lt32 l):∀k,Lt32 (diaR k l)
 | 0=>h
 | k+1=>(Lt32.diaR h k).rnd _ _ _ _
theorem Lt32.dblR {l:List Nat} (h:Lt32 l):∀k,Lt32 (dblR k l)
 | 0=>h
 | k+1=>((Lt32.dblR h k).colR 4).diaR 4

def le4 (l:List UInt8) (o:Nat):Nat:=
 (((l.getD o 0).toNat||| (l.getD (o+1) 0).toNat*2^8%4294967296)||| (l.getD (o+2) 0).toNat*2^16%4294967296)||| (l.getD (o+3) 0).toNat*2^24%4294967296

theorem le4_lt (l:List UInt8) (o:Nat):le4 l o<4294967296:=by
 have h0:=(l.getD o 0).toNat_lt
 exact Nat.or_lt_two_pow (n:=32) (Nat.or_lt_two_pow (n:=32) (Nat.or_lt_two_pow (n:=32) (by omega) (Nat.mod_lt _ (by decide))) (Nat.mod_lt _ (by decide))) (Nat.mod_lt _ (by decide))

def setW (base:Nat) (key:List UInt8):Nat→List Nat→List Nat
 | 0,l=>l
 | k+1,l=>(setW base key k l).set (base+k) (le4 key (4*k))
@[simp] theorem setW_len (base:Nat) (key:List UInt8):∀(k:Nat) (l:List Nat),(setW base key k l).length=l.length
 | 0,_=>rfl
 | k+1,l=>by simp [setW,setW_len base key k l]
theorem Lt32.setW {l:List Nat} (h:Lt32 l) (base:Nat) (key:List UInt8):∀k,Lt32 (setW base key k l)
 | 0=>h
 | k+1=>(Lt32.setW h base key k).set _ (le4_lt _ _)
theorem setW_far (base:Nat) (key:List UInt8):∀(k:Nat) (l:List Nat) (j:Nat),base+k≤j→(setW base key k l).getD j 0=l.getD j 0
 | 0,_,_,_=>rfl
 | k+1,l,j,h=>by rw [setW,getD_set_ne (by omega),setW_far base key k l j (by omega)]

def orW (base:Nat) (key:List UInt8):Nat→List Nat→List Nat
 | 0,l=>l
 | i+1,l=>(orW base key i l).set (base+i / 4) ((orW base key i l).getD (base+i / 4) 0||| (key.getD i 0).toNat*2^(8*(i%4))%4294967296)
@[simp] theorem orW_len (base:Nat) (key:List UInt8):∀(k:Nat) (l:List Nat),(orW base key k l).length=l.length
 | 0,_=>rfl
 | k+1,l=>by simp [orW,orW_len base key k l]
theorem Lt32.orW {l:List Nat} (h:Lt32 l) (base:Nat) (key:List UInt8):∀k,Lt32 (orW base key k l)
 | 0=>h
 | k+1=>(Lt32.orW h base key k).set _ (Nat.or_lt_two_pow (n:=32) (Lt32.orW h base key k _) (Nat.mod_lt _ (by decide)))

theorem orW_setW (base:Nat) (key:List UInt8) (l:List Nat):∀k,base+k≤l.length→(∀j,base≤j→j<base+k→l.getD j 0=0)→orW base key (4*k) l=setW base key k l
 | 0,_,_=>rfl
 | k+1,hk,h0=>by
   have ih:=orW_setW base key l k (by omega) (fun j h1 h2=>h0 j h1 (by omega))
   have hz:(setW base key k l).getD (base+k) 0=0:=by rw [setW_far _ _ _ _ _ (Nat.le_refl _)];exact h0 _ (by omega) (by omega)
   have e:4*(k+1)=4*k+3+1:=by omega
   have hb:=(key.getD (4*k) 0).toNat_lt
   rw [e]
   simp only [orW,ih,show (4*k+3) / 4=k by omega,show (4*k+2) / 4=k by omega,show (4*k+1) / 4=k by omega,show 4*k / 4=k by omega,
     show (4*k+3)%4=3 by omega,show (4*k+2)%4=2 by omega,show (4*k+1)%4=1 by omega,show 4*k%4=0 by omega,List.set_set]
   have hl:base+k<(setW base key k l).length:=by rw [setW_len];omega
   have g:∀v,((setW base key k l).set (base+k) v).getD (base+k) 0=v:=fun v=>getD_set_self hl
   simp only [g,hz,setW,le4,Nat.zero_or,Nat.mul_zero,Nat.pow_zero,Nat.mul_one]
   rw [Nat.mod_eq_of_lt (show (key.getD (4*k) 0).toNat<4294967296 by omega)]

def firstL (key:List UInt8) (ctr:Nat) (nonce:List UInt8):List Nat:=
 setW 13 nonce 3 ((setW 4 key 8 ([1634760805,857760878,2036477234,1797285236]++List.replicate 12 0)).set 12 ctr)
theorem firstL_len (key:List UInt8) (ctr:Nat) (nonce:List UInt8):(firstL key ctr nonce).length=16:=by simp [firstL]

theorem lt32_const:Lt32 ([1634760805,857760878,2036477234,1797285236]++List.replicate 12 0):=by
 intro i
 by_cases h:i<16
 · have:∀i<16,([1634760805,857760878,2036477234,1797285236]++List.replicate 12 0:List Nat).getD i 0<4294967296:=by decide
   exact this i h
 · rw [List.getD,List.getElem?_eq_none (by simp;omega)];decide
theorem lt32_first (key:List UInt8) {ctr:Nat} (nonce:List UInt8) (h:ctr<4294967296):Lt32 (firstL key ctr nonce):=((lt32_const.setW 4 key 8).set 12 h).setW 13 nonce 3

def outB (x y:List Nat) (i:Nat):UInt8:=UInt8.ofNat (add32 (x.getD (i / 4) 0) (y.getD (i / 4) 0) / 2^(8*(i%4))%256)
def outL (x y:List Nat):List UInt8:=(List.range 64).map (outB x y)
@[simp] theorem outL_len (x y:List Nat):(outL x y).length=64:=by simp [outL]
theorem outL_comm (x y:List Nat):outL x y=outL y x:=by
 have:outB x y=outB y x:=by
   funext i
   simp only [outB,add32]
   rw [Nat.add_comm]
 rw [outL,outL,this]

def blockF (key:List UInt8) (ctr:Nat) (nonce:List UInt8):List UInt8:=outL (dblR 10 (firstL key ctr nonce)) (firstL key ctr nonce)
@[simp] theorem blockF_len (key:List UInt8) (ctr:Nat) (nonce:List UInt8):(blockF key ctr nonce).length=64:=by simp [blockF]

end Go.Proofs.YtpmhjnhgpplmnaaGreatDoor
end

section
namespace Go.Proofs.YtpmhjnhgpplmnaaGreatDoor
open Go Go.Proofs.YtpmhjnhgpplmnaaGreatDoor.Sx

set_option maxRecDepth 100000
theorem chacha_word_vc (a0a:Option Addr) (a0n:Nat) (a0c:Nat) (w:World) (R:Ending→World→Prop) (h:∃S:World→Prop,S w.drew∧(∃t4b t4o,a0a=some ⟨t4b,t4o,none⟩∧0≤(0:Int)∧(0:Int)<(a0n:Int)∧(∃t8b t8o,a0a=some ⟨t8b,t8o,none⟩∧0≤(1:Int)∧(1:Int)<(a0n:Int)∧(∃t14b t14o,a0a=some ⟨t14b,t14o,none⟩∧0≤(2:Int)∧(2:Int)<(a0n:Int)∧(∃t20b t20o,a0a=some ⟨t20b,t20o,none⟩∧0≤(3:Int)∧(3:Int)<(a0n:Int)∧(∃t5,(∀w',S w'→LdQ 5 t4b (t4o+Int.toNat (0:Int)*1) (.int .u8 t5) w')∧(∃t9,(∀w',S w'→LdQ 5 t8b (t8o+Int.toNat (1:Int)*1) (.int .u8 t9) w')∧(∃t15,(∀w',S w'→LdQ 5 t14b (t14o+Int.toNat (2:Int)*1) (.int .u8 t15) w')∧(∃t21,(∀w',S w'→LdQ 5 t20b (t20o+Int.toNat (3:Int)*1) (.int .u8 t21) w')∧(R (.returned (.int .u32 (bor .u32 (bor .u32 (bor .u32 (IntKind.wrap .u32 t5) (shlI .u32 (IntKind.wrap .u32 t9) (8:Int))) (shlI .u32 (IntKind.wrap .u32 t15) (16:Int))) (shlI .u32 (IntKind.wrap .u32 t21) (24:Int))))) w.drew)))))))))):Calls Tryz.prog 382 #[(.slice a0a a0n a0c)] w R:=calls_of_ev2 (tc:=.sq [.rg 1,.drawS (.tk 0 .p (.tk 1 .ix (.tk 4 .p (.tk 5 .ix (.tk 10 .p (.tk 11 .ix (.tk 16 .p (.tk 17 .ix (.ts 2 (.int .u8) (.tk 3 .p (.ts 6 (.int .u8) (.tks [7,8,9] (.ts 12 (.int .u8) (.tks [13,14,15] (.ts 18 (.int .u8) (.tks (lr [(19,4)]) .nil)))))))))))))))) []] .leaf) Tryz.func382 (by kernel_rfl) (by kernel_rfl) h

theorem chacha_quarter_vc (a0:Int) (a1:Int) (a2:Int) (a3:Int) (w:World) (R:Ending→World→Prop) (h:Calls Tryz.prog 383 #[(.int .u32 (bxor .u32 a3 (IntKind.wrap .u32 (a0+a1)))),(.int .i64 16)] w fun e18 w1=>∃t18,e18=.returned (.int .u32 t18)∧(Calls Tryz.prog 383 #[(.int .u32 (bxor .u32 a1 (IntKind.wrap .u32 (a2+t18)))),(.int .i64 12)] w1 fun e25 w2=>∃t25,e25=.returned (.int .u32 t25)∧(Calls Tryz.prog 383 #[(.int .u32 (bxor .u32 t18 (IntKind.wrap .u32 ((IntKind.wrap .u32 (a0+a1))+t25)))),(.int .i64 8)] w2 fun e32 w3=>∃t32,e32=.returned (.int .u32 t32)∧(Calls Tryz.prog 383 #[(.int .u32 (bxor .u32 t25 (IntKind.wrap .u32 ((IntKind.wrap .u32 (a2+t18))+t32)))),(.int .i64 7)] w3 fun e39 w4=>∃t39,e39=.returned (.int .u32 t39)∧(R (.returned (.tuple #[(.int .u32 (IntKind.wrap .u32 ((IntKind.wrap .u32 (a0+a1))+t25))),(.int .u32 t39),(.int .u32 (IntKind.wrap .u32 ((IntKind.wrap .u32 (a2+t18))+t32))),(.int .u32 t32)])) w4))))):Calls Tryz.prog 378 #[(.int .u32 a0),(.int .u32 a1),(.int .u32 a2),(.int .u32 a3)] w R:=calls_of_ev2 (tc:=.sq [.rg 4,.rg 4,.reg (.pp 3 (.op (.cl [.int .u32]) (.op .p .nil))),.rg 4,.reg (.pp 3 (.op (.cl [.int .u32]) (.op .p .nil))),.rg 4,.reg (.pp 3 (.op (.cl [.int .u32]) (.op .p .nil))),.rg 4,.reg (.pp 3 (.op (.cl [.int .u32]) (.op .p .nil))),.rg 8] .leaf) Tryz.func378 (by kernel_rfl) (by kernel_rfl) h

theorem chacha_begin_vc (a0:Array Value) (a1:Int) (a2:Array Value) (w:World) (R:Ending→World→Prop) (h:∃g3 w1,(Instr.box 39 (.agg a0)).run Tryz.prog w=.ok (.pointer (some ⟨g3,0,none⟩)) w1∧(∃g5 w2,(Instr.box 287 (.agg a2)).run Tryz.prog w1=.ok (.pointer (some ⟨g5,0,none⟩)) w2∧(∃g6 w3,AlQ 430 g6 w2 w3∧(∃t10,(Instr.build 430 #[(0,(.int .u32 1634760805)),(1,(.int .u32 857760878)),(2,(.int .u32 2036477234)),(3,(.int .u32 1797285236))]).run Tryz.prog w3=.ok (.agg t10) w3∧(∃g7 w4,AlQ 430 g7 w3 w4∧(∃w5,StQ 430 g7 0 (.agg t10) w4 w5∧(∃(I:Int→World→Prop) (μ:Int→World→Nat),I 0 w5∧(∀x11,∀w6,I x11 w6→((decide (x11<(8:Int))=true→(0≤(IntKind.wrap .i64 ((4:Int)*x11))∧(IntKind.wrap .i64 ((4:Int)*x11))≤(32:Int)∧(32:Int)≤(32:Int)∧∀t18a,SubA 1 (some ⟨g3,0,none⟩) (Int.toNat (IntKind.wrap .i64 ((4:Int)*x11))) 32 t18a→(Calls Tryz.prog 382 #[(.slice t18a ((32)- (Int.toNat (IntKind.wrap .i64 ((4:Int)*x11)))) (32- (Int.toNat (IntKind.wrap .i64 ((4:Int)*x11)))))] w6 fun e19 w7=>∃t19,e19=.returned (.int .u32 t19)∧(0≤(IntKind.wrap .i64 ((4:Int)+x11))∧(IntKind.wrap .i64 ((4:Int)+x11))<(16:Int)∧(∃w8,StQ 370 g7 (0+Int.toNat (IntKind.wrap .i64 ((4:Int)+x11))*1) (.int .u32 t19) w7 w8∧(I (IntKind.wrap .i64 (x11+1)) w8∧μ (IntKind.wrap .i64 (x11+1)) w8<μ x11 w6))))))∧(decide (x11<(8:Int))=false→(∃w9,StQ 370 g7 12 (.int .u32 a1) w6 w9∧(∃(I_1:Int→World→Prop) (μ_1:Int→World→Nat),I_1 0 w9∧(∀x24,∀w10,I_1 x24 w10→((decide (x24<(3:Int))=true→(0≤(IntKind.wrap .i64 ((4:Int)*x24))∧(IntKind.wrap .i64 ((4:Int)*x24))≤(12:Int)∧(12:Int)≤(12:Int)∧∀t31a,SubA 1 (some ⟨g5,0,none⟩) (Int.toNat (IntKind.wrap .i64 ((4:Int)*x24))) 12 t31a→(Calls Tryz.prog 382 #[(.slice t31a ((12)- (Int.toNat (IntKind.wrap .i64 ((4:Int)*x24)))) (12- (Int.toNat (IntKind.wrap .i64 ((4:Int)*x24)))))] w10 fun e32 w11=>∃t32,e32=.returned (.int .u32 t32)∧(0≤(IntKind.wrap .i64 ((13:Int)+x24))∧(IntKind.wrap .i64 ((13:Int)+x24))<(16:Int)∧(∃w12,StQ 370 g7 (0+Int.toNat (IntKind.wrap .i64 ((13:Int)+x24))*1) (.int .u32 t32) w11 w12∧(I_1 (IntKind.wrap .i64 (x24+1)) w12∧μ_1 (IntKind.wrap .i64 (x24+1)) w12<μ_1 x24 w10))))))∧(decide (x24<(3:Int))=false→(∃t35,LdQ 430 g7 0 (.agg t35) w10∧(∃w13,StQ 430 g6 0 (.agg t35) w10 w13∧(∃r6,(loadVar 430 ⟨g6,0,none⟩).run Tryz.prog w13=.ok r6 w13∧(R (.returned r6) w13))))))))))))))))))):Calls Tryz.prog 377 #[(.agg a0),(.int .u32 a1),(.agg a2)] w R:=calls_of_ev2 (tc:=.sq [.reg (.op .bx (.op .bx (.op .bx .nil))),.reg (.op (.ld .agg) (.op .bx (.op .u .nil))),.seq (.rg 1) (.blk (.loop (lr [(8,1),(11,11)]) [11] [.int .i64] (.sq [.rg 1,.cond .leaf .leaf,.blk (.seq (.rg 2) (.reg (.pp 4 (.op .sl (.op (.cl [.int .u32]) (.op .ix (.op .u .nil)))))))] (.rg 2)))),.reg (.pp 2 (.op .u .nil)),.seq (.rg 1) (.blk (.loop (lr [(9,1),(24,11)]) [24] [.int .i64] (.sq [.rg 1,.cond .leaf .leaf,.blk (.seq (.rg 2) (.reg (.pp 4 (.op .sl (.op (.cl [.int .u32]) (.op .ix (.op .u .nil)))))))] (.rg 2)))),.reg (.op (.ld .agg) (.op .u .nil))] .leaf) Tryz.func377 (by kernel_rfl) (by kernel_rfl) h

theorem chacha_Block_vc (a0:Array Value) (a1:Int) (a2:Array Value) (w:World) (R:Ending→World→Prop) (h:∃g3 w1,(Instr.box 39 (.agg a0)).run Tryz.prog w=.ok (.pointer (some ⟨g3,0,none⟩)) w1∧(∃g5 w2,(Instr.box 287 (.agg a2)).run Tryz.prog w1=.ok (.pointer (some ⟨g5,0,none⟩)) w2∧(∃g6 w3,AlQ 368 g6 w2 w3∧(∃t17,LdQ 39 g3 0 (.agg t17) w3∧(∃t19,LdQ 287 g5 0 (.agg t19) w3∧(Calls Tryz.prog 377 #[(.agg t17),(.int .u32 a1),(.agg t19)] w3 fun e20 w4=>∃t20,e20=.returned (.agg t20)∧(∃g7 w5,AlQ 430 g7 w4 w5∧(∃w6,StQ 430 g7 0 (.agg t20) w5 w6∧(∃t21,LdQ 430 g7 0 (.agg t21) w6∧(∃g8 w7,AlQ 430 g8 w6 w7∧(∃w8,StQ 430 g8 0 (.agg t21) w7 w8∧(∃(I:Int→World→Prop) (μ:Int→World→Nat),I 0 w8∧(∀x22,∀w9,I x22 w9→((decide (x22<(10:Int))=true→(∃(I_1:Int→World→Prop) (μ_1:Int→World→Nat),I_1 0 w9∧(∀x24,∀w10,I_1 x24 w10→((decide (x24<(4:Int))=true→(∃S:World→Prop,S w10.drew∧(0≤x24∧x24<(16:Int)∧(0≤(IntKind.wrap .i64 ((4:Int)+x24))∧(IntKind.wrap .i64 ((4:Int)+x24))<(16:Int)∧(0≤(IntKind.wrap .i64 ((8:Int)+x24))∧(IntKind.wrap .i64 ((8:Int)+x24))<(16:Int)∧(0≤(IntKind.wrap .i64 ((12:Int)+x24))∧(IntKind.wrap .i64 ((12:Int)+x24))<(16:Int)∧(∃t37,(∀w',S w'→LdQ 370 g8 (0+Int.toNat x24*1) (.int .u32 t37) w')∧(∃t41,(∀w',S w'→LdQ 370 g8 (0+Int.toNat (IntKind.wrap .i64 ((4:Int)+x24))*1) (.int .u32 t41) w')∧(∃t45,(∀w',S w'→LdQ 370 g8 (0+Int.toNat (IntKind.wrap .i64 ((8:Int)+x24))*1) (.int .u32 t45) w')∧(∃t49,(∀w',S w'→LdQ 370 g8 (0+Int.toNat (IntKind.wrap .i64 ((12:Int)+x24))*1) (.int .u32 t49) w')∧(Calls Tryz.prog 378 #[(.int .u32 t37),(.int .u32 t41),(.int .u32 t45),(.int .u32 t49)] w10.drew fun e50 w11=>∃t50_0 t50_1 t50_2 t50_3,e50=.returned (.tuple #[(.int .u32 t50_0),(.int .u32 t50_1),(.int .u32 t50_2),(.int .u32 t50_3)])∧(∃S_1:World→Prop,(∀w',S_1 w'→S w')∧S_1 w11∧(0≤x24∧x24<(16:Int)∧(∃w12,StQ 370 g8 (0+Int.toNat x24*1) (.int .u32 t50_0) w11 w12∧(0≤(IntKind.wrap .i64 ((4:Int)+x24))∧(IntKind.wrap .i64 ((4:Int)+x24))<(16:Int)∧(∃w13,StQ 370 g8 (0+Int.toNat (IntKind.wrap .i64 ((4:Int)+x24))*1) (.int .u32 t50_1) w12 w13∧(0≤(IntKind.wrap .i64 ((8:Int)+x24))∧(IntKind.wrap .i64 ((8:Int)+x24))<(16:Int)∧(∃w14,StQ 370 g8 (0+Int.toNat (IntKind.wrap .i64 ((8:Int)+x24))*1) (.int .u32 t50_2) w13 w14∧(0≤(IntKind.wrap .i64 ((12:Int)+x24))∧(IntKind.wrap .i64 ((12:Int)+x24))<(16:Int)∧(∃w15,StQ 370 g8 (0+Int.toNat (IntKind.wrap .i64 ((12:Int)+x24))*1) (.int .u32 t50_3) w14 w15∧(I_1 (IntKind.wrap .i64 (x24+1)) w15∧μ_1 (IntKind.wrap .i64 (x24+1)) w15<μ_1 x24 w10)))))))))))))))))))))∧(decide (x24<(4:Int))=false→(∃(I_2:Int→World→Prop) (μ_2:Int→World→Nat),I_2 0 w10∧(∀x60,∀w16,I_2 x60 w16→((decide (x60<(4:Int))=true→(∃S:World→Prop,S w16.drew∧(0≤x60∧x60<(16:Int)∧(0≤(IntKind.wrap .i64 ((4:Int)+(Int.tmod (IntKind.wrap .i64 (x60+1)) (4:Int))))∧(IntKind.wrap .i64 ((4:Int)+(Int.tmod (IntKind.wrap .i64 (x60+1)) (4:Int))))<(16:Int)∧(0≤(IntKind.wrap .i64 ((8:Int)+(Int.tmod (IntKind.wrap .i64 (x60+(2:Int))) (4:Int))))∧(IntKind.wrap .i64 ((8:Int)+(Int.tmod (IntKind.wrap .i64 (x60+(2:Int))) (4:Int))))<(16:Int)∧(0≤(IntKind.wrap .i64 ((12:Int)+(Int.tmod (IntKind.wrap .i64 (x60+(3:Int))) (4:Int))))∧(IntKind.wrap .i64 ((12:Int)+(Int.tmod (IntKind.wrap .i64 (x60+(3:Int))) (4:Int))))<(16:Int)∧(∃t82,(∀w',S w'→LdQ 370 g8 (0+Int.toNat x60*1) (.int .u32 t82) w')∧(∃t85,(∀w',S w'→LdQ 370 g8 (0+Int.toNat (IntKind.wrap .i64 ((4:Int)+(Int.tmod (IntKind.wrap .i64 (x60+1)) (4:Int))))*1) (.int .u32 t85) w')∧(∃t88,(∀w',S w'→LdQ 370 g8 (0+Int.toNat (IntKind.wrap .i64 ((8:Int)+(Int.tmod (IntKind.wrap .i64 (x60+(2:Int))) (4:Int))))*1) (.int .u32 t88) w')∧(∃t91,(∀w',S w'→LdQ 370 g8 (0+Int.toNat (IntKind.wrap .i64 ((12:Int)+(Int.tmod (IntKind.wrap .i64 (x60+(3:Int))) (4:Int))))*1) (.int .u32 t91) w')∧(Calls Tryz.prog 378 #[(.int .u32 t82),(.int .u32 t85),(.int .u32 t88),(.int .u32 t91)] w16.drew fun e92 w17=>∃t92_0 t92_1 t92_2 t92_3,e92=.returned (.tuple #[(.int .u32 t92_0),(.int .u32 t92_1),(.int .u32 t92_2),(.int .u32 t92_3)])∧(∃S_1:World→Prop,(∀w',S_1 w'→S w')∧S_1 w17∧(0≤x60∧x60<(16:Int)∧(∃w18,StQ 370 g8 (0+Int.toNat x60*1) (.int .u32 t92_0) w17 w18∧(0≤(IntKind.wrap .i64 ((4:Int)+(Int.tmod (IntKind.wrap .i64 (x60+1)) (4:Int))))∧(IntKind.wrap .i64 ((4:Int)+(Int.tmod (IntKind.wrap .i64 (x60+1)) (4:Int))))<(16:Int)∧(∃w19,StQ 370 g8 (0+Int.toNat (IntKind.wrap .i64 ((4:Int)+(Int.tmod (IntKind.wrap .i64 (x60+1)) (4:Int))))*1) (.int .u32 t92_1) w18 w19∧(0≤(IntKind.wrap .i64 ((8:Int)+(Int.tmod (IntKind.wrap .i64 (x60+(2:Int))) (4:Int))))∧(IntKind.wrap .i64 ((8:Int)+(Int.tmod (IntKind.wrap .i64 (x60+(2:Int))) (4:Int))))<(16:Int)∧(∃w20,StQ 370 g8 (0+Int.toNat (IntKind.wrap .i64 ((8:Int)+(Int.tmod (IntKind.wrap .i64 (x60+(2:Int))) (4:Int))))*1) (.int .u32 t92_2) w19 w20∧(0≤(IntKind.wrap .i64 ((12:Int)+(Int.tmod (IntKind.wrap .i64 (x60+(3:Int))) (4:Int))))∧(IntKind.wrap .i64 ((12:Int)+(Int.tmod (IntKind.wrap .i64 (x60+(3:Int))) (4:Int))))<(16:Int)∧(∃w21,StQ 370 g8 (0+Int.toNat (IntKind.wrap .i64 ((12:Int)+(Int.tmod (IntKind.wrap .i64 (x60+(3:Int))) (4:Int))))*1) (.int .u32 t92_3) w20 w21∧(I_2 (IntKind.wrap .i64 (x60+1)) w21∧μ_2 (IntKind.wrap .i64 (x60+1)) w21<μ_2 x60 w16)))))))))))))))))))))∧(decide (x60<(4:Int))=false→(I (IntKind.wrap .i64 (x22+1)) w16∧μ (IntKind.wrap .i64 (x22+1)) w16<μ x22 w9))))))))))∧(decide (x22<(10:Int))=false→(∃g14 w22,AlQ 368 g14 w9 w22∧(∃(I_1:Int→World→Prop) (μ_1:Int→World→Nat),I_1 0 w22∧(∀x103,∀w23,I_1 x103 w23→((decide (x103<(16:Int))=true→(∃S:World→Prop,S w23.drew∧(0≤x103∧x103<(16:Int)∧(0≤x103∧x103<(16:Int)∧(∃t108,(∀w',S w'→LdQ 370 g8 (0+Int.toNat x103*1) (.int .u32 t108) w')∧(∃t111,(∀w',S w'→LdQ 370 g7 (0+Int.toNat x103*1) (.int .u32 t111) w')∧(0≤(IntKind.wrap .i64 ((4:Int)*x103))∧(IntKind.wrap .i64 ((4:Int)*x103))<(64:Int)∧(∃w24,StQ 5 g14 (0+Int.toNat (IntKind.wrap .i64 ((4:Int)*x103))*1) (.int .u8 (IntKind.wrap .u8 (IntKind.wrap .u32 (t108+t111)))) w23.drew w24∧(0≤(IntKind.wrap .i64 ((IntKind.wrap .i64 ((4:Int)*x103))+(1:Int)))∧(IntKind.wrap .i64 ((IntKind.wrap .i64 ((4:Int)*x103))+(1:Int)))<(64:Int)∧(∃w25,(Instr.storeAt 5 (.pointer (some ⟨g14,0+Int.toNat (IntKind.wrap .i64 ((IntKind.wrap .i64 ((4:Int)*x103))+(1:Int)))*1,none⟩)) (.int .u8 (IntKind.wrap .u8 (shrI .u32 (IntKind.wrap .u32 (t108+t111)) (8:Int))))).run Tryz.prog w24=.ok () w25∧(0≤(IntKind.wrap .i64 ((IntKind.wrap .i64 ((4:Int)*x103))+(2:Int)))∧(IntKind.wrap .i64 ((IntKind.wrap .i64 ((4:Int)*x103))+(2:Int)))<(64:Int)∧(∃w26,(Instr.storeAt 5 (.pointer (some ⟨g14,0+Int.toNat (IntKind.wrap .i64 ((IntKind.wrap .i64 ((4:Int)*x103))+(2:Int)))*1,none⟩)) (.int .u8 (IntKind.wrap .u8 (shrI .u32 (IntKind.wrap .u32 (t108+t111)) (16:Int))))).run Tryz.prog w25=.ok () w26∧(0≤(IntKind.wrap .i64 ((IntKind.wrap .i64 ((4:Int)*x103))+(3:Int)))∧(IntKind.wrap .i64 ((IntKind.wrap .i64 ((4:Int)*x103))+(3:Int)))<(64:Int)∧(∃w27,(Instr.storeAt 5 (.pointer (some ⟨g14,0+Int.toNat (IntKind.wrap .i64 ((IntKind.wrap .i64 ((4:Int)*x103))+(3:Int)))*1,none⟩)) (.int .u8 (IntKind.wrap .u8 (shrI .u32 (IntKind.wrap .u32 (t108+t111)) (24:Int))))).run Tryz.prog w26=.ok () w27∧(I_1 (IntKind.wrap .i64 (x103+1)) w27∧μ_1 (IntKind.wrap .i64 (x103+1)) w27<μ_1 x103 w23)))))))))))))))∧(decide (x103<(16:Int))=false→(∃t140,LdQ 368 g14 0 (.agg t140) w23∧(∃w28,StQ 368 g6 0 (.agg t140) w23 w28∧(∃r6,(loadVar 368 ⟨g6,0,none⟩).run Tryz.prog w28=.ok r6 w28∧(R (.returned r6) w28)))))))))))))))))))))))):Calls Tryz.prog 364 #[(.agg a0),(.int .u32 a1),(.agg a2)] w R:=calls_of_ev2 (tc:=.sq [.reg (.op .bx (.op .bx (.op .bx .nil))),.reg (.op (.ld .agg) (.op .p (.op (.ld .agg) (.op (.cl [.agg]) (.op .bx (.op .u .nil)))))),.reg (.op (.ld .agg) (.op .bx (.op .u .nil))),.seq (.rg 1) (.blk (.loop (lr [(9,5),(22,81)]) [22] [.int .i64] (.sq [.rg 1,.cond .leaf .leaf,.blk (.sq [.seq (.rg 1) (.blk (.loop (lr [(9,1),(24,36)]) [24] [.int .i64] (.sq [.rg 1,.cond .leaf .leaf,.blk (.seq (.rg 2) (.drawS (.tks (lr [(0,8)]) (.tk 8 .ix (.tks [10,11] (.tk 12 .ix (.tks [14,15] (.tk 16 .ix (.tks [18,19] (.tk 20 .ix (.ts 9 (.int .u32) (.ts 13 (.int .u32) (.ts 17 (.int .u32) (.ts 21 (.int .u32) (.go 22 (.cl [.int .u32,.int .u32,.int .u32,.int .u32]) (.tks (lr [(23,5)]) (.tk 28 .ix (.go 29 .u (.tk 30 .ix (.go 31 .u (.tk 32 .ix (.go 33 .u (.tk 34 .ix (.go 35 .u .nil)))))))))))))))))))))) (lr [(0,9),(10,3),(14,3),(18,3),(23,13)])))] (.rg 2)))),.rg 1] (.blk (.loop (lr [(10,4),(60,42)]) [60] [.int .i64] (.sq [.rg 1,.cond .leaf .leaf,.blk (.sq [.rg 2,.rg 15] (.drawS (.tks (lr [(0,5)]) (.tk 5 .ix (.tk 7 .p (.tk 8 .ix (.tk 10 .p (.tk 11 .ix (.tk 13 .p (.tk 14 .ix (.ts 6 (.int .u32) (.ts 9 (.int .u32) (.ts 12 (.int .u32) (.ts 15 (.int .u32) (.go 16 (.cl [.int .u32,.int .u32,.int .u32,.int .u32]) (.tks (lr [(17,5)]) (.tk 22 .ix (.go 23 .u (.tk 24 .ix (.go 25 .u (.tk 26 .ix (.go 27 .u (.tk 28 .ix (.go 29 .u .nil)))))))))))))))))))))) (lr [(0,6),(7,2),(10,2),(13,2),(17,13)])))] (.rg 2)))))] (.rg 2)))),.reg (.op .bx .nil),.seq (.rg 1) (.blk (.loop (lr [(15,2),(103,37)]) [103] [.int .i64] (.sq [.rg 1,.cond .leaf .leaf,.blk (.sq [.rg 2,.drawS (.tk 0 .p (.tk 1 .ix (.tk 3 .p (.tk 4 .ix (.ts 2 (.int .u32) (.ts 5 (.int .u32) (.tks [6,7] .nil))))))) []] (.reg (.pp 22 (.op .ix (.op .u (.op .ix (.op .u (.op .ix (.op .u (.op .ix (.op .u .nil)))))))))))] (.rg 2)))),.reg (.op (.ld .agg) (.op .u .nil))] .leaf) Tryz.func364 (by kernel_rfl) (by kernel_rfl) h

theorem chacha_seat_over_vc (a0b:Nat) (a0o:Nat) (a1:Int) (a2a:Option Addr) (a2n:Nat) (a2c:Nat) (w:World) (R:Ending→World→Prop) (h:∃g6 w1,AlQ 368 g6 w w1∧(∃(I:Int→Int→World→Prop) (μ:Int→Int→World→Nat),I (-1) 0 w1∧(∀x7 x12,∀w2,I x7 x12 w2→((decide (x12<(a2n:Int))=true→(∃J:Int→World→Prop,((((IntKind.wrap .i64 (Int.tdiv (IntKind.wrap .i64 (a1+x12)) (64:Int))) != x7)=true→(∃S:World→Prop,S w2.drew∧(∃t25,(∀w',S w'→LdQ 39 a0b a0o (.agg t25) w')∧(∃t31,(∀w',S w'→LdQ 287 a0b (a0o+32) (.agg t31) w')∧(Calls Tryz.prog 364 #[(.agg t25),(.int .u32 (IntKind.wrap .u32 (IntKind.wrap .i64 (Int.tdiv (IntKind.wrap .i64 (a1+x12)) (64:Int))))),(.agg t31)] w2.drew fun e32 w3=>∃t32,e32=.returned (.agg t32)∧(∃S_1:World→Prop,(∀w',S_1 w'→S w')∧S_1 w3∧(∃w4,StQ 368 g6 0 (.agg t32) w3 w4∧(J (IntKind.wrap .i64 (Int.tdiv (IntKind.wrap .i64 (a1+x12)) (64:Int))) w4))))))))∧(((IntKind.wrap .i64 (Int.tdiv (IntKind.wrap .i64 (a1+x12)) (64:Int))) != x7)=false→(J x7 w2)))∧(∀x7_1,∀w5,J x7_1 w5→(∃S:World→Prop,S w5.drew∧(∃t36b t36o,a2a=some ⟨t36b,t36o,none⟩∧0≤x12∧x12<(a2n:Int)∧(0≤(Int.tmod (IntKind.wrap .i64 (a1+x12)) (64:Int))∧(Int.tmod (IntKind.wrap .i64 (a1+x12)) (64:Int))<(64:Int)∧(∃t37,(∀w',S w'→LdQ 5 t36b (t36o+Int.toNat x12*1) (.int .u8 t37) w')∧(∃t43,(∀w',S w'→LdQ 5 g6 (0+Int.toNat (Int.tmod (IntKind.wrap .i64 (a1+x12)) (64:Int))*1) (.int .u8 t43) w')∧(∃t45b t45o,a2a=some ⟨t45b,t45o,none⟩∧0≤x12∧x12<(a2n:Int)∧(∃w6,StQ 5 t45b (t45o+Int.toNat x12*1) (.int .u8 (bxor .u8 t37 t43)) w5.drew w6∧(I x7_1 (IntKind.wrap .i64 (x12+1)) w6∧μ x7_1 (IntKind.wrap .i64 (x12+1)) w6<μ x7 x12 w2)))))))))))∧(decide (x12<(a2n:Int))=false→(R (.returned (.tuple #[])) w2)))))):Calls Tryz.prog 328 #[(.pointer (some ⟨a0b,a0o,none⟩)),(.int .i64 a1),(.slice a2a a2n a2c)] w R:=calls_of_ev2 (tc:=.sq [.reg (.op .bx .nil),.rg 1,.rg 3] (.blk (.loop (lr [(7,3),(12,35)]) [7,12] [.int .i64,.int .i64] (.sq [.rg 1,.cond .leaf .leaf,.blk (.sq [.rg 2,.sq [.rg 5,.rg 3] (.join (lr [(7,1),(22,12)]) [7] [.int .i64] (.cond (.drawS (.tks [0,1,2,4,5,6,7,8,11] (.ts 3 .agg (.ts 9 .agg (.go 10 (.cl [.agg]) (.go 12 .u (.tk 13 .p .nil)))))) (lr [(0,3),(4,5),(11,3)])) .leaf))] (.drawS (.tks [0,1] (.tk 2 .ix (.tks [4,5,6,7] (.tk 8 .ix (.ts 3 (.int .u8) (.ts 9 (.int .u8) (.tk 10 .p (.tk 11 .ix (.go 12 .u .nil))))))))) [12]))] (.rg 2))))) Tryz.func328 (by kernel_rfl) (by kernel_rfl) h

theorem chacha_room_vc (a0:Int) (a1:Int) (w:World) (R:Ending→World→Prop) (h:R (.returned (.bool (((decide (a0≥(0:Int)))&&(decide (a0≤(274877906944:Int))))&&(decide (a1≤(IntKind.wrap .i64 ((274877906944:Int)-a0))))))) w):Calls Tryz.prog 327 #[(.int .i64 a0),(.int .i64 a1)] w R:=calls_of_ev2 (tc:=.sq [.rg 1,.reg (.pp 3 (.ap 2 (.op .p (.ap 4 (.op .p .nil)))))] .leaf) Tryz.func327 (by kernel_rfl) (by kernel_rfl) h

theorem chacha_XOR_vc (a0:Array Value) (a1:Array Value) (a2:Int) (a3a:Option Addr) (a3n:Nat) (a3c:Nat) (w:World) (R:Ending→World→Prop) (h:∃g4 w1,(Instr.box 39 (.agg a0)).run Tryz.prog w=.ok (.pointer (some ⟨g4,0,none⟩)) w1∧(∃g5 w2,(Instr.box 287 (.agg a1)).run Tryz.prog w1=.ok (.pointer (some ⟨g5,0,none⟩)) w2∧(Calls Tryz.prog 327 #[(.int .i64 a2),(.int .i64 (a3n:Int))] w2 fun e14 w3=>∃t14,e14=.returned (.bool t14)∧(((!t14)=true→(R (.returned (.tuple #[(.slice none 0 0),(.iface 65 (.int .i64 8))])) w3))∧((!t14)=false→(∃t19a t19n t19c w4,(Instr.makeSlice 26 (.int .i64 0) (.int .i64 (a3n:Int))).run Tryz.prog w3=.ok (.slice t19a t19n t19c) w4∧(∃t21a t21n t21c w5,(Builtin.append_ #[26,26] 26 #[(.slice t19a t19n t19c),(.slice a3a a3n a3c)]).run Tryz.prog w4=.ok (.slice t21a t21n t21c) w5∧(∃t22,LdQ 39 g4 0 (.agg t22) w5∧(∃t23,LdQ 287 g5 0 (.agg t23) w5∧(∃t24,(Instr.build 428 #[(0,(.agg t22)),(1,(.agg t23))]).run Tryz.prog w5=.ok (.agg t24) w5∧(∃g25 w6,(Instr.box 428 (.agg t24)).run Tryz.prog w5=.ok (.pointer (some ⟨g25,0,none⟩)) w6∧(Calls Tryz.prog 328 #[(.pointer (some ⟨g25,0,none⟩)),(.int .i64 a2),(.slice t21a t21n t21c)] w6 fun e28 w7=>e28=.returned (.tuple #[])∧(R (.returned (.tuple #[(.slice t21a t21n t21c),.nilIface])) w7))))))))))))):Calls Tryz.prog 272 #[(.agg a0),(.agg a1),(.int .i64 a2),(.slice a3a a3n a3c)] w R:=calls_of_ev2 (tc:=.sq [.reg (.op .bx (.op .bx (.pp 2 .nil))),.seq (.reg (.pp 3 (.op (.cl [.bool]) (.op .p .nil)))) (.cond (.seq (.rg 3) .leaf) .leaf),.reg (.pp 2 (.op (.r .slice) (.op .p (.op (.r .slice) (.op .p .nil))))),.reg (.op (.ld .agg) (.op (.ld .agg) (.op (.ld .agg) (.op .bx (.pp 2 (.op (.cl []) .nil)))))),.rg 3] .leaf) Tryz.func272 (by kernel_rfl) (by kernel_rfl) h

end Go.Proofs.YtpmhjnhgpplmnaaGreatDoor
end

section
namespace Go.Proofs.YtpmhjnhgpplmnaaGreatDoor
open Go Go.Proofs.YtpmhjnhgpplmnaaGreatDoor.Sx

set_option maxRecDepth 100000
theorem amphoraref03_left_vc (a0:Int) (a1:Int) (w:World) (R:Ending→World→Prop) (h:0≤a1∧(0≤(IntKind.wrap .u64 ((32:Int)-a1))∧(R (.returned (.int .u32 (bor .u32 (shlI .u32 a0 a1) (shrI .u32 a0 (IntKind.wrap .u64 ((32:Int)-a1)))))) w))):Calls Tryz.prog 365 #[(.int .u32 a0),(.int .u64 a1)] w R:=calls_of_ev2 (tc:=.sq [.rg 1,.reg (.pp 2 (.op .sc (.pp 3 (.op .sc (.pp 2 .nil)))))] .leaf) Tryz.func365 (by kernel_rfl) (by kernel_rfl) h

theorem amphoraref03_round_vc (a0b:Nat) (a0o:Nat) (a1:Int) (a2:Int) (a3:Int) (a4:Int) (w:World) (R:Ending→World→Prop) (h:∃S:World→Prop,S w.drew∧(0≤a1∧a1<(16:Int)∧(0≤a2∧a2<(16:Int)∧(∃t16,(∀w',S w'→LdQ 370 a0b (a0o+Int.toNat a1*1) (.int .u32 t16) w')∧(∃t21,(∀w',S w'→LdQ 370 a0b (a0o+Int.toNat a2*1) (.int .u32 t21) w')∧(0≤a1∧a1<(16:Int)∧(∃w1,StQ 370 a0b (a0o+Int.toNat a1*1) (.int .u32 (IntKind.wrap .u32 (t16+t21))) w.drew w1∧(∃S_1:World→Prop,S_1 w1.drew∧(0≤a4∧a4<(16:Int)∧(0≤a1∧a1<(16:Int)∧(∃t31,(∀w',S_1 w'→LdQ 370 a0b (a0o+Int.toNat a4*1) (.int .u32 t31) w')∧(∃t36,(∀w',S_1 w'→LdQ 370 a0b (a0o+Int.toNat a1*1) (.int .u32 t36) w')∧(Calls Tryz.prog 365 #[(.int .u32 (bxor .u32 t31 t36)),(.int .u64 16)] w1.drew fun e38 w2=>∃t38,e38=.returned (.int .u32 t38)∧(∃S_2:World→Prop,(∀w',S_2 w'→S_1 w')∧S_2 w2∧(0≤a4∧a4<(16:Int)∧(∃w3,StQ 370 a0b (a0o+Int.toNat a4*1) (.int .u32 t38) w2 w3∧(∃S_3:World→Prop,S_3 w3.drew∧(0≤a3∧a3<(16:Int)∧(0≤a4∧a4<(16:Int)∧(∃t47,(∀w',S_3 w'→LdQ 370 a0b (a0o+Int.toNat a3*1) (.int .u32 t47) w')∧(∃t52,(∀w',S_3 w'→LdQ 370 a0b (a0o+Int.toNat a4*1) (.int .u32 t52) w')∧(0≤a3∧a3<(16:Int)∧(∃w4,StQ 370 a0b (a0o+Int.toNat a3*1) (.int .u32 (IntKind.wrap .u32 (t47+t52))) w3.drew w4∧(∃S_4:World→Prop,S_4 w4.drew∧(0≤a2∧a2<(16:Int)∧(0≤a3∧a3<(16:Int)∧(∃t62,(∀w',S_4 w'→LdQ 370 a0b (a0o+Int.toNat a2*1) (.int .u32 t62) w')∧(∃t67,(∀w',S_4 w'→LdQ 370 a0b (a0o+Int.toNat a3*1) (.int .u32 t67) w')∧(Calls Tryz.prog 365 #[(.int .u32 (bxor .u32 t62 t67)),(.int .u64 12)] w4.drew fun e69 w5=>∃t69,e69=.returned (.int .u32 t69)∧(∃S_5:World→Prop,(∀w',S_5 w'→S_4 w')∧S_5 w5∧(0≤a2∧a2<(16:Int)∧(∃w6,StQ 370 a0b (a0o+Int.toNat a2*1) (.int .u32 t69) w5 w6∧(∃S_6:World→Prop,S_6 w6.drew∧(0≤a1∧a1<(16:Int)∧(0≤a2∧a2<(16:Int)∧(∃t78,(∀w',S_6 w'→LdQ 370 a0b (a0o+Int.toNat a1*1) (.int .u32 t78) w')∧(∃t83,(∀w',S_6 w'→LdQ 370 a0b (a0o+Int.toNat a2*1) (.int .u32 t83) w')∧(0≤a1∧a1<(16:Int)∧(∃w7,StQ 370 a0b (a0o+Int.toNat a1*1) (.int .u32 (IntKind.wrap .u32 (t78+t83))) w6.drew w7∧(∃S_7:World→Prop,S_7 w7.drew∧(0≤a4∧a4<(16:Int)∧(0≤a1∧a1<(16:Int)∧(∃t93,(∀w',S_7 w'→LdQ 370 a0b (a0o+Int.toNat a4*1) (.int .u32 t93) w')∧(∃t98,(∀w',S_7 w'→LdQ 370 a0b (a0o+Int.toNat a1*1) (.int .u32 t98) w')∧(Calls Tryz.prog 365 #[(.int .u32 (bxor .u32 t93 t98)),(.int .u64 8)] w7.drew fun e100 w8=>∃t100,e100=.returned (.int .u32 t100)∧(∃S_8:World→Prop,(∀w',S_8 w'→S_7 w')∧S_8 w8∧(0≤a4∧a4<(16:Int)∧(∃w9,StQ 370 a0b (a0o+Int.toNat a4*1) (.int .u32 t100) w8 w9∧(∃S_9:World→Prop,S_9 w9.drew∧(0≤a3∧a3<(16:Int)∧(0≤a4∧a4<(16:Int)∧(∃t109,(∀w',S_9 w'→LdQ 370 a0b (a0o+Int.toNat a3*1) (.int .u32 t109) w')∧(∃t114,(∀w',S_9 w'→LdQ 370 a0b (a0o+Int.toNat a4*1) (.int .u32 t114) w')∧(0≤a3∧a3<(16:Int)∧(∃w10,StQ 370 a0b (a0o+Int.toNat a3*1) (.int .u32 (IntKind.wrap .u32 (t109+t114))) w9.drew w10∧(∃S_10:World→Prop,S_10 w10.drew∧(0≤a2∧a2<(16:Int)∧(0≤a3∧a3<(16:Int)∧(∃t124,(∀w',S_10 w'→LdQ 370 a0b (a0o+Int.toNat a2*1) (.int .u32 t124) w')∧(∃t129,(∀w',S_10 w'→LdQ 370 a0b (a0o+Int.toNat a3*1) (.int .u32 t129) w')∧(Calls Tryz.prog 365 #[(.int .u32 (bxor .u32 t124 t129)),(.int .u64 7)] w10.drew fun e131 w11=>∃t131,e131=.returned (.int .u32 t131)∧(∃S_11:World→Prop,(∀w',S_11 w'→S_10 w')∧S_11 w11∧(0≤a2∧a2<(16:Int)∧(∃w12,StQ 370 a0b (a0o+Int.toNat a2*1) (.int .u32 t131) w11 w12∧(R (.returned (.tuple #[])) w12))))))))))))))))))))))))))))))))))))))))))))))))))))))))))))))))):Calls Tryz.prog 329 #[(.pointer (some ⟨a0b,a0o,none⟩)),(.int .i64 a1),(.int .i64 a2),(.int .i64 a3),(.int .i64 a4)] w R:=calls_of_ev2 (tc:=.sq [.drawS (.tks (lr [(0,5)]) (.tk 5 .ix (.tks [7,8,9] (.tk 10 .ix (.tk 13 .p (.ts 6 (.int .u32) (.ts 11 (.int .u32) (.tk 12 .p (.tk 14 .ix (.go 15 .u .nil)))))))))) [15],.drawS (.tks (lr [(0,5)]) (.tk 5 .ix (.tks [7,8,9] (.tk 10 .ix (.tk 14 .p (.ts 6 (.int .u32) (.ts 11 (.int .u32) (.tk 12 .p (.go 13 (.cl [.int .u32]) (.tk 15 .ix (.go 16 .u .nil))))))))))) [16],.drawS (.tks (lr [(0,5)]) (.tk 5 .ix (.tks [7,8,9] (.tk 10 .ix (.tk 13 .p (.ts 6 (.int .u32) (.ts 11 (.int .u32) (.tk 12 .p (.tk 14 .ix (.go 15 .u .nil)))))))))) [15],.drawS (.tks (lr [(0,5)]) (.tk 5 .ix (.tks [7,8,9] (.tk 10 .ix (.tk 14 .p (.ts 6 (.int .u32) (.ts 11 (.int .u32) (.tk 12 .p (.go 13 (.cl [.int .u32]) (.tk 15 .ix (.go 16 .u .nil))))))))))) [16],.drawS (.tks (lr [(0,5)]) (.tk 5 .ix (.tks [7,8,9] (.tk 10 .ix (.tk 13 .p (.ts 6 (.int .u32) (.ts 11 (.int .u32) (.tk 12 .p (.tk 14 .ix (.go 15 .u .nil)))))))))) [15],.drawS (.tks (lr [(0,5)]) (.tk 5 .ix (.tks [7,8,9] (.tk 10 .ix (.tk 14 .p (.ts 6 (.int .u32) (.ts 11 (.int .u32) (.tk 12 .p (.go 13 (.cl [.int .u32]) (.tk 15 .ix (.go 16 .u .nil))))))))))) [16],.drawS (.tks (lr [(0,5)]) (.tk 5 .ix (.tks [7,8,9] (.tk 10 .ix (.tk 13 .p (.ts 6 (.int .u32) (.ts 11 (.int .u32) (.tk 12 .p (.tk 14 .ix (.go 15 .u .nil)))))))))) [15]] (.drawS (.tks (lr [(0,5)]) (.tk 5 .ix (.tks [7,8,9] (.tk 10 .ix (.tk 14 .p (.ts 6 (.int .u32) (.ts 11 (.int .u32) (.tk 12 .p (.go 13 (.cl [.int .u32]) (.tk 15 .ix (.go 16 .u .nil))))))))))) [16])) Tryz.func329 (by kernel_rfl) (by kernel_rfl) h

theorem amphoraref03_Block_vc (a0:Array Value) (a1:Int) (a2:Array Value) (w:World) (R:Ending→World→Prop) (h:∃g3 w1,(Instr.box 39 (.agg a0)).run Tryz.prog w=.ok (.pointer (some ⟨g3,0,none⟩)) w1∧(∃g5 w2,(Instr.box 287 (.agg a2)).run Tryz.prog w1=.ok (.pointer (some ⟨g5,0,none⟩)) w2∧(∃g6 w3,AlQ 368 g6 w2 w3∧(∃t15,(Instr.build 430 #[]).run Tryz.prog w3=.ok (.agg t15) w3∧(∃g7 w4,AlQ 430 g7 w3 w4∧(∃w5,StQ 430 g7 0 (.agg t15) w4 w5∧(∃w6,StQ 370 g7 0 (.int .u32 1634760805) w5 w6∧(∃w7,StQ 370 g7 1 (.int .u32 857760878) w6 w7∧(∃w8,StQ 370 g7 2 (.int .u32 2036477234) w7 w8∧(∃w9,StQ 370 g7 3 (.int .u32 1797285236) w8 w9∧(∃w10,StQ 370 g7 12 (.int .u32 a1) w9 w10∧(∃(I:Int→World→Prop) (μ:Int→World→Nat),I 0 w10∧(∀x8,∀w11,I x8 w11→((decide (x8<(32:Int))=true→(∃S:World→Prop,S w11.drew∧(0≤(IntKind.wrap .i64 ((4:Int)+(IntKind.wrap .i64 (Int.tdiv x8 (4:Int)))))∧(IntKind.wrap .i64 ((4:Int)+(IntKind.wrap .i64 (Int.tdiv x8 (4:Int)))))<(16:Int)∧(0≤x8∧x8<(32:Int)∧(∃t33,(∀w',S w'→LdQ 370 g7 (0+Int.toNat (IntKind.wrap .i64 ((4:Int)+(IntKind.wrap .i64 (Int.tdiv x8 (4:Int)))))*1) (.int .u32 t33) w')∧(∃t36,(∀w',S w'→LdQ 5 g3 (0+Int.toNat x8*1) (.int .u8 t36) w')∧(0≤(IntKind.wrap .u64 ((8:Int)*(IntKind.wrap .u64 (Int.tmod x8 (4:Int)))))∧(0≤(IntKind.wrap .i64 ((4:Int)+(IntKind.wrap .i64 (Int.tdiv x8 (4:Int)))))∧(IntKind.wrap .i64 ((4:Int)+(IntKind.wrap .i64 (Int.tdiv x8 (4:Int)))))<(16:Int)∧(∃w12,(Instr.storeAt 370 (.pointer (some ⟨g7,0+Int.toNat (IntKind.wrap .i64 ((4:Int)+(IntKind.wrap .i64 (Int.tdiv x8 (4:Int)))))*1,none⟩)) (.int .u32 (bor .u32 t33 (shlI .u32 (IntKind.wrap .u32 t36) (IntKind.wrap .u64 ((8:Int)*(IntKind.wrap .u64 (Int.tmod x8 (4:Int))))))))).run Tryz.prog w11.drew=.ok () w12∧(I (IntKind.wrap .i64 (x8+1)) w12∧μ (IntKind.wrap .i64 (x8+1)) w12<μ x8 w11))))))))))∧(decide (x8<(32:Int))=false→(∃(I_1:Int→World→Prop) (μ_1:Int→World→Nat),I_1 0 w11∧(∀x9,∀w13,I_1 x9 w13→((decide (x9<(12:Int))=true→(∃S:World→Prop,S w13.drew∧(0≤(IntKind.wrap .i64 ((13:Int)+(IntKind.wrap .i64 (Int.tdiv x9 (4:Int)))))∧(IntKind.wrap .i64 ((13:Int)+(IntKind.wrap .i64 (Int.tdiv x9 (4:Int)))))<(16:Int)∧(0≤x9∧x9<(12:Int)∧(∃t56,(∀w',S w'→LdQ 370 g7 (0+Int.toNat (IntKind.wrap .i64 ((13:Int)+(IntKind.wrap .i64 (Int.tdiv x9 (4:Int)))))*1) (.int .u32 t56) w')∧(∃t59,(∀w',S w'→LdQ 5 g5 (0+Int.toNat x9*1) (.int .u8 t59) w')∧(0≤(IntKind.wrap .u64 ((8:Int)*(IntKind.wrap .u64 (Int.tmod x9 (4:Int)))))∧(0≤(IntKind.wrap .i64 ((13:Int)+(IntKind.wrap .i64 (Int.tdiv x9 (4:Int)))))∧(IntKind.wrap .i64 ((13:Int)+(IntKind.wrap .i64 (Int.tdiv x9 (4:Int)))))<(16:Int)∧(∃w14,(Instr.storeAt 370 (.pointer (some ⟨g7,0+Int.toNat (IntKind.wrap .i64 ((13:Int)+(IntKind.wrap .i64 (Int.tdiv x9 (4:Int)))))*1,none⟩)) (.int .u32 (bor .u32 t56 (shlI .u32 (IntKind.wrap .u32 t59) (IntKind.wrap .u64 ((8:Int)*(IntKind.wrap .u64 (Int.tmod x9 (4:Int))))))))).run Tryz.prog w13.drew=.ok () w14∧(I_1 (IntKind.wrap .i64 (x9+1)) w14∧μ_1 (IntKind.wrap .i64 (x9+1)) w14<μ_1 x9 w13))))))))))∧(decide (x9<(12:Int))=false→(∃t68,LdQ 430 g7 0 (.agg t68) w13∧(∃g10 w15,AlQ 430 g10 w13 w15∧(∃w16,StQ 430 g10 0 (.agg t68) w15 w16∧(∃(I_2:Int→World→Prop) (μ_2:Int→World→Nat),I_2 0 w16∧(∀x11,∀w17,I_2 x11 w17→((decide (x11<(10:Int))=true→(Calls Tryz.prog 329 #[(.pointer (some ⟨g10,0,none⟩)),(.int .i64 0),(.int .i64 4),(.int .i64 8),(.int .i64 12)] w17 fun e73 w18=>e73=.returned (.tuple #[])∧(Calls Tryz.prog 329 #[(.pointer (some ⟨g10,0,none⟩)),(.int .i64 1),(.int .i64 5),(.int .i64 9),(.int .i64 13)] w18 fun e74 w19=>e74=.returned (.tuple #[])∧(Calls Tryz.prog 329 #[(.pointer (some ⟨g10,0,none⟩)),(.int .i64 2),(.int .i64 6),(.int .i64 10),(.int .i64 14)] w19 fun e75 w20=>e75=.returned (.tuple #[])∧(Calls Tryz.prog 329 #[(.pointer (some ⟨g10,0,none⟩)),(.int .i64 3),(.int .i64 7),(.int .i64 11),(.int .i64 15)] w20 fun e76 w21=>e76=.returned (.tuple #[])∧(Calls Tryz.prog 329 #[(.pointer (some ⟨g10,0,none⟩)),(.int .i64 0),(.int .i64 5),(.int .i64 10),(.int .i64 15)] w21 fun e77 w22=>e77=.returned (.tuple #[])∧(Calls Tryz.prog 329 #[(.pointer (some ⟨g10,0,none⟩)),(.int .i64 1),(.int .i64 6),(.int .i64 11),(.int .i64 12)] w22 fun e78 w23=>e78=.returned (.tuple #[])∧(Calls Tryz.prog 329 #[(.pointer (some ⟨g10,0,none⟩)),(.int .i64 2),(.int .i64 7),(.int .i64 8),(.int .i64 13)] w23 fun e79 w24=>e79=.returned (.tuple #[])∧(Calls Tryz.prog 329 #[(.pointer (some ⟨g10,0,none⟩)),(.int .i64 3),(.int .i64 4),(.int .i64 9),(.int .i64 14)] w24 fun e80 w25=>e80=.returned (.tuple #[])∧(I_2 (IntKind.wrap .i64 (x11+1)) w25∧μ_2 (IntKind.wrap .i64 (x11+1)) w25<μ_2 x11 w17))))))))))∧(decide (x11<(10:Int))=false→(∃t81,(Instr.build 368 #[]).run Tryz.prog w17=.ok (.agg t81) w17∧(∃g12 w26,AlQ 368 g12 w17 w26∧(∃w27,StQ 368 g12 0 (.agg t81) w26 w27∧(∃(I_3:Int→World→Prop) (μ_3:Int→World→Nat),I_3 0 w27∧(∀x13,∀w28,I_3 x13 w28→((decide (x13<(64:Int))=true→(∃S:World→Prop,S w28.drew∧(0≤(IntKind.wrap .i64 (Int.tdiv x13 (4:Int)))∧(IntKind.wrap .i64 (Int.tdiv x13 (4:Int)))<(16:Int)∧(0≤(IntKind.wrap .i64 (Int.tdiv x13 (4:Int)))∧(IntKind.wrap .i64 (Int.tdiv x13 (4:Int)))<(16:Int)∧(∃t89,(∀w',S w'→LdQ 370 g7 (0+Int.toNat (IntKind.wrap .i64 (Int.tdiv x13 (4:Int)))*1) (.int .u32 t89) w')∧(∃t93,(∀w',S w'→LdQ 370 g10 (0+Int.toNat (IntKind.wrap .i64 (Int.tdiv x13 (4:Int)))*1) (.int .u32 t93) w')∧(0≤(IntKind.wrap .u64 ((8:Int)*(IntKind.wrap .u64 (Int.tmod x13 (4:Int)))))∧(0≤x13∧x13<(64:Int)∧(∃w29,(Instr.storeAt 5 (.pointer (some ⟨g12,0+Int.toNat x13*1,none⟩)) (.int .u8 (IntKind.wrap .u8 (shrI .u32 (IntKind.wrap .u32 (t89+t93)) (IntKind.wrap .u64 ((8:Int)*(IntKind.wrap .u64 (Int.tmod x13 (4:Int))))))))).run Tryz.prog w28.drew=.ok () w29∧(I_3 (IntKind.wrap .i64 (x13+1)) w29∧μ_3 (IntKind.wrap .i64 (x13+1)) w29<μ_3 x13 w28))))))))))∧(decide (x13<(64:Int))=false→(∃t104,LdQ 368 g12 0 (.agg t104) w28∧(∃w30,StQ 368 g6 0 (.agg t104) w28 w30∧(∃r6,(loadVar 368 ⟨g6,0,none⟩).run Tryz.prog w30=.ok r6 w30∧(R (.returned r6) w30))))))))))))))))))))))))))))))))))))):Calls Tryz.prog 273 #[(.agg a0),(.int .u32 a1),(.agg a2)] w R:=calls_of_ev2 (tc:=.sq [.reg (.op .bx (.op .bx (.op .bx .nil))),.reg (.op (.ld .agg) (.op .bx (.op .u .nil))),.reg (.op .p (.op .u .nil)),.reg (.op .p (.op .u .nil)),.reg (.op .p (.op .u .nil)),.reg (.op .p (.op .u .nil)),.reg (.pp 2 (.op .u .nil)),.seq (.rg 1) (.blk (.loop (lr [(8,1),(22,23)]) [8] [.int .i64] (.sq [.seq (.rg 2) (.cond .leaf .leaf),.blk (.drawS (.tks (lr [(0,6)]) (.tk 6 .ix (.tk 8 .p (.tk 9 .ix (.tks (lr [(12,4)]) (.ts 7 (.int .u32) (.ts 10 (.int .u8) (.tk 11 .p (.tk 16 .sc (.tk 17 .p (.tk 18 .ix (.go 19 .u .nil)))))))))))) [19])] (.rg 3)))),.seq (.rg 1) (.blk (.loop (lr [(9,1),(45,23)]) [9] [.int .i64] (.sq [.seq (.rg 2) (.cond .leaf .leaf),.blk (.drawS (.tks (lr [(0,6)]) (.tk 6 .ix (.tk 8 .p (.tk 9 .ix (.tks (lr [(12,4)]) (.ts 7 (.int .u32) (.ts 10 (.int .u8) (.tk 11 .p (.tk 16 .sc (.tk 17 .p (.tk 18 .ix (.go 19 .u .nil)))))))))))) [19])] (.rg 3)))),.reg (.op (.ld .agg) (.op .bx (.op .u .nil))),.seq (.rg 1) (.blk (.loop (lr [(11,1),(69,12)]) [11] [.int .i64] (.sq [.seq (.rg 2) (.cond .leaf .leaf),.blk (.sq [.reg (.op (.cl []) .nil),.reg (.op (.cl []) .nil),.reg (.op (.cl []) .nil),.reg (.op (.cl []) .nil),.reg (.op (.cl []) .nil),.reg (.op (.cl []) .nil),.reg (.op (.cl []) .nil)] (.reg (.op (.cl []) .nil)))] (.rg 3)))),.reg (.op (.ld .agg) (.op .bx (.op .u .nil))),.seq (.rg 1) (.blk (.loop (lr [(13,2),(82,22)]) [13] [.int .i64] (.sq [.seq (.rg 2) (.cond .leaf .leaf),.blk (.seq (.drawS (.tks [0,1] (.tk 2 .ix (.tks [4,5] (.tk 6 .ix (.ts 3 (.int .u32) (.ts 7 (.int .u32) (.tks [8,9] .nil))))))) []) (.reg (.pp 6 (.op .sc (.op .p (.op .ix (.op .u .nil)))))))] (.rg 3)))),.reg (.op (.ld .agg) (.op .u .nil))] .leaf) Tryz.func273 (by kernel_rfl) (by kernel_rfl) h

theorem amphoraref03_XOR_vc (a0:Array Value) (a1:Array Value) (a2:Int) (a3a:Option Addr) (a3n:Nat) (a3c:Nat) (w:World) (R:Ending→World→Prop) (h:∃g4 w1,(Instr.box 39 (.agg a0)).run Tryz.prog w=.ok (.pointer (some ⟨g4,0,none⟩)) w1∧(∃g5 w2,(Instr.box 287 (.agg a1)).run Tryz.prog w1=.ok (.pointer (some ⟨g5,0,none⟩)) w2∧(((((decide (a2<(0:Int)))||(decide (a2>(274877906944:Int))))||(decide ((a3n:Int)>(IntKind.wrap .i64 ((274877906944:Int)-a2)))))=true→(R (.returned (.tuple #[(.slice none 0 0),(.int .i64 8)])) w2))∧((((decide (a2<(0:Int)))||(decide (a2>(274877906944:Int))))||(decide ((a3n:Int)>(IntKind.wrap .i64 ((274877906944:Int)-a2)))))=false→(∃t26a t26n t26c w3,(Instr.buildSlice 26 0 #[]).run Tryz.prog w2=.ok (.slice t26a t26n t26c) w3∧(∃t27,(Instr.build 368 #[]).run Tryz.prog w3=.ok (.agg t27) w3∧(∃g11 w4,AlQ 368 g11 w3 w4∧(∃w5,StQ 368 g11 0 (.agg t27) w4 w5∧(∃(I:Option Addr→Nat→Nat→Int→World→Prop) (μ:Option Addr→Nat→Nat→Int→World→Nat),I t26a t26n t26c 0 w5∧(∀x10a x10n x10c x12,∀w6,I x10a x10n x10c x12 w6→((decide (x12<(a3n:Int))=true→(∃J:World→Prop,((((x12==(0:Int))||((Int.tmod (IntKind.wrap .i64 (a2+x12)) (64:Int))==(0:Int)))=true→(∃t43,LdQ 39 g4 0 (.agg t43) w6∧(∃t49,LdQ 287 g5 0 (.agg t49) w6∧(Calls Tryz.prog 273 #[(.agg t43),(.int .u32 (IntKind.wrap .u32 (IntKind.wrap .i64 (Int.tdiv (IntKind.wrap .i64 (a2+x12)) (64:Int))))),(.agg t49)] w6 fun e50 w7=>∃t50,e50=.returned (.agg t50)∧(∃w8,StQ 368 g11 0 (.agg t50) w7 w8∧(J  w8))))))∧(((x12==(0:Int))||((Int.tmod (IntKind.wrap .i64 (a2+x12)) (64:Int))==(0:Int)))=false→(J  w6)))∧(∀w9,J  w9→(∃S:World→Prop,S w9.drew∧(∃t54b t54o,a3a=some ⟨t54b,t54o,none⟩∧0≤x12∧x12<(a3n:Int)∧(0≤(Int.tmod (IntKind.wrap .i64 (a2+x12)) (64:Int))∧(Int.tmod (IntKind.wrap .i64 (a2+x12)) (64:Int))<(64:Int)∧(∃t55,(∀w',S w'→LdQ 5 t54b (t54o+Int.toNat x12*1) (.int .u8 t55) w')∧(∃t61,(∀w',S w'→LdQ 5 g11 (0+Int.toNat (Int.tmod (IntKind.wrap .i64 (a2+x12)) (64:Int))*1) (.int .u8 t61) w')∧(∃t63a t63n t63c w10,(Instr.buildSlice 26 1 #[(0,(.int .u8 (bxor .u8 t55 t61)))]).run Tryz.prog w9.drew=.ok (.slice t63a t63n t63c) w10∧(∃S_1:World→Prop,(∀w',S_1 w'→S w')∧S_1 w10∧(∃t64a t64n t64c w11,(Builtin.append_ #[26,26] 26 #[(.slice x10a x10n x10c),(.slice t63a t63n t63c)]).run Tryz.prog w10=.ok (.slice t64a t64n t64c) w11∧(∃S_2:World→Prop,(∀w',S_2 w'→S_1 w')∧S_2 w11∧(I t64a t64n t64c (IntKind.wrap .i64 (x12+1)) w11∧μ t64a t64n t64c (IntKind.wrap .i64 (x12+1)) w11<μ x10a x10n x10c x12 w6)))))))))))))∧(decide (x12<(a3n:Int))=false→(R (.returned (.tuple #[(.slice x10a x10n x10c),(.int .i64 0)])) w6))))))))))))):Calls Tryz.prog 201 #[(.agg a0),(.agg a1),(.int .i64 a2),(.slice a3a a3n a3c)] w R:=calls_of_ev2 (tc:=.sq [.reg (.op .bx (.op .bx (.pp 2 .nil))),.seq (.reg (.pp 3 (.ap 2 (.op .p (.ap 5 .nil))))) (.cond (.seq (.rg 2) .leaf) .leaf),.reg (.op (.r .slice) (.op .p .nil)),.reg (.op (.ld .agg) (.op .bx (.op .u .nil))),.seq (.rg 1) (.blk (.loop (lr [(10,1),(12,1),(28,37)]) [10,12] [.slice,.int .i64] (.sq [.seq (.rg 4) (.cond .leaf .leaf),.blk (.seq (.seq (.reg (.pp 3 (.ap 5 .nil))) (.join (lr [(43,8)]) [] [] (.cond (.reg (.op (.ld .agg) (.pp 5 (.op (.ld .agg) (.op (.cl [.agg]) (.op .u .nil)))))) .leaf))) (.drawS (.tks [0,1,2] (.tk 3 .ix (.tks [5,6,7,8] (.tk 9 .ix (.ts 4 (.int .u8) (.ts 10 (.int .u8) (.tk 11 .p (.go 12 (.r .slice) (.go 13 (.r .slice) (.tk 14 .p .nil)))))))))) []))] (.rg 3)))),.rg 3] .leaf) Tryz.func201 (by kernel_rfl) (by kernel_rfl) h

end Go.Proofs.YtpmhjnhgpplmnaaGreatDoor
end

section
namespace Go.Proofs.YtpmhjnhgpplmnaaGreatDoor
open Go Sx
set_option maxRecDepth 8000

theorem rot_spec (x n:Nat) (w:World) (hx:x<4294967296) (hn:n<32) (h0:0<n):Calls Tryz.prog 383 #[.int .u32 (x:Int),.int .i64 (n:Int)] w fun e w'=>e=.returned (.int .u32 ((rotl x n:Nat):Int))∧w'=w:=by
 apply bits_RotateLeft32_vc
 have h1:band .u64 (IntKind.wrap .u64 (n:Int)) 31=(n:Int):=by
   rw [wrap_uns rfl (by simp [kmod,IntKind.bits];omega),show (31:Int)=((31:Nat):Int) from rfl,band_nat rfl (by simp [kmod,IntKind.bits];omega) (by simp [kmod,IntKind.bits]),show n&&& 31=n%32 from Nat.and_two_pow_sub_one_eq_mod n 5,Nat.mod_eq_of_lt hn]
 have h2:IntKind.wrap .u64 ((32:Int)- (n:Int))=((32-n:Nat):Int):=by rw [wrap_u64];omega
 rw [h1,h2]
 refine ⟨by omega,by omega,?_,rfl⟩
 rw [rotl_val x n hx hn h0]

theorem left_spec (x n:Nat) (w:World) (hx:x<4294967296) (hn:n<32) (h0:0<n):Calls Tryz.prog 365 #[.int .u32 (x:Int),.int .u64 (n:Int)] w fun e w'=>e=.returned (.int .u32 ((rotl x n:Nat):Int))∧w'=w:=by
 apply amphoraref03_left_vc
 have h2:IntKind.wrap .u64 ((32:Int)- (n:Int))=((32-n:Nat):Int):=by rw [wrap_u64];omega
 rw [h2]
 refine ⟨by omega,by omega,?_,rfl⟩
 rw [rotl_val x n hx hn h0]

theorem quarter_spec (a b c d:Nat) (w:World) (hb:b<4294967296) (hd:d<4294967296):
   Calls Tryz.prog 378 #[.int .u32 (a:Int),.int .u32 (b:Int),.int .u32 (c:Int),.int .u32 (d:Int)] w fun e w'=>e=.returned (.tuple #[.int .u32 ((qA a b c d:Nat):Int),.int .u32 ((qB a b c d:Nat):Int),.int .u32 ((qC a b c d:Nat):Int),.int .u32 ((qD a b c d:Nat):Int)])∧w'=w:=by
 have l1:hD a b d 16<4294967296:=rotl_lt _ (xor_lt hd (add32_lt _ _))
 have l2:hB a b c d 16 12<4294967296:=rotl_lt _ (xor_lt hb (add32_lt _ _))
 apply chacha_quarter_vc
 simp only [add_val]
 rw [xor_val hd (add32_lt _ _)]
 refine (rot_spec _ 16 w (xor_lt hd (add32_lt _ _)) (by decide) (by decide)).mono ?_
 rintro e w1 ⟨rfl,rfl⟩
 refine ⟨_,rfl,?_⟩
 simp only [add_val]
 rw [show rotl (d^^^add32 a b) 16=hD a b d 16 from rfl,xor_val hb (add32_lt _ _)]
 refine (rot_spec _ 12 _ (xor_lt hb (add32_lt _ _)) (by decide) (by decide)).mono ?_
 rintro e w2 ⟨rfl,rfl⟩
 refine ⟨_,rfl,?_⟩
 simp only [add_val]
 rw [show rotl (b^^^add32 c (hD a b d 16)) 12=hB a b c d 16 12 from rfl,xor_val l1 (add32_lt _ _)]
 refine (rot_spec _ 8 _ (xor_lt l1 (add32_lt _ _)) (by decide) (by decide)).mono ?_
 rintro e w3 ⟨rfl,rfl⟩
 refine ⟨_,rfl,?_⟩
 simp only [add_val]
 rw [xor_val l2 (add32_lt _ _)]
 refine (rot_spec _ 7 _ (xor_lt l2 (add32_lt _ _)) (by decide) (by decide)).mono ?_
 rintro e w4 ⟨rfl,rfl⟩
 exact ⟨_,rfl,rfl,rfl⟩

section
variable {w0 w:World} {X:List Nat} {M:List Res}

theorem aStep_vc (h:St w0 X w M) {m g:Nat} {T:TypeId} {l:List Nat} (hi:M[m]?=some (.arr g T (kv .u32 l))) (hl:l.length=16) {i j:Nat} (ha:i<16) (hb:j<16) {K:World→Prop}
   (hK:∀w',St w0 X w' (M.set m (.arr g T (kv .u32 (aStep l i j))))→K w'):
   ∃S:World→Prop,S w.drew∧(0≤(i:Int)∧(i:Int)<16∧(0≤(j:Int)∧(j:Int)<16∧
     (∃t:Int,(∀w',S w'→(Instr.loadAt 370 (.pointer (some ⟨g,0+Int.toNat (i:Int)*1,none⟩))).run Tryz.prog w'=.ok (.int .u32 t) w')∧
     (∃t':Int,(∀w',S w'→(Instr.loadAt 370 (.pointer (some ⟨g,0+Int.toNat (j:Int)*1,none⟩))).run Tryz.prog w'=.ok (.int .u32 t') w')∧
       (0≤(i:Int)∧(i:Int)<16∧(∃w1,(Instr.storeAt 370 (.pointer (some ⟨g,0+Int.toNat (i:Int)*1,none⟩)) (.int .u32 (IntKind.wrap .u32 (t+t')))).run Tryz.prog w.drew=.ok () w1∧K w1)))))):=by
 have e:∀k:Nat,0+Int.toNat (k:Int)*1=k:=fun k=>by omega
 have hT:∀w,(isAgg 370).run Tryz.prog w=.ok false w:=fun w=>Tryz.isAgg370 w
 refine ⟨fun w'=>St w0 X w' M,h.drew,by omega,by omega,by omega,by omega,_,fun w' h'=>h'.ldK hi (hT _) (e i) (by omega),_,fun w' h'=>h'.ldK hi (hT _) (e j) (by omega),by omega,by omega,?_⟩
 rw [add_val]
 obtain ⟨w1,hr,h1⟩:=h.drew.stK (n:=add32 (l.getD i 0) (l.getD j 0)) hi (Tryz.sizeOf370 _) (e i) (by omega)
 exact ⟨w1,hr,hK _ h1⟩

theorem xStep_vc (h:St w0 X w M) {m g:Nat} {T:TypeId} {l:List Nat} (hi:M[m]?=some (.arr g T (kv .u32 l))) (hl:l.length=16) (hlt:Lt32 l) {i j n:Nat} (ha:i<16) (hb:j<16) (hn:n<32) (h0:0<n) {K:World→Prop}
   (hK:∀w',St w0 X w' (M.set m (.arr g T (kv .u32 (xStep l i j n))))→K w'):
   ∃S:World→Prop,S w.drew∧(0≤(i:Int)∧(i:Int)<16∧(0≤(j:Int)∧(j:Int)<16∧
     (∃t:Int,(∀w',S w'→(Instr.loadAt 370 (.pointer (some ⟨g,0+Int.toNat (i:Int)*1,none⟩))).run Tryz.prog w'=.ok (.int .u32 t) w')∧
     (∃t':Int,(∀w',S w'→(Instr.loadAt 370 (.pointer (some ⟨g,0+Int.toNat (j:Int)*1,none⟩))).run Tryz.prog w'=.ok (.int .u32 t') w')∧
     (Calls Tryz.prog 365 #[.int .u32 (bxor .u32 t t'),.int .u64 ((n:Nat):Int)] w.drew fun e w2=>∃t2:Int,e=.returned (.int .u32 t2)∧
       (∃S_2:World→Prop,(∀w',S_2 w'→S w')∧S_2 w2∧
       (0≤(i:Int)∧(i:Int)<16∧(∃w1,(Instr.storeAt 370 (.pointer (some ⟨g,0+Int.toNat (i:Int)*1,none⟩)) (.int .u32 t2)).run Tryz.prog w2=.ok () w1∧K w1)))))))):=by
 have e:∀k:Nat,0+Int.toNat (k:Int)*1=k:=fun k=>by omega
 have hT:∀w,(isAgg 370).run Tryz.prog w=.ok false w:=fun w=>Tryz.isAgg370 w
 refine ⟨fun w'=>St w0 X w' M,h.drew,by omega,by omega,by omega,by omega,_,fun w' h'=>h'.ldK hi (hT _) (e i) (by omega),_,fun w' h'=>h'.ldK hi (hT _) (e j) (by omega),?_⟩
 rw [xor_val (hlt i) (hlt j)]
 refine (left_spec _ n _ (xor_lt (hlt i) (hlt j)) hn h0).mono ?_
 rintro e1 w2 ⟨rfl,rfl⟩
 refine ⟨_,rfl,fun w'=>St w0 X w' M,fun _ h=>h,h.drew,by omega,by omega,?_⟩
 obtain ⟨w1,hr,h1⟩:=h.drew.stK (n:=rotl (l.getD i 0^^^l.getD j 0) n) hi (Tryz.sizeOf370 _) (e i) (by omega)
 exact ⟨w1,hr,hK _ h1⟩

end

theorem round_spec (g:Nat) (T:TypeId) (l:List Nat) (a b c d:Nat) (w:World) (hg:w.heap[g]?=some (.cells (kv .u32 l).toArray T)) (hl:l.length=16) (hlt:Lt32 l) (ha:a<16) (hb:b<16) (hc:c<16) (hd:d<16):
   Calls Tryz.prog 329 #[.pointer (some ⟨g,0,none⟩),.int .i64 (a:Int),.int .i64 (b:Int),.int .i64 (c:Int),.int .i64 (d:Int)] w fun e w'=>e=.returned (.tuple #[])∧Chg [g] w w'∧w'.heap[g]?=some (.cells (kv .u32 (rnd l a b c d)).toArray T):=by
 apply amphoraref03_round_vc
 refine aStep_vc (St.ofBlk hg) (m:=0) rfl hl ha hb fun w1 h1=>?_
 refine xStep_vc h1 (m:=0) rfl (by simp [hl]) (hlt.aStep _ _) hd ha (by decide) (by decide) fun w2 h2=>?_
 refine aStep_vc h2 (m:=0) rfl (by simp [hl]) hc hd fun w3 h3=>?_
 refine xStep_vc h3 (m:=0) rfl (by simp [hl]) (((hlt.aStep _ _).xStep _ _ _).aStep _ _) hb hc (by decide) (by decide) fun w4 h4=>?_
 refine aStep_vc h4 (m:=0) rfl (by simp [hl]) ha hb fun w5 h5=>?_
 refine xStep_vc h5 (m:=0) rfl (by simp [hl]) (((((hlt.aStep _ _).xStep _ _ _).aStep _ _).xStep _ _ _).aStep _ _) hd ha (by decide) (by decide) fun w6 h6=>?_
 refine aStep_vc h6 (m:=0) rfl (by simp [hl]) hc hd fun w7 h7=>?_
 refine xStep_vc h7 (m:=0) rfl (by simp [hl]) (((((((hlt.aStep _ _).xStep _ _ _).aStep _ _).xStep _ _ _).aStep _ _).xStep _ _ _).aStep _ _) hb hc (by decide) (by decide) fun w8 h8=>?_
 exact ⟨rfl,h8.chg,h8.holds 0 _ rfl⟩

end Go.Proofs.YtpmhjnhgpplmnaaGreatDoor
end

section
namespace Go.Proofs.YtpmhjnhgpplmnaaGreatDoor
open Go Sx
set_option maxRecDepth 8000

theorem word_spec (a:Option Addr) (n c:Nat) (l:List UInt8) (w:World) (hr:RdB w a n c l) (hn:4≤n):Calls Tryz.prog 382 #[.slice a n c] w fun e w'=>e=.returned (.int .u32 ((le4 l 0:Nat):Int))∧Chg [] w w':=by
 have hl:=hr.lenB
 apply chacha_word_vc
 have b0:=(l.getD 0 0).toNat_lt
 have b1:=(l.getD 1 0).toNat_lt
 have b2:=(l.getD 2 0).toNat_lt
 have b3:=(l.getD 3 0).toNat_lt
 have hc:Cells w.drew a (bv l):=hr.cells.keep0 (Chg.drew _ _)
 refine ⟨fun w'=>Chg [] w w',Chg.drew _ _,?_⟩
 refine ix0 hr.cells hl 0 (by omega) fun g0 o0 e0 h0=>ix0 hr.cells hl 1 (by omega) fun g1 o1 e1 h1=>ix0 hr.cells hl 2 (by omega) fun g2 o2 e2 h2=>ix0 hr.cells hl 3 (by omega) fun g3 o3 e3 h3=>?_
 refine ⟨g0,o0,e0,by omega,by omega,g1,o1,e1,by omega,by omega,g2,o2,e2,by omega,by omega,g3,o3,e3,by omega,by omega,
   _,fun w' h=>h0 w' (hr.cells.keep0 h),_,fun w' h=>h1 w' (hr.cells.keep0 h),_,fun w' h=>h2 w' (hr.cells.keep0 h),_,fun w' h=>h3 w' (hr.cells.keep0 h),?_,Chg.drew _ _⟩
 rw [wrap_u32_nat (show (l.getD 0 0).toNat<4294967296 by omega),wrap_u32_nat (show (l.getD 1 0).toNat<4294967296 by omega),wrap_u32_nat (show (l.getD 2 0).toNat<4294967296 by omega),wrap_u32_nat (show (l.getD 3 0).toNat<4294967296 by omega),
   show (8:Int)=((8:Nat):Int) from rfl,show (16:Int)=((16:Nat):Int) from rfl,show (24:Int)=((24:Nat):Int) from rfl,shl_val (by decide),shl_val (by decide),shl_val (by decide)]
 have m:∀x:Nat,x%4294967296<4294967296:=fun x=>Nat.mod_lt _ (by decide)
 rw [or_val (by omega) (m _),or_val (Nat.or_lt_two_pow (n:=32) (by omega) (m _)) (m _),or_val (Nat.or_lt_two_pow (n:=32) (Nat.or_lt_two_pow (n:=32) (by omega) (m _)) (m _)) (m _)]
 rfl

theorem le4_sub (l:List UInt8) (o n:Nat) (h:4≤n):le4 ((l.drop o).take n) 0=le4 l o:=by
 have:∀j,j<4→((l.drop o).take n).getD (0+j) 0=l.getD (o+j) 0:=fun j hj=>by
   simp only [List.getD,List.getElem?_take,List.getElem?_drop,Nat.zero_add]
   rw [if_pos (by omega)]
 have h0:=this 0 (by omega)
 rw [Nat.add_zero,Nat.add_zero] at h0
 simp only [le4,h0,this 1 (by omega),this 2 (by omega),this 3 (by omega)]

theorem zero16 (w:World):(zeroValue 430).run Tryz.prog w=.ok (.agg (kv .u32 (List.replicate 16 0)).toArray) w:=Tryz.zeroValue430 w
theorem zero64 (w:World):(zeroValue 368).run Tryz.prog w=.ok (.agg (bv (List.replicate 64 0)).toArray) w:=Tryz.zeroValue368 w

theorem begin_spec (key nonce:List UInt8) (ctr:Nat) (w:World) (hk:key.length=32) (hn:nonce.length=12) (hc:ctr<4294967296):
   Calls Tryz.prog 377 #[.agg (bv key).toArray,.int .u32 (ctr:Int),.agg (bv nonce).toArray] w fun e w'=>e=.returned (.agg (kv .u32 (firstL key ctr nonce)).toArray)∧Chg [] w w':=by
 apply chacha_begin_vc
 obtain ⟨g1,w1,r1,h1⟩:=(St.start w).boxA (P:=Tryz.prog) 39 (bv key)
 obtain ⟨g2,w2,r2,h2⟩:=h1.boxA (P:=Tryz.prog) 287 (bv nonce)
 obtain ⟨g3,w3,r3,h3⟩:=h2.zeroA zero16
 have hb:=build_arr (P:=Tryz.prog) (w:=w3) (zero16 w3) Tryz.underlying430 (Tryz.sizeOf370 _) (kv .u32 [1634760805,857760878,2036477234,1797285236]) (kv_one _ _) (by simp)
 obtain ⟨g4,w4,r4,h4⟩:=h3.zeroA zero16
 obtain ⟨w5,r5,h5⟩:=h4.stA (i:=3) (v:=kv .u32 ([1634760805,857760878,2036477234,1797285236]++List.replicate 12 0)) rfl (Tryz.sizeOf430 _) (by simp) (by simp) (kv_one _ _)
 refine ⟨_,_,r1,_,_,r2,_,_,r3,_,hb,_,_,r4,_,r5,?_⟩
 refine ⟨fun i w'=>∃k:Nat,i=(k:Int)∧k≤8∧St w [] w' [.arr g1 39 (bv key),.arr g2 287 (bv nonce),.arr g3 430 (kv .u32 (List.replicate 16 0)),.arr g4 430 (kv .u32 (setW 4 key k ([1634760805,857760878,2036477234,1797285236]++List.replicate 12 0)))],fun i _=>8-i.toNat,
   ⟨0,rfl,by omega,h5⟩,?_⟩
 rintro i w6 ⟨k,rfl,hk8,hS⟩
 refine ⟨fun h=>?_,fun h=>?_⟩
 · have hk':k<8:=by simp at h;omega
   have e1:IntKind.wrap .i64 ((4:Int)*(k:Int))=((4*k:Nat):Int):=by rw [wrap_i64 (by omega) (by omega)];omega
   have e2:IntKind.wrap .i64 ((4:Int)+(k:Int))=((4+k:Nat):Int):=by rw [wrap_i64 (by omega) (by omega)];omega
   have e3:IntKind.wrap .i64 ((k:Int)+1)=((k+1:Nat):Int):=by rw [wrap_i64 (by omega) (by omega)];rfl
   rw [e1,e2,e3]
   refine ⟨by omega,by omega,by omega,fun a' hs=>?_⟩
   have hrd:=(hS.rdA (i:=0) (n:=32) rfl (by simp [hk])).sub (l:=4*k) (hh:=32) (m:=32) hs (by omega) (by omega) (by omega) (by omega)
   rw [Nat.mul_one,Nat.mul_one,←bv_drop,←bv_take] at hrd
   refine (word_spec _ _ _ _ _ hrd (by omega)).mono ?_
   rintro e w7 ⟨rfl,hc7⟩
   rw [le4_sub _ _ _ (by omega)]
   refine ⟨_,rfl,by omega,by omega,?_⟩
   obtain ⟨w8,r8,h8⟩:=(hS.same hc7).stK (i:=3) (off:=0+Int.toNat ((4+k:Nat):Int)*1) (o:=4+k) (n:=le4 key (4*k)) rfl (Tryz.sizeOf370 _) (by omega) (by simp;omega)
   exact ⟨w8,r8,⟨k+1,rfl,by omega,h8⟩,by simp;omega⟩
 · have hk':k=8:=by simp at h;omega
   subst hk'
   obtain ⟨w7,r7,h7⟩:=hS.stK (i:=3) (off:=12) (o:=12) (n:=ctr) rfl (Tryz.sizeOf370 _) rfl (by simp)
   refine ⟨w7,r7,?_⟩
   refine ⟨fun i w'=>∃k:Nat,i=(k:Int)∧k≤3∧St w [] w' [.arr g1 39 (bv key),.arr g2 287 (bv nonce),.arr g3 430 (kv .u32 (List.replicate 16 0)),.arr g4 430 (kv .u32 (setW 13 nonce k ((setW 4 key 8 ([1634760805,857760878,2036477234,1797285236]++List.replicate 12 0)).set 12 ctr)))],fun i _=>3-i.toNat,
     ⟨0,rfl,by omega,h7⟩,?_⟩
   rintro i w8 ⟨k,rfl,hk8,hS⟩
   refine ⟨fun h=>?_,fun h=>?_⟩
   · have hk':k<3:=by simp at h;omega
     have e1:IntKind.wrap .i64 ((4:Int)*(k:Int))=((4*k:Nat):Int):=by rw [wrap_i64 (by omega) (by omega)];omega
     have e2:IntKind.wrap .i64 ((13:Int)+(k:Int))=((13+k:Nat):Int):=by rw [wrap_i64 (by omega) (by omega)];omega
     have e3:IntKind.wrap .i64 ((k:Int)+1)=((k+1:Nat):Int):=by rw [wrap_i64 (by omega) (by omega)];rfl
     rw [e1,e2,e3]
     refine ⟨by omega,by omega,by omega,fun a' hs=>?_⟩
     have hrd:=(hS.rdA (i:=1) (n:=12) rfl (by simp [hn])).sub (l:=4*k) (hh:=12) (m:=12) hs (by omega) (by omega) (by omega) (by omega)
     rw [Nat.mul_one,Nat.mul_one,←bv_drop,←bv_take] at hrd
     refine (word_spec _ _ _ _ _ hrd (by omega)).mono ?_
     rintro e w9 ⟨rfl,hc9⟩
     rw [le4_sub _ _ _ (by omega)]
     refine ⟨_,rfl,by omega,by omega,?_⟩
     obtain ⟨w10,r10,h10⟩:=(hS.same hc9).stK (i:=3) (off:=0+Int.toNat ((13+k:Nat):Int)*1) (o:=13+k) (n:=le4 nonce (4*k)) rfl (Tryz.sizeOf370 _) (by omega) (by simp;omega)
     exact ⟨w10,r10,⟨k+1,rfl,by omega,h10⟩,by simp;omega⟩
   · have hk':k=3:=by simp at h;omega
     subst hk'
     have hA:∀w,(isAgg 430).run Tryz.prog w=.ok true w:=fun w=>Tryz.isAgg430 w
     refine ⟨_,hS.ldA (i:=3) rfl (hA _) (Tryz.sizeOf430 _) (by simp),?_⟩
     obtain ⟨w9,r9,h9⟩:=hS.stA (i:=2) (v:=kv .u32 (firstL key ctr nonce)) rfl (Tryz.sizeOf430 _) (by simp) (by simp [firstL]) (kv_one _ _)
     exact ⟨w9,r9,_,h9.ldVarA (i:=2) rfl (hA _) (Tryz.sizeOf430 _) (by simp [firstL]),rfl,h9.chg⟩

end Go.Proofs.YtpmhjnhgpplmnaaGreatDoor
end

section
namespace Go.Proofs.YtpmhjnhgpplmnaaGreatDoor
open Go Sx
set_option maxRecDepth 8000

theorem e16:∀w,(isAgg 430).run Tryz.prog w=.ok true w:=fun w=>Tryz.isAgg430 w
theorem e64:∀w,(isAgg 368).run Tryz.prog w=.ok true w:=fun w=>Tryz.isAgg368 w
theorem e32:∀w,(isAgg 39).run Tryz.prog w=.ok true w:=fun w=>Tryz.isAgg39 w
theorem e12:∀w,(isAgg 287).run Tryz.prog w=.ok true w:=fun w=>Tryz.isAgg287 w
theorem eU:∀w,(isAgg 370).run Tryz.prog w=.ok false w:=fun w=>Tryz.isAgg370 w

theorem outB_val (x y:List Nat) (i j:Nat) (hj:j<4):IntKind.wrap .u8 ((add32 (x.getD i 0) (y.getD i 0) / 2^(8*j):Nat):Int)=((outB x y (4*i+j)).toNat:Int):=by
 rw [wrap_u8,outB,show (4*i+j) / 4=i by omega,show (4*i+j)%4=j by omega]
 simp
theorem outL_get (x y:List Nat) (i:Nat) (h:i<64):(outL x y)[i]?=some (outB x y i):=by simp [outL,h]

theorem block_spec (key nonce:List UInt8) (ctr:Nat) (w:World) (hk:key.length=32) (hn:nonce.length=12) (hc:ctr<4294967296):
   Calls Tryz.prog 364 #[.agg (bv key).toArray,.int .u32 (ctr:Int),.agg (bv nonce).toArray] w fun e w'=>e=.returned (.agg (bv (blockF key ctr nonce)).toArray)∧Chg [] w w':=by
 apply chacha_Block_vc
 obtain ⟨g1,w1,r1,h1⟩:=(St.start w).boxA (P:=Tryz.prog) 39 (bv key)
 obtain ⟨g2,w2,r2,h2⟩:=h1.boxA (P:=Tryz.prog) 287 (bv nonce)
 obtain ⟨g3,w3,r3,h3⟩:=h2.zeroA zero64
 refine ⟨_,_,r1,_,_,r2,_,_,r3,_,h3.ldA (i:=0) rfl (e32 _) (Tryz.sizeOf39 _) (by simp [hk]),_,h3.ldA (i:=1) rfl (e12 _) (Tryz.sizeOf287 _) (by simp [hn]),(begin_spec key nonce ctr w3 hk hn hc).mono ?_⟩
 rintro e w4 ⟨rfl,hc4⟩
 have h4:=h3.same hc4
 have hF:=firstL_len key ctr nonce
 have hlF:=lt32_first key nonce hc
 obtain ⟨F,hFd⟩:∃F,firstL key ctr nonce=F:=⟨_,rfl⟩
 have hB:blockF key ctr nonce=outL (dblR 10 F) F:=by rw [blockF,hFd]
 rw [hB]
 rw [hFd] at hF hlF ⊢
 obtain ⟨g5,w5,r5,h5⟩:=h4.zeroA zero16
 obtain ⟨w6,r6,h6⟩:=h5.stA (i:=3) (v:=kv .u32 F) rfl (Tryz.sizeOf430 _) (by simp) (by simp [hF]) (kv_one _ _)
 obtain ⟨g7,w7,r7,h7⟩:=h6.zeroA zero16
 obtain ⟨w8,r8,h8⟩:=h7.stA (i:=4) (v:=kv .u32 F) rfl (Tryz.sizeOf430 _) (by simp) (by simp [hF]) (kv_one _ _)
 refine ⟨_,rfl,_,_,r5,_,r6,_,h6.ldA (i:=3) rfl (e16 _) (Tryz.sizeOf430 _) (by simp [hF]),_,_,r7,_,r8,?_⟩
 obtain ⟨Mx,hMx⟩:∃Mx:List Nat→List Res,Mx=fun x=>[.arr g1 39 (bv key),.arr g2 287 (bv nonce),.arr g3 368 (bv (List.replicate 64 0)),.arr g5 430 (kv .u32 F),.arr g7 430 (kv .u32 x)]:=⟨_,rfl⟩
 have hi4:∀x,(Mx x)[4]?=some (.arr g7 430 (kv .u32 x)):=fun x=>by rw [hMx];rfl
 have hi3:∀x,(Mx x)[3]?=some (.arr g5 430 (kv .u32 F)):=fun x=>by rw [hMx];rfl
 have hi2:∀x,(Mx x)[2]?=some (.arr g3 368 (bv (List.replicate 64 0))):=fun x=>by rw [hMx];rfl
 have hset:∀x y,(Mx x).set 4 (.arr g7 430 (kv .u32 y))=Mx y:=fun x y=>by rw [hMx];rfl
 have h8':St w [] w8 (Mx F):=by rw [hMx];exact h8
 have hw:∀i:Nat,i<100→IntKind.wrap .i64 ((i:Int)+1)=((i+1:Nat):Int):=fun i h=>by rw [wrap_i64 (by omega) (by omega)];rfl
 have ze:∀k:Nat,0+Int.toNat (k:Int)*1=k:=fun k=>by omega
 have sU:∀w,(sizeOf 370).run Tryz.prog w=.ok 1 w:=fun w=>Tryz.sizeOf370 w
 have sB:∀w,(sizeOf 5).run Tryz.prog w=.ok 1 w:=fun w=>Tryz.sizeOf5 w
 -- a quarter round in place
 have step:∀(x:List Nat) (a b c d:Nat) (wa:World) (K:World→Prop),St w [] wa (Mx x)→x.length=16→Lt32 x→a<16→b<16→c<16→d<16→a≠b→a≠c→a≠d→b≠c→b≠d→c≠d→(∀wb,St w [] wb (Mx (rnd x a b c d))→K wb)→
     (∃S:World→Prop,S wa.drew∧(0≤(a:Int)∧(a:Int)<16∧(0≤(b:Int)∧(b:Int)<16∧(0≤(c:Int)∧(c:Int)<16∧(0≤(d:Int)∧(d:Int)<16∧
       (∃ta:Int,(∀w',S w'→(Instr.loadAt 370 (.pointer (some ⟨g7,0+Int.toNat (a:Int)*1,none⟩))).run Tryz.prog w'=.ok (.int .u32 ta) w')∧
       (∃tb:Int,(∀w',S w'→(Instr.loadAt 370 (.pointer (some ⟨g7,0+Int.toNat (b:Int)*1,none⟩))).run Tryz.prog w'=.ok (.int .u32 tb) w')∧
       (∃tc:Int,(∀w',S w'→(Instr.loadAt 370 (.pointer (some ⟨g7,0+Int.toNat (c:Int)*1,none⟩))).run Tryz.prog w'=.ok (.int .u32 tc) w')∧
       (∃td:Int,(∀w',S w'→(Instr.loadAt 370 (.pointer (some ⟨g7,0+Int.toNat (d:Int)*1,none⟩))).run Tryz.prog w'=.ok (.int .u32 td) w')∧
         (Calls Tryz.prog 378 #[.int .u32 ta,.int .u32 tb,.int .u32 tc,.int .u32 td] wa.drew fun e w11=>∃t0 t1 t2 t3:Int,e=.returned (.tuple #[.int .u32 t0,.int .u32 t1,.int .u32 t2,.int .u32 t3])∧
           (∃S_1:World→Prop,(∀w',S_1 w'→S w')∧S_1 w11∧
             (0≤(a:Int)∧(a:Int)<16∧(∃w12,(Instr.storeAt 370 (.pointer (some ⟨g7,0+Int.toNat (a:Int)*1,none⟩)) (.int .u32 t0)).run Tryz.prog w11=.ok () w12∧
             (0≤(b:Int)∧(b:Int)<16∧(∃w13,(Instr.storeAt 370 (.pointer (some ⟨g7,0+Int.toNat (b:Int)*1,none⟩)) (.int .u32 t1)).run Tryz.prog w12=.ok () w13∧
             (0≤(c:Int)∧(c:Int)<16∧(∃w14,(Instr.storeAt 370 (.pointer (some ⟨g7,0+Int.toNat (c:Int)*1,none⟩)) (.int .u32 t2)).run Tryz.prog w13=.ok () w14∧
             (0≤(d:Int)∧(d:Int)<16∧(∃w15,(Instr.storeAt 370 (.pointer (some ⟨g7,0+Int.toNat (d:Int)*1,none⟩)) (.int .u32 t3)).run Tryz.prog w14=.ok () w15∧K w15))))))))))))))))))):=by
   intro x a b c d wa K hS hx hlx ha hb hcc hd ab ac ad bc bd cd hK
   refine ⟨fun w'=>St w [] w' (Mx x),hS.drew,by omega,by omega,by omega,by omega,by omega,by omega,by omega,by omega,_,fun w' h=>h.ldK (hi4 x) (eU _) (ze a) (by omega),_,fun w' h=>h.ldK (hi4 x) (eU _) (ze b) (by omega),_,fun w' h=>h.ldK (hi4 x) (eU _) (ze c) (by omega),_,fun w' h=>h.ldK (hi4 x) (eU _) (ze d) (by omega),?_⟩
   refine (quarter_spec _ _ _ _ _ (hlx b) (hlx d)).mono ?_
   rintro e w11 ⟨rfl,rfl⟩
   obtain ⟨w12,q1,s1⟩:=hS.drew.stK (n:=qA (x.getD a 0) (x.getD b 0) (x.getD c 0) (x.getD d 0)) (hi4 x) (sU _) (ze a) (by omega)
   rw [hset] at s1
   obtain ⟨w13,q2,s2⟩:=s1.stK (n:=qB (x.getD a 0) (x.getD b 0) (x.getD c 0) (x.getD d 0)) (hi4 _) (sU _) (ze b) (by simp;omega)
   rw [hset] at s2
   obtain ⟨w14,q3,s3⟩:=s2.stK (n:=qC (x.getD a 0) (x.getD b 0) (x.getD c 0) (x.getD d 0)) (hi4 _) (sU _) (ze c) (by simp;omega)
   rw [hset] at s3
   obtain ⟨w15,q4,s4⟩:=s3.stK (n:=qD (x.getD a 0) (x.getD b 0) (x.getD c 0) (x.getD d 0)) (hi4 _) (sU _) (ze d) (by simp;omega)
   rw [hset] at s4
   refine ⟨_,_,_,_,rfl,fun w'=>St w [] w' (Mx x),fun _ h=>h,hS.drew,by omega,by omega,w12,q1,by omega,by omega,w13,q2,by omega,by omega,w14,q3,by omega,by omega,w15,q4,hK _ ?_⟩
   rw [rnd_eq (by omega) (by omega) (by omega) (by omega) ab ac ad bc bd cd]
   exact s4
 refine ⟨fun i w'=>∃k:Nat,i=(k:Int)∧k≤10∧St w [] w' (Mx (dblR k F)),fun i _=>10-i.toNat,⟨0,rfl,by omega,h8'⟩,?_⟩
 rintro i w9 ⟨k,rfl,hk10,hS⟩
 refine ⟨fun h=>?_,fun h=>?_⟩
 · have hk':k<10:=by simp at h;omega
   refine ⟨fun i w'=>∃j:Nat,i=(j:Int)∧j≤4∧St w [] w' (Mx (colR j (dblR k F))),fun i _=>4-i.toNat,⟨0,rfl,by omega,hS⟩,?_⟩
   rintro i w10 ⟨j,rfl,hj4,hS⟩
   refine ⟨fun h=>?_,fun h=>?_⟩
   · have hj':j<4:=by simp at h;omega
     have e1:IntKind.wrap .i64 ((4:Int)+(j:Int))=((4+j:Nat):Int):=by rw [wrap_i64 (by omega) (by omega)];omega
     have e2:IntKind.wrap .i64 ((8:Int)+(j:Int))=((8+j:Nat):Int):=by rw [wrap_i64 (by omega) (by omega)];omega
     have e3:IntKind.wrap .i64 ((12:Int)+(j:Int))=((12+j:Nat):Int):=by rw [wrap_i64 (by omega) (by omega)];omega
     rw [e1,e2,e3,hw j (by omega)]
     refine step _ j (4+j) (8+j) (12+j) _ _ hS (by simp [hF]) ((hlF.dblR k).colR j) (by omega) (by omega) (by omega) (by omega) (by omega) (by omega) (by omega) (by omega) (by omega) (by omega) fun wb hb=>?_
     exact ⟨⟨j+1,rfl,by omega,hb⟩,by simp;omega⟩
   · have hj':j=4:=by simp at h;omega
     subst hj'
     refine ⟨fun i w'=>∃j:Nat,i=(j:Int)∧j≤4∧St w [] w' (Mx (diaR j (colR 4 (dblR k F)))),fun i _=>4-i.toNat,⟨0,rfl,by omega,hS⟩,?_⟩
     rintro i w11 ⟨j,rfl,hj4,hS⟩
     refine ⟨fun h=>?_,fun h=>?_⟩
     · have hj':j<4:=by simp at h;omega
       have e0:∀(u v:Nat),u<100→v<100→IntKind.wrap .i64 ((u:Int)+Int.tmod (IntKind.wrap .i64 ((j:Int)+(v:Int))) 4)=((u+(j+v)%4:Nat):Int):=fun u v hu hv=>by
         rw [show IntKind.wrap .i64 ((j:Int)+(v:Int))=((j+v:Nat):Int) by rw [wrap_i64 (by omega) (by omega)];omega,Int.tmod_eq_emod_of_nonneg (by omega),wrap_i64 (by omega) (by omega)];omega
       have e1:IntKind.wrap .i64 ((4:Int)+Int.tmod (IntKind.wrap .i64 ((j:Int)+1)) 4)=_:=e0 4 1 (by omega) (by omega)
       have e2:IntKind.wrap .i64 ((8:Int)+Int.tmod (IntKind.wrap .i64 ((j:Int)+2)) 4)=_:=e0 8 2 (by omega) (by omega)
       have e3:IntKind.wrap .i64 ((12:Int)+Int.tmod (IntKind.wrap .i64 ((j:Int)+3)) 4)=_:=e0 12 3 (by omega) (by omega)
       rw [e1,e2,e3,hw j (by omega)]
       refine step _ j (4+(j+1)%4) (8+(j+2)%4) (12+(j+3)%4) _ _ hS (by simp [hF]) (((hlF.dblR k).colR 4).diaR j) (by omega) (by omega) (by omega) (by omega) (by omega) (by omega) (by omega) (by omega) (by omega) (by omega) fun wb hb=>?_
       exact ⟨⟨j+1,rfl,by omega,hb⟩,by simp;omega⟩
     · have hj':j=4:=by simp at h;omega
       subst hj'
       rw [hw k (by omega)]
       exact ⟨⟨k+1,rfl,by omega,hS⟩,by simp;omega⟩
 · have hk':k=10:=by simp at h;omega
   subst hk'
   obtain ⟨g10,w10,r10,h10⟩:=hS.zeroA zero64
   obtain ⟨O,hO⟩:∃O,outL (dblR 10 F) F=O:=⟨_,rfl⟩
   have hOl:O.length=64:=by rw [←hO];simp
   rw [hO]
   have hm5:∀y,(Mx (dblR 10 F)++ [Res.arr g10 368 (bv y)])[5]?=some (.arr g10 368 (bv y)):=fun y=>by rw [hMx];rfl
   have hm4:∀y,(Mx (dblR 10 F)++ [Res.arr g10 368 (bv y)])[4]?=some (.arr g7 430 (kv .u32 (dblR 10 F))):=fun y=>by rw [hMx];rfl
   have hm3:∀y,(Mx (dblR 10 F)++ [Res.arr g10 368 (bv y)])[3]?=some (.arr g5 430 (kv .u32 F)):=fun y=>by rw [hMx];rfl
   have hm2:∀y,(Mx (dblR 10 F)++ [Res.arr g10 368 (bv y)])[2]?=some (.arr g3 368 (bv (List.replicate 64 0))):=fun y=>by rw [hMx];rfl
   have hms:∀x y,(Mx (dblR 10 F)++ [Res.arr g10 368 (bv x)]).set 5 (.arr g10 368 (bv y))=Mx (dblR 10 F)++ [Res.arr g10 368 (bv y)]:=fun x y=>by rw [hMx];rfl
   refine ⟨_,_,r10,fun i w'=>∃k:Nat,i=(k:Int)∧k≤16∧St w [] w' (Mx (dblR 10 F)++ [.arr g10 368 (bv (upTo O (4*k)))]),fun i _=>16-i.toNat,⟨0,rfl,by omega,by rw [Nat.mul_zero,upTo_zero,hOl];exact h10⟩,?_⟩
   rintro i w11 ⟨k,rfl,hk16,hT⟩
   refine ⟨fun h=>?_,fun h=>?_⟩
   · have hk':k<16:=by simp at h;omega
     have e1:IntKind.wrap .i64 ((4:Int)*(k:Int))=((4*k:Nat):Int):=by rw [wrap_i64 (by omega) (by omega)];omega
     have e2:∀j:Nat,j<4→IntKind.wrap .i64 (((4*k:Nat):Int)+(j:Int))=((4*k+j:Nat):Int):=fun j hj=>by rw [wrap_i64 (by omega) (by omega)];omega
     have e21:=e2 1 (by omega)
     have e22:=e2 2 (by omega)
     have e23:=e2 3 (by omega)
     rw [show ((1:Nat):Int)=1 from rfl] at e21
     rw [show ((2:Nat):Int)=2 from rfl] at e22
     rw [show ((3:Nat):Int)=3 from rfl] at e23
     rw [e1,e21,e22,e23,hw k (by omega)]
     have ot:∀j,j<4→O[4*k+j]?=some (outB (dblR 10 F) F (4*k+j)):=fun j hj=>by rw [←hO];exact outL_get _ _ _ (by omega)
     have v0:IntKind.wrap .u8 (IntKind.wrap .u32 (((dblR 10 F).getD k 0:Nat)+(F.getD k 0:Nat):Int))=((outB (dblR 10 F) F (4*k)).toNat:Int):=by
       rw [add_val];have:=outB_val (dblR 10 F) F k 0 (by omega);simpa using this
     have vj:∀(j:Nat),j<4→IntKind.wrap .u8 (shrI .u32 (IntKind.wrap .u32 (((dblR 10 F).getD k 0:Nat)+(F.getD k 0:Nat):Int)) ((8*j:Nat):Int))=((outB (dblR 10 F) F (4*k+j)).toNat:Int):=fun j hj=>by
       rw [add_val,shr_nat _ _ _ (show 8*j≤32 by omega)];exact outB_val (dblR 10 F) F k j hj
     have v1:IntKind.wrap .u8 (shrI .u32 (IntKind.wrap .u32 (((dblR 10 F).getD k 0:Nat)+(F.getD k 0:Nat):Int)) 8)=_:=vj 1 (by omega)
     have v2:IntKind.wrap .u8 (shrI .u32 (IntKind.wrap .u32 (((dblR 10 F).getD k 0:Nat)+(F.getD k 0:Nat):Int)) 16)=_:=vj 2 (by omega)
     have v3:IntKind.wrap .u8 (shrI .u32 (IntKind.wrap .u32 (((dblR 10 F).getD k 0:Nat)+(F.getD k 0:Nat):Int)) 24)=_:=vj 3 (by omega)
     refine ⟨fun w'=>St w [] w' (Mx (dblR 10 F)++ [.arr g10 368 (bv (upTo O (4*k)))]),hT.drew,by omega,by omega,by omega,by omega,_,fun w' h=>h.ldK (hm4 _) (eU _) (ze k) (by simp [hF];omega),_,fun w' h=>h.ldK (hm3 _) (eU _) (ze k) (by omega),by omega,by omega,?_⟩
     rw [v0,v1,v2,v3]
     obtain ⟨w12,q1,s1⟩:=hT.drew.stB (b:=outB (dblR 10 F) F (4*k)) (hm5 _) (sB _) (ze (4*k)) (by rw [upTo_len (by omega)];omega)
     rw [hms,upTo_set (show O[4*k]?=some (outB (dblR 10 F) F (4*k)) from ot 0 (by omega))] at s1
     obtain ⟨w13,q2,s2⟩:=s1.stB (b:=outB (dblR 10 F) F (4*k+1)) (hm5 _) (sB _) (ze (4*k+1)) (by rw [upTo_len (by omega)];omega)
     rw [hms,upTo_set (ot 1 (by omega))] at s2
     obtain ⟨w14,q3,s3⟩:=s2.stB (b:=outB (dblR 10 F) F (4*k+2)) (hm5 _) (sB _) (ze (4*k+2)) (by rw [upTo_len (by omega)];omega)
     rw [hms,upTo_set (ot 2 (by omega))] at s3
     obtain ⟨w15,q4,s4⟩:=s3.stB (b:=outB (dblR 10 F) F (4*k+3)) (hm5 _) (sB _) (ze (4*k+3)) (by rw [upTo_len (by omega)];omega)
     rw [hms,upTo_set (ot 3 (by omega))] at s4
     exact ⟨w12,q1,by omega,by omega,w13,q2,by omega,by omega,w14,q3,by omega,by omega,w15,q4,⟨k+1,rfl,by omega,s4⟩,by simp;omega⟩
   · have hk':k=16:=by simp at h;omega
     subst hk'
     rw [show 4*16=O.length by omega,upTo_all] at hT
     refine ⟨_,hT.ldA (hm5 _) (e64 _) (Tryz.sizeOf368 _) (by simp [hOl]),?_⟩
     obtain ⟨w12,q1,s1⟩:=hT.stA (v:=bv O) (hm2 _) (Tryz.sizeOf368 _) (by simp) (by simp [hOl]) (bv_one _)
     refine ⟨w12,q1,_,s1.ldVarA (i:=2) (l:=bv O) (by rw [hMx];rfl) (e64 _) (Tryz.sizeOf368 _) (by simp [hOl]),rfl,s1.chg⟩

end Go.Proofs.YtpmhjnhgpplmnaaGreatDoor
end

section
namespace Go.Proofs.YtpmhjnhgpplmnaaGreatDoor
open Go Sx
set_option maxRecDepth 8000

theorem const16:(((((List.replicate 16 0).set 0 1634760805).set 1 857760878).set 2 2036477234).set 3 1797285236:List Nat)=[1634760805,857760878,2036477234,1797285236]++List.replicate 12 0:=by decide

theorem first_alt (key nonce:List UInt8) (ctr:Nat):
   orW 13 nonce 12 (orW 4 key 32 (([1634760805,857760878,2036477234,1797285236]++List.replicate 12 0).set 12 ctr))=firstL key ctr nonce:=by
 have z:∀j,4≤j→j<16→j≠12→(([1634760805,857760878,2036477234,1797285236]++List.replicate 12 0:List Nat).set 12 ctr).getD j 0=0:=by
   intro j h1 h2 h3
   rw [getD_set_ne (fun e=>h3 e.symm)]
   have:∀j<16,4≤j→([1634760805,857760878,2036477234,1797285236]++List.replicate 12 0:List Nat).getD j 0=0:=by decide
   exact this j h2 h1
 have h1:=orW_setW 4 key (([1634760805,857760878,2036477234,1797285236]++List.replicate 12 0:List Nat).set 12 ctr) 8 (by simp) (fun j h1 h2=>z j h1 (by omega) (by omega))
 rw [show 4*8=32 from rfl] at h1
 rw [h1]
 have h2:=orW_setW 13 nonce (setW 4 key 8 (([1634760805,857760878,2036477234,1797285236]++List.replicate 12 0:List Nat).set 12 ctr)) 3 (by simp) (fun j h1 h2=>by
   rw [setW_far _ _ _ _ _ (by omega)];exact z j (by omega) (by omega) (by omega))
 rw [show 4*3=12 from rfl] at h2
 have sw:∀(k:Nat) (l:List Nat),4+k≤12→setW 4 key k (l.set 12 ctr)=(setW 4 key k l).set 12 ctr:=by
   intro k
   induction k with
   | zero=>intro l _;rfl
   | succ k ih=>
     intro l hk
     rw [setW,setW,ih l (by omega),List.set_comm _ _ (by omega)]
 rw [h2,sw 8 _ (by omega),firstL]

theorem rblock_spec (key nonce:List UInt8) (ctr:Nat) (w:World) (hk:key.length=32) (hn:nonce.length=12) (hc:ctr<4294967296):
   Calls Tryz.prog 273 #[.agg (bv key).toArray,.int .u32 (ctr:Int),.agg (bv nonce).toArray] w fun e w'=>e=.returned (.agg (bv (blockF key ctr nonce)).toArray)∧Chg [] w w':=by
 apply amphoraref03_Block_vc
 have hw:∀i:Nat,i<100→IntKind.wrap .i64 ((i:Int)+1)=((i+1:Nat):Int):=fun i h=>by rw [wrap_i64 (by omega) (by omega)];rfl
 have ze:∀k:Nat,0+Int.toNat (k:Int)*1=k:=fun k=>by omega
 have sU:∀w,(sizeOf 370).run Tryz.prog w=.ok 1 w:=fun w=>Tryz.sizeOf370 w
 have sB:∀w,(sizeOf 5).run Tryz.prog w=.ok 1 w:=fun w=>Tryz.sizeOf5 w
 have s16:∀w,(sizeOf 430).run Tryz.prog w=.ok 16 w:=fun w=>Tryz.sizeOf430 w
 have s64:∀w,(sizeOf 368).run Tryz.prog w=.ok 64 w:=fun w=>Tryz.sizeOf368 w
 obtain ⟨g1,w1,r1,h1⟩:=(St.start w).boxA (P:=Tryz.prog) 39 (bv key)
 obtain ⟨g2,w2,r2,h2⟩:=h1.boxA (P:=Tryz.prog) 287 (bv nonce)
 obtain ⟨g3,w3,r3,h3⟩:=h2.zeroA zero64
 have hb:=build_arr (P:=Tryz.prog) (w:=w3) (zero16 w3) Tryz.underlying430 (sU _) [] (by simp) (by simp)
 obtain ⟨g4,w4,r4,h4⟩:=h3.zeroA zero16
 obtain ⟨w5,r5,h5⟩:=h4.stA (i:=3) (v:=kv .u32 (List.replicate 16 0)) rfl (s16 _) (by simp) (by simp) (kv_one _ _)
 obtain ⟨w6,r6,h6⟩:=h5.stK (i:=3) (off:=0) (o:=0) (n:=1634760805) rfl (sU _) rfl (by simp)
 obtain ⟨w7,r7,h7⟩:=h6.stK (i:=3) (off:=1) (o:=1) (n:=857760878) rfl (sU _) rfl (by simp)
 obtain ⟨w8,r8,h8⟩:=h7.stK (i:=3) (off:=2) (o:=2) (n:=2036477234) rfl (sU _) rfl (by simp)
 obtain ⟨w9,r9,h9⟩:=h8.stK (i:=3) (off:=3) (o:=3) (n:=1797285236) rfl (sU _) rfl (by simp)
 obtain ⟨w10,r10,h10⟩:=h9.stK (i:=3) (off:=12) (o:=12) (n:=ctr) rfl (sU _) rfl (by simp)
 rw [const16] at h10
 refine ⟨_,_,r1,_,_,r2,_,_,r3,_,hb,_,_,r4,_,r5,_,r6,_,r7,_,r8,_,r9,_,r10,?_⟩
 obtain ⟨C0,hC0⟩:∃C0,([1634760805,857760878,2036477234,1797285236]++List.replicate 12 0:List Nat).set 12 ctr=C0:=⟨_,rfl⟩
 have hC0l:C0.length=16:=by rw [←hC0];simp
 have hC0t:Lt32 C0:=by rw [←hC0];exact lt32_const.set 12 hc
 obtain ⟨Mx,hMx⟩:∃Mx:List Nat→List Res,Mx=fun x=>[.arr g1 39 (bv key),.arr g2 287 (bv nonce),.arr g3 368 (bv (List.replicate 64 0)),.arr g4 430 (kv .u32 x)]:=⟨_,rfl⟩
 have hi0:∀x,(Mx x)[0]?=some (.arr g1 39 (bv key)):=fun x=>by rw [hMx];rfl
 have hi1:∀x,(Mx x)[1]?=some (.arr g2 287 (bv nonce)):=fun x=>by rw [hMx];rfl
 have hi3:∀x,(Mx x)[3]?=some (.arr g4 430 (kv .u32 x)):=fun x=>by rw [hMx];rfl
 have hset:∀x y,(Mx x).set 3 (.arr g4 430 (kv .u32 y))=Mx y:=fun x y=>by rw [hMx];rfl
 have h10':St w [] w10 (Mx C0):=by rw [hMx,←hC0];exact h10
 have ed:∀i:Nat,i<100→IntKind.wrap .i64 (Int.tdiv (i:Int) 4)=((i / 4:Nat):Int):=fun i hi=>by rw [Int.tdiv_eq_ediv_of_nonneg (by omega),wrap_i64 (by omega) (by omega)];omega
 have em:∀i:Nat,IntKind.wrap .u64 (Int.tmod (i:Int) 4)=((i%4:Nat):Int):=fun i=>by rw [Int.tmod_eq_emod_of_nonneg (by omega),wrap_u64];omega
 have e8:∀j:Nat,j<4→IntKind.wrap .u64 ((8:Int)*(j:Int))=((8*j:Nat):Int):=fun j hj=>by rw [wrap_u64];omega
 have ea:∀b j:Nat,b<100→j<100→IntKind.wrap .i64 ((b:Int)+(j:Int))=((b+j:Nat):Int):=fun b j hb hj=>by rw [wrap_i64 (by omega) (by omega)];omega
 have vor:∀(x:Nat) (b:UInt8) (j:Nat),x<4294967296→j<4→bor .u32 (x:Int) (shlI .u32 (IntKind.wrap .u32 (b.toNat:Int)) ((8*j:Nat):Int))=((x||| b.toNat*2^(8*j)%4294967296:Nat):Int):=fun x b j hx hj=>by
   have:=b.toNat_lt
   rw [wrap_u32_nat (by omega),shl_val (by omega),or_val hx (Nat.mod_lt _ (by decide))]
 refine ⟨fun i w'=>∃k:Nat,i=(k:Int)∧k≤32∧St w [] w' (Mx (orW 4 key k C0)),fun i _=>32-i.toNat,⟨0,rfl,by omega,h10'⟩,?_⟩
 rintro i w11 ⟨k,rfl,hk32,hS⟩
 refine ⟨fun h=>?_,fun h=>?_⟩
 · have hk':k<32:=by simp at h;omega
   have e4:IntKind.wrap .i64 ((4:Int)+((k / 4:Nat):Int))=_:=ea 4 (k / 4) (by omega) (by omega)
   rw [ed k (by omega),e4,em,e8 _ (by omega),hw k (by omega)]
   have ht:=hC0t.orW 4 key k
   refine ⟨fun w'=>St w [] w' (Mx (orW 4 key k C0)),hS.drew,by omega,by omega,by omega,by omega,_,fun w' h=>h.ldK (hi3 _) (eU _) (ze (4+k / 4)) (by rw [orW_len];omega),_,fun w' h=>h.ldB (hi0 _) (bA _) (ze k) (by omega),by omega,by omega,by omega,?_⟩
   rw [vor _ _ _ (ht _) (by omega)]
   obtain ⟨w12,q,s⟩:=hS.drew.stK (n:=(orW 4 key k C0).getD (4+k / 4) 0||| (key.getD k 0).toNat*2^(8*(k%4))%4294967296) (hi3 _) (sU _) (ze (4+k / 4)) (by rw [orW_len];omega)
   rw [hset] at s
   exact ⟨w12,q,⟨k+1,rfl,by omega,s⟩,by simp;omega⟩
 · have hk':k=32:=by simp at h;omega
   subst hk'
   refine ⟨fun i w'=>∃k:Nat,i=(k:Int)∧k≤12∧St w [] w' (Mx (orW 13 nonce k (orW 4 key 32 C0))),fun i _=>12-i.toNat,⟨0,rfl,by omega,hS⟩,?_⟩
   rintro i w13 ⟨k,rfl,hk12,hS⟩
   refine ⟨fun h=>?_,fun h=>?_⟩
   · have hk':k<12:=by simp at h;omega
     have e4:IntKind.wrap .i64 ((13:Int)+((k / 4:Nat):Int))=_:=ea 13 (k / 4) (by omega) (by omega)
     rw [ed k (by omega),e4,em,e8 _ (by omega),hw k (by omega)]
     have ht:=(hC0t.orW 4 key 32).orW 13 nonce k
     refine ⟨fun w'=>St w [] w' (Mx (orW 13 nonce k (orW 4 key 32 C0))),hS.drew,by omega,by omega,by omega,by omega,_,fun w' h=>h.ldK (hi3 _) (eU _) (ze (13+k / 4)) (by rw [orW_len,orW_len];omega),_,fun w' h=>h.ldB (hi1 _) (bA _) (ze k) (by omega),by omega,by omega,by omega,?_⟩
     rw [vor _ _ _ (ht _) (by omega)]
     obtain ⟨w14,q,s⟩:=hS.drew.stK (n:=(orW 13 nonce k (orW 4 key 32 C0)).getD (13+k / 4) 0||| (nonce.getD k 0).toNat*2^(8*(k%4))%4294967296) (hi3 _) (sU _) (ze (13+k / 4)) (by rw [orW_len,orW_len];omega)
     rw [hset] at s
     exact ⟨w14,q,⟨k+1,rfl,by omega,s⟩,by simp;omega⟩
   · have hk':k=12:=by simp at h;omega
     subst hk'
     have hfa:=first_alt key nonce ctr
     rw [hC0] at hfa
     have hF:=firstL_len key ctr nonce
     have hlF:=lt32_first key nonce hc
     obtain ⟨F,hFd⟩:∃F,firstL key ctr nonce=F:=⟨_,rfl⟩
     have hB:blockF key ctr nonce=outL F (dblR 10 F):=by rw [blockF,hFd,outL_comm]
     rw [hB]
     rw [hfa] at hS
     rw [hFd] at hF hlF hS
     obtain ⟨g5,w15,r15,h15⟩:=hS.zeroA zero16
     have m4:∀x y,(Mx x++ [Res.arr g5 430 (kv .u32 y)])[4]?=some (.arr g5 430 (kv .u32 y)):=fun x y=>by rw [hMx];rfl
     have m3:∀x y,(Mx x++ [Res.arr g5 430 (kv .u32 y)])[3]?=some (.arr g4 430 (kv .u32 x)):=fun x y=>by rw [hMx];rfl
     have ms:∀x y z,(Mx x++ [Res.arr g5 430 (kv .u32 y)]).set 4 (.arr g5 430 (kv .u32 z))=Mx x++ [Res.arr g5 430 (kv .u32 z)]:=fun x y z=>by rw [hMx];rfl
     obtain ⟨w16,r16,h16⟩:=h15.stA (v:=kv .u32 F) (m4 _ _) (s16 _) (by simp) (by simp [hF]) (kv_one _ _)
     rw [ms] at h16
     refine ⟨_,hS.ldA (hi3 _) (e16 _) (s16 _) (by simp [hF]),_,_,r15,_,r16,?_⟩
     have rs:∀(x:List Nat) (a b c d:Nat) (wa:World) (K:Ending→World→Prop),St w [] wa (Mx F++ [Res.arr g5 430 (kv .u32 x)])→x.length=16→Lt32 x→a<16→b<16→c<16→d<16→
         (∀wb,St w [] wb (Mx F++ [Res.arr g5 430 (kv .u32 (rnd x a b c d))])→K (.returned (.tuple #[])) wb)→
         Calls Tryz.prog 329 #[.pointer (some ⟨g5,0,none⟩),.int .i64 (a:Int),.int .i64 (b:Int),.int .i64 (c:Int),.int .i64 (d:Int)] wa K:=by
       intro x a b c d wa K hS hx hlx ha hb hc hd hK
       refine (round_spec g5 _ x a b c d wa (hS.holds 4 _ (m4 _ _)) hx hlx ha hb hc hd).mono ?_
       rintro e wb ⟨rfl,hcb,hgb⟩
       refine hK wb ?_
       have:=hS.upd (m4 _ _) (w':=wb) (r':=.arr g5 430 (kv .u32 (rnd x a b c d))) hcb hgb (by simp [Res.fp])
       rw [ms] at this
       exact this
     refine ⟨fun i w'=>∃k:Nat,i=(k:Int)∧k≤10∧St w [] w' (Mx F++ [Res.arr g5 430 (kv .u32 (dblR k F))]),fun i _=>10-i.toNat,⟨0,rfl,by omega,h16⟩,?_⟩
     rintro i w17 ⟨k,rfl,hk10,hS⟩
     refine ⟨fun h=>?_,fun h=>?_⟩
     · have hk':k<10:=by simp at h;omega
       have ht:=hlF.dblR k
       have hl0:(dblR k F).length=16:=by simp [hF]
       refine rs (dblR k F) 0 4 8 12 _ _ hS hl0 ht (by decide) (by decide) (by decide) (by decide) fun w18 h18=>⟨rfl,?_⟩
       have t1:=ht.rnd 0 4 8 12
       refine rs _ 1 5 9 13 _ _ h18 (by simp [hF]) t1 (by decide) (by decide) (by decide) (by decide) fun w19 h19=>⟨rfl,?_⟩
       have t2:=t1.rnd 1 5 9 13
       refine rs _ 2 6 10 14 _ _ h19 (by simp [hF]) t2 (by decide) (by decide) (by decide) (by decide) fun w20 h20=>⟨rfl,?_⟩
       have t3:=t2.rnd 2 6 10 14
       refine rs _ 3 7 11 15 _ _ h20 (by simp [hF]) t3 (by decide) (by decide) (by decide) (by decide) fun w21 h21=>⟨rfl,?_⟩
       have t4:=t3.rnd 3 7 11 15
       refine rs _ 0 5 10 15 _ _ h21 (by simp [hF]) t4 (by decide) (by decide) (by decide) (by decide) fun w22 h22=>⟨rfl,?_⟩
       have t5:=t4.rnd 0 5 10 15
       refine rs _ 1 6 11 12 _ _ h22 (by simp [hF]) t5 (by decide) (by decide) (by decide) (by decide) fun w23 h23=>⟨rfl,?_⟩
       have t6:=t5.rnd 1 6 11 12
       refine rs _ 2 7 8 13 _ _ h23 (by simp [hF]) t6 (by decide) (by decide) (by decide) (by decide) fun w24 h24=>⟨rfl,?_⟩
       have t7:=t6.rnd 2 7 8 13
       refine rs _ 3 4 9 14 _ _ h24 (by simp [hF]) t7 (by decide) (by decide) (by decide) (by decide) fun w25 h25=>⟨rfl,?_⟩
       rw [hw k (by omega)]
       exact ⟨⟨k+1,rfl,by omega,h25⟩,by simp;omega⟩
     · have hk':k=10:=by simp at h;omega
       subst hk'
       have hb64:=build_arr (P:=Tryz.prog) (w:=w17) (zero64 w17) Tryz.underlying368 (sB _) [] (by simp) (by simp)
       obtain ⟨g6,w18,r18,h18⟩:=hS.zeroA zero64
       obtain ⟨O,hO⟩:∃O,outL F (dblR 10 F)=O:=⟨_,rfl⟩
       have hOl:O.length=64:=by rw [←hO];simp
       rw [hO]
       obtain ⟨Nx,hNx⟩:∃Nx:List UInt8→List Res,Nx=fun y=>Mx F++ [Res.arr g5 430 (kv .u32 (dblR 10 F))]++ [Res.arr g6 368 (bv y)]:=⟨_,rfl⟩
       have n5:∀y,(Nx y)[5]?=some (.arr g6 368 (bv y)):=fun y=>by rw [hNx,hMx];rfl
       have n4:∀y,(Nx y)[4]?=some (.arr g5 430 (kv .u32 (dblR 10 F))):=fun y=>by rw [hNx,hMx];rfl
       have n3:∀y,(Nx y)[3]?=some (.arr g4 430 (kv .u32 F)):=fun y=>by rw [hNx,hMx];rfl
       have n2:∀y,(Nx y)[2]?=some (.arr g3 368 (bv (List.replicate 64 0))):=fun y=>by rw [hNx,hMx];rfl
       have ns:∀x y,(Nx x).set 5 (.arr g6 368 (bv y))=Nx y:=fun x y=>by rw [hNx,hMx];rfl
       have h18':St w [] w18 (Nx (List.replicate 64 0)):=by rw [hNx];exact h18
       obtain ⟨w19,r19,h19⟩:=h18'.stA (v:=bv (List.replicate 64 0)) (n5 _) (s64 _) (by simp) (by simp) (bv_one _)
       rw [ns] at h19
       refine ⟨_,hb64,_,_,r18,_,r19,fun i w'=>∃k:Nat,i=(k:Int)∧k≤64∧St w [] w' (Nx (upTo O k)),fun i _=>64-i.toNat,⟨0,rfl,by omega,by rw [upTo_zero,hOl];exact h19⟩,?_⟩
       rintro i w20 ⟨k,rfl,hk64,hT⟩
       refine ⟨fun h=>?_,fun h=>?_⟩
       · have hk':k<64:=by simp at h;omega
         rw [ed k (by omega),em,e8 _ (by omega),hw k (by omega)]
         have ov:IntKind.wrap .u8 (shrI .u32 (IntKind.wrap .u32 ((F.getD (k / 4) 0:Nat)+((dblR 10 F).getD (k / 4) 0:Nat):Int)) ((8*(k%4):Nat):Int))=((outB F (dblR 10 F) k).toNat:Int):=by
           rw [add_val,shr_nat _ _ _ (show 8*(k%4)≤32 by omega),outB_val F (dblR 10 F) (k / 4) (k%4) (by omega),show 4*(k / 4)+k%4=k by omega]
         refine ⟨fun w'=>St w [] w' (Nx (upTo O k)),hT.drew,by omega,by omega,by omega,by omega,_,fun w' h=>h.ldK (n3 _) (eU _) (ze (k / 4)) (by omega),_,fun w' h=>h.ldK (n4 _) (eU _) (ze (k / 4)) (by simp [hF];omega),by omega,by omega,by omega,?_⟩
         rw [ov]
         obtain ⟨w21,q,s⟩:=hT.drew.stB (b:=outB F (dblR 10 F) k) (n5 _) (sB _) (ze k) (by rw [upTo_len (by omega)];omega)
         rw [ns,upTo_set (by rw [←hO];exact outL_get _ _ _ hk')] at s
         exact ⟨w21,q,⟨k+1,rfl,by omega,s⟩,by simp;omega⟩
       · have hk':k=64:=by simp at h;omega
         subst hk'
         rw [show 64=O.length by omega,upTo_all] at hT
         refine ⟨_,hT.ldA (n5 _) (e64 _) (s64 _) (by simp [hOl]),?_⟩
         obtain ⟨w22,q,s⟩:=hT.stA (v:=bv O) (n2 _) (s64 _) (by simp) (by simp [hOl]) (bv_one _)
         refine ⟨w22,q,_,s.ldVarA (i:=2) (l:=bv O) (by rw [hNx,hMx];rfl) (e64 _) (s64 _) (by simp [hOl]),rfl,s.chg⟩

end Go.Proofs.YtpmhjnhgpplmnaaGreatDoor
end

section
namespace Go.Proofs.YtpmhjnhgpplmnaaGreatDoor
open Go Sx
set_option maxRecDepth 8000

def strB (key nonce:List UInt8) (p:Nat):UInt8:=(blockF key (p / 64) nonce).getD (p%64) 0
def xorL (key nonce:List UInt8) (at':Nat) (l:List UInt8):List UInt8:=l.mapIdx fun i b=>b^^^strB key nonce (at'+i)
@[simp] theorem xorL_len (key nonce:List UInt8) (at':Nat) (l:List UInt8):(xorL key nonce at' l).length=l.length:=by simp [xorL]
theorem xorL_get {key nonce:List UInt8} {at':Nat} {l:List UInt8} {i:Nat} (h:i<l.length):(xorL key nonce at' l)[i]?=some (l.getD i 0^^^strB key nonce (at'+i)):=by simp [xorL,List.getD,h]

def mix (x l:List UInt8) (i:Nat):List UInt8:=x.take i++l.drop i
theorem mix_zero (x l:List UInt8):mix x l 0=l:=by simp [mix]
theorem mix_all {x l:List UInt8} {n:Nat} (h:x.length=n) (h':l.length=n):mix x l n=x:=by simp [mix,←h,show l.length=x.length by omega]
theorem mix_len {x l:List UInt8} {i:Nat} (h:x.length=l.length) (hi:i≤l.length):(mix x l i).length=l.length:=by simp [mix];omega
theorem mix_get {x l:List UInt8} {i:Nat} (h:x.length=l.length) (hi:i<l.length):(mix x l i).getD i 0=l.getD i 0:=by
 have hl:(x.take i).length=i:=by rw [List.length_take];omega
 simp [mix,List.getD,List.getElem?_append_right,hl]
theorem mix_set {x l:List UInt8} {i:Nat} {b:UInt8} (h:x.length=l.length) (hb:x[i]?=some b):(mix x l i).set i b=mix x l (i+1):=by
 have hi:i<x.length:=(List.getElem?_eq_some_iff.1 hb).1
 have hl:(x.take i).length=i:=by rw [List.length_take];omega
 rw [mix,mix,List.set_append_right _ _ (by omega),hl,Nat.sub_self,List.drop_eq_getElem_cons (by omega:i<l.length),List.set_cons_zero,List.take_add_one,hb]
 simp

theorem xor_u8 (a b:UInt8):bxor .u8 (a.toNat:Int) (b.toNat:Int)=((a^^^b).toNat:Int):=by
 rw [bxor_nat rfl (by simpa [kmod,IntKind.bits] using a.toNat_lt) (by simpa [kmod,IntKind.bits] using b.toNat_lt),UInt8.toNat_xor]

theorem Sx.Chg.range {w w':World} {X:List Nat} {b o:Nat} {cs:List Value} (hc:Chg X w w') (h:w.rangeAt b o cs) (hb:b∉X):w'.rangeAt b o cs:=by
 have hk:Cells w (some ⟨b,o,none⟩) cs:=.inr ⟨b,o,rfl,h⟩
 rcases hk.keep hc (by rintro ad ⟨⟩;exact hb) with h0 | ⟨b',o',he,hr⟩
 · subst h0;intro j v hj;simp at hj
 · simp only [Option.some.injEq,Addr.mk.injEq,and_true] at he
   obtain ⟨rfl,rfl⟩:=he
   exact hr

theorem Sx.St.ofRowC {w:World} {e:TypeId} {sz:Nat} {g n m c:Nat} {xs:List Value} (h:w.ownsRow 0 e sz (.slice (some ⟨g,0,none⟩) n c) m xs):St w [g] w [.row e sz (.slice (some ⟨g,0,none⟩) n c) m xs]:=by
 have one:∀(i:Nat) (r:Res),[Res.row e sz (.slice (some ⟨g,0,none⟩) n c) m xs][i]?=some r→i=0∧r=.row e sz (.slice (some ⟨g,0,none⟩) n c) m xs:=by
   intro i r hr
   cases i with
   | zero=>exact ⟨rfl,(Option.some.inj hr).symm⟩
   | succ i=>simp at hr
 refine ⟨Chg.refl _ _,?_,?_,?_⟩
 · intro i r hr;obtain ⟨_,rfl⟩:=one i r hr;exact h
 · intro i r hr k hk;obtain ⟨_,rfl⟩:=one i r hr;right;simpa [Res.fp,Value.ownBlock] using hk
 · intro i j r s hij hi hj;have:=(one i r hi).1;have:=(one j s hj).1;omega

theorem seatOver_spec (gs o g n c at':Nat) (key nonce l:List UInt8) (w:World) (hk:key.length=32) (hn:nonce.length=12) (rk:w.rangeAt gs o (bv key)) (rn:w.rangeAt gs (o+32) (bv nonce)) (hne:gs≠g)
   (hrow:w.ownsRow 0 5 1 (.slice (some ⟨g,0,none⟩) n c) n (bv l)) (hat:at'+n≤274877906944):
   Calls Tryz.prog 328 #[.pointer (some ⟨gs,o,none⟩),.int .i64 (at':Int),.slice (some ⟨g,0,none⟩) n c] w fun e w'=>e=.returned (.tuple #[])∧Chg [g] w w'∧w'.ownsRow 0 5 1 (.slice (some ⟨g,0,none⟩) n c) n (bv (xorL key nonce at' l)):=by
 apply chacha_seat_over_vc
 have hl:l.length=n:=by have:=hrow.1;simpa using this
 have ze:∀k:Nat,0+Int.toNat (k:Int)*1=k:=fun k=>by omega
 have sB:∀w,(sizeOf 5).run Tryz.prog w=.ok 1 w:=fun w=>Tryz.sizeOf5 w
 have s64:∀w,(sizeOf 368).run Tryz.prog w=.ok 64 w:=fun w=>Tryz.sizeOf368 w
 have s32:∀w,(sizeOf 39).run Tryz.prog w=.ok 32 w:=fun w=>Tryz.sizeOf39 w
 have s12:∀w,(sizeOf 287).run Tryz.prog w=.ok 12 w:=fun w=>Tryz.sizeOf287 w
 obtain ⟨X,hX⟩:∃X,xorL key nonce at' l=X:=⟨_,rfl⟩
 have hXl:X.length=l.length:=by rw [←hX];simp
 rw [hX]
 obtain ⟨g6,w1,r1,h1⟩:=(St.ofRowC hrow).zeroA zero64
 obtain ⟨M,hM⟩:∃M:List UInt8→List UInt8→List Res,M=fun x B=>[.row 5 1 (.slice (some ⟨g,0,none⟩) n c) n (bv x),.arr g6 368 (bv B)]:=⟨_,rfl⟩
 have i0:∀x B,(M x B)[0]?=some (.row 5 1 (.slice (some ⟨g,0,none⟩) n c) n (bv x)):=fun x B=>by rw [hM];rfl
 have i1:∀x B,(M x B)[1]?=some (.arr g6 368 (bv B)):=fun x B=>by rw [hM];rfl
 have q0:∀x B y,(M x B).set 0 (.row 5 1 (.slice (some ⟨g,0,none⟩) n c) n (bv y))=M y B:=fun x B y=>by rw [hM];rfl
 have q1:∀x B y,(M x B).set 1 (.arr g6 368 (bv y))=M x y:=fun x B y=>by rw [hM];rfl
 have h1':St w [g] w1 (M (mix X l 0) (List.replicate 64 0)):=by rw [hM,mix_zero];exact h1
 refine ⟨_,_,r1,fun x y w'=>∃(i:Nat) (B:List UInt8),y=(i:Int)∧i≤n∧B.length=64∧(x= -1∨∃h:Nat,x=(h:Int)∧B=blockF key h nonce)∧St w [g] w' (M (mix X l i) B),fun _ y _=>n-y.toNat,
   ⟨0,_,rfl,by omega,by simp,.inl rfl,h1'⟩,?_⟩
 rintro x y w2 ⟨i,B,rfl,hi,hBl,hB,hS⟩
 refine ⟨fun h=>?_,fun h=>?_⟩
 · have hi':i<n:=by simp at h;omega
   have ea:IntKind.wrap .i64 ((at':Int)+(i:Int))=((at'+i:Nat):Int):=by rw [wrap_i64 (by omega) (by omega)];omega
   have ed:IntKind.wrap .i64 (Int.tdiv ((at'+i:Nat):Int) 64)=(((at'+i) / 64:Nat):Int):=by rw [Int.tdiv_eq_ediv_of_nonneg (by omega),wrap_i64 (by omega) (by omega)];omega
   have em:Int.tmod ((at'+i:Nat):Int) 64=(((at'+i)%64:Nat):Int):=by rw [Int.tmod_eq_emod_of_nonneg (by omega)];omega
   have ew:IntKind.wrap .u32 (((at'+i) / 64:Nat):Int)=(((at'+i) / 64:Nat):Int):=wrap_u32_nat (by omega)
   have e1:IntKind.wrap .i64 ((i:Int)+1)=((i+1:Nat):Int):=by rw [wrap_i64 (by omega) (by omega)];rfl
   rw [ea,ed,em,ew,e1]
   refine ⟨fun x' w'=>x'=(((at'+i) / 64:Nat):Int)∧St w [g] w' (M (mix X l i) (blockF key ((at'+i) / 64) nonce)),⟨fun hd=>?_,fun hd=>?_⟩,?_⟩
   · have kd:=fun (w':World) (h:St w [g] w' (M (mix X l i) B))=>h.chg.range rk (by simp [hne])
     have nd:=fun (w':World) (h:St w [g] w' (M (mix X l i) B))=>h.chg.range rn (by simp [hne])
     refine ⟨fun w'=>St w [g] w' (M (mix X l i) B),hS.drew,_,fun w' h=>ldRange (kd w' h) (e32 _) (s32 _) (by simp [hk]),_,fun w' h=>ldRange (nd w' h) (e12 _) (s12 _) (by simp [hn]),(block_spec key nonce ((at'+i) / 64) _ hk hn (by omega)).mono ?_⟩
     rintro e w3 ⟨rfl,hc3⟩
     obtain ⟨w4,r4,h4⟩:=(hS.drew.same hc3).stA (v:=bv (blockF key ((at'+i) / 64) nonce)) (i1 _ _) (s64 _) (by simp [hBl]) (by simp) (bv_one _)
     rw [q1] at h4
     exact ⟨_,rfl,fun w'=>St w [g] w' (M (mix X l i) B),fun _ h=>h,hS.drew.same hc3,w4,r4,rfl,h4⟩
   · have hx:x=(((at'+i) / 64:Nat):Int):=by simp at hd;exact hd.symm
     rcases hB with h0 | ⟨h',h0,hBh⟩
     · omega
     · have:h'=(at'+i) / 64:=by omega
       rw [this] at hBh
       exact ⟨hx,by rw [←hBh];exact hS⟩
   · rintro x' w5 ⟨rfl,h5⟩
     have hlt:(at'+i)%64<64:=Nat.mod_lt _ (by decide)
     have hml:=mix_len hXl (show i≤l.length by omega)
     have ldm:∀w',St w [g] w' (M (mix X l i) (blockF key ((at'+i) / 64) nonce))→(Instr.loadAt 5 (.pointer (some ⟨g,0+Int.toNat (i:Int)*1,none⟩))).run Tryz.prog w'=.ok (.int .u8 ((l.getD i 0).toNat:Int)) w':=fun w' h=>by
       have hc:=h.cells (i0 _ _)
       have hv:(bv (mix X l i))[i]?=some (.int .u8 ((l.getD i 0).toNat:Int)):=by rw [bv_getD (by omega),mix_get hXl (by omega)]
       obtain ⟨b,o',he,hcell⟩:=hc.at_ hv
       simp only [Option.some.injEq,Addr.mk.injEq,and_true] at he
       obtain ⟨rfl,rfl⟩:=he
       rw [show 0+Int.toNat (i:Int)*1=0+i by omega]
       exact ld1 (bA _) hcell
     refine ⟨fun w'=>St w [g] w' (M (mix X l i) (blockF key ((at'+i) / 64) nonce)),h5.drew,g,0,rfl,by omega,by omega,by omega,by omega,_,ldm,_,fun w' h=>h.ldB (i1 _ _) (bA _) (ze ((at'+i)%64)) (by simpa using hlt),g,0,rfl,by omega,by omega,?_⟩
     rw [xor_u8,show 0+Int.toNat (i:Int)*1=i by omega]
     obtain ⟨w6,r6,h6⟩:=h5.drew.stRow (v:=.int .u8 ((l.getD i 0^^^(blockF key ((at'+i) / 64) nonce).getD ((at'+i)%64) 0).toNat:Int)) (i0 _ _) (sB _) hi' rfl
     rw [bv_set,q0,mix_set hXl (by rw [←hX];exact xorL_get (by omega))] at h6
     exact ⟨w6,r6,⟨i+1,_,rfl,by omega,by simp,.inr ⟨_,rfl,rfl⟩,h6⟩,by simp;omega⟩
 · have hi':i=n:=by simp at h;omega
   subst hi'
   rw [mix_all (by omega) (by omega)] at hS
   exact ⟨rfl,hS.chg,hS.holds 0 _ (i0 _ _)⟩

def roomF (x:Int) (n:Nat):Bool:=decide (0≤x)&&decide (x+n≤274877906944)
def xorE (x:Int) (n:Nat):Option Int:=if roomF x n then none else some 8
def xorR (key nonce:List UInt8) (x:Int) (l:List UInt8):List UInt8:=if roomF x l.length then xorL key nonce x.toNat l else []

theorem room_spec (x:Int) (n:Nat) (w:World) (h1: -9223372036854775808≤x) (h2:x≤9223372036854775807) (hn:n≤9223372036854775807):Calls Tryz.prog 327 #[.int .i64 x,.int .i64 (n:Int)] w fun e w'=>e=.returned (.bool (roomF x n))∧w'=w:=by
 apply chacha_room_vc
 refine ⟨?_,rfl⟩
 have:(((decide (x≥(0:Int)))&&(decide (x≤(274877906944:Int))))&&(decide ((n:Int)≤(IntKind.wrap .i64 ((274877906944:Int)-x)))))=roomF x n:=by
   by_cases h0:0≤x
   · rw [wrap_i64 (by omega) (by omega)]
     simp only [roomF]
     rw [Bool.eq_iff_iff]
     simp only [Bool.and_eq_true,decide_eq_true_eq]
     omega
   · simp [roomF,h0]
 rw [this]

theorem built_seat:Tryz.prog.built 428=fun parts=>Instr.fill (fun i=>(#[(0,32),(32,12)]:Array (Nat×Nat))[i]?) (bv (List.replicate 44 0)).toArray parts:=by kernel_rfl

theorem seat_build (key nonce:List UInt8) (hk:key.length=32) (hn:nonce.length=12) (w:World):(Instr.build 428 #[(0,.agg (bv key).toArray),(1,.agg (bv nonce).toArray)]).run Tryz.prog w=.ok (.agg (bv key++bv nonce).toArray) w:=by
 apply run_build
 rw [built_seat]
 show Instr.fill _ _ [(0,.agg (bv key).toArray),(1,.agg (bv nonce).toArray)]=_
 rw [fill_step (off:=0) (sz:=32) rfl (by simp [Value.cells,hk]) (by simp),fill_step (off:=32) (sz:=12) rfl (by simp [Value.cells,hn]) (by simp [Value.cells,hk])]
 simp [Instr.fill,Value.cells,hk,hn]

theorem xor_spec (key nonce:List UInt8) (x:Int) (a:Option Addr) (n c:Nat) (l:List UInt8) (w:World) (hk:key.length=32) (hn:nonce.length=12) (h1: -9223372036854775808≤x) (h2:x≤9223372036854775807) (hr:RdB w a n c l) (hb:n≤9223372036854775807):
   Calls Tryz.prog 272 #[.agg (bv key).toArray,.agg (bv nonce).toArray,.int .i64 x,.slice a n c] w fun e w'=>∃a' n' c',e=.returned (.tuple #[.slice a' n' c',errV (xorE x n)])∧FreshB w w' a' n' c' (xorR key nonce x l):=by
 have hl:=hr.lenB
 apply chacha_XOR_vc
 have s32:∀w,(sizeOf 39).run Tryz.prog w=.ok 32 w:=fun w=>Tryz.sizeOf39 w
 have s12:∀w,(sizeOf 287).run Tryz.prog w=.ok 12 w:=fun w=>Tryz.sizeOf287 w
 obtain ⟨g1,w1,r1,k1⟩:=(St.start w).boxA (P:=Tryz.prog) 39 (bv key)
 obtain ⟨g2,w2,r2,k2⟩:=k1.boxA (P:=Tryz.prog) 287 (bv nonce)
 refine ⟨_,_,r1,_,_,r2,(room_spec x n w2 h1 h2 hb).mono ?_⟩
 rintro e w3 ⟨rfl,rfl⟩
 refine ⟨_,rfl,fun h=>?_,fun h=>?_⟩
 · have hf:roomF x n=false:=by simpa using h
   refine ⟨none,0,0,by simp [xorE,hf,errV],?_⟩
   rw [xorR,hl,hf]
   exact ⟨k2.chg,rfl,World.ownsRow_nil _ _ _ _⟩
 · have hf:roomF x n=true:=by simpa using h
   have hx0:0≤x∧x+n≤274877906944:=by simpa [roomF] using hf
   obtain ⟨at',rfl⟩:=Int.eq_ofNat_of_zero_le hx0.1
   obtain ⟨g,w4,r4,k4⟩:=k2.mk0n (kl:=.i64) (kc:=.i64) (c:=n) bT (by omega) (by omega)
   obtain ⟨va,vc,w5,r5,k5,hin,_⟩:=k4.append (i:=2) (ty:=26) bT rfl (k4.rd1 hr) (bv_one l) (by omega) (by simp only [maxLen];omega)
   have hv:=hin (by omega)
   rw [Nat.zero_add,hv.1,hv.2] at r5 k5
   refine ⟨_,_,_,_,r4,_,_,_,_,r5,_,k5.ldA (i:=0) rfl (e32 _) (s32 _) (by simp [hk]),_,k5.ldA (i:=1) rfl (e12 _) (s12 _) (by simp [hn]),_,seat_build key nonce hk hn _,?_⟩
   obtain ⟨g6,w6,r6,k6⟩:=k5.boxA (P:=Tryz.prog) 428 (bv key++bv nonce)
   refine ⟨_,_,r6,?_⟩
   have rng:=k6.cellsA (i:=3) rfl
   have hne:g6≠g:=fun e=>k6.apart 3 2 _ _ (by decide) rfl rfl g6 (by simp [Res.fp]) (by simp [Res.fp,Value.ownBlock,e])
   have rk:w6.rangeAt g6 0 (bv key):=fun j v hj=>rng j v (by rw [List.getElem?_append_left (List.getElem?_eq_some_iff.1 hj).1];exact hj)
   have rn:w6.rangeAt g6 (0+32) (bv nonce):=fun j v hj=>by
     have:=rng (32+j) v (by rw [List.getElem?_append_right (by simp [hk]),bv_length,hk,Nat.add_sub_cancel_left];exact hj)
     rw [show 0+32+j=0+(32+j) by omega];exact this
   refine (seatOver_spec g6 0 g n n at' key nonce l w6 hk hn rk rn hne (k6.holds 2 _ rfl) (by omega)).mono ?_
   rintro e w7 ⟨rfl,hc7,hrow⟩
   have he:errV (xorE (at':Int) n)=.nilIface:=by simp [xorE,hf,errV]
   rw [he]
   refine ⟨rfl,_,_,_,rfl,?_⟩
   rw [xorR,hl,hf,if_pos rfl,Int.toNat_natCast]
   have:=k6.upd (i:=2) (r':=.row 5 1 (.slice (some ⟨g,0,none⟩) n n) n (bv (xorL key nonce at' l))) rfl (by simpa [Res.fp,Value.ownBlock] using hc7) hrow (by simp [Res.fp,Value.ownBlock])
   exact this.freshB (i:=2) rfl

theorem rxor_spec (key nonce:List UInt8) (x:Int) (a:Option Addr) (n c:Nat) (l:List UInt8) (w:World) (hk:key.length=32) (hn:nonce.length=12) (h1: -9223372036854775808≤x) (h2:x≤9223372036854775807) (hr:RdB w a n c l) (hb:n≤9223372036854775807):
   Calls Tryz.prog 201 #[.agg (bv key).toArray,.agg (bv nonce).toArray,.int .i64 x,.slice a n c] w fun e w'=>∃a' n' c',e=.returned (.tuple #[.slice a' n' c',.int .i64 ((xorE x n).getD 0)])∧FreshB w w' a' n' c' (xorR key nonce x l):=by
 have hl:=hr.lenB
 apply amphoraref03_XOR_vc
 have ze:∀k:Nat,0+Int.toNat (k:Int)*1=k:=fun k=>by omega
 have sB:∀w,(sizeOf 5).run Tryz.prog w=.ok 1 w:=fun w=>Tryz.sizeOf5 w
 have s64:∀w,(sizeOf 368).run Tryz.prog w=.ok 64 w:=fun w=>Tryz.sizeOf368 w
 have s32:∀w,(sizeOf 39).run Tryz.prog w=.ok 32 w:=fun w=>Tryz.sizeOf39 w
 have s12:∀w,(sizeOf 287).run Tryz.prog w=.ok 12 w:=fun w=>Tryz.sizeOf287 w
 obtain ⟨g1,w1,r1,k1⟩:=(St.start w).boxA (P:=Tryz.prog) 39 (bv key)
 obtain ⟨g2,w2,r2,k2⟩:=k1.boxA (P:=Tryz.prog) 287 (bv nonce)
 have hbool:(((decide (x<(0:Int)))||(decide (x>(274877906944:Int))))||(decide (((n:Nat):Int)>(IntKind.wrap .i64 ((274877906944:Int)-x)))))= !(roomF x n):=by
   by_cases h0:0≤x
   · rw [wrap_i64 (by omega) (by omega)]
     simp only [roomF]
     rw [Bool.eq_iff_iff]
     simp only [Bool.and_eq_true,Bool.or_eq_true,Bool.not_eq_true',Bool.and_eq_false_iff,decide_eq_true_eq,decide_eq_false_iff_not]
     omega
   · have:x<0:=by omega
     simp [roomF,h0,this]
 rw [hbool]
 refine ⟨_,_,r1,_,_,r2,fun h=>?_,fun h=>?_⟩
 · have hf:roomF x n=false:=by simpa using h
   refine ⟨none,0,0,by simp [xorE,hf],?_⟩
   rw [xorR,hl,hf]
   exact ⟨k2.chg,rfl,World.ownsRow_nil _ _ _ _⟩
 · have hf:roomF x n=true:=by simpa using h
   have hx0:0≤x∧x+n≤274877906944:=by simpa [roomF] using hf
   obtain ⟨at',rfl⟩:=Int.eq_ofNat_of_zero_le hx0.1
   obtain ⟨g3,w3,r3,k3⟩:=k2.lit bT [] (by simp) (by simp)
   have hb:=build_arr (P:=Tryz.prog) (w:=w3) (zero64 w3) Tryz.underlying368 (sB _) [] (by simp) (by simp)
   obtain ⟨g4,w4,r4,k4⟩:=k3.zeroA zero64
   obtain ⟨w5,r5,k5⟩:=k4.stA (i:=3) (v:=bv (List.replicate 64 0)) rfl (s64 _) (by simp) (by simp) (bv_one _)
   have he:(xorE (at':Int) n).getD 0=0:=by simp [xorE,hf]
   have hR:xorR key nonce (at':Int) l=xorL key nonce at' l:=by rw [xorR,hl,hf,if_pos rfl,Int.toNat_natCast]
   rw [he,hR]
   obtain ⟨X,hX⟩:∃X,xorL key nonce at' l=X:=⟨_,rfl⟩
   have hXl:X.length=l.length:=by rw [←hX];simp
   rw [hX]
   obtain ⟨M,hM⟩:∃M:Option Addr→Nat→Nat→List UInt8→List UInt8→List Res,M=fun va vn vc y B=>[.arr g1 39 (bv key),.arr g2 287 (bv nonce),.row 5 1 (.slice va vn vc) vn (bv y),.arr g4 368 (bv B)]:=⟨_,rfl⟩
   have i0:∀va vn vc y B,(M va vn vc y B)[0]?=some (.arr g1 39 (bv key)):=fun va vn vc y B=>by rw [hM];rfl
   have i1:∀va vn vc y B,(M va vn vc y B)[1]?=some (.arr g2 287 (bv nonce)):=fun va vn vc y B=>by rw [hM];rfl
   have i2:∀va vn vc y B,(M va vn vc y B)[2]?=some (.row 5 1 (.slice va vn vc) vn (bv y)):=fun va vn vc y B=>by rw [hM];rfl
   have i3:∀va vn vc y B,(M va vn vc y B)[3]?=some (.arr g4 368 (bv B)):=fun va vn vc y B=>by rw [hM];rfl
   have q2:∀va vn vc y B va' vn' vc' y',(M va vn vc y B).set 2 (.row 5 1 (.slice va' vn' vc') vn' (bv y'))=M va' vn' vc' y' B:=fun va vn vc y B va' vn' vc' y'=>by rw [hM];rfl
   have q3:∀va vn vc y B B',(M va vn vc y B).set 3 (.arr g4 368 (bv B'))=M va vn vc y B':=fun va vn vc y B B'=>by rw [hM];rfl
   refine ⟨_,_,_,_,r3,_,hb,_,_,r4,_,r5,fun va vn vc y w'=>∃(i:Nat) (B:List UInt8),y=(i:Int)∧vn=i∧i≤n∧B.length=64∧(i=0∨B=blockF key ((at'+i-1) / 64) nonce)∧St w [] w' (M va vn vc (X.take i) B),fun _ _ _ y _=>n-y.toNat,
     ⟨0,List.replicate 64 0,rfl,rfl,by omega,by simp,.inl rfl,by rw [hM];exact k5⟩,?_⟩
   rintro va vn vc y w6 ⟨i,B,rfl,rfl,hi,hBl,hB,hS⟩
   refine ⟨fun h=>?_,fun h=>?_⟩
   · have hi':vn<n:=by simp at h;omega
     have ea:IntKind.wrap .i64 ((at':Int)+(vn:Int))=((at'+vn:Nat):Int):=by rw [wrap_i64 (by omega) (by omega)];omega
     have ed:IntKind.wrap .i64 (Int.tdiv ((at'+vn:Nat):Int) 64)=(((at'+vn) / 64:Nat):Int):=by rw [Int.tdiv_eq_ediv_of_nonneg (by omega),wrap_i64 (by omega) (by omega)];omega
     have em:Int.tmod ((at'+vn:Nat):Int) 64=(((at'+vn)%64:Nat):Int):=by rw [Int.tmod_eq_emod_of_nonneg (by omega)];omega
     have ew:IntKind.wrap .u32 (((at'+vn) / 64:Nat):Int)=(((at'+vn) / 64:Nat):Int):=wrap_u32_nat (by omega)
     have e1:IntKind.wrap .i64 ((vn:Int)+1)=((vn+1:Nat):Int):=by rw [wrap_i64 (by omega) (by omega)];rfl
     rw [ea,ed,em,ew,e1]
     refine ⟨fun w'=>St w [] w' (M va vn vc (X.take vn) (blockF key ((at'+vn) / 64) nonce)),⟨fun hd=>?_,fun hd=>?_⟩,?_⟩
     · refine ⟨_,hS.ldA (i0 _ _ _ _ _) (e32 _) (s32 _) (by simp [hk]),_,hS.ldA (i1 _ _ _ _ _) (e12 _) (s12 _) (by simp [hn]),(rblock_spec key nonce ((at'+vn) / 64) _ hk hn (by omega)).mono ?_⟩
       rintro e w7 ⟨rfl,hc7⟩
       obtain ⟨w8,r8,h8⟩:=(hS.same hc7).stA (v:=bv (blockF key ((at'+vn) / 64) nonce)) (i3 _ _ _ _ _) (s64 _) (by simp [hBl]) (by simp) (bv_one _)
       rw [q3] at h8
       exact ⟨_,rfl,w8,r8,h8⟩
     · simp only [Bool.or_eq_false_iff,beq_eq_false_iff_ne] at hd
       rcases hB with h0 | h0
       · omega
       · rw [show (at'+vn) / 64=(at'+vn-1) / 64 by omega,←h0];exact hS
     · intro w7 h7
       have hlt:(at'+vn)%64<64:=Nat.mod_lt _ (by decide)
       have hxg:X[vn]?=some (l.getD vn 0^^^strB key nonce (at'+vn)):=by rw [←hX];exact xorL_get (by omega)
       refine ix0 hr.cells hl vn hi' fun b o ha hld=>?_
       obtain ⟨g8,w8,va',vc',w9,r8,r9,h9,h8⟩:=h7.drew.push1 (i2 _ _ _ _ _) (by omega) (l.getD vn 0^^^(blockF key ((at'+vn) / 64) nonce).getD ((at'+vn)%64) 0).toNat (UInt8.toNat_lt _)
       rw [q2,UInt8.ofNat_toNat,show X.take vn++ [l.getD vn 0^^^(blockF key ((at'+vn) / 64) nonce).getD ((at'+vn)%64) 0]=X.take (vn+1) by rw [List.take_add_one,hxg];rfl] at h9
       have toS:∀w' va vm vc y,St w [] w' (M va vm vc y (blockF key ((at'+vn) / 64) nonce))→∃va vm vc y,St w [] w' (M va vm vc y (blockF key ((at'+vn) / 64) nonce)):=fun w' va vm vc y h=>⟨_,_,_,_,h⟩
       refine ⟨fun w'=>∃va vm vc y,St w [] w' (M va vm vc y (blockF key ((at'+vn) / 64) nonce)),toS _ _ _ _ _ h7.drew,b,o,ha,by omega,by omega,by omega,by omega,_,fun w' ⟨_,_,_,_,h⟩=>hld w' (h.rd1 hr).cells,_,fun w' ⟨_,_,_,_,h⟩=>h.ldB (i3 _ _ _ _ _) (bA _) (ze ((at'+vn)%64)) (by simpa using hlt),?_⟩
       rw [xor_u8]
       exact ⟨_,_,_,_,r8,_,fun _ h=>h,toS _ _ _ _ _ h8,_,_,_,_,r9,_,fun _ h=>h,toS _ _ _ _ _ h9,⟨vn+1,_,rfl,rfl,by omega,by simp,.inr (by rw [show at'+(vn+1)-1=at'+vn by omega]),h9⟩,by simp;omega⟩
   · have hi':vn=n:=by simp at h;omega
     subst hi'
     rw [List.take_of_length_le (by omega)] at hS
     exact ⟨_,_,_,rfl,hS.freshB (i2 _ _ _ _ _)⟩

end Go.Proofs.YtpmhjnhgpplmnaaGreatDoor
end

section
namespace Go.Proofs.YtpmhjnhgpplmnaaGreatDoor
open Go Sx
set_option maxRecDepth 8000

def der32 (salt secret info:List UInt8):List UInt8:=deriveF salt secret info 32
@[simp] theorem der32_len (salt secret info:List UInt8):(der32 salt secret info).length=32:=deriveF_len _ _ _ _
def amphL:List UInt8:=[97,109,112,104,111,114,97]
def masterF (m:List UInt8):List UInt8:=der32 amphL m [99,105,112,104,101,114]++der32 amphL m [109,97,99]++der32 amphL m [110,97,109,101]
@[simp] theorem masterF_len (m:List UInt8):(masterF m).length=96:=by simp [masterF]

def ciphK (K:List UInt8):List UInt8:=K.take 32
def macKy (K:List UInt8):List UInt8:=(K.drop 32).take 32
def nameK (K:List UInt8):List UInt8:=(K.drop 64).take 32

def tagF (K:List UInt8) (kind:UInt8) (ctx nonce body:List UInt8):List UInt8:=macF (macKy K) (packL [[kind],ctx,nonce,body])
@[simp] theorem tagF_len (K:List UInt8) (kind:UInt8) (ctx nonce body:List UInt8):(tagF K kind ctx nonce body).length=32:=macF_len _ _
def nonceF (K:List UInt8) (kind:UInt8) (ctx plain:List UInt8):List UInt8:=(macF (nameK K) (packL [[kind],ctx,plain])).take 12
@[simp] theorem nonceF_len (K:List UInt8) (kind:UInt8) (ctx plain:List UInt8):(nonceF K kind ctx plain).length=12:=by rw [nonceF,List.length_take,macF_len];rfl
def overF (K nonce b:List UInt8):List UInt8:=xorR (ciphK K) nonce 0 b
def sealF (K:List UInt8) (kind:UInt8) (ctx plain:List UInt8):List UInt8:=
 [kind]++nonceF K kind ctx plain++overF K (nonceF K kind ctx plain) plain++tagF K kind ctx (nonceF K kind ctx plain) (overF K (nonceF K kind ctx plain) plain)
def bNonce (b:List UInt8):List UInt8:=(b.drop 1).take 12
def bBody (b:List UInt8):List UInt8:=(b.drop 13).take (b.length-45)
def bTag (b:List UInt8):List UInt8:=b.drop (b.length-32)
def openF (K:List UInt8) (kind:UInt8) (ctx b:List UInt8):Option (List UInt8):=
 if b.length<45∨b.getD 0 0≠kind then none else if tagF K kind ctx (bNonce b) (bBody b)=bTag b then some (overF K (bNonce b) (bBody b)) else none
theorem toBytes (s:ByteArray) (l:List UInt8) (hs:s=⟨l.toArray⟩) (w:World):∃g c w',(convert 9 26 (.string s)).run Tryz.prog w=.ok (.slice (some ⟨g,0,none⟩) l.length c) w'∧Chg [] w w'∧RdB w' (some ⟨g,0,none⟩) l.length c l∧w.heap.size≤g:=by
 subst hs
 have hsz:(ByteArray.mk l.toArray).size=l.length:=by simp [ByteArray.size]
 have hr:=Lib.run_convert_string_bytes (P:=Tryz.prog) w 9 26 5 ⟨l.toArray⟩ sS bS bE
 rw [hsz] at hr
 refine ⟨_,_,_,hr,⟨?_,?_,?_,by rw [Lib.bytesWorld_size];omega,fun k hk _=>Lib.bytesWorld_at_old w _ _ k hk⟩,⟨.inr ⟨_,0,rfl,fun j v hj=>?_⟩,by simp,grownCap_ge _ _ _ _,by simp⟩,Nat.le_refl _⟩
 · (simp only [Lib.bytesWorld,World.freeze];split<;>rfl)
 · (simp only [Lib.bytesWorld,World.freeze];split<;>rfl)
 · (simp only [Lib.bytesWorld,World.freeze];split<;>rfl)
 · have hjl:j<l.length:=by have:=(List.getElem?_eq_some_iff.1 hj).1;simpa using this
   rw [Nat.zero_add,Lib.bytesWorld_cell w _ _ j (by rw [hsz];exact hjl)]
   rw [bv_getD hjl] at hj
   simpa using hj

theorem sameSlice (g n c:Nat) (l:List UInt8) (w:World) (hr:RdB w (some ⟨g,0,none⟩) n c l) (hg:g<w.heap.size):∃w',(convert 26 26 (.slice (some ⟨g,0,none⟩) n c)).run Tryz.prog w=.ok (.slice (some ⟨g,0,none⟩) n c) w'∧Chg [g] w w'∧RdB w' (some ⟨g,0,none⟩) n c l:=by
 have hfz:∀(o m:Nat),Chg [g] w (w.freeze ⟨g,o,none⟩ m)∧∀j,(w.freeze ⟨g,o,none⟩ m).cell? ⟨g,j,none⟩=w.cell? ⟨g,j,none⟩:=by
   intro o m
   unfold World.freeze
   split
   · exact ⟨Chg.refl _ _,fun _=>rfl⟩
   · refine ⟨⟨rfl,rfl,rfl,by simp,fun k hk hx=>?_⟩,fun j=>?_⟩
     · have:g≠k:=fun e=>hx (by simp [e])
       simp [Array.getElem?_modify,this]
     · simp only [World.cell?,Array.getElem?_modify,if_true]
       cases hc:w.heap[g]? with
       | none=>rfl
       | some o=>cases o<;>rfl
 have hrd:∀w',(∀j,w'.cell? ⟨g,j,none⟩=w.cell? ⟨g,j,none⟩)→RdB w' (some ⟨g,0,none⟩) n c l:=fun w' h=>by
   refine ⟨?_,hr.len,hr.le,hr.nil⟩
   rcases hr.cells with h0 | ⟨b,o,e,h1⟩
   · exact .inl h0
   · simp only [Option.some.injEq,Addr.mk.injEq,and_true] at e
     obtain ⟨rfl,rfl⟩:=e
     exact .inr ⟨_,_,rfl,fun j v hj=>by rw [h];exact h1 j v hj⟩
 cases hsh:w.shape? g with
 | none=>exact ⟨w,by simp [convert,run_underlying bS,run_underlying bE,markStringish,hsh],Chg.refl _ _,hr⟩
 | some p=>exact ⟨w.freeze ⟨g,p.2,none⟩ 1,by simp [convert,run_underlying bS,run_underlying bE,markStringish,hsh],(hfz _ _).1,hrd _ (hfz _ _).2⟩

theorem Sx.St.rdPart {w0 w:World} {X:List Nat} {M:List Res} (h:St w0 X w M) {i g T o n:Nat} {l:List UInt8} (hi:M[i]?=some (.arr g T (bv l))) (ho:o+n≤l.length):RdB w (some ⟨g,o,none⟩) n n ((l.drop o).take n):=by
 refine ⟨.inr ⟨g,o,rfl,fun j u hj=>?_⟩,by simp;omega,Nat.le_refl _,by simp⟩
 have hjn:j<n:=by have:=(List.getElem?_eq_some_iff.1 hj).1;simp at this;omega
 have h1:(bv l)[o+j]?=some u:=by
   rw [←hj,bv_take,bv_drop,List.getElem?_take,if_pos hjn,List.getElem?_drop]
 have:=h.cellsA hi (o+j) u h1
 rwa [Nat.zero_add] at this

end Go.Proofs.YtpmhjnhgpplmnaaGreatDoor
end

section
namespace Go.Proofs.YtpmhjnhgpplmnaaGreatDoor.Sx
open Go
set_option maxRecDepth 8000

theorem flatMap_len {α β:Type} {enc:α→List β} {k:Nat} :∀ {l:List α},(∀x∈l,(enc x).length=k)→(l.flatMap enc).length=k*l.length
 | [],_=>by simp
 | x::l,h=>by
   rw [List.flatMap_cons,List.length_append,flatMap_len fun y hy=>h y (by simp [hy]),h x (by simp),List.length_cons,Nat.mul_succ]
   omega

theorem flatMap_drop {α β:Type} {enc:α→List β} {k:Nat} :∀ {l:List α} (i:Nat),(∀x∈l,(enc x).length=k)→(l.flatMap enc).drop (i*k)=(l.drop i).flatMap enc
 | l,0,_=>by simp
 | [],i+1,_=>by simp
 | x::l,i+1,h=>by
   have hx:=h x (by simp)
   rw [List.flatMap_cons,List.drop_succ_cons,←flatMap_drop i fun y hy=>h y (by simp [hy])]
   rw [show (i+1)*k=(enc x).length+i*k by rw [hx,Nat.succ_mul];omega,List.drop_append]
   rw [List.drop_of_length_le (by omega),List.nil_append]
   congr 1
   omega

theorem flatMap_take {α β:Type} {enc:α→List β} {k:Nat} :∀ {l:List α} (i:Nat),(∀x∈l,(enc x).length=k)→(l.flatMap enc).take (i*k)=(l.take i).flatMap enc
 | l,0,_=>by simp
 | [],i+1,_=>by simp
 | x::l,i+1,h=>by
   have hx:=h x (by simp)
   rw [List.flatMap_cons,List.take_succ_cons,List.flatMap_cons,←flatMap_take i fun y hy=>h y (by simp [hy])]
   rw [show (i+1)*k=(enc x).length+i*k by rw [hx,Nat.succ_mul];omega,List.take_append]
   rw [List.take_of_length_le (by omega)]
   congr 2
   omega

theorem flatMap_at {α β:Type} {enc:α→List β} {k:Nat} {l:List α} (h:∀x∈l,(enc x).length=k) {i j:Nat} {x:α} (hx:l[i]?=some x) (hj:j<k):(l.flatMap enc)[i*k+j]?=(enc x)[j]?:=by
 rw [←List.getElem?_drop,flatMap_drop i h]
 have hi:=(List.getElem?_eq_some_iff.1 hx).1
 rw [List.drop_eq_getElem_cons hi]
 have e:l[i]=x:=(List.getElem?_eq_some_iff.1 hx).2
 rw [e,List.flatMap_cons,List.getElem?_append_left (by rw [h x (List.mem_of_getElem? hx)];exact hj)]

structure RdE {α:Type} (enc:α→List Value) (k:Nat) (w:World) (a:Option Addr) (n c:Nat) (l:List α):Prop where
 rd:Rd w a n c k (l.flatMap enc)
 len:∀x∈l,(enc x).length=k

section
variable {P:Program} {α:Type} {enc:α→List Value} {k:Nat} {w w':World} {a:Option Addr} {n c:Nat} {l:List α}

theorem RdE.num (h:RdE enc k w a n c l) (hk:0<k):l.length=n:=by
 have h1:=h.rd.len
 rw [flatMap_len h.len,Nat.mul_comm] at h1
 exact Nat.eq_of_mul_eq_mul_right hk h1
theorem RdE.keep0 (h:RdE enc k w a n c l) (hc:Chg [] w w'):RdE enc k w' a n c l:=⟨h.rd.keep0 hc,h.len⟩
theorem RdE.nil (w:World):RdE enc k w none 0 0 []:=⟨⟨Cells.nil _ _,by simp,Nat.le_refl _,fun _=>rfl⟩,by simp⟩

theorem RdE.at_ (h:RdE enc k w a n c l) (hk:0<k) {i:Nat} {x:α} (hx:l[i]?=some x):∃b o,a=some ⟨b,o,none⟩∧∀w',RdE enc k w' a n c l→w'.rangeAt b (o+i*k) (enc x):=by
 have key:∀w',RdE enc k w' a n c l→∃b o,a=some ⟨b,o,none⟩∧w'.rangeAt b (o+i*k) (enc x):=by
   intro w' h'
   rcases h'.rd.cells with h0 | ⟨b,o,rfl,hr⟩
   · have h1:=flatMap_len h'.len
     rw [h0] at h1
     have:=(List.getElem?_eq_some_iff.1 hx).1
     simp only [List.length_nil] at h1
     rcases Nat.mul_eq_zero.1 h1.symm with h2 | h2<;>omega
   · refine ⟨b,o,rfl,fun j v hv=>?_⟩
     have hj:j<k:=by have:=(List.getElem?_eq_some_iff.1 hv).1;have:=h'.len x (List.mem_of_getElem? hx);omega
     have:=hr (i*k+j) v (by rw [flatMap_at h'.len hx hj];exact hv)
     rw [Nat.add_assoc]
     exact this
 obtain ⟨b,o,rfl,_⟩:=key w h
 refine ⟨b,o,rfl,fun w' h'=>?_⟩
 obtain ⟨b',o',e,hr⟩:=key w' h'
 simp only [Option.some.injEq,Addr.mk.injEq,and_true] at e
 obtain ⟨rfl,rfl⟩:=e
 exact hr

theorem RdE.ld (h:RdE enc k w a n c l) (hk:0<k) {T:TypeId} (hA:∀w,(isAgg T).run P w=.ok true w) (hS:∀w,(sizeOf T).run P w=.ok k w) {i:Nat} {x:α} (hx:l[i]?=some x):
   ∃b o,a=some ⟨b,o,none⟩∧∀w',RdE enc k w' a n c l→(Instr.loadAt T (.pointer (some ⟨b,o+Int.toNat (i:Int)*k,none⟩))).run P w'=.ok (.agg (enc x).toArray) w':=by
 obtain ⟨b,o,rfl,hr⟩:=h.at_ hk hx
 refine ⟨b,o,rfl,fun w' h'=>?_⟩
 have:=loadCells_cells (P:=P) (hr w' h')
 rw [h'.len x (List.mem_of_getElem? hx)] at this
 rw [Int.toNat_natCast]
 simp [Instr.loadAt,Instr.sureAddr,loadVar,hA,hS,this]

theorem RdE.sub (h:RdE enc k w a n c l) {a':Option Addr} {lo hh m:Nat} (hs:SubA k a lo m a') (h1:lo≤hh) (h2:hh≤n) (h3:hh≤m) (h4:m≤c):RdE enc k w a' (hh-lo) (m-lo) ((l.drop lo).take (hh-lo)):=by
 have hl:∀x∈(l.drop lo).take (hh-lo),(enc x).length=k:=fun x hx=>h.len x (List.mem_of_mem_drop (List.mem_of_mem_take hx))
 refine ⟨?_,hl⟩
 have:=h.rd.sub hs h1 h2 h3 h4
 rw [flatMap_drop lo h.len,flatMap_take (hh-lo) fun x hx=>h.len x (List.mem_of_mem_drop hx)] at this
 exact this
end

theorem RdE.fld {P:Program} {α:Type} {enc:α→List Value} {k:Nat} {w:World} {a:Option Addr} {n c:Nat} {l:List α} (h:RdE enc k w a n c l) (hk:0<k) {T:TypeId} (hA:∀w,(isAgg T).run P w=.ok false w) {i j:Nat} {x:α} {v:Value} (hx:l[i]?=some x) (hv:(enc x)[j]?=some v):
   ∃b o,a=some ⟨b,o,none⟩∧∀w',RdE enc k w' a n c l→(Instr.loadAt T (.pointer (some ⟨b,o+Int.toNat (i:Int)*k+j,none⟩))).run P w'=.ok v w':=by
 obtain ⟨b,o,rfl,hr⟩:=h.at_ hk hx
 refine ⟨b,o,rfl,fun w' h'=>?_⟩
 rw [Int.toNat_natCast]
 exact ld1 (hA _) (hr w' h' j v hv)

end Go.Proofs.YtpmhjnhgpplmnaaGreatDoor.Sx
end

section
namespace Go.Proofs.YtpmhjnhgpplmnaaGreatDoor.Sx
open Go
set_option maxRecDepth 8000

theorem eq_arrG {P:Program} {T e n d:Nat} {k:IntKind} (hT:P.underlying T=some (.array n e)) (hs:∀w,(sizeOf e).run P w=.ok 1 w) (hA:∀w,(isAgg e).run P w=.ok false w)
   (hd:∀a b w,(Op.equalIn d e (.int k a) (.int k b)).run P w=.ok (a==b) w) (l m:List Int) (hl:l.length=n) (hm:m.length=n) (w:World):
   (Op.equalIn (d+1) T (.agg (l.map (Value.int k)).toArray) (.agg (m.map (Value.int k)).toArray)).run P w=.ok (decide (l=m)) w:=by
 have hp:∀(l:List Int),l.length=n→∀(i:Nat) (w:World),i<n→(part e (l.map (Value.int k)).toArray i).run P w=.ok (.int k (l.getD i 0)) w:=by
   intro l hl i w hi
   simp [part,hA,hs,show i<l.length by omega]
 have key:∀(js:List Nat) (w:World),(∀j∈js,j<n)→(forIn (m:=Sem) js ((none,()):Option Bool×Unit) fun i (_:Option Bool×Unit)=>do
     let a ←part e (l.map (Value.int k)).toArray i
     let b ←part e (m.map (Value.int k)).toArray i
     let c ←Op.equalIn d e a b
     if c=false then pure (ForInStep.done (some false,())) else pure (ForInStep.yield (none,()))).run P w=.ok (if js.all (fun j=>l.getD j 0==m.getD j 0) then (none,()) else (some false,())) w:=by
   intro js
   induction js with
   | nil=>intro w _;simp
   | cons j js ih=>
     intro w hj
     simp only [List.forIn_cons,Sem.run_bind,hp l hl j w (hj j (by simp)),hp m hm j w (hj j (by simp)),Result.andThen_ok,hd,List.all_cons]
     rcases Bool.eq_false_or_eq_true (l.getD j 0==m.getD j 0) with hb | hb
     · simp only [hb,Bool.true_and]
       simpa using ih w (fun i hi=>hj i (by simp [hi]))
     · simp only [hb,Bool.false_and]
       simp
 have hall:(List.range' 0 n).all (fun j=>l.getD j 0==m.getD j 0)=decide (l=m):=by
   rw [Bool.eq_iff_iff]
   simp only [List.all_eq_true,beq_iff_eq,decide_eq_true_eq,List.mem_range'_1]
   constructor
   · intro h
     apply List.ext_getElem (by omega)
     intro i h1 h2
     have:=h i ⟨by omega,by omega⟩
     simpa [List.getD,h1,h2] using this
   · intro h;subst h;intro _ _;rfl
 simp only [Op.equalIn,Sem.run_bind,run_underlying hT,Result.andThen_ok,hs]
 have k0:=key (List.range' 0 n) w (by simp [List.mem_range'_1])
 rw [hall] at k0
 by_cases h:l=m
 · simp only [h,decide_true,if_true] at k0
   simp [h,k0]
 · simp only [h,decide_false,Bool.false_eq_true,if_false] at k0
   simp [h,k0]

theorem bvI_inj {l m:List UInt8} :(l.map fun b=>(b.toNat:Int))=(m.map fun b=>(b.toNat:Int))↔l=m:=by
 constructor
 · intro h
   apply List.ext_getElem?
   intro i
   have:=congrArg (fun q=>q[i]?) h
   simp only [List.getElem?_map] at this
   cases h1:l[i]?<;>cases h2:m[i]?<;>simp [h1,h2] at this ⊢
   exact UInt8.toNat_inj.1 (by omega)
 · intro h;rw [h]

end Go.Proofs.YtpmhjnhgpplmnaaGreatDoor.Sx
end

section
namespace Go.Proofs.YtpmhjnhgpplmnaaGreatDoor.Sx
open Go
set_option maxRecDepth 8000

theorem eqFields_step {P:Program} {d:Nat} {xs ys:Array Value} {f:Field} {fs:List Field} {a b:Value} {r:Bool} {w:World} (hn:f.name≠ "_") (ha:(part f.type xs f.offset).run P w=.ok a w) (hb:(part f.type ys f.offset).run P w=.ok b w)
   (he:(Op.equalIn d f.type a b).run P w=.ok r w) {q:Bool} (hq:(Op.eqFields d xs ys fs).run P w=.ok q w):(Op.eqFields d xs ys (f::fs)).run P w=.ok (r&&q) w:=by
 rw [Op.eqFields,if_pos hn]
 simp only [Sem.run_bind,ha,hb,he,Result.andThen_ok]
 cases r with
 | true=>simp [hq]
 | false=>simp

theorem eqS_struct {P:Program} {T:TypeId} {xs ys:Array Value} {r:Bool} {w:World} (hT:P.underlying T=some (.struct (P.fieldsOf T))) (hp:P.stoodInHeld T=false) (hg:P.eqGuardType P.depth T=false) (x y:Operand)
   (h:(Op.eqFields 9999 xs ys (P.fieldsOf T).toList).run P w=.ok r w):(eqlS .eql T x y (.agg xs) (.agg ys)).run P w=.ok (.bool r) w∧(eqlS .neq T x y (.agg xs) (.agg ys)).run P w=.ok (.bool (!r)) w:=by
 have h1:=(run_equalIn_struct (P:=P) w 9999 T xs ys hT hp).trans h
 refine ⟨?_,?_⟩
 · simp only [eqlS,Sem.run_bind,run_eqGuard_agg w .eql T x y _ _ hg,Result.andThen_ok,run_eql_struct w,h1]
 · simp only [eqlS,Sem.run_bind,run_eqGuard_agg w .neq T x y _ _ hg,Result.andThen_ok,run_neq_struct w,h1]

end Go.Proofs.YtpmhjnhgpplmnaaGreatDoor.Sx
end

section
namespace Go.Proofs.YtpmhjnhgpplmnaaGreatDoor
open Go Sx
set_option maxRecDepth 8000

structure RefD where
 id:List UInt8
 pack:Int
 at_:Int
 len:Int
 idl:id.length=32
 pk: -9223372036854775808≤pack∧pack≤9223372036854775807
 ak: -9223372036854775808≤at_∧at_≤9223372036854775807
 lk: -9223372036854775808≤len∧len≤9223372036854775807
def ref0:RefD:=⟨List.replicate 32 0,0,0,0,by simp,by omega,by omega,by omega⟩
instance:Inhabited RefD:=⟨ref0⟩
def refC (r:RefD):List Value:=bv r.id++ [.int .i64 r.pack,.int .i64 r.at_,.int .i64 r.len]
@[simp] theorem refC_len (r:RefD):(refC r).length=35:=by simp [refC,r.idl]
theorem RefD.ext {r s:RefD} (h1:r.id=s.id) (h2:r.pack=s.pack) (h3:r.at_=s.at_) (h4:r.len=s.len):r=s:=by
 cases r;cases s;simp_all

section
variable {w0 w w':World} {X:List Nat}
end

end Go.Proofs.YtpmhjnhgpplmnaaGreatDoor
end

section
namespace Go.Proofs.YtpmhjnhgpplmnaaGreatDoor
open Go Sx
set_option maxRecDepth 8000

abbrev Itm:=List UInt8×List UInt8
def frmT (x:Itm):List UInt8:=frameL 2 (x.1++x.2)
structure ItD where
 id:List UInt8
 a:Option Addr
 n:Nat
 c:Nat
 blob:List UInt8
 idl:id.length=32
def ItD.t (x:ItD):Itm:=(x.id,x.blob)
def itC (x:ItD):List Value:=bv x.id++ [.slice x.a x.n x.c]
@[simp] theorem itC_len (x:ItD):(itC x).length=33:=by simp [itC,x.idl]
structure ItR (w:World) (a:Option Addr) (n c:Nat) (l:List ItD):Prop where
 rd:RdE itC 33 w a n c l
 blobs:∀x∈l,RdB w x.a x.n x.c x.blob
theorem ItR.keep0 {w w':World} {a:Option Addr} {n c:Nat} {l:List ItD} (h:ItR w a n c l) (hc:Chg [] w w'):ItR w' a n c l:=⟨h.rd.keep0 hc,fun x hx=>(h.blobs x hx).keep0 hc⟩

structure SmallI (xs:List Itm):Prop where
 num:xs.length≤4096
 idl:∀x∈xs,x.1.length=32
 sum:(xs.map fun x=>x.2.length).sum≤16777216
theorem sum_mem:∀ {l:List Nat} {x:Nat},x∈l→x≤l.sum
 | y::l,x,h=>by
   rw [List.sum_cons]
   rcases List.mem_cons.1 h with rfl | h
   · omega
   · have:=sum_mem h;omega
theorem SmallI.blob {xs:List Itm} (h:SmallI xs) {x:Itm} (hx:x∈xs):x.2.length≤16777216:=
 Nat.le_trans (sum_mem (List.mem_map_of_mem (f:=fun x:Itm=>x.2.length) hx)) h.sum

end Go.Proofs.YtpmhjnhgpplmnaaGreatDoor
end
