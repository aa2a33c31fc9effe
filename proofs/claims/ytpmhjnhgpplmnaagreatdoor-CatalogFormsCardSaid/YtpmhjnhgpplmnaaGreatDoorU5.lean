/- The proof of CatalogFormsCardSaid, part 5: what it rests on (conditions: those that each theorem names). -/
import Derived.Test.YtpmhjnhgpplmnaaGreatDoorU4
import Derived.Test.YtpmhjnhgpplmnaaGreatDoorRows
section
namespace Go.Proofs.YtpmhjnhgpplmnaaGreatDoor
open Go Go.Proofs.YtpmhjnhgpplmnaaGreatDoor.Sx

set_option maxRecDepth 100000
theorem amphoraref16_GoodName_vc (a0:ByteArray) (w:World) (R:Ending→World→Prop) (h:∃(I:Int→World→Prop) (μ:Int→World→Nat),I 0 w∧(∀x3,∀w1,I x3 w1→((decide (x3<(a0.size:Int))=true→(∃J:Bool→World→Prop,(∃t12,(Instr.index 9 (.string a0) (.int .i64 x3)).run Tryz.prog w1=.ok (.int .u8 t12) w1∧((decide (t12≤(32:Int))=true→(J true w1))∧(decide (t12≤(32:Int))=false→(∃t17,(Instr.index 9 (.string a0) (.int .i64 x3)).run Tryz.prog w1=.ok (.int .u8 t17) w1∧(J (decide (t17≥(127:Int))) w1)))))∧(∀x19,∀w2,J x19 w2→((x19=true→(R (.returned (.bool false)) w2))∧(x19=false→(I (IntKind.wrap .i64 (x3+1)) w2∧μ (IntKind.wrap .i64 (x3+1)) w2<μ x3 w1))))))∧(decide (x3<(a0.size:Int))=false→(R (.returned (.bool ((decide ((a0.size:Int)≥(1:Int)))&&(decide ((a0.size:Int)≤(32:Int)))))) w1))))):Calls Tryz.prog 29 #[(.string a0)] w R:=calls_of_ev2 (tc:=.sq [.rg 1,.seq (.rg 1) (.blk (.loop (lr [(2,18)]) [3] [.int .i64] (.sq [.seq (.rg 4) (.cond .leaf .leaf),.blk (.seq (.join (lr [(10,10)]) [19] [.bool] (.reg (.pp 2 (.op (.ld (.int .u8)) (.pp 2 (.sp 14 (.pp 5 .nil) (.pp 2 (.op (.ld (.int .u8)) (.pp 2 .nil))))))))) (.cond (.seq (.rg 1) .leaf) .leaf))] (.rg 3)))),.reg (.pp 4 (.ap 3 (.op .p .nil)))] .leaf) Tryz.func29 (by kernel_rfl) (by kernel_rfl) h

theorem amphoraref16_Check_vc (a0:Array Value) (w:World) (R:Ending→World→Prop) (h:∃g1 w1,(Instr.box 47 (.agg a0)).run Tryz.prog w=.ok (.pointer (some ⟨g1,0,none⟩)) w1∧(∃J:Bool→World→Prop,(∃t9,LdQ 3 g1 0 (.int .i64 t9) w1∧((decide (t9≥(1:Int))=true→(∃t13,LdQ 3 g1 0 (.int .i64 t13) w1∧((decide (t13≤(1099511627776:Int))=true→(∃t18,LdQ 3 g1 1 (.int .i64 t18) w1∧((decide (t18≥(0:Int))=true→(∃t23,LdQ 3 g1 1 (.int .i64 t23) w1∧((decide (t23≤(1099511627776:Int))=true→(∃t28a t28n t28c,LdQ 25 g1 7 (.slice t28a t28n t28c) w1∧((decide ((t28n:Int)≤(64:Int))=true→(∃t34a t34n t34c,LdQ 45 g1 8 (.slice t34a t34n t34c) w1∧(J (decide ((t34n:Int)≤(1024:Int))) w1)))∧(decide ((t28n:Int)≤(64:Int))=false→(J false w1)))))∧(decide (t23≤(1099511627776:Int))=false→(J false w1)))))∧(decide (t18≥(0:Int))=false→(J false w1)))))∧(decide (t13≤(1099511627776:Int))=false→(J false w1)))))∧(decide (t9≥(1:Int))=false→(J false w1))))∧(∀x3,∀w2,J x3 w2→(∃J_1:Bool→World→Prop,(((!x3)=true→(J_1 true w2))∧((!x3)=false→(∃t42,LdQ 44 g1 2 (.agg t42) w2∧(Calls Tryz.prog 56 #[(.agg t42)] w2 fun e43 w3=>∃t43,e43=.returned (.int .i64 t43)∧(J_1 (t43 != (0:Int)) w3)))))∧(∀x45,∀w4,J_1 x45 w4→((x45=true→(R (.returned (.int .i64 28)) w4))∧(x45=false→(∃(I:Bool→Int→World→Prop) (μ:Bool→Int→World→Nat),I x3 0 w4∧(∀x3_1 x4,∀w5,I x3_1 x4 w5→(∃t48a t48n t48c,LdQ 25 g1 7 (.slice t48a t48n t48c) w5∧((decide (x4<(t48n:Int))=true→(∃t54a t54n t54c,LdQ 25 g1 7 (.slice t54a t54n t54c) w5∧(∃t56b t56o,t54a=some ⟨t56b,t56o,none⟩∧0≤x4∧x4<(t54n:Int)∧(∃t57,LdQ 89 t56b (t56o+Int.toNat x4*36) (.agg t57) w5∧(∃g5 w6,AlQ 89 g5 w5 w6∧(∃w7,StQ 89 g5 0 (.agg t57) w6 w7∧(∃J_2:Bool→World→Prop,((x3_1=true→(∃t61,LdQ 9 g5 0 (.string t61) w7∧(Calls Tryz.prog 29 #[(.string t61)] w7 fun e62 w8=>∃t62,e62=.returned (.bool t62)∧((t62=true→(∃t66,LdQ 3 g5 1 (.int .i64 t66) w8∧(((decide (t66≥((-1099511627776):Int)))=true→(∃t71,LdQ 3 g5 1 (.int .i64 t71) w8∧((decide (t71≤(1099511627776:Int))=true→(∃t76,LdQ 3 g5 2 (.int .i64 t76) w8∧((decide (t76≥(0:Int))=true→(∃t81,LdQ 3 g5 3 (.int .i64 t81) w8∧((decide (t81≥(0:Int))=true→(∃t86,LdQ 3 g5 3 (.int .i64 t86) w8∧(J_2 (decide (t86≤(65536:Int))) w8)))∧(decide (t81≥(0:Int))=false→(J_2 false w8)))))∧(decide (t76≥(0:Int))=false→(J_2 false w8)))))∧(decide (t71≤(1099511627776:Int))=false→(J_2 false w8)))))∧((decide (t66≥((-1099511627776):Int)))=false→(J_2 false w8)))))∧(t62=false→(J_2 false w8))))))∧(x3_1=false→(J_2 false w7)))∧(∀x3_2,∀w9,J_2 x3_2 w9→(∃J_3:Bool→World→Prop,(∃S:World→Prop,S w9.drew∧((x3_2=true→(((x4==(0:Int))=true→(J_3 true w9.drew))∧((x4==(0:Int))=false→(∃t95a t95n t95c,(∀w',S w'→LdQ 25 g1 7 (.slice t95a t95n t95c) w')∧(∃t98b t98o,t95a=some ⟨t98b,t98o,none⟩∧0≤(IntKind.wrap .i64 (x4- (1:Int)))∧(IntKind.wrap .i64 (x4- (1:Int)))<(t95n:Int)∧(∃t100,(∀w',S w'→LdQ 9 t98b (t98o+Int.toNat (IntKind.wrap .i64 (x4- (1:Int)))*36) (.string t100) w')∧(∃t102,(∀w',S w'→LdQ 9 g5 0 (.string t102) w')∧(∃t103,(∀w',S w'→(eqlS .lss 9 (.tmp 100) (.tmp 102) (.string t100) (.string t102)).run Tryz.prog w'=.ok (.bool t103) w')∧(J_3 t103 w9.drew)))))))))∧(x3_2=false→(J_3 false w9.drew))))∧(∀x3_3,∀w10,J_3 x3_3 w10→(I x3_3 (IntKind.wrap .i64 (x4+1)) w10∧μ x3_3 (IntKind.wrap .i64 (x4+1)) w10<μ x3_1 x4 w5)))))))))))∧(decide (x4<(t48n:Int))=false→(∃(I_1:Bool→Int→World→Prop) (μ_1:Bool→Int→World→Nat),I_1 x3_1 0 w5∧(∀x3_2 x6,∀w11,I_1 x3_2 x6 w11→(∃t108a t108n t108c,LdQ 45 g1 8 (.slice t108a t108n t108c) w11∧((decide (x6<(t108n:Int))=true→(∃t114a t114n t114c,LdQ 45 g1 8 (.slice t114a t114n t114c) w11∧(∃t116b t116o,t114a=some ⟨t116b,t116o,none⟩∧0≤x6∧x6<(t114n:Int)∧(∃t117,LdQ 91 t116b (t116o+Int.toNat x6*3) (.agg t117) w11∧(∃g7 w12,AlQ 91 g7 w11 w12∧(∃w13,StQ 91 g7 0 (.agg t117) w12 w13∧(∃J_2:Bool→World→Prop,((x3_2=true→(∃t121,LdQ 3 g7 0 (.int .i64 t121) w13∧((decide (t121≥(0:Int))=true→(∃t126,LdQ 3 g7 0 (.int .i64 t126) w13∧(∃t128,LdQ 3 g1 1 (.int .i64 t128) w13∧((decide (t126<t128)=true→(∃t133,LdQ 3 g7 1 (.int .i64 t133) w13∧((decide (t133≥(0:Int))=true→(∃t138,LdQ 3 g7 2 (.int .i64 t138) w13∧(J_2 (decide (t138≥(0:Int))) w13)))∧(decide (t133≥(0:Int))=false→(J_2 false w13)))))∧(decide (t126<t128)=false→(J_2 false w13))))))∧(decide (t121≥(0:Int))=false→(J_2 false w13)))))∧(x3_2=false→(J_2 false w13)))∧(∀x3_3,∀w14,J_2 x3_3 w14→(∃J_3:Bool→World→Prop,(∃S:World→Prop,S w14.drew∧((x3_3=true→(((x6==(0:Int))=true→(J_3 true w14.drew))∧((x6==(0:Int))=false→(∃t147a t147n t147c,(∀w',S w'→LdQ 45 g1 8 (.slice t147a t147n t147c) w')∧(∃t150b t150o,t147a=some ⟨t150b,t150o,none⟩∧0≤(IntKind.wrap .i64 (x6- (1:Int)))∧(IntKind.wrap .i64 (x6- (1:Int)))<(t147n:Int)∧(∃t152,(∀w',S w'→LdQ 3 t150b (t150o+Int.toNat (IntKind.wrap .i64 (x6- (1:Int)))*3) (.int .i64 t152) w')∧(∃t154,(∀w',S w'→LdQ 3 g7 0 (.int .i64 t154) w')∧(J_3 (decide (t152<t154)) w14.drew))))))))∧(x3_3=false→(J_3 false w14.drew))))∧(∀x3_4,∀w15,J_3 x3_4 w15→(I_1 x3_4 (IntKind.wrap .i64 (x6+1)) w15∧μ_1 x3_4 (IntKind.wrap .i64 (x6+1)) w15<μ_1 x3_2 x6 w11)))))))))))∧(decide (x6<(t108n:Int))=false→(((!x3_2)=true→(R (.returned (.int .i64 28)) w11))∧((!x3_2)=false→(R (.returned (.int .i64 0)) w11)))))))))))))))))))):Calls Tryz.prog 102 #[(.agg a0)] w R:=calls_of_ev2 (tc:=.sq [.reg (.op .bx (.op .p .nil)),.join (lr [(3,1),(8,30)]) [3] [.bool] (.reg (.op .p (.op (.ld (.int .i64)) (.pp 2 (.sp 11 (.op .p (.op (.ld (.int .i64)) (.pp 3 (.sp 16 (.op .p (.op (.ld (.int .i64)) (.pp 3 (.sp 21 (.op .p (.op (.ld (.int .i64)) (.pp 3 (.sp 26 (.op .p (.op (.ld .slice) (.pp 4 (.sp 32 (.op .p (.op (.ld .slice) (.pp 4 .nil))) (.pp 6 .nil))))) (.pp 12 .nil))))) (.pp 17 .nil))))) (.pp 22 .nil))))) (.pp 27 .nil)))))),.seq (.join (lr [(38,8)]) [45] [.bool] (.reg (.pp 3 (.sp 40 (.pp 5 .nil) (.op .p (.op (.ld .agg) (.op (.cl [.int .i64]) (.pp 2 .nil)))))))) (.cond (.seq (.rg 1) .leaf) .leaf),.seq (.rg 1) (.blk (.loop (lr [(3,3),(46,60)]) [3,4] [.bool,.int .i64] (.sq [.seq (.reg (.pp 2 (.op (.ld .slice) (.pp 2 .nil)))) (.cond .leaf .leaf),.blk (.sq [.reg (.op .p (.op (.ld .slice) (.op .p (.op .ix (.op (.ld .agg) (.op .bx (.op .u .nil))))))),.join (lr [(3,1),(58,31)]) [3] [.bool] (.reg (.pp 2 (.sp 59 (.op .p (.op (.ld .str) (.op (.cl [.bool]) (.pp 2 (.sp 64 (.op .p (.op (.ld (.int .i64)) (.pp 3 (.sp 69 (.op .p (.op (.ld (.int .i64)) (.pp 3 (.sp 74 (.op .p (.op (.ld (.int .i64)) (.pp 3 (.sp 79 (.op .p (.op (.ld (.int .i64)) (.pp 3 (.sp 84 (.op .p (.op (.ld (.int .i64)) (.pp 3 .nil))) (.pp 5 .nil))))) (.pp 10 .nil))))) (.pp 15 .nil))))) (.pp 20 .nil))))) (.pp 25 .nil)))))) (.pp 30 .nil))))] (.join (lr [(3,1),(89,17)]) [3] [.bool] (.drawS (.tks [0,1] (.sp 90 (.tks [2,3,4] (.sp 93 (.tks [5,7,8,12] (.ts 6 .val (.tks [9,10] (.ts 11 .val (.ts 13 .val (.ts 14 .val (.tks [15,16,17] .nil))))))) (.tks [5,7,8,12] (.ts 6 .slice (.tk 9 .ix (.tk 10 .p (.ts 11 .str (.ts 13 .str (.ts 14 .bool (.tks [15,16,17] .nil)))))))))) (.tks [2,3,4,5,7,8,12] (.ts 6 .val (.tks [9,10] (.ts 11 .val (.ts 13 .val (.ts 14 .val (.tks [15,16,17] .nil))))))))) [])))] (.rg 3)))),.seq (.rg 1) (.blk (.loop (lr [(3,1),(6,2),(106,52)]) [3,6] [.bool,.int .i64] (.sq [.seq (.reg (.pp 2 (.op (.ld .slice) (.pp 2 .nil)))) (.cond .leaf .leaf),.blk (.sq [.reg (.op .p (.op (.ld .slice) (.op .p (.op .ix (.op (.ld .agg) (.op .bx (.op .u .nil))))))),.join (lr [(3,1),(118,23)]) [3] [.bool] (.reg (.pp 2 (.sp 119 (.op .p (.op (.ld (.int .i64)) (.pp 3 (.sp 124 (.op .p (.op (.ld (.int .i64)) (.op .p (.op (.ld (.int .i64)) (.pp 3 (.sp 131 (.op .p (.op (.ld (.int .i64)) (.pp 3 (.sp 136 (.op .p (.op (.ld (.int .i64)) (.pp 3 .nil))) (.pp 5 .nil))))) (.pp 10 .nil))))))) (.pp 17 .nil))))) (.pp 22 .nil))))] (.join (lr [(3,1),(141,17)]) [3] [.bool] (.drawS (.tks [0,1] (.sp 142 (.tks [2,3,4] (.sp 145 (.tks [5,7,8,12] (.ts 6 .val (.tks [9,10] (.ts 11 .val (.ts 13 .val (.tks (lr [(14,4)]) .nil)))))) (.tks [5,7,8,12] (.ts 6 .slice (.tk 9 .ix (.tk 10 .p (.ts 11 (.int .i64) (.ts 13 (.int .i64) (.tks (lr [(14,4)]) .nil))))))))) (.tks [2,3,4,5,7,8,12] (.ts 6 .val (.tks [9,10] (.ts 11 .val (.ts 13 .val (.tks (lr [(14,4)]) .nil)))))))) [])))] (.rg 3)))),.seq (.rg 2) (.cond (.seq (.rg 1) .leaf) .leaf),.rg 1] .leaf) Tryz.func102 (by kernel_rfl) (by kernel_rfl) h

theorem amphoraref16_vars_vc (a0a:Option Addr) (a0n:Nat) (a0c:Nat) (a1a:Option Addr) (a1n:Nat) (a1c:Nat) (w:World) (R:Ending→World→Prop) (h:∃(I:Option Addr→Nat→Nat→Int→World→Prop) (μ:Option Addr→Nat→Nat→Int→World→Nat),I a0a a0n a0c 0 w∧(∀x0a x0n x0c x5,∀w1,I x0a x0n x0c x5 w1→((decide (x5<(a1n:Int))=true→(∃t15b t15o,a1a=some ⟨t15b,t15o,none⟩∧0≤x5∧x5<(a1n:Int)∧(∃t16,LdQ 3 t15b (t15o+Int.toNat x5*1) (.int .i64 t16) w1∧(Calls Tryz.prog 240 #[(.int .i64 t16)] w1 fun e17 w2=>∃t17a t17n t17c,e17=.returned (.slice t17a t17n t17c)∧(∃t18a t18n t18c w3,(Builtin.append_ #[26,26] 26 #[(.slice x0a x0n x0c),(.slice t17a t17n t17c)]).run Tryz.prog w2=.ok (.slice t18a t18n t18c) w3∧(I t18a t18n t18c (IntKind.wrap .i64 (x5+1)) w3∧μ t18a t18n t18c (IntKind.wrap .i64 (x5+1)) w3<μ x0a x0n x0c x5 w1))))))∧(decide (x5<(a1n:Int))=false→(R (.returned (.slice x0a x0n x0c)) w1))))):Calls Tryz.prog 204 #[(.slice a0a a0n a0c),(.slice a1a a1n a1c)] w R:=calls_of_ev2 (tc:=.sq [.rg 1,.seq (.rg 1) (.blk (.loop (lr [(0,1),(5,14)]) [0,5] [.slice,.int .i64] (.sq [.seq (.rg 4) (.cond .leaf .leaf),.blk (.reg (.pp 3 (.op .ix (.op (.ld (.int .i64)) (.op (.cl [.slice]) (.op (.r .slice) (.op .p .nil)))))))] (.rg 3)))),.rg 2] .leaf) Tryz.func204 (by kernel_rfl) (by kernel_rfl) h

theorem amphoraref16_Plain_vc (a0:Array Value) (w:World) (R:Ending→World→Prop) (h:∃g1 w1,(Instr.box 47 (.agg a0)).run Tryz.prog w=.ok (.pointer (some ⟨g1,0,none⟩)) w1∧(∃t8,LdQ 3 g1 0 (.int .i64 t8) w1∧(Calls Tryz.prog 203 #[(.int .i64 t8)] w1 fun e9 w2=>∃t9a t9n t9c,e9=.returned (.slice t9a t9n t9c)∧(∃t12,LdQ 3 g1 1 (.int .i64 t12) w2∧(Calls Tryz.prog 203 #[(.int .i64 t12)] w2 fun e13 w3=>∃t13a t13n t13c,e13=.returned (.slice t13a t13n t13c)∧(∃t14a t14n t14c w4,(Builtin.append_ #[26,26] 26 #[(.slice t9a t9n t9c),(.slice t13a t13n t13c)]).run Tryz.prog w3=.ok (.slice t14a t14n t14c) w4∧(∃t18,LdQ 42 g1 2 (.int .u64 t18) w4∧(Calls Tryz.prog 203 #[(.int .i64 (IntKind.wrap .i64 t18))] w4 fun e20 w5=>∃t20a t20n t20c,e20=.returned (.slice t20a t20n t20c)∧(∃t21a t21n t21c w6,(Builtin.append_ #[26,26] 26 #[(.slice t14a t14n t14c),(.slice t20a t20n t20c)]).run Tryz.prog w5=.ok (.slice t21a t21n t21c) w6∧(∃t25,LdQ 3 g1 3 (.int .i64 t25) w6∧(∃t28,LdQ 3 g1 4 (.int .i64 t28) w6∧(∃t31,LdQ 3 g1 5 (.int .i64 t31) w6∧(∃t34,LdQ 3 g1 6 (.int .i64 t34) w6∧(∃t36a t36n t36c,LdQ 25 g1 7 (.slice t36a t36n t36c) w6∧(∃t38a t38n t38c w7,(Instr.buildSlice 29 5 #[(0,(.int .i64 t25)),(1,(.int .i64 t28)),(2,(.int .i64 t31)),(3,(.int .i64 t34)),(4,(.int .i64 (t36n:Int)))]).run Tryz.prog w6=.ok (.slice t38a t38n t38c) w7∧(Calls Tryz.prog 204 #[(.slice t21a t21n t21c),(.slice t38a t38n t38c)] w7 fun e39 w8=>∃t39a t39n t39c,e39=.returned (.slice t39a t39n t39c)∧(∃(I:Option Addr→Nat→Nat→Int→World→Prop) (μ:Option Addr→Nat→Nat→Int→World→Nat),I t39a t39n t39c 0 w8∧(∀x3a x3n x3c x4,∀w9,I x3a x3n x3c x4 w9→(∃t42a t42n t42c,LdQ 25 g1 7 (.slice t42a t42n t42c) w9∧((decide (x4<(t42n:Int))=true→(∃t48a t48n t48c,LdQ 25 g1 7 (.slice t48a t48n t48c) w9∧(∃t50b t50o,t48a=some ⟨t50b,t50o,none⟩∧0≤x4∧x4<(t48n:Int)∧(∃t51,LdQ 89 t50b (t50o+Int.toNat x4*36) (.agg t51) w9∧(∃g5 w10,AlQ 89 g5 w9 w10∧(∃w11,StQ 89 g5 0 (.agg t51) w10 w11∧(∃t54,LdQ 9 g5 0 (.string t54) w11∧(∃t55a t55n t55c w12,(convert 9 26 (.string t54)).run Tryz.prog w11=.ok (.slice t55a t55n t55c) w12∧(∃t56a t56n t56c w13,(Instr.buildSlice 24 1 #[(0,(.slice t55a t55n t55c))]).run Tryz.prog w12=.ok (.slice t56a t56n t56c) w13∧(Calls Tryz.prog 163 #[(.slice t56a t56n t56c)] w13 fun e57 w14=>∃t57a t57n t57c,e57=.returned (.slice t57a t57n t57c)∧(∃t58a t58n t58c w15,(Builtin.append_ #[26,26] 26 #[(.slice x3a x3n x3c),(.slice t57a t57n t57c)]).run Tryz.prog w14=.ok (.slice t58a t58n t58c) w15∧(∃t61,LdQ 3 g5 1 (.int .i64 t61) w15∧(Calls Tryz.prog 203 #[(.int .i64 t61)] w15 fun e62 w16=>∃t62a t62n t62c,e62=.returned (.slice t62a t62n t62c)∧(∃t63a t63n t63c w17,(Builtin.append_ #[26,26] 26 #[(.slice t58a t58n t58c),(.slice t62a t62n t62c)]).run Tryz.prog w16=.ok (.slice t63a t63n t63c) w17∧(∃t66,LdQ 3 g5 2 (.int .i64 t66) w17∧(∃t68,LdQ 3 g5 3 (.int .i64 t68) w17∧(∃t69a t69n t69c w18,(Instr.buildSlice 29 2 #[(0,(.int .i64 t66)),(1,(.int .i64 t68))]).run Tryz.prog w17=.ok (.slice t69a t69n t69c) w18∧(Calls Tryz.prog 204 #[(.slice t63a t63n t63c),(.slice t69a t69n t69c)] w18 fun e70 w19=>∃t70a t70n t70c,e70=.returned (.slice t70a t70n t70c)∧(0≤(32:Int)∧(32:Int)≤(32:Int)∧(∃t74a t74n t74c w20,(Builtin.append_ #[26,26] 26 #[(.slice t70a t70n t70c),(.slice (some ⟨g5,4,none⟩) (32) 32)]).run Tryz.prog w19=.ok (.slice t74a t74n t74c) w20∧(I t74a t74n t74c (IntKind.wrap .i64 (x4+1)) w20∧μ t74a t74n t74c (IntKind.wrap .i64 (x4+1)) w20<μ x3a x3n x3c x4 w9)))))))))))))))))))))∧(decide (x4<(t42n:Int))=false→(∃t77a t77n t77c,LdQ 45 g1 8 (.slice t77a t77n t77c) w9∧(∃t79a t79n t79c w21,(Instr.buildSlice 29 1 #[(0,(.int .i64 (t77n:Int)))]).run Tryz.prog w9=.ok (.slice t79a t79n t79c) w21∧(Calls Tryz.prog 204 #[(.slice x3a x3n x3c),(.slice t79a t79n t79c)] w21 fun e80 w22=>∃t80a t80n t80c,e80=.returned (.slice t80a t80n t80c)∧(∃(I_1:Option Addr→Nat→Nat→Int→World→Prop) (μ_1:Option Addr→Nat→Nat→Int→World→Nat),I_1 t80a t80n t80c 0 w22∧(∀x3a_1 x3n_1 x3c_1 x6,∀w23,I_1 x3a_1 x3n_1 x3c_1 x6 w23→(∃t83a t83n t83c,LdQ 45 g1 8 (.slice t83a t83n t83c) w23∧((decide (x6<(t83n:Int))=true→(∃S:World→Prop,S w23.drew∧(∃t90a t90n t90c,(∀w',S w'→LdQ 45 g1 8 (.slice t90a t90n t90c) w')∧(∃t92b t92o,t90a=some ⟨t92b,t92o,none⟩∧0≤x6∧x6<(t90n:Int)∧(∃t94,(∀w',S w'→LdQ 3 t92b (t92o+Int.toNat x6*3) (.int .i64 t94) w')∧(∃t96a t96n t96c,(∀w',S w'→LdQ 45 g1 8 (.slice t96a t96n t96c) w')∧(∃t98b t98o,t96a=some ⟨t98b,t98o,none⟩∧0≤x6∧x6<(t96n:Int)∧(∃t100,(∀w',S w'→LdQ 3 t98b (t98o+Int.toNat x6*3+1) (.int .i64 t100) w')∧(∃t102a t102n t102c,(∀w',S w'→LdQ 45 g1 8 (.slice t102a t102n t102c) w')∧(∃t104b t104o,t102a=some ⟨t104b,t104o,none⟩∧0≤x6∧x6<(t102n:Int)∧(∃t106,(∀w',S w'→LdQ 3 t104b (t104o+Int.toNat x6*3+2) (.int .i64 t106) w')∧(∃t107a t107n t107c w24,(Instr.buildSlice 29 3 #[(0,(.int .i64 t94)),(1,(.int .i64 t100)),(2,(.int .i64 t106))]).run Tryz.prog w23.drew=.ok (.slice t107a t107n t107c) w24∧(∃S_1:World→Prop,(∀w',S_1 w'→S w')∧S_1 w24∧(Calls Tryz.prog 204 #[(.slice x3a_1 x3n_1 x3c_1),(.slice t107a t107n t107c)] w24 fun e108 w25=>∃t108a t108n t108c,e108=.returned (.slice t108a t108n t108c)∧(∃S_2:World→Prop,(∀w',S_2 w'→S_1 w')∧S_2 w25∧(I_1 t108a t108n t108c (IntKind.wrap .i64 (x6+1)) w25∧μ_1 t108a t108n t108c (IntKind.wrap .i64 (x6+1)) w25<μ_1 x3a_1 x3n_1 x3c_1 x6 w23))))))))))))))))∧(decide (x6<(t83n:Int))=false→(R (.returned (.slice x3a_1 x3n_1 x3c_1)) w23)))))))))))))))))))))))))))))):Calls Tryz.prog 104 #[(.agg a0)] w R:=calls_of_ev2 (tc:=.sq [.reg (.op .bx (.op .p .nil)),.reg (.op .p (.op (.ld (.int .i64)) (.op (.cl [.slice]) (.op .p .nil)))),.reg (.pp 2 (.op (.ld (.int .i64)) (.op (.cl [.slice]) (.op (.r .slice) (.op .p .nil))))),.reg (.pp 3 (.op (.ld (.int .u64)) (.op .p (.op (.cl [.slice]) (.op (.r .slice) (.op .p .nil)))))),.reg (.pp 3 (.op (.ld (.int .i64)) (.pp 2 (.op (.ld (.int .i64)) (.pp 2 (.op (.ld (.int .i64)) (.pp 2 (.op (.ld (.int .i64)) (.op .p (.op (.ld .slice) (.op .p (.op (.r .slice) (.op (.cl [.slice]) (.op .p .nil)))))))))))))),.seq (.rg 1) (.blk (.loop (lr [(3,3),(40,35)]) [3,4] [.slice,.int .i64] (.sq [.seq (.reg (.pp 2 (.op (.ld .slice) (.pp 2 .nil)))) (.cond .leaf .leaf),.blk (.sq [.reg (.op .p (.op (.ld .slice) (.op .p (.op .ix (.op (.ld .agg) (.op .bx (.op .u .nil))))))),.reg (.pp 2 (.op (.ld .str) (.op (.r .slice) (.op (.r .slice) (.op (.cl [.slice]) (.op (.r .slice) (.op .p .nil))))))),.reg (.pp 2 (.op (.ld (.int .i64)) (.op (.cl [.slice]) (.op (.r .slice) (.op .p .nil))))),.reg (.pp 2 (.op (.ld (.int .i64)) (.op .p (.op (.ld (.int .i64)) (.op (.r .slice) (.op (.cl [.slice]) (.op .p .nil)))))))] (.reg (.pp 2 (.op .sl (.op (.r .slice) (.op .p .nil))))))] (.rg 3)))),.reg (.pp 2 (.op (.ld .slice) (.op .p (.op (.r .slice) (.op (.cl [.slice]) (.op .p .nil)))))),.seq (.rg 1) (.blk (.loop (lr [(3,1),(6,1),(81,28)]) [3,6] [.slice,.int .i64] (.sq [.seq (.reg (.pp 2 (.op (.ld .slice) (.pp 2 .nil)))) (.cond .leaf .leaf),.blk (.drawS (.tks [0,1,3,7,9,13,15] (.ts 2 .slice (.tk 4 .ix (.tk 5 .p (.ts 6 (.int .i64) (.ts 8 .slice (.tk 10 .ix (.tk 11 .p (.ts 12 (.int .i64) (.ts 14 .slice (.tk 16 .ix (.tk 17 .p (.ts 18 (.int .i64) (.go 19 (.r .slice) (.go 20 (.cl [.slice]) (.tk 21 .p .nil)))))))))))))))) [])] (.rg 3)))),.rg 2] .leaf) Tryz.func104 (by kernel_rfl) (by kernel_rfl) h

theorem amphoraref16_Encode_vc (a0:Array Value) (a1:Array Value) (w:World) (R:Ending→World→Prop) (h:∃g2 w1,(Instr.box 41 (.agg a0)).run Tryz.prog w=.ok (.pointer (some ⟨g2,0,none⟩)) w1∧(∃g3 w2,(Instr.box 47 (.agg a1)).run Tryz.prog w1=.ok (.pointer (some ⟨g3,0,none⟩)) w2∧(∃t7,LdQ 47 g3 0 (.agg t7) w2∧(Calls Tryz.prog 102 #[(.agg t7)] w2 fun e8 w3=>∃t8,e8=.returned (.int .i64 t8)∧(((t8 != (0:Int))=true→(R (.returned (.tuple #[(.slice none 0 0),(.int .i64 t8)])) w3))∧((t8 != (0:Int))=false→(∃S:World→Prop,S w3.drew∧(∃t12,(∀w',S w'→LdQ 41 g2 0 (.agg t12) w')∧(∃t15,(∀w',S w'→LdQ 47 g3 0 (.agg t15) w')∧((∃t13a t13n t13c w4,(Instr.buildSlice 26 7 #[(0,(.int .u8 99)),(1,(.int .u8 97)),(2,(.int .u8 116)),(3,(.int .u8 97)),(4,(.int .u8 108)),(5,(.int .u8 111)),(6,(.int .u8 103))]).run Tryz.prog w3.drew=.ok (.slice t13a t13n t13c) w4∧(∃S_1:World→Prop,(∀w',S_1 w'→S w')∧S_1 w4∧((∃t14a t14n t14c w5,(convert 26 26 (.slice t13a t13n t13c)).run Tryz.prog w4=.ok (.slice t14a t14n t14c) w5∧(∃S_2:World→Prop,(∀w',S_2 w'→S_1 w')∧S_2 w5∧(Calls Tryz.prog 104 #[(.agg t15)] w5 fun e16 w6=>∃t16a t16n t16c,e16=.returned (.slice t16a t16n t16c)∧(∃S_3:World→Prop,(∀w',S_3 w'→S_2 w')∧S_3 w6∧(Calls Tryz.prog 103 #[(.agg t12),(.int .u8 4),(.slice t14a t14n t14c),(.slice t16a t16n t16c)] w6 fun e17 w7=>∃t17a t17n t17c,e17=.returned (.slice t17a t17n t17c)∧(∃S_4:World→Prop,(∀w',S_4 w'→S_3 w')∧S_4 w7∧(R (.returned (.tuple #[(.slice t17a t17n t17c),(.int .i64 0)])) w7)))))))∧(Calls Tryz.prog 104 #[(.agg t15)] w4 fun e16 w8=>∃t16a t16n t16c,e16=.returned (.slice t16a t16n t16c)∧(∃S_2:World→Prop,(∀w',S_2 w'→S_1 w')∧S_2 w8∧(∃t14a t14n t14c w9,(convert 26 26 (.slice t13a t13n t13c)).run Tryz.prog w8=.ok (.slice t14a t14n t14c) w9∧(∃S_3:World→Prop,(∀w',S_3 w'→S_2 w')∧S_3 w9∧(Calls Tryz.prog 103 #[(.agg t12),(.int .u8 4),(.slice t14a t14n t14c),(.slice t16a t16n t16c)] w9 fun e17 w10=>∃t17a t17n t17c,e17=.returned (.slice t17a t17n t17c)∧(∃S_4:World→Prop,(∀w',S_4 w'→S_3 w')∧S_4 w10∧(R (.returned (.tuple #[(.slice t17a t17n t17c),(.int .i64 0)])) w10))))))))))∧(Calls Tryz.prog 104 #[(.agg t15)] w3.drew fun e16 w11=>∃t16a t16n t16c,e16=.returned (.slice t16a t16n t16c)∧(∃S_1:World→Prop,(∀w',S_1 w'→S w')∧S_1 w11∧(∃t13a t13n t13c w12,(Instr.buildSlice 26 7 #[(0,(.int .u8 99)),(1,(.int .u8 97)),(2,(.int .u8 116)),(3,(.int .u8 97)),(4,(.int .u8 108)),(5,(.int .u8 111)),(6,(.int .u8 103))]).run Tryz.prog w11=.ok (.slice t13a t13n t13c) w12∧(∃S_2:World→Prop,(∀w',S_2 w'→S_1 w')∧S_2 w12∧(∃t14a t14n t14c w13,(convert 26 26 (.slice t13a t13n t13c)).run Tryz.prog w12=.ok (.slice t14a t14n t14c) w13∧(∃S_3:World→Prop,(∀w',S_3 w'→S_2 w')∧S_3 w13∧(Calls Tryz.prog 103 #[(.agg t12),(.int .u8 4),(.slice t14a t14n t14c),(.slice t16a t16n t16c)] w13 fun e17 w14=>∃t17a t17n t17c,e17=.returned (.slice t17a t17n t17c)∧(∃S_4:World→Prop,(∀w',S_4 w'→S_3 w')∧S_4 w14∧(R (.returned (.tuple #[(.slice t17a t17n t17c),(.int .i64 0)])) w14))))))))))))))))))):Calls Tryz.prog 36 #[(.agg a0),(.agg a1)] w R:=calls_of_ev2 (tc:=.sq [.reg (.op .bx (.op .bx (.pp 2 .nil))),.reg (.op (.ld .agg) (.op (.cl [.int .i64]) (.op .p .nil))),.seq (.rg 2) (.cond (.seq (.rg 3) .leaf) .leaf),.drawS (.ts 0 .agg (.ts 3 .agg (.two 1 (.r .slice) (.two 2 (.r .slice) (.go 4 (.cl [.slice]) (.go 5 (.cl [.slice]) (.tks [6,7] .nil))) 4 (.cl [.slice]) (.go 2 (.r .slice) (.go 5 (.cl [.slice]) (.tks [6,7] .nil)))) 4 (.cl [.slice]) (.go 1 (.r .slice) (.go 2 (.r .slice) (.go 5 (.cl [.slice]) (.tks [6,7] .nil))))))) []] .leaf) Tryz.func36 (by kernel_rfl) (by kernel_rfl) h

theorem amphoraref16_Same_vc (a0:Array Value) (a1:Array Value) (w:World) (R:Ending→World→Prop) (h:∃g2 w1,(Instr.box 47 (.agg a0)).run Tryz.prog w=.ok (.pointer (some ⟨g2,0,none⟩)) w1∧(∃g3 w2,(Instr.box 47 (.agg a1)).run Tryz.prog w1=.ok (.pointer (some ⟨g3,0,none⟩)) w2∧(∃J:Bool→World→Prop,(∃t8,LdQ 3 g2 0 (.int .i64 t8) w2∧(∃t10,LdQ 3 g3 0 (.int .i64 t10) w2∧(((t8 != t10)=true→(J true w2))∧((t8 != t10)=false→(∃t14,LdQ 3 g2 1 (.int .i64 t14) w2∧(∃t16,LdQ 3 g3 1 (.int .i64 t16) w2∧(((t14 != t16)=true→(J true w2))∧((t14 != t16)=false→(∃t21,LdQ 44 g2 2 (.agg t21) w2∧(∃t23,LdQ 44 g3 2 (.agg t23) w2∧(∃t24,(eqlS .neq 44 (.tmp 21) (.tmp 23) (.agg t21) (.agg t23)).run Tryz.prog w2=.ok (.bool t24) w2∧((t24=true→(J true w2))∧(t24=false→(∃t28a t28n t28c,LdQ 25 g2 7 (.slice t28a t28n t28c) w2∧(∃t31a t31n t31c,LdQ 25 g3 7 (.slice t31a t31n t31c) w2∧((((t28n:Int) != (t31n:Int))=true→(J true w2))∧(((t28n:Int) != (t31n:Int))=false→(∃t37a t37n t37c,LdQ 45 g2 8 (.slice t37a t37n t37c) w2∧(∃t40a t40n t40c,LdQ 45 g3 8 (.slice t40a t40n t40c) w2∧(J ((t37n:Int) != (t40n:Int)) w2))))))))))))))))))))∧(∀x43,∀w3,J x43 w3→((x43=true→(R (.returned (.bool false)) w3))∧(x43=false→(∃(I:Int→World→Prop) (μ:Int→World→Nat),I 0 w3∧(∀x5,∀w4,I x5 w4→(∃t46a t46n t46c,LdQ 25 g2 7 (.slice t46a t46n t46c) w4∧((decide (x5<(t46n:Int))=true→(∃S:World→Prop,S w4.drew∧(∃t52a t52n t52c,(∀w',S w'→LdQ 25 g2 7 (.slice t52a t52n t52c) w')∧(∃t54b t54o,t52a=some ⟨t54b,t54o,none⟩∧0≤x5∧x5<(t52n:Int)∧(∃t55,(∀w',S w'→LdQ 89 t54b (t54o+Int.toNat x5*36) (.agg t55) w')∧(∃t57a t57n t57c,(∀w',S w'→LdQ 25 g3 7 (.slice t57a t57n t57c) w')∧(∃t59b t59o,t57a=some ⟨t59b,t59o,none⟩∧0≤x5∧x5<(t57n:Int)∧(∃t60,(∀w',S w'→LdQ 89 t59b (t59o+Int.toNat x5*36) (.agg t60) w')∧(∃t61,(∀w',S w'→(eqlS .neq 89 (.tmp 55) (.tmp 60) (.agg t55) (.agg t60)).run Tryz.prog w'=.ok (.bool t61) w')∧((t61=true→(R (.returned (.bool false)) w4.drew))∧(t61=false→(I (IntKind.wrap .i64 (x5+1)) w4.drew∧μ (IntKind.wrap .i64 (x5+1)) w4.drew<μ x5 w4))))))))))))∧(decide (x5<(t46n:Int))=false→(∃(I_1:Int→World→Prop) (μ_1:Int→World→Nat),I_1 0 w4∧(∀x6,∀w5,I_1 x6 w5→(∃t64a t64n t64c,LdQ 45 g2 8 (.slice t64a t64n t64c) w5∧((decide (x6<(t64n:Int))=true→(∃S:World→Prop,S w5.drew∧(∃t70a t70n t70c,(∀w',S w'→LdQ 45 g2 8 (.slice t70a t70n t70c) w')∧(∃t72b t72o,t70a=some ⟨t72b,t72o,none⟩∧0≤x6∧x6<(t70n:Int)∧(∃t73,(∀w',S w'→LdQ 91 t72b (t72o+Int.toNat x6*3) (.agg t73) w')∧(∃t75a t75n t75c,(∀w',S w'→LdQ 45 g3 8 (.slice t75a t75n t75c) w')∧(∃t77b t77o,t75a=some ⟨t77b,t77o,none⟩∧0≤x6∧x6<(t75n:Int)∧(∃t78,(∀w',S w'→LdQ 91 t77b (t77o+Int.toNat x6*3) (.agg t78) w')∧(∃t79,(∀w',S w'→(eqlS .neq 91 (.tmp 73) (.tmp 78) (.agg t73) (.agg t78)).run Tryz.prog w'=.ok (.bool t79) w')∧((t79=true→(R (.returned (.bool false)) w5.drew))∧(t79=false→(I_1 (IntKind.wrap .i64 (x6+1)) w5.drew∧μ_1 (IntKind.wrap .i64 (x6+1)) w5.drew<μ_1 x6 w5))))))))))))∧(decide (x6<(t64n:Int))=false→(R (.returned (.bool true)) w5))))))))))))))))):Calls Tryz.prog 24 #[(.agg a0),(.agg a1)] w R:=calls_of_ev2 (tc:=.sq [.reg (.op .bx (.op .bx (.op .p .nil))),.seq (.join (lr [(7,37)]) [43] [.bool] (.reg (.op .p (.op (.ld (.int .i64)) (.op .p (.op (.ld (.int .i64)) (.pp 2 (.sp 12 (.pp 31 .nil) (.op .p (.op (.ld (.int .i64)) (.op .p (.op (.ld (.int .i64)) (.pp 3 (.sp 19 (.pp 24 .nil) (.op .p (.op (.ld .agg) (.op .p (.op (.ld .agg) (.op (.ld .bool) (.pp 2 (.sp 26 (.pp 17 .nil) (.op .p (.op (.ld .slice) (.pp 2 (.op (.ld .slice) (.pp 4 (.sp 35 (.pp 8 .nil) (.op .p (.op (.ld .slice) (.pp 2 (.op (.ld .slice) (.pp 3 .nil)))))))))))))))))))))))))))))))) (.cond (.seq (.rg 1) .leaf) .leaf),.seq (.rg 1) (.blk (.loop (lr [(4,2),(44,18)]) [5] [.int .i64] (.sq [.seq (.reg (.pp 2 (.op (.ld .slice) (.pp 2 .nil)))) (.cond .leaf .leaf),.blk (.seq (.drawS (.tks [0,2,5,7] (.ts 1 .slice (.tk 3 .ix (.ts 4 .agg (.ts 6 .slice (.tk 8 .ix (.ts 9 .agg (.ts 10 .bool .nil)))))))) []) (.cond (.seq (.rg 1) .leaf) .leaf))] (.rg 3)))),.seq (.rg 1) (.blk (.loop (lr [(4,1),(6,1),(62,18)]) [6] [.int .i64] (.sq [.seq (.reg (.pp 2 (.op (.ld .slice) (.pp 2 .nil)))) (.cond .leaf .leaf),.blk (.seq (.drawS (.tks [0,2,5,7] (.ts 1 .slice (.tk 3 .ix (.ts 4 .agg (.ts 6 .slice (.tk 8 .ix (.ts 9 .agg (.ts 10 .bool .nil)))))))) []) (.cond (.seq (.rg 1) .leaf) .leaf))] (.rg 3)))),.rg 1] .leaf) Tryz.func24 (by kernel_rfl) (by kernel_rfl) h

theorem amphoraref16_Copy_vc (a0:Array Value) (w:World) (R:Ending→World→Prop) (h:∃g1 w1,(Instr.box 47 (.agg a0)).run Tryz.prog w=.ok (.pointer (some ⟨g1,0,none⟩)) w1∧(∃g2 w2,AlQ 47 g2 w1 w2∧(∃t3a t3n t3c w3,(Instr.buildSlice 25 0 #[]).run Tryz.prog w2=.ok (.slice t3a t3n t3c) w3∧(∃t5a t5n t5c,LdQ 25 g1 7 (.slice t5a t5n t5c) w3∧(∃t6a t6n t6c w4,(Builtin.append_ #[25,25] 25 #[(.slice t3a t3n t3c),(.slice t5a t5n t5c)]).run Tryz.prog w3=.ok (.slice t6a t6n t6c) w4∧(∃w5,StQ 25 g1 7 (.slice t6a t6n t6c) w4 w5∧(∃t8a t8n t8c w6,(Instr.buildSlice 45 0 #[]).run Tryz.prog w5=.ok (.slice t8a t8n t8c) w6∧(∃t10a t10n t10c,LdQ 45 g1 8 (.slice t10a t10n t10c) w6∧(∃t11a t11n t11c w7,(Builtin.append_ #[45,45] 45 #[(.slice t8a t8n t8c),(.slice t10a t10n t10c)]).run Tryz.prog w6=.ok (.slice t11a t11n t11c) w7∧(∃w8,StQ 45 g1 8 (.slice t11a t11n t11c) w7 w8∧(∃t13,LdQ 47 g1 0 (.agg t13) w8∧(∃w9,StQ 47 g2 0 (.agg t13) w8 w9∧(∃r2,(loadVar 47 ⟨g2,0,none⟩).run Tryz.prog w9=.ok r2 w9∧(R (.returned r2) w9)))))))))))))):Calls Tryz.prog 34 #[(.agg a0)] w R:=calls_of_ev2 (tc:=.sq [.reg (.op .bx (.op .bx .nil)),.reg (.op (.r .slice) (.op .p (.op (.ld .slice) (.op (.r .slice) (.op .p (.op .u .nil)))))),.reg (.op (.r .slice) (.op .p (.op (.ld .slice) (.op (.r .slice) (.op .p (.op .u .nil)))))),.reg (.op (.ld .agg) (.op .u .nil))] .leaf) Tryz.func34 (by kernel_rfl) (by kernel_rfl) h

end Go.Proofs.YtpmhjnhgpplmnaaGreatDoor
end

section
namespace Go.Proofs.YtpmhjnhgpplmnaaGreatDoor
open Go Sx
set_option maxRecDepth 8000

def goodG (n:Int):Bool:=decide (1≤n∧n≤1099511627776)
theorem goodG_iff {n:Int} :goodG n=true↔1≤n∧n≤1099511627776:=by simp [goodG]
theorem extract1c (c:UInt8) (r:List UInt8):(⟨(c::r).toArray⟩:ByteArray).extract 1 (⟨(c::r).toArray⟩:ByteArray).size=⟨r.toArray⟩:=by
 apply ByteArray.ext
 rw [ByteArray.data_extract]
 apply Array.ext'
 have:(⟨(c::r).toArray⟩:ByteArray).size=r.length+1:=by show (c::r).toArray.size=_;simp
 rw [this]
 simp
theorem sizeSc (l:List UInt8):((⟨l.toArray⟩:ByteArray).size:Int)=(l.length:Int):=by show ((l.toArray.size:Nat):Int)=_;simp

theorem catname_spec (n:Int) (hb: -9223372036854775808≤n∧n≤9223372036854775807) (w:World) (hT:PTab w):Calls Tryz.prog 30 #[.int .i64 n] w fun e w'=>e=.returned (strV (if goodG n then nameD 99 n else []))∧Chg [] w w':=by
 apply catalog_Name_vc
 refine ⟨fun h=>?_,fun h=>?_⟩
 · have:goodG n=false:=by
     rw [Bool.eq_false_iff]
     intro hg
     have:=goodG_iff.1 hg
     simp at h;omega
   rw [this];exact ⟨rfl,Chg.refl _ _⟩
 · have hn:1≤n∧n≤1099511627776:=by simp at h;omega
   rw [goodG_iff.2 hn]
   refine (itoa_spec n hb w hT).mono ?_
   rintro e w1 ⟨rfl,c1⟩
   have hl:=Lib.itoa_length_le n (by omega) (by omega)
   exact ⟨_,rfl,_,addSL [99] (Lib.itoa n) _ _ w1 (by simp;omega),rfl,c1⟩
theorem catgen_spec (s:List UInt8) (hs:s.length≤281474976710656) (w:World) (hT:PTab w) (hE:EVar w):Calls Tryz.prog 26 #[strV s] w fun e w'=>e=.returned (.tuple #[.int .i64 ((numO 99 1 1099511627776 s).getD 0),.bool (numO 99 1 1099511627776 s).isSome])∧Chg [] w w':=by
 obtain ⟨mI,hI⟩:=eI
 apply catalog_Gen_vc
 rw [emptyS]
 refine ⟨fun h=>?_,fun h=>?_⟩
 · have:s=[]:=by simpa using h
   subst this
   exact ⟨rfl,Chg.refl _ _⟩
 cases s with
 | nil=>simp at h
 | cons c r=>
 have hx:(⟨(c::r).toArray⟩:ByteArray).extract (Int.toNat 1) (⟨(c::r).toArray⟩:ByteArray).size=⟨r.toArray⟩:=extract1c c r
 have hlen:(c::r).length=r.length+1:=rfl
 rw [hx]
 refine ⟨by omega,by rw [sizeSc,hlen];omega,(atoi_spec r (by omega) w hE).mono ?_⟩
 rintro e w1 ⟨c1,⟨v,hv,rfl⟩ | ⟨hbad,v,t,p,rfl⟩⟩
 · have hvb:=Lib.atoiAll_bounds hv
   refine ⟨_,_,rfl,fun x w'=>x= !decide (1≤v∧v≤1099511627776∧nameD 99 v=c::r)∧Chg [] w w',⟨_,neqS_nil hI none _ _,fun h=>by simp at h,fun _=>(catname_spec v (by omega) w1 (hT.keep0 c1)).mono ?_⟩,?_⟩
   · rintro e w2 ⟨rfl,c2⟩
     refine ⟨_,rfl,?_,c1.trans c2⟩
     rw [sameS]
     congr 1
     cases hg:goodG v with
     | true=>
       have:=goodG_iff.1 hg
       simp [this.1,this.2]
     | false=>
       have:¬(1≤v∧v≤1099511627776):=fun h=>by rw [goodG_iff.2 h] at hg;cases hg
       simp only [Bool.false_eq_true,if_false]
       have h2:¬(1≤v∧v≤1099511627776∧nameD 99 v=c::r):=fun h=>this ⟨h.1,h.2.1⟩
       simp [h2]
   · rintro x w3 ⟨rfl,c3⟩
     have hn:numO 99 1 1099511627776 (c::r)=if 1≤v∧v≤1099511627776∧nameD 99 v=c::r then some v else none:=by unfold numO;simp only [hv]
     refine ⟨fun h=>⟨?_,c3⟩,fun h=>⟨?_,c3⟩⟩
     · have:¬(1≤v∧v≤1099511627776∧nameD 99 v=c::r):=of_decide_eq_false (by rwa [Bool.not_eq_true'] at h)
       rw [hn,if_neg this];rfl
     · have:1≤v∧v≤1099511627776∧nameD 99 v=c::r:=of_decide_eq_true (by rwa [Bool.not_eq_false'] at h)
       rw [hn,if_pos this];rfl
 · have hn:numO 99 1 1099511627776 (c::r)=none:=by
     unfold numO
     cases ha:Lib.atoiAll r with
     | ok u=>exact absurd ha (hbad u)
     | range=>simp only [ha]
     | _=>simp only [ha]
   rw [hn]
   refine ⟨_,_,rfl,fun x w'=>x=true∧w'=w1,⟨_,neqI_nil hI _ _ _ _,fun _=>⟨rfl,rfl⟩,fun h=>by cases h⟩,?_⟩
   rintro x w3 ⟨rfl,rfl⟩
   exact ⟨fun _=>⟨rfl,c1⟩,fun h=>(by cases h)⟩

theorem ixS16 {l:List UInt8} {i:Nat} (hi:i<l.length) (w:World):(Instr.index 9 (.string ⟨l.toArray⟩) (.int .i64 (i:Int))).run Tryz.prog w=.ok (.int .u8 ((l.getD i 0).toNat:Int)) w:=by
 have h1:(⟨l.toArray⟩:ByteArray)[i]?=some (l.getD i 0):=by
   have h2:i<(⟨l.toArray⟩:ByteArray).size:=by show i<l.toArray.size;simpa using hi
   rw [getElem?_pos _ i h2]
   show some (l.toArray[i]'(by simpa using hi))=_
   simp [List.getD,hi]
 have h0:(0:Int)≤(i:Int):=by omega
 simp only [Instr.index,Sem.run_bind,asIntOf,Sem.run_pure,run_underlying sS,Result.andThen_ok,h0,if_true,Int.toNat_natCast,h1]

end Go.Proofs.YtpmhjnhgpplmnaaGreatDoor
end

section
namespace Go.Proofs.YtpmhjnhgpplmnaaGreatDoor.Gf2

def cmul (a b:Nat):Nat:=if h:b=0 then 0 else (if b%2=1 then a else 0)^^^(2*cmul a (b / 2))
termination_by b
decreasing_by exact Nat.div_lt_self (Nat.pos_of_ne_zero h) (by decide)

theorem half_ind {P:Nat→Prop} (h0:P 0) (h:∀b,b≠0→P (b / 2)→P b):∀b,P b:=fun b=>by
 induction b using Nat.strongRecOn with
 | ind b ih=>
   by_cases hb:b=0
   · rw [hb];exact h0
   · exact h b hb (ih _ (Nat.div_lt_self (Nat.pos_of_ne_zero hb) (by decide)))

@[simp] theorem cmul_zero (a:Nat):cmul a 0=0:=by rw [cmul];simp
theorem cmul_step (a b:Nat):cmul a b=(if b%2=1 then a else 0)^^^(2*cmul a (b / 2)):=by
 by_cases hb:b=0
 · subst hb;simp
 · rw [cmul,dif_neg hb]
@[simp] theorem cmul_one (a:Nat):cmul a 1=a:=by rw [cmul_step];simp
theorem two_xor (x y:Nat):2*(x^^^y)=(2*x)^^^(2*y):=by
 have:=Nat.shiftLeft_xor_distrib (a:=x) (b:=y) (i:=1)
 simpa [Nat.shiftLeft_eq,Nat.mul_comm] using this
theorem cmul_two_right (a b:Nat):cmul a (2*b)=2*cmul a b:=by
 rw [cmul_step];simp
@[simp] theorem zero_cmul (b:Nat):cmul 0 b=0:=by
 induction b using half_ind with
 | h0=>simp
 | h b _ ih=>rw [cmul_step,ih];simp
theorem xor4 (a b c d:Nat):(a^^^b)^^^(c^^^d)=(a^^^c)^^^(b^^^d):=by
 rw [Nat.xor_assoc,Nat.xor_assoc,←Nat.xor_assoc b,Nat.xor_comm b c,Nat.xor_assoc]
theorem xor_cmul (a c b:Nat):cmul (a^^^c) b=cmul a b^^^cmul c b:=by
 induction b using half_ind with
 | h0=>simp
 | h b _ ih=>
   rw [cmul_step (a^^^c),cmul_step a,cmul_step c,ih,two_xor,xor4]
   congr 1
   split<;>simp
theorem two_cmul (a b:Nat):cmul (2*a) b=2*cmul a b:=by
 induction b using half_ind with
 | h0=>simp
 | h b _ ih=>
   rw [cmul_step (2*a),cmul_step a,ih,two_xor]
   congr 1
   split<;>simp
theorem bit_split (b:Nat):b=(if b%2=1 then 1 else 0)^^^(2*(b / 2)):=by
 refine Nat.eq_of_testBit_eq fun i=>?_
 rw [Nat.testBit_xor]
 cases i with
 | zero=>
   simp only [Nat.testBit_zero]
   rcases Nat.mod_two_eq_zero_or_one b with h | h<;>simp [h]
 | succ i=>
   rw [Nat.testBit_succ,Nat.testBit_succ (2*(b / 2)),Nat.mul_div_cancel_left _ (by decide:0<2)]
   split<;>simp [Nat.testBit_succ]
theorem cmul_xor (a b c:Nat):cmul a (b^^^c)=cmul a b^^^cmul a c:=by
 induction b using half_ind generalizing c with
 | h0=>simp
 | h b _ ih=>
   rw [cmul_step a (b^^^c),cmul_step a b,cmul_step a c,Nat.xor_div_two,ih,two_xor,xor4]
   congr 1
   have hx:decide ((b^^^c)%2=1)=(decide (b%2=1)^^decide (c%2=1)):=by
     rw [←Nat.testBit_zero,←Nat.testBit_zero,←Nat.testBit_zero,Nat.testBit_xor]
   by_cases h1:b%2=1<;>by_cases h2:c%2=1<;>simp [h1,h2] at hx<;>simp [h1,h2]
@[simp] theorem one_cmul (b:Nat):cmul 1 b=b:=by
 induction b using half_ind with
 | h0=>simp
 | h b _ ih=>rw [cmul_step,ih,←bit_split]
theorem cmul_comm (a b:Nat):cmul a b=cmul b a:=by
 induction b using half_ind with
 | h0=>simp
 | h b _ ih=>
   rw [cmul_step,ih]
   conv=>rhs;rw [bit_split b]
   rw [xor_cmul,two_cmul]
   congr 1
   split<;>simp
theorem cmul_assoc (a b c:Nat):cmul (cmul a b) c=cmul a (cmul b c):=by
 induction c using half_ind with
 | h0=>simp
 | h c _ ih=>
   rw [cmul_step (cmul a b) c,cmul_step b c,cmul_xor,cmul_two_right,ih]
   congr 1
   split<;>simp

theorem cmul_two_right' (x:Nat):cmul x 2=2*x:=by
 have:=cmul_two_right x 1
 simpa using this
theorem xor3 (y b d:Nat):(y^^^b)^^^(b^^^d)=y^^^d:=by
 rw [Nat.xor_assoc,←Nat.xor_assoc b,Nat.xor_self,Nat.zero_xor]
theorem xor5 (a p q c:Nat):(a^^^p)^^^c=(a^^^(p^^^q))^^^(q^^^c):=by
 rw [←Nat.xor_assoc a p q,xor3]

def DegIs (a d:Nat):Prop:=2^d≤a∧a<2^(d+1)
theorem degIs_log {a:Nat} (h:a≠0):DegIs a a.log2:=⟨Nat.log2_self_le h,Nat.lt_log2_self⟩
theorem DegIs.ne {a d:Nat} (h:DegIs a d):a≠0:=by have:=Nat.two_pow_pos d;have:=h.1;omega
theorem DegIs.uniq {a d e:Nat} (h:DegIs a d) (h':DegIs a e):d=e:=by
 rcases Nat.lt_trichotomy d e with hl | hl | hl
 · have:=Nat.pow_le_pow_right (show 0<2 by decide) (show d+1≤e from hl);have:=h.2;have:=h'.1;omega
 · exact hl
 · have:=Nat.pow_le_pow_right (show 0<2 by decide) (show e+1≤d from hl);have:=h'.2;have:=h.1;omega
theorem top_bit {a d:Nat} (h:DegIs a d):a.testBit d=true:=by
 rw [Nat.testBit_eq_decide_div_mod_eq]
 have:a / 2^d=1:=by
   have hp:=Nat.two_pow_pos d
   rw [Nat.div_eq_iff hp]
   have:=h.1;have:=h.2;rw [Nat.pow_succ] at this;omega
 rw [this];rfl
theorem DegIs.xor_lt {a b d:Nat} (h:DegIs a d) (hb:b<2^d):DegIs (a^^^b) d:=by
 have hb':b<2^(d+1):=by rw [Nat.pow_succ];omega
 refine ⟨Nat.le_of_not_lt fun hl=>?_,Nat.xor_lt_two_pow h.2 hb'⟩
 have h1:(a^^^b).testBit d=false:=Nat.testBit_lt_two_pow hl
 rw [Nat.testBit_xor,top_bit h,Nat.testBit_lt_two_pow hb] at h1
 cases h1
theorem DegIs.xor_same {a b d:Nat} (h:DegIs a d) (hb:DegIs b d):a^^^b<2^d:=by
 refine Nat.lt_pow_two_of_testBit _ fun i hi=>?_
 rw [Nat.testBit_xor]
 by_cases he:i=d
 · subst he;rw [top_bit h,top_bit hb];rfl
 · have hl:2^(d+1)≤2^i:=Nat.pow_le_pow_right (by decide) (by omega)
   rw [Nat.testBit_lt_two_pow (Nat.lt_of_lt_of_le h.2 hl),Nat.testBit_lt_two_pow (Nat.lt_of_lt_of_le hb.2 hl)];rfl
theorem DegIs.cmul {a m:Nat} (ha:DegIs a m):∀(n b:Nat),DegIs b n→DegIs (Gf2.cmul a b) (m+n)
 | 0,b,hb=>by
   have:b=1:=by have:=hb.1;have:=hb.2;omega
   subst this;simpa using ha
 | n+1,b,hb=>by
   have h2:DegIs (b / 2) n:=by
     have h1:=hb.1;have h2:=hb.2
     rw [Nat.pow_succ] at h1 h2
     constructor<;>omega
   have ih:=DegIs.cmul ha n (b / 2) h2
   rw [cmul_step,Nat.xor_comm]
   have hD:DegIs (2*Gf2.cmul a (b / 2)) (m+(n+1)):=by
     have h1:=ih.1;have h3:=ih.2
     rw [show m+(n+1)=(m+n)+1 by omega]
     refine ⟨by rw [Nat.pow_succ];omega,?_⟩
     rw [Nat.pow_succ];omega
   refine hD.xor_lt ?_
   split
   · exact Nat.lt_of_lt_of_le ha.2 (Nat.pow_le_pow_right (by decide) (by omega))
   · exact Nat.two_pow_pos _
theorem xor_eq_zero {a b:Nat} (h:a^^^b=0):a=b:=by
 have:=congrArg (· ^^^b) h
 simpa [Nat.xor_assoc] using this

def Dv (f a:Nat):Prop:=∃q,a=cmul f q
theorem Dv.zero (f:Nat):Dv f 0:=⟨0,by simp⟩
theorem Dv.self (f:Nat):Dv f f:=⟨1,by simp⟩
theorem Dv.one (f:Nat):Dv 1 f:=⟨f,by simp⟩
theorem Dv.xor {f a b:Nat} (h:Dv f a) (h':Dv f b):Dv f (a^^^b):=by
 obtain ⟨q,rfl⟩:=h
 obtain ⟨r,rfl⟩:=h'
 exact ⟨q^^^r,(cmul_xor _ _ _).symm⟩
theorem Dv.mul {f a:Nat} (h:Dv f a) (b:Nat):Dv f (cmul a b):=by
 obtain ⟨q,rfl⟩:=h
 exact ⟨cmul q b,cmul_assoc _ _ _⟩
theorem Dv.mul' {f a:Nat} (h:Dv f a) (b:Nat):Dv f (cmul b a):=by rw [cmul_comm];exact h.mul b
theorem Dv.trans {f g h:Nat} (h1:Dv f g) (h2:Dv g h):Dv f h:=by
 obtain ⟨q,rfl⟩:=h2
 exact h1.mul q
theorem Dv.of_xor {f a b:Nat} (h:Dv f (a^^^b)) (h':Dv f b):Dv f a:=by
 have:=h.xor h'
 rwa [Nat.xor_assoc,Nat.xor_self,Nat.xor_zero] at this
theorem Dv.lt {f a d:Nat} (hf:DegIs f d) (h:Dv f a) (ha:a<2^d):a=0:=by
 obtain ⟨q,rfl⟩:=h
 by_cases hq:q=0
 · subst hq;simp
 · have h1:=(DegIs.cmul hf _ _ (degIs_log hq)).1
   have h2:2^d≤2^(d+q.log2):=Nat.pow_le_pow_right (by decide) (by omega)
   omega
theorem dv_one {f:Nat} (h:Dv f 1):f=1:=by
 obtain ⟨q,hq⟩:=h
 have hf:f≠0:=by rintro rfl;simp at hq
 have hq0:q≠0:=by rintro rfl;simp at hq
 have h1:=DegIs.cmul (degIs_log hf) _ _ (degIs_log hq0)
 rw [←hq] at h1
 have h2:DegIs 1 0:=⟨by decide,by decide⟩
 have h3:=h1.uniq h2
 have h4:=(degIs_log hf).2
 have h5:=(degIs_log hf).1
 have h6:f.log2=0:=by omega
 rw [h6] at h4 h5
 omega

structure IsMod (m d a r:Nat):Prop where
 lt:r<2^d
 dv:Dv m (a^^^r)
theorem IsMod.uniq {m d a r r':Nat} (hm:DegIs m d) (h:IsMod m d a r) (h':IsMod m d a r'):r=r':=by
 have h1:=h.dv.xor h'.dv
 rw [xor4,Nat.xor_self,Nat.zero_xor] at h1
 exact xor_eq_zero (h1.lt hm (Nat.xor_lt_two_pow h.lt h'.lt))
theorem cmul_pow (a i:Nat):cmul a (2^i)=a*2^i:=by
 induction i with
 | zero=>simp
 | succ i ih=>rw [Nat.pow_succ,Nat.mul_comm _ 2,cmul_two_right,ih,Nat.mul_left_comm]
theorem mul_pow_dv (m k:Nat):Dv m (m*2^k):=⟨2^k,(cmul_pow m k).symm⟩
theorem DegIs.shift {m d:Nat} (h:DegIs m d) (k:Nat):DegIs (m*2^k) (d+k):=by
 refine ⟨?_,?_⟩
 · rw [Nat.pow_add];exact Nat.mul_le_mul_right _ h.1
 · rw [show d+k+1=(d+1)+k by omega,Nat.pow_add];exact (Nat.mul_lt_mul_right (Nat.two_pow_pos k)).2 h.2
theorem xor_cancel3 (a s r:Nat):((a^^^s)^^^r)^^^s=a^^^r:=by
 rw [Nat.xor_assoc,Nat.xor_comm r s,←Nat.xor_assoc,Nat.xor_assoc a,Nat.xor_self,Nat.xor_zero]
theorem exists_mod {m d:Nat} (hm:DegIs m d) (a:Nat):∃r,IsMod m d a r:=by
 induction a using Nat.strongRecOn with
 | ind a ih=>
   by_cases ha:a<2^d
   · exact ⟨a,ha,by rw [Nat.xor_self];exact Dv.zero m⟩
   · have ha0:a≠0:=by have:=Nat.two_pow_pos d;omega
     have hd:=degIs_log ha0
     have hle:d≤a.log2:=Nat.le_of_not_lt fun hl=>ha (Nat.lt_of_lt_of_le hd.2 (Nat.pow_le_pow_right (by decide) hl))
     have hs:DegIs (m*2^(a.log2-d)) a.log2:=by
       have:=hm.shift (a.log2-d)
       rwa [show d+(a.log2-d)=a.log2 by omega] at this
     obtain ⟨r,hr⟩:=ih (a^^^(m*2^(a.log2-d))) (Nat.lt_of_lt_of_le (hd.xor_same hs) hd.1)
     refine ⟨r,hr.lt,?_⟩
     have h1:=hr.dv.xor (mul_pow_dv m (a.log2-d))
     rwa [xor_cancel3] at h1

def Irr (f:Nat):Prop:=2≤f∧∀a b,f=cmul a b→a=1∨b=1
theorem bezout {f:Nat} (hf:Irr f) {a:Nat} (ha:¬Dv f a):∃u v,cmul f u^^^cmul a v=1:=by
 have step:∀n,n≠0→(∃u v,cmul f u^^^cmul a v=n)→∃u v,cmul f u^^^cmul a v=1:=by
   intro n
   induction n using Nat.strongRecOn with
   | ind n ih=>
     intro hn hI
     have hd:=degIs_log hn
     have red:∀x,(∃u v,cmul f u^^^cmul a v=x)→Dv n x∨∃r,r≠0∧r<n∧∃u v,cmul f u^^^cmul a v=r:=by
       intro x hx
       obtain ⟨r,hr⟩:=exists_mod hd x
       obtain ⟨q,hq⟩:=hr.dv
       by_cases h0:r=0
       · left;subst h0;rw [Nat.xor_zero] at hq;exact ⟨q,hq⟩
       · right
         refine ⟨r,h0,Nat.lt_of_lt_of_le hr.lt hd.1,?_⟩
         obtain ⟨u,v,e1⟩:=hI
         obtain ⟨u2,v2,e2⟩:=hx
         refine ⟨u2^^^cmul u q,v2^^^cmul v q,?_⟩
         rw [cmul_xor,cmul_xor,xor4,e2,←cmul_assoc,←cmul_assoc,←xor_cmul,e1,←hq,←Nat.xor_assoc,Nat.xor_self,Nat.zero_xor]
     rcases red f ⟨1,0,by simp⟩ with h1 | ⟨r,h0,hl,hr⟩
     · rcases red a ⟨0,1,by simp⟩ with h2 | ⟨r,h0,hl,hr⟩
       · obtain ⟨q,hq⟩:=h1
         rcases hf.2 _ _ hq with h | h
         · rw [h] at hI;exact hI
         · rw [h,cmul_one] at hq;rw [←hq] at h2;exact absurd h2 ha
       · exact ih r hl h0 hr
     · exact ih r hl h0 hr
 exact step f (by have:=hf.1;omega) ⟨1,0,by simp⟩
theorem Irr.prime {f:Nat} (hf:Irr f) {a b:Nat} (h:Dv f (cmul a b)):Dv f a∨Dv f b:=by
 by_cases ha:Dv f a
 · exact .inl ha
 · right
   obtain ⟨u,v,e⟩:=bezout hf ha
   have h1:Dv f (cmul (cmul f u^^^cmul a v) b):=by
     rw [xor_cmul]
     refine (((Dv.self f).mul u).mul b).xor ?_
     rw [cmul_assoc,cmul_comm v b,←cmul_assoc];exact h.mul v
   rw [e,one_cmul] at h1;exact h1
theorem Irr.not_one {f:Nat} (hf:Irr f):¬Dv f 1:=fun h=>by have:=dv_one h;have:=hf.1;omega
theorem dv_deg {f a d e:Nat} (h:Dv f a) (hd:DegIs f d) (he:DegIs a e):d≤e:=by
 obtain ⟨q,rfl⟩:=h
 have hq:q≠0:=by rintro rfl;exact he.ne (by simp)
 have:=(DegIs.cmul hd _ _ (degIs_log hq)).uniq he
 omega
theorem deg_one {a:Nat} (h0:a≠0) (h1:a≠1):1≤a.log2:=by
 refine Nat.le_of_not_lt fun hl=>?_
 have:=(degIs_log h0).2
 rw [show a.log2=0 by omega] at this
 omega
theorem parts_of {p:Nat} (hp:2≤p) (h:¬Irr p):∃a b,p=cmul a b∧a≠0∧a≠1∧b≠0∧b≠1:=by
 apply Classical.byContradiction
 intro hn
 refine h ⟨hp,fun a b e=>?_⟩
 by_cases ha:a=1
 · exact .inl ha
 by_cases hb:b=1
 · exact .inr hb
 exact absurd ⟨a,b,e,by rintro rfl;simp at e;omega,ha,by rintro rfl;simp at e;omega,hb⟩ hn
theorem exists_irr (p:Nat) (hp:2≤p):∃f,Irr f∧Dv f p:=by
 induction p using Nat.strongRecOn with
 | ind p ih=>
   by_cases h:Irr p
   · exact ⟨p,h,Dv.self p⟩
   · obtain ⟨a,b,e,a0,a1,b0,b1⟩:=parts_of hp h
     have hD:=DegIs.cmul (degIs_log a0) _ _ (degIs_log b0)
     rw [←e] at hD
     have hb:=deg_one b0 b1
     have hl:a<p:=by
       have h1:=(degIs_log a0).2
       have h2:2^(a.log2+1)≤2^(a.log2+b.log2):=Nat.pow_le_pow_right (by decide) (by omega)
       have h3:=hD.1
       omega
     obtain ⟨f,h1,h2⟩:=ih a hl (by omega)
     exact ⟨f,h1,by rw [e];exact h2.mul b⟩
theorem small_irr {p n:Nat} (hp:DegIs p n) (hn:1≤n) (h:¬Irr p):∃f d,Irr f∧Dv f p∧DegIs f d∧1≤d∧2*d≤n:=by
 have hp2:2≤p:=by
   have h1:=hp.1
   have h2:2^1≤2^n:=Nat.pow_le_pow_right (by decide) hn
   omega
 obtain ⟨a,b,e,a0,a1,b0,b1⟩:=parts_of hp2 h
 have hD:=DegIs.cmul (degIs_log a0) _ _ (degIs_log b0)
 rw [←e] at hD
 have hs:=hD.uniq hp
 have key:∀x y,x≠0→x≠1→p=cmul x y→2*x.log2≤n→∃f d,Irr f∧Dv f p∧DegIs f d∧1≤d∧2*d≤n:=by
   intro x y x0 x1 ex hx
   obtain ⟨f,h1,h2⟩:=exists_irr x (by omega)
   have hf0:f≠0:=by have:=h1.1;omega
   have:=dv_deg h2 (degIs_log hf0) (degIs_log x0)
   exact ⟨f,f.log2,h1,by rw [ex];exact h2.mul y,degIs_log hf0,deg_one hf0 (by have:=h1.1;omega),by omega⟩
 by_cases hle:a.log2≤b.log2
 · exact key a b a0 a1 e (by omega)
 · exact key b a b0 b1 (by rw [cmul_comm];exact e) (by omega)

def sqs (a:Nat):Nat→Nat
 | 0=>a
 | i+1=>cmul (sqs a i) (sqs a i)
theorem sq_xor (a b:Nat):cmul (a^^^b) (a^^^b)=cmul a a^^^cmul b b:=by
 rw [cmul_xor,xor_cmul,xor_cmul,cmul_comm b a,Nat.xor_comm (cmul a b) (cmul b b),xor4,Nat.xor_self,Nat.xor_zero]
theorem sqs_xor (a b:Nat):∀i,sqs (a^^^b) i=sqs a i^^^sqs b i
 | 0=>rfl
 | i+1=>by rw [sqs,sqs_xor a b i,sq_xor];rfl
theorem mul4 (a b c d:Nat):cmul (cmul a b) (cmul c d)=cmul (cmul a c) (cmul b d):=by
 rw [cmul_assoc,cmul_assoc,←cmul_assoc b,cmul_comm b c,cmul_assoc]
theorem sqs_mul (a b:Nat):∀i,sqs (cmul a b) i=cmul (sqs a i) (sqs b i)
 | 0=>rfl
 | i+1=>by rw [sqs,sqs_mul a b i,mul4];rfl
theorem sqs_sqs (a i:Nat):∀j,sqs (sqs a i) j=sqs a (i+j)
 | 0=>rfl
 | j+1=>by rw [sqs,sqs_sqs a i j];rfl
theorem Dv.sqs {f a:Nat} (h:Dv f a):∀i,Dv f (Gf2.sqs a i)
 | 0=>h
 | i+1=>(Dv.sqs h i).mul _
theorem sqs_zero:∀i,sqs 0 i=0
 | 0=>rfl
 | i+1=>by rw [sqs,sqs_zero i];simp
theorem sqs_one:∀i,sqs 1 i=1
 | 0=>rfl
 | i+1=>by rw [sqs,sqs_one i];simp
theorem fix_all {f r:Nat} (h:Dv f (sqs 2 r^^^2)) (a:Nat):Dv f (sqs a r^^^a):=by
 induction a using half_ind with
 | h0=>rw [sqs_zero];exact Dv.zero f
 | h a _ ih=>
   have e:a=(if a%2=1 then 1 else 0)^^^cmul 2 (a / 2):=by rw [cmul_comm,cmul_two_right' (a / 2)];exact bit_split a
   rw [e,sqs_xor,xor4]
   refine Dv.xor ?_ ?_
   · split
     · rw [sqs_one];exact Dv.zero f
     · rw [sqs_zero];exact Dv.zero f
   · have e2:cmul (sqs 2 r) (sqs (a / 2) r)^^^cmul 2 (a / 2)=cmul (sqs 2 r^^^2) (sqs (a / 2) r)^^^cmul 2 (sqs (a / 2) r^^^a / 2):=by
       rw [xor_cmul,cmul_xor,←Nat.xor_assoc,Nat.xor_assoc (cmul (sqs 2 r) _),Nat.xor_self,Nat.xor_zero]
     rw [sqs_mul,e2]
     exact (h.mul _).xor (ih.mul' 2)

def ev (cs:List Nat) (y:Nat):Nat:=cs.foldl (fun s c=>cmul s y^^^c) 0
theorem ev_snoc (cs:List Nat) (c y:Nat):ev (cs++ [c]) y=cmul (ev cs y) y^^^c:=by simp [ev]
theorem ev_one (y:Nat):ev [1] y=1:=by simp [ev]
theorem synth (b:Nat):∀(n:Nat) (t:List Nat),t.length=n→∃t':List Nat,t'.length=n∧∀c y,ev ((1::t)++ [c]) y=cmul (y^^^b) (ev (1::t') y)^^^ev ((1::t)++ [c]) b
 | 0,t,ht=>by
   have:t=[]:=List.eq_nil_of_length_eq_zero ht
   subst this
   refine ⟨[],rfl,fun c y=>?_⟩
   rw [ev_snoc,ev_snoc,ev_one,ev_one,one_cmul,one_cmul,cmul_one,xor3]
 | n+1,t,ht=>by
   rcases List.eq_nil_or_concat t with rfl | ⟨L,d,hc⟩
   · simp at ht
   · rw [List.concat_eq_append] at hc
     subst hc
     obtain ⟨t',hl,h⟩:=synth b n L (by simpa using ht)
     refine ⟨t'++ [ev ((1::L)++ [d]) b],by simp [hl],fun c y=>?_⟩
     have e1:(1::(L++ [d]))++ [c]=((1::L)++ [d])++ [c]:=by simp
     have e2:1::(t'++ [ev ((1::L)++ [d]) b])=(1::t')++ [ev ((1::L)++ [d]) b]:=by simp
     rw [e1,e2,ev_snoc _ c y,ev_snoc _ c b,ev_snoc (1::t') _ y,h d y]
     generalize ev ((1::L)++ [d]) b=P
     generalize ev (1::t') y=Q
     rw [xor_cmul (cmul _ _) P y,cmul_assoc,cmul_xor (y^^^b),xor_cmul y b P,cmul_comm y P,cmul_comm b P]
     exact xor5 _ _ _ _
theorem roots {f:Nat} (hf:Irr f):∀(n:Nat) (t:List Nat),t.length=n→∀bs:List Nat,(bs.Pairwise fun a b=>¬Dv f (a^^^b))→(∀b∈bs,Dv f (ev (1::t) b))→bs.length≤n
 | 0,t,ht,bs,_,h=>by
   have:t=[]:=List.eq_nil_of_length_eq_zero ht
   subst this
   cases bs with
   | nil=>simp
   | cons b bs=>exact absurd (by have:=h b (by simp);rwa [ev_one] at this) hf.not_one
 | n+1,t,ht,bs,hp,h=>by
   cases bs with
   | nil=>simp
   | cons b bs=>
     rcases List.eq_nil_or_concat t with rfl | ⟨L,c,hc⟩
     · simp at ht
     · rw [List.concat_eq_append] at hc
       subst hc
       obtain ⟨t',hl,hs⟩:=synth b n L (by simpa using ht)
       obtain ⟨h1,h2⟩:=List.pairwise_cons.1 hp
       have:=roots hf n t' hl bs h2 fun y hy=>by
         have k1:=h y (by simp [hy])
         have k2:=h b (by simp)
         have e1:(1::(L++ [c]))=(1::L)++ [c]:=by simp
         rw [e1] at k1 k2
         rw [hs c y] at k1
         rcases hf.prime (k1.of_xor k2) with k | k
         · rw [Nat.xor_comm] at k;exact absurd k (h1 y hy)
         · exact k
       simp;omega

def ppow (y:Nat):Nat→Nat
 | 0=>1
 | k+1=>cmul (ppow y k) y
theorem ppow_add (y i:Nat):∀j,ppow y (i+j)=cmul (ppow y i) (ppow y j)
 | 0=>by simp [ppow]
 | j+1=>by rw [←Nat.add_assoc,ppow,ppow_add y i j,cmul_assoc];rfl
theorem sqs_ppow (y:Nat):∀r,sqs y r=ppow y (2^r)
 | 0=>by simp [sqs,ppow]
 | r+1=>by rw [sqs,sqs_ppow y r,←ppow_add,Nat.pow_succ,Nat.mul_two]
theorem ev_pow (y:Nat):∀k,ev (1::List.replicate k 0) y=ppow y k
 | 0=>by rw [List.replicate_zero,ev_one];rfl
 | k+1=>by
   have e:(1::List.replicate (k+1) 0)=(1::List.replicate k 0)++ [0]:=by rw [List.replicate_succ'];simp
   rw [e,ev_snoc,ev_pow y k,Nat.xor_zero];rfl
theorem no_early {f d r:Nat} (hf:Irr f) (hd:DegIs f d) (h0:1≤r) (h:Dv f (sqs 2 r^^^2)):d≤r:=by
 have hr2:2≤2^r:=by have:2^1≤2^r:=Nat.pow_le_pow_right (by decide) h0;omega
 have hl:=roots hf (2^r) ((List.replicate (2^r-2) 0++ [1])++ [0]) (by simp;omega) (List.range (2^d)) (by
   rw [List.pairwise_iff_getElem]
   intro i j hi hj hij hdv
   simp only [List.length_range] at hi hj
   simp only [List.getElem_range] at hdv
   have:=xor_eq_zero (hdv.lt hd (Nat.xor_lt_two_pow hi hj))
   omega) (fun y _=>by
   have e:1::((List.replicate (2^r-2) 0++ [1])++ [0])=((1::List.replicate (2^r-2) 0)++ [1])++ [0]:=by simp
   have e2:ev (((1::List.replicate (2^r-2) 0)++ [1])++ [0]) y=sqs y r^^^y:=by
     rw [ev_snoc,ev_snoc,ev_pow,Nat.xor_zero,xor_cmul,one_cmul,sqs_ppow,show 2^r=2^r-2+1+1 by omega];rfl
   rw [e,e2];exact fix_all h y)
 rw [List.length_range] at hl
 exact (Nat.pow_le_pow_iff_right (by decide)).1 hl

theorem perm_of_sub:∀(l l':List Nat),l.Nodup→(∀x∈l,x∈l')→l'.length≤l.length→l.Perm l'
 | [],l',_,_,h=>by
   have:l'=[]:=List.eq_nil_of_length_eq_zero (by simpa using h)
   subst this;exact List.Perm.nil
 | a::l,l',hn,hs,h=>by
   have ha:a∈l':=hs a (by simp)
   have hp:=List.perm_cons_erase ha
   obtain ⟨h1,h2⟩:=List.nodup_cons.1 hn
   have:=perm_of_sub l (l'.erase a) h2 (fun x hx=>by
     refine (List.mem_erase_of_ne ?_).2 (hs x (by simp [hx]))
     rintro rfl;exact h1 hx) (by rw [List.length_erase_of_mem ha];simp at h;omega)
   exact (this.cons a).trans hp.symm
def prodL:List Nat→Nat
 | []=>1
 | a::l=>cmul a (prodL l)
theorem prodL_perm {l l':List Nat} (h:l.Perm l'):prodL l=prodL l':=by
 induction h with
 | nil=>rfl
 | cons a _ ih=>simp [prodL,ih]
 | swap a b l=>simp only [prodL];rw [←cmul_assoc,cmul_comm b a,cmul_assoc]
 | trans _ _ h1 h2=>exact h1.trans h2
theorem fermat {f d:Nat} (hf:Irr f) (hd:DegIs f d):Dv f (sqs 2 d^^^2):=by
 by_cases h2:Dv f 2
 · exact (h2.sqs d).xor h2
 obtain ⟨g,hg⟩:=Classical.axiomOfChoice (exists_mod hd)
 have hpos:=Nat.two_pow_pos d
 obtain ⟨L,hL⟩:∃L,List.range' 1 (2^d-1)=L:=⟨_,rfl⟩
 have hmem:∀x,x∈L↔1≤x∧x<2^d:=fun x=>by rw [←hL,List.mem_range'_1];omega
 have hnd:∀x∈L,¬Dv f x:=fun x hx h=>by
   have h1:=(hmem x).1 hx
   have:=h.lt hd h1.2;omega
 have hin:∀x∈L,g (cmul 2 x)∈L:=fun x hx=>by
   refine (hmem _).2 ⟨Nat.pos_of_ne_zero fun h0=>?_,(hg _).lt⟩
   have h1:=(hg (cmul 2 x)).dv
   rw [h0,Nat.xor_zero] at h1
   rcases hf.prime h1 with h | h
   · exact h2 h
   · exact hnd x hx h
 have hinj:∀x∈L,∀y∈L,g (cmul 2 x)=g (cmul 2 y)→x=y:=fun x hx y hy h=>by
   have h1:=(hg (cmul 2 x)).dv.xor (hg (cmul 2 y)).dv
   rw [h,xor4,Nat.xor_self,Nat.xor_zero,←cmul_xor] at h1
   rcases hf.prime h1 with k | k
   · exact absurd k h2
   · exact xor_eq_zero (k.lt hd (Nat.xor_lt_two_pow ((hmem x).1 hx).2 ((hmem y).1 hy).2))
 have hnodL:L.Nodup:=by rw [←hL];exact List.nodup_range'
 have hperm:(L.map fun x=>g (cmul 2 x)).Perm L:=by
   refine perm_of_sub _ _ ?_ (fun x hx=>?_) (by simp)
   · rw [List.Nodup,List.pairwise_map]
     exact hnodL.imp_of_mem fun {x y} hx hy hne h=>hne (hinj x hx y hy h)
   · obtain ⟨y,hy,rfl⟩:=List.mem_map.1 hx;exact hin y hy
 have hprod:∀l:List Nat,Dv f (prodL (l.map fun x=>g (cmul 2 x))^^^cmul (ppow 2 l.length) (prodL l)):=fun l=>by
   induction l with
   | nil=>simp [prodL,ppow];exact Dv.zero f
   | cons a l ih=>
     simp only [List.map_cons,prodL,List.length_cons]
     have e:cmul (ppow 2 (l.length+1)) (cmul a (prodL l))=cmul (cmul 2 a) (cmul (ppow 2 l.length) (prodL l)):=by
       rw [ppow,cmul_comm (ppow 2 l.length) 2,mul4]
     rw [e]
     have e2:cmul (g (cmul 2 a)) (prodL (l.map fun x=>g (cmul 2 x)))^^^cmul (cmul 2 a) (cmul (ppow 2 l.length) (prodL l))=cmul (cmul 2 a^^^g (cmul 2 a)) (prodL (l.map fun x=>g (cmul 2 x)))^^^cmul (cmul 2 a) (prodL (l.map fun x=>g (cmul 2 x))^^^cmul (ppow 2 l.length) (prodL l)):=by
       rw [xor_cmul,cmul_xor,Nat.xor_comm (cmul (cmul 2 a) _) (cmul (g _) _),←Nat.xor_assoc,Nat.xor_assoc (cmul (g _) _),Nat.xor_self,Nat.xor_zero]
     rw [e2]
     exact ((hg _).dv.mul _).xor (ih.mul' _)
 have hLl:L.length=2^d-1:=by rw [←hL];simp
 have h3:=hprod L
 rw [prodL_perm hperm,hLl] at h3
 have h4:Dv f (cmul (1^^^ppow 2 (2^d-1)) (prodL L)):=by rw [xor_cmul,one_cmul];exact h3
 have hnP:¬Dv f (prodL L):=by
   have:∀l:List Nat,(∀x∈l,¬Dv f x)→¬Dv f (prodL l):=fun l=>by
     induction l with
     | nil=>exact fun _=>hf.not_one
     | cons a l ih=>
       intro h hdv
       rcases hf.prime hdv with k | k
       · exact h a (by simp) k
       · exact ih (fun x hx=>h x (by simp [hx])) k
   exact this L hnd
 rcases hf.prime h4 with h | h
 · have h5:=h.mul 2
   rw [xor_cmul,one_cmul] at h5
   have e:cmul (ppow 2 (2^d-1)) 2=sqs 2 d:=by
     rw [sqs_ppow,show 2^d=2^d-1+1 by omega];rfl
   rw [e,Nat.xor_comm] at h5
   exact h5
 · exact absurd h hnP

def Alone (p y:Nat):Prop:=∀h,Dv h p→Dv h y→h=1
theorem alone_irr {p y:Nat} (hp:Irr p):Alone p y↔¬Dv p y:=by
 constructor
 · intro h hd
   have:=h p (Dv.self p) hd
   have:=hp.1
   omega
 · intro h x hx hy
   obtain ⟨q,hq⟩:=hx
   rcases hp.2 _ _ hq with k | k
   · exact k
   · rw [k,cmul_one] at hq;rw [←hq] at hy;exact absurd hy h
theorem irr_ne {f:Nat} (hf:Irr f) (h:f=1):False:=by have:=hf.1;omega
theorem benor {p n:Nat} (hp:DegIs p n) (hn:1≤n):(∀i,1≤i→2*i≤n→Alone p (sqs 2 i^^^2))↔Irr p:=by
 constructor
 · intro h
   apply Classical.byContradiction
   intro hi
   obtain ⟨f,d,h1,h2,h3,h4,h5⟩:=small_irr hp hn hi
   exact irr_ne h1 (h d h4 h5 f h2 (fermat h1 h3))
 · intro h i h1 h2
   refine (alone_irr h).2 fun hd=>?_
   have:=no_early h hp h1 hd
   omega
theorem sqs_mult {f d:Nat} (h:Dv f (sqs 2 d^^^2)) (r:Nat):∀k,Dv f (sqs 2 (d*k+r)^^^sqs 2 r)
 | 0=>by simp;exact Dv.zero f
 | k+1=>by
   have h1:=sqs_mult h r k
   have h2:=h.sqs (d*k+r)
   rw [sqs_xor,sqs_sqs] at h2
   have h3:=h2.xor h1
   rw [Nat.xor_assoc,←Nat.xor_assoc (sqs 2 (d*k+r)),Nat.xor_self,Nat.zero_xor] at h3
   rwa [show d*(k+1)+r=d+(d*k+r) by rw [Nat.mul_succ];omega]
theorem rabin {p n:Nat} (hp:DegIs p n) (hn:1≤n) (Q:List Nat) (hQ:∀q∈Q,1≤n / q∧n / q<n) (hC:∀d,1≤d→d<n→d ∣ n→∃q∈Q,d ∣ n / q):
   ((∀q∈Q,Alone p (sqs 2 (n / q)^^^2))∧Dv p (sqs 2 n^^^2))↔Irr p:=by
 constructor
 · rintro ⟨h1,h2⟩
   apply Classical.byContradiction
   intro hi
   obtain ⟨f,d,f1,f2,f3,f4,f5⟩:=small_irr hp hn hi
   have hF:=fermat f1 f3
   have h3:Dv f (sqs 2 n^^^2):=f2.trans h2
   have hr:n%d=0:=by
     apply Classical.byContradiction
     intro h0
     have h4:=sqs_mult hF (n%d) (n / d)
     rw [Nat.div_add_mod] at h4
     have h5:=h4.xor h3
     rw [Nat.xor_comm (sqs 2 n) (sqs 2 (n%d)),xor3] at h5
     have:=no_early f1 f3 (Nat.pos_of_ne_zero h0) h5
     have:=Nat.mod_lt n f4
     omega
   obtain ⟨q,hq,k,hk⟩:=hC d f4 (by omega) (Nat.dvd_of_mod_eq_zero hr)
   have h6:=sqs_mult hF 0 k
   rw [Nat.add_zero,←hk] at h6
   exact irr_ne f1 (h1 q hq f f2 h6)
 · intro h
   refine ⟨fun q hq=>(alone_irr h).2 fun hd=>?_,fermat h hp⟩
   have:=no_early h hp (hQ q hq).1 hd
   have:=(hQ q hq).2
   omega

end Go.Proofs.YtpmhjnhgpplmnaaGreatDoor.Gf2
end

section
namespace Go.Proofs.YtpmhjnhgpplmnaaGreatDoor
open Go Go.Proofs.YtpmhjnhgpplmnaaGreatDoor.Sx

set_option maxRecDepth 100000
theorem bits_Len64_vc (a0:Int) (w:World) (R:Ending→World→Prop) (h:∃J:Int→Int→World→Prop,((decide (a0≥(4294967296:Int))=true→(J (shrI .u64 a0 (32:Int)) 32 w))∧(decide (a0≥(4294967296:Int))=false→(J a0 0 w)))∧(∀x0 x2,∀w1,J x0 x2 w1→(∃J_1:Int→Int→World→Prop,((decide (x0≥(65536:Int))=true→(J_1 (shrI .u64 x0 (16:Int)) (IntKind.wrap .i64 (x2+(16:Int))) w1))∧(decide (x0≥(65536:Int))=false→(J_1 x0 x2 w1)))∧(∀x0_1 x2_1,∀w2,J_1 x0_1 x2_1 w2→(∃J_2:Int→Int→World→Prop,((decide (x0_1≥(256:Int))=true→(J_2 (shrI .u64 x0_1 (8:Int)) (IntKind.wrap .i64 (x2_1+(8:Int))) w2))∧(decide (x0_1≥(256:Int))=false→(J_2 x0_1 x2_1 w2)))∧(∀x0_2 x2_2,∀w3,J_2 x0_2 x2_2 w3→(∃t22,(Instr.index 9 (.string (ByteArray.mk #[0,1,2,2,3,3,3,3,4,4,4,4,4,4,4,4,5,5,5,5,5,5,5,5,5,5,5,5,5,5,5,5,6,6,6,6,6,6,6,6,6,6,6,6,6,6,6,6,6,6,6,6,6,6,6,6,6,6,6,6,6,6,6,6,7,7,7,7,7,7,7,7,7,7,7,7,7,7,7,7,7,7,7,7,7,7,7,7,7,7,7,7,7,7,7,7,7,7,7,7,7,7,7,7,7,7,7,7,7,7,7,7,7,7,7,7,7,7,7,7,7,7,7,7,7,7,7,7,8,8,8,8,8,8,8,8,8,8,8,8,8,8,8,8,8,8,8,8,8,8,8,8,8,8,8,8,8,8,8,8,8,8,8,8,8,8,8,8,8,8,8,8,8,8,8,8,8,8,8,8,8,8,8,8,8,8,8,8,8,8,8,8,8,8,8,8,8,8,8,8,8,8,8,8,8,8,8,8,8,8,8,8,8,8,8,8,8,8,8,8,8,8,8,8,8,8,8,8,8,8,8,8,8,8,8,8,8,8,8,8,8,8,8,8,8,8,8,8,8,8,8,8,8,8,8,8])) (.int .u8 (IntKind.wrap .u8 x0_2))).run Tryz.prog w3=.ok (.int .u8 t22) w3∧(R (.returned (.int .i64 (IntKind.wrap .i64 (x2_2+(IntKind.wrap .i64 t22))))) w3)))))))):Calls Tryz.prog 274 #[(.int .u64 a0)] w R:=calls_of_ev2 (tc:=.sq [.rg 1,.seq (.rg 2) (.join [0,2,5,6] [0,2] [.int .u64,.int .i64] (.cond (.seq (.rg 3) (.rg 1)) .leaf)),.seq (.rg 2) (.join [0,2,9,10,11,12] [0,2] [.int .u64,.int .i64] (.cond (.seq (.rg 3) (.rg 3)) .leaf)),.seq (.rg 2) (.join [0,2,15,16,17,18] [0,2] [.int .u64,.int .i64] (.cond (.seq (.rg 3) (.rg 3)) .leaf)),.reg (.pp 3 (.op (.ld (.int .u8)) (.pp 3 .nil)))] .leaf) Tryz.func274 (by kernel_rfl) (by kernel_rfl) h

theorem poly_Deg_vc (a0:Int) (w:World) (R:Ending→World→Prop) (h:Calls Tryz.prog 274 #[(.int .u64 a0)] w fun e4 w1=>∃t4,e4=.returned (.int .i64 t4)∧(R (.returned (.int .i64 (IntKind.wrap .i64 (t4- (1:Int))))) w1)):Calls Tryz.prog 205 #[(.int .u64 a0)] w R:=calls_of_ev2 (tc:=.sq [.rg 1,.reg (.op .p (.op (.cl [.int .i64]) (.pp 2 .nil)))] .leaf) Tryz.func205 (by kernel_rfl) (by kernel_rfl) h

theorem poly_mod_vc (a0:Int) (a1:Int) (a2:Int) (w:World) (R:Ending→World→Prop) (h:Calls Tryz.prog 205 #[(.int .u64 a2)] w fun e11 w1=>∃t11,e11=.returned (.int .i64 t11)∧(∃(I:Int→Int→Int→World→Prop) (μ:Int→Int→Int→World→Nat),I a0 a1 63 w1∧(∀x0 x1 x8,∀w2,I x0 x1 x8 w2→((decide (x8≥(0:Int))=true→(0≤x8∧((((band .u64 (shrI .u64 x0 x8) (1:Int))==(0:Int))=true→(I x0 x1 (IntKind.wrap .i64 (x8- (1:Int))) w2∧μ x0 x1 (IntKind.wrap .i64 (x8- (1:Int))) w2<μ x0 x1 x8 w2))∧(((band .u64 (shrI .u64 x0 x8) (1:Int))==(0:Int))=false→(((decide ((IntKind.wrap .i64 ((IntKind.wrap .i64 ((64:Int)+x8))-t11))≥(64:Int)))=true→(0≤(IntKind.wrap .i64 ((IntKind.wrap .i64 ((IntKind.wrap .i64 ((64:Int)+x8))-t11))- (64:Int)))∧(I (bxor .u64 x0 (shlI .u64 a2 (IntKind.wrap .i64 ((IntKind.wrap .i64 ((IntKind.wrap .i64 ((64:Int)+x8))-t11))- (64:Int))))) x1 (IntKind.wrap .i64 (x8- (1:Int))) w2∧μ (bxor .u64 x0 (shlI .u64 a2 (IntKind.wrap .i64 ((IntKind.wrap .i64 ((IntKind.wrap .i64 ((64:Int)+x8))-t11))- (64:Int))))) x1 (IntKind.wrap .i64 (x8- (1:Int))) w2<μ x0 x1 x8 w2)))∧((decide ((IntKind.wrap .i64 ((IntKind.wrap .i64 ((64:Int)+x8))-t11))≥(64:Int)))=false→(0≤(IntKind.wrap .i64 ((64:Int)- (IntKind.wrap .i64 ((IntKind.wrap .i64 ((64:Int)+x8))-t11))))∧(0≤(IntKind.wrap .i64 ((IntKind.wrap .i64 ((64:Int)+x8))-t11))∧(I (bxor .u64 x0 (shrI .u64 a2 (IntKind.wrap .i64 ((64:Int)- (IntKind.wrap .i64 ((IntKind.wrap .i64 ((64:Int)+x8))-t11)))))) (bxor .u64 x1 (shlI .u64 a2 (IntKind.wrap .i64 ((IntKind.wrap .i64 ((64:Int)+x8))-t11)))) (IntKind.wrap .i64 (x8- (1:Int))) w2∧μ (bxor .u64 x0 (shrI .u64 a2 (IntKind.wrap .i64 ((64:Int)- (IntKind.wrap .i64 ((IntKind.wrap .i64 ((64:Int)+x8))-t11)))))) (bxor .u64 x1 (shlI .u64 a2 (IntKind.wrap .i64 ((IntKind.wrap .i64 ((64:Int)+x8))-t11)))) (IntKind.wrap .i64 (x8- (1:Int))) w2<μ x0 x1 x8 w2)))))))))∧(decide (x8≥(0:Int))=false→(∃(I_1:Int→World→Prop) (μ_1:Int→World→Nat),I_1 x1 w2∧(∀x1_1,∀w3,I_1 x1_1 w3→(Calls Tryz.prog 205 #[(.int .u64 x1_1)] w3 fun e45 w4=>∃t45,e45=.returned (.int .i64 t45)∧((decide (t45≥t11)=true→(Calls Tryz.prog 205 #[(.int .u64 x1_1)] w4 fun e51 w5=>∃t51,e51=.returned (.int .i64 t51)∧(0≤(IntKind.wrap .i64 (t51-t11))∧(I_1 (bxor .u64 x1_1 (shlI .u64 a2 (IntKind.wrap .i64 (t51-t11)))) w5∧μ_1 (bxor .u64 x1_1 (shlI .u64 a2 (IntKind.wrap .i64 (t51-t11)))) w5<μ_1 x1_1 w3))))∧(decide (t45≥t11)=false→(R (.returned (.int .u64 x1_1)) w4))))))))))):Calls Tryz.prog 276 #[(.int .u64 a0),(.int .u64 a1),(.int .u64 a2)] w R:=calls_of_ev2 (tc:=.sq [.rg 1,.reg (.op .p (.op (.cl [.int .i64]) (.op .p .nil))),.seq (.rg 1) (.blk (.loop (lr [(0,2),(8,2),(12,32)]) [0,1,8] [.int .u64,.int .u64,.int .i64] (.sq [.seq (.rg 2) (.cond .leaf .leaf),.blk (.sq [.seq (.reg (.pp 2 (.op .sc (.pp 2 .nil)))) (.cond .leaf .leaf),.rg 5,.seq (.rg 2) (.cond (.seq (.reg (.pp 4 (.op .sc (.pp 2 .nil)))) .leaf) .leaf),.reg (.pp 4 (.op .sc (.pp 2 .nil)))] (.reg (.pp 3 (.op .sc (.pp 2 .nil)))))] (.rg 3)))),.blk (.loop (lr [(1,1),(44,12)]) [1] [.int .u64] (.seq (.seq (.reg (.op .p (.op (.cl [.int .i64]) (.pp 2 .nil)))) (.cond .leaf .leaf)) (.blk (.reg (.pp 3 (.op (.cl [.int .i64]) (.pp 2 (.op .sc (.pp 2 .nil))))))))),.rg 2] .leaf) Tryz.func276 (by kernel_rfl) (by kernel_rfl) h

theorem poly_mulMod_vc (a0:Int) (a1:Int) (a2:Int) (w:World) (R:Ending→World→Prop) (h:Calls Tryz.prog 330 #[(.int .u64 a1),(.int .u64 a2)] w fun e12 w1=>∃t12_0 t12_1,e12=.returned (.tuple #[(.int .u64 t12_0),(.int .u64 t12_1)])∧(Calls Tryz.prog 276 #[(.int .u64 t12_0),(.int .u64 t12_1),(.int .u64 a0)] w1 fun e18 w2=>∃t18,e18=.returned (.int .u64 t18)∧(R (.returned (.int .u64 t18)) w2))):Calls Tryz.prog 277 #[(.int .u64 a0),(.int .u64 a1),(.int .u64 a2)] w R:=calls_of_ev2 (tc:=.sq [.rg 1,.reg (.pp 2 (.op (.cl [.int .u64,.int .u64]) (.pp 5 .nil))),.reg (.pp 3 (.op (.cl [.int .u64]) (.op .p .nil)))] .leaf) Tryz.func277 (by kernel_rfl) (by kernel_rfl) h

theorem poly_Mul_vc (a0:Int) (a1:Int) (w:World) (R:Ending→World→Prop) (h:∃(I:Int→Int→Int→World→Prop) (μ:Int→Int→Int→World→Nat),I 0 0 0 w∧(∀x6 x7 x9,∀w1,I x6 x7 x9 w1→((decide (x9<(64:Int))=true→(0≤x9∧(∃J:Int→Int→World→Prop,((((band .u64 (shrI .u64 a1 x9) (1:Int))==(1:Int))=true→(0≤x9∧(0≤(IntKind.wrap .i64 ((64:Int)-x9))∧(J (bxor .u64 x6 (shrI .u64 a0 (IntKind.wrap .i64 ((64:Int)-x9)))) (bxor .u64 x7 (shlI .u64 a0 x9)) w1))))∧(((band .u64 (shrI .u64 a1 x9) (1:Int))==(1:Int))=false→(J x6 x7 w1)))∧(∀x6_1 x7_1,∀w2,J x6_1 x7_1 w2→(I x6_1 x7_1 (IntKind.wrap .i64 (x9+1)) w2∧μ x6_1 x7_1 (IntKind.wrap .i64 (x9+1)) w2<μ x6 x7 x9 w1)))))∧(decide (x9<(64:Int))=false→(R (.returned (.tuple #[(.int .u64 x6),(.int .u64 x7)])) w1))))):Calls Tryz.prog 330 #[(.int .u64 a0),(.int .u64 a1)] w R:=calls_of_ev2 (tc:=.sq [.rg 2,.rg 2,.seq (.rg 1) (.blk (.loop (lr [(6,23)]) [6,7,9] [.int .u64,.int .u64,.int .i64] (.sq [.rg 1,.cond .leaf .leaf,.blk (.sq [.rg 2,.reg (.pp 2 (.op .sc (.pp 2 .nil)))] (.join (lr [(6,2),(17,11)]) [6,7] [.int .u64,.int .u64] (.cond (.seq (.reg (.pp 3 (.op .sc (.pp 2 .nil)))) (.reg (.pp 4 (.op .sc (.pp 2 .nil))))) .leaf)))] (.rg 2)))),.rg 4] .leaf) Tryz.func330 (by kernel_rfl) (by kernel_rfl) h

theorem poly_Gcd_vc (a0a:Option Addr) (a0n:Nat) (a0c:Nat) (w:World) (R:Ending→World→Prop) (h:∃(I:Int→Int→World→Prop) (μ:Int→Int→World→Nat),I 0 0 w∧(∀x3 x8,∀w1,I x3 x8 w1→((decide (x8<(a0n:Int))=true→(∃t10b t10o,a0a=some ⟨t10b,t10o,none⟩∧0≤x8∧x8<(a0n:Int)∧(∃t11,LdQ 42 t10b (t10o+Int.toNat x8*1) (.int .u64 t11) w1∧(∃(I_1:Int→Int→World→Prop) (μ_1:Int→Int→World→Nat),I_1 x3 t11 w1∧(∀x3_1 x5,∀w2,I_1 x3_1 x5 w2→(((x5 != (0:Int))=true→(Calls Tryz.prog 276 #[(.int .u64 0),(.int .u64 x3_1),(.int .u64 x5)] w2 fun e17 w3=>∃t17,e17=.returned (.int .u64 t17)∧(I_1 x5 t17 w3∧μ_1 x5 t17 w3<μ_1 x3_1 x5 w2)))∧((x5 != (0:Int))=false→(I x3_1 (IntKind.wrap .i64 (x8+1)) w2∧μ x3_1 (IntKind.wrap .i64 (x8+1)) w2<μ x3 x8 w1))))))))∧(decide (x8<(a0n:Int))=false→(R (.returned (.int .u64 x3)) w1))))):Calls Tryz.prog 279 #[(.slice a0a a0n a0c)] w R:=calls_of_ev2 (tc:=.sq [.rg 1,.rg 1,.seq (.rg 3) (.blk (.loop (lr [(3,1),(5,1),(8,11)]) [3,8] [.int .u64,.int .i64] (.sq [.rg 1,.cond .leaf .leaf,.blk (.seq (.reg (.op .ix (.op (.ld (.int .u64)) (.op .p .nil)))) (.blk (.loop [3,5,12,13,14,15,16,17] [3,5] [.int .u64,.int .u64] (.seq (.seq (.rg 2) (.cond .leaf .leaf)) (.blk (.reg (.pp 3 (.op (.cl [.int .u64]) (.pp 2 .nil)))))))))] (.rg 2)))),.rg 2] .leaf) Tryz.func279 (by kernel_rfl) (by kernel_rfl) h

theorem poly_primes_vc (a0:Int) (w:World) (R:Ending→World→Prop) (h:∃(I:Int→Option Addr→Nat→Nat→Int→World→Prop) (μ:Int→Option Addr→Nat→Nat→Int→World→Nat),I a0 none 0 0 2 w∧(∀x0 x3a x3n x3c x4,∀w1,I x0 x3a x3n x3c x4 w1→((decide (x0>(1:Int))=true→(x4≠0∧((((Int.tmod x0 x4) != (0:Int))=true→(I x0 x3a x3n x3c (IntKind.wrap .i64 (x4+1)) w1∧μ x0 x3a x3n x3c (IntKind.wrap .i64 (x4+1)) w1<μ x0 x3a x3n x3c x4 w1))∧(((Int.tmod x0 x4) != (0:Int))=false→(∃t15a t15n t15c w2,(Instr.buildSlice 29 1 #[(0,(.int .i64 x4))]).run Tryz.prog w1=.ok (.slice t15a t15n t15c) w2∧(∃t16a t16n t16c w3,(Builtin.append_ #[29,29] 29 #[(.slice x3a x3n x3c),(.slice t15a t15n t15c)]).run Tryz.prog w2=.ok (.slice t16a t16n t16c) w3∧(∃(I_1:Int→World→Prop) (μ_1:Int→World→Nat),I_1 x0 w3∧(∀x0_1,∀w4,I_1 x0_1 w4→(x4≠0∧((((Int.tmod x0_1 x4)==(0:Int))=true→(x4≠0∧(I_1 (IntKind.wrap .i64 (Int.tdiv x0_1 x4)) w4∧μ_1 (IntKind.wrap .i64 (Int.tdiv x0_1 x4)) w4<μ_1 x0_1 w4)))∧(((Int.tmod x0_1 x4)==(0:Int))=false→(I x0_1 t16a t16n t16c (IntKind.wrap .i64 (x4+1)) w4∧μ x0_1 t16a t16n t16c (IntKind.wrap .i64 (x4+1)) w4<μ x0 x3a x3n x3c x4 w1))))))))))))∧(decide (x0>(1:Int))=false→(R (.returned (.slice x3a x3n x3c)) w1))))):Calls Tryz.prog 278 #[(.int .i64 a0)] w R:=calls_of_ev2 (tc:=.sq [.rg 1,.rg 1,.seq (.rg 1) (.blk (.loop (lr [(0,1),(3,21)]) [0,3,4] [.int .i64,.slice,.int .i64] (.sq [.seq (.rg 2) (.cond .leaf .leaf),.blk (.sq [.seq (.reg (.pp 2 (.op .sc (.op .p .nil)))) (.cond .leaf .leaf),.reg (.pp 2 (.op (.r .slice) (.op (.r .slice) (.op .p .nil))))] (.blk (.loop (lr [(0,1),(17,7)]) [0] [.int .i64] (.seq (.seq (.reg (.pp 2 (.op .sc (.op .p .nil)))) (.cond .leaf .leaf)) (.blk (.reg (.pp 2 (.op .sc (.op .p .nil)))))))))] (.rg 3)))),.rg 2] .leaf) Tryz.func278 (by kernel_rfl) (by kernel_rfl) h

theorem poly_Irreducible_vc (a0:Int) (w:World) (R:Ending→World→Prop) (h:∃g1 w1,(Instr.box 42 (.int .u64 a0)).run Tryz.prog w=.ok (.pointer (some ⟨g1,0,none⟩)) w1∧(∃t7,LdQ 42 g1 0 (.int .u64 t7) w1∧(Calls Tryz.prog 205 #[(.int .u64 t7)] w1 fun e8 w2=>∃t8,e8=.returned (.int .i64 t8)∧((decide (t8<(1:Int))=true→(R (.returned (.bool false)) w2))∧(decide (t8<(1:Int))=false→(∃t11 w3,(Instr.makeFunc (.func 275) #[] #[(.pointer (some ⟨g1,0,none⟩))]).run Tryz.prog w2=.ok t11 w3∧(Calls Tryz.prog 278 #[(.int .i64 t8)] w3 fun e13 w4=>∃t13a t13n t13c,e13=.returned (.slice t13a t13n t13c)∧(∃(I:Int→World→Prop) (μ:Int→World→Nat),I 0 w4∧(∀x15,∀w5,I x15 w5→((decide (x15<(t13n:Int))=true→(∃t17b t17o,t13a=some ⟨t17b,t17o,none⟩∧0≤x15∧x15<(t13n:Int)∧(∃t18,LdQ 3 t17b (t17o+Int.toNat x15*1) (.int .i64 t18) w5∧(∃S:World→Prop,S w5.drew∧(t18≠0∧(∃t19,(∀w',S w'→LdQ 42 g1 0 (.int .u64 t19) w')∧(∃t25,(∀w',S w'→LdQ 42 g1 0 (.int .u64 t25) w')∧(∃(f24:Nat) (cb24:List Value),t11=.func (.func f24) #[] ⟨cb24⟩∧goesIn Tryz.prog f24=true∧Calls Tryz.prog f24 (([(.int .i64 (IntKind.wrap .i64 (Int.tdiv t8 t18)))]:List Value)++cb24).toArray w5.drew fun e24 w6=>∃t24,e24=.returned (.int .u64 t24)∧(∃S_1:World→Prop,(∀w',S_1 w'→S w')∧S_1 w6∧(Calls Tryz.prog 276 #[(.int .u64 0),(.int .u64 2),(.int .u64 t25)] w6 fun e26 w7=>∃t26,e26=.returned (.int .u64 t26)∧(∃S_2:World→Prop,(∀w',S_2 w'→S_1 w')∧S_2 w7∧(∃t28a t28n t28c w8,(Instr.buildSlice 433 2 #[(0,(.int .u64 t19)),(1,(.int .u64 (bxor .u64 t24 t26)))]).run Tryz.prog w7=.ok (.slice t28a t28n t28c) w8∧(∃S_3:World→Prop,(∀w',S_3 w'→S_2 w')∧S_3 w8∧(Calls Tryz.prog 279 #[(.slice t28a t28n t28c)] w8 fun e29 w9=>∃t29,e29=.returned (.int .u64 t29)∧(∃S_4:World→Prop,(∀w',S_4 w'→S_3 w')∧S_4 w9∧(((t29 != (1:Int))=true→(R (.returned (.bool false)) w9))∧((t29 != (1:Int))=false→(I (IntKind.wrap .i64 (x15+1)) w9∧μ (IntKind.wrap .i64 (x15+1)) w9<μ x15 w5))))))))))))))))))∧(decide (x15<(t13n:Int))=false→(∃S:World→Prop,S w5.drew∧(∃t35,(∀w',S w'→LdQ 42 g1 0 (.int .u64 t35) w')∧(∃(f34:Nat) (cb34:List Value),t11=.func (.func f34) #[] ⟨cb34⟩∧goesIn Tryz.prog f34=true∧Calls Tryz.prog f34 (([(.int .i64 t8)]:List Value)++cb34).toArray w5.drew fun e34 w10=>∃t34,e34=.returned (.int .u64 t34)∧(∃S_1:World→Prop,(∀w',S_1 w'→S w')∧S_1 w10∧(Calls Tryz.prog 276 #[(.int .u64 0),(.int .u64 2),(.int .u64 t35)] w10 fun e36 w11=>∃t36,e36=.returned (.int .u64 t36)∧(∃S_2:World→Prop,(∀w',S_2 w'→S_1 w')∧S_2 w11∧(R (.returned (.bool (t34==t36))) w11)))))))))))))))))):Calls Tryz.prog 206 #[(.int .u64 a0)] w R:=calls_of_ev2 (tc:=.sq [.reg (.op .bx (.op .p .nil)),.reg (.op (.ld (.int .u64)) (.op (.cl [.int .i64]) (.op .p .nil))),.seq (.rg 2) (.cond (.seq (.rg 1) .leaf) .leaf),.reg (.op (.r .val) (.op .p .nil)),.seq (.reg (.op .p (.op (.cl [.slice]) (.pp 2 .nil)))) (.blk (.loop (lr [(2,1),(6,1),(15,17)]) [15] [.int .i64] (.sq [.rg 1,.cond .leaf .leaf,.blk (.sq [.reg (.op .ix (.op (.ld (.int .i64)) (.op .p .nil))),.drawS (.tks [1,2,3] (.tk 4 .sc (.ts 0 (.int .u64) (.ts 6 (.int .u64) (.go 5 (.cv [.int .u64]) (.go 7 (.cl [.int .u64]) (.tk 8 .p (.go 9 (.r .slice) (.go 10 (.cl [.int .u64]) (.tk 11 .p .nil)))))))))) []] (.cond (.seq (.rg 1) .leaf) .leaf))] (.rg 2)))),.drawS (.tks [0,1] (.ts 3 (.int .u64) (.go 2 (.cv [.int .u64]) (.go 4 (.cl [.int .u64]) (.tks [5,6] .nil))))) []] .leaf) Tryz.func206 (by kernel_rfl) (by kernel_rfl) h

theorem poly_Irreducible_1_vc (a0:Int) (a1b:Nat) (a1o:Nat) (w:World) (R:Ending→World→Prop) (h:∃t5,LdQ 42 a1b a1o (.int .u64 t5) w∧(Calls Tryz.prog 276 #[(.int .u64 0),(.int .u64 2),(.int .u64 t5)] w fun e6 w1=>∃t6,e6=.returned (.int .u64 t6)∧(∃(I:Int→Int→World→Prop) (μ:Int→Int→World→Nat),I t6 0 w1∧(∀x4 x8,∀w2,I x4 x8 w2→((decide (x8<a0)=true→(∃t10,LdQ 42 a1b a1o (.int .u64 t10) w2∧(Calls Tryz.prog 277 #[(.int .u64 t10),(.int .u64 x4),(.int .u64 x4)] w2 fun e13 w3=>∃t13,e13=.returned (.int .u64 t13)∧(I t13 (IntKind.wrap .i64 (x8+1)) w3∧μ t13 (IntKind.wrap .i64 (x8+1)) w3<μ x4 x8 w2))))∧(decide (x8<a0)=false→(R (.returned (.int .u64 x4)) w2))))))):Calls Tryz.prog 275 #[(.int .i64 a0),(.pointer (some ⟨a1b,a1o,none⟩))] w R:=calls_of_ev2 (tc:=.sq [.rg 1,.reg (.op (.ld (.int .u64)) (.op (.cl [.int .u64]) (.op .p .nil))),.seq (.rg 2) (.blk (.loop (lr [(4,1),(8,7)]) [4,8] [.int .u64,.int .i64] (.sq [.rg 1,.cond .leaf .leaf,.blk (.reg (.op (.ld (.int .u64)) (.pp 2 (.op (.cl [.int .u64]) (.op .p .nil)))))] (.rg 2)))),.rg 2] .leaf) Tryz.func275 (by kernel_rfl) (by kernel_rfl) h

theorem rabin_Check_vc (a0:Array Value) (w:World) (R:Ending→World→Prop) (h:∃g1 w1,(Instr.box 44 (.agg a0)).run Tryz.prog w=.ok (.pointer (some ⟨g1,0,none⟩)) w1∧(∃t5,LdQ 42 g1 0 (.int .u64 t5) w1∧(Calls Tryz.prog 205 #[(.int .u64 t5)] w1 fun e6 w2=>∃t6,e6=.returned (.int .i64 t6)∧(∃J:Bool→World→Prop,((((decide (t6<(8:Int)))||(decide (t6>(55:Int))))=true→(J true w2))∧(((decide (t6<(8:Int)))||(decide (t6>(55:Int))))=false→(∃t16,LdQ 42 g1 0 (.int .u64 t16) w2∧(Calls Tryz.prog 206 #[(.int .u64 t16)] w2 fun e17 w3=>∃t17,e17=.returned (.bool t17)∧(J (!t17) w3)))))∧(∀x7,∀w4,J x7 w4→(∃J_1:World→Prop,((x7=true→(J_1  w4))∧(x7=false→(∃J_2:Bool→World→Prop,(∃t22,LdQ 3 g1 1 (.int .i64 t22) w4∧((decide (t22<(1:Int))=true→(J_2 true w4))∧(decide (t22<(1:Int))=false→(∃t26,LdQ 3 g1 1 (.int .i64 t26) w4∧(J_2 (decide (t26>(64:Int))) w4)))))∧(∀x20,∀w5,J_2 x20 w5→(∃J_3:World→Prop,((x20=true→(J_3  w5))∧(x20=false→(∃J_4:Bool→World→Prop,(∃t31,LdQ 3 g1 2 (.int .i64 t31) w5∧(∃t33,LdQ 3 g1 1 (.int .i64 t33) w5∧((decide (t31<t33)=true→(J_4 true w5))∧(decide (t31<t33)=false→(∃t37,LdQ 3 g1 3 (.int .i64 t37) w5∧(∃t39,LdQ 3 g1 2 (.int .i64 t39) w5∧((decide (t37<t39)=true→(J_4 true w5))∧(decide (t37<t39)=false→(∃t44,LdQ 3 g1 3 (.int .i64 t44) w5∧(J_4 (decide (t44>(65536:Int))) w5))))))))))∧(∀x29,∀w6,J_4 x29 w6→(∃J_5:World→Prop,((x29=true→(J_5  w6))∧(x29=false→(∃J_6:Bool→World→Prop,(∃t49,LdQ 3 g1 4 (.int .i64 t49) w6∧((decide (t49<(0:Int))=true→(J_6 true w6))∧(decide (t49<(0:Int))=false→(∃t53,LdQ 3 g1 4 (.int .i64 t53) w6∧((decide (t53>t6)=true→(J_6 true w6))∧(decide (t53>t6)=false→(∃t59,LdQ 3 g1 4 (.int .i64 t59) w6∧(J_6 (decide (t59>(20:Int))) w6))))))))∧(∀x47,∀w7,J_6 x47 w7→((x47=true→(J_5  w7))∧(x47=false→(R (.returned .nilIface) w7)))))))∧(∀w8,J_5  w8→(J_3  w8)))))))∧(∀w9,J_3  w9→(J_1  w9)))))))∧(∀w10,J_1  w10→(R (.returned (.iface 65 (.int .i64 11))) w10)))))))):Calls Tryz.prog 105 #[(.agg a0)] w R:=calls_of_ev2 (tc:=.sq [.reg (.op .bx (.op .p .nil)),.reg (.op .p (.op (.ld (.int .u64)) (.op (.cl [.int .i64]) (.op .p .nil)))),.blk (.seq (.join (lr [(7,13)]) [7] [.bool] (.reg (.pp 3 (.ap 2 (.op .p (.sp 14 (.pp 6 .nil) (.op .p (.op (.ld (.int .u64)) (.op (.cl [.bool]) (.pp 3 .nil)))))))))) (.join (lr [(2,1),(20,42)]) [] [] (.cond .leaf (.seq (.join (lr [(20,9)]) [20] [.bool] (.reg (.op .p (.op (.ld (.int .i64)) (.pp 2 (.sp 24 (.pp 5 .nil) (.op .p (.op (.ld (.int .i64)) (.pp 3 .nil))))))))) (.join (lr [(2,1),(29,33)]) [] [] (.cond .leaf (.seq (.join (lr [(29,18)]) [29] [.bool] (.reg (.op .p (.op (.ld (.int .i64)) (.op .p (.op (.ld (.int .i64)) (.pp 2 (.sp 35 (.pp 12 .nil) (.op .p (.op (.ld (.int .i64)) (.op .p (.op (.ld (.int .i64)) (.pp 3 (.sp 42 (.pp 5 .nil) (.op .p (.op (.ld (.int .i64)) (.pp 3 .nil))))))))))))))))) (.join (lr [(2,1),(47,15)]) [] [] (.cond .leaf (.seq (.join (lr [(47,15)]) [47] [.bool] (.reg (.op .p (.op (.ld (.int .i64)) (.pp 2 (.sp 51 (.pp 11 .nil) (.op .p (.op (.ld (.int .i64)) (.pp 4 (.sp 57 (.pp 5 .nil) (.op .p (.op (.ld (.int .i64)) (.pp 3 .nil))))))))))))) (.cond .leaf (.seq (.rg 1) .leaf)))))))))))),.rg 2] .leaf) Tryz.func105 (by kernel_rfl) (by kernel_rfl) h

theorem amphoraref06_Deg_vc (a0:Int) (w:World) (R:Ending→World→Prop) (h:∃(I:Int→Int→World→Prop) (μ:Int→Int→World→Nat),I a0 (-1) w∧(∀x0 x3,∀w1,I x0 x3 w1→(((x0 != (0:Int))=true→(I (shrI .u64 x0 (1:Int)) (IntKind.wrap .i64 (x3+1)) w1∧μ (shrI .u64 x0 (1:Int)) (IntKind.wrap .i64 (x3+1)) w1<μ x0 x3 w1))∧((x0 != (0:Int))=false→(R (.returned (.int .i64 x3)) w1))))):Calls Tryz.prog 147 #[(.int .u64 a0)] w R:=calls_of_ev2 (tc:=.sq [.rg 1,.rg 1,.blk (.loop (lr [(0,1),(3,7)]) [0,3] [.int .u64,.int .i64] (.seq (.seq (.rg 2) (.cond .leaf .leaf)) (.blk (.seq (.rg 3) (.rg 3))))),.rg 2] .leaf) Tryz.func147 (by kernel_rfl) (by kernel_rfl) h

theorem amphoraref06_Mul_vc (a0:Int) (a1:Int) (w:World) (R:Ending→World→Prop) (h:∃(I:Int→Int→Int→Int→World→Prop) (μ:Int→Int→Int→Int→World→Nat),I a1 0 0 0 w∧(∀x1 x6 x7 x8,∀w1,I x1 x6 x7 x8 w1→((decide (x8<(64:Int))=true→(∃J:Int→World→Prop,((((shrI .u64 x1 (63:Int))==(1:Int))=true→(J (bxor .u64 (shlI .u64 x7 (1:Int)) a0) w1))∧(((shrI .u64 x1 (63:Int))==(1:Int))=false→(J (shlI .u64 x7 (1:Int)) w1)))∧(∀x7_1,∀w2,J x7_1 w2→(I (shlI .u64 x1 (1:Int)) (bor .u64 (shlI .u64 x6 (1:Int)) (shrI .u64 x7 (63:Int))) x7_1 (IntKind.wrap .i64 (x8+1)) w2∧μ (shlI .u64 x1 (1:Int)) (bor .u64 (shlI .u64 x6 (1:Int)) (shrI .u64 x7 (63:Int))) x7_1 (IntKind.wrap .i64 (x8+1)) w2<μ x1 x6 x7 x8 w1))))∧(decide (x8<(64:Int))=false→(R (.returned (.tuple #[(.int .u64 x6),(.int .u64 x7)])) w1))))):Calls Tryz.prog 230 #[(.int .u64 a0),(.int .u64 a1)] w R:=calls_of_ev2 (tc:=.sq [.rg 2,.rg 1,.rg 1,.seq (.rg 1) (.blk (.loop (lr [(1,1),(6,22)]) [1,6,7,8] [.int .u64,.int .u64,.int .u64,.int .i64] (.sq [.seq (.rg 2) (.cond .leaf .leaf),.blk (.sq [.rg 6,.rg 3,.seq (.rg 3) (.join [7,23,24,25] [7] [.int .u64] (.cond (.rg 4) .leaf))] (.rg 3))] (.rg 3)))),.rg 4] .leaf) Tryz.func230 (by kernel_rfl) (by kernel_rfl) h

theorem amphoraref06_Mod_vc (a0:Int) (a1:Int) (a2:Int) (w:World) (R:Ending→World→Prop) (h:Calls Tryz.prog 147 #[(.int .u64 a2)] w fun e13 w1=>∃t13,e13=.returned (.int .i64 t13)∧(∃(I:Int→Int→Int→Int→World→Prop) (μ:Int→Int→Int→Int→World→Nat),I a0 a1 0 0 w1∧(∀x0 x1 x8 x9,∀w2,I x0 x1 x8 x9 w2→((decide (x9<(128:Int))=true→((((IntKind.wrap .u64 t13)==(0:Int))=true→(I (bor .u64 (shlI .u64 x0 (1:Int)) (shrI .u64 x1 (63:Int))) (shlI .u64 x1 (1:Int)) x8 (IntKind.wrap .i64 (x9+1)) w2∧μ (bor .u64 (shlI .u64 x0 (1:Int)) (shrI .u64 x1 (63:Int))) (shlI .u64 x1 (1:Int)) x8 (IntKind.wrap .i64 (x9+1)) w2<μ x0 x1 x8 x9 w2))∧(((IntKind.wrap .u64 t13)==(0:Int))=false→(0≤(IntKind.wrap .u64 ((IntKind.wrap .u64 t13)- (1:Int)))∧(∃J:Int→World→Prop,((((band .u64 (shrI .u64 x8 (IntKind.wrap .u64 ((IntKind.wrap .u64 t13)- (1:Int)))) (1:Int))==(1:Int))=true→(J (bxor .u64 (bor .u64 (shlI .u64 x8 (1:Int)) (shrI .u64 x0 (63:Int))) a2) w2))∧(((band .u64 (shrI .u64 x8 (IntKind.wrap .u64 ((IntKind.wrap .u64 t13)- (1:Int)))) (1:Int))==(1:Int))=false→(J (bor .u64 (shlI .u64 x8 (1:Int)) (shrI .u64 x0 (63:Int))) w2)))∧(∀x8_1,∀w3,J x8_1 w3→(I (bor .u64 (shlI .u64 x0 (1:Int)) (shrI .u64 x1 (63:Int))) (shlI .u64 x1 (1:Int)) x8_1 (IntKind.wrap .i64 (x9+1)) w3∧μ (bor .u64 (shlI .u64 x0 (1:Int)) (shrI .u64 x1 (63:Int))) (shlI .u64 x1 (1:Int)) x8_1 (IntKind.wrap .i64 (x9+1)) w3<μ x0 x1 x8 x9 w2)))))))∧(decide (x9<(128:Int))=false→(R (.returned (.int .u64 x8)) w2)))))):Calls Tryz.prog 229 #[(.int .u64 a0),(.int .u64 a1),(.int .u64 a2)] w R:=calls_of_ev2 (tc:=.sq [.rg 1,.reg (.op .p (.op (.cl [.int .i64]) (.pp 2 .nil))),.rg 1,.seq (.rg 1) (.blk (.loop (lr [(0,2),(8,4),(15,29)]) [0,1,8,9] [.int .u64,.int .u64,.int .u64,.int .i64] (.sq [.seq (.rg 2) (.cond .leaf .leaf),.blk (.sq [.rg 3,.rg 6,.rg 3,.seq (.rg 2) (.cond .leaf .leaf),.reg (.pp 3 (.op .sc (.pp 2 .nil))),.rg 5,.rg 2] (.join [8,41,42,43] [8] [.int .u64] (.cond (.rg 4) .leaf)))] (.rg 3)))),.rg 2] .leaf) Tryz.func229 (by kernel_rfl) (by kernel_rfl) h

theorem amphoraref06_Gcd_vc (a0:Int) (a1:Int) (w:World) (R:Ending→World→Prop) (h:∃(I:Int→Int→World→Prop) (μ:Int→Int→World→Nat),I a0 a1 w∧(∀x0 x1,∀w1,I x0 x1 w1→(((x1 != (0:Int))=true→(Calls Tryz.prog 229 #[(.int .u64 0),(.int .u64 x0),(.int .u64 x1)] w1 fun e10 w2=>∃t10,e10=.returned (.int .u64 t10)∧(I x1 t10 w2∧μ x1 t10 w2<μ x0 x1 w1)))∧((x1 != (0:Int))=false→(R (.returned (.int .u64 x0)) w1))))):Calls Tryz.prog 231 #[(.int .u64 a0),(.int .u64 a1)] w R:=calls_of_ev2 (tc:=.sq [.rg 1,.blk (.loop (lr [(0,2),(5,8)]) [0,1] [.int .u64,.int .u64] (.seq (.seq (.rg 2) (.cond .leaf .leaf)) (.blk (.sq [.reg (.pp 2 (.op (.cl [.int .u64]) (.op .p .nil))),.rg 2] (.rg 2))))),.rg 2] .leaf) Tryz.func231 (by kernel_rfl) (by kernel_rfl) h

theorem amphoraref06_Irreducible_vc (a0:Int) (w:World) (R:Ending→World→Prop) (h:Calls Tryz.prog 147 #[(.int .u64 a0)] w fun e10 w1=>∃t10,e10=.returned (.int .i64 t10)∧((decide (t10<(1:Int))=true→(R (.returned (.bool false)) w1))∧(decide (t10<(1:Int))=false→(Calls Tryz.prog 229 #[(.int .u64 0),(.int .u64 2),(.int .u64 a0)] w1 fun e14 w2=>∃t14,e14=.returned (.int .u64 t14)∧(∃(I:Int→Int→World→Prop) (μ:Int→Int→World→Nat),I t14 1 w2∧(∀x5 x6,∀w3,I x5 x6 w3→(((decide ((IntKind.wrap .i64 ((2:Int)*x6))≤t10))=true→(Calls Tryz.prog 230 #[(.int .u64 x5),(.int .u64 x5)] w3 fun e25 w4=>∃t25_0 t25_1,e25=.returned (.tuple #[(.int .u64 t25_0),(.int .u64 t25_1)])∧(Calls Tryz.prog 229 #[(.int .u64 t25_0),(.int .u64 t25_1),(.int .u64 a0)] w4 fun e31 w5=>∃t31,e31=.returned (.int .u64 t31)∧(Calls Tryz.prog 231 #[(.int .u64 a0),(.int .u64 (bxor .u64 t31 t14))] w5 fun e36 w6=>∃t36,e36=.returned (.int .u64 t36)∧(((t36 != (1:Int))=true→(R (.returned (.bool false)) w6))∧((t36 != (1:Int))=false→(I t31 (IntKind.wrap .i64 (x6+1)) w6∧μ t31 (IntKind.wrap .i64 (x6+1)) w6<μ x5 x6 w3)))))))∧((decide ((IntKind.wrap .i64 ((2:Int)*x6))≤t10))=false→(R (.returned (.bool true)) w3))))))))):Calls Tryz.prog 148 #[(.int .u64 a0)] w R:=calls_of_ev2 (tc:=.sq [.rg 1,.reg (.op .p (.op (.cl [.int .i64]) (.op .p .nil))),.seq (.rg 2) (.cond (.seq (.rg 1) .leaf) .leaf),.reg (.op .p (.op (.cl [.int .u64]) (.op .p .nil))),.rg 2,.seq (.rg 1) (.blk (.loop (lr [(2,1),(5,4),(16,22)]) [5,6] [.int .u64,.int .i64] (.sq [.seq (.rg 4) (.cond .leaf .leaf),.blk (.sq [.reg (.pp 2 (.op (.cl [.int .u64,.int .u64]) (.pp 5 .nil))),.reg (.pp 3 (.op (.cl [.int .u64]) (.op .p .nil))),.reg (.pp 4 (.op (.cl [.int .u64]) (.op .p .nil)))] (.cond (.seq (.rg 1) .leaf) .leaf))] (.rg 3)))),.rg 1] .leaf) Tryz.func148 (by kernel_rfl) (by kernel_rfl) h

theorem amphoraref07_Check_vc (a0:Array Value) (w:World) (R:Ending→World→Prop) (h:∃g1 w1,(Instr.box 44 (.agg a0)).run Tryz.prog w=.ok (.pointer (some ⟨g1,0,none⟩)) w1∧(∃t6,LdQ 42 g1 0 (.int .u64 t6) w1∧(Calls Tryz.prog 147 #[(.int .u64 t6)] w1 fun e7 w2=>∃t7,e7=.returned (.int .i64 t7)∧(∃J:Bool→World→Prop,((((decide (t7≥(8:Int)))&&(decide (t7≤(55:Int))))=true→(∃t16,LdQ 3 g1 1 (.int .i64 t16) w2∧((decide (t16≥(1:Int))=true→(∃t21,LdQ 3 g1 1 (.int .i64 t21) w2∧((decide (t21≤(64:Int))=true→(∃t26,LdQ 3 g1 1 (.int .i64 t26) w2∧(∃t28,LdQ 3 g1 2 (.int .i64 t28) w2∧((decide (t26≤t28)=true→(∃t33,LdQ 3 g1 2 (.int .i64 t33) w2∧(∃t35,LdQ 3 g1 3 (.int .i64 t35) w2∧((decide (t33≤t35)=true→(∃t40,LdQ 3 g1 3 (.int .i64 t40) w2∧(J (decide (t40≤(65536:Int))) w2)))∧(decide (t33≤t35)=false→(J false w2))))))∧(decide (t26≤t28)=false→(J false w2))))))∧(decide (t21≤(64:Int))=false→(J false w2)))))∧(decide (t16≥(1:Int))=false→(J false w2)))))∧(((decide (t7≥(8:Int)))&&(decide (t7≤(55:Int))))=false→(J false w2)))∧(∀x4,∀w3,J x4 w3→(∃J_1:Bool→World→Prop,((x4=true→(∃t46,LdQ 3 g1 4 (.int .i64 t46) w3∧((decide (t46≥(0:Int))=true→(∃t51,LdQ 3 g1 4 (.int .i64 t51) w3∧((decide (t51≤t7)=true→(∃t57,LdQ 3 g1 4 (.int .i64 t57) w3∧(J_1 (decide (t57≤(20:Int))) w3)))∧(decide (t51≤t7)=false→(J_1 false w3)))))∧(decide (t46≥(0:Int))=false→(J_1 false w3)))))∧(x4=false→(J_1 false w3)))∧(∀x4_1,∀w4,J_1 x4_1 w4→(∃J_2:Bool→World→Prop,(((!x4_1)=true→(J_2 true w4))∧((!x4_1)=false→(∃t64,LdQ 42 g1 0 (.int .u64 t64) w4∧(Calls Tryz.prog 148 #[(.int .u64 t64)] w4 fun e65 w5=>∃t65,e65=.returned (.bool t65)∧(J_2 (!t65) w5)))))∧(∀x67,∀w6,J_2 x67 w6→((x67=true→(R (.returned (.int .i64 11)) w6))∧(x67=false→(R (.returned (.int .i64 0)) w6)))))))))))):Calls Tryz.prog 56 #[(.agg a0)] w R:=calls_of_ev2 (tc:=.sq [.reg (.op .bx (.op .p .nil)),.reg (.op .p (.op (.ld (.int .u64)) (.op (.cl [.int .i64]) (.op .p .nil)))),.join (lr [(4,1),(8,35)]) [4] [.bool] (.reg (.pp 3 (.ap 2 (.op .p (.sp 14 (.op .p (.op (.ld (.int .i64)) (.pp 3 (.sp 19 (.op .p (.op (.ld (.int .i64)) (.pp 3 (.sp 24 (.op .p (.op (.ld (.int .i64)) (.op .p (.op (.ld (.int .i64)) (.pp 3 (.sp 31 (.op .p (.op (.ld (.int .i64)) (.op .p (.op (.ld (.int .i64)) (.pp 3 (.sp 38 (.op .p (.op (.ld (.int .i64)) (.pp 3 .nil))) (.pp 5 .nil))))))) (.pp 12 .nil))))))) (.pp 19 .nil))))) (.pp 24 .nil))))) (.pp 29 .nil)))))),.join (lr [(4,1),(43,17)]) [4] [.bool] (.reg (.pp 2 (.sp 44 (.op .p (.op (.ld (.int .i64)) (.pp 3 (.sp 49 (.op .p (.op (.ld (.int .i64)) (.pp 4 (.sp 55 (.op .p (.op (.ld (.int .i64)) (.pp 3 .nil))) (.pp 5 .nil))))) (.pp 11 .nil))))) (.pp 16 .nil)))),.seq (.join (lr [(60,8)]) [67] [.bool] (.reg (.pp 3 (.sp 62 (.pp 5 .nil) (.op .p (.op (.ld (.int .u64)) (.op (.cl [.bool]) (.pp 2 .nil)))))))) (.cond (.seq (.rg 1) .leaf) .leaf),.rg 1] .leaf) Tryz.func56 (by kernel_rfl) (by kernel_rfl) h

end Go.Proofs.YtpmhjnhgpplmnaaGreatDoor
end

section
namespace Go.Proofs.YtpmhjnhgpplmnaaGreatDoor
open Go Sx Gf2
set_option maxRecDepth 8000

abbrev W64:Nat:=18446744073709551616
theorem w64:W64=2^64:=by decide
theorem xor64_lt {a b:Nat} (ha:a<W64) (hb:b<W64):a^^^b<W64:=by rw [w64] at*;exact Nat.xor_lt_two_pow ha hb
theorem x64 {a b:Nat} (ha:a<W64) (hb:b<W64):bxor .u64 (a:Int) (b:Int)=((a^^^b:Nat):Int):=bxor_nat rfl (by simpa [kmod,IntKind.bits] using ha) (by simpa [kmod,IntKind.bits] using hb)
theorem or64 {a b:Nat} (ha:a<W64) (hb:b<W64):bor .u64 (a:Int) (b:Int)=((a||| b:Nat):Int):=bor_nat rfl (by simpa [kmod,IntKind.bits] using ha) (by simpa [kmod,IntKind.bits] using hb)
theorem and64 {a b:Nat} (ha:a<W64) (hb:b<W64):band .u64 (a:Int) (b:Int)=((a&&& b:Nat):Int):=band_nat rfl (by simpa [kmod,IntKind.bits] using ha) (by simpa [kmod,IntKind.bits] using hb)
theorem shl64 {x n:Nat} (hn:n≤64):shlI .u64 (x:Int) ((n:Nat):Int)=((x*2^n%W64:Nat):Int):=shl_nat rfl _ _ hn
theorem shr64 {x n:Nat} (hn:n≤64):shrI .u64 (x:Int) ((n:Nat):Int)=((x / 2^n:Nat):Int):=shr_nat _ _ _ hn
theorem bit64 {x n:Nat} (hx:x<W64) (hn:n≤64):band .u64 (shrI .u64 (x:Int) (n:Int)) 1=((x / 2^n%2:Nat):Int):=by
 rw [shr64 hn]
 have:=and64 (a:=x / 2^n) (b:=1) (Nat.lt_of_le_of_lt (Nat.div_le_self _ _) hx) (by decide)
 rw [Nat.and_one_is_mod] at this
 exact this

def lenN (x:Nat):Nat:=if x=0 then 0 else x.log2+1
theorem lenN_deg {x d:Nat} (h:DegIs x d):lenN x=d+1:=by
 rw [lenN,if_neg h.ne,(degIs_log h.ne).uniq h]
theorem Gf2.DegIs.shr {x d k:Nat} (h:DegIs x d) (hk:k≤d):DegIs (x / 2^k) (d-k):=by
 have hp:=Nat.two_pow_pos k
 refine ⟨(Nat.le_div_iff_mul_le hp).2 ?_,(Nat.div_lt_iff_lt_mul hp).2 ?_⟩
 · rw [←Nat.pow_add,show d-k+k=d by omega];exact h.1
 · rw [←Nat.pow_add,show d-k+1+k=d+1 by omega];exact h.2
theorem lenN_shift {x k:Nat} (h:2^k≤x):lenN x=k+lenN (x / 2^k):=by
 have h0:x≠0:=by have:=Nat.two_pow_pos k;omega
 have hd:=degIs_log h0
 have hk:k≤x.log2:=Nat.le_of_not_lt fun hl=>by
   have:=Nat.pow_le_pow_right (show 0<2 by decide) (show x.log2+1≤k from hl)
   have:=hd.2
   omega
 rw [lenN_deg hd,lenN_deg (hd.shr hk)]
 omega
def lenTab:List UInt8:=(List.range 256).map fun x=>UInt8.ofNat (lenN x)
theorem lenTab_lit:lenTab=[0,1,2,2,3,3,3,3,4,4,4,4,4,4,4,4,5,5,5,5,5,5,5,5,5,5,5,5,5,5,5,5,6,6,6,6,6,6,6,6,6,6,6,6,6,6,6,6,6,6,6,6,6,6,6,6,6,6,6,6,6,6,6,6,7,7,7,7,7,7,7,7,7,7,7,7,7,7,7,7,7,7,7,7,7,7,7,7,7,7,7,7,7,7,7,7,7,7,7,7,7,7,7,7,7,7,7,7,7,7,7,7,7,7,7,7,7,7,7,7,7,7,7,7,7,7,7,7,8,8,8,8,8,8,8,8,8,8,8,8,8,8,8,8,8,8,8,8,8,8,8,8,8,8,8,8,8,8,8,8,8,8,8,8,8,8,8,8,8,8,8,8,8,8,8,8,8,8,8,8,8,8,8,8,8,8,8,8,8,8,8,8,8,8,8,8,8,8,8,8,8,8,8,8,8,8,8,8,8,8,8,8,8,8,8,8,8,8,8,8,8,8,8,8,8,8,8,8,8,8,8,8,8,8,8,8,8,8,8,8,8,8,8,8,8,8,8,8,8,8,8,8,8,8,8,8]:=by kernel_rfl
theorem ixS8 {l:List UInt8} {i:Nat} (hi:i<l.length) (w:World):(Instr.index 9 (.string ⟨l.toArray⟩) (.int .u8 (i:Int))).run Tryz.prog w=.ok (.int .u8 ((l.getD i 0).toNat:Int)) w:=by
 have h1:(⟨l.toArray⟩:ByteArray)[i]?=some (l.getD i 0):=by
   have h2:i<(⟨l.toArray⟩:ByteArray).size:=by show i<l.toArray.size;simpa using hi
   rw [getElem?_pos _ i h2]
   show some (l.toArray[i]'(by simpa using hi))=_
   simp [List.getD,hi]
 have h0:(0:Int)≤(i:Int):=by omega
 simp only [Instr.index,Sem.run_bind,asIntOf,Sem.run_pure,run_underlying Tryz.underlying9,Result.andThen_ok,h0,if_true,Int.toNat_natCast,h1]
theorem len64_spec (x:Nat) (hx:x<W64) (w:World):Calls Tryz.prog 274 #[.int .u64 (x:Int)] w fun e w'=>e=.returned (.int .i64 ((lenN x:Nat):Int))∧w'=w:=by
 apply bits_Len64_vc
 refine ⟨fun y n w'=>∃y' n':Nat,y=y'∧n=n'∧y'<4294967296∧n'≤32∧n'+lenN y'=lenN x∧w'=w,⟨fun h=>?_,fun h=>?_⟩,?_⟩
 · simp only [decide_eq_true_eq,ge_iff_le] at h
   have h32:2^32≤x:=by omega
   have hx':x<18446744073709551616:=hx
   refine ⟨x / 2^32,32,shr64 (by decide),rfl,by omega,by omega,(lenN_shift h32).symm,rfl⟩
 · simp only [decide_eq_false_iff_not,ge_iff_le] at h
   exact ⟨x,0,rfl,rfl,by omega,by omega,by omega,rfl⟩
 rintro y n w1 ⟨y,n,rfl,rfl,hy,hn,hl,rfl⟩
 refine ⟨fun y n w'=>∃y' n':Nat,y=y'∧n=n'∧y'<65536∧n'≤48∧n'+lenN y'=lenN x∧w'=w1,⟨fun h=>?_,fun h=>?_⟩,?_⟩
 · simp only [decide_eq_true_eq,ge_iff_le] at h
   have h16:2^16≤y:=by omega
   have:=lenN_shift h16
   exact ⟨y / 2^16,n+16,shr64 (by decide),by rw [wrap_i64 (by omega) (by omega)];omega,by omega,by omega,by omega,rfl⟩
 · simp only [decide_eq_false_iff_not,ge_iff_le] at h
   exact ⟨y,n,rfl,rfl,by omega,by omega,hl,rfl⟩
 rintro y n w2 ⟨y,n,rfl,rfl,hy,hn,hl,rfl⟩
 refine ⟨fun y n w'=>∃y' n':Nat,y=y'∧n=n'∧y'<256∧n'≤56∧n'+lenN y'=lenN x∧w'=w2,⟨fun h=>?_,fun h=>?_⟩,?_⟩
 · simp only [decide_eq_true_eq,ge_iff_le] at h
   have h8:2^8≤y:=by omega
   have:=lenN_shift h8
   exact ⟨y / 2^8,n+8,shr64 (by decide),by rw [wrap_i64 (by omega) (by omega)];omega,by omega,by omega,by omega,rfl⟩
 · simp only [decide_eq_false_iff_not,ge_iff_le] at h
   exact ⟨y,n,rfl,rfl,by omega,by omega,hl,rfl⟩
 rintro y n w3 ⟨y,n,rfl,rfl,hy,hn,hl,rfl⟩
 have hle:lenN y≤8:=by
   unfold lenN
   split
   · omega
   · rename_i h0
     have h1:=(degIs_log h0).1
     have:y.log2<8:=Nat.lt_of_not_le fun h8=>by
       have:=Nat.pow_le_pow_right (show 0<2 by decide) h8
       omega
     omega
 have hg:((lenTab.getD y 0).toNat:Int)=((lenN y:Nat):Int):=by
   rw [lenTab,List.getD_eq_getElem?_getD,List.getElem?_map,List.getElem?_range hy]
   simp only [Option.map_some,Option.getD_some]
   rw [UInt8.toNat_ofNat',Nat.mod_eq_of_lt (by omega)]
 have ht:lenTab.length=256:=by simp [lenTab]
 have hix:=ixS8 (l:=lenTab) (i:=y) (by omega) w3
 rw [hg,lenTab_lit] at hix
 refine ⟨_,by rw [wrap_u8,Int.emod_eq_of_lt (by omega) (by omega)];exact hix,?_,rfl⟩
 rw [wrap_i64 (n:=((lenN y:Nat):Int)) (by omega) (by omega),wrap_i64 (by omega) (by omega)]
 congr 2
 omega

def degZ (p:Nat):Int:=(lenN p:Int)-1
theorem degZ_deg {p d:Nat} (h:DegIs p d):degZ p=d:=by rw [degZ,lenN_deg h];omega
theorem deg_spec (p:Nat) (hp:p<W64) (w:World):Calls Tryz.prog 205 #[.int .u64 (p:Int)] w fun e w'=>e=.returned (.int .i64 (degZ p))∧w'=w:=by
 have hl:lenN p≤64:=by
   unfold lenN
   split
   · omega
   · rename_i h0
     have h1:=(degIs_log h0).1
     have:p.log2<64:=Nat.lt_of_not_le fun h8=>by
       have:=Nat.pow_le_pow_right (show 0<2 by decide) h8
       have:=w64
       omega
     omega
 apply poly_Deg_vc
 refine (len64_spec p hp w).mono ?_
 rintro e w1 ⟨rfl,rfl⟩
 refine ⟨_,rfl,?_,rfl⟩
 rw [wrap_i64 (by omega) (by omega)]
 rfl

end Go.Proofs.YtpmhjnhgpplmnaaGreatDoor
end

section
namespace Go.Proofs.YtpmhjnhgpplmnaaGreatDoor
open Go Sx Gf2
set_option maxRecDepth 8000

theorem beq0 (n:Nat):(((n:Nat):Int)==0)=decide (n=0):=by
 rw [Bool.eq_iff_iff];simp
theorem beq1 (n:Nat):(((n:Nat):Int)==1)=decide (n=1):=by
 rw [Bool.eq_iff_iff];simp;omega

theorem two_xor64 {a b c e:Nat} (hb:b<W64) (he:e<W64):(a^^^c)*W64+(b^^^e)=(a*W64+b)^^^(c*W64+e):=by
 rw [w64] at*
 refine Nat.eq_of_testBit_eq fun j=>?_
 rw [Nat.testBit_xor,Nat.mul_comm,Nat.mul_comm a,Nat.mul_comm c,Nat.testBit_two_pow_mul_add _ (Nat.xor_lt_two_pow hb he),Nat.testBit_two_pow_mul_add _ hb,Nat.testBit_two_pow_mul_add _ he]
 split<;>rw [Nat.testBit_xor]
theorem split64 (x:Nat) {s:Nat} (hs:s≤64):x / 2^(64-s)*W64+x*2^s%W64=x*2^s:=by
 have h1:x*2^s / W64=x / 2^(64-s):=by
   rw [w64,show (64:Nat)=(64-s)+s by omega,Nat.pow_add,show (64-s+s)-s=64-s by omega]
   exact Nat.mul_div_mul_right _ _ (Nat.two_pow_pos s)
 have:=Nat.div_add_mod (x*2^s) W64
 rw [h1,Nat.mul_comm W64] at this
 exact this

theorem mod2_lt {x i:Nat} (hx:x<2^(i+1)):(x / 2^i%2=0→x<2^i)∧(x / 2^i%2≠0→DegIs x i):=by
 have hp:=Nat.two_pow_pos i
 have h2:x / 2^i<2:=(Nat.div_lt_iff_lt_mul hp).2 (by rw [Nat.pow_succ] at hx;omega)
 constructor
 · intro h
   refine Nat.lt_of_not_le fun hl=>?_
   have:=(Nat.le_div_iff_mul_le hp).2 (show 1*2^i≤x by omega)
   omega
 · intro h
   refine ⟨Nat.le_of_not_lt fun hl=>h ?_,hx⟩
   rw [Nat.div_eq_of_lt hl]

theorem degIs_lt {m d:Nat} (h:DegIs m d) (hm:m<W64):d<64:=Nat.lt_of_not_le fun h8=>by
 have:=Nat.pow_le_pow_right (show 0<2 by decide) h8
 have:=h.1
 have:=w64
 omega
theorem lt_of_deg {x d:Nat} (h:DegIs x d) (hd:d<64):x<W64:=by
 have:=Nat.pow_le_pow_right (show 0<2 by decide) (show d+1≤64 from hd)
 have:=h.2
 have:=w64
 omega

set_option maxHeartbeats 1000000 in
theorem mod_spec {m d:Nat} (hm:DegIs m d) (hm64:m<W64) (hi lo:Nat) (hhi:hi<W64) (hlo:lo<W64) (w:World):
   Calls Tryz.prog 276 #[.int .u64 (hi:Int),.int .u64 (lo:Int),.int .u64 (m:Int)] w fun e w'=>∃r:Nat,e=.returned (.int .u64 (r:Int))∧IsMod m d (hi*W64+lo) r∧r<W64∧w'=w:=by
 have hd:=degIs_lt hm hm64
 apply poly_mod_vc
 refine (deg_spec m hm64 w).mono ?_
 rintro e w1 ⟨rfl,rfl⟩
 rw [degZ_deg hm]
 refine ⟨_,rfl,fun x y z w'=>∃(a b k:Nat),x=(a:Int)∧y=(b:Int)∧z=(k:Int)-1∧k≤64∧a<2^k∧b<W64∧Dv m ((a*W64+b)^^^(hi*W64+lo))∧w'=w1,fun _ _ z _=>(z+1).toNat,⟨hi,lo,64,rfl,rfl,rfl,by omega,by rw [←w64];exact hhi,hlo,by rw [Nat.xor_self];exact Dv.zero m,rfl⟩,?_⟩
 rintro x y z w2 ⟨a,b,k,rfl,rfl,rfl,hk,ha,hb,hdv,rfl⟩
 refine ⟨fun h=>?_,fun h=>?_⟩
 · simp only [ge_iff_le,decide_eq_true_eq] at h
   obtain ⟨i,rfl⟩:∃i,k=i+1:=⟨k-1,by omega⟩
   have ez:(((i+1:Nat):Int)-1)=(i:Int):=by omega
   have hW:IntKind.wrap .i64 ((i:Int)-1)=(i:Int)-1:=wrap_i64 (by omega) (by omega)
   have ha64:a<W64:=by
     have:=Nat.pow_le_pow_right (show 0<2 by decide) hk
     have:=w64
     omega
   have hs0:IntKind.wrap .i64 (IntKind.wrap .i64 ((64:Int)+(i:Int))- (d:Int))=((64+i-d:Nat):Int):=by
     rw [wrap_i64 (n:=(64:Int)+i) (by omega) (by omega),wrap_i64 (by omega) (by omega)];omega
   rw [ez,hW,hs0]
   obtain ⟨g0,g1⟩:=mod2_lt ha
   have hmu:((i:Int)-1+1).toNat<((i:Int)+1).toNat:=by omega
   refine ⟨by omega,fun hbit=>⟨⟨a,b,i,rfl,rfl,rfl,by omega,?_,hb,hdv,rfl⟩,hmu⟩,fun hbit=>?_⟩
   · rw [bit64 ha64 (by omega),beq0] at hbit
     exact g0 (of_decide_eq_true hbit)
   · rw [bit64 ha64 (by omega),beq0] at hbit
     have hdeg:=g1 (of_decide_eq_false hbit)
     refine ⟨fun hs=>?_,fun hs=>?_⟩
     · simp only [ge_iff_le,decide_eq_true_eq] at hs
       have hsd:d≤i:=by omega
       have e1:IntKind.wrap .i64 (((64+i-d:Nat):Int)-64)=((i-d:Nat):Int):=by rw [wrap_i64 (by omega) (by omega)];omega
       have hS:=hm.shift (i-d)
       rw [show d+(i-d)=i by omega] at hS
       have hS64:=lt_of_deg hS (by omega)
       rw [e1,shl64 (by omega),Nat.mod_eq_of_lt hS64,x64 ha64 hS64]
       refine ⟨by omega,⟨_,b,i,rfl,rfl,rfl,by omega,hdeg.xor_same hS,hb,?_,rfl⟩,hmu⟩
       have e2:=two_xor64 (a:=a) (c:=m*2^(i-d)) hb (show 0<W64 by decide)
       rw [Nat.xor_zero,Nat.add_zero] at e2
       rw [e2]
       have e3:m*2^(i-d)*W64=m*2^(64+i-d):=by rw [w64,Nat.mul_assoc,←Nat.pow_add];congr 2;omega
       rw [e3,Nat.xor_assoc,Nat.xor_comm (m*2^(64+i-d)),←Nat.xor_assoc]
       exact hdv.xor (mul_pow_dv m _)
     · simp only [ge_iff_le,decide_eq_false_iff_not] at hs
       obtain ⟨s,hse⟩:∃s,64+i-d=s:=⟨_,rfl⟩
       rw [hse] at hs ⊢
       have hs64:s≤64:=by omega
       have e1:IntKind.wrap .i64 ((64:Int)- (s:Int))=((64-s:Nat):Int):=by rw [wrap_i64 (by omega) (by omega)];omega
       have hsh:DegIs (m / 2^(64-s)) i:=by
         have:=hm.shr (k:=64-s) (by omega)
         rwa [show d- (64-s)=i by omega] at this
       have hq64:m / 2^(64-s)<W64:=Nat.lt_of_le_of_lt (Nat.div_le_self _ _) hm64
       have hr64:m*2^s%W64<W64:=Nat.mod_lt _ (by decide)
       rw [e1,shr64 (by omega),shl64 hs64,x64 ha64 hq64,x64 hb hr64]
       refine ⟨by omega,by omega,⟨_,_,i,rfl,rfl,rfl,by omega,hdeg.xor_same hsh,xor64_lt hb hr64,?_,rfl⟩,hmu⟩
       rw [two_xor64 hb hr64,split64 m hs64,Nat.xor_assoc,Nat.xor_comm (m*2^s),←Nat.xor_assoc]
       exact hdv.xor (mul_pow_dv m _)
 · simp only [ge_iff_le,decide_eq_false_iff_not] at h
   have hk0:k=0:=by omega
   subst hk0
   have ha0:a=0:=by simpa using ha
   subst ha0
   rw [Nat.zero_mul,Nat.zero_add] at hdv
   refine ⟨fun y w'=>∃c:Nat,y=(c:Int)∧c<W64∧Dv m (c^^^(hi*W64+lo))∧w'=w2,fun y _=>y.toNat,⟨b,rfl,hb,hdv,rfl⟩,?_⟩
   rintro y w3 ⟨c,rfl,hc,hcd,rfl⟩
   refine (deg_spec c hc w3).mono ?_
   rintro e w4 ⟨rfl,rfl⟩
   refine ⟨_,rfl,fun hge=>?_,fun hlt=>?_⟩
   · simp only [ge_iff_le,decide_eq_true_eq] at hge
     have hc0:c≠0:=by rintro rfl;simp [degZ,lenN] at hge;omega
     have hcl:=degIs_log hc0
     rw [degZ_deg hcl] at hge
     have hl64:=degIs_lt hcl hc
     refine (deg_spec c hc w4).mono ?_
     rintro e w5 ⟨rfl,rfl⟩
     rw [degZ_deg hcl]
     have e1:IntKind.wrap .i64 ((c.log2:Int)- (d:Int))=((c.log2-d:Nat):Int):=by rw [wrap_i64 (by omega) (by omega)];omega
     have hS:=hm.shift (c.log2-d)
     rw [show d+(c.log2-d)=c.log2 by omega] at hS
     have hS64:=lt_of_deg hS hl64
     refine ⟨_,rfl,?_⟩
     rw [e1,shl64 (by omega),Nat.mod_eq_of_lt hS64,x64 hc hS64]
     have hlt:=Nat.lt_of_lt_of_le (hcl.xor_same hS) hcl.1
     refine ⟨by omega,⟨_,rfl,xor64_lt hc hS64,?_,rfl⟩,by simp only [Int.toNat_natCast];exact hlt⟩
     rw [Nat.xor_assoc,Nat.xor_comm (m*2^_),←Nat.xor_assoc]
     exact hcd.xor (mul_pow_dv m _)
   · simp only [ge_iff_le,decide_eq_false_iff_not] at hlt
     refine ⟨c,rfl,⟨?_,by rw [Nat.xor_comm];exact hcd⟩,hc,rfl⟩
     by_cases hc0:c=0
     · subst hc0;exact Nat.two_pow_pos d
     · have hcl:=degIs_log hc0
       rw [degZ_deg hcl] at hlt
       exact Nat.lt_of_lt_of_le hcl.2 (Nat.pow_le_pow_right (by decide) (by omega))

theorem cmul_bits (a b:Nat) (i:Nat):cmul a (b%2^(i+1))=cmul a (b%2^i)^^^(if b / 2^i%2=1 then a*2^i else 0):=by
 have e:b%2^(i+1)=(b%2^i)^^^(if b / 2^i%2=1 then 2^i else 0):=by
   refine Nat.eq_of_testBit_eq fun j=>?_
   rw [Nat.testBit_xor,Nat.testBit_mod_two_pow,Nat.testBit_mod_two_pow]
   have hi:b.testBit i=decide (b / 2^i%2=1):=Nat.testBit_eq_decide_div_mod_eq
   by_cases hj:j=i
   · subst hj
     split<;>simp [hi,Nat.testBit_two_pow_self, *]
   · have:(if b / 2^i%2=1 then 2^i else 0).testBit j=false:=by
       split
       · exact Nat.testBit_two_pow_of_ne (fun h=>hj h.symm)
       · simp
     rw [this,Bool.xor_false]
     by_cases hl:j<i
     · simp [hl,Nat.lt_succ_of_lt hl]
     · have:¬j<i+1:=by omega
       simp [hl,this]
 rw [e,cmul_xor]
 congr 1
 split
 · rw [cmul_pow]
 · simp

theorem mul_spec (a b:Nat) (ha:a<W64) (hb:b<W64) (w:World):
   Calls Tryz.prog 330 #[.int .u64 (a:Int),.int .u64 (b:Int)] w fun e w'=>∃hi lo:Nat,e=.returned (.tuple #[.int .u64 (hi:Int),.int .u64 (lo:Int)])∧hi<W64∧lo<W64∧hi*W64+lo=cmul a b∧w'=w:=by
 apply poly_Mul_vc
 refine ⟨fun x y z w'=>∃(hi lo i:Nat),x=(hi:Int)∧y=(lo:Int)∧z=(i:Int)∧i≤64∧hi<W64∧lo<W64∧hi*W64+lo=cmul a (b%2^i)∧w'=w,fun _ _ z _=>64-z.toNat,⟨0,0,0,rfl,rfl,rfl,by omega,by decide,by decide,by simp [Nat.mod_one],rfl⟩,?_⟩
 rintro x y z w1 ⟨hi,lo,i,rfl,rfl,rfl,hi64,hh,hl,he,rfl⟩
 refine ⟨fun h=>?_,fun h=>?_⟩
 · have hi':i<64:=by simp at h;omega
   have e1:IntKind.wrap .i64 ((64:Int)- (i:Int))=((64-i:Nat):Int):=by rw [wrap_i64 (by omega) (by omega)];omega
   have hq:a / 2^(64-i)<W64:=Nat.lt_of_le_of_lt (Nat.div_le_self _ _) ha
   have hr:a*2^i%W64<W64:=Nat.mod_lt _ (by decide)
   have hb':=cmul_bits a b i
   refine ⟨by omega,fun x y w'=>∃(hi lo:Nat),x=(hi:Int)∧y=(lo:Int)∧hi<W64∧lo<W64∧hi*W64+lo=cmul a (b%2^(i+1))∧w'=w1,⟨fun hbit=>?_,fun hbit=>?_⟩,?_⟩
   · rw [bit64 hb (by omega),beq1] at hbit
     have hbit':b / 2^i%2=1:=of_decide_eq_true hbit
     rw [e1,shr64 (by omega),shl64 (by omega),x64 hh hq,x64 hl hr]
     refine ⟨by omega,by omega,_,_,rfl,rfl,xor64_lt hh hq,xor64_lt hl hr,?_,rfl⟩
     rw [two_xor64 hl hr,split64 a (by omega),he,hb',if_pos hbit']
   · rw [bit64 hb (by omega),beq1] at hbit
     have hbit':¬b / 2^i%2=1:=of_decide_eq_false hbit
     refine ⟨hi,lo,rfl,rfl,hh,hl,?_,rfl⟩
     rw [hb',if_neg hbit',Nat.xor_zero,he]
   · rintro x y w2 ⟨hi2,lo2,rfl,rfl,h1,h2,h3,rfl⟩
     exact ⟨⟨hi2,lo2,i+1,rfl,rfl,wrap_succ hi' (by omega),by omega,h1,h2,h3,rfl⟩,mu_succ hi' (by omega)⟩
 · have hi':i=64:=by simp at h;omega
   subst hi'
   rw [←w64,Nat.mod_eq_of_lt hb] at he
   exact ⟨hi,lo,rfl,hh,hl,he,rfl⟩

theorem mulMod_spec {m d:Nat} (hm:DegIs m d) (hm64:m<W64) (a b:Nat) (ha:a<W64) (hb:b<W64) (w:World):
   Calls Tryz.prog 277 #[.int .u64 (m:Int),.int .u64 (a:Int),.int .u64 (b:Int)] w fun e w'=>∃r:Nat,e=.returned (.int .u64 (r:Int))∧IsMod m d (cmul a b) r∧r<W64∧w'=w:=by
 apply poly_mulMod_vc
 refine (mul_spec a b ha hb w).mono ?_
 rintro e w1 ⟨hi,lo,rfl,h1,h2,h3,rfl⟩
 refine ⟨_,_,rfl,(mod_spec hm hm64 hi lo h1 h2 w1).mono ?_⟩
 rintro e w2 ⟨r,rfl,hr,hr64,rfl⟩
 rw [h3] at hr
 exact ⟨_,rfl,r,rfl,hr,hr64,rfl⟩

def IsGcd (a b g:Nat):Prop:=∀h,Dv h g↔(Dv h a∧Dv h b)
theorem IsGcd.alone {a b g:Nat} (h:IsGcd a b g):g=1↔Alone a b:=by
 constructor
 · rintro rfl x h1 h2
   exact dv_one ((h x).2 ⟨h1,h2⟩)
 · intro ha
   have:=(h g).1 (Dv.self g)
   exact ha g this.1 this.2
theorem isGcd_step {a b r d:Nat} (hr:IsMod b d a r):∀h,(Dv h b∧Dv h r)↔(Dv h a∧Dv h b):=fun h=>by
 constructor
 · rintro ⟨h1,h2⟩
   exact ⟨(h1.trans hr.dv).of_xor h2,h1⟩
 · rintro ⟨h1,h2⟩
   refine ⟨h2,?_⟩
   have:=h2.trans hr.dv
   rw [Nat.xor_comm] at this
   exact this.of_xor h1

end Go.Proofs.YtpmhjnhgpplmnaaGreatDoor
end

section
namespace Go.Proofs.YtpmhjnhgpplmnaaGreatDoor
open Go Sx Gf2
set_option maxRecDepth 8000

theorem u64A (w:World):(isAgg 42).run Tryz.prog w=.ok false w:=Tryz.isAgg42 w
theorem p64A (w:World):(isAgg 3).run Tryz.prog w=.ok false w:=Tryz.isAgg3 w

theorem gcd_spec (p y : Nat) (hp : p < W64) (hy : y < W64) (a : Option Addr) (c : Nat) (w : World) (hr : Rd w a 2 c 1 [.int .u64 (p : Int), .int .u64 (y : Int)]) :
   Calls Tryz.prog 279 #[.slice a 2 c] w fun e w'=>∃g:Nat,e=.returned (.int .u64 (g:Int))∧IsGcd p y g∧g<W64∧w'=w:=by
 apply poly_Gcd_vc
 refine ⟨fun x z w'=>∃(A j:Nat),x=(A:Int)∧z=(j:Int)∧j≤2∧A<W64∧(∀h,Dv h A↔∀v∈ [p,y].take j,Dv h v)∧w'=w,fun _ z _=>2-z.toNat,⟨0,0,rfl,rfl,by omega,by decide,fun h=>by simp [Dv.zero],rfl⟩,?_⟩
 rintro x z w1 ⟨A,j,rfl,rfl,hj,hA,hG,rfl⟩
 refine ⟨fun h=>?_,fun h=>?_⟩
 · have hj' : j < 2 := by simp at h; omega
   obtain ⟨v,hv,hv64⟩:∃v:Nat,[p,y][j]?=some v∧v<W64:=by
     match j,hj' with
     | 0,_=>exact ⟨p,rfl,hp⟩
     | 1,_=>exact ⟨y,rfl,hy⟩
   have hcell:([.int .u64 (p:Int),.int .u64 (y:Int)]:List Value)[j]?=some (.int .u64 (v:Int)):=by
     have: [Value.int .u64 (p:Int),.int .u64 (y:Int)]=[p,y].map fun (n:Nat)=>Value.int .u64 (n:Int):=rfl
     rw [this,List.getElem?_map,hv];rfl
   obtain ⟨b,o,ha,hc⟩:=hr.cells.at_ hcell
   refine ⟨b,o,ha,by omega,by omega,_,by rw [Int.toNat_natCast,Nat.mul_one];exact ld1 (u64A _) hc,fun x z w'=>∃(s t:Nat),x=(s:Int)∧z=(t:Int)∧s<W64∧t<W64∧(∀h,(Dv h s∧Dv h t)↔(Dv h A∧Dv h v))∧w'=w1,fun _ z _=>z.toNat,⟨A,v,rfl,rfl,hA,hv64,fun _=>Iff.rfl,rfl⟩,?_⟩
   rintro x z w2 ⟨s,t,rfl,rfl,hs,ht,hst,rfl⟩
   refine ⟨fun hne=>?_,fun heq=>?_⟩
   · have ht0:t≠0:=by rintro rfl;simp at hne
     refine (mod_spec (degIs_log ht0) ht 0 s (by decide) hs w2).mono ?_
     rintro e w3 ⟨r,rfl,hm,hr64,rfl⟩
     rw [Nat.zero_mul,Nat.zero_add] at hm
     refine ⟨_,rfl,⟨t,r,rfl,rfl,ht,hr64,fun h=>(isGcd_step hm h).trans (hst h),rfl⟩,?_⟩
     have:=Nat.lt_of_lt_of_le hm.lt (degIs_log ht0).1
     simp only [Int.toNat_natCast];exact this
   · have ht0 : t = 0 := by have : ((t : Nat) : Int) = 0 := by simpa using heq
                            omega
     subst ht0
     refine ⟨⟨s,j+1,rfl,wrap_succ hj' (by omega),by omega,hs,fun h=>?_,rfl⟩,mu_succ hj' (by omega)⟩
     have h1:=hst h
     have h2:=hG h
     rw [List.take_add_one,hv]
     simp only [Option.toList_some,List.mem_append,List.mem_singleton,or_imp,forall_and,forall_eq]
     rw [←h2,←h1]
     exact ⟨fun k=>⟨k,Dv.zero h⟩,fun k=>k.1⟩
 · have hj':j=2:=by simp at h;omega
   subst hj'
   refine ⟨A,rfl,fun h=>?_,hA,rfl⟩
   rw [hG h]
   simp

theorem Gf2.IsMod.sq {p n a s r:Nat} (h1:IsMod p n a s) (h2:IsMod p n (cmul s s) r):IsMod p n (cmul a a) r:=⟨h2.lt,by
 have h3:Dv p (cmul (a^^^s) (a^^^s)):=h1.dv.mul _
 rw [sq_xor] at h3
 have:=h3.xor h2.dv
 rwa [xor3] at this⟩
theorem square_spec {p n:Nat} (hp:DegIs p n) (hp64:p<W64) (g k:Nat) (hk:k≤1000) (w:World) (hld:(Instr.loadAt 42 (.pointer (some ⟨g,0,none⟩))).run Tryz.prog w=.ok (.int .u64 (p:Int)) w):
   Calls Tryz.prog 275 #[.int .i64 (k:Int),.pointer (some ⟨g,0,none⟩)] w fun e w'=>∃x:Nat,e=.returned (.int .u64 (x:Int))∧x<W64∧IsMod p n (sqs 2 k) x∧w'=w:=by
 apply poly_Irreducible_1_vc
 refine ⟨_,hld,(mod_spec hp hp64 0 2 (by decide) (by decide) w).mono ?_⟩
 rintro e w1 ⟨r,rfl,hr,hr64,rfl⟩
 rw [Nat.zero_mul,Nat.zero_add] at hr
 refine ⟨_,rfl,fun x z w'=>∃(s i:Nat),x=(s:Int)∧z=(i:Int)∧i≤k∧s<W64∧IsMod p n (sqs 2 i) s∧w'=w1,fun _ z _=>k-z.toNat,⟨r,0,rfl,rfl,by omega,hr64,hr,rfl⟩,?_⟩
 rintro x z w2 ⟨s,i,rfl,rfl,hi,hs,hm,rfl⟩
 refine ⟨fun h=>?_,fun h=>?_⟩
 · have hi':i<k:=by simp at h;omega
   refine ⟨_,hld,(mulMod_spec hp hp64 s s hs hs w2).mono ?_⟩
   rintro e w3 ⟨r2,rfl,hr2,hr264,rfl⟩
   exact ⟨_,rfl,⟨r2,i+1,rfl,wrap_succ hi' (by omega),by omega,hr264,hm.sq hr2,rfl⟩,mu_succ hi' (by omega)⟩
 · have hi':i=k:=by simp at h;omega
   subst hi'
   exact ⟨s,rfl,hs,hm,rfl⟩

theorem alone_congr {p a b:Nat} (h:Dv p (a^^^b)):Alone p a↔Alone p b:=by
 have key:∀a b,Dv p (a^^^b)→Alone p a→Alone p b:=fun a b h ha x hx hb=>by
   refine ha x hx ?_
   exact (hx.trans h).of_xor hb
 exact ⟨key a b h,key b a (by rw [Nat.xor_comm];exact h)⟩
theorem eq_of_mod {p n a b x y:Nat} (hp:DegIs p n) (hx:IsMod p n a x) (hy:IsMod p n b y):x=y↔Dv p (a^^^b):=by
 constructor
 · rintro rfl
   have:=hx.dv.xor hy.dv
   rw [Nat.xor_comm b x,xor3] at this
   exact this
 · intro h
   refine IsMod.uniq hp (a:=b) ⟨hx.lt,?_⟩ hy
   have:=h.xor hx.dv
   rw [Nat.xor_comm a b,xor3] at this
   exact this

theorem uT:ElemT Tryz.prog 29 3 1 8 (.int .i64 0):=⟨by kernel_rfl,⟨Tryz.t3,by kernel_rfl,by kernel_rfl,by kernel_rfl,by kernel_rfl⟩,rfl,by decide⟩
def nis (l:List Nat):List Value:=l.map fun (q:Nat)=>.int .i64 (q:Int)
theorem prime_step {m p g:Nat} (hb:∀q,2≤q→q<p→¬q ∣ m) (hpm:p ∣ m) (hp:2≤p) {m3:Nat} (hg:1<g) (h:g ∣ p*m3):p ∣ g∨g ∣ m3:=by
 by_cases hpg:p ∣ g
 · exact .inl hpg
 · right
   have h1:Nat.gcd g p=1:=by
     have hd:=Nat.gcd_dvd_right g p
     have hl:=Nat.le_of_dvd (by omega) hd
     have h0:Nat.gcd g p≠0:=fun h0=>by rw [h0] at hd;have:=Nat.eq_zero_of_zero_dvd hd;omega
     rcases Nat.lt_or_ge (Nat.gcd g p) p with h2 | h2
     · rcases Nat.lt_or_ge (Nat.gcd g p) 2 with h3 | h3
       · omega
       · exact absurd (Nat.dvd_trans hd hpm) (hb _ h3 h2)
     · have:Nat.gcd g p=p:=by omega
       exact absurd (by have:=Nat.gcd_dvd_left g p;rwa [‹Nat.gcd g p=p›] at this) hpg
   exact Nat.Coprime.dvd_of_dvd_mul_left h1 h

set_option maxHeartbeats 1000000 in
theorem primes_spec (n : Nat) (h1 : 1 ≤ n) (hn : n ≤ 1000) (w : World) :
   Calls Tryz.prog 278 #[.int .i64 (n:Int)] w fun e w'=>∃(a:Option Addr) (c:Nat) (Q:List Nat),e=.returned (.slice a Q.length c)∧(∀q∈Q,2≤q∧q ∣ n)∧(∀e,1<e→e ∣ n→∃q∈Q,q ∣ e)∧Q.length≤2000∧St w [] w' [.row 3 1 (.slice a Q.length c) Q.length (nis Q)]:=by
 apply poly_primes_vc
 refine ⟨fun x ra rn rc z w'=>∃(m p:Nat) (Q:List Nat),x=(m:Int)∧z=(p:Int)∧rn=Q.length∧1≤m∧m ∣ n∧2≤p∧Q.length≤p∧p≤n+2∧(∀q,2≤q→q<p→¬q ∣ m)∧(∀q∈Q,2≤q∧q ∣ n)∧(∀e,1<e→e ∣ n→(∃q∈Q,q ∣ e)∨∃g,1<g∧g ∣ e∧g ∣ m)∧St w [] w' [.row 3 1 (.slice ra rn rc) rn (nis Q)],fun _ _ _ _ z _=>n+2-z.toNat,
   ⟨n,2,[],rfl,rfl,rfl,h1,Nat.dvd_refl n,by omega,by simp,by omega,fun q h2 h3=>by omega,by simp,fun e h2 h3=>.inr ⟨e,h2,Nat.dvd_refl e,h3⟩,(St.start w).addNil 3 1⟩,?_⟩
 rintro x ra rn rc z w1 ⟨m,p,Q,rfl,rfl,rfl,hm1,hmn,hp2,hQp,hpn,hb,hQ,hE,hS⟩
 have hml:m≤n:=Nat.le_of_dvd h1 hmn
 refine ⟨fun hgt=>?_,fun hle=>?_⟩
 · have hm2 : 1 < m := by simp at hgt; omega
   have hpm:p≤m:=Nat.le_of_not_lt fun hl=>hb m hm2 hl (Nat.dvd_refl m)
   have hW:IntKind.wrap .i64 ((p:Int)+1)=((p+1:Nat):Int):=by rw [wrap_i64 (by omega) (by omega)];rfl
   have hmod:∀x:Nat,Int.tmod (x:Int) (p:Int)=((x%p:Nat):Int):=fun x=>by rw [Int.tmod_eq_emod_of_nonneg (by omega)];rfl
   have hdiv:∀x:Nat,Int.tdiv (x:Int) (p:Int)=((x / p:Nat):Int):=fun x=>by rw [Int.tdiv_eq_ediv_of_nonneg (by omega)];rfl
   refine ⟨by omega,fun hne=>?_,fun heq=>?_⟩
   · rw [hmod] at hne
     rw [hW]
     have hnd:¬p ∣ m:=fun hd=>by rw [Nat.mod_eq_zero_of_dvd hd] at hne;simp at hne
     refine ⟨⟨m,p+1,Q,rfl,rfl,rfl,hm1,hmn,by omega,by omega,by omega,fun q h2 h3=>?_,hQ,hE,hS⟩,by simp only [Int.toNat_natCast];omega⟩
     by_cases hq:q=p
     · subst hq;exact hnd
     · exact hb q h2 (by omega)
   · rw [hmod] at heq
     have hd : p ∣ m := Nat.dvd_of_mod_eq_zero (by have : ((m % p : Nat) : Int) = 0 := by simpa using heq
                                                   omega)
     obtain ⟨g,w2,va,vc,w3,r2,r3,h3,_,_⟩:=hS.pushV (i:=0) (ty:=29) uT rfl (.int .i64 (p:Int)) rfl (by omega) (by simp only [maxLen];omega)
     have e1:nis Q++ [Value.int .i64 (p:Int)]=nis (Q++ [p]):=by simp [nis]
     rw [e1] at h3
     have h3:St w [] w3 [.row 3 1 (.slice va (Q.length+1) vc) (Q.length+1) (nis (Q++ [p]))]:=h3
     refine ⟨_,_,_,w2,r2,_,_,_,w3,r3,fun x w'=>∃m2:Nat,x=(m2:Int)∧1≤m2∧m2 ∣ m∧(∀e,1<e→e ∣ n→(∃q∈Q++ [p],q ∣ e)∨∃g,1<g∧g ∣ e∧g ∣ m2)∧w'=w3,fun x _=>x.toNat,⟨m,rfl,hm1,Nat.dvd_refl m,fun e h4 h5=>?_,rfl⟩,?_⟩
     · rcases hE e h4 h5 with ⟨q,hq,k⟩ | k
       · exact .inl ⟨q,List.mem_append_left _ hq,k⟩
       · exact .inr k
     rintro x w4 ⟨m2,rfl,hm21,hm2m,hE2,rfl⟩
     have hm2n:m2≤n:=Nat.le_trans (Nat.le_of_dvd (by omega) hm2m) hml
     refine ⟨by omega,fun hz=>?_,fun hnz=>?_⟩
     · rw [hmod] at hz
       have hd2 : p ∣ m2 := Nat.dvd_of_mod_eq_zero (by have : ((m2 % p : Nat) : Int) = 0 := by simpa using hz
                                                       omega)
       obtain ⟨m3,rfl⟩:=hd2
       have hdv:p*m3 / p=m3:=Nat.mul_div_cancel_left _ (by omega)
       have hm3:1≤m3:=Nat.pos_of_ne_zero fun h0=>by subst h0;simp at hm21
       have hlt:m3<p*m3:=by
         have:=Nat.mul_le_mul_right m3 hp2
         omega
       rw [hdiv,hdv,wrap_i64 (by omega) (by omega)]
       refine ⟨by omega,⟨m3,rfl,hm3,Nat.dvd_trans (Nat.dvd_mul_left m3 p) hm2m,fun e h4 h5=>?_,rfl⟩,by simp only [Int.toNat_natCast];omega⟩
       rcases hE2 e h4 h5 with k | ⟨g,hg,hge,hgm⟩
       · exact .inl k
       · rcases prime_step hb hd hp2 hg hgm with k | k
         · exact .inl ⟨p,by simp,Nat.dvd_trans k hge⟩
         · exact .inr ⟨g,hg,hge,k⟩
     · rw [hmod] at hnz
       rw [hW]
       have hnd:¬p ∣ m2:=fun hd=>by rw [Nat.mod_eq_zero_of_dvd hd] at hnz;simp at hnz
       refine ⟨⟨m2,p+1,Q++ [p],rfl,rfl,by simp,hm21,Nat.dvd_trans hm2m hmn,by omega,by simp;omega,by omega,fun q h4 h5=>?_,fun q hq=>?_,hE2,by simpa using h3⟩,by simp only [Int.toNat_natCast];omega⟩
       · by_cases hq:q=p
         · subst hq;exact hnd
         · exact fun hd=>hb q h4 (by omega) (Nat.dvd_trans hd hm2m)
       · rcases List.mem_append.1 hq with hq | hq
         · exact hQ q hq
         · simp only [List.mem_singleton] at hq;subst hq;exact ⟨hp2,Nat.dvd_trans hd hmn⟩
 · have hm2:m=1:=by simp at hle;omega
   subst hm2
   refine ⟨ra,rc,Q,rfl,hQ,fun e h2 h3=>?_,by omega,hS⟩
   rcases hE e h2 h3 with k | ⟨g,hg,_,hg1⟩
   · exact k
   · have:=Nat.le_of_dvd (by omega) hg1;omega

end Go.Proofs.YtpmhjnhgpplmnaaGreatDoor
end

section
namespace Go.Proofs.YtpmhjnhgpplmnaaGreatDoor
open Go Sx Gf2
set_option maxRecDepth 8000

theorem u64T:ElemT Tryz.prog 433 42 1 8 (.int .u64 0):=⟨by kernel_rfl,⟨Tryz.t42,by kernel_rfl,by kernel_rfl,by kernel_rfl,by kernel_rfl⟩,rfl,by decide⟩

theorem rabin_of {p n:Nat} (hp:DegIs p n) (hn:1≤n) {Q:List Nat} (hQ:∀q∈Q,2≤q∧q ∣ n) (hE:∀e,1<e→e ∣ n→∃q∈Q,q ∣ e):
   ((∀q∈Q,Alone p (sqs 2 (n / q)^^^2))∧Dv p (sqs 2 n^^^2))↔Irr p:=by
 refine rabin hp hn Q (fun q hq=>?_) (fun d h1 h2 h3=>?_)
 · obtain ⟨h2,hd⟩:=hQ q hq
   exact ⟨Nat.div_pos (Nat.le_of_dvd hn hd) (by omega),Nat.div_lt_self hn h2⟩
 · obtain ⟨k,hk⟩:=h3
   have hk1:1<k:=by
     rcases Nat.lt_or_ge 1 k with h | h
     · exact h
     · have:d*k≤d*1:=Nat.mul_le_mul_left d h
       omega
   obtain ⟨q,hq,j,hj⟩:=hE k hk1 ⟨d,by rw [Nat.mul_comm];exact hk⟩
   refine ⟨q,hq,j,?_⟩
   have hq2:=(hQ q hq).1
   rw [hk,hj,show d*(q*j)=q*(d*j) from Nat.mul_left_comm _ _ _]
   exact Nat.mul_div_cancel_left _ (by omega)

set_option maxHeartbeats 2000000 in
theorem irr_spec {p n:Nat} (hp:DegIs p n) (hn:1≤n) (hp64:p<W64) (w:World):
   Calls Tryz.prog 206 #[.int .u64 (p:Int)] w fun e w'=>∃b:Bool,e=.returned (.bool b)∧(b=true↔Irr p)∧Chg [] w w':=by
 have hn64:=degIs_lt hp hp64
 apply poly_Irreducible_vc
 obtain ⟨g,w1,r1,k1⟩:=(St.start w).box (P:=Tryz.prog) 42 (.int .u64 (p:Int))
 have k1:St w [] w1 [.arr g 42 [.int .u64 (p:Int)]]:=k1
 have ldP:∀ {w' L},St w [] w' (.arr g 42 [.int .u64 (p:Int)]::L)→(Instr.loadAt 42 (.pointer (some ⟨g,0,none⟩))).run Tryz.prog w'=.ok (.int .u64 (p:Int)) w':=fun h=>h.ldL (i:=0) (o:=0) rfl (u64A _) rfl rfl
 refine ⟨g,w1,r1,_,ldP k1,(deg_spec p hp64 w1).mono ?_⟩
 rintro e w2 ⟨he,rfl⟩
 rw [degZ_deg hp] at he
 refine ⟨_,he,fun h=>?_,fun _=>⟨.func (.func 275) #[] #[.pointer (some ⟨g,0,none⟩)],w2,by simp [Instr.makeFunc],(primes_spec n hn (by omega) w2).mono ?_⟩⟩
 · simp at h;omega
 rintro e w4 ⟨a,c,Q,rfl,hQ,hE,hQl,k4⟩
 have R:=rabin_of hp hn hQ hE
 have k5:=Sx.St.callPart (N:=[]) (by rw [List.append_nil];exact k1) k4
 have k5:St w [] w4 [.arr g 42 [.int .u64 (p:Int)],.row 3 1 (.slice a Q.length c) Q.length (nis Q)]:=k5
 let S:World→Prop:=fun w'=>St w [] w' [.arr g 42 [.int .u64 (p:Int)],.row 3 1 (.slice a Q.length c) Q.length (nis Q)]
 refine ⟨_,_,_,rfl,fun x w'=>∃i:Nat,x=(i:Int)∧i≤Q.length∧(∀q∈Q.take i,Alone p (sqs 2 (n / q)^^^2))∧S w',fun x _=>Q.length-x.toNat,⟨0,rfl,by omega,by simp,k5⟩,?_⟩
 rintro x w5 ⟨i,rfl,hi,hA,hS⟩
 have hSd:S w5.drew:=Sx.St.drew hS
 refine ⟨fun h=>?_,fun h=>?_⟩
 · have hi' : i < Q.length := by simp at h; omega
   obtain ⟨q,hq⟩:∃q,Q[i]?=some q:=⟨_,List.getElem?_eq_getElem hi'⟩
   have hqm:=List.mem_of_getElem? hq
   obtain ⟨hq2,hqn⟩:=hQ q hqm
   have hcell:(nis Q)[i]?=some (.int .i64 (q:Int)):=by rw [nis,List.getElem?_map,hq];rfl
   have hr:Rd w5 a Q.length c 1 (nis Q):=Sx.St.rd hS (i:=1) rfl
   obtain ⟨b,o,ha,hc⟩:=hr.cells.at_ hcell
   have e1:IntKind.wrap .i64 (Int.tdiv (n:Int) (q:Int))=((n / q:Nat):Int):=by
     rw [Int.tdiv_eq_ediv_of_nonneg (by omega)]
     have:n / q≤n:=Nat.div_le_self n q
     rw [show (n:Int) / (q:Int)=((n / q:Nat):Int) from rfl,wrap_i64_nat _ (Nat.lt_of_le_of_lt this (by omega))]
   have hle:n / q≤n:=Nat.div_le_self n q
   refine ⟨b,o,ha,by omega,by omega,_,by rw [Int.toNat_natCast,Nat.mul_one];exact ld1 (p64A _) hc,S,hSd,by omega,_,fun w' hw=>ldP hw,_,fun w' hw=>ldP hw,275,[.pointer (some ⟨g,0,none⟩)],rfl,by kernel_rfl,?_⟩
   rw [e1]
   refine (square_spec hp hp64 g (n / q) (by omega) w5.drew (ldP hSd)).mono ?_
   rintro e w6 ⟨x,rfl,hx64,hx,rfl⟩
   refine ⟨_,rfl,S,fun _ h=>h,hSd,(mod_spec hp hp64 0 2 (by decide) (by decide) _).mono ?_⟩
   rintro e w7 ⟨y,rfl,hy,hy64,rfl⟩
   rw [Nat.zero_mul,Nat.zero_add] at hy
   have hxy:=xor64_lt hx64 hy64
   obtain ⟨ga,w8,r8,k8⟩:=(St.start w5.drew).lit u64T [.int .u64 (p:Int),.int .u64 ((x^^^y:Nat):Int)] (by simp [Value.oneCell']) (by simp)
   have hS8:S w8:=Sx.St.same hSd k8.chg
   refine ⟨_,rfl,S,fun _ h=>h,hSd,_,_,_,w8,by rw [x64 hx64 hy64];exact r8,S,fun _ h=>h,hS8,(gcd_spec p (x^^^y) hp64 hxy _ _ w8 (k8.rd (i:=0) rfl)).mono ?_⟩
   rintro e w9 ⟨gg,rfl,hg,_,rfl⟩
   have hAl:Alone p (x^^^y)↔Alone p (sqs 2 (n / q)^^^2):=alone_congr (by
     rw [xor4]
     have h1:=hx.dv
     have h2:=hy.dv
     rw [Nat.xor_comm] at h1 h2
     exact h1.xor h2)
   refine ⟨_,rfl,S,fun _ h=>h,hS8,fun hne=>?_,fun heq=>?_⟩
   · refine ⟨false,rfl,⟨fun h=>(by cases h),fun hI=>?_⟩,Sx.St.chg hS8⟩
     have h1:=(R.2 hI).1 q hqm
     have h2:=hg.alone.2 (hAl.2 h1)
     subst h2
     simp at hne
   · have hg1 : gg = 1 := by have : ((gg : Nat) : Int) = 1 := by simpa using heq
                             omega
     refine ⟨⟨i+1,wrap_succ hi' (by omega),by omega,fun q' hq'=>?_,hS8⟩,mu_succ hi' (by omega)⟩
     rw [List.take_add_one,hq] at hq'
     rcases List.mem_append.1 hq' with h1 | h1
     · exact hA q' h1
     · simp only [Option.toList_some,List.mem_singleton] at h1
       subst h1
       exact hAl.1 (hg.alone.1 hg1)
 · have hi':i=Q.length:=by simp at h;omega
   rw [hi',List.take_length] at hA
   refine ⟨S,hSd,_,fun w' hw=>ldP hw,275,[.pointer (some ⟨g,0,none⟩)],rfl,by kernel_rfl,(square_spec hp hp64 g n (by omega) w5.drew (ldP hSd)).mono ?_⟩
   rintro e w6 ⟨x,rfl,hx64,hx,rfl⟩
   refine ⟨_,rfl,S,fun _ h=>h,hSd,(mod_spec hp hp64 0 2 (by decide) (by decide) _).mono ?_⟩
   rintro e w7 ⟨y,rfl,hy,hy64,rfl⟩
   rw [Nat.zero_mul,Nat.zero_add] at hy
   refine ⟨_,rfl,S,fun _ h=>h,hSd,_,rfl,?_,Sx.St.chg hSd⟩
   have hb:(((x:Nat):Int)==((y:Nat):Int))=true↔x=y:=by simp;omega
   rw [hb,eq_of_mod hp hx hy,←R]
   exact ⟨fun h=>⟨hA,h⟩,fun h=>h.2⟩

structure SetD where
 poly:Nat
 win:Int
 min:Int
 max:Int
 bits:Int
def setC (s:SetD):List Value:=[.int .u64 (s.poly:Int),.int .i64 s.win,.int .i64 s.min,.int .i64 s.max,.int .i64 s.bits]
noncomputable def irrB (p:Nat):Bool:= @decide (Irr p) (Classical.propDecidable _)
theorem irrB_iff (p:Nat):irrB p=true↔Irr p:=by unfold irrB;exact @decide_eq_true_iff _ (Classical.propDecidable _)
noncomputable def gd1 (s:SetD):Bool:=(decide (8≤degZ s.poly)&&decide (degZ s.poly≤55))&&irrB s.poly
def gd2 (s:SetD):Bool:=decide (1≤s.win)&&decide (s.win≤64)
def gd3 (s:SetD):Bool:=decide (s.win≤s.min)&&(decide (s.min≤s.max)&&decide (s.max≤65536))
def gd4 (s:SetD):Bool:=decide (0≤s.bits)&&(decide (s.bits≤degZ s.poly)&&decide (s.bits≤20))
noncomputable def goodSet (s:SetD):Bool:=gd1 s&&(gd2 s&&(gd3 s&&gd4 s))

theorem deg_of {p:Nat} (hp:p<W64) (h8:8≤degZ p):∃n,DegIs p n∧1≤n∧degZ p=n:=by
 have h0:p≠0:=by rintro rfl;simp [degZ,lenN] at h8
 have hd:=degIs_log h0
 have he:=degZ_deg hd
 exact ⟨p.log2,hd,by omega,he⟩
theorem irrV {p:Nat} (hp:p<W64) (h8:8≤degZ p) (w:World):Calls Tryz.prog 206 #[.int .u64 (p:Int)] w fun e w'=>e=.returned (.bool (irrB p))∧Chg [] w w':=by
 obtain ⟨n,hd,hn,_⟩:=deg_of hp h8
 refine (irr_spec hd hn hp w).mono ?_
 rintro e w1 ⟨b,rfl,hb,c1⟩
 refine ⟨?_,c1⟩
 have:b=irrB p:=by rw [Bool.eq_iff_iff,hb,irrB_iff]
 rw [this]

set_option maxHeartbeats 1000000 in
theorem rabinCheck_spec (s:SetD) (hp:s.poly<W64) (w:World):Calls Tryz.prog 105 #[.agg (setC s).toArray] w fun e w'=>e=.returned (errV (if goodSet s then none else some 11))∧Chg [] w w':=by
 apply rabin_Check_vc
 obtain ⟨g,w1,r1,k1⟩:=(St.start w).boxA (P:=Tryz.prog) 44 (setC s)
 let K:World→Prop:=fun w'=>St w [] w' [.arr g 44 (setC s)]
 have k1:K w1:=k1
 have ldU:∀ {w'},K w'→(Instr.loadAt 42 (.pointer (some ⟨g,0,none⟩))).run Tryz.prog w'=.ok (.int .u64 (s.poly:Int)) w':=fun h=>Sx.St.ldL h (i:=0) (o:=0) rfl (u64A _) rfl rfl
 have ldI:∀ {w'} (o:Nat) (z:Int),(setC s)[o]?=some (.int .i64 z)→K w'→(Instr.loadAt 3 (.pointer (some ⟨g,o,none⟩))).run Tryz.prog w'=.ok (.int .i64 z) w':=fun o z hz h=>by
   have:=Sx.St.ldL h (i:=0) (o:=o) rfl (p64A _) rfl hz
   exact this
 let B:World→Prop:=fun w'=>goodSet s=false∧K w'
 refine ⟨g,w1,r1,_,ldU k1,(deg_spec s.poly hp w1).mono ?_⟩
 rintro e w2 ⟨rfl,rfl⟩
 refine ⟨_,rfl,fun b w'=>b= !gd1 s∧K w',⟨fun h=>?_,fun h=>?_⟩,?_⟩
 · refine ⟨?_,k1⟩
   simp only [Bool.or_eq_true,decide_eq_true_eq] at h
   have:gd1 s=false:=by
     unfold gd1
     rcases h with h | h
     · rw [decide_eq_false (by omega:¬8≤degZ s.poly)];rfl
     · rw [decide_eq_false (by omega:¬degZ s.poly≤55)];simp
   rw [this];rfl
 · simp only [Bool.or_eq_false_iff,decide_eq_false_iff_not] at h
   refine ⟨_,ldU k1,(irrV hp (by omega) w2).mono ?_⟩
   rintro e w3 ⟨rfl,c3⟩
   refine ⟨_,rfl,?_,Sx.St.same k1 c3⟩
   rw [gd1,decide_eq_true (by omega:8≤degZ s.poly),decide_eq_true (by omega:degZ s.poly≤55)]
   rfl
 rintro b w4 ⟨rfl,k4⟩
 refine ⟨B,⟨fun h=>⟨?_,k4⟩,fun h1=>⟨fun b w'=>b= !gd2 s∧K w',⟨_,ldI 1 _ rfl k4,fun h=>⟨?_,k4⟩,fun h=>⟨_,ldI 1 _ rfl k4,?_,k4⟩⟩,?_⟩⟩,?_⟩
 · simp only [goodSet,Bool.not_eq_true'] at h ⊢;rw [h];rfl
 · simp only [decide_eq_true_eq] at h
   rw [gd2,decide_eq_false (by omega:¬1≤s.win)];rfl
 · simp only [decide_eq_false_iff_not] at h
   rw [gd2,decide_eq_true (by omega:1≤s.win),Bool.true_and,←decide_not]
   exact decide_eq_decide.2 (by omega)
 · rintro b w5 ⟨rfl,k5⟩
   refine ⟨B,⟨fun h=>⟨?_,k5⟩,fun h2=>⟨fun b w'=>b= !gd3 s∧K w',⟨_,ldI 2 _ rfl k5,_,ldI 1 _ rfl k5,fun h=>⟨?_,k5⟩,fun h=>⟨_,ldI 3 _ rfl k5,_,ldI 2 _ rfl k5,fun h'=>⟨?_,k5⟩,fun h'=>⟨_,ldI 3 _ rfl k5,?_,k5⟩⟩⟩,?_⟩⟩,?_⟩
   · simp only [goodSet,Bool.not_eq_true'] at h ⊢;rw [h];simp
   · simp only [decide_eq_true_eq] at h
     rw [gd3,decide_eq_false (by omega:¬s.win≤s.min)];rfl
   · simp only [decide_eq_true_eq] at h'
     rw [gd3,decide_eq_false (by omega:¬s.min≤s.max)];simp
   · simp only [decide_eq_false_iff_not] at h h'
     rw [gd3,decide_eq_true (by omega:s.win≤s.min),decide_eq_true (by omega:s.min≤s.max),Bool.true_and,Bool.true_and,←decide_not]
     exact decide_eq_decide.2 (by omega)
   · rintro b w6 ⟨rfl,k6⟩
     refine ⟨B,⟨fun h=>⟨?_,k6⟩,fun h3=>⟨fun b w'=>b= !gd4 s∧K w',⟨_,ldI 4 _ rfl k6,fun h=>⟨?_,k6⟩,fun h=>⟨_,ldI 4 _ rfl k6,fun h'=>⟨?_,k6⟩,fun h'=>⟨_,ldI 4 _ rfl k6,?_,k6⟩⟩⟩,?_⟩⟩,?_⟩
     · simp only [goodSet,Bool.not_eq_true'] at h ⊢;rw [h];simp
     · simp only [decide_eq_true_eq] at h
       rw [gd4,decide_eq_false (by omega:¬0≤s.bits)];rfl
     · simp only [decide_eq_true_eq] at h'
       rw [gd4,decide_eq_false (by omega:¬s.bits≤degZ s.poly)];simp
     · simp only [decide_eq_false_iff_not] at h h'
       rw [gd4,decide_eq_true (by omega:0≤s.bits),decide_eq_true (by omega:s.bits≤degZ s.poly),Bool.true_and,Bool.true_and,←decide_not]
       exact decide_eq_decide.2 (by omega)
     · rintro b w7 ⟨rfl,k7⟩
       refine ⟨fun h=>⟨?_,k7⟩,fun h4=>⟨?_,k7.chg⟩⟩
       · simp only [goodSet,Bool.not_eq_true'] at h ⊢;rw [h];simp
       · simp only [Bool.not_eq_false'] at h1 h2 h3 h4
         rw [goodSet,h1,h2,h3,h4];rfl
     · rintro w8 h8;exact h8
   · rintro w9 h9;exact h9
 · rintro w10 ⟨h10,k10⟩
   rw [h10]
   exact ⟨rfl,k10.chg⟩

end Go.Proofs.YtpmhjnhgpplmnaaGreatDoor
end

section
namespace Go.Proofs.YtpmhjnhgpplmnaaGreatDoor
open Go Sx Gf2
set_option maxRecDepth 8000

theorem lenN_half {q:Nat} (h:q≠0):lenN q=lenN (q / 2)+1:=by
 by_cases h1:q=1
 · subst h1;decide
 · have:=lenN_shift (x:=q) (k:=1) (by omega)
   rw [this,Nat.pow_one];omega
theorem lenN_le {p:Nat} (hp:p<W64):lenN p≤64:=by
 unfold lenN
 split
 · omega
 · rename_i h0
   have:=degIs_lt (degIs_log h0) hp
   omega
theorem rdeg_spec (p : Nat) (hp : p < W64) (w : World) : Calls Tryz.prog 147 #[.int .u64 (p : Int)] w fun e w' => e = .returned (.int .i64 (degZ p)) ∧ w' = w := by
 have hl:=lenN_le hp
 apply amphoraref06_Deg_vc
 refine ⟨fun x y w'=>∃q:Nat,x=(q:Int)∧q<W64∧lenN q≤lenN p∧y=((lenN p:Nat):Int)- ((lenN q:Nat):Int)-1∧w'=w,fun x _ _=>x.toNat,⟨p,rfl,hp,Nat.le_refl _,by omega,rfl⟩,?_⟩
 rintro x y w1 ⟨q,rfl,hq,hle,rfl,rfl⟩
 refine ⟨fun h=>?_,fun h=>?_⟩
 · have h0:q≠0:=by rintro rfl;simp at h
   have hh:=lenN_half h0
   have e1:=shr64 (x:=q) (n:=1) (by decide)
   rw [Nat.pow_one] at e1
   have e1:shrI .u64 (q:Int) 1=((q / 2:Nat):Int):=e1
   rw [e1]
   refine ⟨⟨q / 2,rfl,Nat.lt_of_le_of_lt (Nat.div_le_self _ _) hq,by omega,?_,rfl⟩,by simp only [Int.toNat_natCast];omega⟩
   rw [wrap_i64 (by omega) (by omega)];omega
 · have h0 : q = 0 := by have : ((q : Nat) : Int) = 0 := by simpa using h
                         omega
   subst h0
   refine ⟨?_,rfl⟩
   simp [degZ,lenN]

theorem or_add2 {x y:Nat} (hx:x%2=0) (hy:y<2):x||| y=x+y:=by
 have:=Nat.shiftLeft_add_eq_or_of_lt (a:=x / 2) (b:=y) (i:=1) (by omega)
 rw [Nat.shiftLeft_eq,Nat.pow_one,show x / 2*2=x by omega] at this
 exact this.symm
theorem pair_shift {hi lo:Nat} (hh:hi<W64) (hl:lo<W64):bor .u64 (shlI .u64 (hi:Int) 1) (shrI .u64 (lo:Int) 63)=((2*(hi*W64+lo)%2^128 / W64:Nat):Int)∧shlI .u64 (lo:Int) 1=((2*(hi*W64+lo)%2^128%W64:Nat):Int):=by
 have e1:shlI .u64 (hi:Int) 1=((hi*2%18446744073709551616:Nat):Int):=shl64 (x:=hi) (n:=1) (by decide)
 have e2:shrI .u64 (lo:Int) 63=((lo / 9223372036854775808:Nat):Int):=shr64 (x:=lo) (n:=63) (by decide)
 have e3:shlI .u64 (lo:Int) 1=((lo*2%18446744073709551616:Nat):Int):=shl64 (x:=lo) (n:=1) (by decide)
 have hh:hi<18446744073709551616:=hh
 have hl:lo<18446744073709551616:=hl
 have h1:hi*2%18446744073709551616<W64:=Nat.mod_lt _ (by decide)
 have h2:lo / 9223372036854775808<W64:=Nat.lt_of_le_of_lt (Nat.div_le_self _ _) hl
 rw [e1,e2,e3,or64 h1 h2,or_add2 (by omega) (by omega)]
 show ((_:Nat):Int)=((2*(hi*18446744073709551616+lo)%340282366920938463463374607431768211456 / 18446744073709551616:Nat):Int)∧((_:Nat):Int)=((2*(hi*18446744073709551616+lo)%340282366920938463463374607431768211456%18446744073709551616:Nat):Int)
 constructor<;>congr 1<;>omega

theorem cmul_lt {a b s t:Nat} (ha:a<2^s) (hb:b<2^t):cmul a b<2^(s+t):=by
 by_cases ha0:a=0
 · subst ha0;simp;exact Nat.two_pow_pos _
 by_cases hb0:b=0
 · subst hb0;simp;exact Nat.two_pow_pos _
 have h1:=DegIs.cmul (degIs_log ha0) _ _ (degIs_log hb0)
 have h2:a.log2<s:=Nat.lt_of_not_le fun h=>by
   have:=Nat.pow_le_pow_right (show 0<2 by decide) h
   have:=(degIs_log ha0).1
   omega
 have h3:b.log2<t:=Nat.lt_of_not_le fun h=>by
   have:=Nat.pow_le_pow_right (show 0<2 by decide) h
   have:=(degIs_log hb0).1
   omega
 exact Nat.lt_of_lt_of_le h1.2 (Nat.pow_le_pow_right (by decide) (by omega))
theorem top_bits (b:Nat) {N i:Nat} (hi:i<N):b / 2^(N-i)=b / 2^(N- (i+1)) / 2∧b*2^i%2^N / 2^(N-1)=b / 2^(N- (i+1))%2:=by
 constructor
 · rw [Nat.div_div_eq_div_mul,←Nat.pow_succ,show (N- (i+1)).succ=N-i by omega]
 · have h1:(2:Nat)^N=2^(N-1)*2:=by rw [←Nat.pow_succ,show (N-1).succ=N by omega]
   have h2:b*2^i / 2^(N-1)=b / 2^(N- (i+1)):=by
     rw [show (2:Nat)^(N-1)=2^(N- (i+1))*2^i by rw [←Nat.pow_add];congr 1;omega]
     exact Nat.mul_div_mul_right _ _ (Nat.two_pow_pos i)
   rw [h1,Nat.mod_mul_right_div_self,h2]
theorem shift_mod (b i:Nat):b*2^i%W64*2%W64=b*2^(i+1)%W64:=by
 rw [Nat.pow_succ,←Nat.mul_assoc]
 generalize b*2^i=x
 show x%18446744073709551616*2%18446744073709551616=x*2%18446744073709551616
 omega
theorem shift_mod2 (b i:Nat):2*(b*2^i%2^128)%2^128=b*2^(i+1)%2^128:=by
 rw [Nat.pow_succ 2 i,←Nat.mul_assoc]
 generalize b*2^i=x
 omega

set_option maxHeartbeats 1000000 in
theorem rmul_spec (a b:Nat) (ha:a<W64) (hb:b<W64) (w:World):
   Calls Tryz.prog 230 #[.int .u64 (a:Int),.int .u64 (b:Int)] w fun e w'=>∃hi lo:Nat,e=.returned (.tuple #[.int .u64 (hi:Int),.int .u64 (lo:Int)])∧hi<W64∧lo<W64∧hi*W64+lo=cmul a b∧w'=w:=by
 apply amphoraref06_Mul_vc
 refine ⟨fun x y z t w'=>∃(hi lo i:Nat),x=((b*2^i%W64:Nat):Int)∧y=(hi:Int)∧z=(lo:Int)∧t=(i:Int)∧i≤64∧hi<W64∧lo<W64∧hi*W64+lo=cmul a (b / 2^(64-i))∧w'=w,fun _ _ _ t _=>64-t.toNat,⟨0,0,0,by rw [Nat.pow_zero,Nat.mul_one,Nat.mod_eq_of_lt hb],rfl,rfl,rfl,by omega,by decide,by decide,by rw [Nat.sub_zero,←w64,Nat.div_eq_of_lt hb];simp,rfl⟩,?_⟩
 rintro x y z t w1 ⟨hi,lo,i,rfl,rfl,rfl,rfl,hi64,hh,hl,he,rfl⟩
 refine ⟨fun h=>?_,fun h=>?_⟩
 · have hi':i<64:=by simp at h;omega
   obtain ⟨t1,t2⟩:=top_bits b hi'
   obtain ⟨c,hc⟩:∃c,b / 2^(64- (i+1))=c:=⟨_,rfl⟩
   rw [hc] at t1 t2
   rw [t1] at he
   rw [←w64] at t2
   obtain ⟨B,hB⟩:∃B,b*2^i%W64=B:=⟨_,rfl⟩
   have hB64:B<W64:=by rw [←hB];exact Nat.mod_lt _ (by decide)
   have hsm:=shift_mod b i
   rw [hB] at t2 hsm ⊢
   have e1:shrI .u64 (B:Int) 63=((B / 2^63:Nat):Int):=shr64 (x:=B) (n:=63) (by decide)
   have e2:shlI .u64 (B:Int) 1=((B*2^1%W64:Nat):Int):=shl64 (x:=B) (n:=1) (by decide)
   rw [Nat.pow_one,hsm] at e2
   have t2:B / 2^63=c%2:=t2
   rw [e1,t2,beq1,e2]
   have hv:hi*W64+lo<2^127:=by
     have hc2:c / 2<2^i:=by
       rw [←t1]
       refine (Nat.div_lt_iff_lt_mul (Nat.two_pow_pos _)).2 ?_
       rw [←Nat.pow_add,show i+(64-i)=64 by omega,←w64];exact hb
     have:=cmul_lt (show a<2^64 by rw [←w64];exact ha) hc2
     rw [he]
     exact Nat.lt_of_lt_of_le this (Nat.pow_le_pow_right (by decide) (by omega))
   obtain ⟨p1,p2⟩:=pair_shift hh hl
   rw [p1,p2]
   have hm:2*(hi*W64+lo)%2^128=2*(hi*W64+lo):=Nat.mod_eq_of_lt (by
     have:(2:Nat)^128=2*2^127:=by decide
     omega)
   rw [hm]
   obtain ⟨v,hvv⟩:∃v,hi*W64+lo=v:=⟨_,rfl⟩
   rw [hvv] at he hv ⊢
   have q1:2*v / W64<W64:=by
     refine (Nat.div_lt_iff_lt_mul (by decide)).2 ?_
     have:W64*W64=2*2^127:=by decide
     omega
   have q2:2*v%W64<W64:=Nat.mod_lt _ (by decide)
   have q3:2*v / W64*W64+2*v%W64=2*v:=by rw [Nat.mul_comm];exact Nat.div_add_mod _ _
   have hst:=cmul_step a c
   rw [←he] at hst
   refine ⟨fun x w'=>∃l:Nat,x=(l:Int)∧l<W64∧2*v / W64*W64+l=cmul a c∧w'=w1,⟨fun hbit=>?_,fun hbit=>?_⟩,?_⟩
   · have hb1:=of_decide_eq_true hbit
     rw [x64 q2 ha]
     refine ⟨_,rfl,xor64_lt q2 ha,?_,rfl⟩
     have:=two_xor64 (a:=2*v / W64) (c:=0) q2 ha
     rw [Nat.xor_zero,Nat.zero_mul,Nat.zero_add,q3] at this
     rw [this,hst,if_pos hb1,Nat.xor_comm]
   · have hb0:=of_decide_eq_false hbit
     refine ⟨_,rfl,q2,?_,rfl⟩
     rw [q3,hst,if_neg hb0,Nat.zero_xor]
   · rintro x w2 ⟨l,rfl,hl2,hl3,rfl⟩
     exact ⟨⟨2*v / W64,l,i+1,rfl,rfl,rfl,wrap_succ hi' (by omega),by omega,q1,hl2,by rw [hc];exact hl3,rfl⟩,mu_succ hi' (by omega)⟩
 · have hi':i=64:=by simp at h;omega
   subst hi'
   rw [Nat.sub_self,Nat.pow_zero,Nat.div_one] at he
   exact ⟨hi,lo,rfl,hh,hl,he,rfl⟩

end Go.Proofs.YtpmhjnhgpplmnaaGreatDoor
end

section
namespace Go.Proofs.YtpmhjnhgpplmnaaGreatDoor
open Go Sx Gf2
set_option maxRecDepth 8000

theorem two_mul_add (q:Nat) (b:Nat) (hb:b<2):2*q+b=b^^^(2*q):=by
 have h1:=bit_split (2*q+b)
 rw [show (2*q+b) / 2=q by omega,show (2*q+b)%2=b by omega] at h1
 have h2:(if b=1 then 1 else 0)=b:=by split<;>omega
 rw [h2] at h1
 exact h1
theorem mod_step {m d c r:Nat} (hm:DegIs m d) (hd:1≤d) (h:IsMod m d (c / 2) r):
   (r / 2^(d-1)%2=1→IsMod m d c ((2*r+c%2)^^^m))∧(r / 2^(d-1)%2≠1→IsMod m d c (2*r+c%2)):=by
 have hdv:Dv m (c^^^(2*r+c%2)):=by
   have h1:Dv m (2*((c / 2)^^^r)):=by rw [←cmul_two_right'];exact h.dv.mul 2
   rw [two_xor] at h1
   have e1:c=2*(c / 2)+c%2:=by omega
   have hb:c%2<2:=Nat.mod_lt _ (by decide)
   rw [two_mul_add r _ hb]
   have e2:c^^^(c%2^^^2*r)=2*(c / 2)^^^2*r:=by
     have e3:c=c%2^^^2*(c / 2):=by rw [←two_mul_add _ _ hb];exact e1
     conv=>lhs;lhs;rw [e3]
     rw [Nat.xor_comm (c%2) (2*(c / 2)),xor3]
   rw [e2];exact h1
 obtain ⟨k,rfl⟩:∃k,d=k+1:=⟨d-1,by omega⟩
 rw [Nat.add_sub_cancel]
 have hr:=h.lt
 obtain ⟨g0,g1⟩:=mod2_lt hr
 have hb:c%2<2:=Nat.mod_lt _ (by decide)
 constructor
 · intro ht
   have hD:=g1 (by omega)
   have hD2:DegIs (2*r+c%2) (k+1):=by
     have h1:=hD.1
     have h2:=hD.2
     constructor
     · rw [Nat.pow_succ];omega
     · rw [Nat.pow_succ 2 (k+1)];omega
   refine ⟨hD2.xor_same hm,?_⟩
   rw [←Nat.xor_assoc]
   exact hdv.xor (Dv.self m)
 · intro ht
   have hl:=g0 (by omega)
   exact ⟨by rw [Nat.pow_succ];omega,hdv⟩

set_option maxHeartbeats 2000000 in
theorem rmod_spec {m d:Nat} (hm:DegIs m d) (hm64:m<W64) (hi lo:Nat) (hhi:hi<W64) (hlo:lo<W64) (w:World):
   Calls Tryz.prog 229 #[.int .u64 (hi:Int),.int .u64 (lo:Int),.int .u64 (m:Int)] w fun e w'=>∃r:Nat,e=.returned (.int .u64 (r:Int))∧IsMod m d (hi*W64+lo) r∧r<W64∧w'=w:=by
 have hd:=degIs_lt hm hm64
 obtain ⟨V,hV⟩:∃V,hi*W64+lo=V:=⟨_,rfl⟩
 have h128:(2:Nat)^128=W64*W64:=by decide
 have hV128:V<2^128:=by
   rw [h128,←hV]
   have:hi*W64+W64≤W64*W64:=by
     have:=Nat.mul_le_mul_right W64 (show hi+1≤W64 from hhi)
     rwa [Nat.add_mul,Nat.one_mul] at this
   omega
 have hd2:2^d≤2^63:=Nat.pow_le_pow_right (by decide) (by omega)
 have hlt:∀r,r<2^d→r<2^63:=fun r h=>Nat.lt_of_lt_of_le h hd2
 have h63:(2:Nat)^63<W64:=by decide
 apply amphoraref06_Mod_vc
 refine (rdeg_spec m hm64 w).mono ?_
 rintro e w1 ⟨he,rfl⟩
 rw [degZ_deg hm] at he
 have ewd:IntKind.wrap .u64 (d:Int)=(d:Int):=by rw [wrap_u64];exact Int.emod_eq_of_lt (by omega) (by omega)
 refine ⟨_,he,?_⟩
 rw [ewd]
 rw [hV]
 refine ⟨fun x y z t w'=>∃(a b r i:Nat),x=(a:Int)∧y=(b:Int)∧z=(r:Int)∧t=(i:Int)∧i≤128∧a<W64∧b<W64∧a*W64+b=V*2^i%2^128∧IsMod m d (V / 2^(128-i)) r∧w'=w1,fun _ _ _ t _=>128-t.toNat,⟨hi,lo,0,0,rfl,rfl,rfl,rfl,by omega,hhi,hlo,by rw [Nat.pow_zero,Nat.mul_one,Nat.mod_eq_of_lt hV128,hV],⟨Nat.two_pow_pos d,by rw [Nat.sub_zero,Nat.div_eq_of_lt hV128];exact Dv.zero m⟩,rfl⟩,?_⟩
 rintro x y z t w2 ⟨a,b,r,i,rfl,rfl,rfl,rfl,hi128,ha,hb,hab,hr,rfl⟩
 refine ⟨fun h=>?_,fun h=>?_⟩
 · have hi':i<128:=by simp at h;omega
   obtain ⟨t1,t2⟩:=top_bits V hi'
   obtain ⟨c,hc⟩:∃c,V / 2^(128- (i+1))=c:=⟨_,rfl⟩
   rw [hc] at t1 t2
   rw [t1] at hr
   rw [←hab] at t2
   obtain ⟨p1,p2⟩:=pair_shift ha hb
   have hsm:=shift_mod2 V i
   rw [←hab] at hsm
   rw [hsm] at p1 p2
   obtain ⟨u,hu⟩:∃u,V*2^(i+1)%2^128=u:=⟨_,rfl⟩
   rw [hu] at p1 p2
   have hu128:u<2^128:=by rw [←hu];exact Nat.mod_lt _ (Nat.two_pow_pos _)
   have q1:u / W64<W64:=(Nat.div_lt_iff_lt_mul (by decide)).2 (by rw [←h128];exact hu128)
   have q2:u%W64<W64:=Nat.mod_lt _ (by decide)
   have q3:u / W64*W64+u%W64=u:=by rw [Nat.mul_comm];exact Nat.div_add_mod _ _
   have hbit:a / 2^63=c%2:=by
     rw [←t2]
     have ha:a<18446744073709551616:=ha
     have hb:b<18446744073709551616:=hb
     show a / 9223372036854775808=(a*18446744073709551616+b) / 170141183460469231731687303715884105728
     omega
   have e1:shrI .u64 (a:Int) 63=((a / 2^63:Nat):Int):=shr64 (x:=a) (n:=63) (by decide)
   rw [hbit] at e1
   have hr63:=hlt r hr.lt
   have e2:shlI .u64 (r:Int) 1=((r*2^1%W64:Nat):Int):=shl64 (x:=r) (n:=1) (by decide)
   have e3:r*2^1%W64=2*r:=by
     have hr63:r<9223372036854775808:=hr63
     show r*2%18446744073709551616=2*r
     omega
   rw [e3] at e2
   have hr2:2*r<W64:=by
     have hr63:r<9223372036854775808:=hr63
     show 2*r<18446744073709551616
     omega
   have hc2:c%2<2:=Nat.mod_lt _ (by decide)
   rw [p1,p2]
   refine ⟨fun h0=>?_,fun h0=>?_⟩
   · rw [beq0] at h0
     have hd0:=of_decide_eq_true h0
     subst hd0
     refine ⟨⟨_,_,r,i+1,rfl,rfl,rfl,wrap_succ hi' (by omega),by omega,q1,q2,by rw [q3,hu],⟨hr.lt,?_⟩,rfl⟩,mu_succ hi' (by omega)⟩
     have hm1:m=1:=by have h1:=hm.1;have h2:=hm.2;simp at h1 h2;omega
     rw [hm1];exact Dv.one _
   · rw [beq0] at h0
     have hd0:=of_decide_eq_false h0
     have e4:IntKind.wrap .u64 ((d:Int)-1)=((d-1:Nat):Int):=by rw [wrap_u64,Int.emod_eq_of_lt (by omega) (by omega)];omega
     have hr64:r<W64:=Nat.lt_trans hr63 h63
     have hor:(2*r)||| (c%2)=2*r+c%2:=or_add2 (by omega) hc2
     have hs64:2*r+c%2<W64:=by
       have hr63:r<9223372036854775808:=hr63
       show 2*r+c%2<18446744073709551616
       omega
     obtain ⟨s1,s2⟩:=mod_step hm (by omega) hr
     rw [e4,bit64 hr64 (by omega),beq1,e1,e2,or64 hr2 (Nat.lt_of_lt_of_le hc2 (by decide)),hor]
     refine ⟨by omega,fun x w'=>∃r2:Nat,x=(r2:Int)∧IsMod m d c r2∧w'=w2,⟨fun ht=>?_,fun ht=>?_⟩,?_⟩
     · rw [x64 hs64 hm64]
       exact ⟨_,rfl,s1 (of_decide_eq_true ht),rfl⟩
     · exact ⟨_,rfl,s2 (of_decide_eq_false ht),rfl⟩
     · rintro x w3 ⟨r2,rfl,hr2,rfl⟩
       exact ⟨⟨_,_,r2,i+1,rfl,rfl,rfl,wrap_succ hi' (by omega),by omega,q1,q2,by rw [q3,hu],by rw [hc];exact hr2,rfl⟩,mu_succ hi' (by omega)⟩
 · have hi':i=128:=by simp at h;omega
   subst hi'
   rw [Nat.sub_self,Nat.pow_zero,Nat.div_one] at hr
   exact ⟨r,rfl,hr,Nat.lt_trans (hlt r hr.lt) h63,rfl⟩

theorem rgcd_spec (p y : Nat) (hp : p < W64) (hy : y < W64) (w : World) :
   Calls Tryz.prog 231 #[.int .u64 (p:Int),.int .u64 (y:Int)] w fun e w'=>∃g:Nat,e=.returned (.int .u64 (g:Int))∧IsGcd p y g∧g<W64∧w'=w:=by
 apply amphoraref06_Gcd_vc
 refine ⟨fun x z w'=>∃(s t:Nat),x=(s:Int)∧z=(t:Int)∧s<W64∧t<W64∧(∀h,(Dv h s∧Dv h t)↔(Dv h p∧Dv h y))∧w'=w,fun _ z _=>z.toNat,⟨p,y,rfl,rfl,hp,hy,fun _=>Iff.rfl,rfl⟩,?_⟩
 rintro x z w2 ⟨s,t,rfl,rfl,hs,ht,hst,rfl⟩
 refine ⟨fun hne=>?_,fun heq=>?_⟩
 · have ht0:t≠0:=by rintro rfl;simp at hne
   refine (rmod_spec (degIs_log ht0) ht 0 s (by decide) hs w2).mono ?_
   rintro e w3 ⟨r,rfl,hm,hr64,rfl⟩
   rw [Nat.zero_mul,Nat.zero_add] at hm
   refine ⟨_,rfl,⟨t,r,rfl,rfl,ht,hr64,fun h=>(isGcd_step hm h).trans (hst h),rfl⟩,?_⟩
   have:=Nat.lt_of_lt_of_le hm.lt (degIs_log ht0).1
   simp only [Int.toNat_natCast];exact this
 · have ht0 : t = 0 := by have : ((t : Nat) : Int) = 0 := by simpa using heq
                          omega
   subst ht0
   refine ⟨s,rfl,fun h=>?_,hs,rfl⟩
   rw [←hst h]
   exact ⟨fun k=>⟨k,Dv.zero h⟩,fun k=>k.1⟩

set_option maxHeartbeats 1000000 in
theorem rirr_spec {p n:Nat} (hp:DegIs p n) (hn:1≤n) (hp64:p<W64) (w:World):
   Calls Tryz.prog 148 #[.int .u64 (p:Int)] w fun e w'=>e=.returned (.bool (irrB p))∧w'=w:=by
 have hn64:=degIs_lt hp hp64
 have R:=benor hp hn
 apply amphoraref06_Irreducible_vc
 refine (rdeg_spec p hp64 w).mono ?_
 rintro e w1 ⟨he,rfl⟩
 rw [degZ_deg hp] at he
 refine ⟨_,he,fun h=>?_,fun _=>(rmod_spec hp hp64 0 2 (by decide) (by decide) w1).mono ?_⟩
 · simp at h;omega
 rintro e w2 ⟨y,rfl,hy,hy64,rfl⟩
 rw [Nat.zero_mul,Nat.zero_add] at hy
 refine ⟨_,rfl,fun x z w'=>∃(s i:Nat),x=(s:Int)∧z=((i+1:Nat):Int)∧2*i≤n∧s<W64∧IsMod p n (sqs 2 i) s∧(∀j,1≤j→j≤i→Alone p (sqs 2 j^^^2))∧w'=w2,fun _ z _=>n+2-z.toNat,⟨y,0,rfl,rfl,by omega,hy64,hy,fun j h1 h2=>by omega,rfl⟩,?_⟩
 rintro x z w3 ⟨s,i,rfl,rfl,hi,hs,hm,hA,rfl⟩
 have e2:IntKind.wrap .i64 ((2:Int)*((i+1:Nat):Int))=((2*(i+1):Nat):Int):=by rw [wrap_i64 (by omega) (by omega)];omega
 rw [e2]
 refine ⟨fun h=>?_,fun h=>?_⟩
 · have hle : 2 * (i + 1) ≤ n := by
     have:=of_decide_eq_true h
     omega
   refine (rmul_spec s s hs hs w3).mono ?_
   rintro e w4 ⟨hi2,lo2,rfl,h1,h2,h3,rfl⟩
   refine ⟨_,_,rfl,(rmod_spec hp hp64 hi2 lo2 h1 h2 w4).mono ?_⟩
   rintro e w5 ⟨x,rfl,hx,hx64,rfl⟩
   rw [h3] at hx
   have hx:IsMod p n (sqs 2 (i+1)) x:=hm.sq hx
   refine ⟨_,rfl,?_⟩
   rw [x64 hx64 hy64]
   refine (rgcd_spec p (x^^^y) hp64 (xor64_lt hx64 hy64) w5).mono ?_
   rintro e w6 ⟨g,rfl,hg,_,rfl⟩
   have hAl:Alone p (x^^^y)↔Alone p (sqs 2 (i+1)^^^2):=alone_congr (by
     rw [xor4]
     have h1:=hx.dv
     have h2:=hy.dv
     rw [Nat.xor_comm] at h1 h2
     exact h1.xor h2)
   refine ⟨_,rfl,fun hne=>⟨?_,rfl⟩,fun heq=>?_⟩
   · have:irrB p=false:=by
       rw [Bool.eq_false_iff]
       intro hI
       have h1:=R.2 ((irrB_iff p).1 hI) (i+1) (by omega) hle
       have h2:=hg.alone.2 (hAl.2 h1)
       subst h2
       simp at hne
     rw [this]
   · have hg1 : g = 1 := by have : ((g : Nat) : Int) = 1 := by simpa using heq
                            omega
     have eW:IntKind.wrap .i64 (((i+1:Nat):Int)+1)=((i+1+1:Nat):Int):=by rw [wrap_i64 (by omega) (by omega)];rfl
     rw [eW]
     refine ⟨⟨x,i+1,rfl,rfl,hle,hx64,hx,fun j h1 h2=>?_,rfl⟩,by simp only [Int.toNat_natCast];omega⟩
     by_cases hj:j=i+1
     · subst hj;exact hAl.1 (hg.alone.1 hg1)
     · exact hA j h1 (by omega)
 · have hgt:¬2*(i+1)≤n:=by
     have:=of_decide_eq_false h
     omega
   refine ⟨?_,rfl⟩
   have:irrB p=true:=(irrB_iff p).2 (R.1 fun j h1 h2=>hA j h1 (by omega))
   rw [this]

end Go.Proofs.YtpmhjnhgpplmnaaGreatDoor
end

section
namespace Go.Proofs.YtpmhjnhgpplmnaaGreatDoor
open Go Sx Gf2
set_option maxRecDepth 8000

theorem rirrV {p:Nat} (hp:p<W64) (h8:8≤degZ p) (w:World):Calls Tryz.prog 148 #[.int .u64 (p:Int)] w fun e w'=>e=.returned (.bool (irrB p))∧w'=w:=by
 obtain ⟨n,hd,hn,_⟩:=deg_of hp h8
 exact rirr_spec hd hn hp w
def dg (s:SetD):Bool:=decide (8≤degZ s.poly)&&decide (degZ s.poly≤55)
theorem goodSet_dg (s:SetD):goodSet s=((dg s&&(gd2 s&&(gd3 s&&gd4 s)))&&irrB s.poly):=by
 unfold goodSet gd1 dg
 cases decide (8≤degZ s.poly)<;>cases decide (degZ s.poly≤55)<;>cases irrB s.poly<;>cases gd2 s<;>cases gd3 s<;>cases gd4 s<;>rfl

set_option maxHeartbeats 1000000 in
theorem rcheck7_spec (s:SetD) (hp:s.poly<W64) (w:World):Calls Tryz.prog 56 #[.agg (setC s).toArray] w fun e w'=>e=.returned (.int .i64 (if goodSet s then 0 else 11))∧Chg [] w w':=by
 apply amphoraref07_Check_vc
 obtain ⟨g,w1,r1,k1⟩:=(St.start w).boxA (P:=Tryz.prog) 44 (setC s)
 let K:World→Prop:=fun w'=>St w [] w' [.arr g 44 (setC s)]
 have k1:K w1:=k1
 have ldU:∀ {w'},K w'→(Instr.loadAt 42 (.pointer (some ⟨g,0,none⟩))).run Tryz.prog w'=.ok (.int .u64 (s.poly:Int)) w':=fun h=>Sx.St.ldL h (i:=0) (o:=0) rfl (u64A _) rfl rfl
 have ldI:∀ {w'} (o:Nat) (z:Int),(setC s)[o]?=some (.int .i64 z)→K w'→(Instr.loadAt 3 (.pointer (some ⟨g,o,none⟩))).run Tryz.prog w'=.ok (.int .i64 z) w':=fun o z hz h=>by
   have:=Sx.St.ldL h (i:=0) (o:=o) rfl (p64A _) rfl hz
   exact this
 refine ⟨g,w1,r1,_,ldU k1,(rdeg_spec s.poly hp w1).mono ?_⟩
 rintro e w2 ⟨rfl,rfl⟩
 refine ⟨_,rfl,fun b w'=>b=(dg s&&(gd2 s&&gd3 s))∧K w',⟨fun hd=>⟨_,ldI 1 _ rfl k1,fun h1=>⟨_,ldI 1 _ rfl k1,fun h2=>⟨_,ldI 1 _ rfl k1,_,ldI 2 _ rfl k1,fun h3=>⟨_,ldI 2 _ rfl k1,_,ldI 3 _ rfl k1,fun h4=>⟨_,ldI 3 _ rfl k1,?_,k1⟩,fun h4=>⟨?_,k1⟩⟩,fun h3=>⟨?_,k1⟩⟩,fun h2=>⟨?_,k1⟩⟩,fun h1=>⟨?_,k1⟩⟩,fun hd=>⟨?_,k1⟩⟩,?_⟩
 · simp only [ge_iff_le] at hd h1 h2 h3 h4 ⊢
   have hd:dg s=true:=hd
   rw [hd,gd2,gd3,h1,h2,h3,h4];simp
 · simp only [ge_iff_le] at hd h1 h2 h3 h4 ⊢
   rw [gd3,h4];simp
 · rw [gd3,h3];simp
 · rw [gd2,h2];simp
 · simp only [ge_iff_le] at h1 ⊢
   rw [gd2,h1];simp
 · simp only [ge_iff_le] at hd ⊢
   have hd:dg s=false:=hd
   rw [hd];rfl
 rintro b w3 ⟨rfl,k3⟩
 refine ⟨fun b w'=>b=(dg s&&(gd2 s&&(gd3 s&&gd4 s)))∧K w',⟨fun ha=>⟨_,ldI 4 _ rfl k3,fun h1=>⟨_,ldI 4 _ rfl k3,fun h2=>⟨_,ldI 4 _ rfl k3,?_,k3⟩,fun h2=>⟨?_,k3⟩⟩,fun h1=>⟨?_,k3⟩⟩,fun ha=>⟨?_,k3⟩⟩,?_⟩
 · simp only [ge_iff_le] at h1 h2 ⊢
   simp only [Bool.and_eq_true] at ha
   rw [ha.1,ha.2.1,ha.2.2,gd4,h1,h2];simp
 · simp only [ge_iff_le] at h1 h2 ⊢
   rw [gd4,h2];simp
 · simp only [ge_iff_le] at h1 ⊢
   rw [gd4,h1];simp
 · revert ha
   cases dg s<;>cases gd2 s<;>cases gd3 s<;>simp
 rintro b w4 ⟨rfl,k4⟩
 refine ⟨fun b w'=>b= !goodSet s∧K w',⟨fun ha=>⟨?_,k4⟩,fun ha=>⟨_,ldU k4,(rirrV hp ?_ w4).mono ?_⟩⟩,?_⟩
 · simp only [Bool.not_eq_true'] at ha
   rw [goodSet_dg,ha];rfl
 · simp only [Bool.not_eq_false',Bool.and_eq_true] at ha
   have:=ha.1
   simp only [dg,Bool.and_eq_true,decide_eq_true_eq] at this
   exact this.1
 · rintro e w5 ⟨rfl,rfl⟩
   simp only [Bool.not_eq_false'] at ha
   exact ⟨_,rfl,by rw [goodSet_dg,ha];simp,k4⟩
 · rintro b w6 ⟨rfl,k6⟩
   refine ⟨fun h=>?_,fun h=>?_⟩
   · simp only [Bool.not_eq_true'] at h
     rw [h];exact ⟨rfl,k6.chg⟩
   · simp only [Bool.not_eq_false'] at h
     rw [h];exact ⟨rfl,k6.chg⟩

end Go.Proofs.YtpmhjnhgpplmnaaGreatDoor
end

section
namespace Go.Proofs.YtpmhjnhgpplmnaaGreatDoor
open Go Sx
set_option maxRecDepth 8000

structure SnapD where
 name:List UInt8
 time:Int
 size:Int
 chunks:Int
 root:List UInt8
 rl:root.length=32
def snapC (s:SnapD):List Value:=[strV s.name,.int .i64 s.time,.int .i64 s.size,.int .i64 s.chunks]++bv s.root
theorem snapC_len (s:SnapD):(snapC s).length=36:=by simp [snapC,s.rl]
theorem snapC_one (s:SnapD):∀v∈snapC s,v.oneCell'=true:=fun v hv=>by
 simp only [snapC,List.mem_append,List.mem_cons,List.not_mem_nil,or_false] at hv
 rcases hv with (rfl | rfl | rfl | rfl) | h
 · rfl
 · rfl
 · rfl
 · rfl
 · exact bv_one _ v h
abbrev RdS (w:World) (a:Option Addr) (n c:Nat) (l:List SnapD):Prop:=RdE snapC 36 w a n c l
def iv (l:List Int):List Value:=l.map fun z=>.int .i64 z
@[simp] theorem iv_len (l:List Int):(iv l).length=l.length:=by simp [iv]
theorem iv_get (l:List Int) (i:Nat):(iv l)[i]?=l[i]?.map fun z=>.int .i64 z:=by simp [iv]
theorem iv_one (l:List Int):∀v∈iv l,v.oneCell'=true:=fun v hv=>by
 simp only [iv,List.mem_map] at hv
 obtain ⟨z,_,rfl⟩:=hv
 rfl

def nwB (s t:SnapD) (i j:Nat):Bool:=decide (t.time<s.time)||(decide (s.time=t.time)&&(lexLt t.name s.name||(decide (s.name=t.name)&&decide (j<i))))
def Newer (l:List SnapD) (i j:Nat):Prop:=∃s t,l[i]?=some s∧l[j]?=some t∧nwB s t i j=true
theorem nwB_iff {s t:SnapD} {i j:Nat} :nwB s t i j=true↔t.time<s.time∨(s.time=t.time∧(lexLt t.name s.name=true∨(s.name=t.name∧j<i))):=by simp [nwB]
theorem nwB_asymm {s t:SnapD} {i j:Nat} (h:nwB s t i j=true):nwB t s j i=false:=by
 cases h2:nwB t s j i with
 | false=>rfl
 | true=>
   rw [nwB_iff] at h h2
   rcases h with h | ⟨h1,h | ⟨h3,h4⟩⟩
   · rcases h2 with h2 | ⟨h2,_⟩<;>omega
   · rcases h2 with h2 | ⟨_,h2 | ⟨h2,_⟩⟩
     · omega
     · rw [lex_asymm h] at h2;cases h2
     · rw [h2,lex_irrefl] at h;cases h
   · rcases h2 with h2 | ⟨_,h2 | ⟨_,h2⟩⟩
     · omega
     · rw [h3,lex_irrefl] at h2;cases h2
     · omega
theorem Newer.asymm {l:List SnapD} {i j:Nat} (h:Newer l i j):¬Newer l j i:=by
 rintro ⟨s,t,h1,h2,h3⟩
 obtain ⟨s',t',g1,g2,g3⟩:=h
 rw [h1] at g2;rw [h2] at g1
 obtain rfl:=Option.some.inj g1
 obtain rfl:=Option.some.inj g2
 rw [nwB_asymm g3] at h3
 cases h3

structure NewOrd (l:List SnapD) (L:List Nat):Prop where
 perm:L.Perm (List.range l.length)
 pw:L.Pairwise (Newer l)
theorem NewOrd.lt {l:List SnapD} {L:List Nat} (h:NewOrd l L) {i:Nat} (hi:i∈L):i<l.length:=by have:=h.perm.mem_iff.1 hi;simpa using this
theorem NewOrd.mem {l:List SnapD} {L:List Nat} (h:NewOrd l L) {i:Nat} (hi:i<l.length):i∈L:=h.perm.mem_iff.2 (by simpa using hi)
theorem NewOrd.len {l:List SnapD} {L:List Nat} (h:NewOrd l L):L.length=l.length:=by have:=h.perm.length_eq;simpa using this
theorem pw_uniq {α:Type} {r:α→α→Prop} (hr:∀a b,r a b→¬r b a):∀ {l m:List α},l.Perm m→l.Pairwise r→m.Pairwise r→l=m
 | [],m,hp,_,_=>(List.nil_perm.1 hp).symm
 | x::l,[],hp,_,_=>by have:=hp.length_eq;simp at this
 | x::l,y::m,hp,h1,h2=>by
   rw [List.pairwise_cons] at h1 h2
   have hxy:x=y:=by
     have hx:x∈y::m:=hp.mem_iff.1 List.mem_cons_self
     have hy:y∈x::l:=hp.mem_iff.2 List.mem_cons_self
     rcases List.mem_cons.1 hx with rfl | hx
     · rfl
     · rcases List.mem_cons.1 hy with rfl | hy
       · rfl
       · exact absurd (h1.1 y hy) (hr _ _ (h2.1 x hx))
   subst hxy
   rw [pw_uniq hr ((List.perm_cons x).1 hp) h1.2 h2.2]
theorem NewOrd.uniq {l:List SnapD} {L M:List Nat} (h:NewOrd l L) (k:NewOrd l M):L=M:=pw_uniq (fun _ _ h=>h.asymm) (h.perm.trans k.perm.symm) h.pw k.pw

end Go.Proofs.YtpmhjnhgpplmnaaGreatDoor
end

section
namespace Go.Proofs.YtpmhjnhgpplmnaaGreatDoor
open Go Sx
set_option maxRecDepth 8000

def nameB (s:List UInt8):Bool:=s.all (fun b=>decide (33≤b.toNat∧b.toNat≤126))&&(decide (1≤s.length)&&decide (s.length≤32))
theorem allTake {s:List UInt8} {i:Nat} {b:UInt8} (p:UInt8→Bool) (hb:s[i]?=some b):(s.take (i+1)).all p=((s.take i).all p&&p b):=by
 rw [List.take_add_one,hb];simp

theorem snName_spec (s:List UInt8) (hs:s.length≤4611686018427387904) (w:World):Calls Tryz.prog 28 #[strV s] w fun e w'=>e=.returned (.bool (nameB s))∧w'=w:=by
 apply catalog_GoodName_vc
 rw [sizeSc,emptyS]
 refine ⟨fun x w'=>∃i:Nat,x=(i:Int)∧i≤s.length∧(s.take i).all (fun b=>decide (33≤b.toNat∧b.toNat≤126))=true∧w'=w,fun x _=>s.length-x.toNat,⟨0,rfl,by omega,by simp,rfl⟩,?_⟩
 rintro x w1 ⟨i,rfl,hi,hA,rfl⟩
 refine ⟨fun h=>?_,fun h=>?_⟩
 · have hi':i<s.length:=by simp at h;omega
   have hix:=ixS16 (l:=s) (i:=i) hi' w1
   have hb:s[i]?=some (s.getD i 0):=by simp [List.getD,hi']
   obtain ⟨b,hbe⟩:∃b,s.getD i 0=b:=⟨_,rfl⟩
   rw [hbe] at hix hb
   refine ⟨fun y w'=>y= !decide (33≤b.toNat∧b.toNat≤126)∧w'=w1,⟨_,hix,fun h=>⟨?_,rfl⟩,fun h=>⟨_,hix,?_,rfl⟩⟩,?_⟩
   · simp only [decide_eq_true_eq] at h
     rw [decide_eq_false (by omega)];rfl
   · simp only [decide_eq_false_iff_not] at h
     rw [←decide_not]
     exact decide_eq_decide.2 (by omega)
   · rintro y w2 ⟨rfl,rfl⟩
     refine ⟨fun h=>⟨?_,rfl⟩,fun h=>⟨⟨i+1,wrap_succ hi' hs,by omega,?_,rfl⟩,mu_succ hi' hs⟩⟩
     · have hbad:decide (33≤b.toNat∧b.toNat≤126)=false:=by rwa [Bool.not_eq_true'] at h
       have:s.all (fun b=>decide (33≤b.toNat∧b.toNat≤126))=false:=by
         rw [List.all_eq_false]
         exact ⟨b,List.mem_of_getElem? hb,by rw [hbad];simp⟩
       rw [nameB,this];rfl
     · have hok:decide (33≤b.toNat∧b.toNat≤126)=true:=by rwa [Bool.not_eq_false'] at h
       rw [allTake _ hb,hA,hok];rfl
 · have hi':i=s.length:=by simp at h;omega
   subst hi'
   rw [List.take_length] at hA
   refine ⟨?_,rfl⟩
   rw [nameB,hA]
   cases s with
   | nil=>rfl
   | cons c r=>simp;omega
theorem rsnName_spec (s:List UInt8) (hs:s.length≤4611686018427387904) (w:World):Calls Tryz.prog 29 #[strV s] w fun e w'=>e=.returned (.bool (nameB s))∧w'=w:=by
 apply amphoraref16_GoodName_vc
 rw [sizeSc]
 refine ⟨fun x w'=>∃i:Nat,x=(i:Int)∧i≤s.length∧(s.take i).all (fun b=>decide (33≤b.toNat∧b.toNat≤126))=true∧w'=w,fun x _=>s.length-x.toNat,⟨0,rfl,by omega,by simp,rfl⟩,?_⟩
 rintro x w1 ⟨i,rfl,hi,hA,rfl⟩
 refine ⟨fun h=>?_,fun h=>?_⟩
 · have hi':i<s.length:=by simp at h;omega
   have hix:=ixS16 (l:=s) (i:=i) hi' w1
   have hb:s[i]?=some (s.getD i 0):=by simp [List.getD,hi']
   obtain ⟨b,hbe⟩:∃b,s.getD i 0=b:=⟨_,rfl⟩
   rw [hbe] at hix hb
   refine ⟨fun y w'=>y= !decide (33≤b.toNat∧b.toNat≤126)∧w'=w1,⟨_,hix,fun h=>⟨?_,rfl⟩,fun h=>⟨_,hix,?_,rfl⟩⟩,?_⟩
   · simp only [decide_eq_true_eq] at h
     rw [decide_eq_false (by omega)];rfl
   · simp only [decide_eq_false_iff_not] at h
     rw [←decide_not]
     exact decide_eq_decide.2 (by omega)
   · rintro y w2 ⟨rfl,rfl⟩
     refine ⟨fun h=>⟨?_,rfl⟩,fun h=>⟨⟨i+1,wrap_succ hi' hs,by omega,?_,rfl⟩,mu_succ hi' hs⟩⟩
     · have hbad:decide (33≤b.toNat∧b.toNat≤126)=false:=by rwa [Bool.not_eq_true'] at h
       have:s.all (fun b=>decide (33≤b.toNat∧b.toNat≤126))=false:=by
         rw [List.all_eq_false]
         exact ⟨b,List.mem_of_getElem? hb,by rw [hbad];simp⟩
       rw [nameB,this];rfl
     · have hok:decide (33≤b.toNat∧b.toNat≤126)=true:=by rwa [Bool.not_eq_false'] at h
       rw [allTake _ hb,hA,hok];rfl
 · have hi':i=s.length:=by simp at h;omega
   subst hi'
   rw [List.take_length] at hA
   refine ⟨?_,rfl⟩
   rw [nameB,hA]
   have e1:decide ((s.length:Int)≥1)=decide (1≤s.length):=decide_eq_decide.2 (by omega)
   have e2:decide ((s.length:Int)≤32)=decide (s.length≤32):=decide_eq_decide.2 (by omega)
   rw [e1,e2];rfl

end Go.Proofs.YtpmhjnhgpplmnaaGreatDoor
end

section
namespace Go.Proofs.YtpmhjnhgpplmnaaGreatDoor
open Go Sx
set_option maxRecDepth 8000

def goodSnap (s:SnapD):Bool:=nameB s.name&&(decide (s.time≥(-1099511627776))&&(decide (s.time≤1099511627776)&&(decide (s.size≥0)&&(decide (s.chunks≥0)&&decide (s.chunks≤65536)))))
theorem snStr (w:World):(isAgg 9).run Tryz.prog w=.ok false w:=Tryz.isAgg9 w
theorem goodSnap_spec (s:SnapD) (hs:s.name.length≤4611686018427387904) (w:World):Calls Tryz.prog 106 #[.agg (snapC s).toArray] w fun e w'=>e=.returned (.bool (goodSnap s))∧Chg [] w w':=by
 apply catalog_goodSnapshot_vc
 obtain ⟨g,w1,r1,k1⟩:=(St.start w).boxA (P:=Tryz.prog) 89 (snapC s)
 have k1:St w [] w1 [.arr g 89 (snapC s)]:=k1
 have ldI:∀(o:Nat) (z:Int),(snapC s)[o]?=some (.int .i64 z)→(Instr.loadAt 3 (.pointer (some ⟨g,o,none⟩))).run Tryz.prog w1=.ok (.int .i64 z) w1:=fun o z hz=>by
   have:=k1.ldL (i:=0) (o:=o) rfl (p64A _) rfl hz
   exact this
 refine ⟨g,w1,r1,_,k1.ldL (i:=0) (o:=0) rfl (snStr _) rfl rfl,(snName_spec s.name hs w1).mono ?_⟩
 rintro e w2 ⟨rfl,rfl⟩
 refine ⟨_,rfl,fun hn=>⟨_,ldI 1 _ rfl,fun h1=>⟨_,ldI 1 _ rfl,fun h2=>⟨_,ldI 2 _ rfl,fun h3=>⟨_,ldI 3 _ rfl,fun h4=>⟨_,ldI 3 _ rfl,?_,k1.chg⟩,fun h4=>⟨?_,k1.chg⟩⟩,fun h3=>⟨?_,k1.chg⟩⟩,fun h2=>⟨?_,k1.chg⟩⟩,fun h1=>⟨?_,k1.chg⟩⟩,fun hn=>⟨?_,k1.chg⟩⟩
 · rw [goodSnap,hn,h1,h2,h3,h4];rfl
 · rw [goodSnap,hn,h1,h2,h3,h4];rfl
 · rw [goodSnap,hn,h1,h2,h3];rfl
 · rw [goodSnap,hn,h1,h2];rfl
 · rw [goodSnap,hn,h1];rfl
 · rw [goodSnap,hn];rfl

structure PkD where
 num:Int
 size:Int
 count:Int
def pkC (p:PkD):List Value:=[.int .i64 p.num,.int .i64 p.size,.int .i64 p.count]
structure CatD where
 gen:Int
 next:Int
 set:SetD
 snaps:List SnapD
 packs:List PkD
def catC (C:CatD) (sa:Option Addr) (sn sc:Nat) (pa:Option Addr) (pn pc:Nat):List Value:=[.int .i64 C.gen,.int .i64 C.next]++(setC C.set++ [.slice sa sn sc,.slice pa pn pc])
structure CatR (w:World) (C:CatD) (sa:Option Addr) (sn sc:Nat) (pa:Option Addr) (pn pc:Nat):Prop where
 poly:C.set.poly<W64
 snaps:RdS w sa sn sc C.snaps
 packs:RdE pkC 3 w pa pn pc C.packs
 names:∀s∈C.snaps,s.name.length≤4611686018427387904
theorem CatR.keep0 {w w':World} {C:CatD} {sa:Option Addr} {sn sc:Nat} {pa:Option Addr} {pn pc:Nat} (h:CatR w C sa sn sc pa pn pc) (hc:Chg [] w w'):CatR w' C sa sn sc pa pn pc:=⟨h.poly,h.snaps.keep0 hc,h.packs.keep0 hc,h.names⟩
def ascAt (l:List SnapD) (j:Nat):Bool:=j==0||lexLt (((l[j-1]?).map SnapD.name).getD []) (((l[j]?).map SnapD.name).getD [])
def ascB (l:List SnapD):Bool:=(List.range l.length).all (ascAt l)
def pksB (next:Int):Int→List PkD→Bool
 | _,[]=>true
 | last,p::r=>(decide (last<p.num)&&(decide (p.num<next)&&(decide (0≤p.size)&&decide (0≤p.count))))&&pksB next p.num r
noncomputable def headB (C:CatD):Bool:=(decide (1≤C.gen)&&(decide (C.gen≤1099511627776)&&(decide (0≤C.next)&&decide (C.next≤1099511627776))))&&(goodSet C.set&&(decide (C.snaps.length≤64)&&decide (C.packs.length≤1024)))
noncomputable def checkB (C:CatD):Bool:=headB C&&(C.snaps.all goodSnap&&(ascB C.snaps&&pksB C.next (-1) C.packs))

end Go.Proofs.YtpmhjnhgpplmnaaGreatDoor
end

section
namespace Go.Proofs.YtpmhjnhgpplmnaaGreatDoor.Sx
open Go
set_option maxRecDepth 8000

theorem ba_beq (l m:List UInt8):((⟨l.toArray⟩:ByteArray)==⟨m.toArray⟩)=decide (l=m):=by
 show (l.toArray==m.toArray)=decide (l=m)
 by_cases h:l=m
 · subst h;simp
 · have:¬l.toArray=m.toArray:=fun e=>h (by have:=congrArg Array.toList e;simpa using this)
   simp [h]

theorem findNow_str {α:Type} {val:α→Value} {kid:α→List UInt8} (id:List UInt8):∀(L:List MapEntry) (M:List α) (i:Nat),L.map (fun x=>(x.key,x.val))=M.map (fun r=>(strV (kid r),val r))→
   Instr.findNow .string (strV id) L i=some ((M.findIdx? fun r=>kid r==id).bind fun j=>(M[j]?).map fun r=>(i+j,val r))
 | [],[],i,_=>by simp [Instr.findNow]
 | [],r::M,i,he=>by simp at he
 | x::L,[],i,he=>by simp at he
 | x::L,r::M,i,he=>by
   simp only [List.map_cons,List.cons.injEq,Prod.mk.injEq] at he
   obtain ⟨⟨e1,e2⟩,e3⟩:=he
   have ih:=findNow_str (val:=val) (kid:=kid) id L M (i+1) e3
   have hs:Instr.sameNow .string (strV id) x.key=some (decide (id=kid r)):=by
     rw [e1,strV,strV]
     simp only [Instr.sameNow,ba_beq]
   rw [Instr.findNow,hs]
   by_cases h:kid r=id
   · simp [h,e2,List.findIdx?_cons]
   · have h':¬id=kid r:=fun e=>h e.symm
     simp only [h',decide_false,ih,List.findIdx?_cons,beq_iff_eq,h,if_false]
     cases hf:M.findIdx? fun r=>kid r==id with
     | none=>simp
     | some j=>simp [Nat.add_assoc,Nat.add_comm 1]

theorem chk_str {P:Program} {KT:TypeId} (hT:P.underlying KT=some .string) (id:List UInt8) (em:Bool) (d:Nat) (w:World):(Instr.checkKey em (d+1) KT (strV id)).run P w=.ok () w:=by
 simp [Instr.checkKey,run_underlying hT,strV]
theorem bits_str (id:List UInt8) (d:Nat):Instr.sameBits (d+1) (strV id) (strV id)=true:=by
 simp only [Instr.sameBits,strV,ba_beq,decide_true]

theorem str_ops {P:Program} {KT:TypeId} (hT:P.underlying KT=some .string):KeyOps P KT strV (fun _=>True):=
 ⟨fun id _ em w=>chk_str hT id em 9999 w,
  fun α val kid L M id _ w he _=>by
   have:=findNow_str (val:=val) (kid:=kid) id L M 0 he
   simp only [Nat.zero_add] at this
   simp only [Instr.findKey,Sem.run_bind,run_underlying hT,Result.andThen_ok,this]
   rfl,
  fun id w=>by
   unfold Instr.keyThatStays
   have:Instr.sameBits 10000 (strV id) (strV id)=true:=bits_str id 9999
   simp [this]⟩

end Go.Proofs.YtpmhjnhgpplmnaaGreatDoor.Sx
end

section
namespace Go.Proofs.YtpmhjnhgpplmnaaGreatDoor
open Go Go.Proofs.YtpmhjnhgpplmnaaGreatDoor.Sx

set_option maxRecDepth 100000
theorem disk_New_vc (a0:Int) (w:World) (R:Ending→World→Prop) (h:(((decide (a0<(0:Int)))||(decide (a0>(67108864:Int))))=true→(R (.returned (.tuple #[(.pointer none),(.iface 65 (.int .i64 7))])) w))∧(((decide (a0<(0:Int)))||(decide (a0>(67108864:Int))))=false→(∃t12 w1,(Instr.makeMap 149 none).run Tryz.prog w=.ok t12 w1∧(∃t13 w2,(Instr.makeMap 149 none).run Tryz.prog w1=.ok t13 w2∧(∃t14,(Instr.build 152 #[(1,(.int .i64 a0)),(2,t12),(3,t13)]).run Tryz.prog w2=.ok (.agg t14) w2∧(∃g15 w3,(Instr.box 152 (.agg t14)).run Tryz.prog w2=.ok (.pointer (some ⟨g15,0,none⟩)) w3∧(R (.returned (.tuple #[(.pointer (some ⟨g15,0,none⟩)),.nilIface])) w3))))))):Calls Tryz.prog 55 #[(.int .i64 a0)] w R:=calls_of_ev2 (tc:=.sq [.rg 2,.seq (.reg (.pp 3 (.ap 2 .nil))) (.cond (.seq (.rg 3) .leaf) .leaf),.reg (.op .p (.op (.r .val) (.op (.r .val) (.op (.ld .agg) (.op .bx (.pp 2 .nil))))))] .leaf) Tryz.func55 (by kernel_rfl) (by kernel_rfl) h

theorem disk_goodName_vc (a0:ByteArray) (w:World) (R:Ending→World→Prop) (h:(((a0.toList==(ByteArray.mk #[]).toList)||(decide ((a0.size:Int)>(64:Int))))=true→(R (.returned (.bool false)) w))∧(((a0.toList==(ByteArray.mk #[]).toList)||(decide ((a0.size:Int)>(64:Int))))=false→(∃(I:Int→World→Prop) (μ:Int→World→Nat),I 0 w∧(∀x13,∀w1,I x13 w1→((decide (x13<(a0.size:Int))=true→(∃J:Bool→World→Prop,(∃t18,(Instr.index 9 (.string a0) (.int .i64 x13)).run Tryz.prog w1=.ok (.int .u8 t18) w1∧((decide (t18<(33:Int))=true→(J true w1))∧(decide (t18<(33:Int))=false→(∃t23,(Instr.index 9 (.string a0) (.int .i64 x13)).run Tryz.prog w1=.ok (.int .u8 t23) w1∧((decide (t23>(126:Int))=true→(J true w1))∧(decide (t23>(126:Int))=false→(∃t29,(Instr.index 9 (.string a0) (.int .i64 x13)).run Tryz.prog w1=.ok (.int .u8 t29) w1∧(J (t29==(47:Int)) w1))))))))∧(∀x31,∀w2,J x31 w2→((x31=true→(R (.returned (.bool false)) w2))∧(x31=false→(I (IntKind.wrap .i64 (x13+1)) w2∧μ (IntKind.wrap .i64 (x13+1)) w2<μ x13 w1))))))∧(decide (x13<(a0.size:Int))=false→(R (.returned (.bool true)) w1))))))):Calls Tryz.prog 256 #[(.string a0)] w R:=calls_of_ev2 (tc:=.sq [.rg 1,.seq (.reg (.pp 3 (.ap 3 .nil))) (.cond (.seq (.rg 1) .leaf) .leaf),.seq (.rg 3) (.blk (.loop (lr [(2,2),(13,20)]) [13] [.int .i64] (.sq [.rg 1,.cond .leaf .leaf,.blk (.sq [.rg 2,.join (lr [(16,16)]) [31] [.bool] (.reg (.pp 2 (.op (.ld (.int .u8)) (.pp 2 (.sp 20 (.pp 11 .nil) (.pp 2 (.op (.ld (.int .u8)) (.pp 3 (.sp 26 (.pp 5 .nil) (.pp 2 (.op (.ld (.int .u8)) (.pp 2 .nil))))))))))))] (.cond (.seq (.rg 1) .leaf) .leaf))] (.rg 2)))),.rg 1] .leaf) Tryz.func256 (by kernel_rfl) (by kernel_rfl) h

theorem disk_meter_step_vc (a0b:Nat) (a0o:Nat) (w:World) (R:Ending→World→Prop) (h:∃J:Bool→World→Prop,(∃t6,LdQ 4 a0b (a0o+2) (.bool t6) w∧((t6=true→(∃t11,LdQ 3 a0b (a0o+3) (.int .i64 t11) w∧(J (t11==(0:Int)) w)))∧(t6=false→(J false w))))∧(∀x13,∀w1,J x13 w1→((x13=true→(∃w2,StQ 4 a0b (a0o+1) (.bool true) w1 w2∧(R (.returned (.iface 65 (.int .i64 1))) w2)))∧(x13=false→(∃t21,LdQ 3 a0b a0o (.int .i64 t21) w1∧(∃w3,StQ 3 a0b a0o (.int .i64 (IntKind.wrap .i64 (t21+1))) w1 w3∧(∃t28,LdQ 3 a0b (a0o+3) (.int .i64 t28) w3∧(∃w4,StQ 3 a0b (a0o+3) (.int .i64 (IntKind.wrap .i64 (t28- (1:Int)))) w3 w4∧(∃t35a t35n t35c,LdQ 29 a0b (a0o+4) (.slice t35a t35n t35c) w4∧((((t35n:Int)==(0:Int))=true→(R (.returned .nilIface) w4))∧(((t35n:Int)==(0:Int))=false→(∃t41a t41n t41c,LdQ 29 a0b (a0o+4) (.slice t41a t41n t41c) w4∧(∃t42b t42o,t41a=some ⟨t42b,t42o,none⟩∧0≤(0:Int)∧(0:Int)<(t41n:Int)∧(∃t43,LdQ 3 t42b (t42o+Int.toNat (0:Int)*1) (.int .i64 t43) w4∧(((t43==(0:Int))=true→(∃t49a t49n t49c,LdQ 29 a0b (a0o+4) (.slice t49a t49n t49c) w4∧(0≤(1:Int)∧(1:Int)≤(t49n:Int)∧(t49n:Int)≤(t49c:Int)∧∀t50a,SubA 1 t49a 1 t49c t50a→(∃w5,StQ 29 a0b (a0o+4) (.slice t50a ((t49n)-1) (t49c-1)) w4 w5∧(R (.returned (.iface 65 (.int .i64 2))) w5)))))∧((t43==(0:Int))=false→(∃t57a t57n t57c,LdQ 29 a0b (a0o+4) (.slice t57a t57n t57c) w4∧(∃t58b t58o,t57a=some ⟨t58b,t58o,none⟩∧0≤(0:Int)∧(0:Int)<(t57n:Int)∧(∃t59,LdQ 3 t58b (t58o+Int.toNat (0:Int)*1) (.int .i64 t59) w4∧(∃t61b t61o,t57a=some ⟨t61b,t61o,none⟩∧0≤(0:Int)∧(0:Int)<(t57n:Int)∧(∃w6,StQ 3 t61b (t61o+Int.toNat (0:Int)*1) (.int .i64 (IntKind.wrap .i64 (t59- (1:Int)))) w4 w6∧(R (.returned .nilIface) w6)))))))))))))))))))))):Calls Tryz.prog 178 #[(.pointer (some ⟨a0b,a0o,none⟩))] w R:=calls_of_ev2 (tc:=.sq [.rg 1,.seq (.join (lr [(3,11)]) [13] [.bool] (.reg (.pp 3 (.op (.ld .bool) (.op .p (.sp 7 (.pp 3 (.op (.ld (.int .i64)) (.pp 2 .nil))) (.pp 6 .nil))))))) (.cond (.sq [.reg (.pp 3 (.op .u .nil)),.rg 2] .leaf) .leaf),.reg (.pp 3 (.op (.ld (.int .i64)) (.pp 3 (.op .u .nil)))),.reg (.pp 3 (.op (.ld (.int .i64)) (.pp 3 (.op .u .nil)))),.seq (.reg (.pp 3 (.op (.ld .slice) (.pp 2 .nil)))) (.cond (.seq (.rg 1) .leaf) .leaf),.seq (.reg (.pp 3 (.op (.ld .slice) (.op .ix (.op (.ld (.int .i64)) (.op .p .nil)))))) (.cond (.sq [.reg (.pp 4 (.op (.ld .slice) (.op .sl (.pp 2 (.op .u .nil))))),.rg 2] .leaf) .leaf),.reg (.pp 3 (.op (.ld .slice) (.op .ix (.op (.ld (.int .i64)) (.op .p (.op .ix (.op .u .nil))))))),.rg 1] .leaf) Tryz.func178 (by kernel_rfl) (by kernel_rfl) h

theorem disk_Disk_ready_vc (a0b:Nat) (a0o:Nat) (a1a:Option Addr) (a1n:Nat) (a1c:Nat) (w:World) (R:Ending→World→Prop) (h:∃t14,LdQ 4 a0b (a0o+1) (.bool t14) w∧((t14=true→(R (.returned (.iface 65 (.int .i64 1))) w))∧(t14=false→(∃(I:Int→World→Prop) (μ:Int→World→Nat),I 0 w∧(∀x18,∀w1,I x18 w1→((decide (x18<(a1n:Int))=true→(∃t20b t20o,a1a=some ⟨t20b,t20o,none⟩∧0≤x18∧x18<(a1n:Int)∧(∃t21,LdQ 9 t20b (t20o+Int.toNat x18*1) (.string t21) w1∧(Calls Tryz.prog 256 #[(.string t21)] w1 fun e23 w2=>∃t23,e23=.returned (.bool t23)∧(((!t23)=true→(R (.returned (.iface 65 (.int .i64 6))) w2))∧((!t23)=false→(I (IntKind.wrap .i64 (x18+1)) w2∧μ (IntKind.wrap .i64 (x18+1)) w2<μ x18 w1)))))))∧(decide (x18<(a1n:Int))=false→(R (.returned .nilIface) w1)))))))):Calls Tryz.prog 177 #[(.pointer (some ⟨a0b,a0o,none⟩)),(.slice a1a a1n a1c)] w R:=calls_of_ev2 (tc:=.sq [.rg 1,.seq (.rg 2) (.cf .leaf),.seq (.reg (.pp 4 (.op (.ld .bool) .nil))) (.cond (.seq (.rg 2) .leaf) .leaf),.seq (.rg 3) (.blk (.loop (lr [(4,1),(6,1),(18,9)]) [18] [.int .i64] (.sq [.rg 1,.cond .leaf .leaf,.blk (.sq [.reg (.op .ix (.op (.ld .str) (.op .p .nil))),.reg (.op .p (.op (.cl [.bool]) (.op .p .nil)))] (.cond (.seq (.rg 2) .leaf) .leaf))] (.rg 2)))),.rg 1] .leaf) Tryz.func177 (by kernel_rfl) (by kernel_rfl) h

theorem disk_Disk_found_vc (a0b:Nat) (a0o:Nat) (a1:ByteArray) (w:World) (R:Ending→World→Prop) (h:∃t11a t11n t11c w1,(Instr.buildSlice 166 1 #[(0,(.string a1))]).run Tryz.prog w=.ok (.slice t11a t11n t11c) w1∧(Calls Tryz.prog 177 #[(.pointer (some ⟨a0b,a0o,none⟩)),(.slice t11a t11n t11c)] w1 fun e12 w2=>∃t12,e12=.returned t12∧(∃t14,(eqlS .neq 58 (.tmp 13) (.const .nilIface) t12 .nilIface).run Tryz.prog w2=.ok (.bool t14) w2∧((t14=true→(R (.returned (.tuple #[(.pointer none),t12])) w2))∧(t14=false→(∃t20,(Instr.loadAt 149 (.pointer (some ⟨a0b,a0o+6,none⟩))).run Tryz.prog w2=.ok t20 w2∧(∃t22_0 t22_1 w3,(Instr.lookup 149 t20 (.string a1) true).run Tryz.prog w2=.ok (.tuple #[t22_0,(.bool t22_1)]) w3∧(((!t22_1)=true→(R (.returned (.tuple #[(.pointer none),(.iface 65 (.int .i64 5))])) w3))∧((!t22_1)=false→(R (.returned (.tuple #[t22_0,.nilIface])) w3)))))))))):Calls Tryz.prog 149 #[(.pointer (some ⟨a0b,a0o,none⟩)),(.string a1)] w R:=calls_of_ev2 (tc:=.sq [.rg 2,.sq [.reg (.pp 2 (.op (.r .slice) (.op (.cl [.val]) (.op .p .nil)))),.reg (.op .p (.op (.ld .bool) .nil))] (.cond (.seq (.rg 3) .leaf) .leaf),.reg (.pp 3 (.op (.ld .val) (.op .p (.op (.rt [.val,.bool]) (.pp 5 .nil))))),.seq (.rg 2) (.cond (.seq (.rg 3) .leaf) .leaf),.rg 3] .leaf) Tryz.func149 (by kernel_rfl) (by kernel_rfl) h

theorem disk_Disk_Create_vc (a0b:Nat) (a0o:Nat) (a1:ByteArray) (w:World) (R:Ending→World→Prop) (h:∃t12a t12n t12c w1,(Instr.buildSlice 166 1 #[(0,(.string a1))]).run Tryz.prog w=.ok (.slice t12a t12n t12c) w1∧(Calls Tryz.prog 177 #[(.pointer (some ⟨a0b,a0o,none⟩)),(.slice t12a t12n t12c)] w1 fun e13 w2=>∃t13,e13=.returned t13∧(∃t15,(eqlS .neq 58 (.tmp 14) (.const .nilIface) t13 .nilIface).run Tryz.prog w2=.ok (.bool t15) w2∧((t15=true→(R (.returned t13) w2))∧(t15=false→(∃t21,(Instr.loadAt 149 (.pointer (some ⟨a0b,a0o+6,none⟩))).run Tryz.prog w2=.ok t21 w2∧(∃t23_0 t23_1 w3,(Instr.lookup 149 t21 (.string a1) true).run Tryz.prog w2=.ok (.tuple #[t23_0,(.bool t23_1)]) w3∧((t23_1=true→(R (.returned (.iface 65 (.int .i64 4))) w3))∧(t23_1=false→(∃t31,(Instr.loadAt 149 (.pointer (some ⟨a0b,a0o+6,none⟩))).run Tryz.prog w3=.ok t31 w3∧(∃t32 w4,(Builtin.len_ #[149] 3 #[t31]).run Tryz.prog w3=.ok (.int .i64 t32) w4∧((decide (t32≥(4096:Int))=true→(R (.returned (.iface 65 (.int .i64 19))) w4))∧(decide (t32≥(4096:Int))=false→(Calls Tryz.prog 178 #[(.pointer (some ⟨a0b,a0o,none⟩))] w4 fun e38 w5=>∃t38,e38=.returned t38∧(∃t40,(eqlS .neq 58 (.tmp 39) (.const .nilIface) t38 .nilIface).run Tryz.prog w5=.ok (.bool t40) w5∧((t40=true→(R (.returned t38) w5))∧(t40=false→(∃t42,(Instr.build 169 #[]).run Tryz.prog w5=.ok (.agg t42) w5∧(∃g43 w6,(Instr.box 169 (.agg t42)).run Tryz.prog w5=.ok (.pointer (some ⟨g43,0,none⟩)) w6∧(∃t47,(Instr.loadAt 149 (.pointer (some ⟨a0b,a0o+6,none⟩))).run Tryz.prog w6=.ok t47 w6∧(∃w7,(Instr.mapUpdate 149 t47 (.string a1) (.pointer (some ⟨g43,0,none⟩))).run Tryz.prog w6=.ok () w7∧(∃t54a t54n t54c,LdQ 150 a0b (a0o+8) (.slice t54a t54n t54c) w7∧(∃t57,(Instr.build 164 #[(0,(.pointer (some ⟨g43,0,none⟩))),(2,(.string a1))]).run Tryz.prog w7=.ok (.agg t57) w7∧(∃t58a t58n t58c w8,(Instr.buildSlice 150 1 #[(0,(.agg t57))]).run Tryz.prog w7=.ok (.slice t58a t58n t58c) w8∧(∃t59a t59n t59c w9,(Builtin.append_ #[150,150] 150 #[(.slice t54a t54n t54c),(.slice t58a t58n t58c)]).run Tryz.prog w8=.ok (.slice t59a t59n t59c) w9∧(∃w10,StQ 150 a0b (a0o+8) (.slice t59a t59n t59c) w9 w10∧(R (.returned .nilIface) w10))))))))))))))))))))))))))):Calls Tryz.prog 144 #[(.pointer (some ⟨a0b,a0o,none⟩)),(.string a1)] w R:=calls_of_ev2 (tc:=.sq [.rg 1,.sq [.reg (.pp 2 (.op (.r .slice) (.op (.cl [.val]) (.op .p .nil)))),.reg (.op .p (.op (.ld .bool) .nil))] (.cond (.seq (.rg 2) .leaf) .leaf),.sq [.reg (.pp 3 (.op (.ld .val) (.op .p (.op (.rt [.val,.bool]) (.pp 5 .nil))))),.rg 1] (.cond (.seq (.rg 2) .leaf) .leaf),.seq (.reg (.pp 3 (.op (.ld .val) (.op (.r (.int .i64)) (.op .p .nil))))) (.cond (.seq (.rg 2) .leaf) .leaf),.sq [.reg (.pp 3 (.op (.cl [.val]) (.op .p .nil))),.reg (.op .p (.op (.ld .bool) .nil))] (.cond (.seq (.rg 2) .leaf) .leaf),.reg (.op (.ld .agg) (.op .bx (.op .p .nil))),.reg (.pp 3 (.op (.ld .val) (.pp 2 (.op .u .nil)))),.reg (.pp 4 (.op (.ld .slice) (.pp 2 (.op (.ld .agg) (.op (.r .slice) (.op (.r .slice) (.pp 2 (.op .u .nil)))))))),.rg 1] .leaf) Tryz.func144 (by kernel_rfl) (by kernel_rfl) h

theorem disk_Disk_Append_vc (a0b:Nat) (a0o:Nat) (a1:ByteArray) (a2a:Option Addr) (a2n:Nat) (a2c:Nat) (w:World) (R:Ending→World→Prop) (h:Calls Tryz.prog 149 #[(.pointer (some ⟨a0b,a0o,none⟩)),(.string a1)] w fun e18 w1=>∃t18_0 t18_1,e18=.returned (.tuple #[t18_0,t18_1])∧(∃t22,(eqlS .neq 58 (.tmp 21) (.const .nilIface) t18_1 .nilIface).run Tryz.prog w1=.ok (.bool t22) w1∧((t22=true→(R (.returned t18_1) w1))∧(t22=false→(∃S:World→Prop,S w1.drew∧(∃t27,(∀w',S w'→LdQ 3 a0b (a0o+5) (.int .i64 t27) w')∧(Calls Tryz.prog 228 #[(.pointer (some ⟨a0b,a0o,none⟩))] w1.drew fun e29 w2=>∃t29,e29=.returned (.int .i64 t29)∧(∃S_1:World→Prop,(∀w',S_1 w'→S w')∧S_1 w2∧(∃(I:Int→Int→World→Prop) (μ:Int→Int→World→Nat),I (IntKind.wrap .i64 (t27-t29)) 0 w2∧(∀x9 x33,∀w3,I x9 x33 w3→((decide (x33<(a2n:Int))=true→(∃t35b t35o,a2a=some ⟨t35b,t35o,none⟩∧0≤x33∧x33<(a2n:Int)∧(∃t36a t36n t36c,LdQ 26 t35b (t35o+Int.toNat x33*1) (.slice t36a t36n t36c) w3∧((decide ((t36n:Int)>x9)=true→(R (.returned (.iface 65 (.int .i64 3))) w3))∧(decide ((t36n:Int)>x9)=false→(I (IntKind.wrap .i64 (x9- (t36n:Int))) (IntKind.wrap .i64 (x33+1)) w3∧μ (IntKind.wrap .i64 (x9- (t36n:Int))) (IntKind.wrap .i64 (x33+1)) w3<μ x9 x33 w3))))))∧(decide (x33<(a2n:Int))=false→(Calls Tryz.prog 178 #[(.pointer (some ⟨a0b,a0o,none⟩))] w3 fun e50 w4=>∃t50,e50=.returned t50∧(∃t52,(eqlS .neq 58 (.tmp 51) (.const .nilIface) t50 .nilIface).run Tryz.prog w4=.ok (.bool t52) w4∧((t52=true→(R (.returned t50) w4))∧(t52=false→(∃(I_1:Int→World→Prop) (μ_1:Int→World→Nat),I_1 0 w4∧(∀x56,∀w5,I_1 x56 w5→((decide (x56<(a2n:Int))=true→(∃t58b t58o,a2a=some ⟨t58b,t58o,none⟩∧0≤x56∧x56<(a2n:Int)∧(∃t59a t59n t59c,LdQ 26 t58b (t58o+Int.toNat x56*1) (.slice t59a t59n t59c) w5∧(∃(t62b t62o:Nat),t18_0=.pointer (some ⟨t62b,t62o,none⟩)∧(∃t64a t64n t64c,LdQ 26 t62b t62o (.slice t64a t64n t64c) w5∧(∃t66a t66n t66c w6,(Builtin.append_ #[26,26] 26 #[(.slice t64a t64n t64c),(.slice t59a t59n t59c)]).run Tryz.prog w5=.ok (.slice t66a t66n t66c) w6∧(∃(t67b t67o:Nat),t18_0=.pointer (some ⟨t67b,t67o,none⟩)∧(∃w7,StQ 26 t67b t67o (.slice t66a t66n t66c) w6 w7∧(I_1 (IntKind.wrap .i64 (x56+1)) w7∧μ_1 (IntKind.wrap .i64 (x56+1)) w7<μ_1 x56 w5)))))))))∧(decide (x56<(a2n:Int))=false→(R (.returned .nilIface) w5))))))))))))))))))))):Calls Tryz.prog 145 #[(.pointer (some ⟨a0b,a0o,none⟩)),(.string a1),(.slice a2a a2n a2c)] w R:=calls_of_ev2 (tc:=.sq [.rg 1,.reg (.pp 2 (.op (.cl [.val,.val]) (.pp 5 .nil))),.seq (.reg (.op .p (.op (.ld .bool) .nil))) (.cond (.seq (.rg 2) .leaf) .leaf),.drawS (.tks [0,1,2,4] (.ts 3 (.int .i64) (.go 5 (.cl [.int .i64]) (.tks [6,7] .nil)))) [],.seq (.rg 3) (.blk (.loop (lr [(6,1),(9,1),(11,1),(33,14)]) [9,33] [.int .i64,.int .i64] (.sq [.rg 1,.cond .leaf .leaf,.blk (.sq [.reg (.op .ix (.op (.ld .slice) (.op .p .nil))),.seq (.rg 4) (.cond (.seq (.rg 2) .leaf) .leaf)] (.rg 5))] (.rg 2)))),.sq [.reg (.pp 3 (.op (.cl [.val]) (.op .p .nil))),.reg (.op .p (.op (.ld .bool) .nil))] (.cond (.seq (.rg 2) .leaf) .leaf),.seq (.rg 3) (.blk (.loop (lr [(14,1),(56,14)]) [56] [.int .i64] (.sq [.rg 1,.cond .leaf .leaf,.blk (.seq (.reg (.op .ix (.op (.ld .slice) (.op .p .nil)))) (.reg (.pp 2 (.op .nc (.op .p (.op (.ld .slice) (.op .p (.op (.r .slice) (.op .nc (.op .p (.op .u .nil)))))))))))] (.rg 2)))),.rg 1] .leaf) Tryz.func145 (by kernel_rfl) (by kernel_rfl) h

theorem disk_Disk_Sync_vc (a0b:Nat) (a0o:Nat) (a1:ByteArray) (w:World) (R:Ending→World→Prop) (h:Calls Tryz.prog 149 #[(.pointer (some ⟨a0b,a0o,none⟩)),(.string a1)] w fun e11 w1=>∃t11_0 t11_1,e11=.returned (.tuple #[t11_0,t11_1])∧(∃t15,(eqlS .neq 58 (.tmp 14) (.const .nilIface) t11_1 .nilIface).run Tryz.prog w1=.ok (.bool t15) w1∧((t15=true→(R (.returned t11_1) w1))∧(t15=false→(Calls Tryz.prog 178 #[(.pointer (some ⟨a0b,a0o,none⟩))] w1 fun e20 w2=>∃t20,e20=.returned t20∧(∃t22,(eqlS .neq 58 (.tmp 21) (.const .nilIface) t20 .nilIface).run Tryz.prog w2=.ok (.bool t22) w2∧((t22=true→(R (.returned t20) w2))∧(t22=false→(∃(t26b t26o:Nat),t11_0=.pointer (some ⟨t26b,t26o,none⟩)∧(∃t28a t28n t28c,LdQ 26 t26b t26o (.slice t28a t28n t28c) w2∧(∃(t30b t30o:Nat),t11_0=.pointer (some ⟨t30b,t30o,none⟩)∧(∃w3,StQ 3 t30b (t30o+1) (.int .i64 (t28n:Int)) w2 w3∧(R (.returned .nilIface) w3))))))))))))):Calls Tryz.prog 146 #[(.pointer (some ⟨a0b,a0o,none⟩)),(.string a1)] w R:=calls_of_ev2 (tc:=.sq [.rg 1,.reg (.pp 2 (.op (.cl [.val,.val]) (.pp 5 .nil))),.seq (.reg (.op .p (.op (.ld .bool) .nil))) (.cond (.seq (.rg 2) .leaf) .leaf),.sq [.reg (.pp 3 (.op (.cl [.val]) (.op .p .nil))),.reg (.op .p (.op (.ld .bool) .nil))] (.cond (.seq (.rg 2) .leaf) .leaf),.reg (.pp 2 (.op .nc (.op .p (.op (.ld .slice) (.op .p (.op .nc (.op .p (.op .u .nil)))))))),.rg 1] .leaf) Tryz.func146 (by kernel_rfl) (by kernel_rfl) h

theorem disk_Disk_SyncDir_vc (a0b:Nat) (a0o:Nat) (w:World) (R:Ending→World→Prop) (h:Calls Tryz.prog 177 #[(.pointer (some ⟨a0b,a0o,none⟩)),(.slice none 0 0)] w fun e6 w1=>∃t6,e6=.returned t6∧(∃t8,(eqlS .neq 58 (.tmp 7) (.const .nilIface) t6 .nilIface).run Tryz.prog w1=.ok (.bool t8) w1∧((t8=true→(R (.returned t6) w1))∧(t8=false→(Calls Tryz.prog 178 #[(.pointer (some ⟨a0b,a0o,none⟩))] w1 fun e13 w2=>∃t13,e13=.returned t13∧(∃t15,(eqlS .neq 58 (.tmp 14) (.const .nilIface) t13 .nilIface).run Tryz.prog w2=.ok (.bool t15) w2∧((t15=true→(R (.returned t13) w2))∧(t15=false→(∃t21,(Instr.loadAt 149 (.pointer (some ⟨a0b,a0o+6,none⟩))).run Tryz.prog w2=.ok t21 w2∧(Calls Tryz.prog 78 #[t21] w2 fun e22 w3=>∃t22,e22=.returned t22∧(∃w4,(Instr.storeAt 149 (.pointer (some ⟨a0b,a0o+7,none⟩)) t22).run Tryz.prog w3=.ok () w4∧(∃w5,StQ 150 a0b (a0o+8) (.slice none 0 0) w4 w5∧(R (.returned .nilIface) w5))))))))))))):Calls Tryz.prog 84 #[(.pointer (some ⟨a0b,a0o,none⟩))] w R:=calls_of_ev2 (tc:=.sq [.rg 1,.sq [.reg (.op .p (.op (.cl [.val]) (.op .p .nil))),.reg (.op .p (.op (.ld .bool) .nil))] (.cond (.seq (.rg 2) .leaf) .leaf),.sq [.reg (.pp 3 (.op (.cl [.val]) (.op .p .nil))),.reg (.op .p (.op (.ld .bool) .nil))] (.cond (.seq (.rg 2) .leaf) .leaf),.reg (.pp 4 (.op (.ld .val) (.op (.cl [.val]) (.pp 2 (.op .u .nil))))),.reg (.pp 3 (.op .u .nil)),.rg 1] .leaf) Tryz.func84 (by kernel_rfl) (by kernel_rfl) h

theorem disk_Disk_Rename_vc (a0b:Nat) (a0o:Nat) (a1:ByteArray) (a2:ByteArray) (w:World) (R:Ending→World→Prop) (h:∃t15a t15n t15c w1,(Instr.buildSlice 166 2 #[(0,(.string a1)),(1,(.string a2))]).run Tryz.prog w=.ok (.slice t15a t15n t15c) w1∧(Calls Tryz.prog 177 #[(.pointer (some ⟨a0b,a0o,none⟩)),(.slice t15a t15n t15c)] w1 fun e16 w2=>∃t16,e16=.returned t16∧(∃t18,(eqlS .neq 58 (.tmp 17) (.const .nilIface) t16 .nilIface).run Tryz.prog w2=.ok (.bool t18) w2∧((t18=true→(R (.returned t16) w2))∧(t18=false→(Calls Tryz.prog 149 #[(.pointer (some ⟨a0b,a0o,none⟩)),(.string a1)] w2 fun e23 w3=>∃t23_0 t23_1,e23=.returned (.tuple #[t23_0,t23_1])∧(∃t27,(eqlS .neq 58 (.tmp 26) (.const .nilIface) t23_1 .nilIface).run Tryz.prog w3=.ok (.bool t27) w3∧((t27=true→(R (.returned t23_1) w3))∧(t27=false→(Calls Tryz.prog 178 #[(.pointer (some ⟨a0b,a0o,none⟩))] w3 fun e32 w4=>∃t32,e32=.returned t32∧(∃t34,(eqlS .neq 58 (.tmp 33) (.const .nilIface) t32 .nilIface).run Tryz.prog w4=.ok (.bool t34) w4∧((t34=true→(R (.returned t32) w4))∧(t34=false→(∃t38,(Instr.build 164 #[(1,(.string a1)),(2,(.string a2))]).run Tryz.prog w4=.ok (.agg t38) w4∧(∃g11 w5,AlQ 164 g11 w4 w5∧(∃w6,StQ 164 g11 0 (.agg t38) w5 w6∧(∃S:World→Prop,S w6.drew∧(∃t42,(∀w',S w'→(Instr.loadAt 149 (.pointer (some ⟨a0b,a0o+6,none⟩))).run Tryz.prog w'=.ok t42 w')∧(∃t43,(∀w',S w'→LdQ 164 g11 0 (.agg t43) w')∧(Calls Tryz.prog 79 #[t42,(.agg t43)] w6.drew fun e44 w7=>e44=.returned (.tuple #[])∧(∃S_1:World→Prop,(∀w',S_1 w'→S w')∧S_1 w7∧(∃S_2:World→Prop,S_2 w7.drew∧(∃t49a t49n t49c,(∀w',S_2 w'→LdQ 150 a0b (a0o+8) (.slice t49a t49n t49c) w')∧(∃t50,(∀w',S_2 w'→LdQ 164 g11 0 (.agg t50) w')∧(∃t51a t51n t51c w8,(Instr.buildSlice 150 1 #[(0,(.agg t50))]).run Tryz.prog w7.drew=.ok (.slice t51a t51n t51c) w8∧(∃S_3:World→Prop,(∀w',S_3 w'→S_2 w')∧S_3 w8∧(∃t52a t52n t52c w9,(Builtin.append_ #[150,150] 150 #[(.slice t49a t49n t49c),(.slice t51a t51n t51c)]).run Tryz.prog w8=.ok (.slice t52a t52n t52c) w9∧(∃S_4:World→Prop,(∀w',S_4 w'→S_3 w')∧S_4 w9∧(∃w10,StQ 150 a0b (a0o+8) (.slice t52a t52n t52c) w9 w10∧(R (.returned .nilIface) w10)))))))))))))))))))))))))))))):Calls Tryz.prog 190 #[(.pointer (some ⟨a0b,a0o,none⟩)),(.string a1),(.string a2)] w R:=calls_of_ev2 (tc:=.sq [.rg 1,.sq [.reg (.pp 3 (.op (.r .slice) (.op (.cl [.val]) (.op .p .nil)))),.reg (.op .p (.op (.ld .bool) .nil))] (.cond (.seq (.rg 2) .leaf) .leaf),.sq [.reg (.pp 2 (.op (.cl [.val,.val]) (.pp 5 .nil))),.reg (.op .p (.op (.ld .bool) .nil))] (.cond (.seq (.rg 2) .leaf) .leaf),.sq [.reg (.pp 3 (.op (.cl [.val]) (.op .p .nil))),.reg (.op .p (.op (.ld .bool) .nil))] (.cond (.seq (.rg 2) .leaf) .leaf),.reg (.pp 2 (.op (.ld .agg) (.op .bx (.op .u .nil)))),.drawS (.tks [0,1,2] (.ts 3 .val (.ts 4 .agg (.go 5 (.cl []) .nil)))) [],.drawS (.tks [0,1,2,3] (.ts 4 .slice (.ts 5 .agg (.go 6 (.r .slice) (.go 7 (.r .slice) (.tks [8,9] (.go 10 .u .nil))))))) [10],.rg 1] .leaf) Tryz.func190 (by kernel_rfl) (by kernel_rfl) h

theorem disk_Disk_Remove_vc (a0b:Nat) (a0o:Nat) (a1:ByteArray) (w:World) (R:Ending→World→Prop) (h:Calls Tryz.prog 149 #[(.pointer (some ⟨a0b,a0o,none⟩)),(.string a1)] w fun e12 w1=>∃t12_0 t12_1,e12=.returned (.tuple #[t12_0,t12_1])∧(∃t16,(eqlS .neq 58 (.tmp 15) (.const .nilIface) t12_1 .nilIface).run Tryz.prog w1=.ok (.bool t16) w1∧((t16=true→(R (.returned t12_1) w1))∧(t16=false→(Calls Tryz.prog 178 #[(.pointer (some ⟨a0b,a0o,none⟩))] w1 fun e21 w2=>∃t21,e21=.returned t21∧(∃t23,(eqlS .neq 58 (.tmp 22) (.const .nilIface) t21 .nilIface).run Tryz.prog w2=.ok (.bool t23) w2∧((t23=true→(R (.returned t21) w2))∧(t23=false→(∃t26,(Instr.build 164 #[(1,(.string a1))]).run Tryz.prog w2=.ok (.agg t26) w2∧(∃g8 w3,AlQ 164 g8 w2 w3∧(∃w4,StQ 164 g8 0 (.agg t26) w3 w4∧(∃S:World→Prop,S w4.drew∧(∃t30,(∀w',S w'→(Instr.loadAt 149 (.pointer (some ⟨a0b,a0o+6,none⟩))).run Tryz.prog w'=.ok t30 w')∧(∃t31,(∀w',S w'→LdQ 164 g8 0 (.agg t31) w')∧(Calls Tryz.prog 79 #[t30,(.agg t31)] w4.drew fun e32 w5=>e32=.returned (.tuple #[])∧(∃S_1:World→Prop,(∀w',S_1 w'→S w')∧S_1 w5∧(∃S_2:World→Prop,S_2 w5.drew∧(∃t37a t37n t37c,(∀w',S_2 w'→LdQ 150 a0b (a0o+8) (.slice t37a t37n t37c) w')∧(∃t38,(∀w',S_2 w'→LdQ 164 g8 0 (.agg t38) w')∧(∃t39a t39n t39c w6,(Instr.buildSlice 150 1 #[(0,(.agg t38))]).run Tryz.prog w5.drew=.ok (.slice t39a t39n t39c) w6∧(∃S_3:World→Prop,(∀w',S_3 w'→S_2 w')∧S_3 w6∧(∃t40a t40n t40c w7,(Builtin.append_ #[150,150] 150 #[(.slice t37a t37n t37c),(.slice t39a t39n t39c)]).run Tryz.prog w6=.ok (.slice t40a t40n t40c) w7∧(∃S_4:World→Prop,(∀w',S_4 w'→S_3 w')∧S_4 w7∧(∃w8,StQ 150 a0b (a0o+8) (.slice t40a t40n t40c) w7 w8∧(R (.returned .nilIface) w8))))))))))))))))))))))))):Calls Tryz.prog 89 #[(.pointer (some ⟨a0b,a0o,none⟩)),(.string a1)] w R:=calls_of_ev2 (tc:=.sq [.rg 1,.sq [.reg (.pp 2 (.op (.cl [.val,.val]) (.pp 5 .nil))),.reg (.op .p (.op (.ld .bool) .nil))] (.cond (.seq (.rg 2) .leaf) .leaf),.sq [.reg (.pp 3 (.op (.cl [.val]) (.op .p .nil))),.reg (.op .p (.op (.ld .bool) .nil))] (.cond (.seq (.rg 2) .leaf) .leaf),.reg (.op .p (.op (.ld .agg) (.op .bx (.op .u .nil)))),.drawS (.tks [0,1,2] (.ts 3 .val (.ts 4 .agg (.go 5 (.cl []) .nil)))) [],.drawS (.tks [0,1,2,3] (.ts 4 .slice (.ts 5 .agg (.go 6 (.r .slice) (.go 7 (.r .slice) (.tks [8,9] (.go 10 .u .nil))))))) [10],.rg 1] .leaf) Tryz.func89 (by kernel_rfl) (by kernel_rfl) h

theorem disk_dir_make_vc (a0:Value) (a1:Array Value) (w:World) (R:Ending→World→Prop) (h:∃g3 w1,(Instr.box 164 (.agg a1)).run Tryz.prog w=.ok (.pointer (some ⟨g3,0,none⟩)) w1∧(∃t7,(Instr.loadAt 162 (.pointer (some ⟨g3,0,none⟩))).run Tryz.prog w1=.ok t7 w1∧(∃t8,(eqlS .neq 162 (.tmp 7) (.const (.pointer none)) t7 (.pointer none)).run Tryz.prog w1=.ok (.bool t8) w1∧((t8=true→(∃t11,LdQ 9 g3 2 (.string t11) w1∧(∃t13,(Instr.loadAt 162 (.pointer (some ⟨g3,0,none⟩))).run Tryz.prog w1=.ok t13 w1∧(∃w2,(Instr.mapUpdate 149 a0 (.string t11) t13).run Tryz.prog w1=.ok () w2∧(R (.returned (.tuple #[])) w2)))))∧(t8=false→(∃t17,LdQ 9 g3 1 (.string t17) w1∧(∃t18_0 t18_1 w3,(Instr.lookup 149 a0 (.string t17) true).run Tryz.prog w1=.ok (.tuple #[t18_0,(.bool t18_1)]) w3∧(((!t18_1)=true→(R (.returned (.tuple #[])) w3))∧((!t18_1)=false→(∃t25,LdQ 9 g3 1 (.string t25) w3∧(∃tNone w4,(Builtin.delete_ #[149,9] 0 #[a0,(.string t25)]).run Tryz.prog w3=.ok tNone w4∧(∃t27,LdQ 9 g3 2 (.string t27) w4∧(∃J:World→Prop,(((!(t27.toList==(ByteArray.mk #[]).toList))=true→(∃t31,LdQ 9 g3 2 (.string t31) w4∧(∃w5,(Instr.mapUpdate 149 a0 (.string t31) t18_0).run Tryz.prog w4=.ok () w5∧(J  w5))))∧((!(t27.toList==(ByteArray.mk #[]).toList))=false→(J  w4)))∧(∀w6,J  w6→(R (.returned (.tuple #[])) w6))))))))))))))):Calls Tryz.prog 79 #[a0,(.agg a1)] w R:=calls_of_ev2 (tc:=.sq [.reg (.op .bx .nil),.seq (.reg (.op .p (.op (.ld .val) (.op (.ld .bool) .nil)))) (.cond (.seq (.reg (.pp 2 (.op (.ld .str) (.op .p (.op (.ld .val) (.op .u .nil)))))) .leaf) .leaf),.reg (.pp 2 (.op (.ld .str) (.op (.rt [.val,.bool]) (.pp 5 .nil)))),.seq (.rg 2) (.cond .leaf .leaf),.reg (.pp 2 (.op (.ld .str) (.op (.r .val) .nil))),.reg (.op .p (.op (.ld .str) (.op .p .nil)))] (.join (lr [(29,4)]) [] [] (.cond (.reg (.pp 2 (.op (.ld .str) (.op .p (.op .u .nil))))) .leaf))) Tryz.func79 (by kernel_rfl) (by kernel_rfl) h

theorem disk_Disk_Read_vc (a0b:Nat) (a0o:Nat) (a1:ByteArray) (w:World) (R:Ending→World→Prop) (h:Calls Tryz.prog 149 #[(.pointer (some ⟨a0b,a0o,none⟩)),(.string a1)] w fun e11 w1=>∃t11_0 t11_1,e11=.returned (.tuple #[t11_0,t11_1])∧(∃t15,(eqlS .neq 58 (.tmp 14) (.const .nilIface) t11_1 .nilIface).run Tryz.prog w1=.ok (.bool t15) w1∧((t15=true→(R (.returned (.tuple #[(.slice none 0 0),t11_1])) w1))∧(t15=false→(∃(t18b t18o:Nat),t11_0=.pointer (some ⟨t18b,t18o,none⟩)∧(∃t20a t20n t20c,LdQ 26 t18b t18o (.slice t20a t20n t20c) w1∧(Calls Tryz.prog 150 #[(.slice t20a t20n t20c)] w1 fun e21 w2=>∃t21a t21n t21c,e21=.returned (.slice t21a t21n t21c)∧(R (.returned (.tuple #[(.slice t21a t21n t21c),.nilIface])) w2)))))))):Calls Tryz.prog 57 #[(.pointer (some ⟨a0b,a0o,none⟩)),(.string a1)] w R:=calls_of_ev2 (tc:=.sq [.rg 2,.reg (.pp 2 (.op (.cl [.val,.val]) (.pp 5 .nil))),.seq (.reg (.op .p (.op (.ld .bool) .nil))) (.cond (.seq (.rg 3) .leaf) .leaf),.reg (.op .p (.op .nc (.op .p (.op (.ld .slice) (.op (.cl [.slice]) (.pp 2 .nil))))))] .leaf) Tryz.func57 (by kernel_rfl) (by kernel_rfl) h

theorem disk_Disk_List_vc (a0b:Nat) (a0o:Nat) (w:World) (R:Ending→World→Prop) (h:∃t8,(Instr.loadAt 149 (.pointer (some ⟨a0b,a0o+6,none⟩))).run Tryz.prog w=.ok t8 w∧(Calls Tryz.prog 174 #[t8] w fun e9 w1=>∃t9,e9=.returned t9∧(Calls Tryz.prog 173 #[t9] w1 fun e10 w2=>∃t10a t10n t10c,e10=.returned (.slice t10a t10n t10c)∧(R (.returned (.slice t10a t10n t10c)) w2)))):Calls Tryz.prog 80 #[(.pointer (some ⟨a0b,a0o,none⟩))] w R:=calls_of_ev2 (tc:=.sq [.rg 1,.seq (.rg 2) (.cf .leaf),.reg (.pp 3 (.op (.ld .val) (.op (.cl [.val]) (.op (.cl [.slice]) (.op .p .nil)))))] .leaf) Tryz.func80 (by kernel_rfl) (by kernel_rfl) h

theorem disk_Disk_Used_vc (a0b:Nat) (a0o:Nat) (w:World) (R:Ending→World→Prop) (h:∃t11,(Instr.loadAt 149 (.pointer (some ⟨a0b,a0o+6,none⟩))).run Tryz.prog w=.ok t11 w∧(∃t12 w1,(Instr.range 149 t11).run Tryz.prog w=.ok t12 w1∧(∃(I:Int→World→Prop) (μ:Int→World→Nat),I 0 w1∧(∀x3,∀w2,I x3 w2→(∃(t13b:Bool) (t13r:List Value) (w3:World),(Instr.next t12 false 0).run Tryz.prog w2=.ok (.tuple ⟨.bool t13b::t13r⟩) w3∧((t13b=true→(∃t15_0 t15_1b t15_1o w4,(Instr.entry t12).run Tryz.prog w3=.ok (.tuple #[t15_0,(.pointer (some ⟨t15_1b,t15_1o,none⟩))]) w4∧(∃t21a t21n t21c,LdQ 26 t15_1b t15_1o (.slice t21a t21n t21c) w4∧(I (IntKind.wrap .i64 (x3+(t21n:Int))) w4∧μ (IntKind.wrap .i64 (x3+(t21n:Int))) w4<μ x3 w2))))∧(t13b=false→(R (.returned (.int .i64 x3)) w3)))))))):Calls Tryz.prog 228 #[(.pointer (some ⟨a0b,a0o,none⟩))] w R:=calls_of_ev2 (tc:=.sq [.rg 1,.seq (.rg 2) (.cf .leaf),.rg 1,.seq (.reg (.pp 3 (.op (.ld .val) (.op (.r .val) .nil)))) (.blk (.loop (lr [(3,1),(5,1),(13,11)]) [3] [.int .i64] (.sq [.reg (.op .nx (.op .p .nil)),.cond .leaf .leaf] (.blk (.seq (.reg (.op (.rt [.val,.ptr]) (.pp 2 .nil))) (.reg (.pp 4 (.op (.ld .slice) (.pp 3 .nil))))))))),.rg 2] .leaf) Tryz.func228 (by kernel_rfl) (by kernel_rfl) h

theorem disk_Disk_Steps_vc (a0b:Nat) (a0o:Nat) (w:World) (R:Ending→World→Prop) (h:∃t9,LdQ 3 a0b a0o (.int .i64 t9) w∧(R (.returned (.int .i64 t9)) w)):Calls Tryz.prog 61 #[(.pointer (some ⟨a0b,a0o,none⟩))] w R:=calls_of_ev2 (tc:=.sq [.rg 1,.seq (.rg 2) (.cf .leaf),.reg (.pp 4 (.op (.ld (.int .i64)) (.op .p .nil)))] .leaf) Tryz.func61 (by kernel_rfl) (by kernel_rfl) h

theorem disk_Disk_Down_vc (a0b:Nat) (a0o:Nat) (w:World) (R:Ending→World→Prop) (h:∃t10,LdQ 4 a0b (a0o+1) (.bool t10) w∧(R (.returned (.bool t10)) w)):Calls Tryz.prog 64 #[(.pointer (some ⟨a0b,a0o,none⟩))] w R:=calls_of_ev2 (tc:=.sq [.rg 1,.reg (.pp 7 (.op (.ld .bool) (.pp 2 .nil)))] .leaf) Tryz.func64 (by kernel_rfl) (by kernel_rfl) h

theorem maps_Clone_disk_dir_string_disk_file_vc (a0:Value) (w:World) (R:Ending→World→Prop) (h:∃t4,(eqlS .eql 149 (.tmp 3) (.const (.map none)) a0 (.map none)).run Tryz.prog w=.ok (.bool t4) w∧((t4=true→(R (.returned (.map none)) w))∧(t4=false→(∃t7 w1,(callFunc 172 #[(.iface 149 a0)]).run Tryz.prog w=.ok (.value t7) w1∧(∃t8,(Instr.typeAssert t7 20 149 false).run Tryz.prog w1=.ok t8 w1∧(R (.returned t8) w1)))))):Calls Tryz.prog 78 #[a0] w R:=calls_of_ev2 (tc:=.sq [.rg 1,.seq (.reg (.op .p (.op (.ld .bool) .nil))) (.cond (.seq (.rg 1) .leaf) .leaf),.reg (.pp 2 (.op (.cx .val) (.op (.ld .val) (.op .p .nil))))] .leaf) Tryz.func78 (by kernel_rfl) (by kernel_rfl) h

end Go.Proofs.YtpmhjnhgpplmnaaGreatDoor
end
