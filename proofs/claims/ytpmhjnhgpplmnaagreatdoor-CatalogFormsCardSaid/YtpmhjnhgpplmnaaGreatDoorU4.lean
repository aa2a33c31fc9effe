/- The proof of CatalogFormsCardSaid, part 4: what it rests on (conditions: those that each theorem names). -/
import Derived.Test.YtpmhjnhgpplmnaaGreatDoorU3
import Derived.Test.YtpmhjnhgpplmnaaGreatDoorRows
import Derived.Lib.AppendZerosOnto
import Derived.Shelf.Strconv.Itoa3
import Derived.Ground.NamesProg
import Derived.Test.YtpmhjnhgpplmnaaGreatDoorProg
import Derived.Maps.RangeRun
import Derived.RangeFuncRecord
import Derived.Lib.ItoaLen
import Derived.Lib.ItoaMem
import Derived.Lib.AtoiAll
import Derived.Shelf.LaysC
import Derived.Shelf.Strconv.ErrVarAll
section
namespace Go.Proofs.YtpmhjnhgpplmnaaGreatDoor
open Go Go.Proofs.YtpmhjnhgpplmnaaGreatDoor.Sx

set_option maxRecDepth 100000
theorem seal_tag_vc (a0:Array Value) (a1:Int) (a2a:Option Addr) (a2n:Nat) (a2c:Nat) (a3a:Option Addr) (a3n:Nat) (a3c:Nat) (a4a:Option Addr) (a4n:Nat) (a4c:Nat) (w:World) (R:Ending→World→Prop) (h:∃g5 w1,(Instr.box 41 (.agg a0)).run Tryz.prog w=.ok (.pointer (some ⟨g5,0,none⟩)) w1∧(∃g10 w2,AlQ 39 g10 w1 w2∧(0≤(32:Int)∧(32:Int)≤(32:Int)∧(∃t14a t14n t14c w3,(Instr.buildSlice 26 1 #[(0,(.int .u8 a1))]).run Tryz.prog w2.drew=.ok (.slice t14a t14n t14c) w3∧(∃t18a t18n t18c w4,(Instr.buildSlice 24 4 #[(0,(.slice t14a t14n t14c)),(1,(.slice a2a a2n a2c)),(2,(.slice a3a a3n a3c)),(3,(.slice a4a a4n a4c))]).run Tryz.prog w3=.ok (.slice t18a t18n t18c) w4∧(Calls Tryz.prog 100 #[(.slice t18a t18n t18c)] w4 fun e19 w5=>∃t19a t19n t19c,e19=.returned (.slice t19a t19n t19c)∧(∃t20a t20n t20c w6,(Instr.buildSlice 24 1 #[(0,(.slice t19a t19n t19c))]).run Tryz.prog w5=.ok (.slice t20a t20n t20c) w6∧(Calls Tryz.prog 198 #[(.slice (some ⟨g5,32,none⟩) (32) 32),(.slice t20a t20n t20c)] w6 fun e21 w7=>∃t21,e21=.returned (.agg t21)∧(∃w8,StQ 39 g10 0 (.agg t21) w7 w8∧(∃r10,(loadVar 39 ⟨g10,0,none⟩).run Tryz.prog w8=.ok r10 w8∧(R (.returned r10) w8))))))))))):Calls Tryz.prog 200 #[(.agg a0),(.int .u8 a1),(.slice a2a a2n a2c),(.slice a3a a3n a3c),(.slice a4a a4n a4c)] w R:=calls_of_ev2 (tc:=.sq [.reg (.op .bx (.op .bx .nil)),.draw (.tk 0 .p (.tk 1 .sl (.tks [2,4,5,6] (.go 3 (.r .slice) (.go 7 (.r .slice) (.go 8 (.cl [.slice]) (.go 9 (.r .slice) (.go 10 (.cl [.agg]) (.go 11 .u .nil))))))))) (lr [(0,12)])] .leaf) Tryz.func200 (by kernel_rfl) (by kernel_rfl) h

theorem seal_over_vc (a0:Array Value) (a1a:Option Addr) (a1n:Nat) (a1c:Nat) (a2a:Option Addr) (a2n:Nat) (a2c:Nat) (w:World) (R:Ending→World→Prop) (h:∃g3 w1,(Instr.box 41 (.agg a0)).run Tryz.prog w=.ok (.pointer (some ⟨g3,0,none⟩)) w1∧(∃g7 w2,AlQ 287 g7 w1 w2∧(0≤(12:Int)∧(12:Int)≤(12:Int)∧(∃t12 w3,(Builtin.copy_ #[26,26] 3 #[(.slice (some ⟨g7,0,none⟩) (12) 12),(.slice a1a a1n a1c)]).run Tryz.prog w2=.ok (.int .i64 t12) w3∧(∃t15,LdQ 39 g3 0 (.agg t15) w3∧(∃t16,LdQ 287 g7 0 (.agg t16) w3∧(Calls Tryz.prog 272 #[(.agg t15),(.agg t16),(.int .i64 0),(.slice a2a a2n a2c)] w3 fun e18 w4=>∃t18_0a t18_0n t18_0c t18_1,e18=.returned (.tuple #[(.slice t18_0a t18_0n t18_0c),t18_1])∧(R (.returned (.slice t18_0a t18_0n t18_0c)) w4)))))))):Calls Tryz.prog 199 #[(.agg a0),(.slice a1a a1n a1c),(.slice a2a a2n a2c)] w R:=calls_of_ev2 (tc:=.sq [.reg (.op .bx (.op .p .nil)),.reg (.op .bx .nil),.reg (.op .sl (.op .p (.op (.r (.int .i64)) .nil))),.reg (.op .p (.op (.ld .agg) (.op (.ld .agg) (.op .p (.op (.cl [.slice,.val]) (.pp 5 .nil)))))),.rg 2] .leaf) Tryz.func199 (by kernel_rfl) (by kernel_rfl) h

theorem seal_Seal_vc (a0:Array Value) (a1:Int) (a2a:Option Addr) (a2n:Nat) (a2c:Nat) (a3a:Option Addr) (a3n:Nat) (a3c:Nat) (w:World) (R:Ending→World→Prop) (h:∃g4 w1,(Instr.box 41 (.agg a0)).run Tryz.prog w=.ok (.pointer (some ⟨g4,0,none⟩)) w1∧(0≤(32:Int)∧(32:Int)≤(32:Int)∧((∃t17a t17n t17c w2,(Instr.buildSlice 26 1 #[(0,(.int .u8 a1))]).run Tryz.prog w1.drew=.ok (.slice t17a t17n t17c) w2∧((∃t20a t20n t20c w3,(Instr.buildSlice 24 3 #[(0,(.slice t17a t17n t17c)),(1,(.slice a2a a2n a2c)),(2,(.slice a3a a3n a3c))]).run Tryz.prog w2=.ok (.slice t20a t20n t20c) w3∧((Calls Tryz.prog 100 #[(.slice t20a t20n t20c)] w3 fun e21 w4=>∃t21a t21n t21c,e21=.returned (.slice t21a t21n t21c)∧((∃t22a t22n t22c w5,(Instr.buildSlice 24 1 #[(0,(.slice t21a t21n t21c))]).run Tryz.prog w4=.ok (.slice t22a t22n t22c) w5∧((Calls Tryz.prog 198 #[(.slice (some ⟨g4,64,none⟩) (32) 32),(.slice t22a t22n t22c)] w5 fun e23 w6=>∃t23,e23=.returned (.agg t23)∧(∃g9 w7,AlQ 39 g9 w6 w7∧(∃w8,StQ 39 g9 0 (.agg t23) w7 w8∧(0≤(12:Int)∧(12:Int)≤(32:Int)∧(∃t25,LdQ 41 g4 0 (.agg t25) w8∧(Calls Tryz.prog 199 #[(.agg t25),(.slice (some ⟨g9,0,none⟩) 12 32),(.slice a3a a3n a3c)] w8 fun e28 w9=>∃t28a t28n t28c,e28=.returned (.slice t28a t28n t28c)∧(∃t29,LdQ 41 g4 0 (.agg t29) w9∧(Calls Tryz.prog 200 #[(.agg t29),(.int .u8 a1),(.slice a2a a2n a2c),(.slice (some ⟨g9,0,none⟩) 12 32),(.slice t28a t28n t28c)] w9 fun e34 w10=>∃t34,e34=.returned (.agg t34)∧(∃g12 w11,AlQ 39 g12 w10 w11∧(∃w12,StQ 39 g12 0 (.agg t34) w11 w12∧(∃t38a t38n t38c w13,(Instr.makeSlice 26 (.int .i64 0) (.int .i64 (IntKind.wrap .i64 ((45:Int)+(a3n:Int))))).run Tryz.prog w12=.ok (.slice t38a t38n t38c) w13∧(∃t40a t40n t40c w14,(Instr.buildSlice 26 1 #[(0,(.int .u8 a1))]).run Tryz.prog w13=.ok (.slice t40a t40n t40c) w14∧(∃t41a t41n t41c w15,(Builtin.append_ #[26,26] 26 #[(.slice t38a t38n t38c),(.slice t40a t40n t40c)]).run Tryz.prog w14=.ok (.slice t41a t41n t41c) w15∧(∃t44a t44n t44c w16,(Builtin.append_ #[26,26] 26 #[(.slice t41a t41n t41c),(.slice (some ⟨g9,0,none⟩) 12 32)]).run Tryz.prog w15=.ok (.slice t44a t44n t44c) w16∧(∃t47a t47n t47c w17,(Builtin.append_ #[26,26] 26 #[(.slice t44a t44n t44c),(.slice t28a t28n t28c)]).run Tryz.prog w16=.ok (.slice t47a t47n t47c) w17∧(0≤(32:Int)∧(32:Int)≤(32:Int)∧(∃t50a t50n t50c w18,(Builtin.append_ #[26,26] 26 #[(.slice t47a t47n t47c),(.slice (some ⟨g12,0,none⟩) (32) 32)]).run Tryz.prog w17=.ok (.slice t50a t50n t50c) w18∧(R (.returned (.slice t50a t50n t50c)) w18))))))))))))))))))∧(∃g9 w19,AlQ 39 g9 w5 w19∧(Calls Tryz.prog 198 #[(.slice (some ⟨g4,64,none⟩) (32) 32),(.slice t22a t22n t22c)] w19 fun e23 w20=>∃t23,e23=.returned (.agg t23)∧(∃w21,StQ 39 g9 0 (.agg t23) w20 w21∧(0≤(12:Int)∧(12:Int)≤(32:Int)∧(∃t25,LdQ 41 g4 0 (.agg t25) w21∧(Calls Tryz.prog 199 #[(.agg t25),(.slice (some ⟨g9,0,none⟩) 12 32),(.slice a3a a3n a3c)] w21 fun e28 w22=>∃t28a t28n t28c,e28=.returned (.slice t28a t28n t28c)∧(∃t29,LdQ 41 g4 0 (.agg t29) w22∧(Calls Tryz.prog 200 #[(.agg t29),(.int .u8 a1),(.slice a2a a2n a2c),(.slice (some ⟨g9,0,none⟩) 12 32),(.slice t28a t28n t28c)] w22 fun e34 w23=>∃t34,e34=.returned (.agg t34)∧(∃g12 w24,AlQ 39 g12 w23 w24∧(∃w25,StQ 39 g12 0 (.agg t34) w24 w25∧(∃t38a t38n t38c w26,(Instr.makeSlice 26 (.int .i64 0) (.int .i64 (IntKind.wrap .i64 ((45:Int)+(a3n:Int))))).run Tryz.prog w25=.ok (.slice t38a t38n t38c) w26∧(∃t40a t40n t40c w27,(Instr.buildSlice 26 1 #[(0,(.int .u8 a1))]).run Tryz.prog w26=.ok (.slice t40a t40n t40c) w27∧(∃t41a t41n t41c w28,(Builtin.append_ #[26,26] 26 #[(.slice t38a t38n t38c),(.slice t40a t40n t40c)]).run Tryz.prog w27=.ok (.slice t41a t41n t41c) w28∧(∃t44a t44n t44c w29,(Builtin.append_ #[26,26] 26 #[(.slice t41a t41n t41c),(.slice (some ⟨g9,0,none⟩) 12 32)]).run Tryz.prog w28=.ok (.slice t44a t44n t44c) w29∧(∃t47a t47n t47c w30,(Builtin.append_ #[26,26] 26 #[(.slice t44a t44n t44c),(.slice t28a t28n t28c)]).run Tryz.prog w29=.ok (.slice t47a t47n t47c) w30∧(0≤(32:Int)∧(32:Int)≤(32:Int)∧(∃t50a t50n t50c w31,(Builtin.append_ #[26,26] 26 #[(.slice t47a t47n t47c),(.slice (some ⟨g12,0,none⟩) (32) 32)]).run Tryz.prog w30=.ok (.slice t50a t50n t50c) w31∧(R (.returned (.slice t50a t50n t50c)) w31))))))))))))))))))))∧(∃g9 w32,AlQ 39 g9 w4 w32∧(∃t22a t22n t22c w33,(Instr.buildSlice 24 1 #[(0,(.slice t21a t21n t21c))]).run Tryz.prog w32=.ok (.slice t22a t22n t22c) w33∧(Calls Tryz.prog 198 #[(.slice (some ⟨g4,64,none⟩) (32) 32),(.slice t22a t22n t22c)] w33 fun e23 w34=>∃t23,e23=.returned (.agg t23)∧(∃w35,StQ 39 g9 0 (.agg t23) w34 w35∧(0≤(12:Int)∧(12:Int)≤(32:Int)∧(∃t25,LdQ 41 g4 0 (.agg t25) w35∧(Calls Tryz.prog 199 #[(.agg t25),(.slice (some ⟨g9,0,none⟩) 12 32),(.slice a3a a3n a3c)] w35 fun e28 w36=>∃t28a t28n t28c,e28=.returned (.slice t28a t28n t28c)∧(∃t29,LdQ 41 g4 0 (.agg t29) w36∧(Calls Tryz.prog 200 #[(.agg t29),(.int .u8 a1),(.slice a2a a2n a2c),(.slice (some ⟨g9,0,none⟩) 12 32),(.slice t28a t28n t28c)] w36 fun e34 w37=>∃t34,e34=.returned (.agg t34)∧(∃g12 w38,AlQ 39 g12 w37 w38∧(∃w39,StQ 39 g12 0 (.agg t34) w38 w39∧(∃t38a t38n t38c w40,(Instr.makeSlice 26 (.int .i64 0) (.int .i64 (IntKind.wrap .i64 ((45:Int)+(a3n:Int))))).run Tryz.prog w39=.ok (.slice t38a t38n t38c) w40∧(∃t40a t40n t40c w41,(Instr.buildSlice 26 1 #[(0,(.int .u8 a1))]).run Tryz.prog w40=.ok (.slice t40a t40n t40c) w41∧(∃t41a t41n t41c w42,(Builtin.append_ #[26,26] 26 #[(.slice t38a t38n t38c),(.slice t40a t40n t40c)]).run Tryz.prog w41=.ok (.slice t41a t41n t41c) w42∧(∃t44a t44n t44c w43,(Builtin.append_ #[26,26] 26 #[(.slice t41a t41n t41c),(.slice (some ⟨g9,0,none⟩) 12 32)]).run Tryz.prog w42=.ok (.slice t44a t44n t44c) w43∧(∃t47a t47n t47c w44,(Builtin.append_ #[26,26] 26 #[(.slice t44a t44n t44c),(.slice t28a t28n t28c)]).run Tryz.prog w43=.ok (.slice t47a t47n t47c) w44∧(0≤(32:Int)∧(32:Int)≤(32:Int)∧(∃t50a t50n t50c w45,(Builtin.append_ #[26,26] 26 #[(.slice t47a t47n t47c),(.slice (some ⟨g12,0,none⟩) (32) 32)]).run Tryz.prog w44=.ok (.slice t50a t50n t50c) w45∧(R (.returned (.slice t50a t50n t50c)) w45)))))))))))))))))))))∧(∃g9 w46,AlQ 39 g9 w3 w46∧(Calls Tryz.prog 100 #[(.slice t20a t20n t20c)] w46 fun e21 w47=>∃t21a t21n t21c,e21=.returned (.slice t21a t21n t21c)∧(∃t22a t22n t22c w48,(Instr.buildSlice 24 1 #[(0,(.slice t21a t21n t21c))]).run Tryz.prog w47=.ok (.slice t22a t22n t22c) w48∧(Calls Tryz.prog 198 #[(.slice (some ⟨g4,64,none⟩) (32) 32),(.slice t22a t22n t22c)] w48 fun e23 w49=>∃t23,e23=.returned (.agg t23)∧(∃w50,StQ 39 g9 0 (.agg t23) w49 w50∧(0≤(12:Int)∧(12:Int)≤(32:Int)∧(∃t25,LdQ 41 g4 0 (.agg t25) w50∧(Calls Tryz.prog 199 #[(.agg t25),(.slice (some ⟨g9,0,none⟩) 12 32),(.slice a3a a3n a3c)] w50 fun e28 w51=>∃t28a t28n t28c,e28=.returned (.slice t28a t28n t28c)∧(∃t29,LdQ 41 g4 0 (.agg t29) w51∧(Calls Tryz.prog 200 #[(.agg t29),(.int .u8 a1),(.slice a2a a2n a2c),(.slice (some ⟨g9,0,none⟩) 12 32),(.slice t28a t28n t28c)] w51 fun e34 w52=>∃t34,e34=.returned (.agg t34)∧(∃g12 w53,AlQ 39 g12 w52 w53∧(∃w54,StQ 39 g12 0 (.agg t34) w53 w54∧(∃t38a t38n t38c w55,(Instr.makeSlice 26 (.int .i64 0) (.int .i64 (IntKind.wrap .i64 ((45:Int)+(a3n:Int))))).run Tryz.prog w54=.ok (.slice t38a t38n t38c) w55∧(∃t40a t40n t40c w56,(Instr.buildSlice 26 1 #[(0,(.int .u8 a1))]).run Tryz.prog w55=.ok (.slice t40a t40n t40c) w56∧(∃t41a t41n t41c w57,(Builtin.append_ #[26,26] 26 #[(.slice t38a t38n t38c),(.slice t40a t40n t40c)]).run Tryz.prog w56=.ok (.slice t41a t41n t41c) w57∧(∃t44a t44n t44c w58,(Builtin.append_ #[26,26] 26 #[(.slice t41a t41n t41c),(.slice (some ⟨g9,0,none⟩) 12 32)]).run Tryz.prog w57=.ok (.slice t44a t44n t44c) w58∧(∃t47a t47n t47c w59,(Builtin.append_ #[26,26] 26 #[(.slice t44a t44n t44c),(.slice t28a t28n t28c)]).run Tryz.prog w58=.ok (.slice t47a t47n t47c) w59∧(0≤(32:Int)∧(32:Int)≤(32:Int)∧(∃t50a t50n t50c w60,(Builtin.append_ #[26,26] 26 #[(.slice t47a t47n t47c),(.slice (some ⟨g12,0,none⟩) (32) 32)]).run Tryz.prog w59=.ok (.slice t50a t50n t50c) w60∧(R (.returned (.slice t50a t50n t50c)) w60))))))))))))))))))))))∧(∃g9 w61,AlQ 39 g9 w2 w61∧(∃t20a t20n t20c w62,(Instr.buildSlice 24 3 #[(0,(.slice t17a t17n t17c)),(1,(.slice a2a a2n a2c)),(2,(.slice a3a a3n a3c))]).run Tryz.prog w61=.ok (.slice t20a t20n t20c) w62∧(Calls Tryz.prog 100 #[(.slice t20a t20n t20c)] w62 fun e21 w63=>∃t21a t21n t21c,e21=.returned (.slice t21a t21n t21c)∧(∃t22a t22n t22c w64,(Instr.buildSlice 24 1 #[(0,(.slice t21a t21n t21c))]).run Tryz.prog w63=.ok (.slice t22a t22n t22c) w64∧(Calls Tryz.prog 198 #[(.slice (some ⟨g4,64,none⟩) (32) 32),(.slice t22a t22n t22c)] w64 fun e23 w65=>∃t23,e23=.returned (.agg t23)∧(∃w66,StQ 39 g9 0 (.agg t23) w65 w66∧(0≤(12:Int)∧(12:Int)≤(32:Int)∧(∃t25,LdQ 41 g4 0 (.agg t25) w66∧(Calls Tryz.prog 199 #[(.agg t25),(.slice (some ⟨g9,0,none⟩) 12 32),(.slice a3a a3n a3c)] w66 fun e28 w67=>∃t28a t28n t28c,e28=.returned (.slice t28a t28n t28c)∧(∃t29,LdQ 41 g4 0 (.agg t29) w67∧(Calls Tryz.prog 200 #[(.agg t29),(.int .u8 a1),(.slice a2a a2n a2c),(.slice (some ⟨g9,0,none⟩) 12 32),(.slice t28a t28n t28c)] w67 fun e34 w68=>∃t34,e34=.returned (.agg t34)∧(∃g12 w69,AlQ 39 g12 w68 w69∧(∃w70,StQ 39 g12 0 (.agg t34) w69 w70∧(∃t38a t38n t38c w71,(Instr.makeSlice 26 (.int .i64 0) (.int .i64 (IntKind.wrap .i64 ((45:Int)+(a3n:Int))))).run Tryz.prog w70=.ok (.slice t38a t38n t38c) w71∧(∃t40a t40n t40c w72,(Instr.buildSlice 26 1 #[(0,(.int .u8 a1))]).run Tryz.prog w71=.ok (.slice t40a t40n t40c) w72∧(∃t41a t41n t41c w73,(Builtin.append_ #[26,26] 26 #[(.slice t38a t38n t38c),(.slice t40a t40n t40c)]).run Tryz.prog w72=.ok (.slice t41a t41n t41c) w73∧(∃t44a t44n t44c w74,(Builtin.append_ #[26,26] 26 #[(.slice t41a t41n t41c),(.slice (some ⟨g9,0,none⟩) 12 32)]).run Tryz.prog w73=.ok (.slice t44a t44n t44c) w74∧(∃t47a t47n t47c w75,(Builtin.append_ #[26,26] 26 #[(.slice t44a t44n t44c),(.slice t28a t28n t28c)]).run Tryz.prog w74=.ok (.slice t47a t47n t47c) w75∧(0≤(32:Int)∧(32:Int)≤(32:Int)∧(∃t50a t50n t50c w76,(Builtin.append_ #[26,26] 26 #[(.slice t47a t47n t47c),(.slice (some ⟨g12,0,none⟩) (32) 32)]).run Tryz.prog w75=.ok (.slice t50a t50n t50c) w76∧(R (.returned (.slice t50a t50n t50c)) w76)))))))))))))))))))))))∧(∃g9 w77,AlQ 39 g9 w1.drew w77∧(∃t17a t17n t17c w78,(Instr.buildSlice 26 1 #[(0,(.int .u8 a1))]).run Tryz.prog w77=.ok (.slice t17a t17n t17c) w78∧(∃t20a t20n t20c w79,(Instr.buildSlice 24 3 #[(0,(.slice t17a t17n t17c)),(1,(.slice a2a a2n a2c)),(2,(.slice a3a a3n a3c))]).run Tryz.prog w78=.ok (.slice t20a t20n t20c) w79∧(Calls Tryz.prog 100 #[(.slice t20a t20n t20c)] w79 fun e21 w80=>∃t21a t21n t21c,e21=.returned (.slice t21a t21n t21c)∧(∃t22a t22n t22c w81,(Instr.buildSlice 24 1 #[(0,(.slice t21a t21n t21c))]).run Tryz.prog w80=.ok (.slice t22a t22n t22c) w81∧(Calls Tryz.prog 198 #[(.slice (some ⟨g4,64,none⟩) (32) 32),(.slice t22a t22n t22c)] w81 fun e23 w82=>∃t23,e23=.returned (.agg t23)∧(∃w83,StQ 39 g9 0 (.agg t23) w82 w83∧(0≤(12:Int)∧(12:Int)≤(32:Int)∧(∃t25,LdQ 41 g4 0 (.agg t25) w83∧(Calls Tryz.prog 199 #[(.agg t25),(.slice (some ⟨g9,0,none⟩) 12 32),(.slice a3a a3n a3c)] w83 fun e28 w84=>∃t28a t28n t28c,e28=.returned (.slice t28a t28n t28c)∧(∃t29,LdQ 41 g4 0 (.agg t29) w84∧(Calls Tryz.prog 200 #[(.agg t29),(.int .u8 a1),(.slice a2a a2n a2c),(.slice (some ⟨g9,0,none⟩) 12 32),(.slice t28a t28n t28c)] w84 fun e34 w85=>∃t34,e34=.returned (.agg t34)∧(∃g12 w86,AlQ 39 g12 w85 w86∧(∃w87,StQ 39 g12 0 (.agg t34) w86 w87∧(∃t38a t38n t38c w88,(Instr.makeSlice 26 (.int .i64 0) (.int .i64 (IntKind.wrap .i64 ((45:Int)+(a3n:Int))))).run Tryz.prog w87=.ok (.slice t38a t38n t38c) w88∧(∃t40a t40n t40c w89,(Instr.buildSlice 26 1 #[(0,(.int .u8 a1))]).run Tryz.prog w88=.ok (.slice t40a t40n t40c) w89∧(∃t41a t41n t41c w90,(Builtin.append_ #[26,26] 26 #[(.slice t38a t38n t38c),(.slice t40a t40n t40c)]).run Tryz.prog w89=.ok (.slice t41a t41n t41c) w90∧(∃t44a t44n t44c w91,(Builtin.append_ #[26,26] 26 #[(.slice t41a t41n t41c),(.slice (some ⟨g9,0,none⟩) 12 32)]).run Tryz.prog w90=.ok (.slice t44a t44n t44c) w91∧(∃t47a t47n t47c w92,(Builtin.append_ #[26,26] 26 #[(.slice t44a t44n t44c),(.slice t28a t28n t28c)]).run Tryz.prog w91=.ok (.slice t47a t47n t47c) w92∧(0≤(32:Int)∧(32:Int)≤(32:Int)∧(∃t50a t50n t50c w93,(Builtin.append_ #[26,26] 26 #[(.slice t47a t47n t47c),(.slice (some ⟨g12,0,none⟩) (32) 32)]).run Tryz.prog w92=.ok (.slice t50a t50n t50c) w93∧(R (.returned (.slice t50a t50n t50c)) w93))))))))))))))))))))))))):Calls Tryz.prog 101 #[(.agg a0),(.int .u8 a1),(.slice a2a a2n a2c),(.slice a3a a3n a3c)] w R:=calls_of_ev2 (tc:=.sq [.reg (.op .bx (.op .p .nil)),.draw (.tk 0 .p (.tk 1 .sl (.tks [2,4,5] (.two 3 (.r .slice) (.two 6 (.r .slice) (.two 7 (.cl [.slice]) (.two 8 (.r .slice) (.two 9 (.cl [.agg]) (.go 10 .bx (.go 11 .u .nil)) 10 .bx (.go 9 (.cl [.agg]) (.go 11 .u .nil))) 10 .bx (.go 8 (.r .slice) (.go 9 (.cl [.agg]) (.go 11 .u .nil)))) 10 .bx (.go 7 (.cl [.slice]) (.go 8 (.r .slice) (.go 9 (.cl [.agg]) (.go 11 .u .nil))))) 10 .bx (.go 6 (.r .slice) (.go 7 (.cl [.slice]) (.go 8 (.r .slice) (.go 9 (.cl [.agg]) (.go 11 .u .nil)))))) 10 .bx (.go 3 (.r .slice) (.go 6 (.r .slice) (.go 7 (.cl [.slice]) (.go 8 (.r .slice) (.go 9 (.cl [.agg]) (.go 11 .u .nil)))))))))) (lr [(0,12)]),.reg (.op .sl (.op .p .nil)),.reg (.op (.ld .agg) (.pp 2 (.op (.cl [.slice]) (.op .p .nil)))),.reg (.op (.ld .agg) (.pp 4 (.op (.cl [.agg]) (.op .bx (.op .u .nil))))),.reg (.pp 3 (.op (.r .slice) (.op .p (.op (.r .slice) (.op (.r .slice) (.op .p .nil)))))),.reg (.pp 2 (.op (.r .slice) (.op .p .nil))),.reg (.pp 2 (.op (.r .slice) (.op .p .nil))),.reg (.op .p (.op .sl (.op (.r .slice) (.op .p .nil))))] .leaf) Tryz.func101 (by kernel_rfl) (by kernel_rfl) h

theorem seal_Open_vc (a0:Array Value) (a1:Int) (a2a:Option Addr) (a2n:Nat) (a2c:Nat) (a3a:Option Addr) (a3n:Nat) (a3c:Nat) (w:World) (R:Ending→World→Prop) (h:∃g4 w1,(Instr.box 41 (.agg a0)).run Tryz.prog w=.ok (.pointer (some ⟨g4,0,none⟩)) w1∧(∃J:Bool→World→Prop,((decide ((a3n:Int)<(45:Int))=true→(J true w1))∧(decide ((a3n:Int)<(45:Int))=false→(∃t19b t19o,a3a=some ⟨t19b,t19o,none⟩∧0≤(0:Int)∧(0:Int)<(a3n:Int)∧(∃t20,LdQ 5 t19b (t19o+Int.toNat (0:Int)*1) (.int .u8 t20) w1∧(J (t20 != a1) w1)))))∧(∀x23,∀w2,J x23 w2→((x23=true→(R (.returned (.tuple #[(.slice none 0 0),(.iface 65 (.int .i64 10))])) w2))∧(x23=false→(0≤(1:Int)∧(1:Int)≤(13:Int)∧(13:Int)≤(a3c:Int)∧∀t29a,SubA 1 a3a 1 a3c t29a→(0≤(13:Int)∧(13:Int)≤(IntKind.wrap .i64 ((a3n:Int)- (32:Int)))∧(IntKind.wrap .i64 ((a3n:Int)- (32:Int)))≤(a3c:Int)∧∀t32a,SubA 1 a3a 13 a3c t32a→(∃t33,LdQ 41 g4 0 (.agg t33) w2.drew∧(Calls Tryz.prog 200 #[(.agg t33),(.int .u8 a1),(.slice a2a a2n a2c),(.slice t29a 12 (a3c-1)),(.slice t32a ((Int.toNat (IntKind.wrap .i64 ((a3n:Int)- (32:Int))))-13) (a3c-13))] w2.drew fun e38 w3=>∃t38,e38=.returned (.agg t38)∧(∃g13 w4,AlQ 39 g13 w3 w4∧(∃w5,StQ 39 g13 0 (.agg t38) w4 w5∧(0≤(32:Int)∧(32:Int)≤(32:Int)∧(0≤(IntKind.wrap .i64 ((a3n:Int)- (32:Int)))∧(IntKind.wrap .i64 ((a3n:Int)- (32:Int)))≤(a3n:Int)∧(a3n:Int)≤(a3c:Int)∧∀t42a,SubA 1 a3a (Int.toNat (IntKind.wrap .i64 ((a3n:Int)- (32:Int)))) a3c t42a→(Calls Tryz.prog 207 #[(.slice (some ⟨g13,0,none⟩) (32) 32),(.slice t42a ((a3n)- (Int.toNat (IntKind.wrap .i64 ((a3n:Int)- (32:Int))))) (a3c- (Int.toNat (IntKind.wrap .i64 ((a3n:Int)- (32:Int))))))] w5.drew fun e43 w6=>∃t43,e43=.returned (.bool t43)∧(((!t43)=true→(R (.returned (.tuple #[(.slice none 0 0),(.iface 65 (.int .i64 10))])) w6))∧((!t43)=false→(∃t46,LdQ 41 g4 0 (.agg t46) w6∧(Calls Tryz.prog 199 #[(.agg t46),(.slice t29a 12 (a3c-1)),(.slice t32a ((Int.toNat (IntKind.wrap .i64 ((a3n:Int)- (32:Int))))-13) (a3c-13))] w6 fun e49 w7=>∃t49a t49n t49c,e49=.returned (.slice t49a t49n t49c)∧(R (.returned (.tuple #[(.slice t49a t49n t49c),.nilIface])) w7))))))))))))))))))):Calls Tryz.prog 111 #[(.agg a0),(.int .u8 a1),(.slice a2a a2n a2c),(.slice a3a a3n a3c)] w R:=calls_of_ev2 (tc:=.sq [.reg (.op .bx (.pp 2 .nil)),.seq (.join (lr [(14,10)]) [23] [.bool] (.reg (.pp 4 (.sp 17 (.pp 6 .nil) (.op .p (.op .ix (.op (.ld (.int .u8)) (.pp 3 .nil)))))))) (.cond (.seq (.rg 3) .leaf) .leaf),.rg 4,.draw (.tk 0 .p (.tk 1 .sl (.tks [2,3] (.tk 4 .sl (.tks [5,6] .nil))))) (lr [(0,7)]),.reg (.op (.ld .agg) (.pp 4 (.op (.cl [.agg]) (.op .bx (.op .u .nil))))),.seq (.draw (.tk 0 .sl (.tks [1,2] (.tk 3 .sl (.go 4 (.cl [.bool]) (.tk 5 .p .nil))))) (lr [(0,6)])) (.cond (.seq (.rg 3) .leaf) .leaf),.reg (.op (.ld .agg) (.pp 2 (.op (.cl [.slice]) (.pp 2 .nil))))] .leaf) Tryz.func111 (by kernel_rfl) (by kernel_rfl) h

end Go.Proofs.YtpmhjnhgpplmnaaGreatDoor
end

section
namespace Go.Proofs.YtpmhjnhgpplmnaaGreatDoor
open Go Sx
set_option maxRecDepth 8000

theorem Sx.St.zeroAC {w0 w:World} {X:List Nat} {M:List Res} (h:St w0 X w M) {T:TypeId} {z:List Value} (hz:∀w,(zeroValue T).run Tryz.prog w=.ok (.agg z.toArray) w):
   ∃g w',(Instr.alloc T true (.tuple #[])).run Tryz.prog w=.ok (.pointer (some ⟨g,0,none⟩)) w'∧St w0 X w' (M++ [.arr g T z])∧Chg [] w w':=by
 obtain ⟨g,w1,r,h1⟩:=h.zeroA hz
 obtain ⟨g',w1',r',h1'⟩:=(St.start w).zeroA hz
 have e:=r.symm.trans r'
 simp only [Result.ok.injEq] at e
 obtain ⟨_,rfl⟩:=e
 exact ⟨g,w1,r,h1,h1'.chg⟩

theorem litC {t e by_:Nat} {z:Value} (E:ElemT Tryz.prog t e 1 by_ z) (vs:List Value) (h1:∀v∈vs,v.oneCell'=true) (hb:vs.length≤16777216) (w:World):
   ∃g w',(Instr.buildSlice t vs.length ((vs.zipIdx 0).map fun p=>(p.2,p.1)).toArray).run Tryz.prog w=.ok (.slice (some ⟨g,0,none⟩) vs.length vs.length) w'∧Chg [] w w'∧Rd w' (some ⟨g,0,none⟩) vs.length vs.length 1 vs∧w.heap.size≤g∧g<w'.heap.size:=by
 obtain ⟨g,w',r,h⟩:=(St.start w).lit E vs h1 hb
 refine ⟨g,w',r,h.chg,h.rd (i:=0) rfl,?_,Res.lt (h.holds 0 _ rfl) g (by simp [Res.fp,Value.ownBlock])⟩
 have h2:=h.own 0 _ rfl g (by simp [Res.fp,Value.ownBlock])
 simpa using h2

theorem litK (k:UInt8) (w:World):∃g w',(Instr.buildSlice 26 1 #[(0,.int .u8 (k.toNat:Int))]).run Tryz.prog w=.ok (.slice (some ⟨g,0,none⟩) 1 1) w'∧Chg [] w w'∧RdB w' (some ⟨g,0,none⟩) 1 1 [k]:=by
 obtain ⟨g,w',r,c,h,_⟩:=litC bT [.int .u8 (k.toNat:Int)] (by simp [Value.oneCell']) (by simp) w
 exact ⟨g,w',r,c,h⟩

theorem kyA (w:World):(isAgg 41).run Tryz.prog w=.ok true w:=Tryz.isAgg41 w
theorem kyS (w:World):(sizeOf 41).run Tryz.prog w=.ok 96 w:=Tryz.sizeOf41 w
theorem kyZ (w:World):(zeroValue 41).run Tryz.prog w=.ok (.agg (bv (List.replicate 96 0)).toArray) w:=Tryz.zeroValue41 w
theorem d12A (w:World):(isAgg 287).run Tryz.prog w=.ok true w:=Tryz.isAgg287 w
theorem d12S (w:World):(sizeOf 287).run Tryz.prog w=.ok 12 w:=Tryz.sizeOf287 w
theorem d12Z (w:World):(zeroValue 287).run Tryz.prog w=.ok (.agg (bv (List.replicate 12 0)).toArray) w:=Tryz.zeroValue287 w

theorem built_keys:Tryz.prog.built 41=fun parts=>Instr.fill (fun i=>(#[(0,32),(32,32),(64,32)]:Array (Nat×Nat))[i]?) (bv (List.replicate 96 0)).toArray parts:=by kernel_rfl

theorem keys_build {a b c:List UInt8} (ha:a.length=32) (hb:b.length=32) (hc:c.length=32) (w:World):(Instr.build 41 #[(0,.agg (bv a).toArray),(1,.agg (bv b).toArray),(2,.agg (bv c).toArray)]).run Tryz.prog w=.ok (.agg (bv (a++b++c)).toArray) w:=by
 apply run_build
 rw [built_keys]
 show Instr.fill _ _ [(0,.agg (bv a).toArray),(1,.agg (bv b).toArray),(2,.agg (bv c).toArray)]=_
 have z:∀n,(bv (List.replicate 96 0)).drop n=bv (List.replicate (96-n) 0):=fun n=>by rw [←bv_drop,List.drop_replicate]
 rw [fill_step (off:=0) (sz:=32) rfl (by simp [Value.cells,ha]) (by simp)]
 simp only [Value.cells,List.take_zero,List.nil_append,Nat.zero_add,z]
 rw [fill_step (off:=32) (sz:=32) rfl (by simp [Value.cells,hb]) (by simp [ha])]
 simp only [Value.cells]
 rw [List.take_left' (by simp [ha]),show 32+32=(bv a).length+32 by simp [ha],List.drop_append,List.drop_of_length_le (by omega),show (bv a).length+32- (bv a).length=32 by omega,←bv_drop,List.drop_replicate]
 rw [fill_step (off:=64) (sz:=32) rfl (by simp [Value.cells,hc]) (by simp [ha,hb])]
 simp only [Value.cells,List.nil_append]
 rw [List.take_left' (by simp [ha,hb]),List.drop_of_length_le (by simp [ha,hb])]
 simp [Instr.fill]

theorem litMark (l:List UInt8) (hb:l.length≤16777216) (w:World):∃g w1 w2,(Instr.buildSlice 26 l.length (((bv l).zipIdx 0).map fun p=>(p.2,p.1)).toArray).run Tryz.prog w=.ok (.slice (some ⟨g,0,none⟩) l.length l.length) w1∧
   (convert 26 26 (.slice (some ⟨g,0,none⟩) l.length l.length)).run Tryz.prog w1=.ok (.slice (some ⟨g,0,none⟩) l.length l.length) w2∧Chg [] w w2∧RdB w2 (some ⟨g,0,none⟩) l.length l.length l:=by
 obtain ⟨g,w1,r1,c1,h1,hg,hg1⟩:=litC bT (bv l) (bv_one l) (by simpa using hb) w
 rw [bv_length] at r1 h1
 obtain ⟨w2,r2,c2,h2⟩:=sameSlice g _ _ l w1 h1 hg1
 exact ⟨g,w1,w2,r1,r2,c1.trans' c2 (fun i hi=>.inl (by simp at hi;omega)),h2⟩

theorem over_spec' (K:List UInt8) (a1:Option Addr) (c1:Nat) (nonce:List UInt8) (a2:Option Addr) (n2 c2:Nat) (b:List UInt8) (w:World) (hk:K.length=96) (hr1:RdB w a1 12 c1 nonce) (hr2:RdB w a2 n2 c2 b) (hb:n2≤1099511627776):
   Calls Tryz.prog 199 #[.agg (bv K).toArray,.slice a1 12 c1,.slice a2 n2 c2] w fun e w'=>∃a n c,e=.returned (.slice a n c)∧FreshB w w' a n c (overF K nonce b):=by
 have hl:=hr1.lenB
 apply seal_over_vc
 obtain ⟨g1,w1,r1,h1⟩:=(St.start w).boxA 41 (bv K)
 obtain ⟨g2,w2,r2,h2⟩:=h1.zeroA d12Z
 obtain ⟨w3,r3,h3⟩:=h2.copyB (i:=1) (d:=12) rfl (by simp) (h2.rd1 hr1) (by omega)
 rw [List.drop_of_length_le (by simp),List.append_nil] at h3
 have hld:=h3.ldPre (i:=0) (l:=bv K) rfl (d32A _) (d32S _) (by simp [hk])
 rw [←bv_take] at hld
 refine ⟨g1,w1,r1,g2,w2,r2,by omega,by omega,_,w3,r3,_,hld,_,h3.ldA (i:=1) (l:=bv nonce) rfl (d12A _) (d12S _) (by simp [hl]),(xor_spec (K.take 32) nonce 0 a2 n2 c2 b w3 (by simp [hk]) hl (by omega) (by omega) (h3.rd1 hr2) (by omega)).mono ?_⟩
 rintro e w4 ⟨a,n,c,rfl,hf⟩
 exact ⟨_,_,_,_,rfl,_,_,_,rfl,FreshB.after hf h3.chg⟩

theorem macK_rd {w0 w:World} {M:List Res} (h:St w0 [] w M) {i g T:Nat} {K:List UInt8} (hi:M[i]?=some (.arr g T (bv K))) (hk:K.length=96):RdB w (some ⟨g,32,none⟩) 32 32 (macKy K)∧RdB w (some ⟨g,64,none⟩) 32 32 (nameK K):=
 ⟨h.rdPart hi (by omega),h.rdPart hi (by omega)⟩

theorem tag_spec (K:List UInt8) (k:UInt8) (a2:Option Addr) (n2 c2:Nat) (ctx:List UInt8) (a3:Option Addr) (n3 c3:Nat) (nonce:List UInt8) (a4:Option Addr) (n4 c4:Nat) (body:List UInt8) (w:World) (hk:K.length=96) (hK:KTab w) (hr2:RdB w a2 n2 c2 ctx) (hr3:RdB w a3 n3 c3 nonce) (hr4:RdB w a4 n4 c4 body) (hb:n2+n3+n4≤67108000):
   Calls Tryz.prog 200 #[.agg (bv K).toArray,.int .u8 (k.toNat:Int),.slice a2 n2 c2,.slice a3 n3 c3,.slice a4 n4 c4] w fun e w'=>e=.returned (.agg (bv (tagF K k ctx nonce body)).toArray)∧Chg [] w w':=by
 have e2:=hr2.lenB
 have e3:=hr3.lenB
 have e4:=hr4.lenB
 apply seal_tag_vc
 obtain ⟨g1,w1,r1,h1⟩:=(St.start w).boxA 41 (bv K)
 obtain ⟨g2,w2,r2,h2⟩:=h1.zeroA d32Z
 have h2d:=h2.drew
 obtain ⟨g3,w3,r3,c3',q3⟩:=litK k w2.drew
 have h3:=h2d.same c3'
 obtain ⟨g4,w4,r4,c4',q4,_⟩:=litC bbT [.slice (some ⟨g3,0,none⟩) 1 1,.slice a2 n2 c2,.slice a3 n3 c3,.slice a4 n4 c4] (by simp [Value.oneCell']) (by simp) w3
 have h4:=h3.same c4'
 have hrow:Row2 w4 [.slice (some ⟨g3,0,none⟩) 1 1,.slice a2 n2 c2,.slice a3 n3 c3,.slice a4 n4 c4] [[k],ctx,nonce,body]:=
   (row2_three (h4.rd1 hr2) (h4.rd1 hr3) (h4.rd1 hr4)).cons (q3.keep0 c4')
 refine ⟨g1,w1,r1,g2,w2,r2,by omega,by omega,_,_,_,_,r3,_,_,_,_,r4,(pack_spec _ 4 4 _ [[k],ctx,nonce,body] w4 q4 hrow (by simp;omega) (by simp)).mono ?_⟩
 rintro e w5 ⟨a5,n5,c5,rfl,hf5⟩
 have h5:=h4.same hf5.1
 obtain ⟨g6,w6,r6,c6',q6,_⟩:=litC bbT [.slice a5 n5 c5] (by simp [Value.oneCell']) (by simp) w5
 have h6:=h5.same c6'
 have hpl:(packL [[k],ctx,nonce,body]).length≤67109864:=by
   have:=packL_len [[k],ctx,nonce,body] (by simp;omega)
   simp at this ⊢
   omega
 refine ⟨_,_,_,rfl,_,_,_,_,r6,(mac_spec _ 32 32 (macKy K) _ 1 1 _ [packL [[k],ctx,nonce,body]] w6 (hK.keep0 h6.chg) (macK_rd h6 (i:=0) rfl hk).1 (by omega) q6 (row2_one (hf5.rdB.keep0 c6')) (by rw [List.flatten_cons,List.flatten_nil,List.append_nil];omega) (by decide)).mono ?_⟩
 rintro e w7 ⟨rfl,c7⟩
 have e1: [packL [[k],ctx,nonce,body]].flatten=packL [[k],ctx,nonce,body]:=by rw [List.flatten_cons,List.flatten_nil,List.append_nil]
 rw [e1]
 obtain ⟨w8,r8,h8⟩:=(h6.same c7).stA (i:=1) (v:=bv (tagF K k ctx nonce body)) rfl (d32S _) (by simp) (by simp) (bv_one _)
 exact ⟨_,rfl,w8,r8,_,h8.ldVarA (i:=1) (l:=bv (tagF K k ctx nonce body)) rfl (d32A _) (d32S _) (by simp),rfl,h8.chg⟩

end Go.Proofs.YtpmhjnhgpplmnaaGreatDoor
end

section
namespace Go.Proofs.YtpmhjnhgpplmnaaGreatDoor
open Go Sx
set_option maxRecDepth 8000

def sealTail (a1:Int) (a2a:Option Addr) (a2n a2c:Nat) (a3a:Option Addr) (a3n a3c:Nat) (g4 g9:Nat) (t23:Array Value) (R:Ending→World→Prop) (w7:World):Prop:=
 (∃w8:World,(Instr.storeAt 39 (.pointer (some ⟨g9,0,none⟩)) (.agg t23)).run Tryz.prog w7=.ok () w8∧
   (0≤(12:Int)∧(12:Int)≤((32:Nat):Int)∧
   (∃(t25:Array Value),(Instr.loadAt 41 (.pointer (some ⟨g4,0,none⟩))).run Tryz.prog w8=.ok (.agg t25) w8∧
   (Calls Tryz.prog 199 #[(.agg t25),(.slice (some ⟨g9,0,none⟩) 12 32),(.slice a3a a3n a3c)] w8 fun (e28:Ending) (w9:World)=>∃(t28a:Option Addr) (t28n:Nat) (t28c:Nat),e28=.returned (.slice t28a t28n t28c)∧
   (∃(t29:Array Value),(Instr.loadAt 41 (.pointer (some ⟨g4,0,none⟩))).run Tryz.prog w9=.ok (.agg t29) w9∧
   (Calls Tryz.prog 200 #[(.agg t29),(.int .u8 a1),(.slice a2a a2n a2c),(.slice (some ⟨g9,0,none⟩) 12 32),(.slice t28a t28n t28c)] w9 fun (e34:Ending) (w10:World)=>∃(t34:Array Value),e34=.returned (.agg t34)∧
   (∃(g12:Nat) (w11:World),(Instr.alloc 39 true (.tuple #[])).run Tryz.prog w10=.ok (.pointer (some ⟨g12,0,none⟩)) w11∧
   (∃w12:World,(Instr.storeAt 39 (.pointer (some ⟨g12,0,none⟩)) (.agg t34)).run Tryz.prog w11=.ok () w12∧
   (∃(t38a:Option Addr) (t38n:Nat) (t38c:Nat) (w13:World),(Instr.makeSlice 26 (.int .i64 0) (.int .i64 (IntKind.wrap .i64 ((45:Int)+((a3n:Nat):Int))))).run Tryz.prog w12=.ok (.slice t38a t38n t38c) w13∧
   (∃(t40a:Option Addr) (t40n:Nat) (t40c:Nat) (w14:World),(Instr.buildSlice 26 1 #[(0,(.int .u8 a1))]).run Tryz.prog w13=.ok (.slice t40a t40n t40c) w14∧
   (∃(t41a:Option Addr) (t41n:Nat) (t41c:Nat) (w15:World),(Builtin.append_ #[26,26] 26 #[(.slice t38a t38n t38c),(.slice t40a t40n t40c)]).run Tryz.prog w14=.ok (.slice t41a t41n t41c) w15∧
   (∃(t44a:Option Addr) (t44n:Nat) (t44c:Nat) (w16:World),(Builtin.append_ #[26,26] 26 #[(.slice t41a t41n t41c),(.slice (some ⟨g9,0,none⟩) 12 32)]).run Tryz.prog w15=.ok (.slice t44a t44n t44c) w16∧
   (∃(t47a:Option Addr) (t47n:Nat) (t47c:Nat) (w17:World),(Builtin.append_ #[26,26] 26 #[(.slice t44a t44n t44c),(.slice t28a t28n t28c)]).run Tryz.prog w16=.ok (.slice t47a t47n t47c) w17∧
   (0≤((32:Nat):Int)∧((32:Nat):Int)≤((32:Nat):Int)∧
   (∃(t50a:Option Addr) (t50n:Nat) (t50c:Nat) (w18:World),(Builtin.append_ #[26,26] 26 #[(.slice t47a t47n t47c),(.slice (some ⟨g12,0,none⟩) (32) 32)]).run Tryz.prog w17=.ok (.slice t50a t50n t50c) w18∧
   (R (.returned (.slice t50a t50n t50c)) w18))))))))))))))))

theorem overF_len (K nonce b:List UInt8):(overF K nonce b).length≤b.length:=by
 rw [overF,xorR];split<;>simp

theorem sealTail_of (K:List UInt8) (k:UInt8) (a2:Option Addr) (n2 c2:Nat) (ctx:List UInt8) (a3:Option Addr) (n3 c3:Nat) (plain d:List UInt8) (g4 g9:Nat) (w w7:World) (z:List UInt8) (R:Ending→World→Prop)
   (hk:K.length=96) (hK:KTab w) (hr2:RdB w a2 n2 c2 ctx) (hr3:RdB w a3 n3 c3 plain) (hb:n2+n3≤67100000) (hd:d.length=32) (hz:z.length=32) (h7:St w [] w7 [.arr g4 41 (bv K),.arr g9 39 (bv z)])
   (hR:∀a n c w',FreshB w w' a n c ([k]++d.take 12++overF K (d.take 12) plain++tagF K k ctx (d.take 12) (overF K (d.take 12) plain))→R (.returned (.slice a n c)) w'):
   sealTail (k.toNat:Int) a2 n2 c2 a3 n3 c3 g4 g9 (bv d).toArray R w7:=by
 have e2:=hr2.lenB
 have e3:=hr3.lenB
 have hv:=overF_len K (d.take 12) plain
 obtain ⟨body,hbody⟩:∃b,overF K (d.take 12) plain=b:=⟨_,rfl⟩
 rw [hbody] at hR hv
 obtain ⟨w8,r8,h8⟩:=h7.stA (i:=1) (v:=bv d) rfl (d32S _) (by simp [hz]) (by simp [hd]) (bv_one _)
 have hn:∀w',Chg [] w8 w'→RdB w' (some ⟨g9,0,none⟩) 12 32 (d.take 12):=fun w' hc=>rdB_upto (l:=d) ((h8.same hc).rdA (i:=1) rfl (by simp [hd])) (by omega)
 have hl4:∀w',Chg [] w8 w'→(Instr.loadAt 41 (.pointer (some ⟨g4,0,none⟩))).run Tryz.prog w'=.ok (.agg (bv K).toArray) w':=fun w' hc=>(h8.same hc).ldA (i:=0) (l:=bv K) rfl (kyA _) (kyS _) (by simp [hk])
 have hzr:=Chg.refl [] w8
 refine ⟨w8,r8,by omega,by omega,_,hl4 _ hzr,(over_spec' K _ 32 (d.take 12) a3 n3 c3 plain w8 hk (hn _ hzr) (h8.rd1 hr3) (by omega)).mono ?_⟩
 rintro e w9 ⟨a9,n9,c9,rfl,hf9⟩
 rw [hbody] at hf9
 have e9:=hf9.2.1
 refine ⟨_,_,_,rfl,_,hl4 _ hf9.1,(tag_spec K k a2 n2 c2 ctx _ 12 32 (d.take 12) a9 n9 c9 body w9 hk (hK.keep0 (h8.chg.trans hf9.1)) ((h8.same hf9.1).rd1 hr2) (hn _ hf9.1) hf9.rdB (by omega)).mono ?_⟩
 rintro e w10 ⟨rfl,hc10⟩
 obtain ⟨tg,htg⟩:∃t,tagF K k ctx (d.take 12) body=t:=⟨_,rfl⟩
 have htl:tg.length=32:=by rw [←htg];simp
 rw [htg] at hR ⊢
 have h10:St w [] w10 [.arr g4 41 (bv K),.arr g9 39 (bv d),.row 5 1 (.slice a9 n9 c9) n9 (bv body)]:=(hf9.add h8).same hc10
 obtain ⟨g11,w11,r11,h11⟩:=h10.zeroA d32Z
 obtain ⟨w12,r12,h12⟩:=h11.stA (i:=3) (v:=bv tg) rfl (d32S _) (by simp) (by simp [htl]) (bv_one _)
 have hw:IntKind.wrap .i64 ((45:Int)+(n3:Int))=((45+n3:Nat):Int):=by rw [wrap_i64 (by omega) (by omega)];omega
 obtain ⟨g13,w13,r13,h13⟩:=h12.mk0n (kl:=.i64) (kc:=.i64) (c:=45+n3) bT (by omega) (by omega)
 obtain ⟨g14,w14,r14,c14,q14⟩:=litK k w13
 have h14:St w [] w14 [.arr g4 41 (bv K),.arr g9 39 (bv d),.row 5 1 (.slice a9 n9 c9) n9 (bv body),.arr g11 39 (bv tg),.row 5 1 (.slice (some ⟨g13,0,none⟩) 0 (45+n3)) 0 (bv [])]:=h13.same c14
 obtain ⟨va,vc,w15,r15,h15⟩:=h14.appendB (i:=4) (xs:=[]) rfl q14 (by omega)
 have h15':St w [] w15 [.arr g4 41 (bv K),.arr g9 39 (bv d),.row 5 1 (.slice a9 n9 c9) n9 (bv body),.arr g11 39 (bv tg),.row 5 1 (.slice va 1 vc) 1 (bv [k])]:=h15
 obtain ⟨vb,vd,w16,r16,h16⟩:=h15'.appendB (i:=4) rfl (rdB_upto (l:=d) (n:=32) (c:=32) (k:=12) (h15'.rdA (i:=1) (n:=32) rfl (by simp [hd])) (by omega)) (by omega)
 have h16':St w [] w16 [.arr g4 41 (bv K),.arr g9 39 (bv d),.row 5 1 (.slice a9 n9 c9) n9 (bv body),.arr g11 39 (bv tg),.row 5 1 (.slice vb (1+12) vd) (1+12) (bv ([k]++d.take 12))]:=h16
 obtain ⟨ve,vf,w17,r17,h17⟩:=h16'.appendB (i:=4) rfl (h16'.rd (i:=2) (xs:=bv body) rfl) (by omega)
 have h17':St w [] w17 [.arr g4 41 (bv K),.arr g9 39 (bv d),.row 5 1 (.slice a9 n9 c9) n9 (bv body),.arr g11 39 (bv tg),.row 5 1 (.slice ve (1+12+n9) vf) (1+12+n9) (bv ([k]++d.take 12++body))]:=h17
 obtain ⟨vg,vh,w18,r18,h18⟩:=h17'.appendB (i:=4) (m:=32) (l:=tg) rfl (h17'.rdA (i:=3) rfl (by simp [htl])) (by omega)
 rw [hw]
 exact ⟨_,rfl,g11,w11,r11,w12,r12,_,_,_,w13,r13,_,_,_,w14,r14,_,_,_,w15,r15,_,_,_,w16,r16,_,_,_,w17,r17,by omega,by omega,_,_,_,w18,r18,hR _ _ _ _ (h18.freshB (i:=4) rfl)⟩

theorem seal_spec (K:List UInt8) (k:UInt8) (a2:Option Addr) (n2 c2:Nat) (ctx:List UInt8) (a3:Option Addr) (n3 c3:Nat) (plain:List UInt8) (w:World)
   (hk:K.length=96) (hK:KTab w) (hr2:RdB w a2 n2 c2 ctx) (hr3:RdB w a3 n3 c3 plain) (hb:n2+n3≤67100000):
   Calls Tryz.prog 101 #[.agg (bv K).toArray,.int .u8 (k.toNat:Int),.slice a2 n2 c2,.slice a3 n3 c3] w fun e w'=>∃a n c,e=.returned (.slice a n c)∧FreshB w w' a n c (sealF K k ctx plain):=by
 have e2:=hr2.lenB
 have e3:=hr3.lenB
 apply seal_Seal_vc
 obtain ⟨g1,w1,r1,h1⟩:=(St.start w).boxA 41 (bv K)
 have hd:=Chg.drew [] w1
 have P20:∀w' g,Chg [] w1 w'→RdB w' (some ⟨g,0,none⟩) 1 1 [k]→∃g2 w'',(Instr.buildSlice 24 3 #[(0,.slice (some ⟨g,0,none⟩) 1 1),(1,.slice a2 n2 c2),(2,.slice a3 n3 c3)]).run Tryz.prog w'=.ok (.slice (some ⟨g2,0,none⟩) 3 3) w''∧Chg [] w' w''∧
     Rd w'' (some ⟨g2,0,none⟩) 3 3 1 [.slice (some ⟨g,0,none⟩) 1 1,.slice a2 n2 c2,.slice a3 n3 c3]∧Row2 w'' [.slice (some ⟨g,0,none⟩) 1 1,.slice a2 n2 c2,.slice a3 n3 c3] [[k],ctx,plain]:=fun w' g hc hr=>by
   obtain ⟨g2,w2,r2,c2',q2,_⟩:=litC bbT [.slice (some ⟨g,0,none⟩) 1 1,.slice a2 n2 c2,.slice a3 n3 c3] (by simp [Value.oneCell']) (by simp) w'
   have hcc:=h1.chg.trans (hc.trans c2')
   exact ⟨g2,w2,r2,c2',q2,row2_three (hr.keep0 c2') (hr2.keep0 hcc) (hr3.keep0 hcc)⟩
 obtain ⟨P,hP⟩:∃P,packL [[k],ctx,plain]=P:=⟨_,rfl⟩
 have hpl:P.length≤67109864:=by
   have:=packL_len [[k],ctx,plain] (by simp;omega)
   rw [hP] at this
   simp at this
   omega
 have Ppk:∀w' g2 vs,Rd w' (some ⟨g2,0,none⟩) 3 3 1 vs→Row2 w' vs [[k],ctx,plain]→Calls Tryz.prog 100 #[.slice (some ⟨g2,0,none⟩) 3 3] w' fun e w''=>∃a n c,e=.returned (.slice a n c)∧FreshB w' w'' a n c P:=fun w' g2 vs q qr=>by
   have:=pack_spec _ 3 3 vs [[k],ctx,plain] w' q qr (by simp;omega) (by simp)
   rw [hP] at this;exact this
 have P22:∀w' a n c,RdB w' a n c P→∃g2 w'',(Instr.buildSlice 24 1 #[(0,.slice a n c)]).run Tryz.prog w'=.ok (.slice (some ⟨g2,0,none⟩) 1 1) w''∧Chg [] w' w''∧Rd w'' (some ⟨g2,0,none⟩) 1 1 1 [.slice a n c]∧Row2 w'' [.slice a n c] [P]:=fun w' a n c hr=>by
   obtain ⟨g2,w2,r2,c2',q2,_⟩:=litC bbT [.slice a n c] (by simp [Value.oneCell']) (by simp) w'
   exact ⟨g2,w2,r2,c2',q2,row2_one (hr.keep0 c2')⟩
 have Pm:∀w' g2 vs,Chg [] w1 w'→Rd w' (some ⟨g2,0,none⟩) 1 1 1 vs→Row2 w' vs [P]→Calls Tryz.prog 198 #[.slice (some ⟨g1,64,none⟩) 32 32,.slice (some ⟨g2,0,none⟩) 1 1] w' fun e w''=>e=.returned (.agg (bv (macF (nameK K) P)).toArray)∧Chg [] w' w'':=fun w' g2 vs hc q qr=>by
   have e1: [P].flatten=P:=by rw [List.flatten_cons,List.flatten_nil,List.append_nil]
   have:=mac_spec _ 32 32 (nameK K) _ 1 1 vs [P] w' (hK.keep0 (h1.chg.trans hc)) (macK_rd (h1.same hc) (i:=0) rfl hk).2 (by omega) q qr (by rw [e1];omega) (by decide)
   rw [e1] at this;exact this
 have hR:∀a n c w',FreshB w w' a n c ([k]++(macF (nameK K) P).take 12++overF K ((macF (nameK K) P).take 12) plain++tagF K k ctx ((macF (nameK K) P).take 12) (overF K ((macF (nameK K) P).take 12) plain))→∃a' n' c',Ending.returned (.slice a n c)=.returned (.slice a' n' c')∧FreshB w w' a' n' c' (sealF K k ctx plain):=fun a n c w' hf=>⟨a,n,c,rfl,by rw [sealF,nonceF,hP];exact hf⟩
 have tail:∀g9 w7,St w [] w7 [.arr g1 41 (bv K),.arr g9 39 (bv (List.replicate 32 0))]→sealTail (k.toNat:Int) a2 n2 c2 a3 n3 c3 g1 g9 (bv (macF (nameK K) P)).toArray (fun e w'=>∃a n c,e=.returned (.slice a n c)∧FreshB w w' a n c (sealF K k ctx plain)) w7:=fun g9 w7 h7=>
   sealTail_of K k a2 n2 c2 ctx a3 n3 c3 plain _ g1 g9 w w7 _ _ hk hK hr2 hr3 hb (macF_len _ _) (by simp) h7 hR
 obtain ⟨g3,w3,r3,c3',q3⟩:=litK k w1.drew
 have d3:=hd.trans c3'
 obtain ⟨g4,w4,r4,c4',q4,qr4⟩:=P20 w3 g3 d3 q3
 have d4:=d3.trans c4'
 refine ⟨g1,w1,r1,by omega,by omega,⟨_,_,_,_,r3,⟨_,_,_,_,r4,(Ppk w4 g4 _ q4 qr4).mono ?_,?_⟩,?_⟩,?_⟩
 · rintro e w5 ⟨a5,n5,c5,rfl,hf5⟩
   have d5:=d4.trans hf5.1
   refine ⟨_,_,_,rfl,?_,?_⟩
   · obtain ⟨g6,w6,r6,c6',q6,qr6⟩:=P22 w5 _ _ _ hf5.rdB
     have d6:=d5.trans c6'
     refine ⟨_,_,_,_,r6,(Pm w6 g6 _ d6 q6 qr6).mono ?_,?_⟩
     · rintro e w7 ⟨rfl,c7⟩
       obtain ⟨g9,w9,r9,h9⟩:=(h1.same (d6.trans c7)).zeroA d32Z
       exact ⟨_,rfl,g9,w9,r9,tail g9 w9 h9⟩
     · obtain ⟨g9,w9,r9,h9,c9⟩:=(h1.same d6).zeroAC d32Z
       refine ⟨g9,w9,r9,(Pm w9 g6 _ (d6.trans c9) (q6.keep0 c9) (qr6.keep0 c9)).mono ?_⟩
       rintro e w10 ⟨rfl,c10⟩
       exact ⟨_,rfl,tail g9 w10 (h9.same c10)⟩
   · obtain ⟨g9,w9,r9,h9,c9⟩:=(h1.same d5).zeroAC d32Z
     obtain ⟨g6,w6,r6,c6',q6,qr6⟩:=P22 w9 _ _ _ (hf5.rdB.keep0 c9)
     refine ⟨g9,w9,r9,_,_,_,_,r6,(Pm w6 g6 _ ((d5.trans c9).trans c6') q6 qr6).mono ?_⟩
     rintro e w10 ⟨rfl,c10⟩
     exact ⟨_,rfl,tail g9 w10 (h9.same (c6'.trans c10))⟩
 · obtain ⟨g9,w9,r9,h9,c9⟩:=(h1.same d4).zeroAC d32Z
   refine ⟨g9,w9,r9,(Ppk w9 g4 _ (q4.keep0 c9) (qr4.keep0 c9)).mono ?_⟩
   rintro e w5 ⟨a5,n5,c5,rfl,hf5⟩
   have d5:=(d4.trans c9).trans hf5.1
   obtain ⟨g6,w6,r6,c6',q6,qr6⟩:=P22 w5 _ _ _ hf5.rdB
   refine ⟨_,_,_,rfl,_,_,_,_,r6,(Pm w6 g6 _ (d5.trans c6') q6 qr6).mono ?_⟩
   rintro e w10 ⟨rfl,c10⟩
   exact ⟨_,rfl,tail g9 w10 (h9.same (hf5.1.trans (c6'.trans c10)))⟩
 · obtain ⟨g9,w9,r9,h9,c9⟩:=(h1.same d3).zeroAC d32Z
   obtain ⟨g4,w4,r4,c4',q4,qr4⟩:=P20 w9 g3 (d3.trans c9) (q3.keep0 c9)
   refine ⟨g9,w9,r9,_,_,_,_,r4,(Ppk w4 g4 _ q4 qr4).mono ?_⟩
   rintro e w5 ⟨a5,n5,c5,rfl,hf5⟩
   have d5:=((d3.trans c9).trans c4').trans hf5.1
   obtain ⟨g6,w6,r6,c6',q6,qr6⟩:=P22 w5 _ _ _ hf5.rdB
   refine ⟨_,_,_,rfl,_,_,_,_,r6,(Pm w6 g6 _ (d5.trans c6') q6 qr6).mono ?_⟩
   rintro e w10 ⟨rfl,c10⟩
   exact ⟨_,rfl,tail g9 w10 (h9.same ((c4'.trans hf5.1).trans (c6'.trans c10)))⟩
 · obtain ⟨g9,w9,r9,h9,c9⟩:=(h1.same hd).zeroAC d32Z
   obtain ⟨g3,w3,r3,c3',q3⟩:=litK k w9
   have d3:=(hd.trans c9).trans c3'
   obtain ⟨g4,w4,r4,c4',q4,qr4⟩:=P20 w3 g3 d3 q3
   refine ⟨g9,w9,r9,_,_,_,_,r3,_,_,_,_,r4,(Ppk w4 g4 _ q4 qr4).mono ?_⟩
   rintro e w5 ⟨a5,n5,c5,rfl,hf5⟩
   have d5:=(d3.trans c4').trans hf5.1
   obtain ⟨g6,w6,r6,c6',q6,qr6⟩:=P22 w5 _ _ _ hf5.rdB
   refine ⟨_,_,_,rfl,_,_,_,_,r6,(Pm w6 g6 _ (d5.trans c6') q6 qr6).mono ?_⟩
   rintro e w10 ⟨rfl,c10⟩
   exact ⟨_,rfl,tail g9 w10 (h9.same ((c3'.trans (c4'.trans hf5.1)).trans (c6'.trans c10)))⟩

def openE (K:List UInt8) (kind:UInt8) (ctx b:List UInt8):Option Int:=if (openF K kind ctx b).isSome then none else some 10

theorem open_spec (K:List UInt8) (k:UInt8) (a2:Option Addr) (n2 c2:Nat) (ctx:List UInt8) (a3:Option Addr) (n3 c3:Nat) (b:List UInt8) (w:World)
   (hk:K.length=96) (hK:KTab w) (hr2:RdB w a2 n2 c2 ctx) (hr3:RdB w a3 n3 c3 b) (hb:n2+n3≤67100000):
   Calls Tryz.prog 111 #[.agg (bv K).toArray,.int .u8 (k.toNat:Int),.slice a2 n2 c2,.slice a3 n3 c3] w fun e w'=>∃a n c,e=.returned (.tuple #[.slice a n c,errV (openE K k ctx b)])∧FreshB w w' a n c ((openF K k ctx b).getD []):=by
 have e2:=hr2.lenB
 have e3:=hr3.lenB
 have hle:=hr3.le
 apply seal_Open_vc
 obtain ⟨g1,w1,r1,h1⟩:=(St.start w).boxA 41 (bv K)
 have bad:∀w',Chg [] w w'→openF K k ctx b=none→∃a n c,Ending.returned (.tuple #[.slice none 0 0,.iface 65 (.int .i64 10)])=.returned (.tuple #[.slice a n c,errV (openE K k ctx b)])∧FreshB w w' a n c ((openF K k ctx b).getD []):=fun w' hc hn=>by
   refine ⟨none,0,0,?_,?_⟩
   · rw [openE,hn];rfl
   · rw [hn];exact ⟨hc,rfl,World.ownsRow_nil _ _ _ _⟩
 refine ⟨g1,w1,r1,fun x w'=>x=decide (b.length<45∨b.getD 0 0≠k)∧w'=w1,⟨fun h=>?_,fun h=>?_⟩,?_⟩
 · have:b.length<45:=by simp at h;omega
   exact ⟨by simp [this],rfl⟩
 · have h45:¬b.length<45:=by simp at h;omega
   refine ixB (bA _) (h1.rd1 hr3).cells e3 (by omega) (by omega) fun bl o hbo=>⟨?_,rfl⟩
   have:(0:Int).toNat=0:=rfl
   rw [this]
   by_cases hx:b.getD 0 0=k
   · rw [hx];simp [h45]
   · have hx2:((b.getD 0 0).toNat:Int)≠(k.toNat:Int):=fun e=>hx (by apply UInt8.toNat_inj.1;omega)
     rw [bne_iff_ne.2 hx2]
     exact (decide_eq_true (.inr hx)).symm
 rintro x w2 ⟨rfl,rfl⟩
 refine ⟨fun h=>bad _ h1.chg ?_,fun h=>?_⟩
 · have h':b.length<45∨b.getD 0 0≠k:=by simpa using h
   rw [openF,if_pos h']
 have h':¬(b.length<45∨b.getD 0 0≠k):=by simpa using h
 have hof:openF K k ctx b=if tagF K k ctx (bNonce b) (bBody b)=bTag b then some (overF K (bNonce b) (bBody b)) else none:=by rw [openF,if_neg h']
 have h45:45≤b.length:=by
   rcases Nat.lt_or_ge b.length 45 with h | h
   · exact absurd (.inl h) h'
   · exact h
 clear h h'
 have hw:IntKind.wrap .i64 ((n3:Int)-32)=((n3-32:Nat):Int):=by rw [wrap_i64 (by omega) (by omega)];omega
 rw [hw]
 have hdw:=Chg.drew [] w2
 have h1d:=h1.same hdw
 refine ⟨by omega,by omega,by omega,fun t29 hs29=>⟨by omega,by omega,by omega,fun t32 hs32=>?_⟩⟩
 have q3:=h1d.rd1 hr3
 have qn:RdB w2.drew t29 12 (c3-1) (bNonce b):=by
   have:=q3.sub hs29 (hh:=13) (by omega) (by omega) (by omega) (Nat.le_refl _)
   have e1:((bv b).drop (1*1)).take ((13-1)*1)=bv (bNonce b):=by rw [bNonce,bv_take,bv_drop]
   rw [e1] at this
   exact this
 have qb:RdB w2.drew t32 (n3-32-13) (c3-13) (bBody b):=by
   have:=q3.sub hs32 (hh:=n3-32) (by omega) (by omega) (by omega) (Nat.le_refl _)
   have e1:((bv b).drop (13*1)).take ((n3-32-13)*1)=bv (bBody b):=by rw [bBody,bv_take,bv_drop,e3];congr 1;omega
   rw [e1] at this
   exact this
 have hl4:∀w',Chg [] w2.drew w'→(Instr.loadAt 41 (.pointer (some ⟨g1,0,none⟩))).run Tryz.prog w'=.ok (.agg (bv K).toArray) w':=fun w' hc=>(h1d.same hc).ldA (i:=0) (l:=bv K) rfl (kyA _) (kyS _) (by simp [hk])
 rw [Int.toNat_natCast]
 refine ⟨_,hl4 _ (Chg.refl _ _),(tag_spec K k a2 n2 c2 ctx t29 12 (c3-1) (bNonce b) t32 (n3-32-13) (c3-13) (bBody b) _ hk (hK.keep0 h1d.chg) (h1d.rd1 hr2) qn qb (by omega)).mono ?_⟩
 rintro e w3 ⟨rfl,c3'⟩
 obtain ⟨tg,htg⟩:∃t,tagF K k ctx (bNonce b) (bBody b)=t:=⟨_,rfl⟩
 have htl:tg.length=32:=by rw [←htg];simp
 rw [htg] at hof ⊢
 obtain ⟨g4,w4,r4,h4⟩:=(St.start w2.drew |>.same c3').zeroA d32Z
 obtain ⟨w5,r5,h5⟩:=h4.stA (i:=0) (v:=bv tg) rfl (d32S _) (by simp) (by simp [htl]) (bv_one _)
 have h5d:=h5.drew
 refine ⟨_,rfl,g4,w4,r4,w5,r5,by omega,by omega,by omega,by omega,by omega,fun t42 hs42=>?_⟩
 have qt:RdB w5.drew t42 (n3- (n3-32)) (c3- (n3-32)) (bTag b):=by
   have:=(q3.keep0 h5d.chg).sub hs42 (hh:=n3) (by omega) (Nat.le_refl _) (by omega) (Nat.le_refl _)
   have e1:((bv b).drop ((n3-32)*1)).take ((n3- (n3-32))*1)=bv (bTag b):=by
     rw [bTag,bv_drop,e3,List.take_of_length_le (by simp;omega)];congr 1;omega
   rw [e1] at this
   exact this
 refine (equal_spec _ 32 32 tg t42 _ _ (bTag b) _ (h5d.rdA (i:=0) rfl (by simp [htl])) qt (by omega)).mono ?_
 rintro e w6 ⟨rfl,c6⟩
 have d6:=h5d.chg.trans c6
 refine ⟨_,rfl,fun h=>bad _ (h1d.chg.trans d6) ?_,fun h=>?_⟩
 · have:¬tg=bTag b:=by simpa using h
   rw [hof,if_neg this]
 · have ht:tg=bTag b:=by simpa using h
   rw [if_pos ht] at hof
   refine ⟨_,hl4 _ d6,(over_spec' K t29 (c3-1) (bNonce b) t32 (n3-32-13) (c3-13) (bBody b) w6 hk (qn.keep0 d6) (qb.keep0 d6) (by omega)).mono ?_⟩
   rintro e w7 ⟨a7,n7,c7,rfl,hf7⟩
   refine ⟨_,_,_,rfl,a7,n7,c7,?_,?_⟩
   · rw [openE,hof];rfl
   · rw [hof]
     exact FreshB.after hf7 (h1d.chg.trans d6)

end Go.Proofs.YtpmhjnhgpplmnaaGreatDoor
end

section
namespace Go.Proofs.YtpmhjnhgpplmnaaGreatDoor
open Go Sx
set_option maxRecDepth 8000
set_option maxRecDepth 100000

theorem xorL_two (key nonce:List UInt8) (p:Nat) (l:List UInt8):xorL key nonce p (xorL key nonce p l)=l:=by
 apply List.ext_getElem?
 intro i
 simp only [xorL,List.getElem?_mapIdx]
 cases l[i]? with
 | none=>rfl
 | some b=>simp [UInt8.xor_assoc]

theorem overF_two (K nonce plain:List UInt8) (h:plain.length≤274877906944):overF K nonce (overF K nonce plain)=plain∧(overF K nonce plain).length=plain.length:=by
 have h1:∀l:List UInt8,l.length≤274877906944→overF K nonce l=xorL (ciphK K) nonce 0 l:=fun l hl=>by
   have:roomF 0 l.length=true:=by simp [roomF];omega
   rw [overF,xorR,if_pos this];rfl
 rw [h1 plain h,h1 _ (by rw [xorL_len];exact h),xorL_two,xorL_len]
 exact ⟨rfl,rfl⟩

theorem sealF_len (K:List UInt8) (k:UInt8) (ctx plain:List UInt8) (h:plain.length≤274877906944):(sealF K k ctx plain).length=plain.length+45:=by
 simp [sealF,(overF_two K (nonceF K k ctx plain) plain h).2];omega

theorem sealF_parts (K:List UInt8) (k:UInt8) (ctx plain:List UInt8) (h:plain.length≤274877906944):(sealF K k ctx plain).getD 0 0=k∧bNonce (sealF K k ctx plain)=nonceF K k ctx plain∧bBody (sealF K k ctx plain)=overF K (nonceF K k ctx plain) plain∧
   bTag (sealF K k ctx plain)=tagF K k ctx (nonceF K k ctx plain) (overF K (nonceF K k ctx plain) plain):=by
 have hl:=sealF_len K k ctx plain h
 have h2:=(overF_two K (nonceF K k ctx plain) plain h).2
 have hn:=nonceF_len K k ctx plain
 obtain ⟨nn,hnn⟩:∃n,nonceF K k ctx plain=n:=⟨_,rfl⟩
 obtain ⟨bd,hbd⟩:∃n,overF K nn plain=n:=⟨_,rfl⟩
 rw [hnn] at h2 hn ⊢
 rw [hbd] at h2 ⊢
 obtain ⟨tg,htg⟩:∃n,tagF K k ctx nn bd=n:=⟨_,rfl⟩
 have ht:tg.length=32:=by rw [←htg];simp
 have hs:sealF K k ctx plain=[k]++nn++bd++tg:=by rw [sealF,hnn,hbd,htg]
 rw [htg]
 rw [bBody,bTag,hl,hs,bNonce]
 have d1:([k]++nn++bd++tg).drop 1=nn++(bd++tg):=by simp
 have d13:([k]++nn++bd++tg).drop 13=bd++tg:=by
   rw [List.append_assoc];exact List.drop_left' (by simp [hn])
 refine ⟨by simp,?_,?_,?_⟩
 · rw [d1];exact List.take_left' hn
 · rw [d13];exact List.take_left' (by omega)
 · exact List.drop_left' (by simp [hn,h2];omega)

theorem open_sealF (K:List UInt8) (k:UInt8) (ctx plain:List UInt8) (h:plain.length≤274877906944):openF K k ctx (sealF K k ctx plain)=some plain:=by
 obtain ⟨p1,p2,p3,p4⟩:=sealF_parts K k ctx plain h
 have hl:=sealF_len K k ctx plain h
 rw [openF,if_neg (by rw [p1,hl];simp),p2,p3,p4,if_pos rfl,(overF_two K _ plain h).1]

end Go.Proofs.YtpmhjnhgpplmnaaGreatDoor
end

section
namespace Go.Proofs.YtpmhjnhgpplmnaaGreatDoor
open Go Sx
set_option maxRecDepth 8000

theorem eqlS_err {T:TypeId} {m} (hT:Tryz.prog.underlying T=some (.interface m)) (o:Option Int) (n:Int) (x y:Operand) (w:World):(eqlS .eql T x y (errV o) (.iface 65 (.int .i64 n))).run Tryz.prog w=.ok (.bool (decide (o=some n))) w:=by
 have hE:=Tryz.underlying65
 have hI:(typeInfo 65).run Tryz.prog w=.ok Tryz.t65 w:=by
   simp [typeInfo,show Tryz.prog.info? 65=some Tryz.t65 by kernel_rfl]
 have hc:Tryz.t65.comparable=true:=by kernel_rfl
 have h1:∀d k,(Op.equalIn (d+2) T (.iface 65 (.int .i64 k)) (.iface 65 (.int .i64 n))).run Tryz.prog w=.ok (k==n) w:=fun d k=>by
   simp [Op.equalIn,run_underlying hT,run_underlying hE,hI,hc]
 have h2:∀d U v,(Op.equalIn (d+1) T .nilIface (.iface U v)).run Tryz.prog w=.ok false w:=fun d U v=>by simp [Op.equalIn,run_underlying hT]
 cases o with
 | none=>simp [eqlS,eqGuard,errV,binOp,Op.equal,show Op.maxDepth=9999+1 from rfl,h2 9999]
 | some k=>
   have h3:(some k=some n)=(k=n):=by simp
   simp only [h3]
   have h4:decide (k=n)=(k==n):=rfl
   rw [h4]
   simp [eqlS,eqGuard,errV,binOp,Op.equal,show Op.maxDepth=9998+2 from rfl,h1 9998]

end Go.Proofs.YtpmhjnhgpplmnaaGreatDoor
end

section
namespace Go.Proofs.YtpmhjnhgpplmnaaGreatDoor
open Go Sx
set_option maxRecDepth 8000

structure PcD where
 a:Option Addr
 c:Nat
 l:List UInt8
def PcD.v (p:PcD):Value:=.slice p.a p.l.length p.c
def PcD.row (p:PcD):Res:=.row 5 1 (.slice p.a p.l.length p.c) p.l.length (bv p.l)
structure FP where
 la:Option Addr
 lc:Nat
 ps:List PcD
 ra:Option Addr
 rc:Nat
 rs:List RefD
def fileL (num:Int) (f:FP):List Value:=[.slice f.la f.ps.length f.lc,.int .i64 (((f.ps.map PcD.l).flatten.length:Nat):Int),.int .i64 num,.slice f.ra f.rs.length f.rc]
def fileR (g:Nat) (num:Int) (f:FP):List Res:=[.arr g 388 (fileL num f),.row 26 1 (.slice f.la f.ps.length f.lc) f.ps.length (f.ps.map PcD.v),.row 100 35 (.slice f.ra f.rs.length f.rc) f.rs.length (f.rs.flatMap refC)]
def FileIn (w0:World) (X:List Nat) (w:World) (g:Nat) (num:Int) (ps:List (List UInt8)) (rs:List RefD) (N:List Res):Prop:=∃f:FP,f.ps.map PcD.l=ps∧f.rs=rs∧St w0 X w (fileR g num f++(f.ps.map PcD.row++N))

section
variable {w0 w w':World} {X:List Nat} {N N' T:List Res} {g:Nat} {num:Int} {ps:List (List UInt8)} {rs:List RefD}

theorem FileIn.same (h:FileIn w0 X w g num ps rs N) (hc:Chg [] w w'):FileIn w0 X w' g num ps rs N:=by obtain ⟨f,h1,h2,hS⟩:=h;exact ⟨f,h1,h2,hS.same hc⟩
theorem FileIn.chg (h:FileIn w0 X w g num ps rs N):Chg X w0 w:=by obtain ⟨f,h1,h2,hS⟩:=h;exact hS.chg
theorem FileIn.rest (h:FileIn w0 X w g num ps rs N):St w0 X w N:=by
 obtain ⟨f,h1,h2,hS⟩:=h
 exact hS.sub ((List.sublist_append_right _ _).trans (List.sublist_append_right _ _))
theorem FileIn.addSt (h:FileIn w0 X w g num ps rs N) (h':St w [] w' T):FileIn w0 X w' g num ps rs (N++T):=by
 obtain ⟨f,h1,h2,hS⟩:=h
 refine ⟨f,h1,h2,?_⟩
 have:=Sx.St.callPart (N:=[]) (by rw [List.append_nil];exact hS) h'
 rw [List.append_assoc,List.append_assoc] at this
 exact this
end

end Go.Proofs.YtpmhjnhgpplmnaaGreatDoor
end

section
namespace Go.Proofs.YtpmhjnhgpplmnaaGreatDoor
open Go Sx
set_option maxRecDepth 8000

section
variable {w0 w w':World} {X:List Nat} {M N N' T:List Res} {g:Nat} {num:Int} {ps:List (List UInt8)} {rs:List RefD}

theorem frmT_len (x:Itm) (h:x.1.length=32) (hb:x.2.length≤67108832):33+x.2.length≤(frmT x).length∧(frmT x).length≤42+x.2.length:=by
 have:=varL_len 9 (x.1++x.2).length (by rw [List.length_append,h];omega) (by decide)
 have:=varL_pos (x.1++x.2).length
 simp only [frmT,frameL,List.length_cons,List.length_append,h] at*
 omega

end

end Go.Proofs.YtpmhjnhgpplmnaaGreatDoor
end

section
namespace Go.Proofs.YtpmhjnhgpplmnaaGreatDoor
open Go Sx
set_option maxRecDepth 8000

theorem SmallI.take {xs:List Itm} (h:SmallI xs) (i:Nat):SmallI (xs.take i):=by
 refine ⟨by have:=h.num;simp;omega,fun x hx=>h.idl x (List.mem_of_mem_take hx),?_⟩
 have e:(xs.take i++xs.drop i).map (fun x=>x.2.length)=xs.map (fun x=>x.2.length):=by rw [List.take_append_drop]
 have h2:=congrArg List.sum e
 rw [List.map_append,List.sum_append] at h2
 have:=h.sum
 omega
theorem frames_len:∀(xs:List Itm),(∀x∈xs,x.1.length=32∧x.2.length≤67108832)→(xs.map frmT).flatten.length≤42*xs.length+(xs.map fun x=>x.2.length).sum
 | [],_=>by simp
 | x::r,h=>by
   obtain ⟨h1,h2⟩:=h x (by simp)
   have:=(frmT_len x h1 h2).2
   have:=frames_len r fun y hy=>h y (by simp [hy])
   simp only [List.map_cons,List.flatten_cons,List.length_append,List.length_cons,List.sum_cons]
   omega
theorem SmallI.bytes {xs:List Itm} (h:SmallI xs):(xs.map frmT).flatten.length≤16950000:=by
 have h1:=frames_len xs fun x hx=>⟨h.idl x hx,by have:=h.blob hx;omega⟩
 have h2:=h.num
 have h3:=h.sum
 omega
section
variable {w0 w w':World} {X:List Nat} {M N N' T:List Res} {g:Nat} {num:Int} {ps:List (List UInt8)} {rs:List RefD}

theorem kyA' (w:World):(isAgg 41).run Tryz.prog w=.ok true w:=Tryz.isAgg41 w
theorem kyS' (w:World):(sizeOf 41).run Tryz.prog w=.ok 96 w:=Tryz.sizeOf41 w

end

end Go.Proofs.YtpmhjnhgpplmnaaGreatDoor
end

section
namespace Go.Proofs.YtpmhjnhgpplmnaaGreatDoor
open Go Go.Proofs.YtpmhjnhgpplmnaaGreatDoor.Sx

set_option maxRecDepth 100000
theorem amphoraref04_Var_vc (a0:Int) (w:World) (R:Ending→World→Prop) (h:∃(I:Int→Option Addr→Nat→Nat→World→Prop) (μ:Int→Option Addr→Nat→Nat→World→Nat),I a0 none 0 0 w∧(∀x0 x3a x3n x3c,∀w1,I x0 x3a x3n x3c w1→((decide (x0≥(0:Int))=true→((((IntKind.wrap .i64 (Int.tdiv x0 (128:Int)))==(0:Int))=true→(∃t16a t16n t16c w2,(Instr.buildSlice 26 1 #[(0,(.int .u8 (IntKind.wrap .u8 (Int.tmod x0 (128:Int)))))]).run Tryz.prog w1=.ok (.slice t16a t16n t16c) w2∧(∃t17a t17n t17c w3,(Builtin.append_ #[26,26] 26 #[(.slice x3a x3n x3c),(.slice t16a t16n t16c)]).run Tryz.prog w2=.ok (.slice t17a t17n t17c) w3∧(R (.returned (.slice t17a t17n t17c)) w3))))∧(((IntKind.wrap .i64 (Int.tdiv x0 (128:Int)))==(0:Int))=false→(∃t22a t22n t22c w4,(Instr.buildSlice 26 1 #[(0,(.int .u8 (IntKind.wrap .u8 (IntKind.wrap .i64 ((Int.tmod x0 (128:Int))+(128:Int))))))]).run Tryz.prog w1=.ok (.slice t22a t22n t22c) w4∧(∃t23a t23n t23c w5,(Builtin.append_ #[26,26] 26 #[(.slice x3a x3n x3c),(.slice t22a t22n t22c)]).run Tryz.prog w4=.ok (.slice t23a t23n t23c) w5∧(I (IntKind.wrap .i64 (Int.tdiv x0 (128:Int))) t23a t23n t23c w5∧μ (IntKind.wrap .i64 (Int.tdiv x0 (128:Int))) t23a t23n t23c w5<μ x0 x3a x3n x3c w1))))))∧(decide (x0≥(0:Int))=false→(R (.returned (.slice none 0 0)) w1))))):Calls Tryz.prog 240 #[(.int .i64 a0)] w R:=calls_of_ev2 (tc:=.sq [.rg 1,.rg 1,.blk (.loop (lr [(0,1),(2,22)]) [0,3] [.int .i64,.slice] (.seq (.seq (.rg 2) (.cond .leaf .leaf)) (.blk (.sq [.rg 3,.rg 3,.seq (.rg 2) (.cond (.seq (.reg (.pp 3 (.op (.r .slice) (.op (.r .slice) (.op .p .nil))))) .leaf) .leaf)] (.reg (.pp 4 (.op (.r .slice) (.op (.r .slice) (.op .p .nil))))))))),.rg 1] .leaf) Tryz.func240 (by kernel_rfl) (by kernel_rfl) h

theorem amphoraref04_Num_vc (a0:Int) (w:World) (R:Ending→World→Prop) (h:∃t6a t6n t6c w1,(Instr.makeSlice 26 (.int .i64 8) (.int .i64 8)).run Tryz.prog w=.ok (.slice t6a t6n t6c) w1∧(∃(I:Int→Int→World→Prop) (μ:Int→Int→World→Nat),I (IntKind.wrap .u64 a0) 7 w1∧(∀x4 x5,∀w2,I x4 x5 w2→((decide (x5≥(0:Int))=true→(∃t18b t18o,t6a=some ⟨t18b,t18o,none⟩∧0≤x5∧x5<(t6n:Int)∧(∃w3,StQ 5 t18b (t18o+Int.toNat x5*1) (.int .u8 (IntKind.wrap .u8 (Int.tmod x4 (256:Int)))) w2 w3∧(I (IntKind.wrap .u64 (Int.tdiv x4 (256:Int))) (IntKind.wrap .i64 (x5- (1:Int))) w3∧μ (IntKind.wrap .u64 (Int.tdiv x4 (256:Int))) (IntKind.wrap .i64 (x5- (1:Int))) w3<μ x4 x5 w2))))∧(decide (x5≥(0:Int))=false→(R (.returned (.slice t6a t6n t6c)) w2)))))):Calls Tryz.prog 203 #[(.int .i64 a0)] w R:=calls_of_ev2 (tc:=.sq [.rg 1,.reg (.op (.r .slice) (.op .p .nil)),.rg 3,.seq (.rg 1) (.blk (.loop (lr [(4,2),(9,12)]) [4,5] [.int .u64,.int .i64] (.sq [.seq (.rg 2) (.cond .leaf .leaf),.blk (.seq (.reg (.pp 5 (.op .ix (.op .u .nil)))) (.rg 3))] (.rg 3)))),.rg 2] .leaf) Tryz.func203 (by kernel_rfl) (by kernel_rfl) h

theorem amphoraref04_Pack_vc (a0a:Option Addr) (a0n:Nat) (a0c:Nat) (w:World) (R:Ending→World→Prop) (h:∃(I:Option Addr→Nat→Nat→Int→World→Prop) (μ:Option Addr→Nat→Nat→Int→World→Nat),I none 0 0 0 w∧(∀x3a x3n x3c x4,∀w1,I x3a x3n x3c x4 w1→((decide (x4<(a0n:Int))=true→(∃t13b t13o,a0a=some ⟨t13b,t13o,none⟩∧0≤x4∧x4<(a0n:Int)∧(∃t14a t14n t14c,LdQ 26 t13b (t13o+Int.toNat x4*1) (.slice t14a t14n t14c) w1∧((decide ((t14n:Int)>(67108864:Int))=true→(R (.returned (.slice none 0 0)) w1))∧(decide ((t14n:Int)>(67108864:Int))=false→(∃S:World→Prop,S w1.drew∧(∃t20b t20o,a0a=some ⟨t20b,t20o,none⟩∧0≤x4∧x4<(a0n:Int)∧(∃t27b t27o,a0a=some ⟨t27b,t27o,none⟩∧0≤x4∧x4<(a0n:Int)∧(∃t21a t21n t21c,(∀w',S w'→LdQ 26 t20b (t20o+Int.toNat x4*1) (.slice t21a t21n t21c) w')∧(∃t28a t28n t28c,(∀w',S w'→LdQ 26 t27b (t27o+Int.toNat x4*1) (.slice t28a t28n t28c) w')∧(Calls Tryz.prog 240 #[(.int .i64 (t21n:Int))] w1.drew fun e23 w2=>∃t23a t23n t23c,e23=.returned (.slice t23a t23n t23c)∧(∃S_1:World→Prop,(∀w',S_1 w'→S w')∧S_1 w2∧(∃t24a t24n t24c w3,(Builtin.append_ #[26,26] 26 #[(.slice x3a x3n x3c),(.slice t23a t23n t23c)]).run Tryz.prog w2=.ok (.slice t24a t24n t24c) w3∧(∃S_2:World→Prop,(∀w',S_2 w'→S_1 w')∧S_2 w3∧(∃t29a t29n t29c w4,(Builtin.append_ #[26,26] 26 #[(.slice t24a t24n t24c),(.slice t28a t28n t28c)]).run Tryz.prog w3=.ok (.slice t29a t29n t29c) w4∧(∃S_3:World→Prop,(∀w',S_3 w'→S_2 w')∧S_3 w4∧(I t29a t29n t29c (IntKind.wrap .i64 (x4+1)) w4∧μ t29a t29n t29c (IntKind.wrap .i64 (x4+1)) w4<μ x3a x3n x3c x4 w1)))))))))))))))))∧(decide (x4<(a0n:Int))=false→(R (.returned (.slice x3a x3n x3c)) w1))))):Calls Tryz.prog 163 #[(.slice a0a a0n a0c)] w R:=calls_of_ev2 (tc:=.sq [.rg 1,.rg 1,.seq (.rg 1) (.blk (.loop (lr [(2,28)]) [3,4] [.slice,.int .i64] (.sq [.seq (.rg 4) (.cond .leaf .leaf),.blk (.seq (.seq (.reg (.pp 2 (.op .ix (.op (.ld .slice) (.pp 2 .nil))))) (.cond (.seq (.rg 1) .leaf) .leaf)) (.drawS (.tks [0,1,2] (.tk 3 .ix (.tks [8,9] (.tk 10 .ix (.ts 4 .slice (.tk 5 .p (.ts 11 .slice (.go 6 (.cl [.slice]) (.go 7 (.r .slice) (.go 12 (.r .slice) (.tk 13 .p .nil))))))))))) []))] (.rg 3)))),.rg 2] .leaf) Tryz.func163 (by kernel_rfl) (by kernel_rfl) h

end Go.Proofs.YtpmhjnhgpplmnaaGreatDoor
end

section
namespace Go.Proofs.YtpmhjnhgpplmnaaGreatDoor
open Go Sx
set_option maxRecDepth 8000

theorem rvar_neg (x:Int) (w:World) (h:x<0):Calls Tryz.prog 240 #[.int .i64 x] w fun e w'=>e=.returned (.slice none 0 0)∧w'=w:=by
 apply amphoraref04_Var_vc
 refine ⟨fun x' _ _ _ w'=>x'<0∧w'=w,fun _ _ _ _ _=>0,⟨h,rfl⟩,?_⟩
 rintro x' a n c w1 ⟨hx,rfl⟩
 exact ⟨fun h'=>by simp at h';omega,fun _=>⟨rfl,rfl⟩⟩

theorem rvar_spec (m:Nat) (w:World) (hm:m<9223372036854775808):Calls Tryz.prog 240 #[.int .i64 (m:Int)] w fun e w'=>∃a n c,e=.returned (.slice a n c)∧FreshB w w' a n c (varL m):=by
 have hlen:=varL_len 9 m (by simpa using hm) (by decide)
 apply amphoraref04_Var_vc
 refine ⟨fun x a n c w'=>∃(k:Nat) (pre:List UInt8),x=(k:Int)∧k<9223372036854775808∧varL m=pre++varL k∧pre.length=n∧St w [] w' [.row 5 1 (.slice a n c) n (bv pre)],fun x _ _ _ _=>x.toNat,
   ⟨m,[],rfl,hm,rfl,rfl,(St.start w).addNil _ _⟩,?_⟩
 rintro x a n c w1 ⟨k,pre,rfl,hk,he,hl,hS⟩
 have hn:n+(varL k).length≤9:=by have:=congrArg List.length he;simp at this;omega
 have hk1:=varL_pos k
 have hd:IntKind.wrap .i64 (Int.tdiv (k:Int) 128)=((k / 128:Nat):Int):=by rw [show Int.tdiv (k:Int) 128=((k / 128:Nat):Int) by rw [Int.tdiv_eq_ediv_of_nonneg (by omega)];omega];exact wrap_i64_nat _ (by omega)
 have hmo:Int.tmod (k:Int) 128=((k%128:Nat):Int):=by rw [Int.tmod_eq_emod_of_nonneg (by omega)];omega
 refine ⟨fun _=>?_,fun h=>by simp at h⟩
 rw [hd,hmo]
 refine ⟨fun h=>?_,fun h=>?_⟩
 · have hk0:k<128:=by simp at h;omega
   have hv:IntKind.wrap .u8 ((k%128:Nat):Int)=(k:Int):=by rw [wrap_u8];omega
   rw [hv]
   obtain ⟨g,w2,va,vc,w3,hr2,hr3,h3,_⟩:=hS.push1 (i:=0) rfl (by omega) k (by omega)
   refine ⟨_,_,_,_,hr2,_,_,_,_,hr3,_,_,_,rfl,?_⟩
   rw [he,varL_small hk0]
   exact h3.freshB (i:=0) rfl
 · have hk0:¬k<128:=by simp at h;omega
   have hv:IntKind.wrap .u8 (IntKind.wrap .i64 (((k%128:Nat):Int)+128))=((k%128+128:Nat):Int):=by
     rw [wrap_i64 (by omega) (by omega),wrap_u8];omega
   rw [hv]
   obtain ⟨g,w2,va,vc,w3,hr2,hr3,h3,_⟩:=hS.push1 (i:=0) rfl (by omega) (k%128+128) (by omega)
   refine ⟨_,_,_,_,hr2,_,_,_,_,hr3,⟨k / 128,pre++ [UInt8.ofNat (k%128+128)],rfl,by omega,?_,by simp [hl],h3⟩,?_⟩
   · rw [he,varL_big hk0];simp
   · simp;omega

theorem rnum_bytes (x:Int) (w:World):Calls Tryz.prog 203 #[.int .i64 x] w fun e w'=>∃a n c,e=.returned (.slice a n c)∧FreshB w w' a n c (numL (x%18446744073709551616).toNat):=by
 obtain ⟨u,hu⟩:∃u:Nat,(x%18446744073709551616).toNat=u:=⟨_,rfl⟩
 have hux:x%18446744073709551616=(u:Int):=by omega
 have hult:u<18446744073709551616:=by omega
 rw [hu]
 apply amphoraref04_Num_vc
 obtain ⟨g,w1,hr1,h1⟩:=(St.start w).mkN (kl:=.i64) (kc:=.i64) (c:=8) bT rfl (by omega) (by omega) (by omega)
 refine ⟨_,_,_,_,hr1,fun v i w'=>∃j:Nat,j≤8∧i=7- (j:Int)∧v=((u / 256^j:Nat):Int)∧∃xs,St w [] w' [.row 5 1 (.slice (some ⟨g,0,none⟩) 8 8) 8 xs]∧xs.length=8∧xs.drop (8-j)=bv ((numL u).drop (8-j)),fun _ i _=>(i+1).toNat,
   ⟨0,by omega,by omega,?_,_,h1,by simp,?_⟩,?_⟩
 · rw [wrap_u64,hux];simp
 · rw [Nat.sub_zero,List.drop_of_length_le (by simp),List.drop_of_length_le (by rw [numL_len];exact Nat.le_refl _)];rfl
 rintro v i w2 ⟨j,hj,rfl,rfl,xs,hS,hxs,hdr⟩
 refine ⟨fun h=>?_,fun h=>?_⟩
 · have hj8:j<8:=by simp at h;omega
   refine ⟨g,0,rfl,by omega,by simp;omega,?_⟩
   have hv:IntKind.wrap .u8 (Int.tmod ((u / 256^j:Nat):Int) 256)=((UInt8.ofNat (u / 256^j%256)).toNat:Int):=by
     rw [Int.tmod_eq_emod_of_nonneg (Int.natCast_nonneg _),wrap_u8];simp
   rw [hv]
   obtain ⟨b,hb⟩:∃b,UInt8.ofNat (u / 256^j%256)=b:=⟨_,rfl⟩
   rw [hb]
   obtain ⟨w3,hr3,h3⟩:=hS.stRow (i:=0) (j:=7-j) (T:=5) (v:=.int .u8 (b.toNat:Int)) rfl (by exact Tryz.sizeOf5 _) (by omega) (by simp [Value.oneCell'])
   rw [show (0+Int.toNat (7- (j:Int))*1)=7-j by omega]
   refine ⟨w3,hr3,⟨j+1,by omega,?_,?_,_,h3,by simp [hxs],?_⟩,?_⟩
   · rw [wrap_i64 (by omega) (by omega)];omega
   · have hdd:u / 256^j / 256=u / 256^(j+1):=by rw [Nat.div_div_eq_div_mul,Nat.pow_succ]
     have:u / 256^(j+1)≤u:=Nat.div_le_self _ _
     rw [Int.tdiv_eq_ediv_of_nonneg (Int.natCast_nonneg _),show ((u / 256^j:Nat):Int) / 256=((u / 256^(j+1):Nat):Int) by rw [←hdd];exact (Int.natCast_ediv _ 256).symm,wrap_u64]
     generalize u / 256^(j+1)=q at this ⊢
     omega
   · have hlt:7-j<(numL u).length:=by rw [numL_len];omega
     have hget:(numL u)[7-j]?=some b:=by rw [numL_get _ _ (by omega),←hb,show 7- (7-j)=j by omega]
     rw [show 8- (j+1)=7-j by omega,List.drop_set,if_neg (by omega),Nat.sub_self,List.drop_eq_getElem_cons (by omega),List.set_cons_zero,show 7-j+1=8-j by omega,hdr,List.drop_eq_getElem_cons hlt,
       show 7-j+1=8-j by omega]
     rw [List.getElem?_eq_getElem hlt,Option.some.injEq] at hget
     rw [hget]
     rfl
   · show (IntKind.wrap .i64 (7- (j:Int)-1)+1).toNat<(7- (j:Int)+1).toNat
     rw [wrap_i64 (by omega) (by omega)];omega
 · have hj8:j=8:=by simp at h;omega
   subst hj8
   simp only [Nat.sub_self,List.drop_zero] at hdr
   subst hdr
   exact ⟨_,_,_,rfl,hS.freshB (i:=0) rfl⟩

end Go.Proofs.YtpmhjnhgpplmnaaGreatDoor
end

section
namespace Go.Proofs.YtpmhjnhgpplmnaaGreatDoor
open Go Sx
set_option maxRecDepth 8000

theorem rpack_spec (a:Option Addr) (n c:Nat) (vs:List Value) (ls:List (List UInt8)) (w:World) (hr:Rd w a n c 1 vs) (h2:Row2 w vs ls) (hb:ls.flatten.length≤67108864) (hn:ls.length≤1048576):
   Calls Tryz.prog 163 #[.slice a n c] w fun e w'=>∃a' n' c',e=.returned (.slice a' n' c')∧FreshB w w' a' n' c' (packL ls):=by
 have hln:ls.length=n:=by have:=hr.len;have:=h2.len;omega
 apply amphoraref04_Pack_vc
 refine ⟨fun xa xn xc x w'=>∃i:Nat,x=(i:Int)∧i≤n∧xn=(packL (ls.take i)).length∧St w [] w' [.row 5 1 (.slice xa xn xc) xn (bv (packL (ls.take i)))],fun _ _ _ x _=>n-x.toNat,
   ⟨0,rfl,by omega,by simp [packL],(St.start w).addNil _ _⟩,?_⟩
 rintro xa xn xc x w1 ⟨i,rfl,hi,hxn,hS⟩
 have hpb:=packL_bound hb i
 refine ⟨fun h=>?_,fun h=>?_⟩
 · have hi':i<n:=by simp at h;omega
   obtain ⟨b,o,a',n',c',ha,hv,hrd,hld⟩:=ixS hr.cells h2 (i:=i) (by omega)
   have hl':=hrd.lenB
   have hle:=getD_le_flat (ls:=ls) (i:=i) (by omega)
   refine ⟨b,o,ha,by omega,by omega,_,_,_,hld w1 (hr.cells.keep0 hS.chg),fun h=>?_,fun _=>?_⟩
   · simp at h;omega
   · have h9:=varL_len 9 n' (by simp;omega) (by decide)
     have hSd:=hS.drew
     refine ⟨fun w'=>Chg [] w w',hSd.chg,b,o,ha,by omega,by omega,b,o,ha,by omega,by omega,a',n',c',fun w' h=>hld w' (hr.cells.keep0 h),a',n',c',fun w' h=>hld w' (hr.cells.keep0 h),thenC (rvar_spec n' w1.drew (by omega)) ?_⟩
     rintro e w2 ⟨a2,n2,c2,rfl,hf2⟩
     have hS2:=hf2.add hSd
     have hn2:=hf2.2.1
     obtain ⟨va,vc,w3,hr3,hS3⟩:=hS2.appendB (i:=0) rfl (hS2.rd (i:=1) rfl) (by omega)
     obtain ⟨vb,vd,w4,hr4,hS4⟩:=hS3.appendB (i:=0) rfl (hS3.rd1 hrd) (by omega)
     have hpt:=packL_take (ls:=ls) (i:=i) (by omega)
     rw [hl'] at hpt
     refine ⟨_,_,_,rfl,fun w'=>Chg [] w w',fun _ h=>h,hS2.chg,_,_,_,_,hr3,fun w'=>Chg [] w w',fun _ h=>h,hS3.chg,_,_,_,_,hr4,fun w'=>Chg [] w w',fun _ h=>h,hS4.chg,⟨i+1,?_,by omega,?_,?_⟩,?_⟩
     · rw [wrap_i64 (by omega) (by omega)];rfl
     · rw [hpt];simp only [List.length_append];omega
     · rw [hpt];exact St.pop (M:=[_]) hS4
     · show n- (IntKind.wrap .i64 ((i:Int)+1)).toNat<n- ((i:Int)).toNat
       rw [wrap_i64 (by omega) (by omega)];omega
 · have hi':i=n:=by simp at h;omega
   rw [hi',←hln,List.take_length] at hS
   exact ⟨_,_,_,rfl,hS.freshB (i:=0) rfl⟩

end Go.Proofs.YtpmhjnhgpplmnaaGreatDoor
end

section
namespace Go.Proofs.YtpmhjnhgpplmnaaGreatDoor
open Go Sx
set_option maxRecDepth 8000

structure RdF (w:World) (a:Option Addr) (n c:Nat) (vs:List Value) (fs:List (UInt8×List UInt8×Nat)):Prop where
 rd:Rd w a n c 3 (frCells vs fs)
 row:Row2 w vs (fs.map fun f=>f.2.1)
 num:fs.length=n

theorem RdF.keep0 {w w':World} {a:Option Addr} {n c:Nat} {vs:List Value} {fs:List (UInt8×List UInt8×Nat)} (h:RdF w a n c vs fs) (hc:Chg [] w w'):RdF w' a n c vs fs:=⟨h.rd.keep0 hc,h.row.keep0 hc,h.num⟩

theorem OwnF.same {w0 w w':World} {a:Option Addr} {n c:Nat} {vs:List Value} {fs:List (UInt8×List UInt8×Nat)} (h:OwnF w0 w a n c vs fs) (hc:Chg [] w w'):OwnF w0 w' a n c vs fs:=⟨h.st.same hc,h.len,h.num,h.hd⟩

end Go.Proofs.YtpmhjnhgpplmnaaGreatDoor
end

section
namespace Go.Proofs.YtpmhjnhgpplmnaaGreatDoor
open Go Sx
set_option maxRecDepth 8000

structure FrD where
 k:UInt8
 a:Option Addr
 c:Nat
 body:List UInt8
 at_:Nat
abbrev Frm:=UInt8×List UInt8×Nat
def FrD.t (x:FrD):Frm:=(x.k,x.body,x.at_)
def FrD.v (x:FrD):Value:=.slice x.a x.body.length x.c
def frC (x:FrD):List Value:=[.int .i64 (x.k.toNat:Int),.slice x.a x.body.length x.c,.int .i64 (x.at_:Int)]
structure RdFr (w:World) (a:Option Addr) (n c:Nat) (L:List FrD):Prop where
 rd:RdE frC 3 w a n c L
 body:∀x∈L,RdB w x.a x.body.length x.c x.body
theorem RdFr.keep0 {w w':World} {a:Option Addr} {n c:Nat} {L:List FrD} (h:RdFr w a n c L) (hc:Chg [] w w'):RdFr w' a n c L:=⟨h.rd.keep0 hc,fun x hx=>(h.body x hx).keep0 hc⟩

section
variable {w0 w w':World} {X:List Nat} {M N N' T:List Res}

end

end Go.Proofs.YtpmhjnhgpplmnaaGreatDoor
end

section
namespace Go.Proofs.YtpmhjnhgpplmnaaGreatDoor
open Go Sx
set_option maxRecDepth 8000

theorem ofNat8 {n:Nat} (h:n<256):(UInt8.ofNat n).toNat=n:=by rw [UInt8.toNat_ofNat'];exact Nat.mod_eq_of_lt h

theorem rdVar_varL:∀(f m i n:Nat) (r:List UInt8),m<128^f→(m≠0∨i=0)→0<f→rdVar f (varL m++r) i n=some (n+m*128^i,i+(varL m).length)
 | 0,_,_,_,_,_,_,h=>by omega
 | f+1,m,i,n,r,hm,h0,_=>by
   have hp:128^(f+1)=128^f*128:=Nat.pow_succ ..
   by_cases h:m<128
   · rw [varL_small h]
     simp only [List.cons_append,List.nil_append,rdVar,ofNat8 (show m<256 by omega),if_pos h,List.length_cons,List.length_nil,Nat.zero_add]
     rw [if_neg (by omega)]
   · have hf:0<f:=by
       rcases Nat.eq_zero_or_pos f with rfl | h' 
       · simp at hm;omega
       · exact h'
     have hq:m / 128<128^f:=Nat.div_lt_of_lt_mul (by rw [Nat.mul_comm];omega)
     have ih:=rdVar_varL f (m / 128) (i+1) (n+m%128*128^i) r hq (.inl (by omega)) hf
     rw [varL_big h]
     simp only [List.cons_append,rdVar,ofNat8 (show m%128+128<256 by omega)]
     rw [if_neg (by omega),Nat.add_sub_cancel,ih]
     have e:n+m%128*128^i+m / 128*128^(i+1)=n+m*128^i:=by
       have h1:128^(i+1)=128*128^i:=by rw [Nat.pow_succ,Nat.mul_comm]
       rw [h1,←Nat.mul_assoc,Nat.add_assoc,←Nat.add_mul]
       congr 2
       omega
     rw [e,List.length_cons]
     congr 2
     omega

theorem readVar_varL {m:Nat} (h:m<9223372036854775808) (r:List UInt8):readVarF (varL m++r)=some (m,(varL m).length):=by
 rw [readVarF,rdVar_varL 9 m 0 0 r (by simpa using h) (.inr rfl) (by decide)]
 simp

theorem beNat_numL (u:Nat) (h:u<18446744073709551616):beNat (numL u)=u:=by
 have key:∀k,k≤8→beNat ((List.range k).map fun j=>UInt8.ofNat (u / 256^(7-j)%256))=u / 256^(8-k):=by
   intro k
   induction k with
   | zero=>intro _;simp [beNat];exact (Nat.div_eq_of_lt h).symm
   | succ k ih=>
     intro hk
     rw [List.range_succ,List.map_append,List.map_cons,List.map_nil,beNat_snoc,ih (by omega),ofNat8 (Nat.mod_lt _ (by decide)),show 8-k=(7-k)+1 by omega,show 8- (k+1)=7-k by omega,Nat.pow_succ,←Nat.div_div_eq_div_mul]
     omega
 have:=key 8 (by decide)
 simpa [numL] using this

theorem readNum_numL (x:Int) (h1: -9223372036854775808≤x) (h2:x≤9223372036854775807):readNumF (numL (x%18446744073709551616).toNat)=some x:=by
 rw [readNumF,if_pos (numL_len _),beNat_numL _ (by omega),Int.toNat_of_nonneg (by omega),wrap_i64_of]
 congr 1
 split<;>omega

theorem fieldF_pack {f:List UInt8} (h:f.length≤67108864) (r:List UInt8):fieldF (varL f.length++f++r)=some (f,r):=by
 rw [List.append_assoc,fieldF,readVar_varL (by omega)]
 simp only [Option.bind_some]
 rw [if_pos ⟨h,by simp;omega⟩]
 have e1:(varL f.length++(f++r)).drop (varL f.length).length=f++r:=by simp
 have e2:(varL f.length++(f++r)).drop ((varL f.length).length+f.length)=r:=by
   rw [←List.drop_drop,e1];simp
 rw [e1,e2];simp

end Go.Proofs.YtpmhjnhgpplmnaaGreatDoor
end

section
namespace Go.Proofs.YtpmhjnhgpplmnaaGreatDoor
open Go Go.Proofs.YtpmhjnhgpplmnaaGreatDoor.Sx

set_option maxRecDepth 100000
theorem amphoraref05_derived_vc (a0a:Option Addr) (a0n:Nat) (a0c:Nat) (a1a:Option Addr) (a1n:Nat) (a1c:Nat) (a2:ByteArray) (w:World) (R:Ending→World→Prop) (h:∃g6 w1,AlQ 39 g6 w w1∧(∃t11,(Instr.build 39 #[]).run Tryz.prog w1=.ok (.agg t11) w1∧(∃g7 w2,AlQ 39 g7 w1 w2∧(∃w3,StQ 39 g7 0 (.agg t11) w2 w3∧(∃t16a t16n t16c w4,(convert 9 26 (.string a2)).run Tryz.prog w3=.ok (.slice t16a t16n t16c) w4∧(Calls Tryz.prog 195 #[(.slice a0a a0n a0c),(.slice a1a a1n a1c),(.slice t16a t16n t16c),(.int .i64 32)] w4 fun e17 w5=>∃t17_0a t17_0n t17_0c t17_1,e17=.returned (.tuple #[(.slice t17_0a t17_0n t17_0c),(.int .i64 t17_1)])∧(∃(I:Int→World→Prop) (μ:Int→World→Nat),I 0 w5∧(∀x10,∀w6,I x10 w6→((decide (x10<(32:Int))=true→(∃t27b t27o,t17_0a=some ⟨t27b,t27o,none⟩∧0≤x10∧x10<(t17_0n:Int)∧(∃t28,LdQ 5 t27b (t27o+Int.toNat x10*1) (.int .u8 t28) w6∧(0≤x10∧x10<(32:Int)∧(∃w7,StQ 5 g7 (0+Int.toNat x10*1) (.int .u8 t28) w6 w7∧(I (IntKind.wrap .i64 (x10+1)) w7∧μ (IntKind.wrap .i64 (x10+1)) w7<μ x10 w6))))))∧(decide (x10<(32:Int))=false→(∃t30,LdQ 39 g7 0 (.agg t30) w6∧(∃w8,StQ 39 g6 0 (.agg t30) w6 w8∧(∃r6,(loadVar 39 ⟨g6,0,none⟩).run Tryz.prog w8=.ok r6 w8∧(R (.returned r6) w8)))))))))))))):Calls Tryz.prog 97 #[(.slice a0a a0n a0c),(.slice a1a a1n a1c),(.string a2)] w R:=calls_of_ev2 (tc:=.sq [.reg (.op .bx .nil),.reg (.op (.ld .agg) (.op .bx (.op .u .nil))),.reg (.pp 3 (.op (.r .slice) (.op (.cl [.slice,.int .i64]) (.pp 5 .nil)))),.seq (.rg 1) (.blk (.loop (lr [(10,1),(20,10)]) [10] [.int .i64] (.sq [.seq (.rg 2) (.cond .leaf .leaf),.blk (.reg (.pp 3 (.op .ix (.op (.ld (.int .u8)) (.op .ix (.op .u .nil))))))] (.rg 3)))),.reg (.op (.ld .agg) (.op .u .nil))] .leaf) Tryz.func97 (by kernel_rfl) (by kernel_rfl) h

theorem amphoraref05_FromMaster_vc (a0:Array Value) (w:World) (R:Ending→World→Prop) (h:∃g1 w1,(Instr.box 39 (.agg a0)).run Tryz.prog w=.ok (.pointer (some ⟨g1,0,none⟩)) w1∧(∃g2 w2,AlQ 41 g2 w1 w2∧(∃t4a t4n t4c w3,(Instr.buildSlice 26 7 #[(0,(.int .u8 97)),(1,(.int .u8 109)),(2,(.int .u8 112)),(3,(.int .u8 104)),(4,(.int .u8 111)),(5,(.int .u8 114)),(6,(.int .u8 97))]).run Tryz.prog w2=.ok (.slice t4a t4n t4c) w3∧(∃t5a t5n t5c w4,(convert 26 26 (.slice t4a t4n t4c)).run Tryz.prog w3=.ok (.slice t5a t5n t5c) w4∧(∃S:World→Prop,S w4.drew∧(0≤(32:Int)∧(32:Int)≤(32:Int)∧(0≤(32:Int)∧(32:Int)≤(32:Int)∧(0≤(32:Int)∧(32:Int)≤(32:Int)∧(Calls Tryz.prog 97 #[(.slice t5a t5n t5c),(.slice (some ⟨g1,0,none⟩) (32) 32),(.string (ByteArray.mk #[99,105,112,104,101,114]))] w4.drew fun e8 w5=>∃t8,e8=.returned (.agg t8)∧(∃S_1:World→Prop,(∀w',S_1 w'→S w')∧S_1 w5∧(Calls Tryz.prog 97 #[(.slice t5a t5n t5c),(.slice (some ⟨g1,0,none⟩) (32) 32),(.string (ByteArray.mk #[109,97,99]))] w5 fun e11 w6=>∃t11,e11=.returned (.agg t11)∧(∃S_2:World→Prop,(∀w',S_2 w'→S_1 w')∧S_2 w6∧(Calls Tryz.prog 97 #[(.slice t5a t5n t5c),(.slice (some ⟨g1,0,none⟩) (32) 32),(.string (ByteArray.mk #[110,97,109,101]))] w6 fun e14 w7=>∃t14,e14=.returned (.agg t14)∧(∃S_3:World→Prop,(∀w',S_3 w'→S_2 w')∧S_3 w7∧(∃t15,(∀w',S_3 w'→(Instr.build 41 #[(0,(.agg t8)),(1,(.agg t11)),(2,(.agg t14))]).run Tryz.prog w'=.ok (.agg t15) w')∧(∃w8,StQ 41 g2 0 (.agg t15) w7 w8∧(∃r2,(loadVar 41 ⟨g2,0,none⟩).run Tryz.prog w8=.ok r2 w8∧(R (.returned r2) w8)))))))))))))))))):Calls Tryz.prog 33 #[(.agg a0)] w R:=calls_of_ev2 (tc:=.sq [.reg (.op .bx (.op .bx .nil)),.reg (.op (.r .slice) (.op (.r .slice) (.op .p .nil))),.drawS (.tk 0 .p (.tk 1 .sl (.tk 3 .p (.tk 4 .sl (.tk 6 .p (.tk 7 .sl (.go 2 (.cl [.agg]) (.go 5 (.cl [.agg]) (.go 8 (.cl [.agg]) (.ts 9 .agg (.go 10 .u .nil))))))))))) [10]] .leaf) Tryz.func33 (by kernel_rfl) (by kernel_rfl) h

theorem amphoraref05_Tag_vc (a0:Array Value) (a1:Int) (a2a:Option Addr) (a2n:Nat) (a2c:Nat) (a3a:Option Addr) (a3n:Nat) (a3c:Nat) (a4a:Option Addr) (a4n:Nat) (a4c:Nat) (w:World) (R:Ending→World→Prop) (h:∃g5 w1,(Instr.box 41 (.agg a0)).run Tryz.prog w=.ok (.pointer (some ⟨g5,0,none⟩)) w1∧(∃g10 w2,AlQ 39 g10 w1 w2∧(0≤(32:Int)∧(32:Int)≤(32:Int)∧(∃t14a t14n t14c w3,(Instr.buildSlice 26 1 #[(0,(.int .u8 a1))]).run Tryz.prog w2.drew=.ok (.slice t14a t14n t14c) w3∧(∃t18a t18n t18c w4,(Instr.buildSlice 24 4 #[(0,(.slice t14a t14n t14c)),(1,(.slice a2a a2n a2c)),(2,(.slice a3a a3n a3c)),(3,(.slice a4a a4n a4c))]).run Tryz.prog w3=.ok (.slice t18a t18n t18c) w4∧(Calls Tryz.prog 163 #[(.slice t18a t18n t18c)] w4 fun e19 w5=>∃t19a t19n t19c,e19=.returned (.slice t19a t19n t19c)∧(∃t20a t20n t20c w6,(Instr.buildSlice 24 1 #[(0,(.slice t19a t19n t19c))]).run Tryz.prog w5=.ok (.slice t20a t20n t20c) w6∧(Calls Tryz.prog 162 #[(.slice (some ⟨g5,32,none⟩) (32) 32),(.slice t20a t20n t20c)] w6 fun e21 w7=>∃t21,e21=.returned (.agg t21)∧(∃w8,StQ 39 g10 0 (.agg t21) w7 w8∧(∃r10,(loadVar 39 ⟨g10,0,none⟩).run Tryz.prog w8=.ok r10 w8∧(R (.returned r10) w8))))))))))):Calls Tryz.prog 202 #[(.agg a0),(.int .u8 a1),(.slice a2a a2n a2c),(.slice a3a a3n a3c),(.slice a4a a4n a4c)] w R:=calls_of_ev2 (tc:=.sq [.reg (.op .bx (.op .bx .nil)),.draw (.tk 0 .p (.tk 1 .sl (.tks [2,4,5,6] (.go 3 (.r .slice) (.go 7 (.r .slice) (.go 8 (.cl [.slice]) (.go 9 (.r .slice) (.go 10 (.cl [.agg]) (.go 11 .u .nil))))))))) (lr [(0,12)])] .leaf) Tryz.func202 (by kernel_rfl) (by kernel_rfl) h

theorem amphoraref05_Seal_vc (a0:Array Value) (a1:Int) (a2a:Option Addr) (a2n:Nat) (a2c:Nat) (a3a:Option Addr) (a3n:Nat) (a3c:Nat) (w:World) (R:Ending→World→Prop) (h:∃g4 w1,(Instr.box 41 (.agg a0)).run Tryz.prog w=.ok (.pointer (some ⟨g4,0,none⟩)) w1∧(∃J:Nat→Nat→World→Prop,(0≤(32:Int)∧(32:Int)≤(32:Int)∧((∃t19a t19n t19c w2,(Instr.buildSlice 26 1 #[(0,(.int .u8 a1))]).run Tryz.prog w1.drew=.ok (.slice t19a t19n t19c) w2∧((∃t22a t22n t22c w3,(Instr.buildSlice 24 3 #[(0,(.slice t19a t19n t19c)),(1,(.slice a2a a2n a2c)),(2,(.slice a3a a3n a3c))]).run Tryz.prog w2=.ok (.slice t22a t22n t22c) w3∧((Calls Tryz.prog 163 #[(.slice t22a t22n t22c)] w3 fun e23 w4=>∃t23a t23n t23c,e23=.returned (.slice t23a t23n t23c)∧((∃t24a t24n t24c w5,(Instr.buildSlice 24 1 #[(0,(.slice t23a t23n t23c))]).run Tryz.prog w4=.ok (.slice t24a t24n t24c) w5∧((Calls Tryz.prog 162 #[(.slice (some ⟨g4,64,none⟩) (32) 32),(.slice t24a t24n t24c)] w5 fun e25 w6=>∃t25,e25=.returned (.agg t25)∧(∃g9 w7,AlQ 39 g9 w6 w7∧(∃w8,StQ 39 g9 0 (.agg t25) w7 w8∧(J g9 0 w8))))∧(∃g9 w9,AlQ 39 g9 w5 w9∧(Calls Tryz.prog 162 #[(.slice (some ⟨g4,64,none⟩) (32) 32),(.slice t24a t24n t24c)] w9 fun e25 w10=>∃t25,e25=.returned (.agg t25)∧(∃w11,StQ 39 g9 0 (.agg t25) w10 w11∧(J g9 0 w11))))))∧(∃g9 w12,AlQ 39 g9 w4 w12∧(∃t24a t24n t24c w13,(Instr.buildSlice 24 1 #[(0,(.slice t23a t23n t23c))]).run Tryz.prog w12=.ok (.slice t24a t24n t24c) w13∧(Calls Tryz.prog 162 #[(.slice (some ⟨g4,64,none⟩) (32) 32),(.slice t24a t24n t24c)] w13 fun e25 w14=>∃t25,e25=.returned (.agg t25)∧(∃w15,StQ 39 g9 0 (.agg t25) w14 w15∧(J g9 0 w15)))))))∧(∃g9 w16,AlQ 39 g9 w3 w16∧(Calls Tryz.prog 163 #[(.slice t22a t22n t22c)] w16 fun e23 w17=>∃t23a t23n t23c,e23=.returned (.slice t23a t23n t23c)∧(∃t24a t24n t24c w18,(Instr.buildSlice 24 1 #[(0,(.slice t23a t23n t23c))]).run Tryz.prog w17=.ok (.slice t24a t24n t24c) w18∧(Calls Tryz.prog 162 #[(.slice (some ⟨g4,64,none⟩) (32) 32),(.slice t24a t24n t24c)] w18 fun e25 w19=>∃t25,e25=.returned (.agg t25)∧(∃w20,StQ 39 g9 0 (.agg t25) w19 w20∧(J g9 0 w20))))))))∧(∃g9 w21,AlQ 39 g9 w2 w21∧(∃t22a t22n t22c w22,(Instr.buildSlice 24 3 #[(0,(.slice t19a t19n t19c)),(1,(.slice a2a a2n a2c)),(2,(.slice a3a a3n a3c))]).run Tryz.prog w21=.ok (.slice t22a t22n t22c) w22∧(Calls Tryz.prog 163 #[(.slice t22a t22n t22c)] w22 fun e23 w23=>∃t23a t23n t23c,e23=.returned (.slice t23a t23n t23c)∧(∃t24a t24n t24c w24,(Instr.buildSlice 24 1 #[(0,(.slice t23a t23n t23c))]).run Tryz.prog w23=.ok (.slice t24a t24n t24c) w24∧(Calls Tryz.prog 162 #[(.slice (some ⟨g4,64,none⟩) (32) 32),(.slice t24a t24n t24c)] w24 fun e25 w25=>∃t25,e25=.returned (.agg t25)∧(∃w26,StQ 39 g9 0 (.agg t25) w25 w26∧(J g9 0 w26)))))))))∧(∃g9 w27,AlQ 39 g9 w1.drew w27∧(∃t19a t19n t19c w28,(Instr.buildSlice 26 1 #[(0,(.int .u8 a1))]).run Tryz.prog w27=.ok (.slice t19a t19n t19c) w28∧(∃t22a t22n t22c w29,(Instr.buildSlice 24 3 #[(0,(.slice t19a t19n t19c)),(1,(.slice a2a a2n a2c)),(2,(.slice a3a a3n a3c))]).run Tryz.prog w28=.ok (.slice t22a t22n t22c) w29∧(Calls Tryz.prog 163 #[(.slice t22a t22n t22c)] w29 fun e23 w30=>∃t23a t23n t23c,e23=.returned (.slice t23a t23n t23c)∧(∃t24a t24n t24c w31,(Instr.buildSlice 24 1 #[(0,(.slice t23a t23n t23c))]).run Tryz.prog w30=.ok (.slice t24a t24n t24c) w31∧(Calls Tryz.prog 162 #[(.slice (some ⟨g4,64,none⟩) (32) 32),(.slice t24a t24n t24c)] w31 fun e25 w32=>∃t25,e25=.returned (.agg t25)∧(∃w33,StQ 39 g9 0 (.agg t25) w32 w33∧(J g9 0 w33))))))))))∧(∀x9b x9o,∀w34,J x9b x9o w34→(∃t26,(Instr.build 287 #[]).run Tryz.prog w34=.ok (.agg t26) w34∧(∃g10 w35,AlQ 287 g10 w34 w35∧(∃w36,StQ 287 g10 0 (.agg t26) w35 w36∧(∃(I:Int→World→Prop) (μ:Int→World→Nat),I 0 w36∧(∀x11,∀w37,I x11 w37→((decide (x11<(12:Int))=true→(0≤x11∧x11<(32:Int)∧(∃t34,LdQ 5 x9b (x9o+Int.toNat x11*1) (.int .u8 t34) w37∧(0≤x11∧x11<(12:Int)∧(∃w38,StQ 5 g10 (0+Int.toNat x11*1) (.int .u8 t34) w37 w38∧(I (IntKind.wrap .i64 (x11+1)) w38∧μ (IntKind.wrap .i64 (x11+1)) w38<μ x11 w37))))))∧(decide (x11<(12:Int))=false→(∃t38,LdQ 39 g4 0 (.agg t38) w37∧(∃t39,LdQ 287 g10 0 (.agg t39) w37∧(Calls Tryz.prog 201 #[(.agg t38),(.agg t39),(.int .i64 0),(.slice a3a a3n a3c)] w37 fun e41 w39=>∃t41_0a t41_0n t41_0c t41_1,e41=.returned (.tuple #[(.slice t41_0a t41_0n t41_0c),(.int .i64 t41_1)])∧(∃J_1:Nat→Nat→World→Prop,(∃S:World→Prop,S w39.drew∧(0≤(12:Int)∧(12:Int)≤(12:Int)∧(∃t44,(∀w',S w'→LdQ 41 g4 0 (.agg t44) w')∧((Calls Tryz.prog 202 #[(.agg t44),(.int .u8 a1),(.slice a2a a2n a2c),(.slice (some ⟨g10,0,none⟩) (12) 12),(.slice t41_0a t41_0n t41_0c)] w39.drew fun e49 w40=>∃t49,e49=.returned (.agg t49)∧(∃S_1:World→Prop,(∀w',S_1 w'→S w')∧S_1 w40∧(∃g14 w41,AlQ 39 g14 w40 w41∧(∃S_2:World→Prop,(∀w',S_2 w'→S_1 w')∧S_2 w41∧(∃w42,StQ 39 g14 0 (.agg t49) w41 w42∧(J_1 g14 0 w42))))))∧(∃g14 w43,AlQ 39 g14 w39.drew w43∧(∃S_1:World→Prop,(∀w',S_1 w'→S w')∧S_1 w43∧(Calls Tryz.prog 202 #[(.agg t44),(.int .u8 a1),(.slice a2a a2n a2c),(.slice (some ⟨g10,0,none⟩) (12) 12),(.slice t41_0a t41_0n t41_0c)] w43 fun e49 w44=>∃t49,e49=.returned (.agg t49)∧(∃S_2:World→Prop,(∀w',S_2 w'→S_1 w')∧S_2 w44∧(∃w45,StQ 39 g14 0 (.agg t49) w44 w45∧(J_1 g14 0 w45))))))))))∧(∀x14b x14o,∀w46,J_1 x14b x14o w46→(∃t51a t51n t51c w47,(Instr.buildSlice 26 1 #[(0,(.int .u8 a1))]).run Tryz.prog w46=.ok (.slice t51a t51n t51c) w47∧(0≤(12:Int)∧(12:Int)≤(12:Int)∧(∃t53a t53n t53c w48,(Builtin.append_ #[26,26] 26 #[(.slice t51a t51n t51c),(.slice (some ⟨g10,0,none⟩) (12) 12)]).run Tryz.prog w47=.ok (.slice t53a t53n t53c) w48∧(∃t56a t56n t56c w49,(Builtin.append_ #[26,26] 26 #[(.slice t53a t53n t53c),(.slice t41_0a t41_0n t41_0c)]).run Tryz.prog w48=.ok (.slice t56a t56n t56c) w49∧(0≤(32:Int)∧(32:Int)≤(32:Int)∧(∃t59a t59n t59c w50,(Builtin.append_ #[26,26] 26 #[(.slice t56a t56n t56c),(.slice (some ⟨x14b,x14o,none⟩) (32) 32)]).run Tryz.prog w49=.ok (.slice t59a t59n t59c) w50∧(R (.returned (.slice t59a t59n t59c)) w50)))))))))))))))))))))):Calls Tryz.prog 103 #[(.agg a0),(.int .u8 a1),(.slice a2a a2n a2c),(.slice a3a a3n a3c)] w R:=calls_of_ev2 (tc:=.sq [.reg (.op .bx (.op .p .nil)),.join (lr [(9,1),(16,10)]) [9] [.ptr] (.draw (.tk 0 .p (.tk 1 .sl (.tks [2,4,5] (.two 3 (.r .slice) (.two 6 (.r .slice) (.two 7 (.cl [.slice]) (.two 8 (.r .slice) (.two 9 (.cl [.agg]) (.go 10 .bx (.go 11 .u .nil)) 10 .bx (.go 9 (.cl [.agg]) (.go 11 .u .nil))) 10 .bx (.go 8 (.r .slice) (.go 9 (.cl [.agg]) (.go 11 .u .nil)))) 10 .bx (.go 7 (.cl [.slice]) (.go 8 (.r .slice) (.go 9 (.cl [.agg]) (.go 11 .u .nil))))) 10 .bx (.go 6 (.r .slice) (.go 7 (.cl [.slice]) (.go 8 (.r .slice) (.go 9 (.cl [.agg]) (.go 11 .u .nil)))))) 10 .bx (.go 3 (.r .slice) (.go 6 (.r .slice) (.go 7 (.cl [.slice]) (.go 8 (.r .slice) (.go 9 (.cl [.agg]) (.go 11 .u .nil)))))))))) (lr [(0,12)])),.reg (.op (.ld .agg) (.op .bx (.op .u .nil))),.seq (.rg 1) (.blk (.loop (lr [(11,1),(27,9)]) [11] [.int .i64] (.sq [.seq (.rg 2) (.cond .leaf .leaf),.blk (.reg (.pp 2 (.op .ix (.op (.ld (.int .u8)) (.op .ix (.op .u .nil))))))] (.rg 3)))),.reg (.op .p (.op (.ld .agg) (.op (.ld .agg) (.op .p (.op (.cl [.slice,.int .i64]) (.pp 5 .nil)))))),.join (lr [(14,1),(44,6)]) [14] [.ptr] (.drawS (.tks [1,2] (.tk 3 .sl (.tk 4 .p (.ts 0 .agg (.two 5 (.cl [.agg]) (.go 6 .bx (.go 7 .u .nil)) 6 .bx (.go 5 (.cl [.agg]) (.go 7 .u .nil))))))) [7]),.reg (.op .p (.op (.r .slice) (.op .sl (.op (.r .slice) (.op .p .nil))))),.reg (.pp 2 (.op (.r .slice) (.op .p .nil))),.reg (.op .p (.op .sl (.op (.r .slice) (.op .p .nil))))] .leaf) Tryz.func103 (by kernel_rfl) (by kernel_rfl) h

end Go.Proofs.YtpmhjnhgpplmnaaGreatDoor
end

section
namespace Go.Proofs.YtpmhjnhgpplmnaaGreatDoor
open Go Sx
set_option maxRecDepth 8000

theorem d32B (w:World):(Instr.build 39 #[]).run Tryz.prog w=.ok (.agg (bv (List.replicate 32 0)).toArray) w:=by
 have:=build_arr (P:=Tryz.prog) (w:=w) (T:=39) (d32Z w) Tryz.underlying39 (sB1 w) [] (by simp) (by simp)
 simpa using this

theorem rderived_spec (a0:Option Addr) (n0 c0:Nat) (salt:List UInt8) (a1:Option Addr) (n1 c1:Nat) (secret:List UInt8) (s:ByteArray) (info:List UInt8) (w:World) (hs:s=⟨info.toArray⟩) (hr0:RdB w a0 n0 c0 salt) (hr1:RdB w a1 n1 c1 secret) (hb:n0+n1+info.length≤1099511627776):
   Calls Tryz.prog 97 #[.slice a0 n0 c0,.slice a1 n1 c1,.string s] w fun e w'=>e=.returned (.agg (bv (der32 salt secret info)).toArray)∧Chg [] w w':=by
 apply amphoraref05_derived_vc
 obtain ⟨D,hD⟩:∃D,der32 salt secret info=D:=⟨_,rfl⟩
 have hDl:D.length=32:=by rw [←hD];simp
 obtain ⟨g6,w1,r1,h1⟩:=(St.start w).zeroA d32Z
 obtain ⟨g7,w2,r2,h2⟩:=h1.zeroA d32Z
 obtain ⟨w3,r3,h3⟩:=h2.stA (i:=1) (v:=bv (mixG D (List.replicate 32 0) 0)) rfl (d32S _) (by simp) (by rw [mixG_zero];simp) (bv_one _)
 rw [mixG_zero] at r3
 obtain ⟨g4,c4,w4,r4,hc4,hr4,_⟩:=toBytes s info hs w3
 have h4:=h3.same hc4
 refine ⟨g6,w1,r1,_,d32B _,g7,w2,r2,w3,r3,_,_,_,_,r4,(rderive_specN a0 n0 c0 salt a1 n1 c1 secret _ info.length c4 info 32 w4 (h4.rd1 hr0) (h4.rd1 hr1) hr4 hb).mono ?_⟩
 rintro e w5 (⟨hx,_⟩ | ⟨_,_,a,n,c,rfl,hc5,hr5,hf5⟩)
 · omega
 have hd:deriveF salt secret info (Int.toNat 32)=der32 salt secret info:=rfl
 rw [hd,hD] at hr5
 rw [hD]
 have hn:n=32:=by rw [←hr5.lenB,hDl]
 subst hn
 have h5:=h4.same hc5
 have hg7:g7<w4.heap.size:=Res.lt (h4.holds 1 _ rfl) g7 (by simp [Res.fp])
 refine ⟨_,_,_,_,rfl,fun x w'=>∃i:Nat,x=(i:Int)∧i≤32∧RdB w' a 32 c D∧St w [] w' [.arr g6 39 (bv (List.replicate 32 0)),.arr g7 39 (bv (mixG D (List.replicate 32 0) i))],fun x _=>32-x.toNat,⟨0,rfl,by omega,hr5,h5⟩,?_⟩
 rintro x w6 ⟨i,rfl,hi,hr6,h6⟩
 refine ⟨fun h=>?_,fun h=>?_⟩
 · have hi':i<32:=by simp at h;omega
   refine ix0 hr6.cells hDl i (by omega) fun bl o ha q=>⟨bl,o,ha,by omega,by omega,_,q w6 hr6.cells,by omega,by omega,?_⟩
   have hbi:D[i]?=some (D.getD i 0):=by
     rw [List.getD,List.getElem?_eq_getElem (by omega)]
     rfl
   have hml:(mixG D (List.replicate 32 (0:UInt8)) i).length=32:=by simp [mixG];omega
   have h6s:=h6.self
   obtain ⟨w7,r7,h7⟩:=h6.stB (i:=1) (o:=i) (T:=5) (b:=D.getD i 0) rfl (sB1 _) (show 0+Int.toNat (i:Int)*1=i by omega) (by omega)
   obtain ⟨w7',r7',h7'⟩:=(St.ofBlk (h6.holds 1 _ rfl)).stB (i:=0) (o:=i) (T:=5) (l:=mixG D (List.replicate 32 (0:UInt8)) i) (b:=D.getD i 0) rfl (sB1 _) (show 0+Int.toNat (i:Int)*1=i by omega) (by omega)
   have ew:w7'=w7:=by
     have:=r7'.symm.trans r7
     simp only [Result.ok.injEq,true_and] at this
     exact this
   rw [mixG_set (by rw [hDl,List.length_replicate]) hbi] at h7
   refine ⟨w7,r7,⟨i+1,wrap_succ hi' (by omega),by omega,?_,h7⟩,mu_succ hi' (by omega)⟩
   rw [ew] at h7'
   refine hr6.keep h7'.chg fun ad e=>?_
   have:=hf5 ad e
   simp
   omega
 · have hi':i=32:=by simp at h;omega
   have f1:mixG D (List.replicate 32 (0:UInt8)) i=D:=by
     have:=mixG_all (x:=D) (l:=List.replicate 32 (0:UInt8)) (by rw [hDl,List.length_replicate])
     rw [List.length_replicate] at this;rw [hi',this]
   rw [f1] at h6
   obtain ⟨w8,r8,h8⟩:=h6.stA (i:=0) (v:=bv D) rfl (d32S _) (by simp) (by simp [hDl]) (bv_one _)
   exact ⟨_,h6.ldA (i:=1) rfl (d32A _) (d32S _) (by simp [hDl]),w8,r8,_,h8.ldVarA (i:=0) (l:=bv D) rfl (d32A _) (d32S _) (by simp [hDl]),rfl,h8.chg⟩

theorem rfromMaster_spec (m:List UInt8) (w:World) (hm:m.length=32):
   Calls Tryz.prog 33 #[.agg (bv m).toArray] w fun e w'=>e=.returned (.agg (bv (masterF m)).toArray)∧Chg [] w w':=by
 apply amphoraref05_FromMaster_vc
 obtain ⟨g1,w1,r1,h1⟩:=(St.start w).boxA 39 (bv m)
 obtain ⟨g2,w2,r2,h2⟩:=h1.zeroA kyZ
 obtain ⟨g3,w3,w4,r3,r4,c4,hr4⟩:=litMark amphL (by decide) w2
 have h4:=(h2.same c4).drew
 have hd:=Chg.drew [] w4
 have dd:∀w' (i:List UInt8) (s:ByteArray),s=⟨i.toArray⟩→i.length≤1000→Chg [] w4.drew w'→Calls Tryz.prog 97 #[.slice (some ⟨g3,0,none⟩) 7 7,.slice (some ⟨g1,0,none⟩) 32 32,.string s] w' fun e w''=>e=.returned (.agg (bv (der32 amphL m i)).toArray)∧Chg [] w' w'':=fun w' i s hs hi hc=>
   rderived_spec _ 7 7 amphL _ 32 32 m s i w' hs (hr4.keep0 (hd.trans hc)) ((h4.same hc).rdA (i:=0) rfl (by simp [hm])) (by omega)
 refine ⟨g1,w1,r1,g2,w2,r2,_,_,_,_,r3,_,_,_,_,r4,fun w'=>Chg [] w4.drew w',Chg.refl _ _,by omega,by omega,by omega,by omega,by omega,by omega,(dd _ [99,105,112,104,101,114] _ rfl (by decide) (Chg.refl _ _)).mono ?_⟩
 rintro e w5 ⟨rfl,c5⟩
 refine ⟨_,rfl,fun w'=>Chg [] w4.drew w',fun _ h=>h,c5,(dd _ [109,97,99] _ rfl (by decide) c5).mono ?_⟩
 rintro e w6 ⟨rfl,c6⟩
 have d6:=c5.trans c6
 refine ⟨_,rfl,fun w'=>Chg [] w4.drew w',fun _ h=>h,d6,(dd _ [110,97,109,101] _ rfl (by decide) d6).mono ?_⟩
 rintro e w7 ⟨rfl,c7⟩
 have d7:=d6.trans c7
 obtain ⟨w8,r8,h8⟩:=(h4.same d7).stA (i:=1) (v:=bv (masterF m)) rfl (kyS _) (by simp) (by simp) (bv_one _)
 exact ⟨_,rfl,fun w'=>Chg [] w4.drew w',fun _ h=>h,d7,_,fun w' _=>keys_build (der32_len _ _ _) (der32_len _ _ _) (der32_len _ _ _) w',w8,r8,_,h8.ldVarA (i:=1) (l:=bv (masterF m)) rfl (kyA _) (kyS _) (by simp),rfl,h8.chg⟩

end Go.Proofs.YtpmhjnhgpplmnaaGreatDoor
end

section
namespace Go.Proofs.YtpmhjnhgpplmnaaGreatDoor
open Go.Shelf
def laysItoa_ren:Go.Shelf.Ren:=⟨fun | 171=>95 | 243=>194 | 246=>268 | 283=>319 | 284=>320 | 285=>321 | 286=>322 | 129=>274 | 317=>357 | 318=>358 | 319=>359 | 320=>360 | 337=>374 | 338=>375 | n=>n,fun | 3=>3 | 9=>9 | 2=>2 | 4=>4 | 171=>417 | 0=>0 | 53=>42 | 37=>26 | 5=>5 | 173=>419 | 212=>459 | 51=>370 | 20=>20 | 213=>460 | 46=>299 | 232=>39 | 233=>368 | n=>n,fun | 17=>3 | 18=>4 | 19=>5 | n=>n⟩
theorem laysItoa:Go.Proofs.LaysM.n171 Tryz.prog laysItoa_ren:= {
 mixed:=by kernel_rfl
 f129:=Tryz.func274.trans (congrArg some (by kernel_rfl))
 f171:=Tryz.func95.trans (congrArg some (by kernel_rfl))
 f243:=Tryz.func194.trans (congrArg some (by kernel_rfl))
 f246:=Tryz.func268.trans (congrArg some (by kernel_rfl))
 f283:=Tryz.func319.trans (congrArg some (by kernel_rfl))
 f284:=Tryz.func320.trans (congrArg some (by kernel_rfl))
 f285:=Tryz.func321.trans (congrArg some (by kernel_rfl))
 f286:=Tryz.func322.trans (congrArg some (by kernel_rfl))
 f317:=Tryz.func357.trans (congrArg some (by kernel_rfl))
 f318:=Tryz.func358.trans (congrArg some (by kernel_rfl))
 f319:=Tryz.func359.trans (congrArg some (by kernel_rfl))
 f320:=Tryz.func360.trans (congrArg some (by kernel_rfl))
 f337:=Tryz.func374.trans (congrArg some (by kernel_rfl))
 f338:=Tryz.func375.trans (congrArg some (by kernel_rfl))
 t0:=Tryz.underlying0
 a0:=Tryz.isAgg0
 z0:=Tryz.sizeOf0
 v0:=Tryz.zeroValue0
 t2:=Tryz.underlying2
 a2:=Tryz.isAgg2
 z2:=Tryz.sizeOf2
 v2:=Tryz.zeroValue2
 t3:=Tryz.underlying3
 a3:=Tryz.isAgg3
 z3:=Tryz.sizeOf3
 v3:=Tryz.zeroValue3
 t4:=Tryz.underlying4
 a4:=Tryz.isAgg4
 z4:=Tryz.sizeOf4
 v4:=Tryz.zeroValue4
 t5:=Tryz.underlying5
 a5:=Tryz.isAgg5
 z5:=Tryz.sizeOf5
 v5:=Tryz.zeroValue5
 t9:=Tryz.underlying9
 a9:=Tryz.isAgg9
 z9:=Tryz.sizeOf9
 v9:=Tryz.zeroValue9
 t20:=Tryz.underlying20
 a20:=Tryz.isAgg20
 z20:=Tryz.sizeOf20
 v20:=Tryz.zeroValue20
 t37:=Tryz.underlying26
 a37:=Tryz.isAgg26
 z37:=Tryz.sizeOf26
 v37:=Tryz.zeroValue26
 t46:=Tryz.underlying299
 a46:=Tryz.isAgg299
 z46:=Tryz.sizeOf299
 v46:=Tryz.zeroValue299
 t51:=Tryz.underlying370
 a51:=Tryz.isAgg370
 z51:=Tryz.sizeOf370
 v51:=Tryz.zeroValue370
 t53:=Tryz.underlying42
 a53:=Tryz.isAgg42
 z53:=Tryz.sizeOf42
 v53:=Tryz.zeroValue42
 t171:=Tryz.underlying417
 a171:=Tryz.isAgg417
 z171:=Tryz.sizeOf417
 v171:=Tryz.zeroValue417
 t173:=Tryz.underlying419
 a173:=Tryz.isAgg419
 z173:=Tryz.sizeOf419
 v173:=Tryz.zeroValue419
 t212:=Tryz.underlying459
 a212:=Tryz.isAgg459
 z212:=Tryz.sizeOf459
 v212:=Tryz.zeroValue459
 t213:=Tryz.underlying460
 a213:=Tryz.isAgg460
 z213:=Tryz.sizeOf460
 t232:=Tryz.underlying39
 a232:=Tryz.isAgg39
 z232:=Tryz.sizeOf39
 v232:=Tryz.zeroValue39
 t233:=Tryz.underlying368
 a233:=Tryz.isAgg368
 z233:=Tryz.sizeOf368
 v233:=Tryz.zeroValue368
 g17:=by kernel_rfl
 g18:=by kernel_rfl
 g19:=by kernel_rfl
 i0:=by kernel_rfl
 i2:=by kernel_rfl
 i3:=by kernel_rfl
 i4:=by kernel_rfl
 i5:=by kernel_rfl
 i9:=by kernel_rfl
 i20:=by kernel_rfl
 i37:=by kernel_rfl
 i46:=by kernel_rfl
 i51:=by kernel_rfl
 i53:=by kernel_rfl
 i171:=by kernel_rfl
 i173:=by kernel_rfl
 i212:=by kernel_rfl
 i232:=by kernel_rfl
 i233:=by kernel_rfl
 m17:=by kernel_rfl
 m18:=by kernel_rfl
 m19:=by kernel_rfl }
end Go.Proofs.YtpmhjnhgpplmnaaGreatDoor
end

section
namespace Go.Proofs.YtpmhjnhgpplmnaaGreatDoor

def lexLt:List UInt8→List UInt8→Bool
 | [],[]=>false
 | [],_::_=>true
 | _::_,[]=>false
 | a::l,b::m=>if a.toNat<b.toNat then true else if b.toNat<a.toNat then false else lexLt l m
theorem lex_irrefl:∀l,lexLt l l=false
 | []=>rfl
 | a::l=>by simp [lexLt,lex_irrefl l]
theorem lex_trans:∀l m k,lexLt l m=true→lexLt m k=true→lexLt l k=true
 | [],[],_,h,_=>by simp [lexLt] at h
 | [],_::_,[],_,h=>by simp [lexLt] at h
 | [],_::_,_::_,_,_=>rfl
 | _::_,[],_,h,_=>by simp [lexLt] at h
 | _::_,_::_,[],_,h=>by simp [lexLt] at h
 | a::l,b::m,c::k,h1,h2=>by
   simp only [lexLt] at h1 h2 ⊢
   split at h1
   · split at h2
     · rw [if_pos (by omega)]
     · split at h2
       · cases h2
       · rw [if_pos (by omega)]
   · split at h1
     · cases h1
     · split at h2
       · rw [if_pos (by omega)]
       · split at h2
         · cases h2
         · rw [if_neg (by omega),if_neg (by omega)]
           exact lex_trans l m k h1 h2
theorem lex_tri:∀l m,lexLt l m=false→lexLt m l=false→l=m
 | [],[],_,_=>rfl
 | [],_::_,h,_=>by simp [lexLt] at h
 | _::_,[],_,h=>by simp [lexLt] at h
 | a::l,b::m,h1,h2=>by
   simp only [lexLt] at h1 h2
   split at h1
   · cases h1
   · split at h2
     · cases h2
     · rename_i n1 n2
       rw [if_neg (by omega)] at h1
       have e:a=b:=UInt8.toNat_inj.1 (by omega)
       rw [e,lex_tri l m h1 h2]
theorem lex_asymm {l m:List UInt8} (h:lexLt l m=true):lexLt m l=false:=by
 cases h2:lexLt m l with
 | false=>rfl
 | true=>have:=lex_trans l m l h h2;rw [lex_irrefl] at this;cases this
theorem lex_ne {l m:List UInt8} (h:lexLt l m=true):l≠m:=fun e=>by subst e;rw [lex_irrefl] at h;cases h
def AscBy {α:Type} (key:α→List UInt8):List α→Prop:=List.Pairwise fun x y=>lexLt (key x) (key y)=true

theorem asc_nodup {α:Type} {key:α→List UInt8} {l:List α} (h:AscBy key l) {x y:α} (hx:x∈l) (hy:y∈l) (he:key x=key y):x=y:=by
 induction l with
 | nil=>simp at hx
 | cons z l ih=>
   have a:=List.pairwise_cons.1 h
   rcases List.mem_cons.1 hx with e1 | h1<;>rcases List.mem_cons.1 hy with e2 | h2
   · rw [e1,e2]
   · rw [e1] at he;exact absurd he (lex_ne (a.1 y h2))
   · rw [e2] at he;exact absurd he.symm (lex_ne (a.1 x h1))
   · exact ih a.2 h1 h2

theorem less_lex:∀l m:List UInt8,Op.bytesLess l m=lexLt l m
 | [],[]=>rfl
 | _::_,[]=>rfl
 | [],_::_=>rfl
 | a::l,b::m=>by
   simp only [Op.bytesLess,lexLt,less_lex l m]
   by_cases h1:a.toNat<b.toNat
   · have:a<b:=UInt8.lt_iff_toNat_lt.2 h1
     simp [h1,this]
   · have h2:¬a<b:=fun h=>h1 (UInt8.lt_iff_toNat_lt.1 h)
     by_cases h3:b.toNat<a.toNat
     · have:a≠b:=fun e=>by rw [e] at h3;omega
       simp [h1,h2,h3,this]
     · have:a=b:=UInt8.toNat_inj.1 (by omega)
       simp [h1,h2,h3,this]
namespace Sx
def strV (l:List UInt8):Value:=.string ⟨l.toArray⟩
end Sx

end Go.Proofs.YtpmhjnhgpplmnaaGreatDoor
end

section
namespace Go.Proofs.YtpmhjnhgpplmnaaGreatDoor.Sx
open Go
set_option maxRecDepth 8000

structure MapE {α:Type} (key val:α→Value) (es:Array MapEntry) (clock:Nat) (M:List α):Prop where
 ents:es.toList.map (fun x=>(x.key,x.val))=M.map fun r=>(key r,val r)
 born:(es.toList.map (·.born)).Nodup
 old:∀x∈es.toList,x.born<clock

theorem MapE.nil {α:Type} (key val:α→Value):MapE key val #[] 0 ([]:List α):=⟨rfl,by simp,by simp⟩
theorem MapE.len {α:Type} {key val:α→Value} {es:Array MapEntry} {clock:Nat} {M:List α} (h:MapE key val es clock M):es.size=M.length:=by
 have:=congrArg List.length h.ents
 simpa using this
theorem MapE.at_ {α:Type} {key val:α→Value} {es:Array MapEntry} {clock:Nat} {M:List α} (h:MapE key val es clock M) {i:Nat} {x:MapEntry} (hx:es.toList[i]?=some x):∃r,M[i]?=some r∧x.key=key r∧x.val=val r:=by
 have:=congrArg (fun l=>l[i]?) h.ents
 simp only [List.getElem?_map,hx,Option.map_some] at this
 cases hm:M[i]? with
 | none=>rw [hm] at this;cases this
 | some r=>
   rw [hm] at this
   simp only [Option.map_some,Option.some.injEq,Prod.mk.injEq] at this
   exact ⟨r,rfl,this.1,this.2⟩

section
variable {P:Program} {α:Type} {key val:α→Value} {kid:α→List UInt8} {KT:TypeId} {kv:List UInt8→Value} {ok:List UInt8→Prop}

structure KeyOps (P:Program) (KT:TypeId) (kv:List UInt8→Value) (ok:List UInt8→Prop):Prop where
 chk:∀id,ok id→∀(em:Bool) (w:World),(Instr.checkKey em 10000 KT (kv id)).run P w=.ok () w
 find:∀(α:Type) (val:α→Value) (kid:α→List UInt8) (L:List MapEntry) (M:List α) (id:List UInt8),ok id→∀w:World,L.map (fun x=>(x.key,x.val))=M.map (fun r=>(kv (kid r),val r))→(∀r∈M,ok (kid r))→
   (Instr.findKey KT (kv id) L).run P w=.ok (((M.findIdx? fun r=>kid r==id).bind fun j=>(M[j]?).map fun r=>(j,val r))) w
 stay:∀id,∀w:World,(Instr.keyThatStays (kv id) (kv id)).run P w=.ok (kv id) w

def fndM (kid:α→List UInt8) (M:List α) (id:List UInt8):Option (Nat×α):=(M.findIdx? fun r=>kid r==id).bind fun j=>(M[j]?).map fun r=>(j,r)
theorem fnd_some {M:List α} {id:List UInt8} {j:Nat} {r:α} (h:fndM kid M id=some (j,r)):M[j]?=some r∧kid r=id:=by
 unfold fndM at h
 simp only [Option.bind_eq_some_iff,Option.map_eq_some_iff,Prod.mk.injEq] at h
 obtain ⟨j',h1,r',h2,rfl,rfl⟩:=h
 refine ⟨h2,?_⟩
 rw [List.findIdx?_eq_some_iff_getElem] at h1
 obtain ⟨hl,h3,_⟩:=h1
 rw [List.getElem?_eq_getElem hl,Option.some.injEq] at h2
 rw [h2] at h3
 simpa using h3
theorem fnd_none {M:List α} {id:List UInt8} (h:fndM kid M id=none):∀r∈M,kid r≠id:=by
 intro r hr e
 unfold fndM at h
 cases hf:M.findIdx? fun r=>kid r==id with
 | none=>
   have:=List.findIdx?_eq_none_iff.1 hf r hr
   simp [e] at this
 | some j=>
   rw [hf] at h
   rw [List.findIdx?_eq_some_iff_getElem] at hf
   obtain ⟨hl,_⟩:=hf
   simp [List.getElem?_eq_getElem hl] at h

variable {w:World} {g:Nat} {es:Array MapEntry} {clock:Nat} {M:List α} {mt ET:TypeId}

structure KeyM (P:Program) (KT:TypeId) (kv:List UInt8→Value) (ok:List UInt8→Prop) (key:α→Value) (kid:α→List UInt8) (M:List α):Prop where
 ops:KeyOps P KT kv ok
 key:∀r,key r=kv (kid r)
 len:∀r∈M,ok (kid r)

theorem MapE.findK (hE:MapE key val es clock M) (hK:KeyM P KT kv ok key kid M) {id:List UInt8} (hl:ok id) (w:World):(Instr.findKey KT (kv id) es.toList).run P w=.ok ((fndM kid M id).map fun p=>(p.1,val p.2)) w:=by
 have he:es.toList.map (fun x=>(x.key,x.val))=M.map (fun r=>(kv (kid r),val r)):=by
   rw [hE.ents]
   refine List.map_congr_left fun r _=>?_
   rw [hK.key]
 rw [hK.ops.find α val kid es.toList M id hl w he hK.len]
 unfold fndM
 cases M.findIdx? fun r=>kid r==id with
 | none=>rfl
 | some j=>cases h:M[j]?<;>simp [h]

def updM (kid:α→List UInt8) (M:List α) (r:α):List α:=match fndM kid M (kid r) with
 | some (j,_)=>M.set j r
 | none=>M++ [r]

theorem MapE.updateK (hE:MapE key val es clock M) (hK:KeyM P KT kv ok key kid M) (hm:P.underlying mt=some (.map KT ET)) (hg:w.heap[g]?=some (.map es clock)) (r:α) (hr:ok (kid r)):
   ∃es' clock',(Instr.mapUpdate mt (.map (some g)) (kv (kid r)) (val r)).run P w=.ok () (w.putObj g (.map es' clock'))∧MapE key val es' clock' (updM kid M r):=by
 have hf:=hE.findK hK hr w
 have hc:=hK.ops.chk _ hr false w
 have hset:∀o:Obj,(setObj g o).run P w=.ok () (w.putObj g o):=fun o=>by simp [setObj,Sem.run,hg,World.putObj]
 unfold updM
 cases h:fndM kid M (kid r) with
 | none=>
   rw [h] at hf
   refine ⟨es.push { key:=kv (kid r),val:=val r,born:=clock },clock+1,?_,?_⟩
   · simp only [Instr.mapUpdate,getObj,Sem.run_bind,run_underlying hm,Result.andThen_ok,Sem.run,hg,Result.andThen,hc,hf,Option.map_none]
     exact hset _
   · refine ⟨?_,?_,?_⟩
     · rw [Array.toList_push,List.map_append,List.map_append,hE.ents]
       simp [hK.key]
     · rw [Array.toList_push,List.map_append,List.nodup_append]
       refine ⟨hE.born,by simp,?_⟩
       intro a ha b hb
       simp only [List.map_cons,List.map_nil,List.mem_singleton] at hb
       obtain ⟨x,hx,rfl⟩:=List.mem_map.1 ha
       have:=hE.old x hx
       omega
     · intro x hx
       rw [Array.toList_push,List.mem_append,List.mem_singleton] at hx
       rcases hx with hx | rfl
       · have:=hE.old x hx;omega
       · show clock<clock+1;omega
 | some p=>
   obtain ⟨j,s⟩:=p
   rw [h] at hf
   obtain ⟨hj,hs⟩:=fnd_some h
   have hjl:j<M.length:=(List.getElem?_eq_some_iff.1 hj).1
   have hsz:=hE.len
   have hx:es.toList[j]?=some es[j]:=by simp [show j<es.size by omega]
   obtain ⟨s',h1,h2,h3⟩:=hE.at_ hx
   rw [hj,Option.some.injEq] at h1
   subst h1
   refine ⟨es.modify j fun e=> { e with key:=kv (kid r),val:=val r },clock,?_,?_⟩
   · have hk:(((es[j]?).map (·.key)).getD (kv (kid r)))=kv (kid r):=by
       rw [Array.getElem?_eq_getElem (by omega)]
       simp only [Option.map_some,Option.getD_some]
       rw [h2,hK.key,hs]
     have hst:(Instr.keyThatStays (kv (kid r)) (kv (kid r))).run P w=.ok (kv (kid r)) w:=by
       exact hK.ops.stay _ w
     simp only [Instr.mapUpdate,getObj,Sem.run_bind,run_underlying hm,Result.andThen_ok,Sem.run,hg,Result.andThen,hc,hf,Option.map_some,hk,hst]
     exact hset _
   · have hl:(es.modify j fun e=> { e with key:=kv (kid r),val:=val r }).toList=es.toList.modify j fun e=> { e with key:=kv (kid r),val:=val r } :=Array.toList_modify ..
     refine ⟨?_,?_,?_⟩
     · rw [hl]
       apply List.ext_getElem?
       intro i
       have:=congrArg (fun l=>l[i]?) hE.ents
       simp only [List.getElem?_map] at this
       rw [List.getElem?_map,List.getElem?_modify,List.getElem?_map,List.getElem?_set]
       by_cases hi:j=i
       · subst hi
         rw [hx]
         simp [hjl,hK.key]
       · simp only [if_neg hi]
         cases hq:es.toList[i]?<;>rw [hq] at this<;>simpa using this
     · rw [hl]
       have:(es.toList.modify j fun e=> { e with key:=kv (kid r),val:=val r }).map (·.born)=es.toList.map (·.born):=by
         apply List.ext_getElem?
         intro i
         rw [List.getElem?_map,List.getElem?_modify,List.getElem?_map]
         by_cases hi:j=i
         · subst hi;rw [hx];simp
         · simp only [if_neg hi];cases es.toList[i]?<;>rfl
       rw [this]
       exact hE.born
     · intro x hxm
       rw [hl] at hxm
       obtain ⟨i,hi⟩:=List.getElem?_of_mem hxm
       rw [List.getElem?_modify] at hi
       by_cases hji:j=i
       · subst hji
         rw [hx] at hi
         simp at hi
         subst hi
         exact hE.old es[j] (by simp)
       · simp only [if_neg hji] at hi
         cases hq:es.toList[i]? with
         | none=>rw [hq] at hi;simp at hi
         | some y=>rw [hq] at hi;simp at hi;subst hi;exact hE.old y (List.mem_of_getElem? hq)

theorem MapE.deleteK (hE:MapE key val es clock M) (hK:KeyM P KT kv ok key kid M) (hm:P.underlying mt=some (.map KT ET)) (hg:w.heap[g]?=some (.map es clock)) {id:List UInt8} (hl:ok id) (ts:Array TypeId) (hts:ts[0]?=some mt) (ty:TypeId):
   ∃es',(Builtin.delete_ ts ty #[.map (some g),kv id]).run P w=.ok (.tuple #[]) (w.putObj g (.map es' clock))∧(∀j r,fndM kid M id=some (j,r)→es'=es.eraseIdxIfInBounds j∧MapE key val es' clock (M.eraseIdx j))∧(fndM kid M id=none→es'=es∧MapE key val es' clock M):=by
 have hf:=hE.findK hK hl w
 have hc:=hK.ops.chk _ hl es.isEmpty w
 have hset:∀o:Obj,(setObj g o).run P w=.ok () (w.putObj g o):=fun o=>by simp [setObj,Sem.run,hg,World.putObj]
 cases h:fndM kid M id with
 | none=>
   rw [h] at hf
   refine ⟨es,?_,by simp,fun _=>⟨rfl,hE⟩⟩
   simp [Builtin.delete_,getObj,hts,run_underlying hm,Sem.run,hg,Result.andThen,hc,hf,hset]
 | some p=>
   obtain ⟨j,s⟩:=p
   rw [h] at hf
   obtain ⟨hj,hs⟩:=fnd_some h
   have hjl:j<M.length:=(List.getElem?_eq_some_iff.1 hj).1
   have hsz:=hE.len
   refine ⟨es.eraseIdxIfInBounds j,?_,?_,by simp⟩
   · simp [Builtin.delete_,getObj,hts,run_underlying hm,Sem.run,hg,Result.andThen,hc,hf,hset]
   · rintro j' r' h'
     simp only [Option.some.injEq,Prod.mk.injEq] at h'
     obtain ⟨rfl,rfl⟩:=h'
     have hle:(es.eraseIdxIfInBounds j).toList=es.toList.eraseIdx j:=by simp [Array.eraseIdxIfInBounds,show j<es.size by omega]
     refine ⟨rfl,?_,?_,?_⟩
     · rw [hle,Go.ChangeMaps.map_eraseIdx,Go.ChangeMaps.map_eraseIdx,hE.ents]
     · rw [hle,Go.ChangeMaps.map_eraseIdx]
       exact hE.born.sublist (List.eraseIdx_sublist _ _)
     · intro x hx
       rw [hle] at hx
       exact hE.old x ((List.eraseIdx_sublist _ _).subset hx)

theorem MapE.lookupK (hE:MapE key val es clock M) (hK:KeyM P KT kv ok key kid M) (hm:P.underlying mt=some (.map KT ET)) (hg:w.heap[g]?=some (.map es clock)) {id:List UInt8} (hl:ok id) {z:Value} (hz:∀w,(zeroValue ET).run P w=.ok z w):
   (Instr.lookup mt (.map (some g)) (kv id) true).run P w=.ok (.tuple #[((fndM kid M id).map fun p=>val p.2).getD z,.bool (fndM kid M id).isSome]) w:=by
 have hf:=hE.findK hK hl w
 have hc:=hK.ops.chk _ hl es.isEmpty w
 cases h:fndM kid M id with
 | none=>
   rw [h] at hf
   simp [Instr.lookup,getObj,run_underlying hm,Sem.run,hg,Result.andThen,hc,hf,hz]
 | some p=>
   rw [h] at hf
   simp [Instr.lookup,getObj,run_underlying hm,Sem.run,hg,Result.andThen,hc,hf]

theorem MapE.lenOf (hE:MapE key val es clock M) (hm:P.underlying mt=some (.map KT ET)) (hg:w.heap[g]?=some (.map es clock)) (ty:TypeId):(Builtin.len_ #[mt] ty #[.map (some g)]).run P w=.ok (.int .i64 (M.length:Int)) w:=by
 have:=hE.len
 simp [Builtin.len_,getObj,run_underlying hm,Sem.run,hg,Result.andThen,goInt,this]
end

end Go.Proofs.YtpmhjnhgpplmnaaGreatDoor.Sx
end

section
namespace Go.Proofs.YtpmhjnhgpplmnaaGreatDoor
open Go Sx
set_option maxRecDepth 8000

section
variable {α:Type} (kid:α→List UInt8)
def insA (S:List α) (r:α):List α:=S.filter (fun s=>lexLt (kid s) (kid r))++r::S.filter (fun s=>lexLt (kid r) (kid s))
def delA (S:List α) (id:List UInt8):List α:=S.filter fun s=> !decide (kid s=id)
def findA (S:List α) (id:List UInt8):Option α:=S.find? fun r=>kid r==id
end

section
variable {α:Type} {kid:α→List UInt8} {S M:List α}

theorem lex_total {l m:List UInt8} (h:l≠m):lexLt l m=true∨lexLt m l=true:=by
 cases h1:lexLt l m with
 | true=>exact .inl rfl
 | false=>
   cases h2:lexLt m l with
   | true=>exact .inr rfl
   | false=>exact absurd (lex_tri _ _ h1 h2) h

theorem mem_insA {x r:α} :x∈insA kid S r↔x=r∨(x∈S∧kid x≠kid r):=by
 unfold insA
 simp only [List.mem_append,List.mem_cons,List.mem_filter]
 constructor
 · rintro (⟨h1,h2⟩ | rfl | ⟨h1,h2⟩)
   · exact .inr ⟨h1,lex_ne h2⟩
   · exact .inl rfl
   · exact .inr ⟨h1,(lex_ne h2).symm⟩
 · rintro (rfl | ⟨h1,h2⟩)
   · exact .inr (.inl rfl)
   · rcases lex_total h2 with h | h
     · exact .inl ⟨h1,h⟩
     · exact .inr (.inr ⟨h1,h⟩)
theorem mem_delA {x:α} {id:List UInt8} :x∈delA kid S id↔x∈S∧kid x≠id:=by simp [delA]
theorem asc_insA (h:AscBy kid S) (r:α):AscBy kid (insA kid S r):=by
 unfold insA AscBy
 refine List.pairwise_append.2 ⟨h.sublist List.filter_sublist,List.pairwise_cons.2 ⟨fun x hx=>(List.mem_filter.1 hx).2,h.sublist List.filter_sublist⟩,fun x hx y hy=>?_⟩
 have h1:=(List.mem_filter.1 hx).2
 rcases List.mem_cons.1 hy with rfl | hy
 · exact h1
 · exact lex_trans _ _ _ h1 (List.mem_filter.1 hy).2
theorem asc_delA (h:AscBy kid S) (id:List UInt8):AscBy kid (delA kid S id):=h.sublist List.filter_sublist
theorem asc_ne (h:AscBy kid S):S.Pairwise fun x y=>kid x≠kid y:=h.imp fun h=>lex_ne h

theorem findA_mem {id:List UInt8} {r:α} (h:findA kid S id=some r):r∈S∧kid r=id:=⟨List.mem_of_find?_eq_some h,by simpa using List.find?_some h⟩
theorem findA_none {id:List UInt8} (h:findA kid S id=none):∀r∈S,kid r≠id:=by
 intro r hr
 rw [findA,List.find?_eq_none] at h
 simpa using h r hr
theorem findA_iff (h:AscBy kid S) {r:α} :findA kid S (kid r)=some r↔r∈S:=by
 constructor
 · exact fun hf=>(findA_mem hf).1
 · intro hr
   cases hq:findA kid S (kid r) with
   | none=>exact absurd rfl (findA_none hq r hr)
   | some z=>
     obtain ⟨h1,h2⟩:=findA_mem hq
     rw [asc_nodup h h1 hr h2]
theorem insA_len (S:List α) (r:α):(insA kid S r).length≤S.length+1:=by
 have key:∀T:List α,(T.filter fun s=>lexLt (kid s) (kid r)).length+(T.filter fun s=>lexLt (kid r) (kid s)).length≤T.length:=by
   intro T
   induction T with
   | nil=>simp
   | cons x T ih=>
     cases h1:lexLt (kid x) (kid r) with
     | true=>
       have h2:=lex_asymm h1
       simp [List.filter_cons,h1,h2];omega
     | false=>cases h2:lexLt (kid r) (kid x)<;>simp [List.filter_cons,h1,h2]<;>omega
 have:=key S
 simp only [insA,List.length_append,List.length_cons]
 omega
theorem insA_len_in {S:List α} (hS:AscBy kid S) {r:α} (h:findA kid S (kid r)≠none):(insA kid S r).length≤S.length:=by
 obtain ⟨y,hy⟩:∃y,findA kid S (kid r)=some y:=by
   cases hq:findA kid S (kid r) with
   | none=>exact absurd hq h
   | some y=>exact ⟨y,rfl⟩
 obtain ⟨h1,h2⟩:=findA_mem hy
 obtain ⟨A,B,rfl⟩:=List.append_of_mem h1
 have hp:=List.pairwise_append.1 hS
 have hA:A.filter (fun s=>lexLt (kid r) (kid s))=[]:=List.filter_eq_nil_iff.2 fun x hx=>by
   have:=hp.2.2 x hx y (by simp)
   rw [h2] at this
   rw [lex_asymm this];simp
 have hB:B.filter (fun s=>lexLt (kid s) (kid r))=[]:=List.filter_eq_nil_iff.2 fun x hx=>by
   have:=(List.pairwise_cons.1 hp.2.1).1 x hx
   rw [h2] at this
   rw [lex_asymm this];simp
 have l1:=List.length_filter_le (fun s=>lexLt (kid s) (kid r)) A
 have l2:=List.length_filter_le (fun s=>lexLt (kid r) (kid s)) B
 simp only [insA,List.filter_append,List.filter_cons,hA,hB,h2,lex_irrefl,List.length_append,List.length_cons,List.nil_append,List.append_nil,Bool.false_eq_true,if_false]
 omega
theorem delA_len (S:List α) (id:List UInt8):(delA kid S id).length≤S.length:=List.length_filter_le _ _
theorem delA_len_in {S:List α} {id:List UInt8} {y:α} (h:findA kid S id=some y):(delA kid S id).length+1≤S.length:=by
 obtain ⟨h1,h2⟩:=findA_mem h
 obtain ⟨A,B,rfl⟩:=List.append_of_mem h1
 have l1:=List.length_filter_le (fun s=> !decide (kid s=id)) A
 have l2:=List.length_filter_le (fun s=> !decide (kid s=id)) B
 simp only [delA,List.filter_append,List.filter_cons,h2,List.length_append,List.length_cons,decide_true,Bool.not_true,Bool.false_eq_true,if_false]
 omega

structure MapIsA (kid:α→List UInt8) (M S:List α):Prop where
 perm:M.Perm S
 asc:AscBy kid S
theorem MapIsA.nil:MapIsA kid [] []:=⟨List.Perm.refl _,List.Pairwise.nil⟩

theorem fnd_find (hp:M.Perm S) (hS:AscBy kid S) (id:List UInt8):(fndM kid M id).map (·.2)=findA kid S id:=by
 cases hf:fndM kid M id with
 | none=>
   have hn:=fnd_none hf
   symm
   rw [Option.map_none,findA,List.find?_eq_none]
   intro r hr
   have:=hn r (hp.mem_iff.2 hr)
   simpa using this
 | some p=>
   obtain ⟨j,y⟩:=p
   obtain ⟨hj,hy⟩:=fnd_some hf
   have hyS:y∈S:=hp.mem_iff.1 (List.mem_of_getElem? hj)
   rw [Option.map_some,←hy]
   exact ((findA_iff hS).2 hyS).symm
theorem MapIsA.find (h:MapIsA kid M S) (id:List UInt8):(fndM kid M id).map (·.2)=findA kid S id:=fnd_find h.perm h.asc id

theorem split_at {M:List α} {j:Nat} {y:α} (hj:M[j]?=some y):M=M.take j++y::M.drop (j+1)∧(∀r,M.set j r=M.take j++r::M.drop (j+1))∧M.eraseIdx j=M.take j++M.drop (j+1):=by
 obtain ⟨hl,e⟩:=List.getElem?_eq_some_iff.1 hj
 refine ⟨?_,fun r=>?_,List.eraseIdx_eq_take_drop_succ ..⟩
 · rw [←e,←List.drop_eq_getElem_cons hl,List.take_append_drop]
 · rw [List.set_eq_take_append_cons_drop,if_pos hl]

theorem MapIsA.nd (h:MapIsA kid M S):M.Pairwise fun x y=>kid x≠kid y:=(asc_ne h.asc).perm h.perm.symm fun h=>h.symm

theorem nodup_of_ne {M:List α} (h:M.Pairwise fun x y=>kid x≠kid y):M.Nodup:=h.imp fun h e=>h (by rw [e])

theorem MapIsA.upd (h:MapIsA kid M S) (r:α):MapIsA kid (updM kid M r) (insA kid S r):=by
 refine ⟨?_,asc_insA h.asc r⟩
 have hnd:(updM kid M r).Pairwise fun x y=>kid x≠kid y:=by
   unfold updM
   cases hf:fndM kid M (kid r) with
   | none=>
     have hn:=fnd_none hf
     exact List.pairwise_append.2 ⟨h.nd,by simp,fun x hx y hy=>by simp at hy;rw [hy];exact hn x hx⟩
   | some p=>
     obtain ⟨j,y⟩:=p
     obtain ⟨hj,hy⟩:=fnd_some hf
     obtain ⟨h1,h2,_⟩:=split_at hj
     have hM:=h.nd
     rw [h1] at hM
     show (M.set j r).Pairwise _
     rw [h2]
     have hp:=List.pairwise_append.1 hM
     have hc:=List.pairwise_cons.1 hp.2.1
     refine List.pairwise_append.2 ⟨hp.1,List.pairwise_cons.2 ⟨fun x hx=>by rw [←hy];exact hc.1 x hx,hc.2⟩,fun x hx z hz=>?_⟩
     rcases List.mem_cons.1 hz with rfl | hz
     · rw [←hy];exact hp.2.2 x hx y (by simp)
     · exact hp.2.2 x hx z (by simp [hz])
 refine (List.perm_ext_iff_of_nodup (nodup_of_ne hnd) (nodup_of_ne (asc_ne (asc_insA h.asc r)))).2 fun x=>?_
 rw [mem_insA,←h.perm.mem_iff]
 unfold updM
 cases hf:fndM kid M (kid r) with
 | none=>
   have hn:=fnd_none hf
   show x∈M++ [r]↔_
   rw [List.mem_append,List.mem_singleton]
   constructor
   · rintro (h1 | rfl)
     · exact .inr ⟨h1,hn x h1⟩
     · exact .inl rfl
   · rintro (rfl | ⟨h1,_⟩)
     · exact .inr rfl
     · exact .inl h1
 | some p=>
   obtain ⟨j,y⟩:=p
   obtain ⟨hj,hy⟩:=fnd_some hf
   obtain ⟨h1,h2,_⟩:=split_at hj
   show x∈M.set j r↔_
   rw [h2]
   have hM:=h.nd
   rw [h1] at hM
   have hp:=List.pairwise_append.1 hM
   have hc:=List.pairwise_cons.1 hp.2.1
   constructor
   · intro hx
     rcases List.mem_append.1 hx with hx | hx
     · refine .inr ⟨by rw [h1];simp [hx],?_⟩
       rw [←hy];exact hp.2.2 x hx y (by simp)
     · rcases List.mem_cons.1 hx with rfl | hx
       · exact .inl rfl
       · refine .inr ⟨by rw [h1];simp [hx],?_⟩
         rw [←hy];exact (hc.1 x hx).symm
   · rintro (rfl | ⟨hx,hne⟩)
     · simp
     · rw [h1] at hx
       rcases List.mem_append.1 hx with hx | hx
       · simp [hx]
       · rcases List.mem_cons.1 hx with rfl | hx
         · exact absurd hy hne
         · simp [hx]

theorem MapIsA.del (h:MapIsA kid M S) {id:List UInt8} {j:Nat} {y:α} (hf:fndM kid M id=some (j,y)):MapIsA kid (M.eraseIdx j) (delA kid S id):=by
 obtain ⟨hj,hy⟩:=fnd_some hf
 obtain ⟨h1,_,h3⟩:=split_at hj
 refine ⟨?_,asc_delA h.asc id⟩
 have hM:=h.nd
 refine (List.perm_ext_iff_of_nodup (nodup_of_ne (hM.sublist (List.eraseIdx_sublist _ _))) (nodup_of_ne (asc_ne (asc_delA h.asc id)))).2 fun x=>?_
 rw [mem_delA,←h.perm.mem_iff,h3]
 rw [h1] at hM
 have hp:=List.pairwise_append.1 hM
 have hc:=List.pairwise_cons.1 hp.2.1
 constructor
 · intro hx
   rcases List.mem_append.1 hx with hx | hx
   · refine ⟨by rw [h1];simp [hx],?_⟩
     rw [←hy];exact hp.2.2 x hx y (by simp)
   · refine ⟨by rw [h1];simp [hx],?_⟩
     rw [←hy];exact (hc.1 x hx).symm
 · rintro ⟨hx,hne⟩
   rw [h1] at hx
   rcases List.mem_append.1 hx with hx | hx
   · simp [hx]
   · rcases List.mem_cons.1 hx with rfl | hx
     · exact absurd hy hne
     · simp [hx]
theorem MapE.congr {key val val':α→Value} {es:Array MapEntry} {ck:Nat} (h:MapE key val es ck M) (hv:∀r∈M,val r=val' r):MapE key val' es ck M:=by
 refine ⟨?_,h.born,h.old⟩
 rw [h.ents]
 exact List.map_congr_left fun r hr=>by rw [hv r hr]
end

end Go.Proofs.YtpmhjnhgpplmnaaGreatDoor
end

section
namespace Go.Proofs.YtpmhjnhgpplmnaaGreatDoor
open Go Sx
set_option maxRecDepth 8000

abbrev Nm:=List UInt8
structure Ent where
 name:Nm
 file:Nat
abbrev Dir:=List Ent
structure ChM where
 made:Option Nat
 fr:Nm
 to:Nm
structure FileM where
 data:List UInt8
 syn:Nat
structure DiskM where
 size:Int
 files:List FileM
 now:Dir
 syn:Dir
 chs:List ChM
 steps:Nat
 down:Bool
 arm:Option Nat
 fails:List Nat

def goodB (b:UInt8):Bool:=decide (33≤b.toNat)&&decide (b.toNat≤126)&& !decide (b.toNat=47)
def goodN (l:Nm):Bool:=decide (0<l.length)&&decide (l.length≤64)&&l.all goodB

abbrev findD (d:Dir) (n:Nm):Option Ent:=findA Ent.name d n
def mkD (d:Dir) (c:ChM):Dir:=match c.made with
 | some i=>insA Ent.name d ⟨c.to,i⟩
 | none=>match findD d c.fr with
   | none=>d
   | some e=>if c.to=[] then delA Ent.name d c.fr else insA Ent.name (delA Ent.name d c.fr) ⟨c.to,e.file⟩
def replay (d:Dir) (cs:List ChM):Dir:=cs.foldl mkD d
theorem replay_snoc (d:Dir) (cs:List ChM) (c:ChM):replay d (cs++ [c])=mkD (replay d cs) c:=by simp [replay]

def file0:FileM:=⟨[],0⟩
def fileAt (fs:List FileM) (i:Nat):FileM:=fs.getD i file0
def usedM (m:DiskM):Nat:=(m.now.map fun e=>(fileAt m.files e.file).data.length).sum
def setF (fs:List FileM) (i:Nat) (f:FileM→FileM):List FileM:=fs.set i (f (fileAt fs i))

def stepM (m:DiskM):DiskM×Option Int:=
 if m.arm=some 0 then ({ m with down:=true },some 1)
 else match m.fails with
   | []=>({ m with steps:=m.steps+1,arm:=m.arm.map (· -1) },none)
   | 0::r=>({ m with steps:=m.steps+1,arm:=m.arm.map (· -1),fails:=r },some 2)
   | (k+1)::r=>({ m with steps:=m.steps+1,arm:=m.arm.map (· -1),fails:=k::r },none)
def readyM (m:DiskM) (ns:List Nm):Option Int:=if m.down then some 1 else if ns.all goodN then none else some 6
def foundE (m:DiskM) (n:Nm):Option Int:=if m.down then some 1 else if !goodN n then some 6 else if (findD m.now n).isNone then some 5 else none
def foundI (m:DiskM) (n:Nm):Nat:=((findD m.now n).map (·.file)).getD 0

def stepsM (m:DiskM) (f:DiskM→DiskM):DiskM×Option Int:=match (stepM m).2 with
 | some e=>((stepM m).1,some e)
 | none=>(f (stepM m).1,none)
def chMade (m:DiskM) (n:Nm):ChM:=⟨some m.files.length,[],n⟩
def doCh (m:DiskM) (c:ChM):DiskM:= { m with now:=mkD m.now c,chs:=m.chs++ [c] }
def createF (m:DiskM) (n:Nm):DiskM:= { doCh m (chMade m n) with files:=m.files++ [file0] }
def createM (m:DiskM) (n:Nm):DiskM×Option Int:=match readyM m [n] with
 | some e=>(m,some e)
 | none=>if (findD m.now n).isSome then (m,some 4) else if 4096≤m.now.length then (m,some 19) else stepsM m fun m=>createF m n
def fits:Int→List (List UInt8)→Bool
 | _,[]=>true
 | r,p::ps=>decide ((p.length:Int)≤r)&&fits (r-p.length) ps
def appendF (m:DiskM) (i:Nat) (ps:List (List UInt8)):DiskM:= { m with files:=setF m.files i fun f=>⟨f.data++ps.flatten,f.syn⟩ }
def appendM (m:DiskM) (n:Nm) (ps:List (List UInt8)):DiskM×Option Int:=match foundE m n with
 | some e=>(m,some e)
 | none=>if fits (m.size-usedM m) ps then stepsM m fun m'=>appendF m' (foundI m n) ps else (m,some 3)
def syncF (m:DiskM) (i:Nat):DiskM:= { m with files:=setF m.files i fun f=>⟨f.data,f.data.length⟩ }
def syncM (m:DiskM) (n:Nm):DiskM×Option Int:=match foundE m n with
 | some e=>(m,some e)
 | none=>stepsM m fun m'=>syncF m' (foundI m n)
def syncDirF (m:DiskM):DiskM:= { m with syn:=m.now,chs:=[] }
def syncDirM (m:DiskM):DiskM×Option Int:=match readyM m [] with
 | some e=>(m,some e)
 | none=>stepsM m syncDirF
def renameM (m:DiskM) (a b:Nm):DiskM×Option Int:=match readyM m [a,b] with
 | some e=>(m,some e)
 | none=>match foundE m a with
   | some e=>(m,some e)
   | none=>stepsM m fun m=>doCh m ⟨none,a,b⟩
def removeM (m:DiskM) (n:Nm):DiskM×Option Int:=match foundE m n with
 | some e=>(m,some e)
 | none=>stepsM m fun m=>doCh m ⟨none,n,[]⟩
def readF (m:DiskM) (n:Nm):List UInt8:=if (foundE m n).isSome then [] else (fileAt m.files (foundI m n)).data
def newM (size:Int):DiskM:=⟨size,[],[],[],[],0,false,none,[]⟩

structure OkDir (k:Nat) (d:Dir):Prop where
 asc:AscBy Ent.name d
 len:d.length≤4096
 ent:∀e∈d,e.file<k∧goodN e.name=true
 inj:d.Pairwise fun x y=>x.file≠y.file
structure WFD (m:DiskM):Prop where
 now:m.now=replay m.syn m.chs
 dirs:∀k,OkDir m.files.length (replay m.syn (m.chs.take k))
 made:∀c∈m.chs,∀i,c.made=some i→i<m.files.length
 syn:∀f∈m.files,f.syn≤f.data.length∧f.data.length≤1099511627776
 size:0≤m.size∧m.size≤67108864

theorem WFD.okNow {m:DiskM} (h:WFD m):OkDir m.files.length m.now:=by
 have:=h.dirs m.chs.length
 rw [List.take_length,←h.now] at this
 exact this
theorem WFD.okSyn {m:DiskM} (h:WFD m):OkDir m.files.length m.syn:=h.dirs 0
theorem OkDir.mono {k k':Nat} {d:Dir} (h:OkDir k d) (hk:k≤k'):OkDir k' d:=⟨h.asc,h.len,fun e he=>⟨by have:=(h.ent e he).1;omega,(h.ent e he).2⟩,h.inj⟩
theorem okDir_nil (k:Nat):OkDir k []:=⟨List.Pairwise.nil,by simp,by simp,List.Pairwise.nil⟩
theorem OkDir.del {k:Nat} {d:Dir} (h:OkDir k d) (n:Nm):OkDir k (delA Ent.name d n):=
 ⟨asc_delA h.asc n,Nat.le_trans (delA_len _ _) h.len,fun e he=>h.ent e (mem_delA.1 he).1,h.inj.sublist List.filter_sublist⟩
theorem OkDir.inj' {k:Nat} {d:Dir} (h:OkDir k d) {x y:Ent} (hx:x∈d) (hy:y∈d) (he:x.file=y.file):x=y:=by
 have hi:=h.inj
 clear h
 induction d with
 | nil=>simp at hx
 | cons z d ih=>
   have a:=List.pairwise_cons.1 hi
   rcases List.mem_cons.1 hx with e1 | h1<;>rcases List.mem_cons.1 hy with e2 | h2
   · rw [e1,e2]
   · rw [e1] at he;exact absurd he (a.1 y h2)
   · rw [e2] at he;exact absurd he.symm (a.1 x h1)
   · exact ih h1 h2 a.2
theorem OkDir.ins {k:Nat} {d:Dir} (h:OkDir k d) {n:Nm} {i:Nat} (hi:i<k) (hn:goodN n=true) (hl:d.length+1≤4096∨findD d n≠none) (hne:∀e∈d,e.name≠n→e.file≠i):OkDir k (insA Ent.name d ⟨n,i⟩):=by
 refine ⟨asc_insA h.asc _,?_,fun e he=>?_,?_⟩
 · rcases hl with hl | hl
   · exact Nat.le_trans (insA_len d _) hl
   · exact Nat.le_trans (insA_len_in h.asc hl) h.len
 · rcases mem_insA.1 he with rfl | ⟨he,_⟩
   · exact ⟨hi,hn⟩
   · exact h.ent e he
 · unfold insA
   refine List.pairwise_append.2 ⟨h.inj.sublist List.filter_sublist,List.pairwise_cons.2 ⟨fun x hx=>?_,h.inj.sublist List.filter_sublist⟩,fun x hx y hy=>?_⟩
   · have h1:=List.mem_filter.1 hx
     exact (hne x h1.1 (lex_ne h1.2).symm).symm
   · have h1:=List.mem_filter.1 hx
     rcases List.mem_cons.1 hy with rfl | hy
     · exact hne x h1.1 (lex_ne h1.2)
     · have h2:=List.mem_filter.1 hy
       intro e
       have e2:=h.inj' h1.1 h2.1 e
       subst e2
       have:=lex_trans _ _ _ h1.2 h2.2
       rw [lex_irrefl] at this
       cases this

theorem WFD.snoc {m:DiskM} (h:WFD m) {c:ChM} {fs:List FileM} (hfs:m.files.length≤fs.length) (hs:∀f∈fs,f.syn≤f.data.length∧f.data.length≤1099511627776) (hc:∀i,c.made=some i→i<fs.length) (hd:OkDir fs.length (mkD m.now c)):
   WFD { doCh m c with files:=fs } :=by
 refine ⟨?_,fun k=>?_,fun c' hc'=>?_,hs,h.size⟩
 · show mkD m.now c=replay m.syn (m.chs++ [c])
   rw [replay_snoc,←h.now]
 · show OkDir fs.length (replay m.syn ((m.chs++ [c]).take k))
   by_cases hk:k≤m.chs.length
   · rw [List.take_append_of_le_length hk]
     exact (h.dirs k).mono hfs
   · rw [List.take_of_length_le (by simp;omega),replay_snoc,←h.now]
     exact hd
 · rcases List.mem_append.1 hc' with h1 | h1
   · exact fun i hi=>Nat.lt_of_lt_of_le (h.made c' h1 i hi) hfs
   · simp at h1;rw [h1];exact hc
theorem stepM_cases (m:DiskM):∃(s:Nat) (d:Bool) (a:Option Nat) (f:List Nat),(stepM m).1= { m with steps:=s,down:=d,arm:=a,fails:=f } :=by
 unfold stepM
 split
 · exact ⟨m.steps,true,m.arm,m.fails,by cases m;rfl⟩
 · split
   · rename_i h;exact ⟨_,m.down,_,[],by rw [←h]⟩
   · rename_i r h;exact ⟨_,m.down,_,_,rfl⟩
   · rename_i k r h;exact ⟨_,m.down,_,_,rfl⟩
theorem WFD.upd {m:DiskM} (h:WFD m) (s:Nat) (d:Bool) (a:Option Nat) (f:List Nat):WFD { m with steps:=s,down:=d,arm:=a,fails:=f } :=⟨h.now,h.dirs,h.made,h.syn,h.size⟩
theorem WFD.step {m:DiskM} (h:WFD m):WFD (stepM m).1:=by
 obtain ⟨s,d,a,f,e⟩:=stepM_cases m
 rw [e];exact h.upd s d a f

end Go.Proofs.YtpmhjnhgpplmnaaGreatDoor
end

section
namespace Go.Proofs.YtpmhjnhgpplmnaaGreatDoor
open Go Sx
set_option maxRecDepth 8000

def PTab (w:World):Prop:=Lib.TabIs Tryz.prog w "internal/strconv.uint64pow10" .u64 Lib.pow10Tab
theorem PTab.keep0 {w w':World} (h:PTab w) (hc:Chg [] w w'):PTab w':=by
 have hg:Tryz.prog.globalNamed "internal/strconv.uint64pow10" =some 3:=by kernel_rfl
 unfold PTab Lib.TabIs World.var? at*
 rw [hg] at h ⊢
 simp only [Option.bind_some] at h ⊢
 cases hh:w.heap[3]? with
 | none=>rw [hh] at h;simp at h
 | some o=>
   have hlt:=(Array.getElem?_eq_some_iff.1 hh).1
   rw [hc.block _ hlt (by simp),hh]
   rw [hh] at h
   exact h

theorem grow_chg (w:World) (q:Nat) (os:Array Obj):Chg [] w (Sort.grow (w.drewN q) os):=⟨rfl,rfl,rfl,by simp [Sort.grow,World.drewN],fun k hk _=>by simp [Sort.grow,World.drewN,Array.getElem?_append_left hk]⟩

theorem itoa_spec (num:Int) (h: -9223372036854775808≤num∧num≤9223372036854775807) (w:World) (hT:PTab w):Calls Tryz.prog 95 #[.int .i64 num] w fun e w'=>e=.returned (.string ⟨(Lib.itoa num).toArray⟩)∧Chg [] w w':=by
 refine Calls.mono (Any.strconv_Itoa laysItoa num h.1 h.2 w hT) ?_
 rintro e w' ⟨rfl,q,os,rfl⟩
 exact ⟨rfl,grow_chg w q os⟩

end Go.Proofs.YtpmhjnhgpplmnaaGreatDoor
end

section
namespace Go.Proofs.YtpmhjnhgpplmnaaGreatDoor
open Go Sx
set_option maxRecDepth 8000

theorem parse_snoc:∀(l:List UInt8) (acc v:Nat),Lib.parseUint10 acc l=.ok v→∀c:UInt8,48≤c.toNat→c.toNat≤57→v<1844674407370955162→v*10+(c.toNat-48)<18446744073709551616→Lib.parseUint10 acc (l++ [c])=.ok (v*10+(c.toNat-48))
 | [],acc,v,h,c,h1,h2,h3,h4=>by
   simp only [Lib.parseUint10] at h
   injection h with h
   subst h
   simp only [List.nil_append,Lib.parseUint10]
   rw [if_pos ⟨h1,h2⟩,if_neg (by omega),if_neg (by omega)]
 | b::l,acc,v,h,c,h1,h2,h3,h4=>by
   simp only [Lib.parseUint10] at h
   simp only [List.cons_append,Lib.parseUint10]
   split at h
   · rename_i hb
     rw [if_pos hb]
     split at h
     · cases h
     · rename_i ha
       rw [if_neg ha]
       split at h
       · cases h
       · rename_i hc
         rw [if_neg hc]
         exact parse_snoc l _ v h c h1 h2 h3 h4
   · cases h
theorem dig_nat {k:Nat} (h:k<10):(UInt8.ofNat (48+k)).toNat=48+k:=by rw [UInt8.toNat_ofNat'];omega
theorem parse_dec:∀u:Nat,u<9223372036854775808→Lib.parseUint10 0 (Lib.decDigits u)=.ok u:=by
 intro u
 induction u using Nat.strongRecOn with
 | ind u ih=>
   intro hu
   rw [Lib.decDigits]
   split
   · rename_i h
     have:=parse_snoc [] 0 0 rfl (UInt8.ofNat (48+u)) (by rw [dig_nat h];omega) (by rw [dig_nat h];omega) (by omega) (by rw [dig_nat h];omega)
     rw [List.nil_append,dig_nat h] at this
     rw [this]
     congr 1;omega
   · rename_i h
     have hm:u%10<10:=Nat.mod_lt _ (by decide)
     have:=parse_snoc (Lib.decDigits (u / 10)) 0 (u / 10) (ih (u / 10) (by omega) (by omega)) (UInt8.ofNat (48+u%10)) (by rw [dig_nat hm];omega) (by rw [dig_nat hm];omega) (by omega) (by rw [dig_nat hm];omega)
     rw [dig_nat hm] at this
     rw [this]
     congr 1;omega
theorem dec_ne (u:Nat):Lib.decDigits u≠ []:=by
 rw [Lib.decDigits]
 split<;>simp
theorem dec_byte:∀(u:Nat),∀b∈Lib.decDigits u,48≤b.toNat∧b.toNat≤57:=by
 intro u
 induction u using Nat.strongRecOn with
 | ind u ih=>
   intro b hb
   rw [Lib.decDigits] at hb
   split at hb
   · rename_i h
     simp only [List.mem_singleton] at hb
     subst hb
     rw [dig_nat h];omega
   · rcases List.mem_append.1 hb with hb | hb
     · exact ih (u / 10) (by omega) b hb
     · simp only [List.mem_singleton] at hb
       subst hb
       rw [dig_nat (Nat.mod_lt _ (by decide))];omega
theorem atoi_dec {u:Nat} (hu:u<9223372036854775808):Lib.atoiAll (Lib.decDigits u)=.ok (u:Int):=by
 have hp:=parse_dec u hu
 have hb:=dec_byte u
 have hn:=dec_ne u
 revert hp hb hn
 generalize Lib.decDigits u=l
 intro hp hb hn
 cases l with
 | nil=>exact absurd rfl hn
 | cons c r=>
   have hc:=hb c (by simp)
   have h1:¬(c.toNat=43∨c.toNat=45):=by omega
   have h2:¬c.toNat=45:=by omega
   have hm:Lib.parseMag (c::r)=.ok u:=by unfold Lib.parseMag;rw [if_neg (by simp)];exact hp
   have hu2:¬(9223372036854775808≤u):=by omega
   unfold Lib.atoiAll
   dsimp only
   rw [if_neg h1,hm]
   simp only [h2,hu2,if_false,not_false_eq_true,true_and,false_and]
theorem itoa_nat (u:Nat):Lib.itoa (u:Int)=Lib.decDigits u:=Lib.itoa_nonneg u
theorem atoi_itoa {n:Int} (h0:0≤n) (h1:n≤9223372036854775807):Lib.atoiAll (Lib.itoa n)=.ok n:=by
 obtain ⟨u,rfl⟩:∃u:Nat,n=(u:Int):=⟨n.toNat,by omega⟩
 rw [itoa_nat]
 exact atoi_dec (by omega)

def nameD (c:UInt8) (n:Int):List UInt8:=c::Lib.itoa n
def numO (c:UInt8) (lo hi:Int) (s:List UInt8):Option Int:=match s with
 | []=>none
 | _::r=>match Lib.atoiAll r with
   | .ok v=>if lo≤v∧v≤hi∧nameD c v=s then some v else none
   | _=>none
theorem numO_iff {c:UInt8} {lo hi:Int} (h0:0≤lo) (h1:hi≤9223372036854775807) {s:List UInt8} {v:Int} :numO c lo hi s=some v↔lo≤v∧v≤hi∧nameD c v=s:=by
 constructor
 · intro h
   unfold numO at h
   split at h
   · cases h
   · split at h
     · split at h
       · rename_i hc
         obtain rfl:=Option.some.inj h
         exact hc
       · cases h
     · cases h
 · rintro ⟨a,b,rfl⟩
   unfold numO nameD
   simp only [atoi_itoa (by omega:0≤v) (by omega)]
   rw [if_pos ⟨a,b,trivial⟩]
end Go.Proofs.YtpmhjnhgpplmnaaGreatDoor
end

section
namespace Go.Proofs.YtpmhjnhgpplmnaaGreatDoor
open Go.Shelf
def laysAtoi_ren:Go.Shelf.Ren:=⟨fun | 172=>94 | 244=>192 | 245=>193 | 247=>263 | 279=>264 | 280=>265 | 281=>266 | 282=>267 | 287=>316 | 316=>317 | 171=>95 | 205=>318 | 321=>355 | 322=>356 | 243=>194 | 246=>268 | 283=>319 | 284=>320 | 285=>321 | 286=>322 | 129=>274 | 317=>357 | 318=>358 | 319=>359 | 320=>360 | 337=>374 | 338=>375 | n=>n,fun | 9=>9 | 3=>3 | 75=>58 | 76=>182 | 4=>4 | 5=>5 | 167=>356 | 37=>26 | 0=>0 | 85=>357 | 2=>2 | 168=>359 | 53=>42 | 175=>412 | 46=>299 | 210=>416 | 127=>454 | 145=>457 | 143=>455 | 21=>21 | 171=>417 | 173=>419 | 212=>459 | 51=>370 | 20=>20 | 213=>460 | 232=>39 | 233=>368 | 80=>482 | n=>n,fun | 15=>0 | 16=>1 | 17=>3 | 18=>4 | 19=>5 | n=>n⟩
theorem laysAtoi:Go.Proofs.LaysC.n172 Tryz.prog laysAtoi_ren:= {
 mixed:=by kernel_rfl
 f129:=Tryz.func274.trans (congrArg some (by kernel_rfl))
 f171:=Tryz.func95.trans (congrArg some (by kernel_rfl))
 f172:=Tryz.func94.trans (congrArg some (by kernel_rfl))
 f205:=Tryz.func318.trans (congrArg some (by kernel_rfl))
 f243:=Tryz.func194.trans (congrArg some (by kernel_rfl))
 f244:=Tryz.func192.trans (congrArg some (by kernel_rfl))
 f245:=Tryz.func193.trans (congrArg some (by kernel_rfl))
 f246:=Tryz.func268.trans (congrArg some (by kernel_rfl))
 f247:=Tryz.func263.trans (congrArg some (by kernel_rfl))
 f279:=Tryz.func264.trans (congrArg some (by kernel_rfl))
 f280:=Tryz.func265.trans (congrArg some (by kernel_rfl))
 f281:=Tryz.func266.trans (congrArg some (by kernel_rfl))
 f282:=Tryz.func267.trans (congrArg some (by kernel_rfl))
 f283:=Tryz.func319.trans (congrArg some (by kernel_rfl))
 f284:=Tryz.func320.trans (congrArg some (by kernel_rfl))
 f285:=Tryz.func321.trans (congrArg some (by kernel_rfl))
 f286:=Tryz.func322.trans (congrArg some (by kernel_rfl))
 f287:=Tryz.func316.trans (congrArg some (by kernel_rfl))
 f316:=Tryz.func317.trans (congrArg some (by kernel_rfl))
 f317:=Tryz.func357.trans (congrArg some (by kernel_rfl))
 f318:=Tryz.func358.trans (congrArg some (by kernel_rfl))
 f319:=Tryz.func359.trans (congrArg some (by kernel_rfl))
 f320:=Tryz.func360.trans (congrArg some (by kernel_rfl))
 f321:=Tryz.func355.trans (congrArg some (by kernel_rfl))
 f322:=Tryz.func356.trans (congrArg some (by kernel_rfl))
 f337:=Tryz.func374.trans (congrArg some (by kernel_rfl))
 f338:=Tryz.func375.trans (congrArg some (by kernel_rfl))
 t0:=Tryz.underlying0
 a0:=Tryz.isAgg0
 z0:=Tryz.sizeOf0
 v0:=Tryz.zeroValue0
 t2:=Tryz.underlying2
 a2:=Tryz.isAgg2
 z2:=Tryz.sizeOf2
 v2:=Tryz.zeroValue2
 t3:=Tryz.underlying3
 a3:=Tryz.isAgg3
 z3:=Tryz.sizeOf3
 v3:=Tryz.zeroValue3
 t4:=Tryz.underlying4
 a4:=Tryz.isAgg4
 z4:=Tryz.sizeOf4
 v4:=Tryz.zeroValue4
 t5:=Tryz.underlying5
 a5:=Tryz.isAgg5
 z5:=Tryz.sizeOf5
 v5:=Tryz.zeroValue5
 t9:=Tryz.underlying9
 a9:=Tryz.isAgg9
 z9:=Tryz.sizeOf9
 v9:=Tryz.zeroValue9
 t20:=Tryz.underlying20
 a20:=Tryz.isAgg20
 z20:=Tryz.sizeOf20
 v20:=Tryz.zeroValue20
 t21:=Tryz.underlying21
 a21:=Tryz.isAgg21
 z21:=Tryz.sizeOf21
 v21:=Tryz.zeroValue21
 t37:=Tryz.underlying26
 a37:=Tryz.isAgg26
 z37:=Tryz.sizeOf26
 v37:=Tryz.zeroValue26
 t46:=Tryz.underlying299
 a46:=Tryz.isAgg299
 z46:=Tryz.sizeOf299
 v46:=Tryz.zeroValue299
 t51:=Tryz.underlying370
 a51:=Tryz.isAgg370
 z51:=Tryz.sizeOf370
 v51:=Tryz.zeroValue370
 t53:=Tryz.underlying42
 a53:=Tryz.isAgg42
 z53:=Tryz.sizeOf42
 v53:=Tryz.zeroValue42
 t75:=Tryz.underlying58
 a75:=Tryz.isAgg58
 z75:=Tryz.sizeOf58
 v75:=Tryz.zeroValue58
 t76:=Tryz.underlying182
 a76:=Tryz.isAgg182
 z76:=Tryz.sizeOf182
 v76:=Tryz.zeroValue182
 t85:=Tryz.underlying357
 a85:=Tryz.isAgg357
 z85:=Tryz.sizeOf357
 v85:=Tryz.zeroValue357
 t127:=Tryz.underlying454
 a127:=Tryz.isAgg454
 z127:=Tryz.sizeOf454
 v127:=Tryz.zeroValue454
 t143:=Tryz.underlying455
 a143:=Tryz.isAgg455
 z143:=Tryz.sizeOf455
 v143:=Tryz.zeroValue455
 t145:=Tryz.underlying457
 a145:=Tryz.isAgg457
 z145:=Tryz.sizeOf457
 v145:=Tryz.zeroValue457
 t167:=Tryz.underlying356
 a167:=Tryz.isAgg356
 z167:=Tryz.sizeOf356
 v167:=Tryz.zeroValue356
 t168:=Tryz.underlying359
 a168:=Tryz.isAgg359
 z168:=Tryz.sizeOf359
 v168:=Tryz.zeroValue359
 t171:=Tryz.underlying417
 a171:=Tryz.isAgg417
 z171:=Tryz.sizeOf417
 v171:=Tryz.zeroValue417
 t173:=Tryz.underlying419
 a173:=Tryz.isAgg419
 z173:=Tryz.sizeOf419
 v173:=Tryz.zeroValue419
 t175:=Tryz.underlying412
 a175:=Tryz.isAgg412
 z175:=Tryz.sizeOf412
 v175:=Tryz.zeroValue412
 t210:=Tryz.underlying416
 a210:=Tryz.isAgg416
 z210:=Tryz.sizeOf416
 v210:=Tryz.zeroValue416
 t212:=Tryz.underlying459
 a212:=Tryz.isAgg459
 z212:=Tryz.sizeOf459
 v212:=Tryz.zeroValue459
 t213:=Tryz.underlying460
 a213:=Tryz.isAgg460
 z213:=Tryz.sizeOf460
 t232:=Tryz.underlying39
 a232:=Tryz.isAgg39
 z232:=Tryz.sizeOf39
 v232:=Tryz.zeroValue39
 t233:=Tryz.underlying368
 a233:=Tryz.isAgg368
 z233:=Tryz.sizeOf368
 v233:=Tryz.zeroValue368
 g15:=by kernel_rfl
 g16:=by kernel_rfl
 g17:=by kernel_rfl
 g18:=by kernel_rfl
 g19:=by kernel_rfl
 t80:=Tryz.underlying482
 a80:=Tryz.isAgg482
 z80:=Tryz.sizeOf482
 v80:=Tryz.zeroValue482
 i0:=by kernel_rfl
 i2:=by kernel_rfl
 i3:=by kernel_rfl
 i4:=by kernel_rfl
 i5:=by kernel_rfl
 i9:=by kernel_rfl
 i20:=by kernel_rfl
 i21:=by kernel_rfl
 i37:=by kernel_rfl
 i46:=by kernel_rfl
 i51:=by kernel_rfl
 i53:=by kernel_rfl
 i75:=by kernel_rfl
 i76:=by kernel_rfl
 i80:=by kernel_rfl
 i85:=by kernel_rfl
 i127:=by kernel_rfl
 i143:=by kernel_rfl
 i145:=by kernel_rfl
 i167:=by kernel_rfl
 i168:=by kernel_rfl
 i171:=by kernel_rfl
 i173:=by kernel_rfl
 i175:=by kernel_rfl
 i210:=by kernel_rfl
 i212:=by kernel_rfl
 i232:=by kernel_rfl
 i233:=by kernel_rfl
 m15:=by kernel_rfl
 m16:=by kernel_rfl
 m17:=by kernel_rfl
 m18:=by kernel_rfl
 m19:=by kernel_rfl
 c0:=by kernel_rfl
 c2:=by kernel_rfl
 c3:=by kernel_rfl
 c4:=by kernel_rfl
 c5:=by kernel_rfl
 c9:=by kernel_rfl
 c20:=by kernel_rfl
 c21:=by kernel_rfl
 c37:=by kernel_rfl
 c46:=by kernel_rfl
 c51:=by kernel_rfl
 c53:=by kernel_rfl
 c75:=by kernel_rfl
 c76:=by kernel_rfl
 c80:=by kernel_rfl
 c85:=by kernel_rfl
 c127:=by kernel_rfl
 c143:=by kernel_rfl
 c145:=by kernel_rfl
 c167:=by kernel_rfl
 c168:=by kernel_rfl
 c171:=by kernel_rfl
 c173:=by kernel_rfl
 c175:=by kernel_rfl
 c210:=by kernel_rfl
 c212:=by kernel_rfl
 c213:=by kernel_rfl
 c232:=by kernel_rfl
 c233:=by kernel_rfl }
end Go.Proofs.YtpmhjnhgpplmnaaGreatDoor
end

section
namespace Go.Proofs.YtpmhjnhgpplmnaaGreatDoor
open Go Sx
set_option maxRecDepth 8000

def EVar (w:World):Prop:=(∃t p,w.var? Tryz.prog "strconv.ErrSyntax" =some #[.iface t p])∧∃t p,w.var? Tryz.prog "strconv.ErrRange" =some #[.iface t p]
theorem var_keep {w w':World} {s:String} {x:Array Value} (h:w.var? Tryz.prog s=some x) (hc:Chg [] w w'):w'.var? Tryz.prog s=some x:=by
 unfold World.var? at h ⊢
 cases hg:Tryz.prog.globalNamed s with
 | none=>rw [hg] at h;cases h
 | some g=>
   rw [hg] at h
   simp only [Option.bind_some] at h ⊢
   cases hh:w.heap[g]? with
   | none=>rw [hh] at h;simp at h
   | some o=>
     have hlt:=(Array.getElem?_eq_some_iff.1 hh).1
     rw [hc.block _ hlt (by simp),hh]
     rw [hh] at h
     exact h
theorem EVar.keep0 {w w':World} (h:EVar w) (hc:Chg [] w w'):EVar w':=by
 obtain ⟨⟨t,p,h1⟩,t2,p2,h2⟩:=h
 exact ⟨⟨t,p,var_keep h1 hc⟩,t2,p2,var_keep h2 hc⟩
theorem neqI_nil {T:TypeId} {m} (hT:Tryz.prog.underlying T=some (.interface m)) (U:TypeId) (v:Value) (x:Operand) (w:World):(eqlS .neq T x (.const .nilIface) (.iface U v) .nilIface).run Tryz.prog w=.ok (.bool true) w:=by
 have h2:∀d U v,(Op.equalIn (d+1) T (.iface U v) .nilIface).run Tryz.prog w=.ok false w:=fun d U v=>by simp [Op.equalIn,run_underlying hT]
 simp [eqlS,eqGuard,binOp,Op.equal,show Op.maxDepth=9999+1 from rfl,h2 9999]
theorem bytesW_chg (w:World) (e:TypeId) (s:ByteArray):Chg [] w (Lib.bytesWorld w e s):=by
 unfold Lib.bytesWorld
 have h1:Chg [] w (w.drew.alloc (.cells (Lib.bytesCells w e s) e)):=(Chg.drew [] w).trans (Chg.alloc _ _)
 have h2:Chg [w.heap.size] (w.drew.alloc (.cells (Lib.bytesCells w e s) e)) ((w.drew.alloc (.cells (Lib.bytesCells w e s) e)).freeze ⟨w.heap.size,(Lib.bytesCells w e s).size,none⟩ 1):=by
   refine ⟨by simp [World.freeze],by simp [World.freeze],by simp [World.freeze],by simp [World.freeze],fun k _ hk=>?_⟩
   simp only [World.freeze,Nat.succ_ne_zero,if_false,Array.getElem?_modify]
   rw [if_neg (by simpa using fun h=>hk (by simp [h]))]
 exact h1.trans' h2 (fun i hi=>.inl (by simp at hi;omega))
theorem atoi_spec (l:List UInt8) (hl:l.length≤281474976710656) (w:World) (hE:EVar w):
   Calls Tryz.prog 94 #[.string ⟨l.toArray⟩] w fun e w'=>Chg [] w w'∧((∃v,Lib.atoiAll l=.ok v∧e=.returned (.tuple #[.int .i64 v,.nilIface]))∨((∀v,Lib.atoiAll l≠ .ok v)∧∃v t p,e=.returned (.tuple #[.int .i64 v,.iface t p]))):=by
 have hsz:(⟨l.toArray⟩:ByteArray).size=l.length:=by show l.toArray.size=_;simp
 have hdl:(⟨l.toArray⟩:ByteArray).data.toList=l:=rfl
 obtain ⟨⟨t1,p1,h1⟩,t2,p2,h2⟩:=hE
 cases ha:Lib.atoiAll l with
 | ok v=>
   refine Calls.mono (Any.strconv_Atoi_ok laysAtoi ⟨l.toArray⟩ (by omega) v (by rw [hdl];exact ha) w) ?_
   rintro e w' ⟨rfl,hw⟩
   refine ⟨?_,.inl ⟨v,rfl,rfl⟩⟩
   rcases hw with rfl | ⟨t,rfl⟩
   · exact Chg.refl _ _
   · exact bytesW_chg _ _ _
 | range=>
   refine Calls.mono (Any.strconv_Atoi_range_var laysAtoi ⟨l.toArray⟩ (by omega) (by rw [hdl];exact ha) t2 p2 w h2) ?_
   rintro e w' ⟨N,rfl,_,_,hb⟩
   exact ⟨Chg.of_below hb,.inr ⟨fun v h=>(by cases h),_,_,_,rfl⟩⟩
 | _=>
   refine Calls.mono (Any.strconv_Atoi_syntax_var laysAtoi ⟨l.toArray⟩ (by omega) (by rw [hdl];exact ha) t1 p1 w h1) ?_
   rintro e w' ⟨N,rfl,_,_,hb⟩
   exact ⟨Chg.of_below hb,.inr ⟨fun v h=>(by cases h),_,_,_,rfl⟩⟩
theorem addSL (a b:List UInt8) (x y:Operand) (w:World) (h:a.length+b.length≤9223372036854775807):(eqlS .add 9 x y (.string ⟨a.toArray⟩) (.string ⟨b.toArray⟩)).run Tryz.prog w=.ok (.string ⟨(a++b).toArray⟩) w:=by
 have h2:((⟨a.toArray⟩:ByteArray).size:Int)+((⟨b.toArray⟩:ByteArray).size:Int)≤9223372036854775807:=by
   have e1:(⟨a.toArray⟩:ByteArray).size=a.length:=by show a.toArray.size=_;simp
   have e2:(⟨b.toArray⟩:ByteArray).size=b.length:=by show b.toArray.size=_;simp
   omega
 have e:(ByteArray.mk a.toArray++ByteArray.mk b.toArray)=ByteArray.mk (a++b).toArray:=by
   apply ByteArray.ext
   simp [ByteArray.data_append]
 rw [←e]
 simp [eqlS,eqGuard,binOp,Op.stringOp,h2]
theorem emptyS (l:List UInt8):((⟨l.toArray⟩:ByteArray).toList==(ByteArray.mk #[]).toList)=decide (l=[]):=by
 rw [ByteArray.toList_eq,ByteArray.toList_eq]
 cases l<;>simp
theorem sameS (l m:List UInt8):((⟨l.toArray⟩:ByteArray).toList==(⟨m.toArray⟩:ByteArray).toList)=decide (l=m):=by
 rw [ByteArray.toList_eq,ByteArray.toList_eq]
 show (l==m)=decide (l=m)
 by_cases h:l=m<;>simp [h]

end Go.Proofs.YtpmhjnhgpplmnaaGreatDoor
end

section
namespace Go.Proofs.YtpmhjnhgpplmnaaGreatDoor
open Go Go.Proofs.YtpmhjnhgpplmnaaGreatDoor.Sx

set_option maxRecDepth 100000
theorem catalog_GoodName_vc (a0:ByteArray) (w:World) (R:Ending→World→Prop) (h:∃(I:Int→World→Prop) (μ:Int→World→Nat),I 0 w∧(∀x6,∀w1,I x6 w1→((decide (x6<(a0.size:Int))=true→(∃J:Bool→World→Prop,(∃t11,(Instr.index 9 (.string a0) (.int .i64 x6)).run Tryz.prog w1=.ok (.int .u8 t11) w1∧((decide (t11<(33:Int))=true→(J true w1))∧(decide (t11<(33:Int))=false→(∃t16,(Instr.index 9 (.string a0) (.int .i64 x6)).run Tryz.prog w1=.ok (.int .u8 t16) w1∧(J (decide (t16>(126:Int))) w1)))))∧(∀x18,∀w2,J x18 w2→((x18=true→(R (.returned (.bool false)) w2))∧(x18=false→(I (IntKind.wrap .i64 (x6+1)) w2∧μ (IntKind.wrap .i64 (x6+1)) w2<μ x6 w1))))))∧(decide (x6<(a0.size:Int))=false→(R (.returned (.bool ((!(a0.toList==(ByteArray.mk #[]).toList))&&(decide ((a0.size:Int)≤(32:Int)))))) w1))))):Calls Tryz.prog 28 #[(.string a0)] w R:=calls_of_ev2 (tc:=.sq [.rg 1,.seq (.rg 3) (.blk (.loop (lr [(2,2),(6,14)]) [6] [.int .i64] (.sq [.rg 1,.cond .leaf .leaf,.blk (.sq [.rg 2,.join (lr [(9,10)]) [18] [.bool] (.reg (.pp 2 (.op (.ld (.int .u8)) (.pp 2 (.sp 13 (.pp 5 .nil) (.pp 2 (.op (.ld (.int .u8)) (.pp 2 .nil))))))))] (.cond (.seq (.rg 1) .leaf) .leaf))] (.rg 2)))),.reg (.pp 3 (.ap 3 (.op .p .nil)))] .leaf) Tryz.func28 (by kernel_rfl) (by kernel_rfl) h

theorem catalog_goodSnapshot_vc (a0:Array Value) (w:World) (R:Ending→World→Prop) (h:∃g1 w1,(Instr.box 89 (.agg a0)).run Tryz.prog w=.ok (.pointer (some ⟨g1,0,none⟩)) w1∧(∃t4,LdQ 9 g1 0 (.string t4) w1∧(Calls Tryz.prog 28 #[(.string t4)] w1 fun e5 w2=>∃t5,e5=.returned (.bool t5)∧((t5=true→(∃t8,LdQ 3 g1 1 (.int .i64 t8) w2∧(((decide (t8≥((-1099511627776):Int)))=true→(∃t13,LdQ 3 g1 1 (.int .i64 t13) w2∧((decide (t13≤(1099511627776:Int))=true→(∃t18,LdQ 3 g1 2 (.int .i64 t18) w2∧((decide (t18≥(0:Int))=true→(∃t23,LdQ 3 g1 3 (.int .i64 t23) w2∧((decide (t23≥(0:Int))=true→(∃t28,LdQ 3 g1 3 (.int .i64 t28) w2∧(R (.returned (.bool (decide (t28≤(65536:Int))))) w2)))∧(decide (t23≥(0:Int))=false→(R (.returned (.bool false)) w2)))))∧(decide (t18≥(0:Int))=false→(R (.returned (.bool false)) w2)))))∧(decide (t13≤(1099511627776:Int))=false→(R (.returned (.bool false)) w2)))))∧((decide (t8≥((-1099511627776):Int)))=false→(R (.returned (.bool false)) w2)))))∧(t5=false→(R (.returned (.bool false)) w2)))))):Calls Tryz.prog 106 #[(.agg a0)] w R:=calls_of_ev2 (tc:=.sq [.reg (.op .bx (.op .p .nil)),.reg (.op .p (.op (.ld .str) (.op (.cl [.bool]) (.op .p (.sp 6 (.op .p (.op (.ld (.int .i64)) (.pp 3 (.sp 11 (.op .p (.op (.ld (.int .i64)) (.pp 3 (.sp 16 (.op .p (.op (.ld (.int .i64)) (.pp 3 (.sp 21 (.op .p (.op (.ld (.int .i64)) (.pp 3 (.sp 26 (.op .p (.op (.ld (.int .i64)) (.pp 3 .nil))) (.pp 5 .nil))))) (.pp 10 .nil))))) (.pp 15 .nil))))) (.pp 20 .nil))))) (.pp 25 .nil))))))] .leaf) Tryz.func106 (by kernel_rfl) (by kernel_rfl) h

theorem catalog_Check_vc (a0:Array Value) (w:World) (R:Ending→World→Prop) (h:∃g1 w1,(Instr.box 47 (.agg a0)).run Tryz.prog w=.ok (.pointer (some ⟨g1,0,none⟩)) w1∧(∃J:Bool→World→Prop,(∃t9,LdQ 3 g1 0 (.int .i64 t9) w1∧((decide (t9<(1:Int))=true→(J true w1))∧(decide (t9<(1:Int))=false→(∃t13,LdQ 3 g1 0 (.int .i64 t13) w1∧((decide (t13>(1099511627776:Int))=true→(J true w1))∧(decide (t13>(1099511627776:Int))=false→(∃t18,LdQ 3 g1 1 (.int .i64 t18) w1∧((decide (t18<(0:Int))=true→(J true w1))∧(decide (t18<(0:Int))=false→(∃t23,LdQ 3 g1 1 (.int .i64 t23) w1∧((decide (t23>(1099511627776:Int))=true→(J true w1))∧(decide (t23>(1099511627776:Int))=false→(∃t28,LdQ 44 g1 2 (.agg t28) w1∧(Calls Tryz.prog 105 #[(.agg t28)] w1 fun e29 w2=>∃t29,e29=.returned t29∧(∃t30,(eqlS .neq 58 (.tmp 29) (.const .nilIface) t29 .nilIface).run Tryz.prog w2=.ok (.bool t30) w2∧((t30=true→(J true w2))∧(t30=false→(∃t34a t34n t34c,LdQ 25 g1 7 (.slice t34a t34n t34c) w2∧((decide ((t34n:Int)>(64:Int))=true→(J true w2))∧(decide ((t34n:Int)>(64:Int))=false→(∃t40a t40n t40c,LdQ 45 g1 8 (.slice t40a t40n t40c) w2∧(J (decide ((t40n:Int)>(1024:Int))) w2))))))))))))))))))))))∧(∀x43,∀w3,J x43 w3→((x43=true→(R (.returned (.iface 65 (.int .i64 28))) w3))∧(x43=false→(∃t46a t46n t46c,LdQ 25 g1 7 (.slice t46a t46n t46c) w3∧(∃(I:Int→World→Prop) (μ:Int→World→Nat),I 0 w3∧(∀x48,∀w4,I x48 w4→((decide (x48<(t46n:Int))=true→(∃t51b t51o,t46a=some ⟨t51b,t51o,none⟩∧0≤x48∧x48<(t46n:Int)∧(∃t52,LdQ 89 t51b (t51o+Int.toNat x48*36) (.agg t52) w4∧(∃g4 w5,AlQ 89 g4 w4 w5∧(∃w6,StQ 89 g4 0 (.agg t52) w5 w6∧(∃J_1:Bool→World→Prop,(∃S:World→Prop,S w6.drew∧(∃t53,(∀w',S w'→LdQ 89 g4 0 (.agg t53) w')∧(Calls Tryz.prog 106 #[(.agg t53)] w6.drew fun e54 w7=>∃t54,e54=.returned (.bool t54)∧(∃S_1:World→Prop,(∀w',S_1 w'→S w')∧S_1 w7∧(((!t54)=true→(J_1 true w7))∧((!t54)=false→((decide (x48>(0:Int))=true→(∃t61a t61n t61c,(∀w',S_1 w'→LdQ 25 g1 7 (.slice t61a t61n t61c) w')∧(∃t64b t64o,t61a=some ⟨t64b,t64o,none⟩∧0≤(IntKind.wrap .i64 (x48- (1:Int)))∧(IntKind.wrap .i64 (x48- (1:Int)))<(t61n:Int)∧(∃t66,(∀w',S_1 w'→LdQ 9 t64b (t64o+Int.toNat (IntKind.wrap .i64 (x48- (1:Int)))*36) (.string t66) w')∧(∃t68,(∀w',S_1 w'→LdQ 9 g4 0 (.string t68) w')∧(∃t69,(∀w',S_1 w'→(eqlS .geq 9 (.tmp 66) (.tmp 68) (.string t66) (.string t68)).run Tryz.prog w'=.ok (.bool t69) w')∧(J_1 t69 w7)))))))∧(decide (x48>(0:Int))=false→(J_1 false w7)))))))))∧(∀x71,∀w8,J_1 x71 w8→((x71=true→(R (.returned (.iface 65 (.int .i64 28))) w8))∧(x71=false→(I (IntKind.wrap .i64 (x48+1)) w8∧μ (IntKind.wrap .i64 (x48+1)) w8<μ x48 w4))))))))))∧(decide (x48<(t46n:Int))=false→(∃t75a t75n t75c,LdQ 45 g1 8 (.slice t75a t75n t75c) w4∧(∃(I_1:Int→Int→World→Prop) (μ_1:Int→Int→World→Nat),I_1 (-1) 0 w4∧(∀x5 x77,∀w9,I_1 x5 x77 w9→((decide (x77<(t75n:Int))=true→(∃t79b t79o,t75a=some ⟨t79b,t79o,none⟩∧0≤x77∧x77<(t75n:Int)∧(∃t80,LdQ 91 t79b (t79o+Int.toNat x77*3) (.agg t80) w9∧(∃g7 w10,AlQ 91 g7 w9 w10∧(∃w11,StQ 91 g7 0 (.agg t80) w10 w11∧(∃J_1:Bool→World→Prop,(∃t82,LdQ 3 g7 0 (.int .i64 t82) w11∧((decide (t82≤x5)=true→(J_1 true w11))∧(decide (t82≤x5)=false→(∃t87,LdQ 3 g7 0 (.int .i64 t87) w11∧(∃t89,LdQ 3 g1 1 (.int .i64 t89) w11∧((decide (t87≥t89)=true→(J_1 true w11))∧(decide (t87≥t89)=false→(∃t94,LdQ 3 g7 1 (.int .i64 t94) w11∧((decide (t94<(0:Int))=true→(J_1 true w11))∧(decide (t94<(0:Int))=false→(∃t99,LdQ 3 g7 2 (.int .i64 t99) w11∧(J_1 (decide (t99<(0:Int))) w11))))))))))))∧(∀x101,∀w12,J_1 x101 w12→((x101=true→(R (.returned (.iface 65 (.int .i64 28))) w12))∧(x101=false→(∃t104,LdQ 3 g7 0 (.int .i64 t104) w12∧(I_1 t104 (IntKind.wrap .i64 (x77+1)) w12∧μ_1 t104 (IntKind.wrap .i64 (x77+1)) w12<μ_1 x5 x77 w9)))))))))))∧(decide (x77<(t75n:Int))=false→(R (.returned .nilIface) w9)))))))))))))))):Calls Tryz.prog 38 #[(.agg a0)] w R:=calls_of_ev2 (tc:=.sq [.reg (.op .bx (.op .p .nil)),.seq (.join (lr [(8,36)]) [43] [.bool] (.reg (.op .p (.op (.ld (.int .i64)) (.pp 2 (.sp 11 (.pp 32 .nil) (.op .p (.op (.ld (.int .i64)) (.pp 3 (.sp 16 (.pp 27 .nil) (.op .p (.op (.ld (.int .i64)) (.pp 3 (.sp 21 (.pp 22 .nil) (.op .p (.op (.ld (.int .i64)) (.pp 3 (.sp 26 (.pp 17 .nil) (.op .p (.op (.ld .agg) (.op (.cl [.val]) (.op (.ld .bool) (.pp 2 (.sp 32 (.pp 11 .nil) (.op .p (.op (.ld .slice) (.pp 4 (.sp 38 (.pp 5 .nil) (.op .p (.op (.ld .slice) (.pp 3 .nil))))))))))))))))))))))))))))))) (.cond (.seq (.rg 2) .leaf) .leaf),.seq (.reg (.op .p (.op (.ld .slice) (.pp 2 .nil)))) (.blk (.loop (lr [(2,3),(48,26)]) [48] [.int .i64] (.sq [.rg 1,.cond .leaf .leaf,.blk (.sq [.reg (.op .p (.op .ix (.op (.ld .agg) (.op .bx (.op .p (.op .u .nil)))))),.join (lr [(53,19)]) [71] [.bool] (.drawS (.ts 0 .agg (.go 1 (.cl [.bool]) (.tks [2,3] (.sp 56 (.tks [4,5,6,7,9,10,14] (.ts 8 .val (.tks [11,12] (.ts 13 .val (.ts 15 .val (.ts 16 .val (.tks [17,18] .nil))))))) (.tks [4,5,6] (.sp 59 (.tks [7,9,10,14] (.ts 8 .slice (.tk 11 .ix (.tk 12 .p (.ts 13 .str (.ts 15 .str (.ts 16 .bool (.tks [17,18] .nil)))))))) (.tks [7,9,10,14] (.ts 8 .val (.tks [11,12] (.ts 13 .val (.ts 15 .val (.ts 16 .val (.tks [17,18] .nil))))))))))))) [])] (.cond (.seq (.rg 2) .leaf) .leaf))] (.rg 2)))),.rg 1,.seq (.reg (.op .p (.op (.ld .slice) (.pp 2 .nil)))) (.blk (.loop (lr [(2,1),(5,1),(7,1),(77,29)]) [5,77] [.int .i64,.int .i64] (.sq [.rg 1,.cond .leaf .leaf,.blk (.sq [.reg (.op .ix (.op (.ld .agg) (.op .bx (.op .u .nil)))),.seq (.join (lr [(81,21)]) [101] [.bool] (.reg (.op .p (.op (.ld (.int .i64)) (.pp 3 (.sp 85 (.pp 16 .nil) (.op .p (.op (.ld (.int .i64)) (.op .p (.op (.ld (.int .i64)) (.pp 3 (.sp 92 (.pp 9 .nil) (.op .p (.op (.ld (.int .i64)) (.pp 3 (.sp 97 (.pp 4 .nil) (.op .p (.op (.ld (.int .i64)) (.pp 2 .nil))))))))))))))))))) (.cond (.seq (.rg 2) .leaf) .leaf)] (.reg (.op .p (.op (.ld (.int .i64)) (.op .p .nil)))))] (.rg 2)))),.rg 1] .leaf) Tryz.func38 (by kernel_rfl) (by kernel_rfl) h

theorem catalog_bytes_vars_vc (a0b:Nat) (a0o:Nat) (a1a:Option Addr) (a1n:Nat) (a1c:Nat) (w:World) (R:Ending→World→Prop) (h:∃(I:Int→World→Prop) (μ:Int→World→Nat),I 0 w∧(∀x8,∀w1,I x8 w1→((decide (x8<(a1n:Int))=true→(∃t10b t10o,a1a=some ⟨t10b,t10o,none⟩∧0≤x8∧x8<(a1n:Int)∧(∃t11,LdQ 3 t10b (t10o+Int.toNat x8*1) (.int .i64 t11) w1∧(∃S:World→Prop,S w1.drew∧(∃t15a t15n t15c,(∀w',S w'→LdQ 185 a0b a0o (.slice t15a t15n t15c) w')∧(Calls Tryz.prog 197 #[(.int .i64 t11)] w1.drew fun e17 w2=>∃t17a t17n t17c,e17=.returned (.slice t17a t17n t17c)∧(∃S_1:World→Prop,(∀w',S_1 w'→S w')∧S_1 w2∧(∃t18a t18n t18c w3,(Builtin.append_ #[185,26] 185 #[(.slice t15a t15n t15c),(.slice t17a t17n t17c)]).run Tryz.prog w2=.ok (.slice t18a t18n t18c) w3∧(∃S_2:World→Prop,(∀w',S_2 w'→S_1 w')∧S_2 w3∧(∃w4,StQ 185 a0b a0o (.slice t18a t18n t18c) w3 w4∧(I (IntKind.wrap .i64 (x8+1)) w4∧μ (IntKind.wrap .i64 (x8+1)) w4<μ x8 w1)))))))))))∧(decide (x8<(a1n:Int))=false→(R (.returned (.tuple #[])) w1))))):Calls Tryz.prog 99 #[(.pointer (some ⟨a0b,a0o,none⟩)),(.slice a1a a1n a1c)] w R:=calls_of_ev2 (tc:=.seq (.rg 3) (.blk (.loop (lr [(5,1),(8,13)]) [8] [.int .i64] (.sq [.rg 1,.cond .leaf .leaf,.blk (.seq (.reg (.op .ix (.op (.ld (.int .i64)) (.op .p .nil)))) (.drawS (.tks [0,1,2,4] (.ts 3 .slice (.go 5 (.cl [.slice]) (.go 6 (.r .slice) (.tk 7 .p (.go 8 .u .nil)))))) [8]))] (.rg 2))))) Tryz.func99 (by kernel_rfl) (by kernel_rfl) h

theorem catalog_bytes_nums_vc (a0b:Nat) (a0o:Nat) (a1a:Option Addr) (a1n:Nat) (a1c:Nat) (w:World) (R:Ending→World→Prop) (h:∃(I:Int→World→Prop) (μ:Int→World→Nat),I 0 w∧(∀x8,∀w1,I x8 w1→((decide (x8<(a1n:Int))=true→(∃t10b t10o,a1a=some ⟨t10b,t10o,none⟩∧0≤x8∧x8<(a1n:Int)∧(∃t11,LdQ 3 t10b (t10o+Int.toNat x8*1) (.int .i64 t11) w1∧(∃S:World→Prop,S w1.drew∧(∃t15a t15n t15c,(∀w',S w'→LdQ 185 a0b a0o (.slice t15a t15n t15c) w')∧(Calls Tryz.prog 196 #[(.int .i64 t11)] w1.drew fun e17 w2=>∃t17a t17n t17c,e17=.returned (.slice t17a t17n t17c)∧(∃S_1:World→Prop,(∀w',S_1 w'→S w')∧S_1 w2∧(∃t18a t18n t18c w3,(Builtin.append_ #[185,26] 185 #[(.slice t15a t15n t15c),(.slice t17a t17n t17c)]).run Tryz.prog w2=.ok (.slice t18a t18n t18c) w3∧(∃S_2:World→Prop,(∀w',S_2 w'→S_1 w')∧S_2 w3∧(∃w4,StQ 185 a0b a0o (.slice t18a t18n t18c) w3 w4∧(I (IntKind.wrap .i64 (x8+1)) w4∧μ (IntKind.wrap .i64 (x8+1)) w4<μ x8 w1)))))))))))∧(decide (x8<(a1n:Int))=false→(R (.returned (.tuple #[])) w1))))):Calls Tryz.prog 98 #[(.pointer (some ⟨a0b,a0o,none⟩)),(.slice a1a a1n a1c)] w R:=calls_of_ev2 (tc:=.seq (.rg 3) (.blk (.loop (lr [(5,1),(8,13)]) [8] [.int .i64] (.sq [.rg 1,.cond .leaf .leaf,.blk (.seq (.reg (.op .ix (.op (.ld (.int .i64)) (.op .p .nil)))) (.drawS (.tks [0,1,2,4] (.ts 3 .slice (.go 5 (.cl [.slice]) (.go 6 (.r .slice) (.tk 7 .p (.go 8 .u .nil)))))) [8]))] (.rg 2))))) Tryz.func98 (by kernel_rfl) (by kernel_rfl) h

theorem catalog_Encode_vc (a0:Array Value) (a1:Array Value) (w:World) (R:Ending→World→Prop) (h:∃g2 w1,(Instr.box 41 (.agg a0)).run Tryz.prog w=.ok (.pointer (some ⟨g2,0,none⟩)) w1∧(∃g3 w2,(Instr.box 47 (.agg a1)).run Tryz.prog w1=.ok (.pointer (some ⟨g3,0,none⟩)) w2∧(∃t12,LdQ 47 g3 0 (.agg t12) w2∧(Calls Tryz.prog 38 #[(.agg t12)] w2 fun e13 w3=>∃t13,e13=.returned t13∧(∃t15,(eqlS .neq 58 (.tmp 14) (.const .nilIface) t13 .nilIface).run Tryz.prog w3=.ok (.bool t15) w3∧((t15=true→(R (.returned (.tuple #[(.slice none 0 0),t13])) w3))∧(t15=false→(∃g7 w4,AlQ 185 g7 w3 w4∧(∃t18,LdQ 3 g3 0 (.int .i64 t18) w4∧(∃t20,LdQ 3 g3 1 (.int .i64 t20) w4∧(∃t23,LdQ 42 g3 2 (.int .u64 t23) w4∧(∃t25a t25n t25c w5,(Instr.buildSlice 29 3 #[(0,(.int .i64 t18)),(1,(.int .i64 t20)),(2,(.int .i64 (IntKind.wrap .i64 t23)))]).run Tryz.prog w4=.ok (.slice t25a t25n t25c) w5∧(Calls Tryz.prog 98 #[(.pointer (some ⟨g7,0,none⟩)),(.slice t25a t25n t25c)] w5 fun e26 w6=>e26=.returned (.tuple #[])∧(∃t29,LdQ 3 g3 3 (.int .i64 t29) w6∧(∃t32,LdQ 3 g3 4 (.int .i64 t32) w6∧(∃t35,LdQ 3 g3 5 (.int .i64 t35) w6∧(∃t38,LdQ 3 g3 6 (.int .i64 t38) w6∧(∃t40a t40n t40c,LdQ 25 g3 7 (.slice t40a t40n t40c) w6∧(∃t42a t42n t42c w7,(Instr.buildSlice 29 5 #[(0,(.int .i64 t29)),(1,(.int .i64 t32)),(2,(.int .i64 t35)),(3,(.int .i64 t38)),(4,(.int .i64 (t40n:Int)))]).run Tryz.prog w6=.ok (.slice t42a t42n t42c) w7∧(Calls Tryz.prog 99 #[(.pointer (some ⟨g7,0,none⟩)),(.slice t42a t42n t42c)] w7 fun e43 w8=>e43=.returned (.tuple #[])∧(∃t45a t45n t45c,LdQ 25 g3 7 (.slice t45a t45n t45c) w8∧(∃(I:Int→World→Prop) (μ:Int→World→Nat),I 0 w8∧(∀x47,∀w9,I x47 w9→((decide (x47<(t45n:Int))=true→(∃t49b t49o,t45a=some ⟨t49b,t49o,none⟩∧0≤x47∧x47<(t45n:Int)∧(∃t50,LdQ 89 t49b (t49o+Int.toNat x47*36) (.agg t50) w9∧(∃g9 w10,AlQ 89 g9 w9 w10∧(∃w11,StQ 89 g9 0 (.agg t50) w10 w11∧(∃S:World→Prop,S w11.drew∧(∃t51a t51n t51c,(∀w',S w'→LdQ 185 g7 0 (.slice t51a t51n t51c) w')∧(∃t53,(∀w',S w'→LdQ 9 g9 0 (.string t53) w')∧(∃t54a t54n t54c w12,(convert 9 26 (.string t53)).run Tryz.prog w11.drew=.ok (.slice t54a t54n t54c) w12∧(∃S_1:World→Prop,(∀w',S_1 w'→S w')∧S_1 w12∧(∃t55a t55n t55c w13,(Instr.buildSlice 24 1 #[(0,(.slice t54a t54n t54c))]).run Tryz.prog w12=.ok (.slice t55a t55n t55c) w13∧(∃S_2:World→Prop,(∀w',S_2 w'→S_1 w')∧S_2 w13∧(Calls Tryz.prog 100 #[(.slice t55a t55n t55c)] w13 fun e56 w14=>∃t56a t56n t56c,e56=.returned (.slice t56a t56n t56c)∧(∃S_3:World→Prop,(∀w',S_3 w'→S_2 w')∧S_3 w14∧(∃t57a t57n t57c w15,(Builtin.append_ #[185,26] 185 #[(.slice t51a t51n t51c),(.slice t56a t56n t56c)]).run Tryz.prog w14=.ok (.slice t57a t57n t57c) w15∧(∃S_4:World→Prop,(∀w',S_4 w'→S_3 w')∧S_4 w15∧(∃w16,StQ 185 g7 0 (.slice t57a t57n t57c) w15 w16∧(∃t59,LdQ 3 g9 1 (.int .i64 t59) w16∧(∃t60a t60n t60c w17,(Instr.buildSlice 29 1 #[(0,(.int .i64 t59))]).run Tryz.prog w16=.ok (.slice t60a t60n t60c) w17∧(Calls Tryz.prog 98 #[(.pointer (some ⟨g7,0,none⟩)),(.slice t60a t60n t60c)] w17 fun e61 w18=>e61=.returned (.tuple #[])∧(∃t63,LdQ 3 g9 2 (.int .i64 t63) w18∧(∃t65,LdQ 3 g9 3 (.int .i64 t65) w18∧(∃t66a t66n t66c w19,(Instr.buildSlice 29 2 #[(0,(.int .i64 t63)),(1,(.int .i64 t65))]).run Tryz.prog w18=.ok (.slice t66a t66n t66c) w19∧(Calls Tryz.prog 99 #[(.pointer (some ⟨g7,0,none⟩)),(.slice t66a t66n t66c)] w19 fun e67 w20=>e67=.returned (.tuple #[])∧(∃S_5:World→Prop,S_5 w20.drew∧(0≤(32:Int)∧(32:Int)≤(32:Int)∧(∃t68a t68n t68c,(∀w',S_5 w'→LdQ 185 g7 0 (.slice t68a t68n t68c) w')∧(∃t71a t71n t71c w21,(Builtin.append_ #[185,26] 185 #[(.slice t68a t68n t68c),(.slice (some ⟨g9,4,none⟩) (32) 32)]).run Tryz.prog w20.drew=.ok (.slice t71a t71n t71c) w21∧(∃S_6:World→Prop,(∀w',S_6 w'→S_5 w')∧S_6 w21∧(∃w22,StQ 185 g7 0 (.slice t71a t71n t71c) w21 w22∧(I (IntKind.wrap .i64 (x47+1)) w22∧μ (IntKind.wrap .i64 (x47+1)) w22<μ x47 w9)))))))))))))))))))))))))))))))∧(decide (x47<(t45n:Int))=false→(∃t74a t74n t74c,LdQ 45 g3 8 (.slice t74a t74n t74c) w9∧(∃t76a t76n t76c w23,(Instr.buildSlice 29 1 #[(0,(.int .i64 (t74n:Int)))]).run Tryz.prog w9=.ok (.slice t76a t76n t76c) w23∧(Calls Tryz.prog 99 #[(.pointer (some ⟨g7,0,none⟩)),(.slice t76a t76n t76c)] w23 fun e77 w24=>e77=.returned (.tuple #[])∧(∃t79a t79n t79c,LdQ 45 g3 8 (.slice t79a t79n t79c) w24∧(∃(I_1:Int→World→Prop) (μ_1:Int→World→Nat),I_1 0 w24∧(∀x81,∀w25,I_1 x81 w25→((decide (x81<(t79n:Int))=true→(∃t83b t83o,t79a=some ⟨t83b,t83o,none⟩∧0≤x81∧x81<(t79n:Int)∧(∃t84,LdQ 91 t83b (t83o+Int.toNat x81*3) (.agg t84) w25∧(∃g11 w26,AlQ 91 g11 w25 w26∧(∃w27,StQ 91 g11 0 (.agg t84) w26 w27∧(∃t86,LdQ 3 g11 0 (.int .i64 t86) w27∧(∃t88,LdQ 3 g11 1 (.int .i64 t88) w27∧(∃t90,LdQ 3 g11 2 (.int .i64 t90) w27∧(∃t91a t91n t91c w28,(Instr.buildSlice 29 3 #[(0,(.int .i64 t86)),(1,(.int .i64 t88)),(2,(.int .i64 t90))]).run Tryz.prog w27=.ok (.slice t91a t91n t91c) w28∧(Calls Tryz.prog 99 #[(.pointer (some ⟨g7,0,none⟩)),(.slice t91a t91n t91c)] w28 fun e92 w29=>e92=.returned (.tuple #[])∧(I_1 (IntKind.wrap .i64 (x81+1)) w29∧μ_1 (IntKind.wrap .i64 (x81+1)) w29<μ_1 x81 w25)))))))))))∧(decide (x81<(t79n:Int))=false→(∃t94,LdQ 41 g2 0 (.agg t94) w25∧(∃t95a t95n t95c w30,(Instr.buildSlice 26 7 #[(0,(.int .u8 99)),(1,(.int .u8 97)),(2,(.int .u8 116)),(3,(.int .u8 97)),(4,(.int .u8 108)),(5,(.int .u8 111)),(6,(.int .u8 103))]).run Tryz.prog w25=.ok (.slice t95a t95n t95c) w30∧(∃t96a t96n t96c w31,(convert 26 26 (.slice t95a t95n t95c)).run Tryz.prog w30=.ok (.slice t96a t96n t96c) w31∧(∃t97a t97n t97c,LdQ 185 g7 0 (.slice t97a t97n t97c) w31∧(Calls Tryz.prog 101 #[(.agg t94),(.int .u8 4),(.slice t96a t96n t96c),(.slice t97a t97n t97c)] w31 fun e98 w32=>∃t98a t98n t98c,e98=.returned (.slice t98a t98n t98c)∧(R (.returned (.tuple #[(.slice t98a t98n t98c),.nilIface])) w32))))))))))))))))))))))))))))))))))))))):Calls Tryz.prog 35 #[(.agg a0),(.agg a1)] w R:=calls_of_ev2 (tc:=.sq [.reg (.op .bx (.op .bx (.pp 2 .nil))),.sq [.reg (.op (.ld .agg) (.op (.cl [.val]) (.op .p .nil))),.reg (.op .p (.op (.ld .bool) .nil))] (.cond (.seq (.rg 3) .leaf) .leaf),.reg (.op .bx .nil),.reg (.op .p (.op (.ld (.int .i64)) (.op .p (.op (.ld (.int .i64)) (.pp 2 (.op (.ld (.int .u64)) (.op .p (.op (.r .slice) (.op (.cl []) .nil))))))))),.reg (.pp 2 (.op (.ld (.int .i64)) (.pp 2 (.op (.ld (.int .i64)) (.pp 2 (.op (.ld (.int .i64)) (.pp 2 (.op (.ld (.int .i64)) (.op .p (.op (.ld .slice) (.op .p (.op (.r .slice) (.op (.cl []) .nil))))))))))))),.seq (.reg (.op .p (.op (.ld .slice) (.pp 2 .nil)))) (.blk (.loop (lr [(9,1),(47,26)]) [47] [.int .i64] (.sq [.rg 1,.cond .leaf .leaf,.blk (.sq [.reg (.op .ix (.op (.ld .agg) (.op .bx (.op .u .nil)))),.drawS (.tk 1 .p (.ts 0 .slice (.ts 2 .str (.go 3 (.r .slice) (.go 4 (.r .slice) (.go 5 (.cl [.slice]) (.go 6 (.r .slice) (.go 7 .u .nil)))))))) [7],.reg (.op .p (.op (.ld (.int .i64)) (.op (.r .slice) (.op (.cl []) .nil)))),.reg (.op .p (.op (.ld (.int .i64)) (.op .p (.op (.ld (.int .i64)) (.op (.r .slice) (.op (.cl []) .nil))))))] (.drawS (.tk 1 .p (.tk 2 .sl (.ts 0 .slice (.go 3 (.r .slice) (.go 4 .u .nil))))) [4]))] (.rg 2)))),.reg (.op .p (.op (.ld .slice) (.op .p (.op (.r .slice) (.op (.cl []) .nil))))),.seq (.reg (.op .p (.op (.ld .slice) (.pp 2 .nil)))) (.blk (.loop (lr [(11,1),(81,13)]) [81] [.int .i64] (.sq [.rg 1,.cond .leaf .leaf,.blk (.seq (.reg (.op .ix (.op (.ld .agg) (.op .bx (.op .u .nil))))) (.reg (.op .p (.op (.ld (.int .i64)) (.op .p (.op (.ld (.int .i64)) (.op .p (.op (.ld (.int .i64)) (.op (.r .slice) (.op (.cl []) .nil))))))))))] (.rg 2)))),.reg (.op (.ld .agg) (.op (.r .slice) (.op (.r .slice) (.op (.ld .slice) (.op (.cl [.slice]) (.pp 2 .nil))))))] .leaf) Tryz.func35 (by kernel_rfl) (by kernel_rfl) h

theorem catalog_reader_snapshot_vc (a0:Array Value) (w:World) (R:Ending→World→Prop) (h:∃g1 w1,(Instr.box 201 (.agg a0)).run Tryz.prog w=.ok (.pointer (some ⟨g1,0,none⟩)) w1∧(∃g2 w2,AlQ 89 g2 w1 w2∧(∃J:Nat→Nat→World→Prop,(∃S:World→Prop,S w2.drew∧(∃t5b t5o,(∀w',S w'→LdQ 198 g1 0 (.pointer (some ⟨t5b,t5o,none⟩)) w')∧(∃t9b t9o,(∀w',S w'→LdQ 198 g1 0 (.pointer (some ⟨t9b,t9o,none⟩)) w')∧(∃t12b t12o,(∀w',S w'→LdQ 198 g1 0 (.pointer (some ⟨t12b,t12o,none⟩)) w')∧(∃t15b t15o,(∀w',S w'→LdQ 198 g1 0 (.pointer (some ⟨t15b,t15o,none⟩)) w')∧((Calls Tryz.prog 212 #[(.pointer (some ⟨t5b,t5o,none⟩))] w2.drew fun e6 w3=>∃t6a t6n t6c,e6=.returned (.slice t6a t6n t6c)∧(∃S_1:World→Prop,(∀w',S_1 w'→S w')∧S_1 w3∧(∃t7,(∀w',S_1 w'→(convert 26 9 (.slice t6a t6n t6c)).run Tryz.prog w'=.ok (.string t7) w')∧((Calls Tryz.prog 113 #[(.pointer (some ⟨t9b,t9o,none⟩))] w3 fun e10 w4=>∃t10,e10=.returned (.int .i64 t10)∧(∃S_2:World→Prop,(∀w',S_2 w'→S_1 w')∧S_2 w4∧((Calls Tryz.prog 114 #[(.pointer (some ⟨t12b,t12o,none⟩))] w4 fun e13 w5=>∃t13,e13=.returned (.int .i64 t13)∧(∃S_3:World→Prop,(∀w',S_3 w'→S_2 w')∧S_3 w5∧((Calls Tryz.prog 114 #[(.pointer (some ⟨t15b,t15o,none⟩))] w5 fun e16 w6=>∃t16,e16=.returned (.int .i64 t16)∧(∃S_4:World→Prop,(∀w',S_4 w'→S_3 w')∧S_4 w6∧(∃t17,(∀w',S_4 w'→(Instr.build 89 #[(0,(.string t7)),(1,(.int .i64 t10)),(2,(.int .i64 t13)),(3,(.int .i64 t16))]).run Tryz.prog w'=.ok (.agg t17) w')∧(∃g3 w7,AlQ 89 g3 w6 w7∧(∃S_5:World→Prop,(∀w',S_5 w'→S_4 w')∧S_5 w7∧(∃w8,StQ 89 g3 0 (.agg t17) w7 w8∧(J g3 0 w8)))))))∧(∃g3 w9,AlQ 89 g3 w5 w9∧(∃S_4:World→Prop,(∀w',S_4 w'→S_3 w')∧S_4 w9∧(Calls Tryz.prog 114 #[(.pointer (some ⟨t15b,t15o,none⟩))] w9 fun e16 w10=>∃t16,e16=.returned (.int .i64 t16)∧(∃S_5:World→Prop,(∀w',S_5 w'→S_4 w')∧S_5 w10∧(∃t17,(∀w',S_5 w'→(Instr.build 89 #[(0,(.string t7)),(1,(.int .i64 t10)),(2,(.int .i64 t13)),(3,(.int .i64 t16))]).run Tryz.prog w'=.ok (.agg t17) w')∧(∃w11,StQ 89 g3 0 (.agg t17) w10 w11∧(J g3 0 w11))))))))))∧(∃g3 w12,AlQ 89 g3 w4 w12∧(∃S_3:World→Prop,(∀w',S_3 w'→S_2 w')∧S_3 w12∧(Calls Tryz.prog 114 #[(.pointer (some ⟨t12b,t12o,none⟩))] w12 fun e13 w13=>∃t13,e13=.returned (.int .i64 t13)∧(∃S_4:World→Prop,(∀w',S_4 w'→S_3 w')∧S_4 w13∧(Calls Tryz.prog 114 #[(.pointer (some ⟨t15b,t15o,none⟩))] w13 fun e16 w14=>∃t16,e16=.returned (.int .i64 t16)∧(∃S_5:World→Prop,(∀w',S_5 w'→S_4 w')∧S_5 w14∧(∃t17,(∀w',S_5 w'→(Instr.build 89 #[(0,(.string t7)),(1,(.int .i64 t10)),(2,(.int .i64 t13)),(3,(.int .i64 t16))]).run Tryz.prog w'=.ok (.agg t17) w')∧(∃w15,StQ 89 g3 0 (.agg t17) w14 w15∧(J g3 0 w15))))))))))))∧(∃g3 w16,AlQ 89 g3 w3 w16∧(∃S_2:World→Prop,(∀w',S_2 w'→S_1 w')∧S_2 w16∧(Calls Tryz.prog 113 #[(.pointer (some ⟨t9b,t9o,none⟩))] w16 fun e10 w17=>∃t10,e10=.returned (.int .i64 t10)∧(∃S_3:World→Prop,(∀w',S_3 w'→S_2 w')∧S_3 w17∧(Calls Tryz.prog 114 #[(.pointer (some ⟨t12b,t12o,none⟩))] w17 fun e13 w18=>∃t13,e13=.returned (.int .i64 t13)∧(∃S_4:World→Prop,(∀w',S_4 w'→S_3 w')∧S_4 w18∧(Calls Tryz.prog 114 #[(.pointer (some ⟨t15b,t15o,none⟩))] w18 fun e16 w19=>∃t16,e16=.returned (.int .i64 t16)∧(∃S_5:World→Prop,(∀w',S_5 w'→S_4 w')∧S_5 w19∧(∃t17,(∀w',S_5 w'→(Instr.build 89 #[(0,(.string t7)),(1,(.int .i64 t10)),(2,(.int .i64 t13)),(3,(.int .i64 t16))]).run Tryz.prog w'=.ok (.agg t17) w')∧(∃w20,StQ 89 g3 0 (.agg t17) w19 w20∧(J g3 0 w20)))))))))))))))∧(∃g3 w21,AlQ 89 g3 w2.drew w21∧(∃S_1:World→Prop,(∀w',S_1 w'→S w')∧S_1 w21∧(Calls Tryz.prog 212 #[(.pointer (some ⟨t5b,t5o,none⟩))] w21 fun e6 w22=>∃t6a t6n t6c,e6=.returned (.slice t6a t6n t6c)∧(∃S_2:World→Prop,(∀w',S_2 w'→S_1 w')∧S_2 w22∧(∃t7,(∀w',S_2 w'→(convert 26 9 (.slice t6a t6n t6c)).run Tryz.prog w'=.ok (.string t7) w')∧(Calls Tryz.prog 113 #[(.pointer (some ⟨t9b,t9o,none⟩))] w22 fun e10 w23=>∃t10,e10=.returned (.int .i64 t10)∧(∃S_3:World→Prop,(∀w',S_3 w'→S_2 w')∧S_3 w23∧(Calls Tryz.prog 114 #[(.pointer (some ⟨t12b,t12o,none⟩))] w23 fun e13 w24=>∃t13,e13=.returned (.int .i64 t13)∧(∃S_4:World→Prop,(∀w',S_4 w'→S_3 w')∧S_4 w24∧(Calls Tryz.prog 114 #[(.pointer (some ⟨t15b,t15o,none⟩))] w24 fun e16 w25=>∃t16,e16=.returned (.int .i64 t16)∧(∃S_5:World→Prop,(∀w',S_5 w'→S_4 w')∧S_5 w25∧(∃t17,(∀w',S_5 w'→(Instr.build 89 #[(0,(.string t7)),(1,(.int .i64 t10)),(2,(.int .i64 t13)),(3,(.int .i64 t16))]).run Tryz.prog w'=.ok (.agg t17) w')∧(∃w26,StQ 89 g3 0 (.agg t17) w25 w26∧(J g3 0 w26))))))))))))))))))))∧(∀x3b x3o,∀w27,J x3b x3o w27→(∃S_6:World→Prop,S_6 w27.drew∧(0≤(32:Int)∧(32:Int)≤(32:Int)∧(∃t21b t21o,(∀w',S_6 w'→LdQ 198 g1 0 (.pointer (some ⟨t21b,t21o,none⟩)) w')∧(Calls Tryz.prog 213 #[(.pointer (some ⟨t21b,t21o,none⟩)),(.int .i64 32)] w27.drew fun e22 w28=>∃t22a t22n t22c,e22=.returned (.slice t22a t22n t22c)∧(∃S_7:World→Prop,(∀w',S_7 w'→S_6 w')∧S_7 w28∧(∃t23 w29,(Builtin.copy_ #[26,26] 3 #[(.slice (some ⟨x3b,x3o+4,none⟩) (32) 32),(.slice t22a t22n t22c)]).run Tryz.prog w28=.ok (.int .i64 t23) w29∧(∃S_8:World→Prop,(∀w',S_8 w'→S_7 w')∧S_8 w29∧(∃t24,LdQ 89 x3b x3o (.agg t24) w29∧(∃w30,StQ 89 g2 0 (.agg t24) w29 w30∧(∃r2,(loadVar 89 ⟨g2,0,none⟩).run Tryz.prog w30=.ok r2 w30∧(R (.returned r2) w30))))))))))))))):Calls Tryz.prog 116 #[(.agg a0)] w R:=calls_of_ev2 (tc:=.sq [.reg (.op .bx (.op .bx .nil)),.join (lr [(3,15)]) [3] [.ptr] (.drawS (.tks [0,4,7,10] (.ts 1 .ptr (.ts 5 .ptr (.ts 8 .ptr (.ts 11 .ptr (.two 2 (.cl [.slice]) (.ts 3 .str (.two 6 (.cl [.int .i64]) (.two 9 (.cl [.int .i64]) (.two 12 (.cl [.int .i64]) (.ts 13 .agg (.go 14 .bx (.go 15 .u .nil))) 14 .bx (.go 12 (.cl [.int .i64]) (.ts 13 .agg (.go 15 .u .nil)))) 14 .bx (.go 9 (.cl [.int .i64]) (.go 12 (.cl [.int .i64]) (.ts 13 .agg (.go 15 .u .nil))))) 14 .bx (.go 6 (.cl [.int .i64]) (.go 9 (.cl [.int .i64]) (.go 12 (.cl [.int .i64]) (.ts 13 .agg (.go 15 .u .nil))))))) 14 .bx (.go 2 (.cl [.slice]) (.ts 3 .str (.go 6 (.cl [.int .i64]) (.go 9 (.cl [.int .i64]) (.go 12 (.cl [.int .i64]) (.ts 13 .agg (.go 15 .u .nil))))))))))))) [15]),.drawS (.tk 0 .p (.tk 1 .sl (.tk 2 .p (.ts 3 .ptr (.go 4 (.cl [.slice]) (.go 5 (.r (.int .i64)) .nil)))))) [],.reg (.op (.ld .agg) (.op .u .nil))] .leaf) Tryz.func116 (by kernel_rfl) (by kernel_rfl) h

theorem catalog_Decode_vc (a0:Array Value) (a1a:Option Addr) (a1n:Nat) (a1c:Nat) (w:World) (R:Ending→World→Prop) (h:∃g2 w1,(Instr.box 41 (.agg a0)).run Tryz.prog w=.ok (.pointer (some ⟨g2,0,none⟩)) w1∧(∃g4 w2,AlQ 47 g4 w1 w2∧(∃t13,LdQ 41 g2 0 (.agg t13) w2∧(∃t14a t14n t14c w3,(Instr.buildSlice 26 7 #[(0,(.int .u8 99)),(1,(.int .u8 97)),(2,(.int .u8 116)),(3,(.int .u8 97)),(4,(.int .u8 108)),(5,(.int .u8 111)),(6,(.int .u8 103))]).run Tryz.prog w2=.ok (.slice t14a t14n t14c) w3∧(∃t15a t15n t15c w4,(convert 26 26 (.slice t14a t14n t14c)).run Tryz.prog w3=.ok (.slice t15a t15n t15c) w4∧(Calls Tryz.prog 111 #[(.agg t13),(.int .u8 4),(.slice t15a t15n t15c),(.slice a1a a1n a1c)] w4 fun e17 w5=>∃t17_0a t17_0n t17_0c t17_1,e17=.returned (.tuple #[(.slice t17_0a t17_0n t17_0c),t17_1])∧(∃t21,(eqlS .neq 58 (.tmp 20) (.const .nilIface) t17_1 .nilIface).run Tryz.prog w5=.ok (.bool t21) w5∧((t21=true→(∃t22,(Instr.build 47 #[]).run Tryz.prog w5=.ok (.agg t22) w5∧(∃w6,StQ 47 g4 0 (.agg t22) w5 w6∧(∃r4,(loadVar 47 ⟨g4,0,none⟩).run Tryz.prog w6=.ok r4 w6∧(R (.returned (.tuple #[r4,t17_1])) w6)))))∧(t21=false→(Calls Tryz.prog 112 #[(.slice t17_0a t17_0n t17_0c)] w5 fun e25 w7=>∃t25b t25o,e25=.returned (.pointer (some ⟨t25b,t25o,none⟩))∧(∃t26,(Instr.build 201 #[(0,(.pointer (some ⟨t25b,t25o,none⟩)))]).run Tryz.prog w7=.ok (.agg t26) w7∧(∃g8 w8,AlQ 201 g8 w7 w8∧(∃w9,StQ 201 g8 0 (.agg t26) w8 w9∧(∃J:Nat→Nat→World→Prop,(∃S:World→Prop,S w9.drew∧(∃t28b t28o,(∀w',S w'→LdQ 198 g8 0 (.pointer (some ⟨t28b,t28o,none⟩)) w')∧(∃t31b t31o,(∀w',S w'→LdQ 198 g8 0 (.pointer (some ⟨t31b,t31o,none⟩)) w')∧((Calls Tryz.prog 113 #[(.pointer (some ⟨t28b,t28o,none⟩))] w9.drew fun e29 w10=>∃t29,e29=.returned (.int .i64 t29)∧(∃S_1:World→Prop,(∀w',S_1 w'→S w')∧S_1 w10∧((Calls Tryz.prog 113 #[(.pointer (some ⟨t31b,t31o,none⟩))] w10 fun e32 w11=>∃t32,e32=.returned (.int .i64 t32)∧(∃S_2:World→Prop,(∀w',S_2 w'→S_1 w')∧S_2 w11∧(∃t33,(∀w',S_2 w'→(Instr.build 47 #[(0,(.int .i64 t29)),(1,(.int .i64 t32))]).run Tryz.prog w'=.ok (.agg t33) w')∧(∃g9 w12,AlQ 47 g9 w11 w12∧(∃S_3:World→Prop,(∀w',S_3 w'→S_2 w')∧S_3 w12∧(∃w13,StQ 47 g9 0 (.agg t33) w12 w13∧(J g9 0 w13)))))))∧(∃g9 w14,AlQ 47 g9 w10 w14∧(∃S_2:World→Prop,(∀w',S_2 w'→S_1 w')∧S_2 w14∧(Calls Tryz.prog 113 #[(.pointer (some ⟨t31b,t31o,none⟩))] w14 fun e32 w15=>∃t32,e32=.returned (.int .i64 t32)∧(∃S_3:World→Prop,(∀w',S_3 w'→S_2 w')∧S_3 w15∧(∃t33,(∀w',S_3 w'→(Instr.build 47 #[(0,(.int .i64 t29)),(1,(.int .i64 t32))]).run Tryz.prog w'=.ok (.agg t33) w')∧(∃w16,StQ 47 g9 0 (.agg t33) w15 w16∧(J g9 0 w16))))))))))∧(∃g9 w17,AlQ 47 g9 w9.drew w17∧(∃S_1:World→Prop,(∀w',S_1 w'→S w')∧S_1 w17∧(Calls Tryz.prog 113 #[(.pointer (some ⟨t28b,t28o,none⟩))] w17 fun e29 w18=>∃t29,e29=.returned (.int .i64 t29)∧(∃S_2:World→Prop,(∀w',S_2 w'→S_1 w')∧S_2 w18∧(Calls Tryz.prog 113 #[(.pointer (some ⟨t31b,t31o,none⟩))] w18 fun e32 w19=>∃t32,e32=.returned (.int .i64 t32)∧(∃S_3:World→Prop,(∀w',S_3 w'→S_2 w')∧S_3 w19∧(∃t33,(∀w',S_3 w'→(Instr.build 47 #[(0,(.int .i64 t29)),(1,(.int .i64 t32))]).run Tryz.prog w'=.ok (.agg t33) w')∧(∃w20,StQ 47 g9 0 (.agg t33) w19 w20∧(J g9 0 w20)))))))))))))∧(∀x9b x9o,∀w21,J x9b x9o w21→(∃S_4:World→Prop,S_4 w21.drew∧(∃t35b t35o,(∀w',S_4 w'→LdQ 198 g8 0 (.pointer (some ⟨t35b,t35o,none⟩)) w')∧(∃t39b t39o,(∀w',S_4 w'→LdQ 198 g8 0 (.pointer (some ⟨t39b,t39o,none⟩)) w')∧(∃t42b t42o,(∀w',S_4 w'→LdQ 198 g8 0 (.pointer (some ⟨t42b,t42o,none⟩)) w')∧(∃t45b t45o,(∀w',S_4 w'→LdQ 198 g8 0 (.pointer (some ⟨t45b,t45o,none⟩)) w')∧(∃t48b t48o,(∀w',S_4 w'→LdQ 198 g8 0 (.pointer (some ⟨t48b,t48o,none⟩)) w')∧(Calls Tryz.prog 113 #[(.pointer (some ⟨t35b,t35o,none⟩))] w21.drew fun e36 w22=>∃t36,e36=.returned (.int .i64 t36)∧(∃S_5:World→Prop,(∀w',S_5 w'→S_4 w')∧S_5 w22∧(Calls Tryz.prog 114 #[(.pointer (some ⟨t39b,t39o,none⟩))] w22 fun e40 w23=>∃t40,e40=.returned (.int .i64 t40)∧(∃S_6:World→Prop,(∀w',S_6 w'→S_5 w')∧S_6 w23∧(Calls Tryz.prog 114 #[(.pointer (some ⟨t42b,t42o,none⟩))] w23 fun e43 w24=>∃t43,e43=.returned (.int .i64 t43)∧(∃S_7:World→Prop,(∀w',S_7 w'→S_6 w')∧S_7 w24∧(Calls Tryz.prog 114 #[(.pointer (some ⟨t45b,t45o,none⟩))] w24 fun e46 w25=>∃t46,e46=.returned (.int .i64 t46)∧(∃S_8:World→Prop,(∀w',S_8 w'→S_7 w')∧S_8 w25∧(Calls Tryz.prog 114 #[(.pointer (some ⟨t48b,t48o,none⟩))] w25 fun e49 w26=>∃t49,e49=.returned (.int .i64 t49)∧(∃S_9:World→Prop,(∀w',S_9 w'→S_8 w')∧S_9 w26∧(∃t50,(∀w',S_9 w'→(Instr.build 44 #[(0,(.int .u64 (IntKind.wrap .u64 t36))),(1,(.int .i64 t40)),(2,(.int .i64 t43)),(3,(.int .i64 t46)),(4,(.int .i64 t49))]).run Tryz.prog w'=.ok (.agg t50) w')∧(∃w27,StQ 44 x9b (x9o+2) (.agg t50) w26 w27∧(∃t53b t53o,LdQ 198 g8 0 (.pointer (some ⟨t53b,t53o,none⟩)) w27∧(Calls Tryz.prog 114 #[(.pointer (some ⟨t53b,t53o,none⟩))] w27 fun e54 w28=>∃t54,e54=.returned (.int .i64 t54)∧(∃(I:Int→World→Prop) (μ:Int→World→Nat),I t54 w28∧(∀x10,∀w29,I x10 w29→(∃J_1:Bool→World→Prop,((decide (x10>(0:Int))=true→(∃t59b t59o,LdQ 198 g8 0 (.pointer (some ⟨t59b,t59o,none⟩)) w29∧(Calls Tryz.prog 115 #[(.pointer (some ⟨t59b,t59o,none⟩))] w29 fun e60 w30=>∃t60,e60=.returned t60∧(∃t61,(eqlS .eql 58 (.tmp 60) (.const .nilIface) t60 .nilIface).run Tryz.prog w30=.ok (.bool t61) w30∧(J_1 t61 w30)))))∧(decide (x10>(0:Int))=false→(J_1 false w29)))∧(∀x62,∀w31,J_1 x62 w31→((x62=true→(∃S_10:World→Prop,S_10 w31.drew∧(∃t66a t66n t66c,(∀w',S_10 w'→LdQ 25 x9b (x9o+7) (.slice t66a t66n t66c) w')∧(∃t67,(∀w',S_10 w'→LdQ 201 g8 0 (.agg t67) w')∧(Calls Tryz.prog 116 #[(.agg t67)] w31.drew fun e68 w32=>∃t68,e68=.returned (.agg t68)∧(∃S_11:World→Prop,(∀w',S_11 w'→S_10 w')∧S_11 w32∧(∃t69a t69n t69c w33,(Instr.buildSlice 25 1 #[(0,(.agg t68))]).run Tryz.prog w32=.ok (.slice t69a t69n t69c) w33∧(∃S_12:World→Prop,(∀w',S_12 w'→S_11 w')∧S_12 w33∧(∃t70a t70n t70c w34,(Builtin.append_ #[25,25] 25 #[(.slice t66a t66n t66c),(.slice t69a t69n t69c)]).run Tryz.prog w33=.ok (.slice t70a t70n t70c) w34∧(∃S_13:World→Prop,(∀w',S_13 w'→S_12 w')∧S_13 w34∧(∃w35,StQ 25 x9b (x9o+7) (.slice t70a t70n t70c) w34 w35∧(I (IntKind.wrap .i64 (x10- (1:Int))) w35∧μ (IntKind.wrap .i64 (x10- (1:Int))) w35<μ x10 w29))))))))))))∧(x62=false→(∃t73b t73o,LdQ 198 g8 0 (.pointer (some ⟨t73b,t73o,none⟩)) w31∧(Calls Tryz.prog 114 #[(.pointer (some ⟨t73b,t73o,none⟩))] w31 fun e74 w36=>∃t74,e74=.returned (.int .i64 t74)∧(∃(I_1:Int→World→Prop) (μ_1:Int→World→Nat),I_1 t74 w36∧(∀x11,∀w37,I_1 x11 w37→(∃J_2:Bool→World→Prop,((decide (x11>(0:Int))=true→(∃t79b t79o,LdQ 198 g8 0 (.pointer (some ⟨t79b,t79o,none⟩)) w37∧(Calls Tryz.prog 115 #[(.pointer (some ⟨t79b,t79o,none⟩))] w37 fun e80 w38=>∃t80,e80=.returned t80∧(∃t81,(eqlS .eql 58 (.tmp 80) (.const .nilIface) t80 .nilIface).run Tryz.prog w38=.ok (.bool t81) w38∧(J_2 t81 w38)))))∧(decide (x11>(0:Int))=false→(J_2 false w37)))∧(∀x82,∀w39,J_2 x82 w39→((x82=true→(∃S_10:World→Prop,S_10 w39.drew∧(∃t86a t86n t86c,(∀w',S_10 w'→LdQ 45 x9b (x9o+8) (.slice t86a t86n t86c) w')∧(∃t88b t88o,(∀w',S_10 w'→LdQ 198 g8 0 (.pointer (some ⟨t88b,t88o,none⟩)) w')∧(∃t91b t91o,(∀w',S_10 w'→LdQ 198 g8 0 (.pointer (some ⟨t91b,t91o,none⟩)) w')∧(∃t94b t94o,(∀w',S_10 w'→LdQ 198 g8 0 (.pointer (some ⟨t94b,t94o,none⟩)) w')∧(Calls Tryz.prog 114 #[(.pointer (some ⟨t88b,t88o,none⟩))] w39.drew fun e89 w40=>∃t89,e89=.returned (.int .i64 t89)∧(∃S_11:World→Prop,(∀w',S_11 w'→S_10 w')∧S_11 w40∧(Calls Tryz.prog 114 #[(.pointer (some ⟨t91b,t91o,none⟩))] w40 fun e92 w41=>∃t92,e92=.returned (.int .i64 t92)∧(∃S_12:World→Prop,(∀w',S_12 w'→S_11 w')∧S_12 w41∧(Calls Tryz.prog 114 #[(.pointer (some ⟨t94b,t94o,none⟩))] w41 fun e95 w42=>∃t95,e95=.returned (.int .i64 t95)∧(∃S_13:World→Prop,(∀w',S_13 w'→S_12 w')∧S_13 w42∧(∃t96,(∀w',S_13 w'→(Instr.build 91 #[(0,(.int .i64 t89)),(1,(.int .i64 t92)),(2,(.int .i64 t95))]).run Tryz.prog w'=.ok (.agg t96) w')∧(∃t97a t97n t97c w43,(Instr.buildSlice 45 1 #[(0,(.agg t96))]).run Tryz.prog w42=.ok (.slice t97a t97n t97c) w43∧(∃S_14:World→Prop,(∀w',S_14 w'→S_13 w')∧S_14 w43∧(∃t98a t98n t98c w44,(Builtin.append_ #[45,45] 45 #[(.slice t86a t86n t86c),(.slice t97a t97n t97c)]).run Tryz.prog w43=.ok (.slice t98a t98n t98c) w44∧(∃S_15:World→Prop,(∀w',S_15 w'→S_14 w')∧S_15 w44∧(∃w45,StQ 45 x9b (x9o+8) (.slice t98a t98n t98c) w44 w45∧(I_1 (IntKind.wrap .i64 (x11- (1:Int))) w45∧μ_1 (IntKind.wrap .i64 (x11- (1:Int))) w45<μ_1 x11 w37)))))))))))))))))))∧(x82=false→(∃J_3:Bool→World→Prop,(∃t101b t101o,LdQ 198 g8 0 (.pointer (some ⟨t101b,t101o,none⟩)) w39∧(Calls Tryz.prog 117 #[(.pointer (some ⟨t101b,t101o,none⟩))] w39 fun e102 w46=>∃t102,e102=.returned t102∧(∃t103,(eqlS .neq 58 (.tmp 102) (.const .nilIface) t102 .nilIface).run Tryz.prog w46=.ok (.bool t103) w46∧((t103=true→(J_3 true w46))∧(t103=false→(∃t105,LdQ 47 x9b x9o (.agg t105) w46∧(Calls Tryz.prog 38 #[(.agg t105)] w46 fun e106 w47=>∃t106,e106=.returned t106∧(∃t107,(eqlS .neq 58 (.tmp 106) (.const .nilIface) t106 .nilIface).run Tryz.prog w47=.ok (.bool t107) w47∧(J_3 t107 w47)))))))))∧(∀x108,∀w48,J_3 x108 w48→((x108=true→(∃t109,(Instr.build 47 #[]).run Tryz.prog w48=.ok (.agg t109) w48∧(∃w49,StQ 47 g4 0 (.agg t109) w48 w49∧(∃r4,(loadVar 47 ⟨g4,0,none⟩).run Tryz.prog w49=.ok r4 w49∧(R (.returned (.tuple #[r4,(.iface 65 (.int .i64 10))])) w49)))))∧(x108=false→(∃t111,LdQ 47 x9b x9o (.agg t111) w48∧(∃w50,StQ 47 g4 0 (.agg t111) w48 w50∧(∃r4,(loadVar 47 ⟨g4,0,none⟩).run Tryz.prog w50=.ok r4 w50∧(R (.returned (.tuple #[r4,.nilIface])) w50))))))))))))))))))))))))))))))))))))))))))))))))))))))))):Calls Tryz.prog 41 #[(.agg a0),(.slice a1a a1n a1c)] w R:=calls_of_ev2 (tc:=.sq [.reg (.op .bx (.op .bx (.op .p .nil))),.reg (.op (.ld .agg) (.op (.r .slice) (.op (.r .slice) (.op .p (.op (.cl [.slice,.val]) (.pp 5 .nil)))))),.seq (.reg (.op .p (.op (.ld .bool) .nil))) (.cond (.seq (.reg (.op (.ld .agg) (.op .p (.op .u (.op .p .nil))))) .leaf) .leaf),.reg (.op .p (.op (.cl [.ptr]) (.op (.ld .agg) (.op .bx (.op .u .nil))))),.join (lr [(9,1),(27,7)]) [9] [.ptr] (.drawS (.tks [0,3] (.ts 1 .ptr (.ts 4 .ptr (.two 2 (.cl [.int .i64]) (.two 5 (.cl [.int .i64]) (.ts 6 .agg (.go 7 .bx (.go 8 .u .nil))) 7 .bx (.go 5 (.cl [.int .i64]) (.ts 6 .agg (.go 8 .u .nil)))) 7 .bx (.go 2 (.cl [.int .i64]) (.go 5 (.cl [.int .i64]) (.ts 6 .agg (.go 8 .u .nil)))))))) [8]),.drawS (.tks [0,4,7,10,13] (.ts 1 .ptr (.ts 5 .ptr (.ts 8 .ptr (.ts 11 .ptr (.ts 14 .ptr (.go 2 (.cl [.int .i64]) (.tk 3 .p (.go 6 (.cl [.int .i64]) (.go 9 (.cl [.int .i64]) (.go 12 (.cl [.int .i64]) (.go 15 (.cl [.int .i64]) (.ts 16 .agg (.tk 17 .p (.go 18 .u .nil))))))))))))))) [18],.seq (.reg (.op .p (.op (.ld .ptr) (.op (.cl [.int .i64]) (.op .p .nil))))) (.blk (.loop (lr [(10,1),(55,17)]) [10] [.int .i64] (.sq [.seq (.join (lr [(55,8)]) [62] [.bool] (.reg (.pp 3 (.sp 57 (.op .p (.op (.ld .ptr) (.op (.cl [.val]) (.op (.ld .bool) (.op .p .nil))))) (.pp 5 .nil))))) (.cond .leaf .leaf),.blk (.drawS (.tk 0 .p (.ts 1 .slice (.ts 2 .agg (.go 3 (.cl [.agg]) (.go 4 (.r .slice) (.go 5 (.r .slice) (.tk 6 .p (.go 7 .u .nil)))))))) [7])] (.rg 3)))),.seq (.reg (.op .p (.op (.ld .ptr) (.op (.cl [.int .i64]) (.op .p .nil))))) (.blk (.loop (lr [(11,1),(75,25)]) [11] [.int .i64] (.sq [.seq (.join (lr [(75,8)]) [82] [.bool] (.reg (.pp 3 (.sp 77 (.op .p (.op (.ld .ptr) (.op (.cl [.val]) (.op (.ld .bool) (.op .p .nil))))) (.pp 5 .nil))))) (.cond .leaf .leaf),.blk (.drawS (.tks [0,2,5,8] (.ts 1 .slice (.ts 3 .ptr (.ts 6 .ptr (.ts 9 .ptr (.go 4 (.cl [.int .i64]) (.go 7 (.cl [.int .i64]) (.go 10 (.cl [.int .i64]) (.ts 11 .agg (.go 12 (.r .slice) (.go 13 (.r .slice) (.tk 14 .p (.go 15 .u .nil))))))))))))) [15])] (.rg 3)))),.seq (.join (lr [(100,9)]) [108] [.bool] (.reg (.op .p (.op (.ld .ptr) (.op (.cl [.val]) (.op (.ld .bool) (.op .p (.sp 104 (.pp 4 .nil) (.op (.ld .agg) (.op (.cl [.val]) (.op (.ld .bool) (.op .p .nil)))))))))))) (.cond (.seq (.reg (.op (.ld .agg) (.op .p (.op .u (.op .p .nil))))) .leaf) .leaf),.reg (.op (.ld .agg) (.op .u (.op .p .nil)))] .leaf) Tryz.func41 (by kernel_rfl) (by kernel_rfl) h

theorem catalog_Name_vc (a0:Int) (w:World) (R:Ending→World→Prop) (h:(((decide (a0<(1:Int)))||(decide (a0>(1099511627776:Int))))=true→(R (.returned (.string (ByteArray.mk #[]))) w))∧(((decide (a0<(1:Int)))||(decide (a0>(1099511627776:Int))))=false→(Calls Tryz.prog 95 #[(.int .i64 a0)] w fun e10 w1=>∃t10,e10=.returned (.string t10)∧(∃t11,(eqlS .add 9 (.const (.string (ByteArray.mk #[99]))) (.tmp 10) (.string (ByteArray.mk #[99])) (.string t10)).run Tryz.prog w1=.ok (.string t11) w1∧(R (.returned (.string t11)) w1))))):Calls Tryz.prog 30 #[(.int .i64 a0)] w R:=calls_of_ev2 (tc:=.sq [.rg 1,.seq (.reg (.pp 3 (.ap 2 .nil))) (.cond (.seq (.rg 1) .leaf) .leaf),.reg (.op .p (.op (.cl [.str]) (.op (.ld .str) (.op .p .nil))))] .leaf) Tryz.func30 (by kernel_rfl) (by kernel_rfl) h

theorem catalog_Gen_vc (a0:ByteArray) (w:World) (R:Ending→World→Prop) (h:((a0.toList==(ByteArray.mk #[]).toList)=true→(R (.returned (.tuple #[(.int .i64 0),(.bool false)])) w))∧((a0.toList==(ByteArray.mk #[]).toList)=false→(0≤(1:Int)∧(1:Int)≤(a0.size:Int)∧(Calls Tryz.prog 94 #[(.string (a0.extract (Int.toNat (1:Int)) a0.size))] w fun e11 w1=>∃t11_0 t11_1,e11=.returned (.tuple #[(.int .i64 t11_0),t11_1])∧(∃J:Bool→World→Prop,(∃t15,(eqlS .neq 58 (.tmp 14) (.const .nilIface) t11_1 .nilIface).run Tryz.prog w1=.ok (.bool t15) w1∧((t15=true→(J true w1))∧(t15=false→(Calls Tryz.prog 30 #[(.int .i64 t11_0)] w1 fun e18 w2=>∃t18,e18=.returned (.string t18)∧(J (!(t18.toList==a0.toList)) w2)))))∧(∀x21,∀w3,J x21 w3→((x21=true→(R (.returned (.tuple #[(.int .i64 0),(.bool false)])) w3))∧(x21=false→(R (.returned (.tuple #[(.int .i64 t11_0),(.bool true)])) w3))))))))):Calls Tryz.prog 26 #[(.string a0)] w R:=calls_of_ev2 (tc:=.sq [.rg 2,.seq (.rg 2) (.cond (.seq (.rg 2) .leaf) .leaf),.reg (.op .p (.op .sl (.op (.cl [.int .i64,.val]) (.pp 5 .nil)))),.seq (.join (lr [(14,8)]) [21] [.bool] (.reg (.op .p (.op (.ld .bool) (.op .p (.sp 16 (.pp 5 .nil) (.op .p (.op (.cl [.str]) (.pp 3 .nil))))))))) (.cond (.seq (.rg 2) .leaf) .leaf),.rg 3] .leaf) Tryz.func26 (by kernel_rfl) (by kernel_rfl) h

theorem catalog_Load_vc (a0b:Nat) (a0o:Nat) (a1:Array Value) (w:World) (R:Ending→World→Prop) (h:∃g3 w1,(Instr.box 41 (.agg a1)).run Tryz.prog w=.ok (.pointer (some ⟨g3,0,none⟩)) w1∧(∃g4 w2,AlQ 47 g4 w1 w2∧(Calls Tryz.prog 64 #[(.pointer (some ⟨a0b,a0o,none⟩))] w2 fun e17 w3=>∃t17,e17=.returned (.bool t17)∧((t17=true→(∃t18,(Instr.build 47 #[]).run Tryz.prog w3=.ok (.agg t18) w3∧(∃w4,StQ 47 g4 0 (.agg t18) w3 w4∧(∃r4,(loadVar 47 ⟨g4,0,none⟩).run Tryz.prog w4=.ok r4 w4∧(R (.returned (.tuple #[r4,(.iface 65 (.int .i64 1))])) w4)))))∧(t17=false→(∃t20,(Instr.build 47 #[]).run Tryz.prog w3=.ok (.agg t20) w3∧(∃g6 w5,AlQ 47 g6 w3 w5∧(∃w6,StQ 47 g6 0 (.agg t20) w5 w6∧(Calls Tryz.prog 80 #[(.pointer (some ⟨a0b,a0o,none⟩))] w6 fun e22 w7=>∃t22a t22n t22c,e22=.returned (.slice t22a t22n t22c)∧(∃(I:Int→Int→World→Prop) (μ:Int→Int→World→Nat),I 21 0 w7∧(∀x7 x24,∀w8,I x7 x24 w8→((decide (x24<(t22n:Int))=true→(∃t26b t26o,t22a=some ⟨t26b,t26o,none⟩∧0≤x24∧x24<(t22n:Int)∧(∃t27,LdQ 9 t26b (t26o+Int.toNat x24*1) (.string t27) w8∧(Calls Tryz.prog 26 #[(.string t27)] w8 fun e30 w9=>∃t30_0 t30_1,e30=.returned (.tuple #[(.int .i64 t30_0),(.bool t30_1)])∧(((!t30_1)=true→(I x7 (IntKind.wrap .i64 (x24+1)) w9∧μ x7 (IntKind.wrap .i64 (x24+1)) w9<μ x7 x24 w8))∧((!t30_1)=false→(∃J:Int→World→Prop,(((x7==(21:Int))=true→(J 10 w9))∧((x7==(21:Int))=false→(J x7 w9)))∧(∀x7_1,∀w10,J x7_1 w10→(Calls Tryz.prog 57 #[(.pointer (some ⟨a0b,a0o,none⟩)),(.string t27)] w10 fun e40 w11=>∃t40_0a t40_0n t40_0c t40_1,e40=.returned (.tuple #[(.slice t40_0a t40_0n t40_0c),t40_1])∧(∃t44,(eqlS .neq 58 (.tmp 43) (.const .nilIface) t40_1 .nilIface).run Tryz.prog w11=.ok (.bool t44) w11∧((t44=true→(∃t45,(Instr.build 47 #[]).run Tryz.prog w11=.ok (.agg t45) w11∧(∃w12,StQ 47 g4 0 (.agg t45) w11 w12∧(∃r4,(loadVar 47 ⟨g4,0,none⟩).run Tryz.prog w12=.ok r4 w12∧(R (.returned (.tuple #[r4,t40_1])) w12)))))∧(t44=false→(∃t48,LdQ 41 g3 0 (.agg t48) w11∧(Calls Tryz.prog 41 #[(.agg t48),(.slice t40_0a t40_0n t40_0c)] w11 fun e50 w13=>∃t50_0 t50_1,e50=.returned (.tuple #[(.agg t50_0),t50_1])∧(∃g14 w14,AlQ 47 g14 w13 w14∧(∃w15,StQ 47 g14 0 (.agg t50_0) w14 w15∧(∃J_1:Bool→World→Prop,(∃t54,(eqlS .eql 58 (.tmp 53) (.const .nilIface) t50_1 .nilIface).run Tryz.prog w15=.ok (.bool t54) w15∧((t54=true→(∃t57,LdQ 3 g14 0 (.int .i64 t57) w15∧(((t57==t30_0)=true→(∃t64,LdQ 3 g6 0 (.int .i64 t64) w15∧(J_1 (decide (t30_0>t64)) w15)))∧((t57==t30_0)=false→(J_1 false w15)))))∧(t54=false→(J_1 false w15))))∧(∀x66,∀w16,J_1 x66 w16→(∃J_2:World→Prop,((x66=true→(∃t67,LdQ 47 g14 0 (.agg t67) w16∧(∃w17,StQ 47 g6 0 (.agg t67) w16 w17∧(J_2  w17))))∧(x66=false→(J_2  w16)))∧(∀w18,J_2  w18→(I x7_1 (IntKind.wrap .i64 (x24+1)) w18∧μ x7_1 (IntKind.wrap .i64 (x24+1)) w18<μ x7 x24 w8)))))))))))))))))))))∧(decide (x24<(t22n:Int))=false→(∃t70,LdQ 3 g6 0 (.int .i64 t70) w8∧(((t70==(0:Int))=true→(∃t72,LdQ 47 g6 0 (.agg t72) w8∧(∃w19,StQ 47 g4 0 (.agg t72) w8 w19∧(∃r4,(loadVar 47 ⟨g4,0,none⟩).run Tryz.prog w19=.ok r4 w19∧(R (.returned (.tuple #[r4,(.iface 65 (.int .i64 x7))])) w19)))))∧((t70==(0:Int))=false→(∃t75,LdQ 47 g6 0 (.agg t75) w8∧(∃w20,StQ 47 g4 0 (.agg t75) w8 w20∧(∃r4,(loadVar 47 ⟨g4,0,none⟩).run Tryz.prog w20=.ok r4 w20∧(R (.returned (.tuple #[r4,.nilIface])) w20)))))))))))))))))))):Calls Tryz.prog 91 #[(.pointer (some ⟨a0b,a0o,none⟩)),(.agg a1)] w R:=calls_of_ev2 (tc:=.sq [.reg (.op .bx (.op .bx (.op .p .nil))),.seq (.reg (.op .p (.op (.cl [.bool]) .nil))) (.cond (.seq (.reg (.op (.ld .agg) (.op .p (.op .u (.op .p .nil))))) .leaf) .leaf),.reg (.op (.ld .agg) (.op .bx (.op .u (.op .p .nil)))),.seq (.reg (.op .p (.op (.cl [.slice]) (.pp 2 .nil)))) (.blk (.loop (lr [(5,1),(7,1),(9,7),(24,45)]) [7,24] [.int .i64,.int .i64] (.sq [.rg 1,.cond .leaf .leaf,.blk (.sq [.reg (.op .ix (.op (.ld .str) (.op .p .nil))),.reg (.op .p (.op (.cl [.int .i64,.bool]) (.pp 5 .nil))),.seq (.rg 2) (.cond .leaf .leaf),.seq (.rg 2) (.join [7] [7] [.int .i64] (.cond (.rg 1) .leaf)),.reg (.pp 2 (.op (.cl [.slice,.val]) (.pp 5 .nil))),.seq (.reg (.op .p (.op (.ld .bool) .nil))) (.cond (.seq (.reg (.op (.ld .agg) (.op .p (.op .u (.op .p .nil))))) .leaf) .leaf),.reg (.op (.ld .agg) (.op .p (.op (.cl [.agg,.val]) (.pp 3 (.op .bx (.op .u (.op .p .nil))))))),.join (lr [(53,14)]) [66] [.bool] (.reg (.op .p (.op (.ld .bool) (.op .p (.sp 55 (.op .p (.op (.ld (.int .i64)) (.pp 4 (.sp 61 (.pp 2 (.op (.ld (.int .i64)) (.pp 2 .nil))) (.pp 5 .nil))))) (.pp 11 .nil))))))] (.join [67] [] [] (.cond (.reg (.op (.ld .agg) (.op .u .nil))) .leaf)))] (.rg 2)))),.seq (.reg (.op .p (.op (.ld (.int .i64)) (.op .p .nil)))) (.cond (.seq (.reg (.op (.ld .agg) (.pp 2 (.op .u (.op .p .nil))))) .leaf) .leaf),.reg (.op (.ld .agg) (.op .u (.op .p .nil)))] .leaf) Tryz.func91 (by kernel_rfl) (by kernel_rfl) h

theorem catalog_undo_vc (a0b:Nat) (a0o:Nat) (a1:ByteArray) (a2:Value) (w:World) (R:Ending→World→Prop) (h:∃g3 w1,(Instr.box 51 (.pointer (some ⟨a0b,a0o,none⟩))).run Tryz.prog w=.ok (.pointer (some ⟨g3,0,none⟩)) w1∧(∃g4 w2,(Instr.box 9 (.string a1)).run Tryz.prog w1=.ok (.pointer (some ⟨g4,0,none⟩)) w2∧(∃t10 w3,(Instr.makeFunc (.func 262) #[] #[(.pointer (some ⟨g3,0,none⟩)),(.pointer (some ⟨g4,0,none⟩))]).run Tryz.prog w2=.ok t10 w3∧(∃t11b t11o,LdQ 51 g3 0 (.pointer (some ⟨t11b,t11o,none⟩)) w3∧(∃t12 w4,(Instr.makeFunc (.func 84) #[(.pointer (some ⟨t11b,t11o,none⟩))] #[]).run Tryz.prog w3=.ok t12 w4∧(∃t13,(Instr.build 355 #[(0,t10),(1,t12)]).run Tryz.prog w4=.ok (.agg t13) w4∧(∃(I:Int→World→Prop) (μ:Int→World→Nat),I 0 w4∧(∀x14,∀w5,I x14 w5→((decide (x14<(2:Int))=true→(∃t16,(Instr.index 355 (.agg t13) (.int .i64 x14)).run Tryz.prog w5=.ok t16 w5∧(∃(f18:Nat) (pr18 cb18:List Value),t16=.func (.func f18) ⟨pr18⟩ ⟨cb18⟩∧goesIn Tryz.prog f18=true∧Calls Tryz.prog f18 (pr18++([]:List Value)++cb18).toArray w5 fun e18 w6=>∃t18,e18=.returned t18∧(Calls Tryz.prog 90 #[t18,(.iface 65 (.int .i64 1))] w6 fun e21 w7=>∃t21,e21=.returned (.bool t21)∧((t21=true→(R (.returned t18) w7))∧(t21=false→(∃t24,(eqlS .neq 58 (.tmp 23) (.const .nilIface) t18 .nilIface).run Tryz.prog w7=.ok (.bool t24) w7∧((t24=true→(R (.returned (.iface 65 (.int .i64 22))) w7))∧(t24=false→(I (IntKind.wrap .i64 (x14+1)) w7∧μ (IntKind.wrap .i64 (x14+1)) w7<μ x14 w5))))))))))∧(decide (x14<(2:Int))=false→(R (.returned a2) w5))))))))))):Calls Tryz.prog 191 #[(.pointer (some ⟨a0b,a0o,none⟩)),(.string a1),a2] w R:=calls_of_ev2 (tc:=.sq [.reg (.op .bx (.op .bx (.op .p .nil))),.seq (.reg (.op (.r .val) (.op (.ld .ptr) (.op (.r .val) (.op (.ld .agg) (.op .p .nil)))))) (.blk (.loop (lr [(6,1),(8,2),(14,13)]) [14] [.int .i64] (.sq [.rg 1,.cond .leaf .leaf,.blk (.sq [.reg (.op (.ld .val) (.op .p .nil)),.reg (.op .p (.op (.cm [.val]) (.op .p .nil))),.reg (.pp 2 (.op (.cl [.bool]) .nil))] (.cond (.seq (.rg 2) .leaf) (.seq (.reg (.op .p (.op (.ld .bool) .nil))) (.cond (.seq (.rg 2) .leaf) .leaf))))] (.rg 2)))),.rg 2] .leaf) Tryz.func191 (by kernel_rfl) (by kernel_rfl) h

theorem catalog_undo_1_vc (a0b:Nat) (a0o:Nat) (a1b:Nat) (a1o:Nat) (w:World) (R:Ending→World→Prop) (h:∃t3b t3o,LdQ 51 a0b a0o (.pointer (some ⟨t3b,t3o,none⟩)) w∧(∃t4,LdQ 9 a1b a1o (.string t4) w∧(Calls Tryz.prog 89 #[(.pointer (some ⟨t3b,t3o,none⟩)),(.string t4)] w fun e5 w1=>∃t5,e5=.returned t5∧(R (.returned t5) w1)))):Calls Tryz.prog 262 #[(.pointer (some ⟨a0b,a0o,none⟩)),(.pointer (some ⟨a1b,a1o,none⟩))] w R:=calls_of_ev2 (tc:=.sq [.rg 1,.reg (.op (.ld .ptr) (.op (.ld .str) (.op (.cl [.val]) (.op .p .nil))))] .leaf) Tryz.func262 (by kernel_rfl) (by kernel_rfl) h

theorem catalog_Commit_vc (a0b:Nat) (a0o:Nat) (a1:Array Value) (a2:Array Value) (w:World) (R:Ending→World→Prop) (h:∃g3 w1,(Instr.box 51 (.pointer (some ⟨a0b,a0o,none⟩))).run Tryz.prog w=.ok (.pointer (some ⟨g3,0,none⟩)) w1∧(∃g4 w2,(Instr.box 41 (.agg a1)).run Tryz.prog w1=.ok (.pointer (some ⟨g4,0,none⟩)) w2∧(∃g5 w3,(Instr.box 47 (.agg a2)).run Tryz.prog w2=.ok (.pointer (some ⟨g5,0,none⟩)) w3∧(∃t15,LdQ 41 g4 0 (.agg t15) w3∧(∃t16,LdQ 47 g5 0 (.agg t16) w3∧(Calls Tryz.prog 35 #[(.agg t15),(.agg t16)] w3 fun e17 w4=>∃t17_0a t17_0n t17_0c t17_1,e17=.returned (.tuple #[(.slice t17_0a t17_0n t17_0c),t17_1])∧(∃g7 w5,AlQ 26 g7 w4 w5∧(∃w6,StQ 26 g7 0 (.slice t17_0a t17_0n t17_0c) w5 w6∧(∃t21,(eqlS .neq 58 (.tmp 20) (.const .nilIface) t17_1 .nilIface).run Tryz.prog w6=.ok (.bool t21) w6∧((t21=true→(R (.returned t17_1) w6))∧(t21=false→(∃t23b t23o,LdQ 51 g3 0 (.pointer (some ⟨t23b,t23o,none⟩)) w6∧(Calls Tryz.prog 80 #[(.pointer (some ⟨t23b,t23o,none⟩))] w6 fun e24 w7=>∃t24a t24n t24c,e24=.returned (.slice t24a t24n t24c)∧(Calls Tryz.prog 88 #[(.slice t24a t24n t24c),(.string (ByteArray.mk #[116]))] w7 fun e25 w8=>∃t25,e25=.returned (.bool t25)∧(∃J:World→Prop,((t25=true→(∃t26b t26o,LdQ 51 g3 0 (.pointer (some ⟨t26b,t26o,none⟩)) w8∧(Calls Tryz.prog 89 #[(.pointer (some ⟨t26b,t26o,none⟩)),(.string (ByteArray.mk #[116]))] w8 fun e27 w9=>∃t27,e27=.returned t27∧(∃t29,(eqlS .neq 58 (.tmp 28) (.const .nilIface) t27 .nilIface).run Tryz.prog w9=.ok (.bool t29) w9∧((t29=true→(R (.returned t27) w9))∧(t29=false→(J  w9)))))))∧(t25=false→(J  w8)))∧(∀w10,J  w10→(∃t32,LdQ 3 g5 0 (.int .i64 t32) w10∧(Calls Tryz.prog 30 #[(.int .i64 t32)] w10 fun e33 w11=>∃t33,e33=.returned (.string t33)∧(∃g10 w12,AlQ 9 g10 w11 w12∧(∃w13,StQ 9 g10 0 (.string t33) w12 w13∧(∃t34 w14,(Instr.makeFunc (.func 186) #[] #[(.pointer (some ⟨g3,0,none⟩))]).run Tryz.prog w13=.ok t34 w14∧(∃t35 w15,(Instr.makeFunc (.func 187) #[] #[(.pointer (some ⟨g3,0,none⟩)),(.pointer (some ⟨g7,0,none⟩))]).run Tryz.prog w14=.ok t35 w15∧(∃t36 w16,(Instr.makeFunc (.func 188) #[] #[(.pointer (some ⟨g3,0,none⟩))]).run Tryz.prog w15=.ok t36 w16∧(∃t37b t37o,LdQ 51 g3 0 (.pointer (some ⟨t37b,t37o,none⟩)) w16∧(∃t38 w17,(Instr.makeFunc (.func 84) #[(.pointer (some ⟨t37b,t37o,none⟩))] #[]).run Tryz.prog w16=.ok t38 w17∧(∃t39 w18,(Instr.makeFunc (.func 189) #[] #[(.pointer (some ⟨g3,0,none⟩)),(.pointer (some ⟨g10,0,none⟩))]).run Tryz.prog w17=.ok t39 w18∧(∃t40,(Instr.build 279 #[(0,t34),(1,t35),(2,t36),(3,t38),(4,t39)]).run Tryz.prog w18=.ok (.agg t40) w18∧(∃(I:Int→World→Prop) (μ:Int→World→Nat),I 0 w18∧(∀x41,∀w19,I x41 w19→((decide (x41<(5:Int))=true→(∃t43,(Instr.index 279 (.agg t40) (.int .i64 x41)).run Tryz.prog w19=.ok t43 w19∧(∃(f45:Nat) (pr45 cb45:List Value),t43=.func (.func f45) ⟨pr45⟩ ⟨cb45⟩∧goesIn Tryz.prog f45=true∧Calls Tryz.prog f45 (pr45++([]:List Value)++cb45).toArray w19 fun e45 w20=>∃t45,e45=.returned t45∧(∃t47,(eqlS .neq 58 (.tmp 46) (.const .nilIface) t45 .nilIface).run Tryz.prog w20=.ok (.bool t47) w20∧((t47=true→(R (.returned t45) w20))∧(t47=false→(I (IntKind.wrap .i64 (x41+1)) w20∧μ (IntKind.wrap .i64 (x41+1)) w20<μ x41 w19)))))))∧(decide (x41<(5:Int))=false→(∃t50b t50o,LdQ 51 g3 0 (.pointer (some ⟨t50b,t50o,none⟩)) w19∧(Calls Tryz.prog 84 #[(.pointer (some ⟨t50b,t50o,none⟩))] w19 fun e51 w21=>∃t51,e51=.returned t51∧(∃J_1:Bool→World→Prop,(∃t53,(eqlS .eql 58 (.tmp 52) (.const .nilIface) t51 .nilIface).run Tryz.prog w21=.ok (.bool t53) w21∧((t53=true→(J_1 true w21))∧(t53=false→(Calls Tryz.prog 90 #[t51,(.iface 65 (.int .i64 1))] w21 fun e57 w22=>∃t57,e57=.returned (.bool t57)∧(J_1 t57 w22)))))∧(∀x58,∀w23,J_1 x58 w23→((x58=true→(R (.returned t51) w23))∧(x58=false→(∃t60b t60o,LdQ 51 g3 0 (.pointer (some ⟨t60b,t60o,none⟩)) w23∧(∃t61,LdQ 9 g10 0 (.string t61) w23∧(Calls Tryz.prog 191 #[(.pointer (some ⟨t60b,t60o,none⟩)),(.string t61),t51] w23 fun e63 w24=>∃t63,e63=.returned t63∧(R (.returned t63) w24))))))))))))))))))))))))))))))))))))))))):Calls Tryz.prog 92 #[(.pointer (some ⟨a0b,a0o,none⟩)),(.agg a1),(.agg a2)] w R:=calls_of_ev2 (tc:=.sq [.reg (.op .bx (.op .bx (.op .bx (.op .p .nil)))),.reg (.op (.ld .agg) (.op (.ld .agg) (.op (.cl [.slice,.val]) (.pp 3 (.op .bx (.op .u (.op .p .nil))))))),.seq (.reg (.op .p (.op (.ld .bool) .nil))) (.cond (.seq (.rg 2) .leaf) .leaf),.seq (.reg (.op (.ld .ptr) (.op (.cl [.slice]) (.op (.cl [.bool]) .nil)))) (.join [6,9,26,27,28,29,30] [] [] (.cond (.sq [.reg (.op (.ld .ptr) (.op (.cl [.val]) (.op .p .nil))),.reg (.op .p (.op (.ld .bool) .nil))] (.cond (.seq (.rg 2) .leaf) .leaf)) .leaf)),.reg (.op .p (.op (.ld (.int .i64)) (.op (.cl [.str]) (.op .bx (.op .u .nil))))),.seq (.reg (.op (.r .val) (.op (.r .val) (.op (.r .val) (.op (.ld .ptr) (.op (.r .val) (.op (.r .val) (.op (.ld .agg) (.op .p .nil))))))))) (.blk (.loop (lr [(6,1),(12,2),(41,9)]) [41] [.int .i64] (.sq [.rg 1,.cond .leaf .leaf,.blk (.sq [.reg (.op (.ld .val) (.op .p .nil)),.reg (.op .p (.op (.cm [.val]) (.op .p .nil))),.reg (.op .p (.op (.ld .bool) .nil))] (.cond (.seq (.rg 2) .leaf) .leaf))] (.rg 2)))),.reg (.op (.ld .ptr) (.op (.cl [.val]) (.op .p .nil))),.seq (.join (lr [(52,7)]) [58] [.bool] (.reg (.op .p (.op (.ld .bool) (.op .p (.sp 54 (.pp 4 .nil) (.pp 2 (.op (.cl [.bool]) (.op .p .nil))))))))) (.cond (.seq (.rg 2) .leaf) .leaf),.reg (.op (.ld .ptr) (.op (.ld .str) (.op .p (.op (.cl [.val]) (.op .p .nil)))))] .leaf) Tryz.func92 (by kernel_rfl) (by kernel_rfl) h

theorem catalog_Commit_1_vc (a0b:Nat) (a0o:Nat) (w:World) (R:Ending→World→Prop) (h:∃t2b t2o,LdQ 51 a0b a0o (.pointer (some ⟨t2b,t2o,none⟩)) w∧(Calls Tryz.prog 144 #[(.pointer (some ⟨t2b,t2o,none⟩)),(.string (ByteArray.mk #[116]))] w fun e3 w1=>∃t3,e3=.returned t3∧(R (.returned t3) w1))):Calls Tryz.prog 186 #[(.pointer (some ⟨a0b,a0o,none⟩))] w R:=calls_of_ev2 (tc:=.sq [.rg 1,.reg (.op (.ld .ptr) (.op (.cl [.val]) (.op .p .nil)))] .leaf) Tryz.func186 (by kernel_rfl) (by kernel_rfl) h

theorem catalog_Commit_2_vc (a0b:Nat) (a0o:Nat) (a1b:Nat) (a1o:Nat) (w:World) (R:Ending→World→Prop) (h:∃t3b t3o,LdQ 51 a0b a0o (.pointer (some ⟨t3b,t3o,none⟩)) w∧(∃t4a t4n t4c,LdQ 26 a1b a1o (.slice t4a t4n t4c) w∧(∃t5a t5n t5c w1,(Instr.buildSlice 24 1 #[(0,(.slice t4a t4n t4c))]).run Tryz.prog w=.ok (.slice t5a t5n t5c) w1∧(Calls Tryz.prog 145 #[(.pointer (some ⟨t3b,t3o,none⟩)),(.string (ByteArray.mk #[116])),(.slice t5a t5n t5c)] w1 fun e6 w2=>∃t6,e6=.returned t6∧(R (.returned t6) w2))))):Calls Tryz.prog 187 #[(.pointer (some ⟨a0b,a0o,none⟩)),(.pointer (some ⟨a1b,a1o,none⟩))] w R:=calls_of_ev2 (tc:=.sq [.rg 1,.reg (.op (.ld .ptr) (.op (.ld .slice) (.op (.r .slice) (.op (.cl [.val]) (.op .p .nil)))))] .leaf) Tryz.func187 (by kernel_rfl) (by kernel_rfl) h

theorem catalog_Commit_3_vc (a0b:Nat) (a0o:Nat) (w:World) (R:Ending→World→Prop) (h:∃t2b t2o,LdQ 51 a0b a0o (.pointer (some ⟨t2b,t2o,none⟩)) w∧(Calls Tryz.prog 146 #[(.pointer (some ⟨t2b,t2o,none⟩)),(.string (ByteArray.mk #[116]))] w fun e3 w1=>∃t3,e3=.returned t3∧(R (.returned t3) w1))):Calls Tryz.prog 188 #[(.pointer (some ⟨a0b,a0o,none⟩))] w R:=calls_of_ev2 (tc:=.sq [.rg 1,.reg (.op (.ld .ptr) (.op (.cl [.val]) (.op .p .nil)))] .leaf) Tryz.func188 (by kernel_rfl) (by kernel_rfl) h

theorem catalog_Commit_4_vc (a0b:Nat) (a0o:Nat) (a1b:Nat) (a1o:Nat) (w:World) (R:Ending→World→Prop) (h:∃t3b t3o,LdQ 51 a0b a0o (.pointer (some ⟨t3b,t3o,none⟩)) w∧(∃t4,LdQ 9 a1b a1o (.string t4) w∧(Calls Tryz.prog 190 #[(.pointer (some ⟨t3b,t3o,none⟩)),(.string (ByteArray.mk #[116])),(.string t4)] w fun e5 w1=>∃t5,e5=.returned t5∧(R (.returned t5) w1)))):Calls Tryz.prog 189 #[(.pointer (some ⟨a0b,a0o,none⟩)),(.pointer (some ⟨a1b,a1o,none⟩))] w R:=calls_of_ev2 (tc:=.sq [.rg 1,.reg (.op (.ld .ptr) (.op (.ld .str) (.op (.cl [.val]) (.op .p .nil))))] .leaf) Tryz.func189 (by kernel_rfl) (by kernel_rfl) h

theorem catalog_Same_vc (a0:Array Value) (a1:Array Value) (w:World) (R:Ending→World→Prop) (h:∃g2 w1,(Instr.box 47 (.agg a0)).run Tryz.prog w=.ok (.pointer (some ⟨g2,0,none⟩)) w1∧(∃g3 w2,(Instr.box 47 (.agg a1)).run Tryz.prog w1=.ok (.pointer (some ⟨g3,0,none⟩)) w2∧(∃t6,LdQ 3 g2 0 (.int .i64 t6) w2∧(∃t8,LdQ 3 g3 0 (.int .i64 t8) w2∧(((t6==t8)=true→(∃t12,LdQ 3 g2 1 (.int .i64 t12) w2∧(∃t14,LdQ 3 g3 1 (.int .i64 t14) w2∧(((t12==t14)=true→(∃t19,LdQ 44 g2 2 (.agg t19) w2∧(∃t21,LdQ 44 g3 2 (.agg t21) w2∧(∃t22,(eqlS .eql 44 (.tmp 19) (.tmp 21) (.agg t19) (.agg t21)).run Tryz.prog w2=.ok (.bool t22) w2∧((t22=true→(∃t26a t26n t26c,LdQ 25 g2 7 (.slice t26a t26n t26c) w2∧(∃t28a t28n t28c,LdQ 25 g3 7 (.slice t28a t28n t28c) w2∧(Calls Tryz.prog 107 #[(.slice t26a t26n t26c),(.slice t28a t28n t28c)] w2 fun e29 w3=>∃t29,e29=.returned (.bool t29)∧((t29=true→(∃t33a t33n t33c,LdQ 45 g2 8 (.slice t33a t33n t33c) w3∧(∃t35a t35n t35c,LdQ 45 g3 8 (.slice t35a t35n t35c) w3∧(Calls Tryz.prog 108 #[(.slice t33a t33n t33c),(.slice t35a t35n t35c)] w3 fun e36 w4=>∃t36,e36=.returned (.bool t36)∧(R (.returned (.bool t36)) w4)))))∧(t29=false→(R (.returned (.bool false)) w3)))))))∧(t22=false→(R (.returned (.bool false)) w2)))))))∧((t12==t14)=false→(R (.returned (.bool false)) w2))))))∧((t6==t8)=false→(R (.returned (.bool false)) w2))))))):Calls Tryz.prog 39 #[(.agg a0),(.agg a1)] w R:=calls_of_ev2 (tc:=.sq [.reg (.op .bx (.op .bx (.op .p .nil))),.reg (.op .p (.op (.ld (.int .i64)) (.op .p (.op (.ld (.int .i64)) (.pp 2 (.sp 10 (.op .p (.op (.ld (.int .i64)) (.op .p (.op (.ld (.int .i64)) (.pp 3 (.sp 17 (.op .p (.op (.ld .agg) (.op .p (.op (.ld .agg) (.op (.ld .bool) (.pp 2 (.sp 24 (.op .p (.op (.ld .slice) (.op .p (.op (.ld .slice) (.op (.cl [.bool]) (.pp 2 (.sp 31 (.op .p (.op (.ld .slice) (.op .p (.op (.ld .slice) (.op (.cl [.bool]) (.pp 2 .nil)))))) (.pp 7 .nil)))))))) (.pp 14 .nil)))))))) (.pp 21 .nil))))))) (.pp 28 .nil)))))))] .leaf) Tryz.func39 (by kernel_rfl) (by kernel_rfl) h

theorem catalog_Copy_vc (a0:Array Value) (w:World) (R:Ending→World→Prop) (h:∃g1 w1,(Instr.box 47 (.agg a0)).run Tryz.prog w=.ok (.pointer (some ⟨g1,0,none⟩)) w1∧(∃g2 w2,AlQ 47 g2 w1 w2∧(∃S:World→Prop,S w2.drew∧(∃t4a t4n t4c,(∀w',S w'→LdQ 25 g1 7 (.slice t4a t4n t4c) w')∧(∃t7a t7n t7c,(∀w',S w'→LdQ 45 g1 8 (.slice t7a t7n t7c) w')∧(Calls Tryz.prog 109 #[(.slice t4a t4n t4c)] w2.drew fun e5 w3=>∃t5a t5n t5c,e5=.returned (.slice t5a t5n t5c)∧(∃S_1:World→Prop,(∀w',S_1 w'→S w')∧S_1 w3∧(Calls Tryz.prog 110 #[(.slice t7a t7n t7c)] w3 fun e8 w4=>∃t8a t8n t8c,e8=.returned (.slice t8a t8n t8c)∧(∃S_2:World→Prop,(∀w',S_2 w'→S_1 w')∧S_2 w4∧(∃w5,StQ 25 g1 7 (.slice t5a t5n t5c) w4 w5∧(∃w6,StQ 45 g1 8 (.slice t8a t8n t8c) w5 w6∧(∃t11,LdQ 47 g1 0 (.agg t11) w6∧(∃w7,StQ 47 g2 0 (.agg t11) w6 w7∧(∃r2,(loadVar 47 ⟨g2,0,none⟩).run Tryz.prog w7=.ok r2 w7∧(R (.returned r2) w7))))))))))))))):Calls Tryz.prog 40 #[(.agg a0)] w R:=calls_of_ev2 (tc:=.sq [.reg (.op .bx (.op .bx .nil)),.drawS (.tks [0,3] (.ts 1 .slice (.ts 4 .slice (.go 2 (.cl [.slice]) (.tk 6 .p (.go 5 (.cl [.slice]) (.go 7 .u (.tk 8 .p (.go 9 .u .nil))))))))) [7,8,9],.reg (.op (.ld .agg) (.op .u .nil))] .leaf) Tryz.func40 (by kernel_rfl) (by kernel_rfl) h

theorem slices_Equal_api_Snapshot_api_Snapshot_vc (a0a:Option Addr) (a0n:Nat) (a0c:Nat) (a1a:Option Addr) (a1n:Nat) (a1c:Nat) (w:World) (R:Ending→World→Prop) (h:(((a0n:Int) != (a1n:Int))=true→(R (.returned (.bool false)) w))∧(((a0n:Int) != (a1n:Int))=false→(∃(I:Int→World→Prop) (μ:Int→World→Nat),I 0 w∧(∀x13,∀w1,I x13 w1→((decide (x13<(a0n:Int))=true→(∃S:World→Prop,S w1.drew∧(∃t18b t18o,a0a=some ⟨t18b,t18o,none⟩∧0≤x13∧x13<(a0n:Int)∧(∃t22b t22o,a1a=some ⟨t22b,t22o,none⟩∧0≤x13∧x13<(a1n:Int)∧(∃t19,(∀w',S w'→LdQ 89 t18b (t18o+Int.toNat x13*36) (.agg t19) w')∧(∃t23,(∀w',S w'→LdQ 89 t22b (t22o+Int.toNat x13*36) (.agg t23) w')∧(∃t24,(∀w',S w'→(eqlS .neq 89 (.tmp 19) (.tmp 23) (.agg t19) (.agg t23)).run Tryz.prog w'=.ok (.bool t24) w')∧((t24=true→(R (.returned (.bool false)) w1.drew))∧(t24=false→(I (IntKind.wrap .i64 (x13+1)) w1.drew∧μ (IntKind.wrap .i64 (x13+1)) w1.drew<μ x13 w1))))))))))∧(decide (x13<(a0n:Int))=false→(R (.returned (.bool true)) w1))))))):Calls Tryz.prog 107 #[(.slice a0a a0n a0c),(.slice a1a a1n a1c)] w R:=calls_of_ev2 (tc:=.sq [.rg 1,.seq (.rg 5) (.cond (.seq (.rg 1) .leaf) .leaf),.seq (.rg 3) (.blk (.loop (lr [(4,2),(13,13)]) [13] [.int .i64] (.sq [.rg 1,.cond .leaf .leaf,.blk (.sq [.rg 2,.drawS (.tks [0,1] (.tk 2 .ix (.tks [4,5] (.tk 6 .ix (.ts 3 .agg (.ts 7 .agg (.ts 8 .bool .nil))))))) []] (.cond (.seq (.rg 1) .leaf) .leaf))] (.rg 2)))),.rg 1] .leaf) Tryz.func107 (by kernel_rfl) (by kernel_rfl) h

theorem slices_Equal_api_Pack_api_Pack_vc (a0a:Option Addr) (a0n:Nat) (a0c:Nat) (a1a:Option Addr) (a1n:Nat) (a1c:Nat) (w:World) (R:Ending→World→Prop) (h:(((a0n:Int) != (a1n:Int))=true→(R (.returned (.bool false)) w))∧(((a0n:Int) != (a1n:Int))=false→(∃(I:Int→World→Prop) (μ:Int→World→Nat),I 0 w∧(∀x13,∀w1,I x13 w1→((decide (x13<(a0n:Int))=true→(∃S:World→Prop,S w1.drew∧(∃t18b t18o,a0a=some ⟨t18b,t18o,none⟩∧0≤x13∧x13<(a0n:Int)∧(∃t22b t22o,a1a=some ⟨t22b,t22o,none⟩∧0≤x13∧x13<(a1n:Int)∧(∃t19,(∀w',S w'→LdQ 91 t18b (t18o+Int.toNat x13*3) (.agg t19) w')∧(∃t23,(∀w',S w'→LdQ 91 t22b (t22o+Int.toNat x13*3) (.agg t23) w')∧(∃t24,(∀w',S w'→(eqlS .neq 91 (.tmp 19) (.tmp 23) (.agg t19) (.agg t23)).run Tryz.prog w'=.ok (.bool t24) w')∧((t24=true→(R (.returned (.bool false)) w1.drew))∧(t24=false→(I (IntKind.wrap .i64 (x13+1)) w1.drew∧μ (IntKind.wrap .i64 (x13+1)) w1.drew<μ x13 w1))))))))))∧(decide (x13<(a0n:Int))=false→(R (.returned (.bool true)) w1))))))):Calls Tryz.prog 108 #[(.slice a0a a0n a0c),(.slice a1a a1n a1c)] w R:=calls_of_ev2 (tc:=.sq [.rg 1,.seq (.rg 5) (.cond (.seq (.rg 1) .leaf) .leaf),.seq (.rg 3) (.blk (.loop (lr [(4,2),(13,13)]) [13] [.int .i64] (.sq [.rg 1,.cond .leaf .leaf,.blk (.sq [.rg 2,.drawS (.tks [0,1] (.tk 2 .ix (.tks [4,5] (.tk 6 .ix (.ts 3 .agg (.ts 7 .agg (.ts 8 .bool .nil))))))) []] (.cond (.seq (.rg 1) .leaf) .leaf))] (.rg 2)))),.rg 1] .leaf) Tryz.func108 (by kernel_rfl) (by kernel_rfl) h

theorem slices_Clone_api_Snapshot_api_Snapshot_vc (a0a:Option Addr) (a0n:Nat) (a0c:Nat) (w:World) (R:Ending→World→Prop) (h:(a0a.isNone=true→(R (.returned (.slice none 0 0)) w))∧(a0a.isNone=false→(∃t5a t5n t5c w1,(Instr.buildSlice 25 0 #[]).run Tryz.prog w=.ok (.slice t5a t5n t5c) w1∧(∃t7a t7n t7c w2,(Builtin.append_ #[25,25] 25 #[(.slice t5a t5n t5c),(.slice a0a a0n a0c)]).run Tryz.prog w1=.ok (.slice t7a t7n t7c) w2∧(R (.returned (.slice t7a t7n t7c)) w2))))):Calls Tryz.prog 109 #[(.slice a0a a0n a0c)] w R:=calls_of_ev2 (tc:=.sq [.rg 1,.seq (.rg 2) (.cond (.seq (.rg 1) .leaf) .leaf),.reg (.op (.r .slice) (.op .p (.op (.r .slice) (.op .p .nil))))] .leaf) Tryz.func109 (by kernel_rfl) (by kernel_rfl) h

theorem slices_Clone_api_Pack_api_Pack_vc (a0a:Option Addr) (a0n:Nat) (a0c:Nat) (w:World) (R:Ending→World→Prop) (h:(a0a.isNone=true→(R (.returned (.slice none 0 0)) w))∧(a0a.isNone=false→(∃t5a t5n t5c w1,(Instr.buildSlice 45 0 #[]).run Tryz.prog w=.ok (.slice t5a t5n t5c) w1∧(∃t7a t7n t7c w2,(Builtin.append_ #[45,45] 45 #[(.slice t5a t5n t5c),(.slice a0a a0n a0c)]).run Tryz.prog w1=.ok (.slice t7a t7n t7c) w2∧(R (.returned (.slice t7a t7n t7c)) w2))))):Calls Tryz.prog 110 #[(.slice a0a a0n a0c)] w R:=calls_of_ev2 (tc:=.sq [.rg 1,.seq (.rg 2) (.cond (.seq (.rg 1) .leaf) .leaf),.reg (.op (.r .slice) (.op .p (.op (.r .slice) (.op .p .nil))))] .leaf) Tryz.func110 (by kernel_rfl) (by kernel_rfl) h

theorem slices_Contains_string_string_vc (a0a:Option Addr) (a0n:Nat) (a0c:Nat) (a1:ByteArray) (w:World) (R:Ending→World→Prop) (h:Calls Tryz.prog 183 #[(.slice a0a a0n a0c),(.string a1)] w fun e7 w1=>∃t7,e7=.returned (.int .i64 t7)∧(R (.returned (.bool (decide (t7≥(0:Int))))) w1)):Calls Tryz.prog 88 #[(.slice a0a a0n a0c),(.string a1)] w R:=calls_of_ev2 (tc:=.sq [.rg 1,.reg (.pp 2 (.op (.cl [.int .i64]) (.pp 2 .nil)))] .leaf) Tryz.func88 (by kernel_rfl) (by kernel_rfl) h

theorem slices_Index_string_string_vc (a0a:Option Addr) (a0n:Nat) (a0c:Nat) (a1:ByteArray) (w:World) (R:Ending→World→Prop) (h:∃(I:Int→World→Prop) (μ:Int→World→Nat),I 0 w∧(∀x8,∀w1,I x8 w1→((decide (x8<(a0n:Int))=true→(∃t14b t14o,a0a=some ⟨t14b,t14o,none⟩∧0≤x8∧x8<(a0n:Int)∧(∃t15,LdQ 9 t14b (t14o+Int.toNat x8*1) (.string t15) w1∧(((a1.toList==t15.toList)=true→(R (.returned (.int .i64 x8)) w1))∧((a1.toList==t15.toList)=false→(I (IntKind.wrap .i64 (x8+1)) w1∧μ (IntKind.wrap .i64 (x8+1)) w1<μ x8 w1))))))∧(decide (x8<(a0n:Int))=false→(R (.returned (.int .i64 (-1))) w1))))):Calls Tryz.prog 183 #[(.slice a0a a0n a0c),(.string a1)] w R:=calls_of_ev2 (tc:=.sq [.rg 1,.seq (.rg 3) (.blk (.loop (lr [(4,2),(8,11)]) [8] [.int .i64] (.sq [.rg 1,.cond .leaf .leaf,.blk (.sq [.rg 2,.reg (.pp 3 (.op .ix (.op (.ld .str) (.op .p .nil))))] (.cond (.seq (.rg 2) .leaf) .leaf))] (.rg 2)))),.rg 1] .leaf) Tryz.func183 (by kernel_rfl) (by kernel_rfl) h

end Go.Proofs.YtpmhjnhgpplmnaaGreatDoor
end
