/- The proof of RepoStoresCardSaid, part 2: what it rests on (conditions: those that each theorem names). -/
import Derived.Test.YtpmhjnhgpplmnaaGreatDoorU1
import Derived.Test.YtpmhjnhgpplmnaaGreatDoorRows
import Derived.LaidMore
import Derived.LaidHandle
import Derived.Lib.LaidTab
import Derived.Stop.Joined
import Derived.Laws.StructEq
import Derived.Laws.CopyRow
import Derived.Laws.IdiomCopy
section
namespace Go.Proofs.YtpmhjnhgpplmnaaGreatDoor
open Go Go.Proofs.YtpmhjnhgpplmnaaGreatDoor.Sx
set_option maxRecDepth 100000
variable (w:World) (R:Ending→World→Prop)
theorem BE (h:Alz 462 w fun a b=>Buz 394 #[(0,.int .u32 1779033703),(1,.int .u32 3144134277),(2,.int .u32 1013904242),(3,.int .u32 2773480762),(4,.int .u32 1359893119),(5,.int .u32 2600822924),(6,.int .u32 528734635),(7,.int .u32 1541459225)] b fun c=>Buz 462 #[(0,.agg c)] b fun c=>Stz 462 a 0 (.agg c) b fun b=>∃c,(loadVar 462 ⟨a,0,none⟩).run Tryz.prog b=.ok c b∧R (.returned c) b):Calls Tryz.prog 361 #[] w R:=af 0x68383c07c Tryz.func361 (by kernel_rfl) h
theorem B6 (a b:Int) (h:Calls Tryz.prog 383 #[.int .u32 a,.int .i64 (IntKind.wrap .i64 (0-b))] w fun a b=>∃c,a=.returned (.int .u32 c)∧R (.returned (.int .u32 c)) b):Calls Tryz.prog 381 #[.int .u32 a,.int .i64 b] w R:=af 0x1214ec1d Tryz.func381 (by kernel_rfl) h
theorem qH (a b:Nat) (c:Option Addr) (d e:Nat) (h:Caz 380 #[.slice c d e] w fun c d=>Alz 393 d fun d e=>Stz 393 d 0 (.agg c) e fun c=>∃e:World→Prop,e c.drew∧∃f,(∀c,e c→LdQ 370 a b (.int .u32 f) c)∧∃g,(∀c,e c→LdQ 370 a (b+1) (.int .u32 g) c)∧∃h,(∀c,e c→LdQ 370 a (b+2) (.int .u32 h) c)∧∃i,(∀c,e c→LdQ 370 a (b+3) (.int .u32 i) c)∧∃j,(∀c,e c→LdQ 370 a (b+4) (.int .u32 j) c)∧∃k,(∀c,e c→LdQ 370 a (b+5) (.int .u32 k) c)∧∃l,(∀c,e c→LdQ 370 a (b+6) (.int .u32 l) c)∧∃m,(∀c,e c→LdQ 370 a (b+7) (.int .u32 m) c)∧∃(e:Int→Int→Int→Int→Int→Int→Int→Int→Int→World→Prop) (n:Int→Int→Int→Int→Int→Int→Int→Int→Int→World→Nat),e f g h i j k l m 0 c.drew∧∀c f g h i j k l m o,e c f g h i j k l m o→Ifz (decide (m<(64:Int))) (∃a:World→Prop,a o.drew∧0≤m∧m<(64:Int)∧0≤m∧m<(64:Int)∧∃b,(∀c,a c→LdQ 370 6 (0+Int.toNat m*1) (.int .u32 b) c)∧∃p,(∀b,a b→LdQ 370 d (0+Int.toNat m*1) (.int .u32 p) b)∧Calls Tryz.prog 381 #[.int .u32 i,.int .i64 6] o.drew fun d q=>∃r,d=.returned (.int .u32 r)∧∃d:World→Prop,(∀b,d b→a b)∧d q∧Calls Tryz.prog 381 #[.int .u32 i,.int .i64 11] q fun a q=>∃s,a=.returned (.int .u32 s)∧∃a:World→Prop,(∀b,a b→d b)∧a q∧Calls Tryz.prog 381 #[.int .u32 i,.int .i64 25] q fun d q=>∃t,d=.returned (.int .u32 t)∧∃d:World→Prop,(∀b,d b→a b)∧d q∧Calls Tryz.prog 381 #[.int .u32 c,.int .i64 2] q fun a d=>∃q,a=.returned (.int .u32 q)∧Calls Tryz.prog 381 #[.int .u32 c,.int .i64 13] d fun a d=>∃u,a=.returned (.int .u32 u)∧Calls Tryz.prog 381 #[.int .u32 c,.int .i64 22] d fun a d=>∃v,a=.returned (.int .u32 v)∧e (IntKind.wrap .u32 (IntKind.wrap .u32 (IntKind.wrap .u32 (IntKind.wrap .u32 (IntKind.wrap .u32 (l+aU .u32 (aU .u32 r s) t)+aU .u32 (eo .u32 i j) (eo .u32 (aU .u32 (IntKind.max .u32) i) k))+b)+p)+IntKind.wrap .u32 (aU .u32 (aU .u32 q u) v+aU .u32 (aU .u32 (eo .u32 c f) (eo .u32 c g)) (eo .u32 f g)))) c f g (IntKind.wrap .u32 (h+IntKind.wrap .u32 (IntKind.wrap .u32 (IntKind.wrap .u32 (IntKind.wrap .u32 (l+aU .u32 (aU .u32 r s) t)+aU .u32 (eo .u32 i j) (eo .u32 (aU .u32 (IntKind.max .u32) i) k))+b)+p))) i j k (IntKind.wrap .i64 (m+1)) d∧n (IntKind.wrap .u32 (IntKind.wrap .u32 (IntKind.wrap .u32 (IntKind.wrap .u32 (IntKind.wrap .u32 (l+aU .u32 (aU .u32 r s) t)+aU .u32 (eo .u32 i j) (eo .u32 (aU .u32 (IntKind.max .u32) i) k))+b)+p)+IntKind.wrap .u32 (aU .u32 (aU .u32 q u) v+aU .u32 (aU .u32 (eo .u32 c f) (eo .u32 c g)) (eo .u32 f g)))) c f g (IntKind.wrap .u32 (h+IntKind.wrap .u32 (IntKind.wrap .u32 (IntKind.wrap .u32 (IntKind.wrap .u32 (l+aU .u32 (aU .u32 r s) t)+aU .u32 (eo .u32 i j) (eo .u32 (aU .u32 (IntKind.max .u32) i) k))+b)+p))) i j k (IntKind.wrap .i64 (m+1)) d<n c f g h i j k l m o) (Buz 394 #[(0,.int .u32 c),(1,.int .u32 f),(2,.int .u32 g),(3,.int .u32 h),(4,.int .u32 i),(5,.int .u32 j),(6,.int .u32 k),(7,.int .u32 l)] o (fun c=>∃(d:Int→World→Prop) (e:Int→World→Nat),d 0 o∧∀f g,d f g→Ifz (decide (f<(8:Int))) (∃h,(Instr.index 394 (.agg c) (.int .i64 f)).run Tryz.prog g=.ok (.int .u32 h) g∧∃c:World→Prop,c g.drew∧0≤f∧f<(8:Int)∧∃i,(∀d,c d→LdQ 370 a (b+Int.toNat f*1) (.int .u32 i) d)∧0≤f∧f<(8:Int)∧Stz 370 a (b+Int.toNat f*1) (.int .u32 (IntKind.wrap .u32 (i+h))) g.drew fun a=>d (IntKind.wrap .i64 (f+1)) a∧e (IntKind.wrap .i64 (f+1)) a<e f g) (R (.returned (.tuple #[])) g)))):Calls Tryz.prog 376 #[.pointer (some ⟨a,b,none⟩),.slice c d e] w R:=af 0x2b11b1041b451a1071253191863254132104250d231c8200321d01128c12828c2282980183182c2b2cb01e2214d21412141c003b3a2e2a191862218740512184421824239322d3538102f152c12b29281f1e1d1c1b1a63101d2522d8200321d0222222221917c18527f7c1b52981d20005f124f305e124a305d123d305c1238305b122b305a121e30591219305812434e4d4c4b49483f3e3c3b3a392f2e2d2c2a29281f1d1c1b1a187653210482520678141c Tryz.func376 (by kernel_rfl) h
theorem qY (a b:Nat) (c:Option Addr) (d e:Nat) (h:Liz 3 a (b+9) w fun f=>∃g,(Instr.storeAt 3 (.pointer (some ⟨a,b+9,none⟩)) (.int .i64 (IntKind.wrap .i64 (f+(d:Int))))).run Tryz.prog w=.ok () g∧Llz 26 a (b+8) g fun f h i=>∃f:Option Addr→Nat→Nat→World→Prop,Ifz (decide ((h:Int)>0)) (Llz 26 a (b+8) g (fun h i j=>∃h:World→Prop,h g.drew∧0≤(if (d:Int)<(IntKind.wrap .i64 (64- (i:Int))) then (d:Int) else (IntKind.wrap .i64 (64- (i:Int))))∧(if (d:Int)<(IntKind.wrap .i64 (64- (i:Int))) then (d:Int) else (IntKind.wrap .i64 (64- (i:Int))))≤(e:Int)∧∃j k l,(∀c,h c→LdQ 26 a (b+8) (.slice j k l) c)∧Apz 26 (.slice j k l) (.slice c (Int.toNat (if (d:Int)<(IntKind.wrap .i64 (64- (i:Int))) then (d:Int) else (IntKind.wrap .i64 (64- (i:Int))))) e) g.drew fun g j k l=>∃m:World→Prop,(∀a,m a→h a)∧m l∧Stz 26 a (b+8) (.slice g j k) l fun g=>0≤(if (d:Int)<(IntKind.wrap .i64 (64- (i:Int))) then (d:Int) else (IntKind.wrap .i64 (64- (i:Int))))∧(if (d:Int)<(IntKind.wrap .i64 (64- (i:Int))) then (d:Int) else (IntKind.wrap .i64 (64- (i:Int))))≤(d:Int)∧(d:Int)≤(e:Int)∧∀h,lT 1 c (Int.toNat (if (d:Int)<(IntKind.wrap .i64 (64- (i:Int))) then (d:Int) else (IntKind.wrap .i64 (64- (i:Int))))) e h→Llz 26 a (b+8) g fun c j k=>Ifz (decide ((j:Int)<64)) (R (.returned (.tuple #[])) g) (Llz 26 a (b+8) g (fun c j k=>Calls Tryz.prog 376 #[.pointer (some ⟨a,b,none⟩),.slice c j k] g fun c g=>c=.returned (.tuple #[])∧Llz 26 a (b+8) g fun c j k=>0≤(0:Int)∧0≤(k:Int)∧Stz 26 a (b+8) (.slice c 0 k) g fun a=>f h (d-Int.toNat (if (d:Int)<(IntKind.wrap .i64 (64- (i:Int))) then (d:Int) else (IntKind.wrap .i64 (64- (i:Int))))) (e-Int.toNat (if (d:Int)<(IntKind.wrap .i64 (64- (i:Int))) then (d:Int) else (IntKind.wrap .i64 (64- (i:Int))))) a)))) (f c d e g)∧∀c d e g,f c d e g→∃(f:Option Addr→Nat→Nat→World→Prop) (h:Option Addr→Nat→Nat→World→Nat),f c d e g∧∀c d e g,f c d e g→Ifz (decide ((d:Int)≥64)) (0≤(64:Int)∧64≤(e:Int)∧Calls Tryz.prog 376 #[.pointer (some ⟨a,b,none⟩),.slice c 64 e] g fun a b=>a=.returned (.tuple #[])∧0≤(64:Int)∧64≤(d:Int)∧(d:Int)≤(e:Int)∧∀a,lT 1 c 64 e a→f a (d-64) (e-64) b∧h a (d-64) (e-64) b<h c d e g) (Llz 26 a (b+8) g (fun f h i=>Apz 26 (.slice f h i) (.slice c d e) g fun c d e f=>Stz 26 a (b+8) (.slice c d e) f fun a=>R (.returned (.tuple #[])) a))):Calls Tryz.prog 362 #[.pointer (some ⟨a,b,none⟩),.slice c d e] w R:=af 0x6d75173421019110049dc80033d271111197f112982006d9734210047342c0030d73ec2019dc11b1041b41a192272184743671653210625206273ec3711115b2c14113a0d73ec2065203ec Tryz.func362 (by kernel_rfl) h
theorem uZ (a:Array Value) (h:Bxz 462 (.agg a) w fun a b=>Alz 39 b fun b c=>Liz 3 a 9 c fun d=>Llz 26 a 8 c fun e f g=>Clz 150 #[.slice e f g] c fun c e f g=>Stz 26 a 8 (.slice c e f) g fun c=>Mkz 26 (.int .i64 0) (.int .i64 80) c fun c e f g=>Bsz 26 1 #[(0,.int .u8 128)] g fun g h i j=>Apz 26 (.slice c e f) (.slice g h i) j fun c e f g=>∃(h:Option Addr→Nat→Nat→World→Prop) (i:Option Addr→Nat→Nat→World→Nat),h c e f g∧∀c e f g,h c e f g→Liz 3 a 9 g fun j=>Ifz (Int.tmod (IntKind.wrap .i64 (IntKind.wrap .i64 (j+(e:Int))+(8:Int))) (64:Int) != (0:Int)) (Bsz 26 1 #[(0,.int .u8 0)] g (fun a b d j=>Apz 26 (.slice c e f) (.slice a b d) j fun a b d j=>h a b d j∧i a b d j<i c e f g)) (∃(h:Option Addr→Nat→Nat→Int→World→Prop) (i:Option Addr→Nat→Nat→Int→World→Nat),h c e f 0 g∧∀c e f g j,h c e f g j→Ifz (decide (g<(8:Int))) (0≤IntKind.wrap .i64 ((56:Int)-IntKind.wrap .i64 ((8:Int)*g))∧Bsz 26 1 #[(0,.int .u8 (IntKind.wrap .u8 (dh .u64 (IntKind.wrap .u64 (IntKind.wrap .u64 d*(8:Int))) (IntKind.wrap .i64 ((56:Int)-IntKind.wrap .i64 ((8:Int)*g))))))] j fun a b d k=>Apz 26 (.slice c e f) (.slice a b d) k fun a b d k=>h a b d (IntKind.wrap .i64 (g+1)) k∧i a b d (IntKind.wrap .i64 (g+1)) k<i c e f g j) (Calls Tryz.prog 362 #[.pointer (some ⟨a,0,none⟩),.slice c e f] j (fun c d=>c=.returned (.tuple #[])∧Alz 39 d fun c d=>Laz 394 a 0 d fun a=>∃(e:Int→World→Prop) (f:Int→World→Nat),e 0 d∧∀d g,e d g→Ifz (decide (d<(8:Int))) (∃b,(Instr.index 394 (.agg a) (.int .i64 d)).run Tryz.prog g=.ok (.int .u32 b) g∧0≤IntKind.wrap .i64 ((4:Int)*d)∧IntKind.wrap .i64 ((4:Int)*d)<(32:Int)∧Stz 5 c (0+Int.toNat (IntKind.wrap .i64 ((4:Int)*d))*1) (.int .u8 (IntKind.wrap .u8 (dh .u32 b (24:Int)))) g fun a=>0≤IntKind.wrap .i64 (IntKind.wrap .i64 ((4:Int)*d)+(1:Int))∧IntKind.wrap .i64 (IntKind.wrap .i64 ((4:Int)*d)+(1:Int))<(32:Int)∧Stz 5 c (0+Int.toNat (IntKind.wrap .i64 (IntKind.wrap .i64 ((4:Int)*d)+(1:Int)))*1) (.int .u8 (IntKind.wrap .u8 (dh .u32 b (16:Int)))) a fun a=>0≤IntKind.wrap .i64 (IntKind.wrap .i64 ((4:Int)*d)+(2:Int))∧IntKind.wrap .i64 (IntKind.wrap .i64 ((4:Int)*d)+(2:Int))<(32:Int)∧Stz 5 c (0+Int.toNat (IntKind.wrap .i64 (IntKind.wrap .i64 ((4:Int)*d)+(2:Int)))*1) (.int .u8 (IntKind.wrap .u8 (dh .u32 b (8:Int)))) a fun a=>0≤IntKind.wrap .i64 (IntKind.wrap .i64 ((4:Int)*d)+(3:Int))∧IntKind.wrap .i64 (IntKind.wrap .i64 ((4:Int)*d)+(3:Int))<(32:Int)∧Stz 5 c (0+Int.toNat (IntKind.wrap .i64 (IntKind.wrap .i64 ((4:Int)*d)+(3:Int)))*1) (.int .u8 (IntKind.wrap .u8 b)) a fun a=>e (IntKind.wrap .i64 (d+1)) a∧f (IntKind.wrap .i64 (d+1)) a<f d g) (Laz 39 c 0 g (fun a=>Stz 39 b 0 (.agg a) g fun a=>∃c,(loadVar 39 ⟨b,0,none⟩).run Tryz.prog a=.ok c a∧R (.returned c) a)))))):Calls Tryz.prog 363 #[.agg a] w R:=af 0x683c2b0686868682e210d231c8200321d0116813f682729801831c207c0041c2b01757517a5212d8200321d07213f1421d3f242981d2017575118003062031c2711411b2c14298201757575c061714731c0e031c077c Tryz.func363 (by kernel_rfl) h
theorem EU (h:Caz 361 #[] w fun a b=>Buz 465 #[(0,.agg a)] b fun a=>Bxz 465 (.agg a) b fun a b=>R (.returned (.pointer (some ⟨a,0,none⟩))) b):Calls Tryz.prog 324 #[] w R:=af 0x1783814c1d Tryz.func324 (by kernel_rfl) h
theorem pY (a b:Nat) (c:Option Addr) (d e:Nat) (h:∃(e:Int→World→Prop) (f:Int→World→Nat),e 0 w∧∀g h,e g h→Ifz (decide (g<(d:Int))) (∃i j,c=some ⟨i,j,none⟩∧0≤g∧g<(d:Int)∧Llz 26 i (j+Int.toNat g*1) h fun c d i=>Calls Tryz.prog 362 #[.pointer (some ⟨a,b,none⟩),.slice c d i] h fun a b=>a=.returned (.tuple #[])∧e (IntKind.wrap .i64 (g+1)) b∧f (IntKind.wrap .i64 (g+1)) b<f g h) (R (.returned (.tuple #[])) h)):Calls Tryz.prog 325 #[.pointer (some ⟨a,b,none⟩),.slice c d e] w R:=af 0x2b00442101738c8200321d0111a11a1a152983d072d2 Tryz.func325 (by kernel_rfl) h
theorem sP (a b:Nat) (h:Alz 39 w fun c d=>Laz 462 a b d fun a=>Caz 363 #[.agg a] d fun a b=>Stz 39 c 0 (.agg a) b fun a=>∃b,(loadVar 39 ⟨c,0,none⟩).run Tryz.prog a=.ok b a∧R (.returned b) a):Calls Tryz.prog 326 #[.pointer (some ⟨a,b,none⟩)] w R:=af 0x681483ec072d207c Tryz.func326 (by kernel_rfl) h
theorem EB (a:Option Addr) (b c:Nat) (h:Alz 39 w fun d e=>Calls Tryz.prog 324 #[] e fun e f=>∃g h,e=.returned (.pointer (some ⟨g,h,none⟩))∧Calls Tryz.prog 325 #[.pointer (some ⟨g,h,none⟩),.slice a b c] f fun a b=>a=.returned (.tuple #[])∧Caz 326 #[.pointer (some ⟨g,h,none⟩)] b fun a b=>Stz 39 d 0 (.agg a) b fun a=>∃b,(loadVar 39 ⟨d,0,none⟩).run Tryz.prog a=.ok b a∧R (.returned b) a):Calls Tryz.prog 323 #[.slice a b c] w R:=af 0x68141c004dc01614c07c Tryz.func323 (by kernel_rfl) h
theorem zS (a:Option Addr) (b c:Nat) (h:Alz 368 w fun d e=>∃f:World→Prop,Ifz (decide ((b:Int)>64)) (Bsz 24 1 #[(0,.slice a b c)] e (fun a b c e=>Caz 323 #[.slice a b c] e fun a b=>Alz 39 b fun b c=>Stz 39 b 0 (.agg a) c fun a=>0≤(64:Int)∧(64:Int)≤64∧0≤(32:Int)∧(32:Int)≤32∧∃c e,(Builtin.copy_ #[26,26] 3 #[.slice (some ⟨d,0,none⟩) 64 64,.slice (some ⟨b,0,none⟩) 32 32]).run Tryz.prog a.drew=.ok (.int .i64 c) e∧f e)) (0≤(64:Int)∧(64:Int)≤64∧∃g h,(Builtin.copy_ #[26,26] 3 #[.slice (some ⟨d,0,none⟩) 64 64,.slice a b c]).run Tryz.prog e=.ok (.int .i64 g) h∧f h)∧∀a,f a→Calls Tryz.prog 324 #[] a fun a b=>∃c e,a=.returned (.pointer (some ⟨c,e,none⟩))∧Buz 424 #[(0,.pointer (some ⟨c,e,none⟩))] b fun a=>Bxz 424 (.agg a) b fun a b=>Laz 368 d 0 b fun c=>∃(e:Int→World→Prop) (f:Int→World→Nat),e 0 b∧∀b g,e b g→Ifz (decide (b<(64:Int))) (∃h,(Instr.index 368 (.agg c) (.int .i64 b)).run Tryz.prog g=.ok (.int .u8 h) g∧0≤b∧b<(64:Int)∧Stz 5 a (1+Int.toNat b*1) (.int .u8 (aU .u8 h (92:Int))) g fun a=>0≤b∧b<(64:Int)∧Stz 5 d (0+Int.toNat b*1) (.int .u8 (aU .u8 h (54:Int))) a fun a=>e (IntKind.wrap .i64 (b+1)) a∧f (IntKind.wrap .i64 (b+1)) a<f b g) (0≤(64:Int)∧(64:Int)≤64∧Bsz 24 1 #[(0,.slice (some ⟨d,0,none⟩) 64 64)] g fun b c d e=>Calls Tryz.prog 270 #[.pointer (some ⟨a,0,none⟩),.slice b c d] e fun b c=>b=.returned (.tuple #[])∧R (.returned (.pointer (some ⟨a,0,none⟩))) c)):Calls Tryz.prog 269 #[.slice a b c] w R:=af 0x2d0047591c2b068e106862c0d131c8200321d0113812838262980183c201783614c005191301002246116014067814751c300191b142a3d207c1d Tryz.func269 (by kernel_rfl) h
theorem kR (a b:Nat) (c:Option Addr) (d e:Nat) (h:Lpz 421 a b w fun a b=>Calls Tryz.prog 325 #[.pointer (some ⟨a,b,none⟩),.slice c d e] w fun a b=>a=.returned (.tuple #[])∧R (.returned (.tuple #[])) b):Calls Tryz.prog 270 #[.pointer (some ⟨a,b,none⟩),.slice c d e] w R:=af 0x4163e162d Tryz.func270 (by kernel_rfl) h
theorem uN (a b:Nat) (h:Alz 39 w fun c d=>Lpz 421 a b d fun e f=>Caz 326 #[.pointer (some ⟨e,f,none⟩)] d fun d e=>Alz 39 e fun e f=>Stz 39 e 0 (.agg d) f fun d=>0≤(64:Int)∧(64:Int)≤64∧0≤(32:Int)∧(32:Int)≤32∧Bsz 24 2 #[(0,.slice (some ⟨a,b+1,none⟩) 64 64),(1,.slice (some ⟨e,0,none⟩) 32 32)] d.drew fun a b d e=>Caz 323 #[.slice a b d] e fun a b=>Stz 39 c 0 (.agg a) b fun a=>∃b,(loadVar 39 ⟨c,0,none⟩).run Tryz.prog a=.ok b a∧R (.returned b) a):Calls Tryz.prog 271 #[.pointer (some ⟨a,b,none⟩)] w R:=af 0x18010474818647254641631210324206781463ec072d207c Tryz.func271 (by kernel_rfl) h
theorem FI (a:Option Addr) (b c:Nat) (d:Option Addr) (e f:Nat) (h:Alz 39 w fun g h=>Calls Tryz.prog 269 #[.slice a b c] h fun a b=>∃c h,a=.returned (.pointer (some ⟨c,h,none⟩))∧Calls Tryz.prog 270 #[.pointer (some ⟨c,h,none⟩),.slice d e f] b fun a b=>a=.returned (.tuple #[])∧Caz 271 #[.pointer (some ⟨c,h,none⟩)] b fun a b=>Stz 39 g 0 (.agg a) b fun a=>∃b,(loadVar 39 ⟨g,0,none⟩).run Tryz.prog a=.ok b a∧R (.returned b) a):Calls Tryz.prog 198 #[.slice a b c,.slice d e f] w R:=af 0x68141c004dc016141c07c Tryz.func198 (by kernel_rfl) h
theorem zf (a:Option Addr) (b c:Nat) (d:Option Addr) (e f:Nat) (g:Option Addr) (i j:Nat) (k:Int) (h:Ifz (decide (k<(0:Int))||decide (k>(8160:Int))) (R (.returned (.tuple #[.slice none 0 0,.iface 65 (.int .i64 7)])) w) (Bsz 24 1 #[(0,.slice d e f)] w (fun d e f h=>Caz 198 #[.slice a b c,.slice d e f] h fun a b=>Alz 39 b fun b c=>Stz 39 b 0 (.agg a) c fun a=>∃(c:Option Addr→Nat→Nat→Option Addr→Nat→Nat→Int→World→Prop) (d:Option Addr→Nat→Nat→Option Addr→Nat→Nat→Int→World→Nat),c none 0 0 none 0 0 1 a∧∀a e f h l m n o,c a e f h l m n o→Ifz (decide ((e:Int)<k)) (0≤(32:Int)∧(32:Int)≤32∧Bsz 26 1 #[(0,.int .u8 (IntKind.wrap .u8 n))] o fun k p q r=>Bsz 24 3 #[(0,.slice h l m),(1,.slice g i j),(2,.slice k p q)] r fun g i j k=>Caz 198 #[.slice (some ⟨b,0,none⟩) 32 32,.slice g i j] k fun b g=>Alz 39 g fun g i=>Stz 39 g 0 (.agg b) i fun b=>0≤(32:Int)∧(32:Int)≤32∧Apz 26 (.slice a e f) (.slice (some ⟨g,0,none⟩) 32 32) b fun b i j k=>c b i j (some ⟨g,0,none⟩) 32 32 (IntKind.wrap .i64 (n+1)) k∧d b i j (some ⟨g,0,none⟩) 32 32 (IntKind.wrap .i64 (n+1)) k<d a e f h l m n o) (0≤k∧k≤(f:Int)∧Clz 150 #[.slice a (Int.toNat k) f] o fun a b c d=>R (.returned (.tuple #[.slice a b c,.nilIface])) d)))):Calls Tryz.prog 292 #[.slice a b c,.slice d e f,.slice g i j,.int .i64 k] w R:=af 0xd7149dc3b0175d1019c0678147575429c820034d2077331b12a3a41b2981d22d06781475dc003d302bec22d Tryz.func292 (by kernel_rfl) h
theorem Bf (a:Option Addr) (b c:Nat) (d:Option Addr) (e f:Nat) (h:Ifz ((b:Int) != (e:Int)) (R (.returned (.bool false)) w) (∃(c:Int→Int→World→Prop) (f:Int→Int→World→Nat),c 0 0 w∧∀g h i,c g h i→Ifz (decide (h<(b:Int))) (∃j:World→Prop,j i.drew∧∃k l,a=some ⟨k,l,none⟩∧0≤h∧h<(b:Int)∧∃a b,d=some ⟨a,b,none⟩∧0≤h∧h<(e:Int)∧∃d,(∀a,j a→LdQ 5 k (l+Int.toNat h*1) (.int .u8 d) a)∧∃e,(∀c,j c→LdQ 5 a (b+Int.toNat h*1) (.int .u8 e) c)∧c (bor .u8 g (aU .u8 d e)) (IntKind.wrap .i64 (h+1)) i.drew∧f (bor .u8 g (aU .u8 d e)) (IntKind.wrap .i64 (h+1)) i.drew<f g h i) (R (.returned (.bool (g==(0:Int)))) i))):Calls Tryz.prog 207 #[.slice a b c,.slice d e f] w R:=af 0x3d2b001b1a1932118314357165225312103252d8200321d01211e1521f1e252983d21d001d35d21d Tryz.func207 (by kernel_rfl) h
theorem vY (a:Option Addr) (b c:Nat) (h:Alz 393 w fun c d=>Alz 393 d fun d e=>∃(f:Int→World→Prop) (g:Int→World→Nat),f 0 e∧∀e h,f e h→Ifz (decide (e<(16:Int))) (∃c:World→Prop,c h.drew∧∃i j,a=some ⟨i,j,none⟩∧0≤IntKind.wrap .i64 ((4:Int)*e)∧IntKind.wrap .i64 ((4:Int)*e)<(b:Int)∧∃k l,a=some ⟨k,l,none⟩∧0≤IntKind.wrap .i64 (IntKind.wrap .i64 ((4:Int)*e)+(1:Int))∧IntKind.wrap .i64 (IntKind.wrap .i64 ((4:Int)*e)+(1:Int))<(b:Int)∧∃m n,a=some ⟨m,n,none⟩∧0≤IntKind.wrap .i64 (IntKind.wrap .i64 ((4:Int)*e)+(2:Int))∧IntKind.wrap .i64 (IntKind.wrap .i64 ((4:Int)*e)+(2:Int))<(b:Int)∧∃o p,a=some ⟨o,p,none⟩∧0≤IntKind.wrap .i64 (IntKind.wrap .i64 ((4:Int)*e)+(3:Int))∧IntKind.wrap .i64 (IntKind.wrap .i64 ((4:Int)*e)+(3:Int))<(b:Int)∧∃a,(∀b,c b→LdQ 5 i (j+Int.toNat (IntKind.wrap .i64 ((4:Int)*e))*1) (.int .u8 a) b)∧∃b,(∀a,c a→LdQ 5 k (l+Int.toNat (IntKind.wrap .i64 (IntKind.wrap .i64 ((4:Int)*e)+(1:Int)))*1) (.int .u8 b) a)∧∃i,(∀a,c a→LdQ 5 m (n+Int.toNat (IntKind.wrap .i64 (IntKind.wrap .i64 ((4:Int)*e)+(2:Int)))*1) (.int .u8 i) a)∧∃j,(∀a,c a→LdQ 5 o (p+Int.toNat (IntKind.wrap .i64 (IntKind.wrap .i64 ((4:Int)*e)+(3:Int)))*1) (.int .u8 j) a)∧0≤e∧e<(64:Int)∧∃c,(Instr.storeAt 370 (.pointer (some ⟨d,0+Int.toNat e*1,none⟩)) (.int .u32 (bor .u32 (bor .u32 (bor .u32 (gY .u32 (IntKind.wrap .u32 a) (24:Int)) (gY .u32 (IntKind.wrap .u32 b) (16:Int))) (gY .u32 (IntKind.wrap .u32 i) (8:Int))) (IntKind.wrap .u32 j)))).run Tryz.prog h.drew=.ok () c∧f (IntKind.wrap .i64 (e+1)) c∧g (IntKind.wrap .i64 (e+1)) c<g e h) (∃(a:Int→World→Prop) (b:Int→World→Nat),a 16 h∧∀e f,a e f→Ifz (decide (e<(64:Int))) (∃c:World→Prop,c f.drew∧0≤IntKind.wrap .i64 (e- (15:Int))∧IntKind.wrap .i64 (e- (15:Int))<(64:Int)∧0≤IntKind.wrap .i64 (e- (15:Int))∧IntKind.wrap .i64 (e- (15:Int))<(64:Int)∧0≤IntKind.wrap .i64 (e- (15:Int))∧IntKind.wrap .i64 (e- (15:Int))<(64:Int)∧∃g,(∀a,c a→LdQ 370 d (0+Int.toNat (IntKind.wrap .i64 (e- (15:Int)))*1) (.int .u32 g) a)∧∃h,(∀a,c a→LdQ 370 d (0+Int.toNat (IntKind.wrap .i64 (e- (15:Int)))*1) (.int .u32 h) a)∧∃i,(∀a,c a→LdQ 370 d (0+Int.toNat (IntKind.wrap .i64 (e- (15:Int)))*1) (.int .u32 i) a)∧Calls Tryz.prog 381 #[.int .u32 g,.int .i64 7] f.drew fun g j=>∃k,g=.returned (.int .u32 k)∧∃g:World→Prop,(∀a,g a→c a)∧g j∧Calls Tryz.prog 381 #[.int .u32 h,.int .i64 18] j fun c h=>∃j,c=.returned (.int .u32 j)∧∃c:World→Prop,(∀a,c a→g a)∧c h∧∃c:World→Prop,c h.drew∧0≤IntKind.wrap .i64 (e- (2:Int))∧IntKind.wrap .i64 (e- (2:Int))<(64:Int)∧0≤IntKind.wrap .i64 (e- (2:Int))∧IntKind.wrap .i64 (e- (2:Int))<(64:Int)∧0≤IntKind.wrap .i64 (e- (2:Int))∧IntKind.wrap .i64 (e- (2:Int))<(64:Int)∧∃g,(∀a,c a→LdQ 370 d (0+Int.toNat (IntKind.wrap .i64 (e- (2:Int)))*1) (.int .u32 g) a)∧∃l,(∀a,c a→LdQ 370 d (0+Int.toNat (IntKind.wrap .i64 (e- (2:Int)))*1) (.int .u32 l) a)∧∃m,(∀a,c a→LdQ 370 d (0+Int.toNat (IntKind.wrap .i64 (e- (2:Int)))*1) (.int .u32 m) a)∧Calls Tryz.prog 381 #[.int .u32 g,.int .i64 17] h.drew fun g h=>∃n,g=.returned (.int .u32 n)∧∃g:World→Prop,(∀a,g a→c a)∧g h∧Calls Tryz.prog 381 #[.int .u32 l,.int .i64 19] h fun c h=>∃l,c=.returned (.int .u32 l)∧∃c:World→Prop,(∀a,c a→g a)∧c h∧∃c:World→Prop,c h.drew∧0≤IntKind.wrap .i64 (e- (7:Int))∧IntKind.wrap .i64 (e- (7:Int))<(64:Int)∧0≤IntKind.wrap .i64 (e- (16:Int))∧IntKind.wrap .i64 (e- (16:Int))<(64:Int)∧∃g,(∀a,c a→LdQ 370 d (0+Int.toNat (IntKind.wrap .i64 (e- (7:Int)))*1) (.int .u32 g) a)∧∃o,(∀a,c a→LdQ 370 d (0+Int.toNat (IntKind.wrap .i64 (e- (16:Int)))*1) (.int .u32 o) a)∧0≤e∧e<(64:Int)∧∃c,(Instr.storeAt 370 (.pointer (some ⟨d,0+Int.toNat e*1,none⟩)) (.int .u32 (IntKind.wrap .u32 (IntKind.wrap .u32 (IntKind.wrap .u32 (aU .u32 (aU .u32 n l) (dh .u32 m (10:Int))+g)+aU .u32 (aU .u32 k j) (dh .u32 i (3:Int)))+o)))).run Tryz.prog h.drew=.ok () c∧a (IntKind.wrap .i64 (e+1)) c∧b (IntKind.wrap .i64 (e+1)) c<b e f) (Laz 393 d 0 f (fun a=>Stz 393 c 0 (.agg a) f fun a=>∃b,(loadVar 393 ⟨c,0,none⟩).run Tryz.prog a=.ok b a∧R (.returned b) a)))):Calls Tryz.prog 380 #[.slice a b c] w R:=af 0x683c3b11f1041f451e101d121c31862225351b11a1973254132104250029281a322181942184401f121e3218323351d11c1b2257165225211022520029281a322181942184401f121e3218323351d11c1b225716522521102252820032d2011516d5f352981d22b14b1044b454a149482213f339382f3212e3281f1e3211d3762215353e13d3c3b3a4252d12c2b2a294251c11b1a19184254132104252d8200321d0111814f18142981d207c07c Tryz.func380 (by kernel_rfl) h
end Go.Proofs.YtpmhjnhgpplmnaaGreatDoor
end

section
namespace Go.Proofs.YtpmhjnhgpplmnaaGreatDoor
open Go Go.Proofs.YtpmhjnhgpplmnaaGreatDoor.Sx
set_option maxRecDepth 100000
variable (w:World) (R:Ending→World→Prop)
theorem jf (a b:Int) (h:0≤eo .u64 (IntKind.wrap .u64 b) (31:Int)∧0≤IntKind.wrap .u64 ((32:Int)-eo .u64 (IntKind.wrap .u64 b) (31:Int))∧R (.returned (.int .u32 (bor .u32 (gY .u32 a (eo .u64 (IntKind.wrap .u64 b) (31:Int))) (dh .u32 a (IntKind.wrap .u64 ((32:Int)-eo .u64 (IntKind.wrap .u64 b) (31:Int))))))) w):Calls Tryz.prog 383 #[.int .u32 a,.int .i64 b] w R:=af 0xd7ae7adc4d1d Tryz.func383 (by kernel_rfl) h
end Go.Proofs.YtpmhjnhgpplmnaaGreatDoor
end

section
namespace Go.Proofs.YtpmhjnhgpplmnaaGreatDoor
open Go Sx
set_option maxRecDepth 8000

theorem bbT:gz Tryz.prog 24 26 1 24 (.slice none 0 0):=⟨by kernel_rfl,⟨Tryz.t26,by kernel_rfl,by kernel_rfl,by kernel_rfl,by kernel_rfl⟩,rfl,by decide⟩
theorem bsA (w:World):(isAgg 26).run Tryz.prog w=.ok false w:=Tryz.isAgg26 w

structure cH (w:World) (vs:List Value) (ls:List (List UInt8)):Prop where
 len:vs.length=ls.length
 rd:∀i,i<ls.length→∃a n c,vs[i]?=some (.slice a n c)∧RdB w a n c (ls.getD i [])

theorem cH.au {w w':World} {vs:List Value} {ls:List (List UInt8)} (h:cH w vs ls) (hc:Chg [] w w'):cH w' vs ls:=
 ⟨h.len,fun i hi=>by obtain ⟨a,n,c,h1,h2⟩:=h.rd i hi;exact ⟨a,n,c,h1,h2.au hc⟩⟩

theorem ixS {w:World} {a:Option Addr} {vs:List Value} {ls:List (List UInt8)} (hc:Cells w a vs) (h2:cH w vs ls) {i:Nat} (hi:i<ls.length):
   ∃b o a' n' c',a=some ⟨b,o,none⟩∧vs[i]?=some (.slice a' n' c')∧RdB w a' n' c' (ls.getD i [])∧∀w',Cells w' a vs→(Instr.loadAt 26 (.pointer (some ⟨b,o+Int.toNat (i:Int)*1,none⟩))).run Tryz.prog w'=.ok (.slice a' n' c') w':=by
 obtain ⟨a',n',c',hv,hrd⟩:=h2.rd i hi
 obtain ⟨b,o,ha,hcell⟩:=hc.at_ hv
 refine ⟨b,o,a',n',c',ha,hv,hrd,fun w' hc'=>?_⟩
 obtain ⟨b',o',ha',hcell'⟩:=hc'.at_ hv
 rw [ha] at ha'
 simp only [Option.some.injEq,Addr.mk.injEq,and_true] at ha'
 obtain ⟨rfl,rfl⟩:=ha'
 rw [show o+Int.toNat (i:Int)*1=o+i by omega]
 exact ld1 (bsA _) hcell'

theorem gM {ls:List (List UInt8)} {i:Nat} (h:i<ls.length):(ls.take (i+1)).flatten=(ls.take i).flatten++ls.getD i []:=by
 rw [List.take_add_one,List.getElem?_eq_getElem h,List.flatten_append];simp [List.getD,h]
theorem bI (ls:List (List UInt8)) (i:Nat):(ls.take i).flatten.length≤ls.flatten.length:=by
 have:ls.flatten=(ls.take i).flatten++(ls.drop i).flatten:=by rw [←List.flatten_append,List.take_append_drop]
 rw [this,List.length_append];omega
theorem mG {ls:List (List UInt8)} {i:Nat} (h:i<ls.length):(ls.getD i []).length≤ls.flatten.length:=by
 have h1:=gM h
 have h2:=bI ls (i+1)
 rw [h1,List.length_append] at h2;omega

theorem Sx.St.bJ {w0 w:World} {X:List Nat} {M:List Res} (hS:St w0 X w M) {i:Nat} {va a:Option Addr} {n vc m c:Nat} {xs l:List UInt8} (hi:M[i]?=some (.row 5 1 (.slice va n vc) n (bv xs))) (hr:RdB w a m c l) (hb:n+m≤140737488355000):
   ∃va' vc' w',(Builtin.append_ #[26,26] 26 #[.slice va n vc,.slice a m c]).run Tryz.prog w=.ok (.slice va' (n+m) vc') w'∧St w0 X w' (M.set i (.row 5 1 (.slice va' (n+m) vc') (n+m) (bv (xs++l)))):=by
 obtain ⟨va',vc',w',hr',h',_,_⟩:=hS.append (i:=i) (ty:=26) bT hi hr (aO l) (by omega) (by simp only [maxLen];omega)
 rw [←mu] at h'
 exact ⟨va',vc',w',hr',h'⟩

theorem Sx.St.Ko {w0 w:World} {X:List Nat} {M:List Res} (hS:St w0 X w M) {i t ty e by_:Nat} {z:Value} (E:gz Tryz.prog t e 1 by_ z) {a:Option Addr} {n c:Nat} {xs:List Value} (hi:M[i]?=some (.row e 1 (.slice a n c) n xs)) (v:Value) (hv:v.oneCell'=true)
   (hb:(n+1)*by_≤140737488355328) (hm:n+1≤maxLen):
   ∃g w2 va vc w3,(Instr.buildSlice t 1 #[(0,v)]).run Tryz.prog w=.ok (.slice (some ⟨g,0,none⟩) 1 1) w2∧(Builtin.append_ #[t,t] ty #[.slice a n c,.slice (some ⟨g,0,none⟩) 1 1]).run Tryz.prog w2=.ok (.slice va (n+1) vc) w3∧
     St w0 X w3 (M.set i (.row e 1 (.slice va (n+1) vc) (n+1) (xs++ [v])))∧St w0 X w2 M∧Chg [] w w2:=by
 have him:i<M.length:=(List.getElem?_eq_some_iff.1 hi).1
 obtain ⟨g,w2,hr2,h2⟩:=hS.lit E [v] (by simp [hv]) (by simp)
 obtain ⟨g',w2',hr2',h2'⟩:=(St.start w).lit E [v] (by simp [hv]) (by simp)
 have hw:=hr2.symm.trans hr2'
 simp only [Result.ok.injEq] at hw
 obtain ⟨_,rfl⟩:=hw
 obtain ⟨va,vc,w3,hr3,h3,_,_⟩:=h2.append (i:=i) (ty:=ty) E (by rw [List.getElem?_append_left him];exact hi) h2.E3 (by simp [hv]) (by simpa using hb) (by simpa using hm)
 refine ⟨g,w2,va,vc,w3,hr2,hr3,?_,St.pop h2,h2'.chg⟩
 rw [List.set_append_left _ _ him] at h3
 exact St.pop h3

theorem Sx.St.A7 {w0 w:World} {X:List Nat} {M:List Res} (hc:Chg X w0 w) (h1:∀r∈M,r.holds w) (h2:∀r∈M,∀k∈r.fp,w0.heap.size≤k∨k∈X) (h3:M.Pairwise fun r s=>∀k∈r.fp,k∉s.fp):St w0 X w M:=by
 refine ⟨hc,fun i r hi=>h1 r (List.mem_of_getElem? hi),fun i r hi=>h2 r (List.mem_of_getElem? hi),fun i j r s hij hi hj k hk hk'=>?_⟩
 obtain ⟨hil,rfl⟩:=List.getElem?_eq_some_iff.1 hi
 obtain ⟨hjl,rfl⟩:=List.getElem?_eq_some_iff.1 hj
 rcases Nat.lt_or_gt_of_ne hij with h | h
 · exact List.pairwise_iff_getElem.1 h3 i j hil hjl h k hk hk'
 · exact List.pairwise_iff_getElem.1 h3 j i hjl hil h k hk' hk

theorem Sx.St.pw {w0 w:World} {X:List Nat} {M:List Res} (h:St w0 X w M):(∀r∈M,r.holds w)∧(∀r∈M,∀k∈r.fp,w0.heap.size≤k∨k∈X)∧M.Pairwise fun r s=>∀k∈r.fp,k∉s.fp:=by
 refine ⟨fun r hr=>?_,fun r hr=>?_,List.pairwise_iff_getElem.2 fun i j hi hj hij=>?_⟩
 · obtain ⟨i,hi⟩:=List.getElem?_of_mem hr;exact h.holds i r hi
 · obtain ⟨i,hi⟩:=List.getElem?_of_mem hr;exact h.own i r hi
 · exact h.apart i j _ _ (by omega) (by simp [hi]) (by simp [hj])

theorem Sx.St.sub {w0 w:World} {X:List Nat} {M N:List Res} (h:St w0 X w M) (hs:N.Sublist M):St w0 X w N:=by
 obtain ⟨h1,h2,h3⟩:=h.pw
 exact St.A7 h.chg (fun r hr=>h1 r (hs.subset hr)) (fun r hr=>h2 r (hs.subset hr)) (h3.sublist hs)

theorem Sx.St.perm {w0 w:World} {X:List Nat} {M N:List Res} (h:St w0 X w M) (hp:M.Perm N):St w0 X w N:=by
 obtain ⟨h1,h2,h3⟩:=h.pw
 exact St.A7 h.chg (fun r hr=>h1 r (hp.mem_iff.2 hr)) (fun r hr=>h2 r (hp.mem_iff.2 hr)) (h3.perm hp fun h k hk hk'=>h k hk' hk)

theorem Sx.St.tail {w0 w:World} {X:List Nat} {r:Res} {M:List Res} (h:St w0 X w (r::M)):St w0 X w M:=h.sub (List.sublist_cons_self r M)

def ij (M:List Res):List Nat:=M.flatMap Res.fp

theorem Sx.St.self {w0 w:World} {X:List Nat} {M:List Res} (h:St w0 X w M):St w (ij M) w M:=by
 obtain ⟨h1,_,h3⟩:=h.pw
 exact St.A7 (Chg.refl _ _) h1 (fun r hr k hk=>.inr (List.mem_flatMap.2 ⟨r,hr,hk⟩)) h3

theorem Sx.St.cq {w0 w w':World} {X:List Nat} {M N N':List Res} (h:St w0 X w (M++N)) (h':St w (ij N) w' N'):St w0 X w' (M++N'):=by
 obtain ⟨h1,h2,h3⟩:=h.pw
 obtain ⟨k1,k2,k3⟩:=h'.pw
 obtain ⟨p1,p2,p3⟩:=List.pairwise_append.1 h3
 have hown:∀k∈ij N,w0.heap.size≤k∨k∈X:=fun k hk=>by
   obtain ⟨r,hr,hk⟩:=List.mem_flatMap.1 hk
   exact h2 r (List.mem_append_right _ hr) k hk
 have hsz:=h.chg.size
 refine St.A7 (h.chg.trans' h'.chg hown) (fun r hr=>?_) (fun r hr k hk=>?_) (List.pairwise_append.2 ⟨p1,k3,fun r hr s hs k hk hk'=>?_⟩)
 · rcases List.mem_append.1 hr with hr | hr
   · refine Res.kept (h1 r (List.mem_append_left _ hr)) fun k hk=>h'.chg.block k (Res.lt (h1 r (List.mem_append_left _ hr)) k hk) fun hx=>?_
     obtain ⟨s,hs,hk'⟩:=List.mem_flatMap.1 hx
     exact p3 r hr s hs k hk hk'
   · exact k1 r hr
 · rcases List.mem_append.1 hr with hr | hr
   · exact h2 r (List.mem_append_left _ hr) k hk
   · rcases k2 r hr k hk with h | h
     · left;omega
     · exact hown k h
 · rcases k2 s hs k hk' with h | h
   · have:=Res.lt (h1 r (List.mem_append_left _ hr)) k hk;omega
   · obtain ⟨t,ht,hkt⟩:=List.mem_flatMap.1 h
     exact p3 r hr t ht k hk hkt

theorem Sx.St.Nn {w0 w:World} {X:List Nat} {M:List Res} (h:St w0 X w M) {t e sz by_:Nat} {z:Value} (E:gz Tryz.prog t e sz by_ z) (cs:List Value) (hl:cs.length=sz) (hb:sz≤16777216):
   ∃g w',(Instr.buildSlice t 1 #[(0,.agg cs.toArray)]).run Tryz.prog w=.ok (.slice (some ⟨g,0,none⟩) 1 1) w'∧St w0 X w' (M++ [.row e sz (.slice (some ⟨g,0,none⟩) 1 1) 1 cs]):=by
 obtain ⟨inf,hinf,hz,hsz,hby⟩:=E.inf
 have hpos:=E.pos
 have hlt:¬sz>2^24:=by omega
 have hrow:(w.alloc (.cells cs.toArray e)).ownsRow 0 e sz (.slice (some ⟨w.heap.size,0,none⟩) 1 1) 1 cs:=by
   have:=World.ownsRow_lit (base:=0) (e:=e) (size:=sz) w cs.toArray 1 (Nat.zero_le _) (by simp only [maxLen];omega) (by simp [hl])
   simpa using this
 refine ⟨w.heap.size,_,?_,h.add (Chg.alloc _ (.cells cs.toArray e)) hrow (by simp [Res.fp,Value.ownBlock])⟩
 have hne:¬sz=0:=by omega
 simp only [Instr.buildSlice,Sem.run_bind,run_underlying E.ht,Result.andThen_ok,sizeOf,typeInfo,run_program,hinf,hsz,Sem.run_pure,Nat.one_mul,hne,if_false,zeroValue,hz,hlt,newRow]
 rw [aC (off:=0) (sz:=sz) (by simp) (by simp [Value.cells,hl]) (by simp),Array.toList_map,Array.toList_range,Nat.zero_add,List.drop_of_length_le (by simp),List.append_nil]
 simp [Instr.fill,Value.cells]

theorem Sx.St.sH {w0 w:World} {X:List Nat} {M:List Res} (hS:St w0 X w M) {i t ty e sz by_:Nat} {z:Value} (E:gz Tryz.prog t e sz by_ z) {a:Option Addr} {n c:Nat} {xs:List Value} (hi:M[i]?=some (.row e sz (.slice a n c) n xs)) (cs:List Value) (hl:cs.length=sz) (hsz:sz≤16777216) (hv:∀v∈cs,v.oneCell'=true)
   (hb:(n+1)*by_≤140737488355328) (hm:n+1≤maxLen):
   ∃g w2 va vc w3,(Instr.buildSlice t 1 #[(0,.agg cs.toArray)]).run Tryz.prog w=.ok (.slice (some ⟨g,0,none⟩) 1 1) w2∧(Builtin.append_ #[t,t] ty #[.slice a n c,.slice (some ⟨g,0,none⟩) 1 1]).run Tryz.prog w2=.ok (.slice va (n+1) vc) w3∧
     St w0 X w3 (M.set i (.row e sz (.slice va (n+1) vc) (n+1) (xs++cs)))∧St w0 X w2 M:=by
 have him:i<M.length:=(List.getElem?_eq_some_iff.1 hi).1
 obtain ⟨g,w2,hr2,h2⟩:=hS.Nn E cs hl hsz
 obtain ⟨va,vc,w3,hr3,h3,_,_⟩:=h2.append (i:=i) (ty:=ty) E (by rw [List.getElem?_append_left him];exact hi) h2.E3 hv hb hm
 refine ⟨g,w2,va,vc,w3,hr2,hr3,?_,St.pop h2⟩
 rw [List.set_append_left _ _ him] at h3
 exact St.pop h3

theorem Sx.St.AH {w0 w:World} {M:List Res} (h:St w0 [] w M):∀k∈ij M,w0.heap.size≤k:=by
 intro k hk
 obtain ⟨r,hr,hk⟩:=List.mem_flatMap.1 hk
 simpa using h.pw.2.1 r hr k hk

theorem Sx.St.yg {w0 w:World} {X:List Nat} {M N:List Res} (h:St w0 X w (M++N)) {r:Res} (hr:r∈M) {w':World} (hc:Chg (ij N) w w'):r.holds w':=by
 obtain ⟨h1,_,h3⟩:=h.pw
 obtain ⟨_,_,p3⟩:=List.pairwise_append.1 h3
 have hh:=h1 r (List.mem_append_left _ hr)
 refine Res.kept hh fun k hk=>hc.block k (Res.lt hh k hk) fun hx=>?_
 obtain ⟨s,hs,hk'⟩:=List.mem_flatMap.1 hx
 exact p3 r hr s hs k hk hk'

theorem kP {w0 w:World} {X:List Nat} {M:List Res} (hS:St w0 X w M) {i:Nat} {g n c:Nat} {l:List UInt8} (hi:M[i]?=some (.row 5 1 (.slice (some ⟨g,0,none⟩) n c) n (bv l))):
   ∃w' o,(convert 26 26 (.slice (some ⟨g,0,none⟩) n c)).run Tryz.prog w=.ok (.slice (some ⟨g,0,none⟩) n c) w'∧St w0 X w' (M.set i (.blk g o))∧∀w'':World,w''.heap[g]?=some o→RdB w'' (some ⟨g,0,none⟩) n c l:=by
 have hown:w.ownsRow 0 5 1 (.slice (some ⟨g,0,none⟩) n c) n (bv l):=hS.holds i _ hi
 rcases hown.2 with ⟨hv,_⟩ | ⟨g',cap,cur,hv,_,hg,hle,_,hcs,ht⟩
 · simp at hv
 · simp only [Value.slice.injEq,Option.some.injEq,Addr.mk.injEq,and_true,true_and] at hv
   obtain ⟨rfl,rfl⟩:=hv
   have hglt:=(Array.getElem?_eq_some_iff.1 hg).1
   have hg':∃fr,(w.freeze ⟨g,cur.size,none⟩ 1).heap[g]?=some (.cells cur 5 fr):=by
     simp only [World.freeze,Nat.succ_ne_zero,if_false,Array.getElem?_modify,if_true,hg,Option.map_some]
     exact ⟨_,rfl⟩
   obtain ⟨fr,hg'⟩:=hg'
   refine ⟨w.freeze ⟨g,cur.size,none⟩ 1,.cells cur 5 fr,?_,hS.upd hi ?_ hg' (by simp [Res.fp,Value.ownBlock]),fun w'' h=>?_⟩
   · simp [convert,run_underlying bS,run_underlying bE,markStringish,World.shape?,hg]
   · refine ⟨by simp [World.freeze],by simp [World.freeze],by simp [World.freeze],by simp [World.freeze],fun k _ hk=>?_⟩
     simp only [World.freeze,Nat.succ_ne_zero,if_false,Array.getElem?_modify]
     rw [if_neg (by simpa using fun h=>hk (by simp [Res.fp,Value.ownBlock,h]))]
   · have h1:=HS (o:=0) (n:=n) h
     rw [List.drop_zero,show cur.toList.take n=bv l by rw [←ht,Nat.mul_one]] at h1
     exact ⟨h1,by have:=hown.1;simpa using this,hle,by simp⟩

theorem Sx.St.JV {w0 w:World} {X:List Nat} {M:List Res} (h:St w0 X w M) {t e sz by_:Nat} {z:Value} (E:gz Tryz.prog t e sz by_ z):
   ∃g w',(Instr.buildSlice t 0 #[]).run Tryz.prog w=.ok (.slice (some ⟨g,0,none⟩) 0 0) w'∧St w0 X w' (M++ [.row e sz (.slice (some ⟨g,0,none⟩) 0 0) 0 []]):=by
 obtain ⟨inf,hinf,hz,hsz,hby⟩:=E.inf
 have hrow:(w.alloc (.cells #[] e)).ownsRow 0 e sz (.slice (some ⟨w.heap.size,0,none⟩) 0 0) 0 []:=by
   have:=World.ownsRow_lit (base:=0) (e:=e) (size:=sz) w #[] 0 (Nat.zero_le _) (by simp only [maxLen];omega) (by simp)
   simpa using this
 refine ⟨w.heap.size,_,?_,h.add (Chg.alloc _ (.cells #[] e)) hrow (by simp [Res.fp,Value.ownBlock])⟩
 simp [Instr.buildSlice,run_underlying E.ht,sizeOf,typeInfo,hinf,hsz,zeroValue,hz,newRow,Instr.fill]
 rw [show (Array.range 0)= #[] from Array.size_eq_zero_iff.1 (by simp)]
 simp

end Go.Proofs.YtpmhjnhgpplmnaaGreatDoor
end

section
namespace Go.Proofs.YtpmhjnhgpplmnaaGreatDoor
open Go Go.Proofs.YtpmhjnhgpplmnaaGreatDoor.Sx
set_option maxRecDepth 100000
variable (w:World) (R:Ending→World→Prop)
theorem kU (a:Option Addr) (b c:Nat) (h:Ifz a.isNone (R (.returned (.slice none 0 0)) w) (Bsz 26 0 #[] w (fun d e f g=>Apz 26 (.slice d e f) (.slice a b c) g fun a b c d=>R (.returned (.slice a b c)) d))):Calls Tryz.prog 150 #[.slice a b c] w R:=af 0x175175c001d32d21d Tryz.func150 (by kernel_rfl) h
end Go.Proofs.YtpmhjnhgpplmnaaGreatDoor
end

section
namespace Go.Proofs.YtpmhjnhgpplmnaaGreatDoor
open Go Sx
set_option maxRecDepth 8000

theorem Nz (w:World):RdB w none 0 0 []:=⟨Cells.nil _ _,rfl,Nat.le_refl _,fun _=>rfl⟩

def MD (X:List Nat) (w w':World) (a:Option Addr) (n c:Nat) (l:List UInt8):Prop:=
 Chg X w w'∧l.length=n∧w'.ownsRow w.heap.size 5 1 (.slice a n c) n (bv l)

theorem mQ (a:Option Addr) (n c:Nat) (l:List UInt8) (w:World) (hr:RdB w a n c l) (hb:n≤140737488355000):
   Calls Tryz.prog 150 #[.slice a n c] w fun e w'=>∃a' c',e=.returned (.slice a' n c')∧aY w w' a' n c' l:=by
 apply kU
 have hl:=hr.bB
 refine ⟨fun h=>?_,fun _=>?_⟩
 · have ha:a=none:=by cases a with
     | none=>rfl
     | some _=>simp at h
   have hc:=hr.nil ha
   have hle:=hr.le
   obtain rfl:n=0:=by omega
   obtain rfl:l=[]:=List.eq_nil_of_length_eq_zero hl
   exact ⟨_,_,rfl,aY.nil _⟩
 · obtain ⟨g,w1,r1,h1⟩:=(St.start w).lit bT [] (by simp) (by simp)
   obtain ⟨va,vc,w2,r2,h2⟩:=h1.bJ (i:=0) (xs:=[]) rfl (h1.rd1 hr) (by simp;omega)
   simp only [List.length_nil,Nat.zero_add,List.nil_append] at r2 h2
   exact ⟨_,_,_,_,r1,_,_,_,_,r2,_,_,rfl,h2.jm (i:=0) rfl⟩

theorem aY.after {X:List Nat} {w w1 w':World} {a:Option Addr} {n c:Nat} {l:List UInt8} (h:aY w1 w' a n c l) (hc:Chg X w w1):MD X w w' a n c l:=by
 refine ⟨hc.trans' h.1 (by simp),h.2.1,?_⟩
 exact iq h.2.2 hc.size

theorem jc {w:World} {a:Option Addr} {n c k:Nat} {l:List UInt8} (h:RdB w a n c l) (hk:k≤n):RdB w a k c (l.take k):=by
 have h0:lT 1 a 0 c a:=⟨fun _=>rfl,fun _=>by cases a<;>simp [Addr.add]⟩
 have:=h.sub h0 (hh:=k) (by omega) hk (by have:=h.le;omega) (Nat.le_refl _)
 have e2:((bv l).drop (0*1)).take ((k-0)*1)=bv (l.take k):=by simp [jI]
 rw [e2] at this
 exact this

theorem aY.rdB {w w':World} {a:Option Addr} {n c:Nat} {l:List UInt8} (h:aY w w' a n c l):RdB w' a n c l:=(h.add (St.start w)).rd (i:=0) rfl

end Go.Proofs.YtpmhjnhgpplmnaaGreatDoor
end

section
namespace Go.Proofs.YtpmhjnhgpplmnaaGreatDoor
open Go Sx
set_option maxRecDepth 8000

theorem uA (w:World):(isAgg 370).run Tryz.prog w=.ok false w:=Tryz.isAgg370 w
theorem uS (w:World):(sizeOf 370).run Tryz.prog w=.ok 1 w:=Tryz.sizeOf370 w
theorem Oc (w:World):(isAgg 393).run Tryz.prog w=.ok true w:=Tryz.isAgg393 w
theorem ED (w:World):(sizeOf 393).run Tryz.prog w=.ok 64 w:=Tryz.sizeOf393 w
theorem w8A (w:World):(isAgg 394).run Tryz.prog w=.ok true w:=Tryz.isAgg394 w
theorem w8S (w:World):(sizeOf 394).run Tryz.prog w=.ok 8 w:=Tryz.sizeOf394 w
theorem Dt (w:World):(zeroValue 393).run Tryz.prog w=.ok (.agg (kv .u32 (List.replicate 64 0)).toArray) w:=Tryz.zeroValue393 w
theorem w8Z (w:World):(zeroValue 394).run Tryz.prog w=.ok (.agg (kv .u32 (List.replicate 8 0)).toArray) w:=Tryz.zeroValue394 w

def cI (w:World):Prop:=w.rangeAt 6 0 (kv .u32 lM)

theorem cI.au {w w':World} (h:cI w) (hc:Chg [] w w'):cI w':=fun j v hj=>by
 have h1:=h j v hj
 rw [←h1]
 exact World.cell?_of_block (hc.block _ (World.block_lt_of_cell? w _ h1) (by simp))
theorem cI.lt {w:World} (h:cI w):6<w.heap.size:=World.block_lt_of_cell? w ⟨6,0+0,none⟩ (h 0 (.int .u32 1116352408) rfl)
theorem cI.keep {w w':World} {X:List Nat} (h:cI w) (hc:Chg X w w') (hX:6∉X):cI w':=fun j v hj=>by
 have h1:=h j v hj
 rw [←h1]
 exact World.cell?_of_block (hc.block _ (World.block_lt_of_cell? w _ h1) hX)

theorem and_val {a b:Nat} (ha:a<4294967296) (hb:b<4294967296):eo .u32 (a:Int) (b:Int)=((a&&& b:Nat):Int):=sF rfl (by simpa [eM,IntKind.bits] using ha) (by simpa [eM,IntKind.bits] using hb)
theorem Lp {a:Nat} (ha:a<4294967296):aU .u32 (IntKind.max .u32) (a:Int)=((4294967295^^^a:Nat):Int):=by
 rw [show (IntKind.max .u32)=((4294967295:Nat):Int) by decide]
 exact xor_val (by decide) ha
theorem pN (x n:Nat) (h:n≤32):dh .u32 (x:Int) ((n:Nat):Int)=((x / 2^n:Nat):Int):=mP _ _ _ h

theorem ff (x n:Nat) (w:World) (hx:x<4294967296) (hn:n<32) (h0:0<n):Calls Tryz.prog 381 #[.int .u32 (x:Int),.int .i64 (n:Int)] w fun e w'=>e=.returned (.int .u32 ((kL x n:Nat):Int))∧w'=w:=by
 apply B6
 apply jf
 have h1:eo .u64 (IntKind.wrap .u64 (IntKind.wrap .i64 (0- (n:Int)))) 31=((32-n:Nat):Int):=by
   have e:IntKind.wrap .u64 (IntKind.wrap .i64 (0- (n:Int)))=((18446744073709551616-n:Nat):Int):=by rw [wrap_i64 (by omega) (by omega),wrap_u64];omega
   rw [e,show (31:Int)=((31:Nat):Int) from rfl,sF rfl (by simp [eM,IntKind.bits];omega) (by simp [eM,IntKind.bits]),show (18446744073709551616-n)&&& 31=(18446744073709551616-n)%32 from Nat.and_two_pow_sub_one_eq_mod _ 5]
   omega
 have h2:IntKind.wrap .u64 ((32:Int)- ((32-n:Nat):Int))=((n:Nat):Int):=by rw [wrap_u64];omega
 rw [h1,h2]
 refine ⟨by omega,by omega,_,rfl,?_,rfl⟩
 rw [jH (show 32-n≤32 by omega),pN _ _ (by omega),or_val (Nat.mod_lt _ (by decide)) (Br _ hx)]
 rfl

theorem Gq {x:Nat} (h:x<4294967296):aU .u32 (aU .u32 ((kL x 7:Nat):Int) ((kL x 18:Nat):Int)) (dh .u32 (x:Int) 3)=((sg0 x:Nat):Int):=by
 rw [show (3:Int)=((3:Nat):Int) from rfl,pN _ _ (by decide),xor_val (dG _ h) (dG _ h),xor_val (fW (dG _ h) (dG _ h)) (Br _ h)];rfl
theorem Gu {x:Nat} (h:x<4294967296):aU .u32 (aU .u32 ((kL x 17:Nat):Int) ((kL x 19:Nat):Int)) (dh .u32 (x:Int) 10)=((sg1 x:Nat):Int):=by
 rw [show (10:Int)=((10:Nat):Int) from rfl,pN _ _ (by decide),xor_val (dG _ h) (dG _ h),xor_val (fW (dG _ h) (dG _ h)) (Br _ h)];rfl
theorem GS {x:Nat} (h:x<4294967296):aU .u32 (aU .u32 ((kL x 2:Nat):Int) ((kL x 13:Nat):Int)) ((kL x 22:Nat):Int)=((bg0 x:Nat):Int):=by
 rw [xor_val (dG _ h) (dG _ h),xor_val (fW (dG _ h) (dG _ h)) (dG _ h)];rfl
theorem Gc {x:Nat} (h:x<4294967296):aU .u32 (aU .u32 ((kL x 6:Nat):Int) ((kL x 11:Nat):Int)) ((kL x 25:Nat):Int)=((bg1 x:Nat):Int):=by
 rw [xor_val (dG _ h) (dG _ h),xor_val (fW (dG _ h) (dG _ h)) (dG _ h)];rfl
theorem JQ {e f g:Nat} (he:e<4294967296) (hf:f<4294967296) (hg:g<4294967296):aU .u32 (eo .u32 (e:Int) (f:Int)) (eo .u32 (aU .u32 (IntKind.max .u32) (e:Int)) (g:Int))=((chF e f g:Nat):Int):=by
 rw [Lp he,and_val he hf,and_val (fW (by decide) he) hg,xor_val (qG _ he) (qG _ (fW (by decide) he))];rfl
theorem GU {a b c:Nat} (ha:a<4294967296) (hb:b<4294967296) (hc:c<4294967296):aU .u32 (aU .u32 (eo .u32 (a:Int) (b:Int)) (eo .u32 (a:Int) (c:Int))) (eo .u32 (b:Int) (c:Int))=((K6 a b c:Nat):Int):=by
 rw [and_val ha hb,and_val ha hc,and_val hb hc,xor_val (qG _ ha) (qG _ ha),xor_val (fW (qG _ ha) (qG _ ha)) (qG _ hb)];rfl

theorem KX (b0 b1 b2 b3:Nat) (h0:b0<256) (h1:b1<256) (h2:b2<256) (h3:b3<256):
   bor .u32 (bor .u32 (bor .u32 (gY .u32 (IntKind.wrap .u32 (b0:Int)) 24) (gY .u32 (IntKind.wrap .u32 (b1:Int)) 16)) (gY .u32 (IntKind.wrap .u32 (b2:Int)) 8)) (IntKind.wrap .u32 (b3:Int))=((((b0*256+b1)*256+b2)*256+b3:Nat):Int):=by
 rw [cF (show b0<4294967296 by omega),cF (show b1<4294967296 by omega),cF (show b2<4294967296 by omega),cF (show b3<4294967296 by omega),
   show (24:Int)=((24:Nat):Int) from rfl,show (16:Int)=((16:Nat):Int) from rfl,show (8:Int)=((8:Nat):Int) from rfl,jH (by decide),jH (by decide),jH (by decide),
   Nat.mod_eq_of_lt (show b0*2^24<4294967296 by omega),Nat.mod_eq_of_lt (show b1*2^16<4294967296 by omega),Nat.mod_eq_of_lt (show b2*2^8<4294967296 by omega),
   or_val (by omega) (by omega),BB _ _ 24 (by omega),show b0*2^24+b1*2^16=(b0*256+b1)*2^16 by omega,or_val (by omega) (by omega),BB _ _ 16 (by omega),show (b0*256+b1)*2^16+b2*2^8=((b0*256+b1)*256+b2)*2^8 by omega,or_val (by omega) (by omega),BB _ _ 8 (by omega)]

theorem zJ (a:Option Addr) (n c:Nat) (l:List UInt8) (w:World) (hr:RdB w a n c l) (hn:n=64):
   Calls Tryz.prog 380 #[.slice a n c] w fun e w'=>e=.returned (.agg (kv .u32 (bz l 64)).toArray)∧Chg [] w w':=by
 have hl:=hr.bB
 apply vY
 obtain ⟨g1,w1,r1,h1⟩:=(St.start w).aD Dt
 obtain ⟨g2,w2,r2,h2⟩:=h1.aD Dt
 have ze:∀k:Nat,0+Int.toNat (k:Int)*1=k:=fun k=>by omega
 refine ⟨_,_,r1,_,_,r2,fun x w'=>∃k:Nat,x=(k:Int)∧k≤16∧St w [] w' [.arr g1 393 (kv .u32 (List.replicate 64 0)),.arr g2 393 (kv .u32 (bz l k))],fun x _=>16-x.toNat,⟨0,rfl,by omega,h2⟩,?_⟩
 rintro x w3 ⟨k,rfl,hk,hS⟩
 refine ⟨fun h=>?_,fun h=>?_⟩
 · have hk':k<16:=by simp at h;omega
   have e1:IntKind.wrap .i64 ((4:Int)*(k:Int))=((4*k:Nat):Int):=by rw [wrap_i64 (by omega) (by omega)];omega
   have e2:∀j:Nat,j<4→IntKind.wrap .i64 (((4*k:Nat):Int)+(j:Int))=((4*k+j:Nat):Int):=fun j hj=>by rw [wrap_i64 (by omega) (by omega)];omega
   have e21:IntKind.wrap .i64 (((4*k:Nat):Int)+1)=((4*k+1:Nat):Int):=e2 1 (by omega)
   have e22:IntKind.wrap .i64 (((4*k:Nat):Int)+2)=((4*k+2:Nat):Int):=e2 2 (by omega)
   have e23:IntKind.wrap .i64 (((4*k:Nat):Int)+3)=((4*k+3:Nat):Int):=e2 3 (by omega)
   rw [e1,e21,e22,e23]
   have hc3:=hr.cells.au hS.chg
   refine ⟨fun w'=>St w [] w' [.arr g1 393 (kv .u32 (List.replicate 64 0)),.arr g2 393 (kv .u32 (bz l k))],hS.drew,?_⟩
   refine ix0 hc3 hl (4*k) (by omega) fun b0 o0 a0 q0=>ix0 hc3 hl (4*k+1) (by omega) fun b1 o1 a1 q1=>ix0 hc3 hl (4*k+2) (by omega) fun b2 o2 a2 q2=>ix0 hc3 hl (4*k+3) (by omega) fun b3 o3 a3 q3=>?_
   have H:∀w',St w [] w' [.arr g1 393 (kv .u32 (List.replicate 64 0)),.arr g2 393 (kv .u32 (bz l k))]→Cells w' a (bv l):=fun w' h=>hr.cells.au h.chg
   refine ⟨b0,o0,a0,by omega,by omega,b1,o1,a1,by omega,by omega,b2,o2,a2,by omega,by omega,b3,o3,a3,by omega,by omega,_,fun w' h=>q0 w' (H w' h),_,fun w' h=>q1 w' (H w' h),_,fun w' h=>q2 w' (H w' h),_,fun w' h=>q3 w' (H w' h),by omega,by omega,?_⟩
   rw [KX _ _ _ _ (by exact (l.getD (4*k) 0).toNat_lt) (by exact (l.getD (4*k+1) 0).toNat_lt) (by exact (l.getD (4*k+2) 0).toNat_lt) (by exact (l.getD (4*k+3) 0).toNat_lt)]
   obtain ⟨w4,r4,h4⟩:=hS.drew.stK (i:=1) (n:=be4 l (4*k)) rfl (uS _) (ze k) (by simp;omega)
   refine ⟨w4,r4,⟨k+1,ay hk' (by omega),by omega,?_⟩,aB hk' (by omega)⟩
   have:bz l (k+1)=(bz l k).set k (be4 l (4*k)):=by rw [bz,if_pos hk']
   rw [this];exact h4
 · have hk':k=16:=by simp at h;omega
   subst hk'
   refine ⟨fun x w'=>∃k:Nat,x=(k:Int)∧16≤k∧k≤64∧St w [] w' [.arr g1 393 (kv .u32 (List.replicate 64 0)),.arr g2 393 (kv .u32 (bz l k))],fun x _=>64-x.toNat,⟨16,rfl,by omega,by omega,hS⟩,?_⟩
   clear hS
   rintro x w5 ⟨k,rfl,hk16,hk,hS⟩
   refine ⟨fun h=>?_,fun h=>?_⟩
   · have hk':k<64:=by simp at h;omega
     have e:∀j:Nat,j≤16→IntKind.wrap .i64 ((k:Int)- (j:Int))=((k-j:Nat):Int):=fun j hj=>by rw [wrap_i64 (by omega) (by omega)];omega
     have e15:IntKind.wrap .i64 ((k:Int)-15)=((k-15:Nat):Int):=e 15 (by omega)
     have e2:IntKind.wrap .i64 ((k:Int)-2)=((k-2:Nat):Int):=e 2 (by omega)
     have e7:IntKind.wrap .i64 ((k:Int)-7)=((k-7:Nat):Int):=e 7 (by omega)
     have e16:IntKind.wrap .i64 ((k:Int)-16)=((k-16:Nat):Int):=e 16 (by omega)
     rw [e15,e2,e7,e16]
     obtain ⟨W,hW⟩:∃W,bz l k=W:=⟨_,rfl⟩
     have hWl:W.length=64:=by rw [←hW];simp
     have hlt:cM W:=by rw [←hW];exact pJ l k
     have hnext:bz l (k+1)=W.set k (De W k):=by rw [bz,if_neg (by omega),hW]
     rw [hW] at hS
     obtain ⟨Q,hQ⟩:∃Q:World→Prop,Q=fun w'=>St w [] w' [.arr g1 393 (kv .u32 (List.replicate 64 0)),.arr g2 393 (kv .u32 W)]:=⟨_,rfl⟩
     have hS':Q w5:=by rw [hQ];exact hS
     have hd:∀w',Q w'→Q w'.drew:=fun w' h=>by rw [hQ] at h ⊢;exact h.drew
     have ld:∀j:Nat,j<64→∀w',Q w'→(Instr.loadAt 370 (.pointer (some ⟨g2,0+Int.toNat (j:Int)*1,none⟩))).run Tryz.prog w'=.ok (.int .u32 ((W.getD j 0:Nat):Int)) w':=fun j hj w' h=>by
       rw [hQ] at h;exact h.ldK (i:=1) rfl (uA _) (ze j) (by omega)
     refine ⟨Q,hd _ hS',by omega,by omega,by omega,by omega,by omega,by omega,_,ld _ (by omega),_,ld _ (by omega),_,ld _ (by omega),(ff _ 7 _ (hlt _) (by decide) (by decide)).mono ?_⟩
     rintro e w6 ⟨rfl,rfl⟩
     refine ⟨_,rfl,Q,fun _ h=>h,hd _ hS',(ff _ 18 _ (hlt _) (by decide) (by decide)).mono ?_⟩
     rintro e w7 ⟨rfl,rfl⟩
     refine ⟨_,rfl,Q,fun _ h=>h,hd _ hS',Q,hd _ (hd _ hS'),by omega,by omega,by omega,by omega,by omega,by omega,_,ld _ (by omega),_,ld _ (by omega),_,ld _ (by omega),(ff _ 17 _ (hlt _) (by decide) (by decide)).mono ?_⟩
     rintro e w8 ⟨rfl,rfl⟩
     refine ⟨_,rfl,Q,fun _ h=>h,hd _ (hd _ hS'),(ff _ 19 _ (hlt _) (by decide) (by decide)).mono ?_⟩
     rintro e w9 ⟨rfl,rfl⟩
     refine ⟨_,rfl,Q,fun _ h=>h,hd _ (hd _ hS'),Q,hd _ (hd _ (hd _ hS')),by omega,by omega,by omega,by omega,_,ld _ (by omega),_,ld _ (by omega),by omega,by omega,?_⟩
     rw [Gq (hlt _),Gu (hlt _),dO,dO,dO]
     have h9:=hd _ (hd _ (hd _ hS'))
     rw [hQ] at h9
     obtain ⟨w10,r10,h10⟩:=h9.stK (i:=1) (n:=De W k) rfl (uS _) (ze k) (by omega)
     refine ⟨w10,r10,⟨k+1,ay hk' (by omega),by omega,by omega,?_⟩,aB hk' (by omega)⟩
     rw [hnext];exact h10
   · have hk':k=64:=by simp at h;omega
     subst hk'
     obtain ⟨W,hW⟩:∃W,bz l 64=W:=⟨_,rfl⟩
     have hWl:W.length=64:=by rw [←hW];simp
     rw [hW] at hS ⊢
     obtain ⟨w6,r6,h6⟩:=hS.stA (i:=0) (v:=kv .u32 W) rfl (ED _) (by simp) (by simp [hWl]) (fK _ _)
     exact ⟨_,hS.ldA (i:=1) rfl (Oc _) (ED _) (by simp [hWl]),w6,r6,_,h6.bQ (i:=0) rfl (Oc _) (ED _) (by simp [hWl]),rfl,h6.chg⟩

theorem J1 {P:Program} {w:World} {T e n i:Nat} {cs:List Value} {v:Value} (hT:P.underlying T=some (.array n e)) (hS:(sizeOf e).run P w=.ok 1 w) (hA:(isAgg e).run P w=.ok false w) (hi:i<n) (hv:cs[i]?=some v):
   (Instr.index T (.agg cs.toArray) (.int .i64 (i:Int))).run P w=.ok v w:=by
 have h1:(0:Int)≤(i:Int)∧(i:Int)<(n:Int):=by omega
 simp [Instr.index,asIntOf,run_underlying hT,hS,part,hA,hv,hi]

def dJ {α:Type} (x l:List α) (i:Nat):List α:=x.take i++l.drop i
theorem gL {α:Type} (x l:List α):dJ x l 0=l:=by simp [dJ]
theorem kT {α:Type} {x l:List α} (h:x.length=l.length):dJ x l l.length=x:=by simp [dJ,←h]
theorem s7 {α:Type} {x l:List α} {i:Nat} (h:x.length=l.length) (hi:i≤l.length):(dJ x l i).length=l.length:=by simp [dJ];omega
theorem kE {α:Type} {x l:List α} {i:Nat} {b:α} (h:x.length=l.length) (hb:x[i]?=some b):(dJ x l i).set i b=dJ x l (i+1):=by
 have hi:i<x.length:=(List.getElem?_eq_some_iff.1 hb).1
 have hl:(x.take i).length=i:=by rw [List.length_take];omega
 rw [dJ,dJ,List.set_append_right _ _ (by omega),hl,Nat.sub_self,List.drop_eq_getElem_cons (by omega:i<l.length),List.set_cons_zero,List.take_add_one,hb]
 simp
theorem DH {α:Type} {x l:List α} {i:Nat} (h:x.length=l.length) (hi:i<l.length):(dJ x l i)[i]?=l[i]?:=by
 rw [dJ,List.getElem?_append_right (by rw [List.length_take];omega),List.length_take,Nat.min_eq_left (by omega),Nat.sub_self,List.getElem?_drop,Nat.add_zero]

theorem zA (g T:Nat) (h:List Nat) (t:List Value) (a:Option Addr) (n c:Nat) (l:List UInt8) (w:World) (hK:cI w) (hg:w.heap[g]?=some (.cells (kv .u32 h++t).toArray T)) (hh:h.length=8) (hlt:cM h) (hr:RdB w a n c l) (hn:n=64):
   Calls Tryz.prog 376 #[.pointer (some ⟨g,0,none⟩),.slice a n c] w fun e w'=>e=.returned (.tuple #[])∧Chg [g] w w'∧w'.heap[g]?=some (.cells (kv .u32 (compress h l)++t).toArray T):=by
 apply qH
 refine (zJ a n c l w hr hn).mono ?_
 rintro e w1 ⟨rfl,hc1⟩
 obtain ⟨W,hW⟩:∃W,bz l 64=W:=⟨_,rfl⟩
 have hWl:W.length=64:=by rw [←hW];exact mE l 64
 obtain ⟨V,hV⟩:∃V,rounds W h 64=V:=⟨_,rfl⟩
 have hcomp:compress h l=List.zipWith bp h V:=by rw [compress,hW,hV]
 rw [hcomp]
 rw [hW]
 have ze:∀k:Nat,0+Int.toNat (k:Int)*1=k:=fun k=>by omega
 have hS0:St w [g] w1 [.arr g T (kv .u32 h++t)]:=(St.GH (w:=w) hg).same hc1
 obtain ⟨g2,w2,r2,h2⟩:=hS0.aD Dt
 obtain ⟨w3,r3,h3⟩:=h2.stA (i:=1) (v:=kv .u32 W) rfl (ED _) (by simp) (by simp [hWl]) (fK _ _)
 have hget:∀(x:List Nat),x.length=8→∀j,j<8→(kv .u32 x++t)[j]?=some (.int .u32 ((x.getD j 0:Nat):Int)):=fun x hx j hj=>by
   rw [List.getElem?_append_left (by simp;omega),uz (by omega)]
 have hk3:cI w3.drew:=(hK.au hc1).au ((Chg.drew [] w3).trans (Chg.refl _ _) |> fun c=>by
   have hc:Chg [] w1 w3:=by
     obtain ⟨g2',w2',r2',h2'⟩:=(St.start w1).aD Dt
     have e1:=r2.symm.trans r2'
     simp only [Result.ok.injEq,Value.pointer.injEq,Option.some.injEq,Addr.mk.injEq,and_true,true_and] at e1
     obtain ⟨rfl,rfl⟩:=e1
     obtain ⟨w3',r3',h3'⟩:=h2'.stA (i:=0) (v:=kv .u32 W) rfl (ED _) (by simp) (by simp [hWl]) (fK _ _)
     have e2:=r3.symm.trans r3'
     simp only [Result.ok.injEq,true_and] at e2
     obtain rfl:=e2
     exact h3'.chg
   exact hc.trans c)
 have h3d:=h3.drew
 have hQ0:=h3d
 obtain ⟨Q,hQ⟩:∃Q:World→Prop,Q=fun w'=>St w [g] w' [.arr g T (kv .u32 h++t),.arr g2 393 (kv .u32 W)]∧cI w':=⟨_,rfl⟩
 have hQ3:Q w3.drew:=by rw [hQ];exact ⟨h3d,hk3⟩
 have hd:∀w',Q w'→Q w'.drew:=fun w' h=>by rw [hQ] at h ⊢;exact ⟨h.1.drew,h.2.au (Chg.drew _ _)⟩
 have ldh:∀j:Nat,j<8→∀off,off=j→∀w',Q w'→(Instr.loadAt 370 (.pointer (some ⟨g,off,none⟩))).run Tryz.prog w'=.ok (.int .u32 ((h.getD j 0:Nat):Int)) w':=fun j hj off ho w' hq=>by
   rw [hQ] at hq;exact hq.1.ldL (i:=0) rfl (uA _) ho (hget h hh j hj)
 have ldw:∀j:Nat,j<64→∀w',Q w'→(Instr.loadAt 370 (.pointer (some ⟨g2,0+Int.toNat (j:Int)*1,none⟩))).run Tryz.prog w'=.ok (.int .u32 ((W.getD j 0:Nat):Int)) w':=fun j hj w' hq=>by
   rw [hQ] at hq;exact hq.1.ldK (i:=1) rfl (uA _) (ze j) (by omega)
 have ldk:∀j:Nat,j<64→∀w',Q w'→(Instr.loadAt 370 (.pointer (some ⟨6,0+Int.toNat (j:Int)*1,none⟩))).run Tryz.prog w'=.ok (.int .u32 ((lM.getD j 0:Nat):Int)) w':=fun j hj w' hq=>by
   rw [hQ] at hq
   have:=hq.2 j _ (uz (k:=.u32) (l:=lM) (by rw [oa];exact hj))
   rw [show 0+Int.toNat (j:Int)*1=0+j by omega]
   exact ld1 (uA _) this
 refine ⟨_,rfl,_,_,r2,w3,r3,Q,hQ3,_,ldh 0 (by decide) _ rfl,_,ldh 1 (by decide) _ rfl,_,ldh 2 (by decide) _ rfl,_,ldh 3 (by decide) _ rfl,_,ldh 4 (by decide) _ rfl,_,ldh 5 (by decide) _ rfl,_,ldh 6 (by decide) _ rfl,_,ldh 7 (by decide) _ rfl,?_⟩
 refine ⟨fun x0 x1 x2 x3 x4 x5 x6 x7 y w'=>∃k:Nat,y=(k:Int)∧k≤64∧Q w'∧∃v:List Nat,rounds W h k=v∧x0=((v.getD 0 0:Nat):Int)∧x1=((v.getD 1 0:Nat):Int)∧x2=((v.getD 2 0:Nat):Int)∧x3=((v.getD 3 0:Nat):Int)∧x4=((v.getD 4 0:Nat):Int)∧x5=((v.getD 5 0:Nat):Int)∧x6=((v.getD 6 0:Nat):Int)∧x7=((v.getD 7 0:Nat):Int),
   fun _ _ _ _ _ _ _ _ y _=>64-y.toNat,⟨0,rfl,by omega,hQ3,h,rfl,rfl,rfl,rfl,rfl,rfl,rfl,rfl,rfl⟩,?_⟩
 rintro x0 x1 x2 x3 x4 x5 x6 x7 y w4 ⟨k,rfl,hk,hq,v,hv,rfl,rfl,rfl,rfl,rfl,rfl,rfl,rfl⟩
 have hvlt:cM v:=by rw [←hv];exact uK W hlt k
 have hvl:v.length=8:=by rw [←hv];exact mK W hh k
 refine ⟨fun hc=>?_,fun hc=>?_⟩
 · have hk':k<64:=by simp at hc;omega
   refine ⟨Q,hd _ hq,by omega,by omega,by omega,by omega,_,ldk k hk',_,ldw k hk',(ff _ 6 _ (hvlt _) (by decide) (by decide)).mono ?_⟩
   rintro e w5 ⟨rfl,rfl⟩
   refine ⟨_,rfl,Q,fun _ h=>h,hd _ hq,(ff _ 11 _ (hvlt _) (by decide) (by decide)).mono ?_⟩
   rintro e w6 ⟨rfl,rfl⟩
   refine ⟨_,rfl,Q,fun _ h=>h,hd _ hq,(ff _ 25 _ (hvlt _) (by decide) (by decide)).mono ?_⟩
   rintro e w7 ⟨rfl,rfl⟩
   refine ⟨_,rfl,Q,fun _ h=>h,hd _ hq,(ff _ 2 _ (hvlt _) (by decide) (by decide)).mono ?_⟩
   rintro e w8 ⟨rfl,rfl⟩
   refine ⟨_,rfl,(ff _ 13 _ (hvlt _) (by decide) (by decide)).mono ?_⟩
   rintro e w9 ⟨rfl,rfl⟩
   refine ⟨_,rfl,(ff _ 22 _ (hvlt _) (by decide) (by decide)).mono ?_⟩
   rintro e w10 ⟨rfl,rfl⟩
   refine ⟨_,rfl,?_⟩
   rw [Gc (hvlt _),GS (hvlt _),JQ (hvlt _) (hvlt _) (hvlt _),GU (hvlt _) (hvlt _) (hvlt _)]
   simp only [dO]
   refine ⟨⟨k+1,ay hk' (by omega),by omega,hd _ hq,fZ (lM.getD k 0) (W.getD k 0) v,by rw [rounds,hv],?_⟩,aB hk' (by omega)⟩
   obtain ⟨q1,q2,q3,q5,q6,q7⟩:=Hu (lM.getD k 0) (W.getD k 0) v
   rw [HO,Hj,q1,q2,q3,q5,q6,q7]
   exact ⟨rfl,rfl,rfl,rfl,rfl,rfl,rfl,rfl⟩
 · have hk':k=64:=by simp at hc;omega
   have hvV:v=V:=by rw [←hv,hk',hV]
   rw [←hvV]
   clear hv hV hcomp hvV
   obtain ⟨Z,hZ⟩:∃Z,List.zipWith bp h v=Z:=⟨_,rfl⟩
   have hZl:Z.length=8:=by rw [←hZ];exact Bb hh hvl
   have hZg:∀j,j<8→Z[j]?=some (bp (h.getD j 0) (v.getD j 0)):=fun j hj=>by rw [←hZ];exact BS hh hvl hj
   rw [hZ]
   rw [hQ] at hq
   have hv8:v=[v.getD 0 0,v.getD 1 0,v.getD 2 0,v.getD 3 0,v.getD 4 0,v.getD 5 0,v.getD 6 0,v.getD 7 0]:=by
     match v,hvl with
     | [_,_,_,_,_,_,_,_],_=>rfl
   have hb:(Instr.build 394 (((kv .u32 [v.getD 0 0,v.getD 1 0,v.getD 2 0,v.getD 3 0,v.getD 4 0,v.getD 5 0,v.getD 6 0,v.getD 7 0]).zipIdx 0).map fun p=>(p.2,p.1)).toArray).run Tryz.prog w4=.ok (.agg (kv .u32 v).toArray) w4:=by
     have:=fP (P:=Tryz.prog) (w:=w4) (w8Z w4) Tryz.underlying394 (uS _) (kv .u32 [v.getD 0 0,v.getD 1 0,v.getD 2 0,v.getD 3 0,v.getD 4 0,v.getD 5 0,v.getD 6 0,v.getD 7 0]) (fK _ _) (by simp)
     have e:kv .u32 [v.getD 0 0,v.getD 1 0,v.getD 2 0,v.getD 3 0,v.getD 4 0,v.getD 5 0,v.getD 6 0,v.getD 7 0]++(kv .u32 (List.replicate 8 0)).drop (kv .u32 [v.getD 0 0,v.getD 1 0,v.getD 2 0,v.getD 3 0,v.getD 4 0,v.getD 5 0,v.getD 6 0,v.getD 7 0]).length=kv .u32 v:=by
       rw [List.drop_of_length_le (by simp),List.append_nil,←hv8]
     rw [e] at this
     exact this
   refine ⟨_,hb,fun x w'=>∃j:Nat,x=(j:Int)∧j≤8∧St w [g] w' [.arr g T (kv .u32 (dJ Z h j)++t),.arr g2 393 (kv .u32 W)],fun x _=>8-x.toNat,⟨0,rfl,by omega,by rw [gL];exact hq.1⟩,?_⟩
   rintro x w11 ⟨j,rfl,hj,hS⟩
   have hml:(dJ Z h j).length=8:=by rw [s7 (by omega) (by omega)];exact hh
   refine ⟨fun hc=>?_,fun hc=>?_⟩
   · have hj':j<8:=by simp at hc;omega
     have hgj:(kv .u32 (dJ Z h j)++t)[j]?=some (.int .u32 ((h.getD j 0:Nat):Int)):=by
       rw [hget _ hml j hj']
       simp only [List.getD,DH (show Z.length=h.length by omega) (show j<h.length by omega)]
     obtain ⟨w12,r12,h12⟩:=hS.drew.stL (i:=0) (v:=.int .u32 ((bp (h.getD j 0) (v.getD j 0):Nat):Int)) rfl (uS _) (ze j) (by simp [hml];omega) rfl
     refine ⟨_,J1 (cs:=kv .u32 v) Tryz.underlying394 (uS _) (uA _) hj' (uz (by omega)),fun w'=>St w [g] w' [.arr g T (kv .u32 (dJ Z h j)++t),.arr g2 393 (kv .u32 W)],hS.drew,by omega,by omega,_,fun w' h=>h.ldL (i:=0) rfl (uA _) (ze j) hgj,by omega,by omega,w12,?_,⟨j+1,ay hj' (by omega),by omega,?_⟩,aB hj' (by omega)⟩
     · rw [dO];exact r12
     · have:(kv .u32 (dJ Z h j)++t).set j (.int .u32 ((bp (h.getD j 0) (v.getD j 0):Nat):Int))=kv .u32 (dJ Z h (j+1))++t:=by
         rw [List.set_append_left _ _ (by simp [hml];omega),Jo,kE (by omega) (hZg j hj')]
       rw [←this];exact h12
   · have hj':j=8:=by simp at hc;omega
     subst hj'
     have:dJ Z h 8=Z:=by have:=kT (x:=Z) (l:=h) (by omega);rwa [hh] at this
     rw [this] at hS
     exact ⟨rfl,hS.chg,hS.holds 0 _ rfl⟩

end Go.Proofs.YtpmhjnhgpplmnaaGreatDoor
end

section
namespace Go.Proofs.YtpmhjnhgpplmnaaGreatDoor
open Go Sx
set_option maxRecDepth 8000

theorem JM:(Rows.laid_amphora_sha_k:DataW Unit)=Lib.tabData .u32 (lM.map fun n:Nat=>(n:Int)):=by kernel_rfl

theorem BX {W:World} {rest:List (String×DataW Unit)} (hp:∀w,laidMetH Tryz.prog (("amphora/sha.k",Rows.laid_amphora_sha_k)::rest) w=laidMet Tryz.prog (("amphora/sha.k",Rows.laid_amphora_sha_k)::rest) w) (h:laidMetH Tryz.prog (("amphora/sha.k",Rows.laid_amphora_sha_k)::rest) W):cI W:=by
 rw [hp,JM] at h
 have hg:Tryz.prog.globalNamed "amphora/sha.k" =some 6:=by kernel_rfl
 have hT:=Lib.tabIs_of_head hg (by kernel_rfl) Tryz.underlying393 Tryz.underlying370 (by kernel_rfl) (by kernel_rfl) h
 intro j v hj
 have hjl:j<lM.length:=by have:=(List.getElem?_eq_some_iff.1 hj).1;simpa using this
 rw [uz hjl,Option.some.injEq] at hj
 have:=hT.cell hg j (by simpa using hjl)
 rw [Nat.zero_add,this,←hj]
 congr 2
 simp [List.getD,hjl]

end Go.Proofs.YtpmhjnhgpplmnaaGreatDoor
end

section
namespace Go.Proofs.YtpmhjnhgpplmnaaGreatDoor
open Go Sx
set_option maxRecDepth 8000

def gT (n:Nat):List UInt8:=if h:n<128 then [UInt8.ofNat n] else UInt8.ofNat (n%128+128)::gT (n / 128)
termination_by n
decreasing_by omega

theorem iP {n:Nat} (h:n<128):gT n=[UInt8.ofNat n]:=by rw [gT];simp [h]
theorem yR {n:Nat} (h:¬n<128):gT n=UInt8.ofNat (n%128+128)::gT (n / 128):=by rw [gT];simp [h]
theorem xk (n:Nat):0<(gT n).length:=by rw [gT];split<;>simp

theorem eY:∀(k n:Nat),n<128^k→0<k→(gT n).length≤k
 | 0,_,_,h=>by omega
 | k+1,n,hn,_=>by
   by_cases h:n<128
   · rw [iP h];simp
   · rw [yR h]
     have hk:0<k:=by
       rcases Nat.eq_zero_or_pos k with rfl | h'
       · simp at hn;omega
       · exact h'
     have:=eY k (n / 128) (by rw [Nat.pow_succ] at hn;exact Nat.div_lt_of_lt_mul (by rw [Nat.mul_comm];exact hn)) hk
     simp only [List.length_cons]
     omega

def fu (u:Nat):List UInt8:=(List.range 8).map fun k=>UInt8.ofNat (u / 256^(7-k)%256)
theorem sJ (u:Nat):(fu u).length=8:=by simp [fu]
theorem KN (u k:Nat) (hk:k<8):(fu u)[k]?=some (UInt8.ofNat (u / 256^(7-k)%256)):=by simp [fu,hk]

end Go.Proofs.YtpmhjnhgpplmnaaGreatDoor
end

section
namespace Go.Proofs.YtpmhjnhgpplmnaaGreatDoor
open Go Sx
set_option maxRecDepth 8000

def bG:Option Int→Value
 | none=>.nilIface
 | some n=>.iface 65 (.int .i64 n)

theorem sG {T:TypeId} {m} (hT:Tryz.prog.underlying T=some (.interface m)) (o:Option Int) (x:Operand) (w:World):(fF .eql T x (.const .nilIface) (bG o) .nilIface).run Tryz.prog w=.ok (.bool o.isNone) w:=by
 have h1:∀d,(Op.equalIn (d+1) T .nilIface .nilIface).run Tryz.prog w=.ok true w:=fun d=>by simp [Op.equalIn,run_underlying hT]
 have h2:∀d U v,(Op.equalIn (d+1) T (.iface U v) .nilIface).run Tryz.prog w=.ok false w:=fun d U v=>by simp [Op.equalIn,run_underlying hT]
 cases o with
 | none=>simp [fF,eqGuard,bG,binOp,Op.equal,show Op.maxDepth=9999+1 from rfl,h1 9999]
 | some n=>simp [fF,eqGuard,bG,binOp,Op.equal,show Op.maxDepth=9999+1 from rfl,h2 9999]

theorem az {T:TypeId} {m} (hT:Tryz.prog.underlying T=some (.interface m)) (o:Option Int) (x:Operand) (w:World):(fF .neq T x (.const .nilIface) (bG o) .nilIface).run Tryz.prog w=.ok (.bool o.isSome) w:=by
 have h1:∀d,(Op.equalIn (d+1) T .nilIface .nilIface).run Tryz.prog w=.ok true w:=fun d=>by simp [Op.equalIn,run_underlying hT]
 have h2:∀d U v,(Op.equalIn (d+1) T (.iface U v) .nilIface).run Tryz.prog w=.ok false w:=fun d U v=>by simp [Op.equalIn,run_underlying hT]
 cases o with
 | none=>simp [fF,eqGuard,bG,binOp,Op.equal,show Op.maxDepth=9999+1 from rfl,h1 9999]
 | some n=>simp [fF,eqGuard,bG,binOp,Op.equal,show Op.maxDepth=9999+1 from rfl,h2 9999]

theorem eI:∃m,Tryz.prog.underlying 58=some (.interface m):=⟨_,Tryz.underlying58⟩

end Go.Proofs.YtpmhjnhgpplmnaaGreatDoor
end

section
namespace Go.Proofs.YtpmhjnhgpplmnaaGreatDoor
open Go Go.Proofs.YtpmhjnhgpplmnaaGreatDoor.Sx
set_option maxRecDepth 100000
variable (w:World) (R:Ending→World→Prop)
theorem vR (a:Int) (h:Ifz (decide (a<(0:Int))) (R (.returned (.slice none 0 0)) w) (∃(b:Int→Option Addr→Nat→Nat→World→Prop) (c:Int→Option Addr→Nat→Nat→World→Nat),b a none 0 0 w∧∀a d e f g,b a d e f g→Ifz (decide (a≥(128:Int))) (Bsz 26 1 #[(0,.int .u8 (bor .u8 (IntKind.wrap .u8 a) (128:Int)))] g (fun h i j k=>Apz 26 (.slice d e f) (.slice h i j) k fun h i j k=>b (dh .i64 a (7:Int)) h i j k∧c (dh .i64 a (7:Int)) h i j k<c a d e f g)) (Bsz 26 1 #[(0,.int .u8 (IntKind.wrap .u8 a))] g (fun a b c g=>Apz 26 (.slice d e f) (.slice a b c) g fun a b c d=>R (.returned (.slice a b c)) d)))):Calls Tryz.prog 197 #[.int .i64 a] w R:=af 0x17575ec3b01757542c80032d2702131021a6131039821d001d32d21d Tryz.func197 (by kernel_rfl) h
theorem Df (a:Int) (h:Mkz 26 (.int .i64 0) (.int .i64 8) w fun b c d e=>∃(f:Option Addr→Nat→Nat→Int→World→Prop) (g:Option Addr→Nat→Nat→Int→World→Nat),f b c d 56 e∧∀b c d e h,f b c d e h→Ifz (decide (e≥(0:Int))) (0≤e∧Bsz 26 1 #[(0,.int .u8 (IntKind.wrap .u8 (dh .u64 (IntKind.wrap .u64 a) e)))] h fun a i j k=>Apz 26 (.slice b c d) (.slice a i j) k fun a i j k=>f a i j (IntKind.wrap .i64 (e- (8:Int))) k∧g a i j (IntKind.wrap .i64 (e- (8:Int))) k<g b c d e h) (R (.returned (.slice b c d)) h)):Calls Tryz.prog 196 #[.int .i64 a] w R:=af 0x2d3b01757517a421820032d20722311c6232981d20175c1d Tryz.func196 (by kernel_rfl) h
theorem Ba (a:Option Addr) (b c:Nat) (h:∃(c:Option Addr→Nat→Nat→Int→World→Prop) (d:Option Addr→Nat→Nat→Int→World→Nat),c none 0 0 0 w∧∀e f g h i,c e f g h i→Ifz (decide (h<(b:Int))) (∃j k,a=some ⟨j,k,none⟩∧0≤h∧h<(b:Int)∧Llz 26 j (k+Int.toNat h*1) i fun a b j=>Ifz (decide ((b:Int)>67108864)) (R (.returned (.slice none 0 0)) i) (Clz 197 #[.int .i64 (b:Int)] i (fun k l m n=>Apz 26 (.slice e f g) (.slice k l m) n fun k l m n=>Apz 26 (.slice k l m) (.slice a b j) n fun a b j k=>c a b j (IntKind.wrap .i64 (h+1)) k∧d a b j (IntKind.wrap .i64 (h+1)) k<d e f g h i))) (R (.returned (.slice e f g)) i)):Calls Tryz.prog 100 #[.slice a b c] w R:=af 0x2d2b0175d10175714ec001d33d201738c8200321d072118132281815223983d21d1d Tryz.func100 (by kernel_rfl) h
theorem zl (a:Int) (b:Option Addr) (c d:Nat) (h:∃(d:Int→Int→World→Prop) (e:Int→Int→World→Nat),d 0 0 w∧∀f g h,d f g h→Ifz (decide (g<(c:Int))) (∃a i,b=some ⟨a,i,none⟩∧0≤g∧g<(c:Int)∧Llz 26 a (i+Int.toNat g*1) h fun a b c=>Ifz (decide ((b:Int)>IntKind.wrap .i64 ((67108864:Int)-f))) (R (.returned (.slice none 0 0)) h) (d (IntKind.wrap .i64 (f+(b:Int))) (IntKind.wrap .i64 (g+1)) h∧e (IntKind.wrap .i64 (f+(b:Int))) (IntKind.wrap .i64 (g+1)) h<e f g h)) (Bsz 26 1 #[(0,.int .u8 a)] h (fun a d e g=>Clz 197 #[.int .i64 f] g fun f g h i=>Apz 26 (.slice a d e) (.slice f g h) i fun a d e f=>∃(g:Option Addr→Nat→Nat→Int→World→Prop) (h:Option Addr→Nat→Nat→Int→World→Nat),g a d e 0 f∧∀a d e f i,g a d e f i→Ifz (decide (f<(c:Int))) (∃j k,b=some ⟨j,k,none⟩∧0≤f∧f<(c:Int)∧Llz 26 j (k+Int.toNat f*1) i fun b c j=>Apz 26 (.slice a d e) (.slice b c j) i fun b c j k=>g b c j (IntKind.wrap .i64 (f+1)) k∧h b c j (IntKind.wrap .i64 (f+1)) k<h a d e f i) (R (.returned (.slice a d e)) i)))):Calls Tryz.prog 368 #[.int .u8 a,.slice b c d] w R:=af 0x2d2b0175d101738c8200321d07214a1182184a11a1183983d201757141751c2b5b001d35d201738c8200321d00211d1521e1d17243983d21d1d Tryz.func368 (by kernel_rfl) h
end Go.Proofs.YtpmhjnhgpplmnaaGreatDoor
end

section
namespace Go.Proofs.YtpmhjnhgpplmnaaGreatDoor
open Go Sx
set_option maxRecDepth 8000

theorem NM (r:Nat):(r%256)||| 128=r%128+128:=by
 have h:∀x<256,x||| 128=x%128+128:=by decide+kernel
 rw [h _ (Nat.mod_lt _ (by decide))]
 omega

theorem Ll (x:Int) (w:World) (h:x<0):Calls Tryz.prog 197 #[.int .i64 x] w fun e w'=>e=.returned (.slice none 0 0)∧w'=w:=by
 apply vR
 exact ⟨fun _=>⟨rfl,rfl⟩,fun h'=>by simp at h';omega⟩

theorem wW (m:Nat) (w:World) (hm:m<9223372036854775808):Calls Tryz.prog 197 #[.int .i64 (m:Int)] w fun e w'=>∃a n c,e=.returned (.slice a n c)∧aY w w' a n c (gT m):=by
 have hlen:=eY 9 m (by simpa using hm) (by decide)
 apply vR
 refine ⟨fun h=>by simp at h;omega,fun _=>?_⟩
 refine ⟨fun x a n c w'=>∃(k:Nat) (pre:List UInt8),x=(k:Int)∧gT m=pre++gT k∧pre.length=n∧St w [] w' [.row 5 1 (.slice a n c) n (bv pre)],fun x _ _ _ _=>x.toNat,
   ⟨m,[],rfl,rfl,rfl,(St.start w).bZ _ _⟩,?_⟩
 rintro x a n c w1 ⟨k,pre,rfl,he,hl,hS⟩
 have hn:n+(gT k).length≤9:=by have:=congrArg List.length he;simp at this;omega
 have hk1:=xk k
 have key:∀b:Nat,b<256→∃g w2 va vc w3,(Instr.buildSlice 26 1 #[(0,.int .u8 (b:Int))]).run Tryz.prog w1=.ok (.slice (some ⟨g,0,none⟩) 1 1) w2∧
     (Builtin.append_ #[26,26] 26 #[.slice a n c,.slice (some ⟨g,0,none⟩) 1 1]).run Tryz.prog w2=.ok (.slice va (n+1) vc) w3∧St w [] w3 [.row 5 1 (.slice va (n+1) vc) (n+1) (bv (pre++ [UInt8.ofNat b]))]:=by
   intro b hb
   obtain ⟨g,w2,hr2,h2⟩:=hS.lit bT [.int .u8 (b:Int)] (by simp [Value.oneCell']) (by simp)
   obtain ⟨va,vc,w3,hr3,h3,_,_⟩:=h2.append (i:=0) (ty:=26) bT rfl (h2.rd (i:=1) rfl) (by simp [Value.oneCell']) (by simp;omega) (by simp only [maxLen,List.length_cons,List.length_nil];omega)
   refine ⟨g,w2,va,vc,w3,hr2,hr3,?_⟩
   have h4:=St.pop (M:=[_]) h3
   have:bv (pre++ [UInt8.ofNat b])=bv pre++ [.int .u8 (b:Int)]:=by
     rw [mu];congr 1;simp [bv,Nat.mod_eq_of_lt hb]
   rw [this]
   exact h4
 refine ⟨fun h=>?_,fun h=>?_⟩
 · have hk:¬k<128:=by simp at h;omega
   have hv:bor .u8 (IntKind.wrap .u8 (k:Int)) 128=((k%128+128:Nat):Int):=by
     rw [wrap_u8,show ((k:Int)%256)=((k%256:Nat):Int) by omega,show (128:Int)=((128:Nat):Int) from rfl,wF rfl (by simp [eM,IntKind.bits];omega) (by simp [eM,IntKind.bits]),NM]
   have hs:dh .i64 (k:Int) 7=((k / 128:Nat):Int):=by rw [show (7:Int)=((7:Nat):Int) from rfl,mP _ _ _ (by decide)]
   rw [hv,hs]
   obtain ⟨g,w2,va,vc,w3,hr2,hr3,h3⟩:=key (k%128+128) (by omega)
   refine ⟨_,_,_,_,hr2,_,_,_,_,hr3,⟨k / 128,pre++ [UInt8.ofNat (k%128+128)],rfl,?_,by simp [hl],h3⟩,?_⟩
   · rw [he,yR hk];simp
   · simp;omega
 · have hk:k<128:=by simp at h;omega
   have hv:IntKind.wrap .u8 (k:Int)=(k:Int):=by rw [wrap_u8];omega
   rw [hv]
   obtain ⟨g,w2,va,vc,w3,hr2,hr3,h3⟩:=key k (by omega)
   refine ⟨_,_,_,_,hr2,_,_,_,_,hr3,_,_,_,rfl,?_⟩
   rw [he,iP hk]
   exact h3.jm (i:=0) rfl

theorem zh {l:List UInt8} {j:Nat} {b:UInt8} (h:l[j]?=some b):l.take (j+1)=l.take j++ [b]:=by
 rw [List.take_add_one,h];rfl

theorem Aa (x:Int) (w:World):Calls Tryz.prog 196 #[.int .i64 x] w fun e w'=>∃a n c,e=.returned (.slice a n c)∧aY w w' a n c (fu (x%18446744073709551616).toNat):=by
 obtain ⟨u,hu⟩:∃u:Nat,(x%18446744073709551616).toNat=u:=⟨_,rfl⟩
 have hux:x%18446744073709551616=(u:Int):=by omega
 have hult:u<18446744073709551616:=by omega
 rw [hu]
 apply Df
 obtain ⟨g,w1,hr1,h1⟩:=(St.start w).Lh (kl:=.i64) (kc:=.i64) (c:=8) bT (by omega) (by omega)
 refine ⟨_,_,_,_,hr1,fun a n c i w'=>∃j:Nat,j≤8∧n=j∧i=56-8*(j:Int)∧St w [] w' [.row 5 1 (.slice a n c) n (bv ((fu u).take j))],fun _ n _ _ _=>8-n,⟨0,by omega,rfl,rfl,h1⟩,?_⟩
 rintro a n c i w2 ⟨j,hj,rfl,rfl,hS⟩
 refine ⟨fun h=>?_,fun h=>?_⟩
 · have hj8:n<8:=by simp at h;omega
   refine ⟨by omega,?_⟩
   have hv:IntKind.wrap .u8 (dh .u64 (IntKind.wrap .u64 x) (56-8*(n:Int)))=((UInt8.ofNat (u / 256^(7-n)%256)).toNat:Int):=by
     rw [wrap_u64,hux,show (56-8*(n:Int))=((8*(7-n):Nat):Int) by omega,mP _ _ _ (by simp [IntKind.bits];omega),show 2^(8*(7-n))=256^(7-n) by rw [Nat.pow_mul],wrap_u8]
     simp
   rw [hv]
   obtain ⟨b,hb⟩:∃b,UInt8.ofNat (u / 256^(7-n)%256)=b:=⟨_,rfl⟩
   rw [hb]
   obtain ⟨g,w3,hr3,h3⟩:=hS.lit bT [.int .u8 (b.toNat:Int)] (by simp [Value.oneCell']) (by simp)
   obtain ⟨va,vc,w4,hr4,h4,_,_⟩:=h3.append (i:=0) (ty:=26) bT rfl (h3.rd (i:=1) rfl) (by simp [Value.oneCell']) (by simp;omega) (by simp only [maxLen,List.length_cons,List.length_nil];omega)
   refine ⟨_,_,_,_,hr3,_,_,_,_,hr4,⟨n+1,by omega,rfl,?_,?_⟩,?_⟩
   · rw [wrap_i64 (by omega) (by omega)];omega
   · rw [zh (by rw [KN _ _ hj8,hb]),mu]
     exact St.pop (M:=[_]) h4
   · simp;omega
 · have hj8:n=8:=by simp at h;omega
   subst hj8
   rw [List.take_of_length_le (by rw [sJ];exact Nat.le_refl _)] at hS
   exact ⟨_,_,_,rfl,hS.jm (i:=0) rfl⟩

end Go.Proofs.YtpmhjnhgpplmnaaGreatDoor
end

section
namespace Go.Proofs.YtpmhjnhgpplmnaaGreatDoor
open Go Sx
set_option maxRecDepth 8000

def b9 (ls:List (List UInt8)):List UInt8:=(ls.map fun l=>gT l.length++l).flatten

theorem wK {ls:List (List UInt8)} {i:Nat} (h:i<ls.length):b9 (ls.take (i+1))=b9 (ls.take i)++gT (ls.getD i []).length++ls.getD i []:=by
 rw [List.take_add_one,List.getElem?_eq_getElem h,b9,b9,List.map_append,List.flatten_append,List.append_assoc]
 congr 1
 simp [List.getD,h]

theorem jQ:∀ls:List (List UInt8),(∀l∈ls,l.length<9223372036854775808)→(b9 ls).length≤ls.flatten.length+9*ls.length
 | [],_=>by simp [b9]
 | l::ls,h=>by
   have ih:=jQ ls fun x hx=>h x (by simp [hx])
   have h9:=eY 9 l.length (by have:=h l (by simp);simpa using this) (by decide)
   have e:b9 (l::ls)=gT l.length++l++b9 ls:=by simp [b9]
   rw [e]
   simp only [List.length_append,List.flatten_cons,List.length_cons]
   omega

theorem DZ {ls:List (List UInt8)} {l:List UInt8} (h:l∈ls):l.length≤ls.flatten.length:=by
 obtain ⟨i,hi,rfl⟩:=List.getElem_of_mem h
 have:=mG hi
 simpa [List.getD,hi] using this

theorem vF {ls:List (List UInt8)} (h:ls.flatten.length≤67108864) (i:Nat):(b9 (ls.take i)).length≤67108864+9*ls.length:=by
 have h1:=jQ (ls.take i) fun l hl=>by have:=DZ (List.mem_of_mem_take hl);omega
 have h2:=bI ls i
 have h3:(ls.take i).length≤ls.length:=by rw [List.length_take];omega
 omega

theorem pF (a:Option Addr) (n c:Nat) (vs:List Value) (ls:List (List UInt8)) (w:World) (hr:Rd w a n c 1 vs) (h2:cH w vs ls) (hb:ls.flatten.length≤67108864) (hn:ls.length≤1048576):
   Calls Tryz.prog 100 #[.slice a n c] w fun e w'=>∃a' n' c',e=.returned (.slice a' n' c')∧aY w w' a' n' c' (b9 ls):=by
 have hln:ls.length=n:=by have:=hr.len;have:=h2.len;omega
 apply Ba
 refine ⟨fun xa xn xc x w'=>∃i:Nat,x=(i:Int)∧i≤n∧xn=(b9 (ls.take i)).length∧St w [] w' [.row 5 1 (.slice xa xn xc) xn (bv (b9 (ls.take i)))],fun _ _ _ x _=>n-x.toNat,
   ⟨0,rfl,by omega,by simp [b9],(St.start w).bZ _ _⟩,?_⟩
 rintro xa xn xc x w1 ⟨i,rfl,hi,hxn,hS⟩
 have hpb:=vF hb i
 refine ⟨fun h=>?_,fun h=>?_⟩
 · have hi':i<n:=by simp at h;omega
   obtain ⟨b,o,a',n',c',ha,hv,hrd,hld⟩:=ixS hr.cells h2 (i:=i) (by omega)
   have hl':=hrd.bB
   have hle:=mG (ls:=ls) (i:=i) (by omega)
   refine ⟨b,o,ha,by omega,by omega,_,_,_,hld w1 (hr.cells.au hS.chg),fun h=>?_,fun _=>?_⟩
   · simp at h;omega
   · have h9:=eY 9 n' (by simp;omega) (by decide)
     refine (wW n' w1 (by omega)).mono ?_
     rintro e w2 ⟨a2,n2,c2,rfl,hf2⟩
     have hS2:=hf2.add hS
     have hn2:=hf2.2.1
     obtain ⟨va,vc,w3,hr3,hS3⟩:=hS2.bJ (i:=0) rfl (hS2.rd (i:=1) rfl) (by omega)
     obtain ⟨vb,vd,w4,hr4,hS4⟩:=hS3.bJ (i:=0) rfl (hS3.rd1 hrd) (by omega)
     have hpt:=wK (ls:=ls) (i:=i) (by omega)
     rw [hl'] at hpt
     refine ⟨_,_,_,rfl,_,_,_,_,hr3,_,_,_,_,hr4,⟨i+1,?_,by omega,?_,?_⟩,?_⟩
     · rw [wrap_i64 (by omega) (by omega)];rfl
     · rw [hpt];simp only [List.length_append];omega
     · rw [hpt];exact St.pop (M:=[_]) hS4
     · show n- (IntKind.wrap .i64 ((i:Int)+1)).toNat<n- ((i:Int)).toNat
       rw [wrap_i64 (by omega) (by omega)];omega
 · have hi':i=n:=by simp at h;omega
   rw [hi',←hln,List.take_length] at hS
   exact ⟨_,_,_,rfl,hS.jm (i:=0) rfl⟩

end Go.Proofs.YtpmhjnhgpplmnaaGreatDoor
end

section
namespace Go.Proofs.YtpmhjnhgpplmnaaGreatDoor
open Go Sx
set_option maxRecDepth 8000

def ko (k:UInt8) (b:List UInt8):List UInt8:=k::(gT b.length++b)

theorem yq (k:UInt8) (a:Option Addr) (n c:Nat) (vs:List Value) (ls:List (List UInt8)) (w:World) (hr:Rd w a n c 1 vs) (h2:cH w vs ls) (hb:ls.flatten.length≤67108864) (hn:ls.length≤1048576):
   Calls Tryz.prog 368 #[.int .u8 (k.toNat:Int),.slice a n c] w fun e w'=>∃a' n' c',e=.returned (.slice a' n' c')∧aY w w' a' n' c' (ko k ls.flatten):=by
 have hln:ls.length=n:=by have:=hr.len;have:=h2.len;omega
 apply zl
 refine ⟨fun x y w'=>∃i:Nat,y=(i:Int)∧i≤n∧x=(((ls.take i).flatten.length:Nat):Int)∧w'=w,fun _ y _=>n-y.toNat,⟨0,rfl,by omega,by simp,rfl⟩,?_⟩
 rintro x y w1 ⟨i,rfl,hi,rfl,rfl⟩
 have hft:=bI ls i
 refine ⟨fun h=>?_,fun h=>?_⟩
 · have hi':i<n:=by simp at h;omega
   obtain ⟨b,o,a',n',c',ha,hv,hrd,hld⟩:=ixS hr.cells h2 (i:=i) (by omega)
   have hl':=hrd.bB
   have hf1:=gM (ls:=ls) (i:=i) (by omega)
   have hf2:=bI ls (i+1)
   rw [hf1,List.length_append,hl'] at hf2
   refine ⟨b,o,ha,by omega,by omega,_,_,_,hld w1 hr.cells,fun h=>?_,fun _=>⟨⟨i+1,ay hi' (by omega),by omega,?_,rfl⟩,aB hi' (by omega)⟩⟩
   · rw [wrap_i64 (by omega) (by omega)] at h;simp only [gt_iff_lt,decide_eq_true_eq] at h;omega
   · rw [wrap_i64 (by omega) (by omega),hf1,List.length_append,hl'];omega
 · have hi':i=n:=by simp at h;omega
   rw [hi',←hln,List.take_length]
   rw [hln]
   obtain ⟨g,w2,r2,h2'⟩:=(St.start w1).lit bT [.int .u8 (k.toNat:Int)] (by simp [Value.oneCell']) (by simp)
   refine ⟨_,_,_,_,r2,(wW ls.flatten.length w2 (by omega)).mono ?_⟩
   rintro e w3 ⟨a3,n3,c3,rfl,hf3⟩
   have h3:=hf3.add h2'
   have h9:=eY 9 ls.flatten.length (by omega) (by decide)
   have hn3:=hf3.2.1
   obtain ⟨va,vc,w4,r4,h4⟩:=h3.bJ (i:=0) (xs:=[k]) rfl (h3.rd (i:=1) rfl) (by simp;omega)
   have h4':=St.pop (M:=[_]) h4
   refine ⟨_,_,_,rfl,_,_,_,_,r4,fun xa xn xc y w'=>∃i:Nat,y=(i:Int)∧i≤n∧xn=1+n3+(ls.take i).flatten.length∧St w1 [] w' [.row 5 1 (.slice xa xn xc) xn (bv (k::(gT ls.flatten.length++(ls.take i).flatten)))],fun _ _ _ y _=>n-y.toNat,⟨0,rfl,by omega,by simp,by simpa using h4'⟩,?_⟩
   rintro xa xn xc y w5 ⟨i,rfl,hi,rfl,hS⟩
   have hft:=bI ls i
   refine ⟨fun h=>?_,fun h=>?_⟩
   · have hi':i<n:=by simp at h;omega
     obtain ⟨b,o,a',n',c',ha,hv,hrd,hld⟩:=ixS hr.cells h2 (i:=i) (by omega)
     have hl':=hrd.bB
     have hf1:=gM (ls:=ls) (i:=i) (by omega)
     have hf2:=bI ls (i+1)
     rw [hf1,List.length_append,hl'] at hf2
     obtain ⟨va,vc,w6,r6,h6⟩:=hS.bJ (i:=0) rfl (hS.rd1 hrd) (by omega)
     refine ⟨b,o,ha,by omega,by omega,_,_,_,hld w5 (hr.cells.au hS.chg),_,_,_,_,r6,⟨i+1,ay hi' (by omega),by omega,?_,?_⟩,aB hi' (by omega)⟩
     · rw [hf1,List.length_append,hl'];omega
     · rw [hf1]
       have e:k::(gT ls.flatten.length++((ls.take i).flatten++ls.getD i []))=k::(gT ls.flatten.length++(ls.take i).flatten)++ls.getD i []:=by simp
       rw [e];exact h6
   · have hi':i=n:=by simp at h;omega
     subst hi'
     rw [←hln,List.take_length] at hS ⊢
     exact ⟨_,_,_,rfl,hS.jm (i:=0) rfl⟩

end Go.Proofs.YtpmhjnhgpplmnaaGreatDoor
end

section
namespace Go.Proofs.YtpmhjnhgpplmnaaGreatDoor
open Go Sx
set_option maxRecDepth 8000

def hsL (h:List Nat) (a:Option Addr) (k c:Nat) (n:Int):List Value:=kv .u32 h++ [.slice a k c,.int .i64 n]
theorem ig {h:List Nat} (hl:h.length=8) (a:Option Addr) (k c:Nat) (n:Int):(hsL h a k c n).length=10:=by simp [hsL,hl]
theorem yX {h:List Nat} (hl:h.length=8) (a:Option Addr) (k c:Nat) (n:Int):(hsL h a k c n)[8]?=some (.slice a k c):=by rw [hsL,List.getElem?_append_right (by simp [hl])];simp [hl]
theorem JH {h:List Nat} (hl:h.length=8) (a:Option Addr) (k c:Nat) (n:Int):(hsL h a k c n)[9]?=some (.int .i64 n):=by rw [hsL,List.getElem?_append_right (by simp [hl])];simp [hl]
theorem tS {h:List Nat} (hl:h.length=8) (a a':Option Addr) (k c k' c':Nat) (n:Int):(hsL h a k c n).set 8 (.slice a' k' c')=hsL h a' k' c' n:=by rw [hsL,List.set_append_right _ _ (by simp [hl])];simp [hl,hsL]
theorem JD {h:List Nat} (hl:h.length=8) (a:Option Addr) (k c:Nat) (n n':Int):(hsL h a k c n).set 9 (.int .i64 n')=hsL h a k c n':=by rw [hsL,List.set_append_right _ _ (by simp [hl])];simp [hl,hsL]

theorem Sx.St.shrink {w0 w:World} {X:List Nat} {M:List Res} (h:St w0 X w M) {i e:Nat} {a:Option Addr} {n c:Nat} {xs:List Value} (hi:M[i]?=some (.row e 1 (.slice a n c) n xs)) {k:Nat} (hk:k≤n):St w0 X w (M.set i (.row e 1 (.slice a k c) k (xs.take k))):=by
 have hown:w.ownsRow 0 e 1 (.slice a n c) n xs:=h.holds i _ hi
 refine h.upd hi (Chg.refl _ _) (r':=.row e 1 (.slice a k c) k (xs.take k)) ?_ (fun b hb=>.inl ?_)
 · obtain ⟨h1,h2⟩:=hown
   refine ⟨by rw [List.length_take,h1];omega,?_⟩
   rcases h2 with ⟨hv,h0⟩ | ⟨g,cap,cur,hv,hb,hg,hle,hm,hs,ht⟩
   · simp only [Value.slice.injEq] at hv
     obtain ⟨rfl,rfl,rfl⟩:=hv
     exact .inl ⟨by simp;omega,by omega⟩
   · simp only [Value.slice.injEq] at hv
     obtain ⟨rfl,_,rfl⟩:=hv
     refine .inr ⟨g,c,cur,rfl,hb,hg,by omega,hm,hs,?_⟩
     rw [←ht,List.take_take,Nat.mul_one,Nat.mul_one,Nat.min_eq_left hk]
 · cases a with
   | none=>simp [Res.fp,Value.ownBlock] at hb
   | some _=>simpa [Res.fp,Value.ownBlock] using hb

def RdK (F:List Nat) (w:World) (a:Option Addr) (n c:Nat) (l:List UInt8):Prop:=∀w',Chg F w w'→RdB w' a n c l

theorem RdK.sub {F:List Nat} {w:World} {a a':Option Addr} {n c k:Nat} {l:List UInt8} (h:RdK F w a n c l) (hs:lT 1 a k c a') (hk:k≤n) (hn:n≤c) (hl:l.length=n):RdK F w a' (n-k) (c-k) (l.drop k):=fun w' hc=>by
 have:=(h w' hc).sub hs (hh:=n) hk (Nat.le_refl _) hn (Nat.le_refl _)
 have e1:((bv l).drop (k*1)).take ((n-k)*1)=bv (l.drop k):=by
   rw [Nat.mul_one,Nat.mul_one,List.take_of_length_le (by simp;omega),fB]
 rw [e1] at this
 exact this

theorem LG {w0 w:World} {X:List Nat} {M N:List Res} (h:St w0 X w (M++N)) {a:Option Addr} {n c:Nat} {l:List UInt8} (hr:Res.row 5 1 (.slice a n c) n (bv l)∈M):RdK (ij N) w a n c l:=fun _ hc=>
 rj (h.yg hr hc)
def hM (g T:Nat) (m:List UInt8) (a:Option Addr) (c:Nat):List Res:=[.arr g T (hsL (hOf m) a (rOf m).length c (m.length:Int)),.row 5 1 (.slice a (rOf m).length c) (rOf m).length (bv (rOf m))]

theorem xL (F:List Nat) (g T:Nat) (m:List UInt8) (a:Option Addr) (c:Nat) (a1:Option Addr) (n1 c1:Nat) (l:List UInt8) (w:World) (hK:cI w) (hF:6∉F) (hS:St w F w (hM g T m a c)) (hr:RdK F w a1 n1 c1 l) (hb:m.length+l.length≤140737488350000):
   Calls Tryz.prog 362 #[.pointer (some ⟨g,0,none⟩),.slice a1 n1 c1] w fun e w'=>e=.returned (.tuple #[])∧∃a' c',St w F w' (hM g T (m++l) a' c'):=by
 have hrd:=hr w (Chg.refl _ _)
 have hl:=hrd.bB
 have hle:=hrd.le
 have iI:∀w,(isAgg 3).run Tryz.prog w=.ok false w:=fun w=>Tryz.isAgg3 w
 have sI:∀w,(sizeOf 3).run Tryz.prog w=.ok 1 w:=fun w=>Tryz.sizeOf3 w
 have sS:∀w,(sizeOf 26).run Tryz.prog w=.ok 1 w:=fun w=>Tryz.sizeOf26 w
 have hhl:=mN m
 have hrl:=wH m
 obtain ⟨k,hk⟩:∃k,(rOf m).length=k:=⟨_,rfl⟩
 rw [hM,hk] at hS
 rw [hk] at hrl
 -- taking a block
 have blk:∀(wx:World) (h:List Nat) (a':Option Addr) (k' c':Nat) (n':Int) (R':Res) (ab:Option Addr) (cb:Nat) (lb:List UInt8) (K:Ending→World→Prop),St w F wx [.arr g T (hsL h a' k' c' n'),R']→h.length=8→cM h→RdB wx ab 64 cb lb→
     (∀wy,Chg [g] wx wy→St w F wy [.arr g T (hsL (compress h lb) a' k' c' n'),R']→K (.returned (.tuple #[])) wy)→Calls Tryz.prog 376 #[.pointer (some ⟨g,0,none⟩),.slice ab 64 cb] wx K:=by
   intro wx h a' k' c' n' R' ab cb lb K hSx hh hlt hrb hK'
   refine (zA g T h _ ab 64 cb lb wx (hK.keep hSx.chg hF) (hSx.holds 0 _ rfl) hh hlt hrb rfl).mono ?_
   rintro e wy ⟨rfl,hc,hg⟩
   exact hK' wy hc (hSx.upd (i:=0) (r':=.arr g T (hsL (compress h lb) a' k' c' n')) rfl hc hg (by simp [Res.fp]))
 apply qY
 obtain ⟨w1,r1,h1⟩:=hS.stL (i:=0) (o:=9) (v:=.int .i64 ((m.length+n1:Nat):Int)) rfl (sI _) rfl (by rw [ig hhl];omega) rfl
 rw [JD hhl] at h1
 have hw:IntKind.wrap .i64 ((m.length:Int)+(n1:Int))=((m.length+n1:Nat):Int):=by rw [wrap_i64 (by omega) (by omega)];omega
 refine ⟨_,hS.ldL (i:=0) (o:=9) rfl (iI _) rfl (JH hhl _ _ _ _),?_⟩
 try dsimp only
 rw [hw]
 refine ⟨w1,r1,_,_,_,h1.ldL (i:=0) (o:=8) rfl (bsA _) rfl (yX hhl _ _ _ _),
   fun xa xn xc w'=>∃(m1 l1:List UInt8) (a':Option Addr) (c':Nat),m++l=m1++l1∧m1.length%64=0∧l1.length=xn∧xn≤xc∧RdK F w xa xn xc l1∧St w F w' [.arr g T (hsL (hOf m1) a' 0 c' ((m.length+n1:Nat):Int)),.row 5 1 (.slice a' 0 c') 0 []],⟨fun h=>?_,fun h=>?_⟩,?_⟩
 · have hk0:0<k:=by simp at h;omega
   clear h
   obtain ⟨t,ht⟩:∃t:Nat,t=min n1 (64-k):=⟨_,rfl⟩
   have e:(if (n1:Int)<IntKind.wrap .i64 (64- (k:Int)) then (n1:Int) else IntKind.wrap .i64 (64- (k:Int)))=(t:Int):=by
     rw [wrap_i64 (by omega) (by omega)]
     split<;>omega
   have h1d:=h1.drew
   have hrt:RdB w1.drew a1 t c1 (l.take t):=jc (hr _ h1d.chg) (by omega)
   obtain ⟨va,vc,w2,r2,h2⟩:=h1d.bJ (i:=1) rfl hrt (by omega)
   obtain ⟨w3,r3,h3⟩:=h2.stL (i:=0) (o:=8) (v:=.slice va (k+t) vc) rfl (sS _) rfl (by rw [ig hhl];omega) rfl
   rw [tS hhl] at h3
   have h3':St w F w3 [.arr g T (hsL (hOf m) va (k+t) vc ((m.length+n1:Nat):Int)),.row 5 1 (.slice va (k+t) vc) (k+t) (bv (rOf m++l.take t))]:=h3
   have ld3:=h3'.ldL (P:=Tryz.prog) (T:=26) (i:=0) (o:=8) rfl (bsA _) rfl (yX hhl _ _ _ _)
   refine ⟨_,_,_,h1.ldL (i:=0) (o:=8) rfl (bsA _) rfl (yX hhl _ _ _ _),?_⟩
   try dsimp only
   rw [e]
   simp only [Int.toNat_natCast]
   refine ⟨fun w'=>∃R':Res,St w F w' [.arr g T (hsL (hOf m) a k c ((m.length+n1:Nat):Int)),R'],⟨_,h1d⟩,by omega,by omega,_,_,_,fun w' ⟨_,h⟩=>h.ldL (i:=0) (o:=8) rfl (bsA _) rfl (yX hhl _ _ _ _),va,k+t,vc,w2,r2,fun w'=>∃R':Res,St w F w' [.arr g T (hsL (hOf m) a k c ((m.length+n1:Nat):Int)),R'],fun _ h=>h,⟨_,h2⟩,w3,r3,by omega,by omega,by omega,fun a2 hs2=>?_⟩
   refine ⟨_,_,_,ld3,fun h=>?_,fun h=>?_⟩
   · have hlt:k+t<64:=by simp at h;omega
     have htn:t=n1:=by omega
     have htk:l.take t=l:=List.take_of_length_le (by omega)
     obtain ⟨f1,f2⟩:=F4 (m:=m) (b:=l) (by omega)
     refine ⟨trivial,va,vc,?_⟩
     rw [htk,htn] at h3'
     rw [hM,f1,f2,List.length_append,hk,hl,List.length_append,hl]
     exact h3'
   · have hge:k+t=64:=by simp at h;omega
     have hlt':(l.take t).length=t:=by rw [List.length_take];omega
     obtain ⟨f1,f2⟩:=Ce (m:=m) (b:=l.take t) (by omega)
     rw [hge] at h3' ld3
     refine ⟨_,_,_,ld3,blk w3 (hOf m) _ _ _ _ _ _ _ _ _ h3' hhl (JB m) (h3'.rd (i:=1) rfl) fun w4 _ h4=>⟨rfl,?_⟩⟩
     rw [←f1] at h4
     have hhl2:=mN (m++l.take t)
     obtain ⟨w5,r5,h5⟩:=h4.stL (i:=0) (o:=8) (v:=.slice va 0 vc) rfl (sS _) rfl (by rw [ig hhl2];omega) rfl
     rw [tS hhl2] at h5
     have h5':=h5.shrink (i:=1) rfl (k:=0) (by omega)
     refine ⟨_,_,_,h4.ldL (i:=0) (o:=8) rfl (bsA _) rfl (yX hhl2 _ _ _ _),by omega,by omega,w5,r5,m++l.take t,l.drop t,va,vc,by rw [List.append_assoc,List.take_append_drop],?_,by simp;omega,by omega,hr.sub hs2 (by omega) hle hl,h5'⟩
     rw [List.length_append,hlt'];omega
 · have hk0:k=0:=by simp at h;omega
   subst hk0
   have hr0:rOf m=[]:=List.eq_nil_of_length_eq_zero hk
   rw [hr0] at h1
   exact ⟨m,l,a,c,rfl,by omega,hl,hle,hr,h1⟩
 rintro xa xn xc w6 ⟨m1,l1,a6,c6,he6,hm6,hl6,hx6,hr6,h6⟩
 refine ⟨fun xa xn xc w'=>∃(m1 l1:List UInt8) (a':Option Addr) (c':Nat),m++l=m1++l1∧m1.length%64=0∧l1.length=xn∧xn≤xc∧RdK F w xa xn xc l1∧St w F w' [.arr g T (hsL (hOf m1) a' 0 c' ((m.length+n1:Nat):Int)),.row 5 1 (.slice a' 0 c') 0 []],fun _ xn _ _=>xn,⟨m1,l1,a6,c6,he6,hm6,hl6,hx6,hr6,h6⟩,?_⟩
 clear h6 hr6 hx6 hl6 hm6 he6 a6 c6 m1 l1
 rintro xa xn xc w7 ⟨m1,l1,a',c',he,hm,hl1,hx,hr7,h7⟩
 have hm1r:rOf m1=[]:=List.eq_nil_of_length_eq_zero (by rw [wH];exact hm)
 refine ⟨fun h=>?_,fun h=>?_⟩
 · have h64:64≤xn:=by simp at h;omega
   have hlt':(l1.take 64).length=64:=by rw [List.length_take];omega
   obtain ⟨f1,f2⟩:=Ce (m:=m1) (b:=l1.take 64) (by omega)
   rw [hm1r,List.nil_append] at f1
   refine ⟨by omega,by omega,blk w7 (hOf m1) _ _ _ _ _ _ _ _ _ h7 (mN m1) (JB m1) (jc (hr7 w7 h7.chg) (k:=64) h64) fun w8 hc8 h8=>⟨rfl,by omega,by omega,by omega,fun a9 hs9=>⟨⟨m1++l1.take 64,l1.drop 64,a',c',by rw [he,List.append_assoc,List.take_append_drop],by rw [List.length_append,hlt'];omega,by simp;omega,by omega,hr7.sub hs9 h64 hx hl1,?_⟩,?_⟩⟩⟩
   · rw [f1];exact h8
   · show xn-64<xn
     omega
 · have h64:xn<64:=by simp at h;omega
   obtain ⟨f1,f2⟩:=F4 (m:=m1) (b:=l1) (by omega)
   rw [hm1r,List.nil_append] at f2
   have hhl2:=mN m1
   have hlen:(m++l).length=m.length+n1:=by rw [List.length_append,hl]
   obtain ⟨va,vc,w9,r9,h9⟩:=h7.bJ (i:=1) (xs:=[]) rfl (hr7 w7 h7.chg) (by omega)
   simp only [Nat.zero_add,List.nil_append] at r9 h9
   obtain ⟨w10,r10,h10⟩:=h9.stL (i:=0) (o:=8) (v:=.slice va xn vc) rfl (sS _) rfl (by rw [ig hhl2];omega) rfl
   rw [tS hhl2] at h10
   refine ⟨_,_,_,h7.ldL (i:=0) (o:=8) rfl (bsA _) rfl (yX hhl2 _ _ _ _),_,_,_,_,r9,w10,r10,rfl,va,vc,?_⟩
   rw [hM,hlen,he,f1,f2,hl1]
   exact h10

end Go.Proofs.YtpmhjnhgpplmnaaGreatDoor
end

section
namespace Go.Proofs.YtpmhjnhgpplmnaaGreatDoor
open Go Sx
set_option maxRecDepth 8000

theorem jY (w:World):(isAgg 39).run Tryz.prog w=.ok true w:=Tryz.isAgg39 w
theorem cL (w:World):(sizeOf 39).run Tryz.prog w=.ok 32 w:=Tryz.sizeOf39 w
theorem eD (w:World):(zeroValue 39).run Tryz.prog w=.ok (.agg (bv (List.replicate 32 0)).toArray) w:=Tryz.zeroValue39 w
theorem stA (w:World):(isAgg 462).run Tryz.prog w=.ok true w:=Tryz.isAgg462 w
theorem stS (w:World):(sizeOf 462).run Tryz.prog w=.ok 10 w:=Tryz.sizeOf462 w
theorem stZ (w:World):(zeroValue 462).run Tryz.prog w=.ok (.agg (hsL (List.replicate 8 0) none 0 0 0).toArray) w:=Tryz.zeroValue462 w

theorem Ls (h:List Nat) (a:Option Addr) (k c:Nat) (n:Int):∀u∈hsL h a k c n,u.oneCell'=true:=by
 intro u hu
 simp only [hsL,List.mem_append,List.mem_cons,List.not_mem_nil,or_false] at hu
 rcases hu with hu | rfl | rfl
 · exact fK _ _ u hu
 · rfl
 · rfl

theorem Ep:Tryz.prog.built 462=fun parts=>Instr.fill (fun i=>(#[(0,8),(8,1),(9,1)]:Array (Nat×Nat))[i]?) (hsL (List.replicate 8 0) none 0 0 0).toArray parts:=by kernel_rfl
theorem AP:Tryz.prog.built 465=fun parts=>Instr.fill (fun i=>(#[(0,10)]:Array (Nat×Nat))[i]?) (hsL (List.replicate 8 0) none 0 0 0).toArray parts:=by kernel_rfl

theorem DG {h:List Nat} (hh:h.length=8) (w:World):(Instr.build 462 #[(0,.agg (kv .u32 h).toArray)]).run Tryz.prog w=.ok (.agg (hsL h none 0 0 0).toArray) w:=by
 apply run_build
 rw [Ep]
 show Instr.fill _ _ [(0,.agg (kv .u32 h).toArray)]=_
 rw [aC (off:=0) (sz:=8) rfl (by simp [Value.cells,hh]) (by simp [hsL])]
 simp [Instr.fill,Value.cells,hsL]
theorem AM {l:List Value} (hl:l.length=10) (w:World):(Instr.build 465 #[(0,.agg l.toArray)]).run Tryz.prog w=.ok (.agg l.toArray) w:=by
 apply run_build
 rw [AP]
 show Instr.fill _ _ [(0,.agg l.toArray)]=_
 rw [aC (off:=0) (sz:=10) rfl (by simp [Value.cells,hl]) (by simp [hsL])]
 simp [Instr.fill,Value.cells,hsL]

theorem zy (w:World):Calls Tryz.prog 361 #[] w fun e w'=>e=.returned (.agg (hsL h0L none 0 0 0).toArray)∧Chg [] w w':=by
 apply BE
 obtain ⟨g1,w1,r1,h1⟩:=(St.start w).aD stZ
 have hb:(Instr.build 394 (((kv .u32 h0L).zipIdx 0).map fun p=>(p.2,p.1)).toArray).run Tryz.prog w1=.ok (.agg (kv .u32 h0L).toArray) w1:=by
   have:=fP (P:=Tryz.prog) (w:=w1) (w8Z w1) Tryz.underlying394 (uS _) (kv .u32 h0L) (fK _ _) (by simp [h0L])
   rwa [List.drop_of_length_le (by simp [h0L]),List.append_nil] at this
 obtain ⟨w2,r2,h2⟩:=h1.stA (i:=0) (v:=hsL h0L none 0 0 0) rfl (stS _) (ig (by simp) _ _ _ _) (ig rfl _ _ _ _) (Ls _ _ _ _ _)
 exact ⟨_,_,r1,_,hb,_,DG rfl _,w2,r2,_,h2.bQ (i:=0) rfl (stA _) (stS _) (ig rfl _ _ _ _),rfl,h2.chg⟩

theorem vk (w:World):Calls Tryz.prog 324 #[] w fun e w'=>∃g,e=.returned (.pointer (some ⟨g,0,none⟩))∧St w [] w' (hM g 465 [] none 0):=by
 apply EU
 refine (zy w).mono ?_
 rintro e w1 ⟨rfl,hc1⟩
 obtain ⟨g,w2,r2,h2⟩:=((St.start w).same hc1).cz (P:=Tryz.prog) 465 (hsL h0L none 0 0 0)
 exact ⟨_,rfl,_,AM (ig rfl _ _ _ _) w1,g,w2,r2,g,rfl,h2.bZ _ _⟩

theorem Cl (n x:Nat) (hx:x<8):IntKind.wrap .u8 (dh .u64 (IntKind.wrap .u64 (IntKind.wrap .u64 (n:Int)*8)) ((56-8*x:Nat):Int))=((bB n x).toNat:Int):=by
 have e:IntKind.wrap .u64 (IntKind.wrap .u64 (n:Int)*8)=((n*8%18446744073709551616:Nat):Int):=by
   rw [wrap_u64,wrap_u64];omega
 rw [e,mP _ _ _ (by simp [IntKind.bits];omega),wrap_u8,bB,UInt8.toNat_ofNat']
 simp

theorem oZ (h:List Nat) (i j:Nat) (hj:j<4):IntKind.wrap .u8 (dh .u32 ((h.getD i 0:Nat):Int) ((24-8*j:Nat):Int))=((uk h (4*i+j)).toNat:Int):=by
 rw [pN _ _ (by omega),wrap_u8,uk,show (4*i+j) / 4=i by omega,show (4*i+j)%4=j by omega,UInt8.toNat_ofNat']
 simp

theorem Sx.St.Kj {w0 w:World} {X:List Nat} {M:List Res} (h:St w0 X w M) {i g n:Nat} {l:List Value} {T' T:TypeId} (hi:M[i]?=some (.arr g T' l)) (hT:(isAgg T).run Tryz.prog w=.ok true w) (hS:(sizeOf T).run Tryz.prog w=.ok n w) (hl:n≤l.length):
   (Instr.loadAt T (.pointer (some ⟨g,0,none⟩))).run Tryz.prog w=.ok (.agg (l.take n).toArray) w:=by
 have hr:w.rangeAt g 0 (l.take n):=fun j v hj=>by
   rw [List.getElem?_take] at hj
   split at hj
   · exact h.ku hi j v hj
   · cases hj
 have:=cu (P:=Tryz.prog) hr
 rw [List.length_take,Nat.min_eq_left hl] at this
 simp [Instr.loadAt,Instr.sureAddr,loadVar,hT,hS,this]

theorem Bt (m:List UInt8) (a:Option Addr) (c:Nat) (w:World) (hK:cI w) (hr:RdB w a (rOf m).length c (rOf m)) (hb:m.length≤70368744177664):
   Calls Tryz.prog 363 #[.agg (hsL (hOf m) a (rOf m).length c (m.length:Int)).toArray] w fun e w'=>e=.returned (.agg (bv (dI m)).toArray)∧Chg [] w w':=by
 have iI:∀w,(isAgg 3).run Tryz.prog w=.ok false w:=fun w=>Tryz.isAgg3 w
 have sS:∀w,(sizeOf 26).run Tryz.prog w=.ok 1 w:=fun w=>Tryz.sizeOf26 w
 have sB:∀w,(sizeOf 5).run Tryz.prog w=.ok 1 w:=fun w=>Tryz.sizeOf5 w
 have hhl:=mN m
 have hrl:=wH m
 obtain ⟨k,hk⟩:∃k,(rOf m).length=k:=⟨_,rfl⟩
 rw [hk] at hr hrl ⊢
 apply uZ
 obtain ⟨g1,w1,r1,h1⟩:=(St.start w).cz (P:=Tryz.prog) 462 (hsL (hOf m) a k c (m.length:Int))
 obtain ⟨g2,w2,r2,h2⟩:=h1.aD eD
 refine ⟨_,_,r1,_,_,r2,_,h2.ldL (i:=0) (o:=9) rfl (iI _) rfl (JH hhl _ _ _ _),_,_,_,h2.ldL (i:=0) (o:=8) rfl (bsA _) rfl (yX hhl _ _ _ _),(mQ a k c (rOf m) w2 (h2.rd1 hr) (by omega)).mono ?_⟩
 rintro e w3 ⟨a3,c3,rfl,hf3⟩
 have h3:=hf3.add h2
 obtain ⟨w4,r4,h4⟩:=h3.stL (i:=0) (o:=8) (v:=.slice a3 k c3) rfl (sS _) rfl (by rw [ig hhl];omega) rfl
 rw [tS hhl] at h4
 obtain ⟨g5,w5,r5,h5⟩:=h4.Lh (kl:=.i64) (kc:=.i64) (c:=80) bT (by omega) (by omega)
 obtain ⟨g6,w6,va,vc,w7,r6,r7,h7,_⟩:=h5.vI (i:=3) (n:=0) (pre:=[]) rfl (by omega) 128 (by decide)
 refine ⟨_,_,_,rfl,w4,r4,_,_,_,_,r5,_,_,_,_,r6,_,_,_,_,r7,?_⟩
 have e128:UInt8.ofNat 128=0x80:=rfl
 obtain ⟨n,hn⟩:∃n,m.length=n:=⟨_,rfl⟩
 rw [hn] at hrl hb h7 ⊢
 obtain ⟨Mx,hMx⟩:∃Mx:List Res,Mx=[.arr g1 462 (hsL (hOf m) a3 k c3 (n:Int)),.arr g2 39 (bv (List.replicate 32 0)),.row 5 1 (.slice a3 k c3) k (bv (rOf m))]:=⟨_,rfl⟩
 have ldn:∀ {w':World} {N:List Res},St w [] w' (Mx++N)→(Instr.loadAt 3 (.pointer (some ⟨g1,9,none⟩))).run Tryz.prog w'=.ok (.int .i64 (n:Int)) w':=fun {w' N} h=>by
   rw [hMx] at h;exact h.ldL (i:=0) (o:=9) rfl (iI _) rfl (JH hhl _ _ _ _)
 have hi3:∀(r:Res),(Mx++ [r])[3]?=some r:=fun r=>by rw [hMx];rfl
 have hs3:∀(r s:Res),(Mx++ [r]).set 3 s=Mx++ [s]:=fun r s=>by rw [hMx];rfl
 have h7':St w [] w7 (Mx++ [.row 5 1 (.slice va 1 vc) 1 (bv [0x80])]):=by rw [hMx];exact h7
 clear h7 h5 h4 h3
 refine ⟨fun xa xn xc w'=>∃z:Nat,z≤bq n∧xn=1+z∧St w [] w' (Mx++ [.row 5 1 (.slice xa xn xc) xn (bv (0x80::List.replicate z 0))]),fun _ xn _ _=>1+bq n-xn,⟨0,by omega,rfl,h7'⟩,?_⟩
 rintro xa xn xc w8 ⟨z,hz,rfl,h8⟩
 have hzl:=tZ n
 have hmod:IntKind.wrap .i64 (IntKind.wrap .i64 ((n:Int)+((1+z:Nat):Int))+8)=((n+(1+z)+8:Nat):Int):=by
   rw [show IntKind.wrap .i64 ((n:Int)+((1+z:Nat):Int))=((n+(1+z):Nat):Int) by rw [wrap_i64 (by omega) (by omega)];omega,wrap_i64 (by omega) (by omega)];omega
 refine ⟨_,ldn h8,fun h=>?_,fun h=>?_⟩
 · rw [hmod,Int.tmod_eq_emod_of_nonneg (by omega)] at h
   have hne:(n+(1+z)+8)%64≠0:=by simp at h;omega
   have hz':z<bq n:=by
     rcases Nat.lt_or_ge z (bq n) with h1 | h1
     · exact h1
     · have:z=bq n:=by omega
       rw [this] at hne
       simp only [bq] at hne
       omega
   obtain ⟨g9,w9,vb,vd,w10,r9,r10,h10,_⟩:=h8.vI (i:=3) (n:=1+z) (hi3 _) (by omega) 0 (by decide)
   rw [hs3] at h10
   refine ⟨_,_,_,_,r9,_,_,_,_,r10,⟨z+1,by omega,by omega,?_⟩,(by show 1+bq n- (1+z+1)<1+bq n- (1+z);omega)⟩
   have:(0x80::List.replicate z 0)++ [UInt8.ofNat 0]=(0x80:UInt8)::List.replicate (z+1) 0:=by
     rw [List.replicate_succ'];rfl
   rw [←this]
   exact h10
 · rw [hmod,Int.tmod_eq_emod_of_nonneg (by omega)] at h
   have he:(n+(1+z)+8)%64=0:=by simp at h;omega
   have hz':z=bq n:=by
     simp only [bq] at hz ⊢
     omega
   subst hz'
   refine ⟨fun xa xn xc x w'=>∃j:Nat,x=(j:Int)∧j≤8∧xn=1+bq n+j∧St w [] w' (Mx++ [.row 5 1 (.slice xa xn xc) xn (bv (0x80::(List.replicate (bq n) 0++(List.range j).map (bB n))))]),fun _ _ _ x _=>8-x.toNat,⟨0,rfl,by omega,rfl,by simpa using h8⟩,?_⟩
   rintro ya yn yc y w11 ⟨j,rfl,hj,rfl,h11⟩
   refine ⟨fun h=>?_,fun h=>?_⟩
   · have hj':j<8:=by simp at h;omega
     have e1:IntKind.wrap .i64 ((56:Int)-IntKind.wrap .i64 (8*(j:Int)))=((56-8*j:Nat):Int):=by
       rw [show IntKind.wrap .i64 (8*(j:Int))=((8*j:Nat):Int) by rw [wrap_i64 (by omega) (by omega)];omega,wrap_i64 (by omega) (by omega)];omega
     rw [e1,Cl n j hj']
     obtain ⟨g12,w12,vb,vd,w13,r12,r13,h13,_⟩:=h11.vI (i:=3) (n:=1+bq n+j) (hi3 _) (by omega) (bB n j).toNat (bB n j).toNat_lt
     rw [hs3] at h13
     refine ⟨by omega,_,_,_,_,r12,_,_,_,_,r13,⟨j+1,ay hj' (by omega),by omega,by omega,?_⟩,aB hj' (by omega)⟩
     have:(0x80::(List.replicate (bq n) 0++(List.range j).map (bB n)))++ [UInt8.ofNat (bB n j).toNat]=(0x80:UInt8)::(List.replicate (bq n) 0++(List.range (j+1)).map (bB n)):=by
       rw [List.range_succ,List.map_append];simp
     rw [←this]
     exact h13
   · have hj':j=8:=by simp at h;omega
     subst hj'
     have hpl:(lH n).length=1+bq n+8:=by rw [xZ];omega
     have h11':St w [] w11 (Mx++ [.row 5 1 (.slice ya (1+bq n+8) yc) (1+bq n+8) (bv (lH n))]):=h11
     -- the state and its rest, the others ahead
     have hp:St w [] w11 ([.row 5 1 (.slice ya (1+bq n+8) yc) (1+bq n+8) (bv (lH n)),.arr g2 39 (bv (List.replicate 32 0))]++hM g1 462 m a3 c3):=by
       rw [hMx] at h11'
       rw [hM,hk,hn]
       refine h11'.perm ?_
       refine (List.perm_append_comm (l₁:=[_,_,_]) (l₂:=[_])).trans (List.Perm.cons _ (List.Perm.swap _ _ _))
     have hS0:=(hp.sub (List.sublist_append_right _ _))
     have hgk:6∉ij (hM g1 462 m a3 c3):=fun hx=>by
       have:=hS0.AH _ hx
       have:=hK.lt
       omega
     refine (xL _ g1 _ m a3 c3 ya _ yc (lH n) w11 (hK.au hp.chg) hgk hS0.self (LG hp (by simp)) (by omega)).mono ?_
     rintro e w14 ⟨rfl,a14,c14,h14⟩
     have h14':=hp.cq h14
     have htot:(m++lH n).length=n+(1+bq n+8):=by rw [List.length_append,hpl,hn]
     obtain ⟨H,hH⟩:∃H,hOf (m++lH n)=H:=⟨_,rfl⟩
     have hHl:H.length=8:=by rw [←hH];exact mN _
     have hsha:dI m=j9 H:=by rw [dI,hn,hH]
     rw [hsha]
     rw [hM,hH] at h14'
     obtain ⟨g15,w15,r15,h15⟩:=h14'.aD eD
     obtain ⟨N,hN⟩:∃N:List Res,N=[.row 5 1 (.slice ya (1+bq n+8) yc) (1+bq n+8) (bv (lH n)),.arr g2 39 (bv (List.replicate 32 0))]++ [.arr g1 462 (hsL H a14 (rOf (m++lH n)).length c14 ((m++lH n).length:Int)),.row 5 1 (.slice a14 (rOf (m++lH n)).length c14) (rOf (m++lH n)).length (bv (rOf (m++lH n)))]:=⟨_,rfl⟩
     have hpre:((hsL H a14 (rOf (m++lH n)).length c14 ((m++lH n).length:Int))).take 8=kv .u32 H:=by
       rw [hsL,List.take_append_of_le_length (by simp [hHl]),List.take_of_length_le (by simp [hHl])]
     have hld:=h15.Kj (T:=394) (i:=2) rfl (w8A _) (w8S _) (by rw [ig hHl];omega)
     rw [hpre] at hld
     have hi4:∀(r:Res),(N++ [r])[4]?=some r:=fun r=>by rw [hN];rfl
     have hi1:∀(r:Res),(N++ [r])[1]?=some (.arr g2 39 (bv (List.replicate 32 0))):=fun r=>by rw [hN];rfl
     have hs4:∀(r s:Res),(N++ [r]).set 4 s=N++ [s]:=fun r s=>by rw [hN];rfl
     have h15':St w [] w15 (N++ [.arr g15 39 (bv (upTo (j9 H) 0))]):=by rw [hN,uP,tu];exact h15
     clear h15
     refine ⟨rfl,g15,w15,r15,_,hld,fun x w'=>∃i:Nat,x=(i:Int)∧i≤8∧St w [] w' (N++ [.arr g15 39 (bv (upTo (j9 H) (4*i)))]),fun x _=>8-x.toNat,⟨0,rfl,by omega,h15'⟩,?_⟩
     rintro x w16 ⟨i,rfl,hi,h16⟩
     refine ⟨fun h=>?_,fun h=>?_⟩
     · have hi':i<8:=by simp at h;omega
       have e1:IntKind.wrap .i64 ((4:Int)*(i:Int))=((4*i:Nat):Int):=by rw [wrap_i64 (by omega) (by omega)];omega
       have e2:∀j:Nat,j<4→IntKind.wrap .i64 (((4*i:Nat):Int)+(j:Int))=((4*i+j:Nat):Int):=fun j hj=>by rw [wrap_i64 (by omega) (by omega)];omega
       have e21:IntKind.wrap .i64 (((4*i:Nat):Int)+1)=((4*i+1:Nat):Int):=e2 1 (by omega)
       have e22:IntKind.wrap .i64 (((4*i:Nat):Int)+2)=((4*i+2:Nat):Int):=e2 2 (by omega)
       have e23:IntKind.wrap .i64 (((4*i:Nat):Int)+3)=((4*i+3:Nat):Int):=e2 3 (by omega)
       rw [e1,e21,e22,e23]
       refine ⟨_,J1 (cs:=kv .u32 H) Tryz.underlying394 (uS _) (uA _) hi' (uz (by omega)),?_⟩
       have v0:IntKind.wrap .u8 (dh .u32 ((H.getD i 0:Nat):Int) 24)=((uk H (4*i)).toNat:Int):=oZ H i 0 (by omega)
       have v1:IntKind.wrap .u8 (dh .u32 ((H.getD i 0:Nat):Int) 16)=((uk H (4*i+1)).toNat:Int):=oZ H i 1 (by omega)
       have v2:IntKind.wrap .u8 (dh .u32 ((H.getD i 0:Nat):Int) 8)=((uk H (4*i+2)).toNat:Int):=oZ H i 2 (by omega)
       have v3:IntKind.wrap .u8 ((H.getD i 0:Nat):Int)=((uk H (4*i+3)).toNat:Int):=by
         have:=oZ H i 3 (by omega)
         rw [show 24-8*3=0 from rfl,pN _ _ (by omega),Nat.pow_zero,Nat.div_one] at this
         exact this
       rw [v0,v1,v2,v3]
       have ze:∀k:Nat,0+Int.toNat (k:Int)*1=k:=fun k=>by omega
       have hdl:(j9 H).length=32:=tu H
       obtain ⟨w17,q1,s1⟩:=h16.stB (b:=uk H (4*i)) (hi4 _) (sB _) (ze (4*i)) (by rw [iB (by omega)];omega)
       rw [hs4,gU (om H (by omega))] at s1
       obtain ⟨w18,q2,s2⟩:=s1.stB (b:=uk H (4*i+1)) (hi4 _) (sB _) (ze (4*i+1)) (by rw [iB (by omega)];omega)
       rw [hs4,gU (om H (by omega))] at s2
       obtain ⟨w19,q3,s3⟩:=s2.stB (b:=uk H (4*i+2)) (hi4 _) (sB _) (ze (4*i+2)) (by rw [iB (by omega)];omega)
       rw [hs4,gU (om H (by omega))] at s3
       obtain ⟨w20,q4,s4⟩:=s3.stB (b:=uk H (4*i+3)) (hi4 _) (sB _) (ze (4*i+3)) (by rw [iB (by omega)];omega)
       rw [hs4,gU (om H (by omega))] at s4
       refine ⟨by omega,by omega,w17,q1,by omega,by omega,w18,q2,by omega,by omega,w19,q3,by omega,by omega,w20,q4,⟨i+1,ay hi' (by omega),by omega,?_⟩,aB hi' (by omega)⟩
       rw [show 4*(i+1)=4*i+3+1 by omega]
       exact s4
     · have hi':i=8:=by simp at h;omega
       subst hi'
       have hdl:(j9 H).length=32:=tu H
       rw [show 4*8=(j9 H).length by omega,wN] at h16
       obtain ⟨w17,r17,h17⟩:=h16.stA (i:=1) (v:=bv (j9 H)) (hi1 _) (cL _) (by simp) (by simp) (aO _)
       have hi1':((N++ [Res.arr g15 39 (bv (j9 H))]).set 1 (.arr g2 39 (bv (j9 H))))[1]?=some (.arr g2 39 (bv (j9 H))):=by rw [hN];rfl
       exact ⟨_,h16.ldA (hi4 _) (jY _) (cL _) (by simp),w17,r17,_,h17.bQ hi1' (jY _) (cL _) (by simp),rfl,h17.chg⟩

end Go.Proofs.YtpmhjnhgpplmnaaGreatDoor
end

section
namespace Go.Proofs.YtpmhjnhgpplmnaaGreatDoor
open Go Sx
set_option maxRecDepth 8000

theorem I3 {w0 w:World} {X:List Nat} {N:List Res} (h:St w0 X w N) (hK:cI w0) (hX:6∉X):6∉ij N:=fun hx=>by
 obtain ⟨r,hr,hk⟩:=List.mem_flatMap.1 hx
 have:=hK.lt
 rcases h.pw.2.1 r hr _ hk with h1 | h1
 · omega
 · exact hX h1

theorem Sx.St.MI {w0 w:World} {X:List Nat} {N:List Res} (h:St w0 X w N):∀k∈ij N,w0.heap.size≤k∨k∈X:=fun k hk=>by
 obtain ⟨r,hr,hk⟩:=List.mem_flatMap.1 hk
 exact h.pw.2.1 r hr k hk

theorem RdK.step {w w1:World} {F:List Nat} {N:List Res} {a:Option Addr} {n c:Nat} {l:List UInt8} (h:RdK F w a n c l) (hS:St w F w1 N):RdK (ij N) w1 a n c l:=fun w2 hc=>
 h w2 (hS.chg.trans' hc hS.MI)

theorem JZ {w0 w:World} {X:List Nat} {M:List Res} (g T:Nat) (m:List UInt8) (a:Option Addr) (c:Nat) (a1:Option Addr) (n1 c1:Nat) (l:List UInt8) (hK:cI w0) (hX:6∉X) (hS:St w0 X w (M++hM g T m a c)) (hr:RdK (ij (hM g T m a c)) w a1 n1 c1 l) (hb:m.length+l.length≤140737488350000):
   Calls Tryz.prog 362 #[.pointer (some ⟨g,0,none⟩),.slice a1 n1 c1] w fun e w'=>e=.returned (.tuple #[])∧∃a' c',St w0 X w' (M++hM g T (m++l) a' c')∧Chg (ij (hM g T m a c)) w w':=by
 have hN:=hS.sub (List.sublist_append_right M _)
 refine (xL _ g T m a c a1 n1 c1 l w (hK.keep hS.chg hX) (I3 hN hK hX) hN.self hr hb).mono ?_
 rintro e w' ⟨rfl,a',c',h'⟩
 exact ⟨rfl,a',c',hS.cq h',h'.chg⟩

structure wV (F:List Nat) (w:World) (a:Option Addr) (n c:Nat) (vs:List Value) (ls:List (List UInt8)):Prop where
 rd:∀w',Chg F w w'→Rd w' a n c 1 vs
 row:∀w',Chg F w w'→cH w' vs ls

theorem y2 {w0 w:World} {N:List Res} (h:St w0 [] w N) {a:Option Addr} {n c:Nat} {vs:List Value} {ls:List (List UInt8)} (hr:Rd w0 a n c 1 vs) (h2:cH w0 vs ls):wV (ij N) w a n c vs ls:=
 ⟨fun _ hc=>hr.au (h.chg.trans' hc fun k hk=>.inl (h.AH k hk)),fun _ hc=>h2.au (h.chg.trans' hc fun k hk=>.inl (h.AH k hk))⟩

theorem wV.at_ {F:List Nat} {w:World} {a:Option Addr} {n c:Nat} {vs:List Value} {ls:List (List UInt8)} (h:wV F w a n c vs ls) {i:Nat} (hi:i<ls.length):∃b o a' n' c',a=some ⟨b,o,none⟩∧RdK F w a' n' c' (ls.getD i [])∧
   ∀w',Chg F w w'→(Instr.loadAt 26 (.pointer (some ⟨b,o+Int.toNat (i:Int)*1,none⟩))).run Tryz.prog w'=.ok (.slice a' n' c') w':=by
 obtain ⟨b,o,a',n',c',ha,hv,hrd,hld⟩:=ixS (h.rd w (Chg.refl _ _)).cells (h.row w (Chg.refl _ _)) hi
 refine ⟨b,o,a',n',c',ha,fun w' hc=>?_,fun w' hc=>hld w' (h.rd w' hc).cells⟩
 obtain ⟨a2,n2,c2,hv2,hrd2⟩:=(h.row w' hc).rd i hi
 rw [hv] at hv2
 simp only [Option.some.injEq,Value.slice.injEq] at hv2
 obtain ⟨rfl,rfl,rfl⟩:=hv2
 exact hrd2

theorem oK {w0 w:World} {X:List Nat} {M:List Res} (g T:Nat) (m:List UInt8) (a:Option Addr) (c:Nat) (a1:Option Addr) (n1 c1:Nat) (vs:List Value) (ls:List (List UInt8)) (hK:cI w0) (hX:6∉X) (hS:St w0 X w (M++hM g T m a c)) (hp:wV (ij (hM g T m a c)) w a1 n1 c1 vs ls) (hb:m.length+ls.flatten.length≤140737488350000) (hn:n1≤4611686018427387904):
   Calls Tryz.prog 325 #[.pointer (some ⟨g,0,none⟩),.slice a1 n1 c1] w fun e w'=>e=.returned (.tuple #[])∧∃a' c',St w0 X w' (M++hM g T (m++ls.flatten) a' c')∧Chg (ij (hM g T m a c)) w w':=by
 have hln:ls.length=n1:=by have:=(hp.rd w (Chg.refl _ _)).len;have:=(hp.row w (Chg.refl _ _)).len;omega
 have hN0:=(hS.sub (List.sublist_append_right M _)).self
 have hgk:6∉ij (hM g T m a c):=I3 (hS.sub (List.sublist_append_right M _)) hK hX
 apply pY
 refine ⟨fun x w'=>∃(i:Nat) (a':Option Addr) (c':Nat),x=(i:Int)∧i≤n1∧St w (ij (hM g T m a c)) w' (hM g T (m++(ls.take i).flatten) a' c'),fun x _=>n1-x.toNat,⟨0,a,c,rfl,by omega,by simpa using hN0⟩,?_⟩
 rintro x w1 ⟨i,a',c',rfl,hi,h1⟩
 refine ⟨fun h=>?_,fun h=>?_⟩
 · have hi':i<n1:=by simp at h;omega
   obtain ⟨b,o,a2,n2,c2,ha,hrk,hld⟩:=hp.at_ (i:=i) (by omega)
   have hf1:=gM (ls:=ls) (i:=i) (by omega)
   have hf2:=bI ls (i+1)
   have hf3:=congrArg List.length hf1
   rw [List.length_append] at hf3
   refine ⟨b,o,ha,by omega,by omega,a2,n2,c2,hld w1 h1.chg,(JZ (M:=[]) g T _ a' c' a2 n2 c2 _ (hK.keep hS.chg hX) hgk h1 (hrk.step h1) (by rw [List.length_append];omega)).mono ?_⟩
   rintro e w2 ⟨rfl,a3,c3,h3,_⟩
   refine ⟨rfl,⟨i+1,a3,c3,ay hi' hn,by omega,?_⟩,aB hi' hn⟩
   rw [hf1,←List.append_assoc]
   exact h3
 · have hi':i=n1:=by simp at h;omega
   rw [hi',←hln,List.take_length] at h1
   exact ⟨rfl,a',c',hS.cq h1,h1.chg⟩

theorem Ag {w0 w:World} {X:List Nat} {M:List Res} (g T:Nat) (m:List UInt8) (a:Option Addr) (c:Nat) (hK:cI w) (hS:St w0 X w (M++hM g T m a c)) (hb:m.length≤70368744177664):
   Calls Tryz.prog 326 #[.pointer (some ⟨g,0,none⟩)] w fun e w'=>e=.returned (.agg (bv (dI m)).toArray)∧Chg [] w w':=by
 have hN:=(hS.sub (List.sublist_append_right M _)).self
 apply sP
 obtain ⟨g1,w1,r1,h1⟩:=hN.aD eD
 have hc1:Chg [] w w1:=by
   obtain ⟨g1',w1',r1',h1'⟩:=(St.start w).aD eD
   have e:=r1.symm.trans r1'
   simp only [Result.ok.injEq] at e
   obtain ⟨_,rfl⟩:=e
   exact h1'.chg
 refine ⟨_,_,r1,_,h1.ldA (i:=0) rfl (stA _) (stS _) (ig (mN m) _ _ _ _),(Bt m a c w1 (hK.au hc1) (h1.rd (i:=1) rfl) hb).mono ?_⟩
 rintro e w2 ⟨rfl,hc2⟩
 have h0:=((St.start w).aD eD)
 obtain ⟨g1',w1',r1',h1'⟩:=h0
 have e:=r1.symm.trans r1'
 simp only [Result.ok.injEq,Value.pointer.injEq,Option.some.injEq,Addr.mk.injEq,and_true] at e
 obtain ⟨⟨rfl,_⟩,rfl⟩:=e
 have h2:=h1'.same hc2
 obtain ⟨w3,r3,h3⟩:=h2.stA (i:=0) (v:=bv (dI m)) rfl (cL _) (by simp) (Db m |> fun h=>by simp [h]) (aO _)
 exact ⟨_,rfl,w3,r3,_,h3.bQ (i:=0) rfl (jY _) (cL _) (by simp),rfl,h3.chg⟩

theorem vq (a:Option Addr) (n c:Nat) (vs:List Value) (ls:List (List UInt8)) (w:World) (hK:cI w) (hr:Rd w a n c 1 vs) (h2:cH w vs ls) (hb:ls.flatten.length≤70368744177664) (hn:n≤4611686018427387904):
   Calls Tryz.prog 323 #[.slice a n c] w fun e w'=>e=.returned (.agg (bv (dI ls.flatten)).toArray)∧Chg [] w w':=by
 apply EB
 obtain ⟨g1,w1,r1,h1⟩:=(St.start w).aD eD
 refine ⟨_,_,r1,(vk w1).mono ?_⟩
 rintro e w2 ⟨g,rfl,hN2⟩
 have h2':St w [] w2 ([.arr g1 39 (bv (List.replicate 32 0))]++hM g 465 [] none 0):=by
   refine St.cq (N:=[]) (w:=w1) (by simpa using h1) ?_
   simpa [ij] using hN2
 have hN:=h2'.sub (List.sublist_append_right _ _)
 refine ⟨_,_,rfl,(oK g _ [] none 0 a n c vs ls hK (by simp) h2' (y2 hN hr h2) (by simp only [List.length_nil];omega) hn).mono ?_⟩
 rintro e w3 ⟨rfl,a3,c3,h3,_⟩
 rw [List.nil_append] at h3
 refine ⟨rfl,(Ag g _ _ a3 c3 (hK.au h3.chg) h3 hb).mono ?_⟩
 rintro e w4 ⟨rfl,hc4⟩
 have h4:=h3.same hc4
 obtain ⟨w5,r5,h5⟩:=h4.stA (i:=0) (v:=bv (dI ls.flatten)) rfl (cL _) (by simp) (by simp) (aO _)
 exact ⟨_,rfl,w5,r5,_,h5.bQ (i:=0) (l:=bv (dI ls.flatten)) rfl (jY _) (cL _) (by simp),rfl,h5.chg⟩

theorem or_zero {d x y:Nat} (hd:d<256) (hx:x<256) (hy:y<256):bor .u8 (d:Int) (aU .u8 (x:Int) (y:Int))=((d||| (x^^^y):Nat):Int)∧d||| (x^^^y)<256∧(d||| (x^^^y)=0↔d=0∧x=y):=by
 have hxy:x^^^y<256:=Nat.xor_lt_two_pow (n:=8) hx hy
 refine ⟨?_,Nat.or_lt_two_pow (n:=8) hd hxy,?_⟩
 · rw [nM rfl (by simpa [eM,IntKind.bits] using hx) (by simpa [eM,IntKind.bits] using hy),wF rfl (by simpa [eM,IntKind.bits] using hd) (by simpa [eM,IntKind.bits] using hxy)]
 · constructor
   · intro h
     have h1:d=0:=by
       have:d≤d||| (x^^^y):=Nat.left_le_or
       omega
     have h2:x^^^y=0:=by
       have:x^^^y≤d||| (x^^^y):=Nat.right_le_or
       omega
     refine ⟨h1,?_⟩
     have h3:(x^^^y)^^^y=0^^^y:=by rw [h2]
     rwa [Nat.xor_assoc,Nat.xor_self,Nat.xor_zero,Nat.zero_xor] at h3
   · rintro ⟨rfl,rfl⟩;simp

theorem Ev (a:Option Addr) (n c:Nat) (l:List UInt8) (a2:Option Addr) (n2 c2:Nat) (l2:List UInt8) (w:World) (hr:RdB w a n c l) (hr2:RdB w a2 n2 c2 l2) (hb:n≤4611686018427387904):
   Calls Tryz.prog 207 #[.slice a n c,.slice a2 n2 c2] w fun e w'=>e=.returned (.bool (decide (l=l2)))∧Chg [] w w':=by
 have hl:=hr.bB
 have hl2:=hr2.bB
 apply Bf
 refine ⟨fun h=>?_,fun h=>?_⟩
 · have:l≠l2:=by rintro rfl;simp at h;omega
   exact ⟨by simp [this],Chg.refl _ _⟩
 · have hnn:n2=n:=by simp at h;omega
   subst hnn
   refine ⟨fun x y w'=>∃i d:Nat,y=(i:Int)∧x=(d:Int)∧i≤n2∧d<256∧(d=0↔l.take i=l2.take i)∧Chg [] w w',fun _ y _=>n2-y.toNat,⟨0,0,rfl,rfl,by omega,by decide,by simp,Chg.refl _ _⟩,?_⟩
   rintro x y w1 ⟨i,d,rfl,rfl,hi,hd,hiff,hc1⟩
   refine ⟨fun h=>?_,fun h=>?_⟩
   · have hi':i<n2:=by simp at h;omega
     have hcd:=hc1.trans (Chg.drew [] w1)
     refine ⟨fun w'=>Chg [] w w',hcd,ix0 hr.cells hl i hi' fun b o ha q=>ix0 hr2.cells hl2 i hi' fun b2 o2 ha2 q2=>?_⟩
     obtain ⟨e1,e2,e3⟩:=or_zero hd (l.getD i 0).toNat_lt (l2.getD i 0).toNat_lt
     refine ⟨b,o,ha,by omega,by omega,b2,o2,ha2,by omega,by omega,_,fun w' h=>q w' (hr.au h).cells,_,fun w' h=>q2 w' (hr2.au h).cells,⟨i+1,_,ay hi' hb,e1,by omega,e2,?_,hcd⟩,aB hi' hb⟩
     rw [e3,hiff]
     have ht:∀m:List UInt8,m.length=n2→m.take (i+1)=m.take i++ [m.getD i 0]:=fun m hm=>by
       rw [List.take_add_one,List.getElem?_eq_getElem (by omega)];simp [List.getD,show i<m.length by omega]
     rw [ht l hl,ht l2 hl2]
     constructor
     · rintro ⟨h1,h2⟩;rw [h1,UInt8.toNat_inj.1 h2]
     · intro h1
       have:=List.append_inj' h1 rfl
       exact ⟨this.1,by simpa using congrArg (fun m=>(m.getD 0 0).toNat) this.2⟩
   · have hi':i=n2:=by simp at h;omega
     subst hi'
     rw [List.take_of_length_le (by omega),List.take_of_length_le (by omega)] at hiff
     refine ⟨?_,hc1⟩
     have:(((d:Int)==0):Bool)=decide (l=l2):=by
       by_cases h0:d=0
       · subst h0;simp [hiff.1 rfl]
       · have:¬l=l2:=fun h=>h0 (hiff.2 h)
         simp [this,h0]
     rw [this]

end Go.Proofs.YtpmhjnhgpplmnaaGreatDoor
end

section
namespace Go.Proofs.YtpmhjnhgpplmnaaGreatDoor.Sx
open Go
set_option maxRecDepth 8000

theorem pQ (l:List UInt8):bv l=(l.map fun b=>(b.toNat:Int)).map (Value.int .u8):=by simp [bv]

end Go.Proofs.YtpmhjnhgpplmnaaGreatDoor.Sx
end

section
namespace Go.Proofs.YtpmhjnhgpplmnaaGreatDoor
open Go Sx
set_option maxRecDepth 8000

theorem OX (w:World):(isAgg 368).run Tryz.prog w=.ok true w:=Tryz.isAgg368 w
theorem Oi (w:World):(sizeOf 368).run Tryz.prog w=.ok 64 w:=Tryz.sizeOf368 w
theorem OM (w:World):(zeroValue 368).run Tryz.prog w=.ok (.agg (bv (List.replicate 64 0)).toArray) w:=Tryz.zeroValue368 w
theorem sB1 (w:World):(sizeOf 5).run Tryz.prog w=.ok 1 w:=Tryz.sizeOf5 w

theorem Sx.St.Gz {w0 w:World} {X:List Nat} {M:List Res} (h:St w0 X w M) {i g T n c d:Nat} {a:Option Addr} {l src:List UInt8} (hi:M[i]?=some (.arr g T (bv l))) (hd:l.length=d) (hr:RdB w a n c src) (hn:n≤d):
   ∃w',(Builtin.copy_ #[26,26] 3 #[.slice (some ⟨g,0,none⟩) d d,.slice a n c]).run Tryz.prog w=.ok (.int .i64 (n:Int)) w'∧St w0 X w' (M.set i (.arr g T (bv (src++l.drop n)))):=by
 have hl:=hr.bB
 have hinf:(Tryz.prog.info? 5).map (·.size)=some 1:=by kernel_rfl
 have hg:=h.holds i _ hi
 have done:n=0→St w0 X w (M.set i (.arr g T (bv (src++l.drop n)))):=fun h0=>by
   subst h0
   have:src=[]:=List.eq_nil_of_length_eq_zero hl
   subst this
   rw [List.nil_append,List.drop_zero]
   exact h.upd hi (Chg.refl _ _) hg (fun k hk=>.inl hk)
 rcases hr.cells with h0 | ⟨b,o,rfl,hrg⟩
 · have h0':n=0:=by rw [←hl];simpa [bv] using congrArg List.length h0
   refine ⟨w,?_,done h0'⟩
   subst h0'
   exact run_copy_none w _ _ _ 5 _ _ _ _ _ _ bS hinf (by simp)
 · have hr':=run_copy_row (P:=Tryz.prog) w 26 26 3 5 g 0 d d ⟨b,o,none⟩ n c (bv l).toArray T (bv src) bS hinf hg (by rw [cN,hl];exact (Nat.min_eq_left hn).symm) (fun j v hj=>by rw [Addr.add_mid];exact hrg j v hj) (by simp;omega) (aO _)
   have e:((bv l).toArray.toList.take 0++bv src++(bv l).toArray.toList.drop (0+(bv src).length)).toArray=(bv (src++l.drop n)).toArray:=by
     simp [fB,hl]
   rw [e] at hr'
   refine ⟨_,by rw [hr',cN,hl];rfl,h.upd hi (w':=w.setRow g _) ⟨rfl,rfl,rfl,by simp,fun k _ hk=>setRow_other w g k _ (fun e=>hk (by simp [Res.fp,e]))⟩ (setRow_heap w g _ _ T _ hg) (by simp [Res.fp])⟩

theorem rV (b c:UInt8):aU .u8 (b.toNat:Int) (c.toNat:Int)=((b^^^c).toNat:Int):=by
 rw [nM rfl (by have:=b.toNat_lt;simpa [eM,IntKind.bits] using this) (by have:=c.toNat_lt;simpa [eM,IntKind.bits] using this),UInt8.toNat_xor]

def kdL (g:Nat) (o:List UInt8):List Value:=.pointer (some ⟨g,0,none⟩)::bv o

def fq (key:List UInt8):List UInt8:=(iC key).map (· ^^^0x36)
def lI (key:List UInt8):List UInt8:=(iC key).map (· ^^^0x5c)
theorem sZ (key:List UInt8):(fq key).length=64:=by rw [fq,List.length_map];exact sK key
theorem Eb (key:List UInt8):(lI key).length=64:=by rw [lI,List.length_map];exact sK key
def kM (gk g:Nat) (key m:List UInt8) (a:Option Addr) (c:Nat):List Res:=.arr gk 424 (kdL g (lI key))::hM g 465 (fq key++m) a c
theorem zV (key m:List UInt8):dx key m=dI (lI key++dI (fq key++m)):=rfl

theorem CL:Tryz.prog.built 424=fun parts=>Instr.fill (fun i=>(#[(0,1),(1,64)]:Array (Nat×Nat))[i]?) (.pointer none::bv (List.replicate 64 0)).toArray parts:=by kernel_rfl
theorem Dx (g:Nat) (w:World):(Instr.build 424 #[(0,.pointer (some ⟨g,0,none⟩))]).run Tryz.prog w=.ok (.agg (kdL g (List.replicate 64 0)).toArray) w:=by
 apply run_build
 rw [CL]
 show Instr.fill _ _ [(0,.pointer (some ⟨g,0,none⟩))]=_
 rw [aC (off:=0) (sz:=1) rfl (by simp [Value.cells]) (by simp)]
 simp [Instr.fill,Value.cells,kdL]

theorem pA (w:World):(isAgg 421).run Tryz.prog w=.ok false w:=Tryz.isAgg421 w

theorem B8 {w0 w:World} {X:List Nat} {M:List Res} (gk g:Nat) (key m:List UInt8) (a:Option Addr) (c:Nat) (a1:Option Addr) (n1 c1:Nat) (vs:List Value) (ls:List (List UInt8)) (hK:cI w0) (hX:6∉X) (hS:St w0 X w (M++kM gk g key m a c))
   (hp:wV (ij (hM g 465 (fq key++m) a c)) w a1 n1 c1 vs ls) (hb:m.length+ls.flatten.length≤140737488340000) (hn:n1≤4611686018427387904):
   Calls Tryz.prog 270 #[.pointer (some ⟨gk,0,none⟩),.slice a1 n1 c1] w fun e w'=>e=.returned (.tuple #[])∧∃a' c',St w0 X w' (M++kM gk g key (m++ls.flatten) a' c')∧Chg (ij (hM g 465 (fq key++m) a c)) w w':=by
 have hS':St w0 X w ((M++ [.arr gk 424 (kdL g (lI key))])++hM g 465 (fq key++m) a c):=by rw [List.append_assoc];exact hS
 have hN:=hS.sub (List.sublist_append_right M _)
 have hip:=sZ key
 apply kR
 refine ⟨g,0,hN.ldL (i:=0) (o:=0) rfl (pA _) rfl rfl,(oK g _ (fq key++m) a c a1 n1 c1 vs ls hK hX hS' hp (by rw [List.length_append,hip];omega) hn).mono ?_⟩
 rintro e w' ⟨rfl,a',c',h',hc'⟩
 refine ⟨rfl,rfl,a',c',?_,hc'⟩
 rw [List.append_assoc,List.append_assoc] at h'
 exact h'

theorem Sx.St.NA {w0 w:World} {X:List Nat} {M:List Res} (h:St w0 X w M) {i g T:Nat} {v:Value} {l:List UInt8} (hi:M[i]?=some (.arr g T (v::bv l))):RdB w (some ⟨g,1,none⟩) l.length l.length l:=
 ⟨.inr ⟨g,1,rfl,fun j u hj=>by
   have:=h.ku hi (j+1) u (by simpa using hj)
   rw [show 1+j=0+(j+1) by omega];exact this⟩,by simp,Nat.le_refl _,by simp⟩

theorem JU (w:World):RdB w none 0 0 []:=⟨Cells.nil _ _,rfl,Nat.le_refl _,fun _=>rfl⟩

theorem eu {w:World} {a:Option Addr} {n c:Nat} {l:List UInt8} (h:RdB w a n c l):cH w [.slice a n c] [l]:=by
 refine ⟨rfl,fun i hi=>?_⟩
 have:i=0:=by simpa using hi
 subst this
 exact ⟨a,n,c,rfl,h⟩
theorem oO {w:World} {a:Option Addr} {n c:Nat} {l:List UInt8} {a2:Option Addr} {n2 c2:Nat} {l2:List UInt8} (h:RdB w a n c l) (h2:RdB w a2 n2 c2 l2):cH w [.slice a n c,.slice a2 n2 c2] [l,l2]:=by
 refine ⟨rfl,fun i hi=>?_⟩
 rcases i with _ | _ | i
 · exact ⟨a,n,c,rfl,h⟩
 · exact ⟨a2,n2,c2,rfl,h2⟩
 · simp only [List.length_cons,List.length_nil] at hi;omega

theorem HW {w0 w:World} {X:List Nat} {M:List Res} (gk g:Nat) (key m:List UInt8) (a:Option Addr) (c:Nat) (hK:cI w) (hS:St w0 X w (M++kM gk g key m a c)) (hb:m.length≤70368744170000):
   Calls Tryz.prog 271 #[.pointer (some ⟨gk,0,none⟩)] w fun e w'=>e=.returned (.agg (bv (dx key m)).toArray)∧Chg [] w w':=by
 have hN:=(hS.sub (List.sublist_append_right M _)).self
 have hip:=sZ key
 apply uN
 obtain ⟨g1,w1,r1,h1⟩:=(St.start w).aD eD
 have hN1:=hN.same h1.chg
 have hK1:=hK.au h1.chg
 refine ⟨_,_,r1,g,0,hN1.ldL (i:=0) (o:=0) rfl (pA _) rfl rfl,(Ag (M:=[_]) g _ _ a c hK1 hN1 (by rw [List.length_append,hip];omega)).mono ?_⟩
 rintro e w2 ⟨rfl,hc2⟩
 have h2:=h1.same hc2
 obtain ⟨g3,w3,r3,h3⟩:=h2.aD eD
 obtain ⟨w4,r4,h4⟩:=h3.stA (i:=1) (v:=bv (dI (fq key++m))) rfl (cL _) (by simp) (by simp) (aO _)
 have h4d:=h4.drew
 have hop:=Eb key
 obtain ⟨g5,w5,r5,h5⟩:=h4d.lit bbT [.slice (some ⟨gk,1,none⟩) 64 64,.slice (some ⟨g3,0,none⟩) 32 32] (by simp [Value.oneCell']) (by simp)
 have hN5:=hN.same h5.chg
 have q1:=hN5.NA (i:=0) rfl
 rw [hop] at q1
 have q2:RdB w5 (some ⟨g3,0,none⟩) 32 32 (dI (fq key++m)):=h5.rdA (i:=1) rfl (by simp)
 refine ⟨_,rfl,g3,w3,r3,w4,r4,by omega,by omega,by omega,by omega,_,_,_,_,r5,(vq _ 2 2 _ [lI key,dI (fq key++m)] w5 (hK.au h5.chg) (h5.rd (i:=2) rfl) (oO q1 q2) (by simp [hop]) (by decide)).mono ?_⟩
 rintro e w6 ⟨rfl,hc6⟩
 have hm:dI [lI key,dI (fq key++m)].flatten=dx key m:=by rw [zV];simp
 rw [hm]
 have h6:=h5.same hc6
 obtain ⟨w7,r7,h7⟩:=h6.stA (i:=0) (v:=bv (dx key m)) rfl (cL _) (by simp) (by simp) (aO _)
 exact ⟨_,rfl,w7,r7,_,h7.bQ (i:=0) (l:=bv (dx key m)) rfl (jY _) (cL _) (by simp),rfl,h7.chg⟩

theorem CV (a:Option Addr) (n c:Nat) (key:List UInt8) (w:World) (hK:cI w) (hr:RdB w a n c key) (hb:n≤70368744170000):
   Calls Tryz.prog 269 #[.slice a n c] w fun e w'=>∃gk g a' c',e=.returned (.pointer (some ⟨gk,0,none⟩))∧St w [] w' (kM gk g key [] a' c'):=by
 have hl:=hr.bB
 have hle:=hr.le
 apply zS
 obtain ⟨g1,w1,r1,h1⟩:=(St.start w).aD OM
 refine ⟨_,_,r1,fun w'=>St w [] w' [.arr g1 368 (bv (iC key))],⟨fun h=>?_,fun h=>?_⟩,?_⟩
 · have hn:64<key.length:=by simp at h;omega
   obtain ⟨g2,w2,r2,h2⟩:=h1.lit bbT [.slice a n c] (by simp [Value.oneCell']) (by simp)
   refine ⟨_,_,_,_,r2,(vq _ 1 1 _ [key] w2 (hK.au h2.chg) (h2.rd (i:=1) rfl) (eu (h2.rd1 hr)) (by simp;omega) (by decide)).mono ?_⟩
   rintro e w3 ⟨rfl,hc3⟩
   have hk1:dI [key].flatten=dI key:=by simp
   rw [hk1]
   have h3:=h2.same hc3
   obtain ⟨g4,w4,r4,h4⟩:=h3.aD eD
   obtain ⟨w5,r5,h5⟩:=h4.stA (i:=2) (v:=bv (dI key)) rfl (cL _) (by simp) (by simp) (aO _)
   have h5d:=h5.drew
   obtain ⟨w6,r6,h6⟩:=h5d.Gz (i:=0) (d:=64) (n:=32) (c:=32) (a:=some ⟨g4,0,none⟩) (src:=dI key) rfl (by simp) (h5d.rdA (i:=2) rfl (by simp)) (by omega)
   refine ⟨_,rfl,g4,w4,r4,w5,r5,by omega,by omega,by omega,by omega,_,w6,r6,?_⟩
   have hmk:iC key=dI key++(List.replicate 64 0).drop 32:=by
     simp only [iC,if_pos hn,Db]
     rfl
   rw [hmk]
   exact h6.sub (List.Sublist.cons_cons _ (List.nil_sublist _))
 · have hn:¬64<key.length:=by simp at h;omega
   obtain ⟨w6,r6,h6⟩:=h1.Gz (i:=0) (d:=64) (n:=n) (c:=c) (a:=a) (src:=key) rfl (by simp) (h1.rd1 hr) (by omega)
   refine ⟨by omega,by omega,_,w6,r6,?_⟩
   have hmk:iC key=key++(List.replicate 64 0).drop n:=by
     simp only [iC,if_neg hn]
     rw [List.drop_replicate,hl]
   rw [hmk]
   exact h6
 rintro w8 h8
 obtain ⟨K,hKk⟩:∃K,iC key=K:=⟨_,rfl⟩
 have hKl:K.length=64:=by rw [←hKk];exact sK key
 rw [hKk] at h8
 refine (vk w8).mono ?_
 rintro e w9 ⟨g,rfl,hN9⟩
 have h9:St w [] w9 ([.arr g1 368 (bv K)]++hM g 465 [] none 0):=by
   refine St.cq (N:=[]) (w:=w8) (by simpa using h8) ?_
   simpa [ij] using hN9
 obtain ⟨gk,w10,r10,h10⟩:=h9.cz (P:=Tryz.prog) 424 (kdL g (List.replicate 64 0))
 refine ⟨_,_,rfl,_,Dx g w9,gk,w10,r10,_,h10.ldA (i:=0) (l:=bv K) rfl (OX _) (Oi _) (by simp [hKl]),?_⟩
 refine ⟨fun x w'=>∃i:Nat,x=(i:Int)∧i≤64∧St w [] w' ([.arr g1 368 (bv (dJ (K.map (· ^^^0x36)) K i))]++hM g 465 [] none 0++ [.arr gk 424 (kdL g (dJ (K.map (· ^^^0x5c)) (List.replicate 64 0) i))]),fun x _=>64-x.toNat,
   ⟨0,rfl,by omega,by rw [gL,gL];exact h10⟩,?_⟩
 rintro x w11 ⟨i,rfl,hi,h11⟩
 have hm1:(dJ (K.map (· ^^^0x36)) K i).length=64:=by rw [s7 (by simp) (by omega)];exact hKl
 have hm2:(dJ (K.map (· ^^^0x5c)) (List.replicate 64 (0:UInt8)) i).length=64:=by rw [s7 (by simp [hKl]) (by simp;omega)];simp
 refine ⟨fun h=>?_,fun h=>?_⟩
 · have hi':i<64:=by simp at h;omega
   have hb5:(K.map (· ^^^0x5c))[i]?=some (K.getD i 0^^^0x5c):=by simp [List.getD,show i<K.length by omega]
   have hb3:(K.map (· ^^^0x36))[i]?=some (K.getD i 0^^^0x36):=by simp [List.getD,show i<K.length by omega]
   have x5:aU .u8 ((K.getD i 0).toNat:Int) 92=((K.getD i 0^^^0x5c).toNat:Int):=rV _ 0x5c
   have x3:aU .u8 ((K.getD i 0).toNat:Int) 54=((K.getD i 0^^^0x36).toNat:Int):=rV _ 0x36
   obtain ⟨w12,r12,h12⟩:=h11.stL (i:=3) (o:=1+i) (off:=1+Int.toNat (i:Int)*1) (v:=.int .u8 ((K.getD i 0^^^0x5c).toNat:Int)) rfl (sB1 _) (by omega) (by rw [kdL,List.length_cons,cN,hm2];omega) rfl
   have hset:(kdL g (dJ (K.map (· ^^^0x5c)) (List.replicate 64 0) i)).set (1+i) (.int .u8 ((K.getD i 0^^^0x5c).toNat:Int))=kdL g (dJ (K.map (· ^^^0x5c)) (List.replicate 64 0) (i+1)):=by
     rw [kdL,Nat.add_comm 1 i,List.set_cons_succ,xI,kE (by simp [hKl]) hb5];rfl
   rw [hset] at h12
   have h12':St w [] w12 ([.arr g1 368 (bv (dJ (K.map (· ^^^0x36)) K i))]++hM g 465 [] none 0++ [.arr gk 424 (kdL g (dJ (K.map (· ^^^0x5c)) (List.replicate 64 0) (i+1)))]):=h12
   obtain ⟨w13,r13,h13⟩:=h12'.stB (i:=0) (o:=i) (off:=0+Int.toNat (i:Int)*1) (b:=K.getD i 0^^^0x36) rfl (sB1 _) (by omega) (by omega)
   rw [kE (by simp) hb3] at h13
   refine ⟨_,J1 (cs:=bv K) Tryz.underlying368 (sB1 _) (bA _) hi' (rN (by omega)),by omega,by omega,w12,by rw [x5];exact r12,by omega,by omega,w13,by rw [x3];exact r13,⟨i+1,ay hi' (by omega),by omega,h13⟩,aB hi' (by omega)⟩
 · have hi':i=64:=by simp at h;omega
   have f1:dJ (K.map (· ^^^0x36)) K i=fq key:=by
     have:=kT (x:=K.map (· ^^^0x36)) (l:=K) (by simp)
     rw [hKl] at this;rw [hi',this,fq,hKk]
   have f2:dJ (K.map (· ^^^0x5c)) (List.replicate 64 (0:UInt8)) i=lI key:=by
     have:=kT (x:=K.map (· ^^^0x5c)) (l:=List.replicate 64 (0:UInt8)) (by simp [hKl])
     rw [List.length_replicate] at this;rw [hi',this,lI,hKk]
   rw [f1,f2] at h11
   clear f1 f2 hm1 hm2 h hi hi'
   have hip:=sZ key
   obtain ⟨g14,w14,r14,h14⟩:=h11.lit bbT [.slice (some ⟨g1,0,none⟩) 64 64] (by simp [Value.oneCell']) (by simp)
   have hP:List.Perm ([Res.arr g1 368 (bv (fq key))]++hM g 465 [] none 0++ [Res.arr gk 424 (kdL g (lI key))]++ [Res.row 26 1 (.slice (some ⟨g14,0,none⟩) 1 1) 1 [.slice (some ⟨g1,0,none⟩) 64 64]])
       (([Res.row 26 1 (.slice (some ⟨g14,0,none⟩) 1 1) 1 [.slice (some ⟨g1,0,none⟩) 64 64],Res.arr g1 368 (bv (fq key))]++ [Res.arr gk 424 (kdL g (lI key))])++hM g 465 [] none 0):=by
     refine List.perm_append_comm.trans ?_
     refine List.Perm.cons _ ?_
     refine List.Perm.cons _ ?_
     exact List.perm_append_comm
   have h14':=h14.perm hP
   have hkp:∀w',Chg (ij (hM g 465 [] none 0)) w14 w'→Rd w' (some ⟨g14,0,none⟩) 1 1 1 [.slice (some ⟨g1,0,none⟩) 64 64]∧RdB w' (some ⟨g1,0,none⟩) 64 64 (fq key):=fun w' hc=>by
     have q1:Res.holds w' (Res.row 26 1 (.slice (some ⟨g14,0,none⟩) 1 1) 1 [.slice (some ⟨g1,0,none⟩) 64 64]):=h14'.yg (by simp) hc
     have q2:Res.holds w' (Res.arr g1 368 (bv (fq key))):=h14'.yg (by simp) hc
     exact ⟨rj q1,(St.GH (o:=.cells (bv (fq key)).toArray 368) q2).rdA (i:=0) rfl (by simp [hip])⟩
   -- the inner pad is the first that is written
   refine ⟨by omega,by omega,_,_,_,_,r14,?_⟩
   apply kR
   have hNk:=h14'.sub (List.sublist_append_left _ _)
   refine ⟨g,0,hNk.ldL (i:=2) (o:=0) rfl (pA _) rfl rfl,(oK g _ [] none 0 _ 1 1 _ [fq key] hK (by simp) h14' ⟨fun w' hc=>(hkp w' hc).1,fun w' hc=>eu (hkp w' hc).2⟩ (by simp [hip]) (by decide)).mono ?_⟩
   rintro e w15 ⟨rfl,a15,c15,h15,_⟩
   have e1: []++ [fq key].flatten=fq key++ []:=by simp
   rw [e1,List.append_assoc] at h15
   exact ⟨rfl,rfl,gk,g,a15,c15,rfl,h15.sub (List.sublist_append_right _ _)⟩

theorem o9 (a:Option Addr) (n c:Nat) (key:List UInt8) (a1:Option Addr) (n1 c1:Nat) (vs:List Value) (ls:List (List UInt8)) (w:World) (hK:cI w) (hr:RdB w a n c key) (hb:n≤70368744170000) (hr1:Rd w a1 n1 c1 1 vs) (h2:cH w vs ls) (hb1:ls.flatten.length≤70368744170000) (hn1:n1≤4611686018427387904):
   Calls Tryz.prog 198 #[.slice a n c,.slice a1 n1 c1] w fun e w'=>e=.returned (.agg (bv (dx key ls.flatten)).toArray)∧Chg [] w w':=by
 apply FI
 obtain ⟨g1,w1,r1,h1⟩:=(St.start w).aD eD
 refine ⟨_,_,r1,(CV a n c key w1 (hK.au h1.chg) (h1.rd1 hr) hb).mono ?_⟩
 rintro e w2 ⟨gk,g,a2,c2,rfl,hN2⟩
 have h2':St w [] w2 ([.arr g1 39 (bv (List.replicate 32 0))]++kM gk g key [] a2 c2):=by
   refine St.cq (N:=[]) (w:=w1) (by simpa using h1) ?_
   simpa [ij] using hN2
 have hNh:St w [] w2 (hM g 465 (fq key++ []) a2 c2):=h2'.sub ((List.sublist_append_right [_,_] _))
 refine ⟨gk,0,rfl,(B8 gk g key [] a2 c2 a1 n1 c1 vs ls hK (by simp) h2' (y2 hNh hr1 h2) (by simp only [List.length_nil];omega) hn1).mono ?_⟩
 rintro e w3 ⟨rfl,a3,c3,h3,_⟩
 rw [List.nil_append] at h3
 refine ⟨rfl,(HW gk g key _ a3 c3 (hK.au h3.chg) h3 hb1).mono ?_⟩
 rintro e w4 ⟨rfl,hc4⟩
 have h4:=h3.same hc4
 obtain ⟨w5,r5,h5⟩:=h4.stA (i:=0) (v:=bv (dx key ls.flatten)) rfl (cL _) (by simp) (by simp) (aO _)
 exact ⟨_,rfl,w5,r5,_,h5.bQ (i:=0) (l:=bv (dx key ls.flatten)) rfl (jY _) (cL _) (by simp),rfl,h5.chg⟩

end Go.Proofs.YtpmhjnhgpplmnaaGreatDoor
end

section
namespace Go.Proofs.YtpmhjnhgpplmnaaGreatDoor
open Go Go.Proofs.YtpmhjnhgpplmnaaGreatDoor.Sx
set_option maxRecDepth 100000
variable (w:World) (R:Ending→World→Prop)
theorem nZ (a b:Int) (h:0≤b∧0≤IntKind.wrap .u64 ((32:Int)-b)∧R (.returned (.int .u32 (bor .u32 (dh .u32 a b) (gY .u32 a (IntKind.wrap .u64 ((32:Int)-b)))))) w):Calls Tryz.prog 297 #[.int .u32 a,.int .u64 b] w R:=af 0xd7ae7adc1d Tryz.func297 (by kernel_rfl) h
theorem mX (a:Option Addr) (b c:Nat) (h:Bsz 26 0 #[] w fun d e f g=>Apz 26 (.slice d e f) (.slice a b c) g fun a c d e=>Bsz 26 1 #[(0,.int .u8 128)] e fun e f g h=>Apz 26 (.slice a c d) (.slice e f g) h fun a c d e=>∃(f:Option Addr→Nat→Nat→World→Prop) (g:Option Addr→Nat→Nat→World→Nat),f a c d e∧∀a c d e,f a c d e→Ifz (Int.tmod (c:Int) (64:Int) != (56:Int)) (Bsz 26 1 #[(0,.int .u8 0)] e (fun b h i j=>Apz 26 (.slice a c d) (.slice b h i) j fun b h i j=>f b h i j∧g b h i j<g a c d e)) (∃(f:Option Addr→Nat→Nat→Int→World→Prop) (g:Option Addr→Nat→Nat→Int→World→Nat),f a c d 0 e∧∀a c d e h,f a c d e h→Ifz (decide (e<(8:Int))) (0≤IntKind.wrap .u64 ((56:Int)-IntKind.wrap .u64 ((8:Int)*IntKind.wrap .u64 e))∧Bsz 26 1 #[(0,.int .u8 (IntKind.wrap .u8 (dh .u64 (IntKind.wrap .u64 (IntKind.wrap .u64 (b:Int)*(8:Int))) (IntKind.wrap .u64 ((56:Int)-IntKind.wrap .u64 ((8:Int)*IntKind.wrap .u64 e))))))] h fun b i j k=>Apz 26 (.slice a c d) (.slice b i j) k fun b i j k=>f b i j (IntKind.wrap .i64 (e+1)) k∧g b i j (IntKind.wrap .i64 (e+1)) k<g a c d e h) (R (.returned (.slice a c d)) h))):Calls Tryz.prog 296 #[.slice a b c] w R:=af 0x2d3b01757517a621820032d2072151321e2f15133981d25d0175751180034d27113171c1329820175751c0175175c1d Tryz.func296 (by kernel_rfl) h
theorem pX (a:Option Addr) (b c:Nat) (h:Alz 39 w fun c d=>Buz 393 #[(0,.int .u32 1116352408),(1,.int .u32 1899447441),(2,.int .u32 3049323471),(3,.int .u32 3921009573),(4,.int .u32 961987163),(5,.int .u32 1508970993),(6,.int .u32 2453635748),(7,.int .u32 2870763221),(8,.int .u32 3624381080),(9,.int .u32 310598401),(10,.int .u32 607225278),(11,.int .u32 1426881987),(12,.int .u32 1925078388),(13,.int .u32 2162078206),(14,.int .u32 2614888103),(15,.int .u32 3248222580),(16,.int .u32 3835390401),(17,.int .u32 4022224774),(18,.int .u32 264347078),(19,.int .u32 604807628),(20,.int .u32 770255983),(21,.int .u32 1249150122),(22,.int .u32 1555081692),(23,.int .u32 1996064986),(24,.int .u32 2554220882),(25,.int .u32 2821834349),(26,.int .u32 2952996808),(27,.int .u32 3210313671),(28,.int .u32 3336571891),(29,.int .u32 3584528711),(30,.int .u32 113926993),(31,.int .u32 338241895),(32,.int .u32 666307205),(33,.int .u32 773529912),(34,.int .u32 1294757372),(35,.int .u32 1396182291),(36,.int .u32 1695183700),(37,.int .u32 1986661051),(38,.int .u32 2177026350),(39,.int .u32 2456956037),(40,.int .u32 2730485921),(41,.int .u32 2820302411),(42,.int .u32 3259730800),(43,.int .u32 3345764771),(44,.int .u32 3516065817),(45,.int .u32 3600352804),(46,.int .u32 4094571909),(47,.int .u32 275423344),(48,.int .u32 430227734),(49,.int .u32 506948616),(50,.int .u32 659060556),(51,.int .u32 883997877),(52,.int .u32 958139571),(53,.int .u32 1322822218),(54,.int .u32 1537002063),(55,.int .u32 1747873779),(56,.int .u32 1955562222),(57,.int .u32 2024104815),(58,.int .u32 2227730452),(59,.int .u32 2361852424),(60,.int .u32 2428436474),(61,.int .u32 2756734187),(62,.int .u32 3204031479),(63,.int .u32 3329325298)] d fun e=>Alz 393 d fun d f=>Stz 393 d 0 (.agg e) f fun e=>∃(f:Option Addr→Nat→Nat→Int→World→Prop) (g:Option Addr→Nat→Nat→Int→World→Nat),f none 0 0 0 e∧∀e h i j k,f e h i j k→Ifz (decide (j<(b:Int))) (∃c d,a=some ⟨c,d,none⟩∧0≤j∧j<(b:Int)∧Llz 26 c (d+Int.toNat j*1) k fun a b c=>Apz 26 (.slice e h i) (.slice a b c) k fun a b c d=>f a b c (IntKind.wrap .i64 (j+1)) d∧g a b c (IntKind.wrap .i64 (j+1)) d<g e h i j k) (Clz 296 #[.slice e h i] k (fun a b e f=>Buz 394 #[(0,.int .u32 1779033703),(1,.int .u32 3144134277),(2,.int .u32 1013904242),(3,.int .u32 2773480762),(4,.int .u32 1359893119),(5,.int .u32 2600822924),(6,.int .u32 528734635),(7,.int .u32 1541459225)] f fun e=>Alz 394 f fun f g=>Stz 394 f 0 (.agg e) g fun e=>∃(g:Int→World→Prop) (h:Int→World→Nat),g 0 e∧∀e i,g e i→Ifz (decide (e<(b:Int))) (Buz 393 #[] i (fun c=>Alz 393 i fun j k=>Stz 393 j 0 (.agg c) k fun c=>∃(k:Int→World→Prop) (l:Int→World→Nat),k 0 c∧∀c m,k c m→Ifz (decide (c<(64:Int))) (Ifz (decide (c<(16:Int))) (∃(d:Int→World→Prop) (f:Int→World→Nat),d 0 m∧∀g h,d g h→Ifz (decide (g<(4:Int))) (∃i:World→Prop,i h.drew∧0≤c∧c<(64:Int)∧∃k l,a=some ⟨k,l,none⟩∧0≤IntKind.wrap .i64 (IntKind.wrap .i64 (e+IntKind.wrap .i64 ((4:Int)*c))+g)∧IntKind.wrap .i64 (IntKind.wrap .i64 (e+IntKind.wrap .i64 ((4:Int)*c))+g)<(b:Int)∧∃a,(∀b,i b→LdQ 370 j (0+Int.toNat c*1) (.int .u32 a) b)∧∃b,(∀a,i a→LdQ 5 k (l+Int.toNat (IntKind.wrap .i64 (IntKind.wrap .i64 (e+IntKind.wrap .i64 ((4:Int)*c))+g))*1) (.int .u8 b) a)∧0≤c∧c<(64:Int)∧Stz 370 j (0+Int.toNat c*1) (.int .u32 (bor .u32 (gY .u32 a (8:Int)) (IntKind.wrap .u32 b))) h.drew fun a=>d (IntKind.wrap .i64 (g+1)) a∧f (IntKind.wrap .i64 (g+1)) a<f g h) (k (IntKind.wrap .i64 (c+1)) h∧l (IntKind.wrap .i64 (c+1)) h<l c m)) (0≤IntKind.wrap .i64 (c- (15:Int))∧IntKind.wrap .i64 (c- (15:Int))<(64:Int)∧Lkz .u32 370 j (0+Int.toNat (IntKind.wrap .i64 (c- (15:Int)))*1) m fun a=>0≤IntKind.wrap .i64 (c- (2:Int))∧IntKind.wrap .i64 (c- (2:Int))<(64:Int)∧Lkz .u32 370 j (0+Int.toNat (IntKind.wrap .i64 (c- (2:Int)))*1) m fun b=>∃d:World→Prop,d m.drew∧0≤IntKind.wrap .i64 (c- (7:Int))∧IntKind.wrap .i64 (c- (7:Int))<(64:Int)∧0≤IntKind.wrap .i64 (c- (16:Int))∧IntKind.wrap .i64 (c- (16:Int))<(64:Int)∧∃e,(∀a,d a→LdQ 370 j (0+Int.toNat (IntKind.wrap .i64 (c- (7:Int)))*1) (.int .u32 e) a)∧∃f,(∀a,d a→LdQ 370 j (0+Int.toNat (IntKind.wrap .i64 (c- (16:Int)))*1) (.int .u32 f) a)∧Calls Tryz.prog 297 #[.int .u32 b,.int .u64 17] m.drew fun g h=>∃i,g=.returned (.int .u32 i)∧∃g:World→Prop,(∀a,g a→d a)∧g h∧Calls Tryz.prog 297 #[.int .u32 b,.int .u64 19] h fun d h=>∃n,d=.returned (.int .u32 n)∧∃d:World→Prop,(∀a,d a→g a)∧d h∧Calls Tryz.prog 297 #[.int .u32 a,.int .u64 7] h fun g h=>∃o,g=.returned (.int .u32 o)∧∃g:World→Prop,(∀a,g a→d a)∧g h∧Calls Tryz.prog 297 #[.int .u32 a,.int .u64 18] h fun d h=>∃p,d=.returned (.int .u32 p)∧∃d:World→Prop,(∀a,d a→g a)∧d h∧0≤c∧c<(64:Int)∧∃d,(Instr.storeAt 370 (.pointer (some ⟨j,0+Int.toNat c*1,none⟩)) (.int .u32 (IntKind.wrap .u32 (IntKind.wrap .u32 (IntKind.wrap .u32 (aU .u32 (aU .u32 i n) (dh .u32 b (10:Int))+e)+aU .u32 (aU .u32 o p) (dh .u32 a (3:Int)))+f)))).run Tryz.prog h=.ok () d∧k (IntKind.wrap .i64 (c+1)) d∧l (IntKind.wrap .i64 (c+1)) d<l c m)) (Laz 394 f 0 m (fun a=>Alz 394 m fun b c=>Stz 394 b 0 (.agg a) c fun a=>∃(c:Int→World→Prop) (k:Int→World→Nat),c 0 a∧∀a l,c a l→Ifz (decide (a<(64:Int))) (Lkz .u32 370 b 4 l (fun e=>Lkz .u32 370 b 5 l fun f=>Lkz .u32 370 b 4 l fun g=>Lkz .u32 370 b 6 l fun h=>Lkz .u32 370 b 0 l fun i=>Lkz .u32 370 b 1 l fun m=>Lkz .u32 370 b 0 l fun n=>Lkz .u32 370 b 2 l fun o=>Lkz .u32 370 b 1 l fun p=>Lkz .u32 370 b 2 l fun q=>∃r:World→Prop,r l.drew∧0≤a∧a<(64:Int)∧0≤a∧a<(64:Int)∧∃s,(∀a,r a→LdQ 370 b 7 (.int .u32 s) a)∧∃t,(∀a,r a→LdQ 370 b 4 (.int .u32 t) a)∧∃u,(∀a,r a→LdQ 370 b 4 (.int .u32 u) a)∧∃v,(∀a,r a→LdQ 370 b 4 (.int .u32 v) a)∧∃w,(∀b,r b→LdQ 370 d (0+Int.toNat a*1) (.int .u32 w) b)∧∃d,(∀b,r b→LdQ 370 j (0+Int.toNat a*1) (.int .u32 d) b)∧Calls Tryz.prog 297 #[.int .u32 t,.int .u64 6] l.drew fun j t=>∃x,j=.returned (.int .u32 x)∧∃j:World→Prop,(∀a,j a→r a)∧j t∧Calls Tryz.prog 297 #[.int .u32 u,.int .u64 11] t fun r t=>∃u,r=.returned (.int .u32 u)∧∃r:World→Prop,(∀a,r a→j a)∧r t∧Calls Tryz.prog 297 #[.int .u32 v,.int .u64 25] t fun j t=>∃v,j=.returned (.int .u32 v)∧∃j:World→Prop,(∀a,j a→r a)∧j t∧∃j:World→Prop,j t.drew∧∃r,(∀a,j a→LdQ 370 b 0 (.int .u32 r) a)∧∃y,(∀a,j a→LdQ 370 b 0 (.int .u32 y) a)∧∃z,(∀a,j a→LdQ 370 b 0 (.int .u32 z) a)∧Calls Tryz.prog 297 #[.int .u32 r,.int .u64 2] t.drew fun r t=>∃A,r=.returned (.int .u32 A)∧∃r:World→Prop,(∀a,r a→j a)∧r t∧Calls Tryz.prog 297 #[.int .u32 y,.int .u64 13] t fun j t=>∃y,j=.returned (.int .u32 y)∧∃j:World→Prop,(∀a,j a→r a)∧j t∧Calls Tryz.prog 297 #[.int .u32 z,.int .u64 22] t fun r t=>∃z,r=.returned (.int .u32 z)∧∃r:World→Prop,(∀a,r a→j a)∧r t∧∃(j:Int→World→Prop) (r:Int→World→Nat),j 7 t∧∀t B,j t B→Ifz (decide (t>(0:Int))) (0≤IntKind.wrap .i64 (t- (1:Int))∧IntKind.wrap .i64 (t- (1:Int))<(8:Int)∧Lkz .u32 370 b (0+Int.toNat (IntKind.wrap .i64 (t- (1:Int)))*1) B fun a=>0≤t∧t<(8:Int)∧Stz 370 b (0+Int.toNat t*1) (.int .u32 a) B fun a=>j (IntKind.wrap .i64 (t- (1:Int))) a∧r (IntKind.wrap .i64 (t- (1:Int))) a<r t B) (Lkz .u32 370 b 4 B (fun j=>∃r,(Instr.storeAt 370 (.pointer (some ⟨b,4,none⟩)) (.int .u32 (IntKind.wrap .u32 (j+IntKind.wrap .u32 (IntKind.wrap .u32 (IntKind.wrap .u32 (IntKind.wrap .u32 (s+aU .u32 (aU .u32 x u) v)+aU .u32 (eo .u32 e f) (eo .u32 (aU .u32 (IntKind.max .u32) g) h))+w)+d))))).run Tryz.prog B=.ok () r∧∃j,(Instr.storeAt 370 (.pointer (some ⟨b,0,none⟩)) (.int .u32 (IntKind.wrap .u32 (IntKind.wrap .u32 (IntKind.wrap .u32 (IntKind.wrap .u32 (IntKind.wrap .u32 (s+aU .u32 (aU .u32 x u) v)+aU .u32 (eo .u32 e f) (eo .u32 (aU .u32 (IntKind.max .u32) g) h))+w)+d)+IntKind.wrap .u32 (aU .u32 (aU .u32 A y) z+aU .u32 (aU .u32 (eo .u32 i m) (eo .u32 n o)) (eo .u32 p q)))))).run Tryz.prog r=.ok () j∧c (IntKind.wrap .i64 (a+1)) j∧k (IntKind.wrap .i64 (a+1)) j<k a l)))) (∃(a:Int→World→Prop) (c:Int→World→Nat),a 0 l∧∀d j,a d j→Ifz (decide (d<(8:Int))) (∃e:World→Prop,e j.drew∧0≤d∧d<(8:Int)∧0≤d∧d<(8:Int)∧∃g,(∀a,e a→LdQ 370 f (0+Int.toNat d*1) (.int .u32 g) a)∧∃h,(∀a,e a→LdQ 370 b (0+Int.toNat d*1) (.int .u32 h) a)∧0≤d∧d<(8:Int)∧Stz 370 f (0+Int.toNat d*1) (.int .u32 (IntKind.wrap .u32 (g+h))) j.drew fun b=>a (IntKind.wrap .i64 (d+1)) b∧c (IntKind.wrap .i64 (d+1)) b<c d j) (g (IntKind.wrap .i64 (e+(64:Int))) j∧h (IntKind.wrap .i64 (e+(64:Int))) j<h e i)))))) (Buz 39 #[] i (fun a=>Alz 39 i fun b d=>Stz 39 b 0 (.agg a) d fun a=>∃(d:Int→World→Prop) (e:Int→World→Nat),d 0 a∧∀a g,d a g→Ifz (decide (a<(32:Int))) (0≤IntKind.wrap .i64 (Int.tdiv a (4:Int))∧IntKind.wrap .i64 (Int.tdiv a (4:Int))<(8:Int)∧Lkz .u32 370 f (0+Int.toNat (IntKind.wrap .i64 (Int.tdiv a (4:Int)))*1) g fun c=>0≤IntKind.wrap .u64 ((24:Int)-IntKind.wrap .u64 ((8:Int)*IntKind.wrap .u64 (Int.tmod a (4:Int))))∧0≤a∧a<(32:Int)∧∃f,(Instr.storeAt 5 (.pointer (some ⟨b,0+Int.toNat a*1,none⟩)) (.int .u8 (IntKind.wrap .u8 (dh .u32 c (IntKind.wrap .u64 ((24:Int)-IntKind.wrap .u64 ((8:Int)*IntKind.wrap .u64 (Int.tmod a (4:Int))))))))).run Tryz.prog g=.ok () f∧d (IntKind.wrap .i64 (a+1)) f∧e (IntKind.wrap .i64 (a+1)) f<e a g) (Laz 39 b 0 g (fun a=>Stz 39 c 0 (.agg a) g fun a=>∃b,(loadVar 39 ⟨c,0,none⟩).run Tryz.prog a=.ok b a∧R (.returned b) a))))))):Calls Tryz.prog 239 #[.slice a b c] w R:=af 0x683c3b06817a52238e1820032d20112e1293ae12e2981d206783c3b3b119104194518107126323355104152110225820032d20112c11d39812c2981d3b0642106e231c3b068238e1820032d20112b11a2ed12b2981d2001d1c1a32218194061218542182421832432131b730425200382f2b1f1d1c622181b40181218742184422e322a321a326323321352d102c15291281e1952062520e23123e23123d231231c0e23d23d231231c820032d20111e11b91df61e2981d206783c3b13d1043d453c13b2e2d2a422182942181f41d18532218442182423a321c35391382f2c2b281e6251b11a197631072501238dc01238dc003b12910429452811f1e2211d304123351c11b1a19187657252110225820032d20111a12d6c11a2981d232d2820032d20111911885e4192981d206783c820034d2011712de4f1e72981d206783c017141c3b0175738e1820034d20722411c38242981d21d06783c07c Tryz.func239 (by kernel_rfl) h
theorem pU (a:Option Addr) (b c:Nat) (d:Option Addr) (e f:Nat) (h:Alz 39 w fun f g=>∃h:Option Addr→Nat→Nat→World→Prop,Ifz (decide ((b:Int)>64)) (Bsz 24 1 #[(0,.slice a b c)] g (fun a b c d=>Caz 239 #[.slice a b c] d fun a b=>Alz 39 b fun b c=>Stz 39 b 0 (.agg a) c fun a=>0≤(32:Int)∧(32:Int)≤32∧h (some ⟨b,0,none⟩) 32 32 a)) (h a b c g)∧∀a b c g,h a b c g→Mkz 26 (.int .i64 64) (.int .i64 64) g fun c g h i=>Mkz 26 (.int .i64 64) (.int .i64 64) i fun i j k l=>∃(m:Int→World→Prop) (n:Int→World→Nat),m 0 l∧∀l o,m l o→Ifz (decide (l<(64:Int))) (∃d:Int→World→Prop,Ifz (decide (l<(b:Int))) (∃c e,a=some ⟨c,e,none⟩∧0≤l∧l<(b:Int)∧Lkz .u8 5 c (e+Int.toNat l*1) o fun a=>d a o) (d 0 o)∧∀a b,d a b→∃d e,c=some ⟨d,e,none⟩∧0≤l∧l<(g:Int)∧Stz 5 d (e+Int.toNat l*1) (.int .u8 (aU .u8 a (54:Int))) b fun b=>∃c d,i=some ⟨c,d,none⟩∧0≤l∧l<(j:Int)∧Stz 5 c (d+Int.toNat l*1) (.int .u8 (aU .u8 a (92:Int))) b fun a=>m (IntKind.wrap .i64 (l+1)) a∧n (IntKind.wrap .i64 (l+1)) a<n l o) (∃(a:Option Addr→Nat→Nat→Int→World→Prop) (b:Option Addr→Nat→Nat→Int→World→Nat),a c g h 0 o∧∀c g h l m,a c g h l m→Ifz (decide (l<(e:Int))) (∃f i,d=some ⟨f,i,none⟩∧0≤l∧l<(e:Int)∧Llz 26 f (i+Int.toNat l*1) m fun d e f=>Apz 26 (.slice c g h) (.slice d e f) m fun d e f i=>a d e f (IntKind.wrap .i64 (l+1)) i∧b d e f (IntKind.wrap .i64 (l+1)) i<b c g h l m) (Bsz 24 1 #[(0,.slice c g h)] m (fun a b c d=>Caz 239 #[.slice a b c] d fun a b=>Alz 39 b fun b c=>Stz 39 b 0 (.agg a) c fun a=>0≤(32:Int)∧(32:Int)≤32∧Bsz 24 2 #[(0,.slice i j k),(1,.slice (some ⟨b,0,none⟩) 32 32)] a fun a b c d=>Caz 239 #[.slice a b c] d fun a b=>Stz 39 f 0 (.agg a) b fun a=>∃b,(loadVar 39 ⟨f,0,none⟩).run Tryz.prog a=.ok b a∧R (.returned b) a)))):Calls Tryz.prog 162 #[.slice a b c,.slice d e f] w R:=af 0x68147591c067814751c3b0175738e1820034d207211a1621c5b11a163981d23b06842106842c001138d1311119143d1192a4d21d820032d20111812e2d2182981d20175c0175c00191067814751c37110141f15103a3d207c Tryz.func162 (by kernel_rfl) h
theorem mF (a:Option Addr) (b c:Nat) (d:Option Addr) (e f:Nat) (g:Option Addr) (i j:Nat) (k:Int) (h:Ifz (decide (k<(0:Int))||decide (k>(8160:Int))) (R (.returned (.tuple #[.slice none 0 0,.int .i64 7])) w) (∃h:Option Addr→Nat→Nat→World→Prop,Ifz ((b:Int)==0) (Mkz 26 (.int .i64 32) (.int .i64 32) w (fun a b c d=>h a b c d)) (h a b c w)∧∀a b c l,h a b c l→Bsz 24 1 #[(0,.slice d e f)] l fun d e f h=>Caz 162 #[.slice a b c,.slice d e f] h fun a b=>Alz 39 b fun b c=>Stz 39 b 0 (.agg a) c fun a=>Bsz 26 0 #[] a fun a c d e=>∃(f:Option Addr→Nat→Nat→Option Addr→Nat→Nat→Int→World→Prop) (h:Option Addr→Nat→Nat→Option Addr→Nat→Nat→Int→World→Nat),f none 0 0 a c d 1 e∧∀a c d e l m n o,f a c d e l m n o→Ifz (decide ((c:Int)<k)) (0≤(32:Int)∧(32:Int)≤32∧Bsz 26 1 #[(0,.int .u8 (IntKind.wrap .u8 n))] o fun k p q r=>Bsz 24 3 #[(0,.slice e l m),(1,.slice g i j),(2,.slice k p q)] r fun g i j k=>Caz 162 #[.slice (some ⟨b,0,none⟩) 32 32,.slice g i j] k fun b g=>Alz 39 g fun g i=>Stz 39 g 0 (.agg b) i fun b=>Bsz 26 0 #[] b fun b i j k=>0≤(32:Int)∧(32:Int)≤32∧Apz 26 (.slice b i j) (.slice (some ⟨g,0,none⟩) 32 32) k fun b g i j=>Apz 26 (.slice a c d) (.slice b g i) j fun j k p q=>f j k p b g i (IntKind.wrap .i64 (n+1)) q∧h j k p b g i (IntKind.wrap .i64 (n+1)) q<h a c d e l m n o) (0≤k∧k≤(d:Int)∧R (.returned (.tuple #[.slice a (Int.toNat k) d,.int .i64 0])) o))):Calls Tryz.prog 195 #[.slice a b c,.slice d e f,.slice g i j,.int .i64 k] w R:=af 0xd9dc3b0175d10175975c0678147575429c820034d2077331b12c3e41b2981d20175c1d06781475dc001751371101138102a3d2002d302bec22d Tryz.func195 (by kernel_rfl) h
end Go.Proofs.YtpmhjnhgpplmnaaGreatDoor
end

section
namespace Go.Proofs.YtpmhjnhgpplmnaaGreatDoor
open Go Sx
set_option maxRecDepth 8000

theorem fm (x n:Nat) (w:World) (hx:x<4294967296) (hn:n<32) (h0:0<n):Calls Tryz.prog 297 #[.int .u32 (x:Int),.int .u64 (n:Int)] w fun e w'=>e=.returned (.int .u32 ((kL x n:Nat):Int))∧w'=w:=by
 apply nZ
 have h2:IntKind.wrap .u64 ((32:Int)- (n:Int))=((32-n:Nat):Int):=by rw [wrap_u64];omega
 rw [h2]
 refine ⟨by omega,by omega,?_,rfl⟩
 rw [jH (show 32-n≤32 by omega),pN _ _ (by omega),or_val (Br _ hx) (Nat.mod_lt _ (by decide)),Nat.or_comm]
 rfl

theorem CS (a:Option Addr) (k c:Nat) (m:List UInt8) (w:World) (hr:RdB w a k c m) (hb:k≤70368744177664):
   Calls Tryz.prog 296 #[.slice a k c] w fun e w'=>∃a' n' c',e=.returned (.slice a' n' c')∧aY w w' a' n' c' (m++lH m.length):=by
 have hl:=hr.bB
 subst hl
 obtain ⟨n,hn⟩:∃n,m.length=n:=⟨_,rfl⟩
 rw [hn] at hr hb ⊢
 apply mX
 obtain ⟨g1,w1,r1,h1⟩:=(St.start w).lit bT [] (by simp) (by simp)
 obtain ⟨va,vc,w2,r2,h2⟩:=h1.bJ (i:=0) (xs:=[]) rfl (h1.rd1 hr) (by simp;omega)
 simp only [List.length_nil,Nat.zero_add,List.nil_append] at r2 h2
 obtain ⟨g3,w3,vb,vd,w4,r3,r4,h4,_⟩:=h2.vI (i:=0) (n:=n) (pre:=m) rfl (by omega) 128 (by decide)
 refine ⟨_,_,_,_,r1,_,_,_,_,r2,_,_,_,_,r3,_,_,_,_,r4,?_⟩
 have hzl:=tZ n
 refine ⟨fun xa xn xc w'=>∃z:Nat,z≤bq n∧xn=n+1+z∧St w [] w' [.row 5 1 (.slice xa xn xc) xn (bv (m++(0x80::List.replicate z 0)))],fun _ xn _ _=>n+1+bq n-xn,⟨0,by omega,rfl,h4⟩,?_⟩
 rintro xa xn xc w5 ⟨z,hz,rfl,h5⟩
 refine ⟨fun h=>?_,fun h=>?_⟩
 · rw [Int.tmod_eq_emod_of_nonneg (by omega)] at h
   have hne:(n+1+z)%64≠56:=by simp at h;omega
   have hz':z<bq n:=by
     rcases Nat.lt_or_ge z (bq n) with h1 | h1
     · exact h1
     · have:z=bq n:=by omega
       rw [this] at hne
       simp only [bq] at hne
       omega
   obtain ⟨g6,w6,vb,vd,w7,r6,r7,h7,_⟩:=h5.vI (i:=0) (n:=n+1+z) rfl (by omega) 0 (by decide)
   refine ⟨_,_,_,_,r6,_,_,_,_,r7,⟨z+1,by omega,by omega,?_⟩,(by show n+1+bq n- (n+1+z+1)<n+1+bq n- (n+1+z);omega)⟩
   have:m++(0x80::List.replicate z 0)++ [UInt8.ofNat 0]=m++((0x80:UInt8)::List.replicate (z+1) 0):=by
     rw [List.replicate_succ'];simp
   rw [←this]
   exact h7
 · rw [Int.tmod_eq_emod_of_nonneg (by omega)] at h
   have he:(n+1+z)%64=56:=by simp at h;omega
   have hz':z=bq n:=by
     simp only [bq] at hz ⊢
     omega
   subst hz'
   refine ⟨fun xa xn xc x w'=>∃j:Nat,x=(j:Int)∧j≤8∧xn=n+1+bq n+j∧St w [] w' [.row 5 1 (.slice xa xn xc) xn (bv (m++(0x80::(List.replicate (bq n) 0++(List.range j).map (bB n)))))],fun _ _ _ x _=>8-x.toNat,⟨0,rfl,by omega,rfl,by simpa using h5⟩,?_⟩
   rintro ya yn yc y w8 ⟨j,rfl,hj,rfl,h8⟩
   refine ⟨fun h=>?_,fun h=>?_⟩
   · have hj':j<8:=by simp at h;omega
     have e1:IntKind.wrap .u64 ((56:Int)-IntKind.wrap .u64 (8*IntKind.wrap .u64 (j:Int)))=((56-8*j:Nat):Int):=by
       simp only [wrap_u64];omega
     rw [e1,Cl n j hj']
     obtain ⟨g9,w9,vb,vd,w10,r9,r10,h10,_⟩:=h8.vI (i:=0) (n:=n+1+bq n+j) rfl (by omega) (bB n j).toNat (bB n j).toNat_lt
     refine ⟨by omega,_,_,_,_,r9,_,_,_,_,r10,⟨j+1,ay hj' (by omega),by omega,by omega,?_⟩,aB hj' (by omega)⟩
     have:m++(0x80::(List.replicate (bq n) 0++(List.range j).map (bB n)))++ [UInt8.ofNat (bB n j).toNat]=m++((0x80:UInt8)::(List.replicate (bq n) 0++(List.range (j+1)).map (bB n))):=by
       rw [List.range_succ,List.map_append];simp
     rw [←this]
     exact h10
   · have hj':j=8:=by simp at h;omega
     subst hj'
     exact ⟨_,_,_,rfl,St.jm (l:=m++lH n) h8 (i:=0) rfl⟩

def p4 (l:List UInt8) (o:Nat):Nat→Nat
 | 0=>0
 | j+1=>p4 l o j*256+(l.getD (o+j) 0).toNat
theorem L6 (l:List UInt8) (o:Nat):∀j,p4 l o j<256^j
 | 0=>by simp [p4]
 | j+1=>by
   have:=L6 l o j
   have hb:=(l.getD (o+j) 0).toNat_lt
   rw [p4,Nat.pow_succ];omega
theorem MO (l:List UInt8) (o:Nat):p4 l o 4=be4 l o:=by simp [p4,be4]

theorem vA (b:List UInt8):∀(k i:Nat),k≤i→i<64→(bz b k)[i]?=some 0
 | 0,i,_,h=>by rw [bz,List.getElem?_replicate,if_pos h]
 | k+1,i,hk,h=>by rw [bz,List.getElem?_set_ne (by omega)];exact vA b k i (by omega) h

def shF (v:List Nat) (j:Nat):List Nat:=v.take (j+1)++(v.drop j).take (7-j)

theorem NT {v:List Nat} (h:v.length=8):shF v 7=v:=by
 match v,h with
 | [_,_,_,_,_,_,_,_],_=>rfl
theorem tR {v:List Nat} (h:v.length=8) {j:Nat} (hj:j≤7):(shF v j).length=8:=by simp [shF];omega
theorem Jq {v:List Nat} (h:v.length=8) {j:Nat} (h0:0<j) (hj:j≤7):(shF v j).getD (j-1) 0=v.getD (j-1) 0∧(shF v j).set j (v.getD (j-1) 0)=shF v (j-1):=by
 match v,h with
 | [_,_,_,_,_,_,_,_],_=>
   rcases j with _ | _ | _ | _ | _ | _ | _ | _ | j
   · omega
   · exact ⟨rfl,rfl⟩
   · exact ⟨rfl,rfl⟩
   · exact ⟨rfl,rfl⟩
   · exact ⟨rfl,rfl⟩
   · exact ⟨rfl,rfl⟩
   · exact ⟨rfl,rfl⟩
   · exact ⟨rfl,rfl⟩
   · omega
theorem GM {v:List Nat} (h:v.length=8) (x y:Nat):(shF v 0).getD 4 0=v.getD 3 0∧((shF v 0).set 4 x).set 0 y=[y,v.getD 0 0,v.getD 1 0,v.getD 2 0,x,v.getD 4 0,v.getD 5 0,v.getD 6 0]:=by
 match v,h with
 | [_,_,_,_,_,_,_,_],_=>exact ⟨rfl,rfl⟩

theorem KZ (l:List UInt8) (o i:Nat) (h:i<64):((l.drop o).take 64).getD i 0=l.getD (o+i) 0:=by
 simp only [List.getD,List.getElem?_take,List.getElem?_drop,if_pos h]

theorem u6 (a:Option Addr) (n c:Nat) (vs:List Value) (ls:List (List UInt8)) (w:World) (hr:Rd w a n c 1 vs) (h2:cH w vs ls) (hb:ls.flatten.length≤70368744177664) (hn:n≤4611686018427387904):
   Calls Tryz.prog 239 #[.slice a n c] w fun e w'=>e=.returned (.agg (bv (dI ls.flatten)).toArray)∧Chg [] w w':=by
 have hln:ls.length=n:=by have:=hr.len;have:=h2.len;omega
 have sB:∀w,(sizeOf 5).run Tryz.prog w=.ok 1 w:=fun w=>Tryz.sizeOf5 w
 have ze:∀k:Nat,0+Int.toNat (k:Int)*1=k:=fun k=>by omega
 apply pX
 obtain ⟨g2,w1,r1,h1⟩:=(St.start w).aD eD
 have hbk:(Instr.build 393 (((kv .u32 lM).zipIdx 0).map fun p=>(p.2,p.1)).toArray).run Tryz.prog w1=.ok (.agg (kv .u32 lM).toArray) w1:=by
   have:=fP (P:=Tryz.prog) (w:=w1) (Dt w1) Tryz.underlying393 (uS _) (kv .u32 lM) (fK _ _) (by simp [oa])
   rwa [List.drop_of_length_le (by simp [oa]),List.append_nil] at this
 obtain ⟨g3,w2,r2,h2'⟩:=h1.aD Dt
 obtain ⟨w3,r3,h3⟩:=h2'.stA (i:=1) (v:=kv .u32 lM) rfl (ED _) (by simp) (by simp [oa]) (fK _ _)
 refine ⟨_,_,r1,_,hbk,g3,w2,r2,w3,r3,?_⟩
 have h3':St w [] w3 ([.arr g2 39 (bv (List.replicate 32 0)),.arr g3 393 (kv .u32 lM)]++ [.row 5 1 (.slice none 0 0) 0 (bv [])]):=h3.bZ _ _
 refine ⟨fun xa xn xc x w'=>∃i:Nat,x=(i:Int)∧i≤n∧xn=(ls.take i).flatten.length∧St w [] w' ([.arr g2 39 (bv (List.replicate 32 0)),.arr g3 393 (kv .u32 lM)]++ [.row 5 1 (.slice xa xn xc) xn (bv (ls.take i).flatten)]),fun _ _ _ x _=>n-x.toNat,⟨0,rfl,by omega,by simp,by simpa using h3'⟩,?_⟩
 rintro xa xn xc x w4 ⟨i,rfl,hi,rfl,h4⟩
 have hft:=bI ls i
 refine ⟨fun h=>?_,fun h=>?_⟩
 · have hi':i<n:=by simp at h;omega
   obtain ⟨b,o,a',n',c',ha,hv,hrd,hld⟩:=ixS hr.cells h2 (i:=i) (by omega)
   have hl':=hrd.bB
   have hf1:=gM (ls:=ls) (i:=i) (by omega)
   have hf2:=bI ls (i+1)
   have hf3:=congrArg List.length hf1
   rw [List.length_append,hl'] at hf3
   obtain ⟨va,vc,w5,r5,h5⟩:=h4.bJ (i:=2) rfl (h4.rd1 hrd) (by omega)
   refine ⟨b,o,ha,by omega,by omega,_,_,_,hld w4 (hr.cells.au h4.chg),_,_,_,_,r5,⟨i+1,ay hi' hn,by omega,by omega,?_⟩,aB hi' hn⟩
   rw [hf1];exact h5
 have hi':i=n:=by simp at h;omega
 have hta:ls.take i=ls:=by rw [hi',←hln,List.take_length]
 rw [hta] at h4 ⊢
 clear hi' hi hft h hta h3' h3 h2' h1 hbk
 obtain ⟨msg,hmsg⟩:∃msg,ls.flatten=msg:=⟨_,rfl⟩
 rw [hmsg] at h4 hb ⊢
 refine (CS _ _ _ msg w4 (h4.rd (i:=2) rfl) (by omega)).mono ?_
 rintro e w6 ⟨a6,n6,c6,rfl,hf6⟩
 have hn6:=hf6.2.1
 have h6:=hf6.add (h4.sub (List.sublist_append_left _ _))
 obtain ⟨L,hL⟩:∃L,msg++lH msg.length=L:=⟨_,rfl⟩
 have hmod:n6%64=0:=by rw [←hn6,List.length_append];exact J2 _
 have hLb:n6≤70368744177664+200:=by
   have:=xZ msg.length
   have:=tZ msg.length
   rw [←hn6,List.length_append];omega
 rw [hL] at h6 hn6
 have hsha:dI msg=j9 (dF (n6 / 64) h0L L):=by rw [dI,hL,hOf,hn6]
 rw [hsha]
 clear hf6 hsha hL hmsg
 have hb0:(Instr.build 394 (((kv .u32 h0L).zipIdx 0).map fun p=>(p.2,p.1)).toArray).run Tryz.prog w6=.ok (.agg (kv .u32 h0L).toArray) w6:=by
   have:=fP (P:=Tryz.prog) (w:=w6) (w8Z w6) Tryz.underlying394 (uS _) (kv .u32 h0L) (fK _ _) (by simp [h0L])
   rwa [List.drop_of_length_le (by simp [h0L]),List.append_nil] at this
 obtain ⟨g6,w7,r7,h7⟩:=h6.aD w8Z
 obtain ⟨w8,r8,h8⟩:=h7.stA (i:=3) (v:=kv .u32 h0L) rfl (w8S _) (by simp) (by simp [h0L]) (fK _ _)
 refine ⟨_,_,_,rfl,_,hb0,g6,w7,r7,w8,r8,?_⟩
 obtain ⟨M0,hM0⟩:∃M0:List Res,M0=[.arr g2 39 (bv (List.replicate 32 0)),.arr g3 393 (kv .u32 lM),.row 5 1 (.slice a6 n6 c6) n6 (bv L)]:=⟨_,rfl⟩
 have h8':St w [] w8 (M0++ [.arr g6 394 (kv .u32 h0L)]):=by rw [hM0];exact h8
 clear h8 h7 h6 h4 r7 r8 hb0
 refine ⟨fun x w'=>∃b:Nat,x=((64*b:Nat):Int)∧64*b≤n6∧St w [] w' (M0++ [.arr g6 394 (kv .u32 (dF b h0L L))]),fun x _=>n6-x.toNat,⟨0,rfl,by omega,h8'⟩,?_⟩
 rintro x w9 ⟨b,rfl,hbn,h9⟩
 refine ⟨fun h=>?_,fun h=>?_⟩
 · have hbl:64*b+64≤n6:=by simp at h;omega
   clear h
   obtain ⟨H,hH⟩:∃H,dF b h0L L=H:=⟨_,rfl⟩
   have hHl:H.length=8:=by rw [←hH];exact lF _ _ rfl
   have hHlt:cM H:=by rw [←hH];exact ry _ _ rfl JA
   obtain ⟨B,hB⟩:∃B,(L.drop (64*b)).take 64=B:=⟨_,rfl⟩
   have hBg:∀i,i<64→B.getD i 0=L.getD (64*b+i) 0:=fun i hi=>by rw [←hB];exact KZ _ _ _ hi
   have hnext:dF (b+1) h0L L=compress H B:=by rw [mY,hH,hB]
   rw [hH] at h9
   have hz:=fP (P:=Tryz.prog) (w:=w9) (Dt w9) Tryz.underlying393 (uS _) [] (by simp) (by simp)
   simp only [List.nil_append,List.length_nil,List.drop_zero] at hz
   obtain ⟨g8,w10,r10,h10⟩:=h9.aD Dt
   have i3:∀(r s:Res),(M0++ [r]++ [s])[3]?=some r:=fun r s=>by rw [hM0];rfl
   have i4:∀(r s:Res),(M0++ [r]++ [s])[4]?=some s:=fun r s=>by rw [hM0];rfl
   have s4:∀(r s s':Res),(M0++ [r]++ [s]).set 4 s'=M0++ [r]++ [s']:=fun r s s'=>by rw [hM0];rfl
   have i2:∀(N:List Res),(M0++N)[2]?=some (.row 5 1 (.slice a6 n6 c6) n6 (bv L)):=fun N=>by rw [hM0];rfl
   have i1:∀(N:List Res),(M0++N)[1]?=some (.arr g3 393 (kv .u32 lM)):=fun N=>by rw [hM0];rfl
   obtain ⟨w11,r11,h11⟩:=h10.stA (v:=kv .u32 (List.replicate 64 0)) (i4 _ _) (ED _) (by simp) (by simp) (fK _ _)
   rw [s4] at h11
   refine ⟨_,hz,g8,w10,r10,w11,r11,fun x w'=>∃t:Nat,x=(t:Int)∧t≤64∧St w [] w' (M0++ [.arr g6 394 (kv .u32 H)]++ [.arr g8 393 (kv .u32 (bz B t))]),fun x _=>64-x.toNat,⟨0,rfl,by omega,h11⟩,?_⟩
   rintro x w12 ⟨t,rfl,ht,h12⟩
   refine ⟨fun h=>?_,fun h=>?_⟩
   · have ht':t<64:=by simp at h;omega
     refine ⟨fun h=>?_,fun h=>?_⟩
     · have ht16:t<16:=by simp at h;omega
       have hself:(bz B t).set t (p4 B (4*t) 0)=bz B t:=by
         apply List.ext_getElem?
         intro q
         by_cases hq:t=q
         · subst hq
           rw [List.getElem?_set_self (by simp;omega),vA B t t (Nat.le_refl _) ht'];rfl
         · rw [List.getElem?_set_ne hq]
       refine ⟨fun x w'=>∃j:Nat,x=(j:Int)∧j≤4∧St w [] w' (M0++ [.arr g6 394 (kv .u32 H)]++ [.arr g8 393 (kv .u32 ((bz B t).set t (p4 B (4*t) j)))]),fun x _=>4-x.toNat,⟨0,rfl,by omega,by rw [hself];exact h12⟩,?_⟩
       rintro x w13 ⟨j,rfl,hj,h13⟩
       refine ⟨fun h=>?_,fun h=>?_⟩
       · have hj':j<4:=by simp at h;omega
         have e1:IntKind.wrap .i64 (IntKind.wrap .i64 (((64*b:Nat):Int)+IntKind.wrap .i64 (4*(t:Int)))+(j:Int))=((64*b+(4*t+j):Nat):Int):=by
           rw [show IntKind.wrap .i64 (4*(t:Int))=((4*t:Nat):Int) by rw [wrap_i64 (by omega) (by omega)];omega,show IntKind.wrap .i64 (((64*b:Nat):Int)+((4*t:Nat):Int))=((64*b+4*t:Nat):Int) by rw [wrap_i64 (by omega) (by omega)];omega,wrap_i64 (by omega) (by omega)];omega
         rw [e1]
         have hc13:Cells w13 a6 (bv L):=h13.cells (by rw [List.append_assoc];exact i2 _)
         have hpl:=L6 B (4*t) j
         have hp24:p4 B (4*t) j<16777216:=by
           have:256^j≤256^3:=Nat.pow_le_pow_right (by decide) (by omega)
           omega
         have hgt:((bz B t).set t (p4 B (4*t) j)).getD t 0=p4 B (4*t) j:=lP (by simp;omega)
         have hbyte:=(L.getD (64*b+(4*t+j)) 0).toNat_lt
         have hval:bor .u32 (gY .u32 ((p4 B (4*t) j:Nat):Int) 8) (IntKind.wrap .u32 ((L.getD (64*b+(4*t+j)) 0).toNat:Int))=((p4 B (4*t) (j+1):Nat):Int):=by
           rw [show (8:Int)=((8:Nat):Int) from rfl,jH (by decide),Nat.mod_eq_of_lt (by omega),cF (by omega),or_val (by omega) (by omega),BB _ _ 8 (by omega),p4,hBg _ (by omega)]
         refine ⟨fun w'=>St w [] w' (M0++ [.arr g6 394 (kv .u32 H)]++ [.arr g8 393 (kv .u32 ((bz B t).set t (p4 B (4*t) j)))]),h13.drew,by omega,by omega,ix0 hc13 hn6 (64*b+(4*t+j)) (by omega) fun b1 o1 ha1 q1=>?_⟩
         have h13d:=h13.drew
         obtain ⟨w14,r14,h14⟩:=h13d.stK (n:=p4 B (4*t) (j+1)) (i4 _ _) (uS _) (ze t) (by simp;omega)
         rw [s4,List.set_set] at h14
         refine ⟨b1,o1,ha1,by omega,by omega,_,fun w' h=>h.ldK (i4 _ _) (uA _) (ze t) (by simp;omega),_,fun w' h=>q1 w' (h.cells (by rw [List.append_assoc];exact i2 _)),by omega,by omega,w14,?_,⟨j+1,ay hj' (by omega),by omega,h14⟩,aB hj' (by omega)⟩
         rw [hgt,hval];exact r14
       · have hj':j=4:=by simp at h;omega
         subst hj'
         refine ⟨⟨t+1,ay ht' (by omega),by omega,?_⟩,aB ht' (by omega)⟩
         have:bz B (t+1)=(bz B t).set t (p4 B (4*t) 4):=by rw [bz,if_pos ht16,MO]
         rw [this];exact h13
     · have ht16:16≤t:=by simp at h;omega
       have e:∀j:Nat,j≤16→IntKind.wrap .i64 ((t:Int)- (j:Int))=((t-j:Nat):Int):=fun j hj=>by rw [wrap_i64 (by omega) (by omega)];omega
       have e15:IntKind.wrap .i64 ((t:Int)-15)=((t-15:Nat):Int):=e 15 (by omega)
       have e2:IntKind.wrap .i64 ((t:Int)-2)=((t-2:Nat):Int):=e 2 (by omega)
       have e7:IntKind.wrap .i64 ((t:Int)-7)=((t-7:Nat):Int):=e 7 (by omega)
       have e16:IntKind.wrap .i64 ((t:Int)-16)=((t-16:Nat):Int):=e 16 (by omega)
       rw [e15,e2,e7,e16]
       obtain ⟨W,hW⟩:∃W,bz B t=W:=⟨_,rfl⟩
       have hWl:W.length=64:=by rw [←hW];exact mE B t
       have hlt:cM W:=by rw [←hW];exact pJ B t
       have hnx:bz B (t+1)=W.set t (De W t):=by rw [bz,if_neg (by omega),hW]
       rw [hW] at h12
       obtain ⟨Q,hQ⟩:∃Q:World→Prop,Q=fun w'=>St w [] w' (M0++ [.arr g6 394 (kv .u32 H)]++ [.arr g8 393 (kv .u32 W)]):=⟨_,rfl⟩
       have hQ12:Q w12:=by rw [hQ];exact h12
       have hd:∀w',Q w'→Q w'.drew:=fun w' h=>by rw [hQ] at h ⊢;exact h.drew
       have ld:∀j:Nat,j<64→∀w',Q w'→(Instr.loadAt 370 (.pointer (some ⟨g8,0+Int.toNat (j:Int)*1,none⟩))).run Tryz.prog w'=.ok (.int .u32 ((W.getD j 0:Nat):Int)) w':=fun j hj w' h=>by
         rw [hQ] at h;exact h.ldK (i4 _ _) (uA _) (ze j) (by omega)
       refine ⟨by omega,by omega,_,ld _ (by omega) _ hQ12,by omega,by omega,_,ld _ (by omega) _ hQ12,Q,hd _ hQ12,by omega,by omega,by omega,by omega,_,ld _ (by omega),_,ld _ (by omega),(fm _ 17 _ (hlt _) (by decide) (by decide)).mono ?_⟩
       rintro e w15 ⟨rfl,rfl⟩
       refine ⟨_,rfl,Q,fun _ h=>h,hd _ hQ12,(fm _ 19 _ (hlt _) (by decide) (by decide)).mono ?_⟩
       rintro e w16 ⟨rfl,rfl⟩
       refine ⟨_,rfl,Q,fun _ h=>h,hd _ hQ12,(fm _ 7 _ (hlt _) (by decide) (by decide)).mono ?_⟩
       rintro e w17 ⟨rfl,rfl⟩
       refine ⟨_,rfl,Q,fun _ h=>h,hd _ hQ12,(fm _ 18 _ (hlt _) (by decide) (by decide)).mono ?_⟩
       rintro e w18 ⟨rfl,rfl⟩
       refine ⟨_,rfl,Q,fun _ h=>h,hd _ hQ12,by omega,by omega,?_⟩
       rw [Gq (hlt _),Gu (hlt _),dO,dO,dO]
       have h9:=hd _ hQ12
       rw [hQ] at h9
       obtain ⟨w19,r19,h19⟩:=h9.stK (n:=De W t) (i4 _ _) (uS _) (ze t) (by omega)
       rw [s4] at h19
       exact ⟨w19,r19,⟨t+1,ay ht' (by omega),by omega,by rw [hnx];exact h19⟩,aB ht' (by omega)⟩
   · have ht':t=64:=by simp at h;omega
     obtain ⟨W,hW⟩:∃W,bz B 64=W:=⟨_,rfl⟩
     have hWt:bz B t=W:=by rw [ht',hW]
     have hWl:W.length=64:=by rw [←hW];exact mE B 64
     have hWlt:cM W:=by rw [←hW];exact pJ B 64
     obtain ⟨V,hV⟩:∃V,rounds W H 64=V:=⟨_,rfl⟩
     have hcomp:compress H B=List.zipWith bp H V:=by rw [compress,hW,hV]
     rw [hWt] at h12
     clear hWt ht' ht h hW
     have i5:∀(r s u:Res),(M0++ [r]++ [s]++ [u])[5]?=some u:=fun r s u=>by rw [hM0];rfl
     have i4':∀(r s u:Res),(M0++ [r]++ [s]++ [u])[4]?=some s:=fun r s u=>by rw [hM0];rfl
     have i3':∀(r s u:Res),(M0++ [r]++ [s]++ [u])[3]?=some r:=fun r s u=>by rw [hM0];rfl
     have i1':∀(r s u:Res),(M0++ [r]++ [s]++ [u])[1]?=some (.arr g3 393 (kv .u32 lM)):=fun r s u=>by rw [hM0];rfl
     have s5:∀(r s u u':Res),(M0++ [r]++ [s]++ [u]).set 5 u'=M0++ [r]++ [s]++ [u']:=fun r s u u'=>by rw [hM0];rfl
     have s3':∀(r r' s u:Res),(M0++ [r]++ [s]++ [u]).set 3 r'=M0++ [r']++ [s]++ [u]:=fun r r' s u=>by rw [hM0];rfl
     obtain ⟨g13,w20,r20,h20⟩:=h12.aD w8Z
     obtain ⟨w21,r21,h21⟩:=h20.stA (v:=kv .u32 H) (i5 _ _ _) (w8S _) (by simp) (by simp [hHl]) (fK _ _)
     rw [s5] at h21
     refine ⟨_,h12.ldA (i3 _ _) (w8A _) (w8S _) (by simp [hHl]),g13,w20,r20,w21,r21,fun x w'=>∃t:Nat,x=(t:Int)∧t≤64∧∃v:List Nat,rounds W H t=v∧St w [] w' (M0++ [.arr g6 394 (kv .u32 H)]++ [.arr g8 393 (kv .u32 W)]++ [.arr g13 394 (kv .u32 v)]),fun x _=>64-x.toNat,⟨0,rfl,by omega,H,rfl,h21⟩,?_⟩
     rintro x w22 ⟨t,rfl,ht,v,hv,h22⟩
     have hvlt:cM v:=by rw [←hv];exact uK W hHlt t
     have hvl:v.length=8:=by rw [←hv];exact mK W hHl t
     refine ⟨fun h=>?_,fun h=>?_⟩
     · have ht':t<64:=by simp at h;omega
       obtain ⟨Q,hQ⟩:∃Q:World→Prop,Q=fun w'=>St w [] w' (M0++ [.arr g6 394 (kv .u32 H)]++ [.arr g8 393 (kv .u32 W)]++ [.arr g13 394 (kv .u32 v)]):=⟨_,rfl⟩
       have hQ22:Q w22:=by rw [hQ];exact h22
       have hd:∀w',Q w'→Q w'.drew:=fun w' h=>by rw [hQ] at h ⊢;exact h.drew
       have ldv:∀j:Nat,j<8→∀w',Q w'→(Instr.loadAt 370 (.pointer (some ⟨g13,j,none⟩))).run Tryz.prog w'=.ok (.int .u32 ((v.getD j 0:Nat):Int)) w':=fun j hj w' h=>by
         rw [hQ] at h;exact h.ldK (i5 _ _ _) (uA _) rfl (by omega)
       have ldw:∀w',Q w'→(Instr.loadAt 370 (.pointer (some ⟨g8,0+Int.toNat (t:Int)*1,none⟩))).run Tryz.prog w'=.ok (.int .u32 ((W.getD t 0:Nat):Int)) w':=fun w' h=>by
         rw [hQ] at h;exact h.ldK (i4' _ _ _) (uA _) (ze t) (by omega)
       have ldk:∀w',Q w'→(Instr.loadAt 370 (.pointer (some ⟨g3,0+Int.toNat (t:Int)*1,none⟩))).run Tryz.prog w'=.ok (.int .u32 ((lM.getD t 0:Nat):Int)) w':=fun w' h=>by
         rw [hQ] at h;exact h.ldK (i1' _ _ _) (uA _) (ze t) (by rw [oa];omega)
       refine ⟨_,ldv 4 (by decide) _ hQ22,_,ldv 5 (by decide) _ hQ22,_,ldv 4 (by decide) _ hQ22,_,ldv 6 (by decide) _ hQ22,_,ldv 0 (by decide) _ hQ22,_,ldv 1 (by decide) _ hQ22,_,ldv 0 (by decide) _ hQ22,_,ldv 2 (by decide) _ hQ22,_,ldv 1 (by decide) _ hQ22,_,ldv 2 (by decide) _ hQ22,
         Q,hd _ hQ22,by omega,by omega,by omega,by omega,_,ldv 7 (by decide),_,ldv 4 (by decide),_,ldv 4 (by decide),_,ldv 4 (by decide),_,ldk,_,ldw,(fm _ 6 _ (hvlt _) (by decide) (by decide)).mono ?_⟩
       rintro e w23 ⟨rfl,rfl⟩
       refine ⟨_,rfl,Q,fun _ h=>h,hd _ hQ22,(fm _ 11 _ (hvlt _) (by decide) (by decide)).mono ?_⟩
       rintro e w24 ⟨rfl,rfl⟩
       refine ⟨_,rfl,Q,fun _ h=>h,hd _ hQ22,(fm _ 25 _ (hvlt _) (by decide) (by decide)).mono ?_⟩
       rintro e w25 ⟨rfl,rfl⟩
       refine ⟨_,rfl,Q,fun _ h=>h,hd _ hQ22,Q,hd _ (hd _ hQ22),_,ldv 0 (by decide),_,ldv 0 (by decide),_,ldv 0 (by decide),(fm _ 2 _ (hvlt _) (by decide) (by decide)).mono ?_⟩
       rintro e w26 ⟨rfl,rfl⟩
       refine ⟨_,rfl,Q,fun _ h=>h,hd _ (hd _ hQ22),(fm _ 13 _ (hvlt _) (by decide) (by decide)).mono ?_⟩
       rintro e w27 ⟨rfl,rfl⟩
       refine ⟨_,rfl,Q,fun _ h=>h,hd _ (hd _ hQ22),(fm _ 22 _ (hvlt _) (by decide) (by decide)).mono ?_⟩
       rintro e w28 ⟨rfl,rfl⟩
       have h28:=hd _ (hd _ hQ22)
       rw [hQ] at h28
       refine ⟨_,rfl,Q,fun _ h=>h,hd _ (hd _ hQ22),fun x w'=>∃j:Nat,x=(j:Int)∧j≤7∧St w [] w' (M0++ [.arr g6 394 (kv .u32 H)]++ [.arr g8 393 (kv .u32 W)]++ [.arr g13 394 (kv .u32 (shF v j))]),fun x _=>x.toNat,⟨7,rfl,by omega,by rw [NT hvl];exact h28⟩,?_⟩
       rintro x w29 ⟨j,rfl,hj,h29⟩
       refine ⟨fun h=>?_,fun h=>?_⟩
       · have hj0:0<j:=by simp at h;omega
         have e1:IntKind.wrap .i64 ((j:Int)-1)=((j-1:Nat):Int):=by rw [wrap_i64 (by omega) (by omega)];omega
         rw [e1]
         obtain ⟨f1,f2⟩:=Jq hvl hj0 hj
         obtain ⟨w30,r30,h30⟩:=h29.stK (n:=v.getD (j-1) 0) (i5 _ _ _) (uS _) (ze j) (by rw [tR hvl hj];omega)
         rw [s5,f2] at h30
         refine ⟨by omega,by omega,_,h29.ldK (i5 _ _ _) (uA _) (ze (j-1)) (by rw [tR hvl hj];omega),by omega,by omega,w30,?_,⟨j-1,rfl,by omega,h30⟩,?_⟩
         · rw [f1];exact r30
         · show ((j-1:Nat):Int).toNat<(j:Int).toNat
           omega
       · have hj0:j=0:=by simp at h;omega
         subst hj0
         obtain ⟨f1,_⟩:=GM hvl 0 0
         rw [Gc (hvlt _),GS (hvlt _),JQ (hvlt _) (hvlt _) (hvlt _),GU (hvlt _) (hvlt _) (hvlt _)]
         simp only [dO]
         refine ⟨_,h29.ldK (i5 _ _ _) (uA _) (rfl:4=4) (by rw [tR hvl (by omega)];omega),?_⟩
         rw [f1]
         simp only [dO]
         obtain ⟨w31,r31,h31⟩:=h29.stK (n:=bp (v.getD 3 0) (bp (bp (bp (bp (v.getD 7 0) (bg1 (v.getD 4 0))) (chF (v.getD 4 0) (v.getD 5 0) (v.getD 6 0))) (lM.getD t 0)) (W.getD t 0))) (i5 _ _ _) (uS _) (rfl:4=4) (by rw [tR hvl (by omega)];omega)
         rw [s5] at h31
         obtain ⟨w32,r32,h32⟩:=h31.stK (n:=bp (bp (bp (bp (bp (v.getD 7 0) (bg1 (v.getD 4 0))) (chF (v.getD 4 0) (v.getD 5 0) (v.getD 6 0))) (lM.getD t 0)) (W.getD t 0)) (bp (bg0 (v.getD 0 0)) (K6 (v.getD 0 0) (v.getD 1 0) (v.getD 2 0)))) (i5 _ _ _) (uS _) (rfl:0=0) (by rw [List.length_set,tR hvl (by omega)];omega)
         rw [s5,(GM hvl _ _).2] at h32
         exact ⟨w31,r31,w32,r32,⟨t+1,ay ht' (by omega),by omega,_,by rw [rounds,hv];rfl,h32⟩,aB ht' (by omega)⟩
     · have ht':t=64:=by simp at h;omega
       have hvV:v=V:=by rw [←hv,ht',hV]
       obtain ⟨Z,hZ⟩:∃Z,List.zipWith bp H v=Z:=⟨_,rfl⟩
       have hZl:Z.length=8:=by rw [←hZ];exact Bb hHl hvl
       have hZg:∀j,j<8→Z[j]?=some (bp (H.getD j 0) (v.getD j 0)):=fun j hj=>by rw [←hZ];exact BS hHl hvl hj
       have hcZ:compress H B=Z:=by rw [hcomp,←hvV,hZ]
       clear hvV ht' ht h hv hV hcomp
       refine ⟨fun x w'=>∃j:Nat,x=(j:Int)∧j≤8∧St w [] w' (M0++ [.arr g6 394 (kv .u32 (dJ Z H j))]++ [.arr g8 393 (kv .u32 W)]++ [.arr g13 394 (kv .u32 v)]),fun x _=>8-x.toNat,⟨0,rfl,by omega,by rw [gL];exact h22⟩,?_⟩
       rintro x w33 ⟨j,rfl,hj,h33⟩
       have hml:(dJ Z H j).length=8:=by rw [s7 (by omega) (by omega)];exact hHl
       refine ⟨fun h=>?_,fun h=>?_⟩
       · have hj':j<8:=by simp at h;omega
         have hgj:(dJ Z H j).getD j 0=H.getD j 0:=by simp only [List.getD,DH (show Z.length=H.length by omega) (show j<H.length by omega)]
         obtain ⟨w34,r34,h34⟩:=h33.drew.stK (n:=bp (H.getD j 0) (v.getD j 0)) (i3' _ _ _) (uS _) (ze j) (by omega)
         rw [s3',kE (by omega) (hZg j hj')] at h34
         refine ⟨fun w'=>St w [] w' (M0++ [.arr g6 394 (kv .u32 (dJ Z H j))]++ [.arr g8 393 (kv .u32 W)]++ [.arr g13 394 (kv .u32 v)]),h33.drew,by omega,by omega,by omega,by omega,_,fun w' h=>h.ldK (i3' _ _ _) (uA _) (ze j) (by omega),_,fun w' h=>h.ldK (i5 _ _ _) (uA _) (ze j) (by omega),by omega,by omega,w34,?_,⟨j+1,ay hj' (by omega),by omega,h34⟩,aB hj' (by omega)⟩
         rw [hgj,dO];exact r34
       · have hj':j=8:=by simp at h;omega
         subst hj'
         have hall:dJ Z H 8=Z:=by have:=kT (x:=Z) (l:=H) (by omega);rwa [hHl] at this
         rw [hall] at h33
         have h33':=St.pop (St.pop h33)
         have ew:IntKind.wrap .i64 (((64*b:Nat):Int)+64)=((64*(b+1):Nat):Int):=by rw [wrap_i64 (by omega) (by omega)];omega
         rw [ew]
         refine ⟨⟨b+1,rfl,by omega,?_⟩,?_⟩
         · rw [hnext,hcZ];exact h33'
         · show n6- ((64*(b+1):Nat):Int).toNat<n6- ((64*b:Nat):Int).toNat
           omega
 · have hbe:64*b=n6:=by simp at h;omega
   have hbd:n6 / 64=b:=by omega
   rw [hbd]
   obtain ⟨H,hH⟩:∃H,dF b h0L L=H:=⟨_,rfl⟩
   have hHl:H.length=8:=by rw [←hH];exact lF _ _ rfl
   rw [hH] at h9 ⊢
   clear hH hbd hbe h
   have hz:=fP (P:=Tryz.prog) (w:=w9) (eD w9) Tryz.underlying39 (sB _) [] (by simp) (by simp)
   simp only [List.nil_append,List.length_nil,List.drop_zero] at hz
   obtain ⟨g21,w10,r10,h10⟩:=h9.aD eD
   have i3:∀(r s:Res),(M0++ [r]++ [s])[3]?=some r:=fun r s=>by rw [hM0];rfl
   have i4:∀(r s:Res),(M0++ [r]++ [s])[4]?=some s:=fun r s=>by rw [hM0];rfl
   have i0:∀(r s:Res),(M0++ [r]++ [s])[0]?=some (.arr g2 39 (bv (List.replicate 32 0))):=fun r s=>by rw [hM0];rfl
   have s4:∀(r s s':Res),(M0++ [r]++ [s]).set 4 s'=M0++ [r]++ [s']:=fun r s s'=>by rw [hM0];rfl
   have hdl:(j9 H).length=32:=tu H
   obtain ⟨w11,r11,h11⟩:=h10.stA (v:=bv (List.replicate 32 0)) (i4 _ _) (cL _) (by simp) (by simp) (aO _)
   rw [s4] at h11
   refine ⟨_,hz,g21,w10,r10,w11,r11,fun x w'=>∃i:Nat,x=(i:Int)∧i≤32∧St w [] w' (M0++ [.arr g6 394 (kv .u32 H)]++ [.arr g21 39 (bv (upTo (j9 H) i))]),fun x _=>32-x.toNat,⟨0,rfl,by omega,by rw [uP,hdl];exact h11⟩,?_⟩
   rintro x w12 ⟨i,rfl,hi,h12⟩
   refine ⟨fun h=>?_,fun h=>?_⟩
   · have hi':i<32:=by simp at h;omega
     have e1:IntKind.wrap .i64 (Int.tdiv (i:Int) 4)=((i / 4:Nat):Int):=by rw [Int.tdiv_eq_ediv_of_nonneg (by omega),wrap_i64 (by omega) (by omega)];omega
     have e2:IntKind.wrap .u64 ((24:Int)-IntKind.wrap .u64 (8*IntKind.wrap .u64 (Int.tmod (i:Int) 4)))=((24-8*(i%4):Nat):Int):=by
       rw [Int.tmod_eq_emod_of_nonneg (by omega)]
       simp only [wrap_u64]
       omega
     rw [e1,e2]
     have hval:=oZ H (i / 4) (i%4) (by omega)
     rw [show 4*(i / 4)+i%4=i by omega] at hval
     obtain ⟨w13,r13,h13⟩:=h12.stB (b:=uk H i) (i4 _ _) (sB _) (ze i) (by rw [iB (by omega)];omega)
     rw [s4,gU (om H hi')] at h13
     refine ⟨by omega,by omega,_,h12.ldK (i3 _ _) (uA _) (ze (i / 4)) (by omega),by omega,by omega,by omega,w13,?_,⟨i+1,ay hi' (by omega),by omega,h13⟩,aB hi' (by omega)⟩
     rw [hval];exact r13
   · have hi':i=(j9 H).length:=by simp at h;omega
     rw [hi',wN] at h12
     obtain ⟨w13,r13,h13⟩:=h12.stA (i:=0) (v:=bv (j9 H)) (i0 _ _) (cL _) (by simp) (by simp [hdl]) (aO _)
     have i0':((M0++ [Res.arr g6 394 (kv .u32 H)]++ [Res.arr g21 39 (bv (j9 H))]).set 0 (.arr g2 39 (bv (j9 H))))[0]?=some (.arr g2 39 (bv (j9 H))):=by rw [hM0];rfl
     exact ⟨_,h12.ldA (i4 _ _) (jY _) (cL _) (by simp [hdl]),w13,r13,_,h13.bQ i0' (jY _) (cL _) (by simp [hdl]),rfl,h13.chg⟩

end Go.Proofs.YtpmhjnhgpplmnaaGreatDoor
end

section
namespace Go.Proofs.YtpmhjnhgpplmnaaGreatDoor
open Go Go.Proofs.YtpmhjnhgpplmnaaGreatDoor.Sx
set_option maxRecDepth 100000
variable (w:World) (R:Ending→World→Prop)
theorem tG (a:Option Addr) (b c:Nat) (d:Int) (h:∃(c:Int→Int→World→Prop) (e:Int→Int→World→Nat),c 0 0 w∧∀f g h,c f g h→Ifz (decide (g<(b:Int))) (∃i j,a=some ⟨i,j,none⟩∧0≤g∧g<(b:Int)∧Llz 26 i (j+Int.toNat g*1) h fun a b i=>Ifz (decide ((b:Int)>IntKind.wrap .i64 (d-f))) (R (.returned (.int .i64 d)) h) (c (IntKind.wrap .i64 (f+(b:Int))) (IntKind.wrap .i64 (g+1)) h∧e (IntKind.wrap .i64 (f+(b:Int))) (IntKind.wrap .i64 (g+1)) h<e f g h)) (R (.returned (.int .i64 f)) h)):Calls Tryz.prog 65 #[.slice a b c,.int .i64 d] w R:=af 0x2d2b5b002d36d201738c8200321d00211a152281a17243983d21d1d Tryz.func65 (by kernel_rfl) h
end Go.Proofs.YtpmhjnhgpplmnaaGreatDoor
end

section
namespace Go.Proofs.YtpmhjnhgpplmnaaGreatDoor
open Go Sx
set_option maxRecDepth 8000

theorem DB (a:Option Addr) (n c:Nat) (vs:List Value) (ls:List (List UInt8)) (most:Nat) (w:World) (hr:Rd w a n c 1 vs) (h2:cH w vs ls) (hb:most≤4611686018427387904) (hn:n≤4611686018427387904):
   Calls Tryz.prog 65 #[.slice a n c,.int .i64 (most:Int)] w fun e w'=>e=.returned (.int .i64 ((if ls.flatten.length≤most then ls.flatten.length else most:Nat):Int))∧w'=w:=by
 have hln:ls.length=n:=by have:=hr.len;have:=h2.len;omega
 apply tG
 refine ⟨fun x y w'=>w'=w∧∃i:Nat,y=(i:Int)∧i≤n∧x=(((ls.take i).flatten.length:Nat):Int)∧(ls.take i).flatten.length≤most,fun _ y _=>n-y.toNat,⟨rfl,0,rfl,by omega,by simp,by simp⟩,?_⟩
 rintro x y w1 ⟨rfl,i,rfl,hi,rfl,hle⟩
 refine ⟨fun h=>?_,fun h=>?_⟩
 · have hi':i<n:=by simp at h;omega
   obtain ⟨b,o,a',n',c',ha,hv,hrd,hld⟩:=ixS hr.cells h2 (i:=i) (by omega)
   have hl':=hrd.bB
   have hf1:=gM (ls:=ls) (i:=i) (by omega)
   have hf2:=bI ls (i+1)
   have hf3:=congrArg List.length hf1
   rw [List.length_append,hl'] at hf3
   have hw:IntKind.wrap .i64 ((most:Int)- (((ls.take i).flatten.length:Nat):Int))=((most- (ls.take i).flatten.length:Nat):Int):=by rw [wrap_i64 (by omega) (by omega)];omega
   refine ⟨b,o,ha,by omega,by omega,_,_,_,hld w1 hr.cells,fun h=>?_,fun h=>?_⟩
   · rw [hw] at h
     have:most<n'+(ls.take i).flatten.length:=by simp only [gt_iff_lt,decide_eq_true_eq] at h;omega
     rw [if_neg (by omega)]
     exact ⟨rfl,rfl⟩
   · rw [hw] at h
     have hm:n'+(ls.take i).flatten.length≤most:=by simp only [gt_iff_lt,decide_eq_false_iff_not] at h;omega
     refine ⟨⟨rfl,i+1,ay hi' hn,by omega,?_,by omega⟩,aB hi' hn⟩
     rw [wrap_i64 (by omega) (by omega),hf3];omega
 · have hi':i=n:=by simp at h;omega
   rw [hi',←hln,List.take_length] at hle ⊢
   rw [if_pos hle]
   exact ⟨rfl,rfl⟩

end Go.Proofs.YtpmhjnhgpplmnaaGreatDoor
end

section
namespace Go.Proofs.YtpmhjnhgpplmnaaGreatDoor
open Go Sx
set_option maxRecDepth 8000

theorem cH.nil (w:World):cH w [] []:=⟨rfl,by simp⟩
theorem cH.cons {w:World} {vs:List Value} {ls:List (List UInt8)} {a:Option Addr} {n c:Nat} {l:List UInt8} (h:RdB w a n c l) (h2:cH w vs ls):cH w (.slice a n c::vs) (l::ls):=by
 refine ⟨by simp [h2.len],fun i hi=>?_⟩
 cases i with
 | zero=>exact ⟨a,n,c,rfl,h⟩
 | succ i=>exact h2.rd i (by simpa using hi)

end Go.Proofs.YtpmhjnhgpplmnaaGreatDoor
end

section
namespace Go.Proofs.YtpmhjnhgpplmnaaGreatDoor
open Go Sx
set_option maxRecDepth 8000

theorem CD (n:Nat):bv (List.replicate n 0)=List.replicate n (.int .u8 0):=by simp [bv]

theorem ue (a:Option Addr) (n c:Nat) (key:List UInt8) (a1:Option Addr) (n1 c1:Nat) (vs:List Value) (ls:List (List UInt8)) (w:World) (hr:RdB w a n c key) (hb:n≤70368744170000) (hr1:Rd w a1 n1 c1 1 vs) (h2:cH w vs ls) (hb1:ls.flatten.length≤70368744170000) (hn1:n1≤4611686018427387904):
   Calls Tryz.prog 162 #[.slice a n c,.slice a1 n1 c1] w fun e w'=>e=.returned (.agg (bv (dx key ls.flatten)).toArray)∧Chg [] w w':=by
 have hl:=hr.bB
 have hln:ls.length=n1:=by have:=hr1.len;have:=h2.len;omega
 apply pU
 obtain ⟨g4,w1,r1,h1⟩:=(St.start w).aD eD
 refine ⟨_,_,r1,fun xa xn xc w'=>∃k:List UInt8,RdB w' xa xn xc k∧k.length≤64∧iC key=k++List.replicate (64-k.length) 0∧St w [] w' [.arr g4 39 (bv (List.replicate 32 0))],⟨fun h=>?_,fun h=>?_⟩,?_⟩
 · have hn:64<key.length:=by simp at h;omega
   obtain ⟨g2,w2,r2,h2'⟩:=h1.lit bbT [.slice a n c] (by simp [Value.oneCell']) (by simp)
   refine ⟨_,_,_,_,r2,(u6 _ 1 1 _ [key] w2 (h2'.rd (i:=1) rfl) (eu (h2'.rd1 hr)) (by simp;omega) (by decide)).mono ?_⟩
   rintro e w3 ⟨rfl,hc3⟩
   have hk1:dI [key].flatten=dI key:=by simp
   rw [hk1]
   have h3:=h2'.same hc3
   obtain ⟨g5,w4,r4,h4⟩:=h3.aD eD
   obtain ⟨w5,r5,h5⟩:=h4.stA (i:=2) (v:=bv (dI key)) rfl (cL _) (by simp) (by simp) (aO _)
   refine ⟨_,rfl,g5,w4,r4,w5,r5,by omega,by omega,dI key,h5.rdA (i:=2) rfl (by simp),by simp,?_,h5.sub (List.Sublist.cons_cons _ (List.nil_sublist _))⟩
   simp only [iC,if_pos hn]
 · have hn:¬64<key.length:=by simp at h;omega
   exact ⟨key,h1.rd1 hr,by omega,by simp only [iC,if_neg hn],h1⟩
 rintro xa xn xc w6 ⟨k,hrk,hk64,hmk,h6⟩
 have hkl:=hrk.bB
 obtain ⟨K,hKk⟩:∃K,iC key=K:=⟨_,rfl⟩
 have hKl:K.length=64:=by rw [←hKk];exact sK key
 have hr16:=hr1.au h6.chg
 have h26:=h2.au h6.chg
 obtain ⟨gi,w7,r7,h7⟩:=(St.start w6).mkN (kl:=.i64) (kc:=.i64) (c:=64) bT rfl (by omega) (by omega) (by omega)
 obtain ⟨go,w8,r8,h8⟩:=h7.mkN (kl:=.i64) (kc:=.i64) (c:=64) bT rfl (by omega) (by omega) (by omega)
 have h8':St w6 [] w8 [.row 5 1 (.slice (some ⟨gi,0,none⟩) 64 64) 64 (bv (dJ (fq key) (List.replicate 64 0) 0)),.row 5 1 (.slice (some ⟨go,0,none⟩) 64 64) 64 (bv (dJ (lI key) (List.replicate 64 0) 0))]:=by
   rw [gL,gL,CD];exact h8
 have hip:=sZ key
 have hop:=Eb key
 refine ⟨_,_,_,_,r7,_,_,_,_,r8,fun x w'=>∃i:Nat,x=(i:Int)∧i≤64∧St w6 [] w' [.row 5 1 (.slice (some ⟨gi,0,none⟩) 64 64) 64 (bv (dJ (fq key) (List.replicate 64 0) i)),.row 5 1 (.slice (some ⟨go,0,none⟩) 64 64) 64 (bv (dJ (lI key) (List.replicate 64 0) i))],fun x _=>64-x.toNat,
   ⟨0,rfl,by omega,h8'⟩,?_⟩
 rintro x w9 ⟨i,rfl,hi,h9⟩
 refine ⟨fun h=>?_,fun h=>?_⟩
 · have hi':i<64:=by simp at h;omega
   have hKi:K.getD i 0=if i<k.length then k.getD i 0 else 0:=by
     rw [←hKk,hmk]
     simp only [List.getD,List.getElem?_append]
     split
     · rfl
     · rw [List.getElem?_replicate];split<;>rfl
   refine ⟨fun x w'=>x=((K.getD i 0).toNat:Int)∧w'=w9,⟨fun h=>?_,fun h=>?_⟩,?_⟩
   · have hik:i<xn:=by simp at h;omega
     refine ix0 (hrk.au h9.chg).cells hkl i hik fun b o ha q=>⟨b,o,ha,by omega,by omega,_,q w9 (hrk.au h9.chg).cells,?_,rfl⟩
     rw [hKi,if_pos (by omega)]
   · have hik:¬i<xn:=by simp at h;omega
     refine ⟨?_,rfl⟩
     rw [hKi,if_neg (by omega)];rfl
   rintro y w10 ⟨rfl,rfl⟩
   have hb5:(lI key)[i]?=some (K.getD i 0^^^0x5c):=by simp [lI,hKk,List.getD,show i<K.length by omega]
   have hb3:(fq key)[i]?=some (K.getD i 0^^^0x36):=by simp [fq,hKk,List.getD,show i<K.length by omega]
   have x5:aU .u8 ((K.getD i 0).toNat:Int) 92=((K.getD i 0^^^0x5c).toNat:Int):=rV _ 0x5c
   have x3:aU .u8 ((K.getD i 0).toNat:Int) 54=((K.getD i 0^^^0x36).toNat:Int):=rV _ 0x36
   obtain ⟨w11,r11,h11⟩:=h9.KG (i:=0) (j:=i) (T:=5) (v:=.int .u8 ((K.getD i 0^^^0x36).toNat:Int)) rfl (sB1 _) hi' rfl
   rw [xI,kE (by rw [hip,List.length_replicate]) hb3] at h11
   obtain ⟨w12,r12,h12⟩:=h11.KG (i:=1) (j:=i) (T:=5) (v:=.int .u8 ((K.getD i 0^^^0x5c).toNat:Int)) rfl (sB1 _) hi' rfl
   rw [xI,kE (by rw [hop,List.length_replicate]) hb5] at h12
   have ze:0+Int.toNat (i:Int)*1=i:=by omega
   refine ⟨gi,0,rfl,by omega,by omega,w11,by rw [x3,ze];exact r11,go,0,rfl,by omega,by omega,w12,by rw [x5,ze];exact r12,⟨i+1,ay hi' (by omega),by omega,h12⟩,aB hi' (by omega)⟩
 · have hi':i=64:=by simp at h;omega
   have f1:dJ (fq key) (List.replicate 64 (0:UInt8)) i=fq key:=by
     have:=kT (x:=fq key) (l:=List.replicate 64 (0:UInt8)) (by rw [hip,List.length_replicate])
     rw [List.length_replicate] at this;rw [hi',this]
   have f2:dJ (lI key) (List.replicate 64 (0:UInt8)) i=lI key:=by
     have:=kT (x:=lI key) (l:=List.replicate 64 (0:UInt8)) (by rw [hop,List.length_replicate])
     rw [List.length_replicate] at this;rw [hi',this]
   rw [f1,f2] at h9
   clear f1 f2 hi' h hi h8' h8 h7
   refine ⟨fun xa xn xc x w'=>∃i:Nat,x=(i:Int)∧i≤n1∧xn=64+(ls.take i).flatten.length∧St w6 [] w' [.row 5 1 (.slice xa xn xc) xn (bv (fq key++(ls.take i).flatten)),.row 5 1 (.slice (some ⟨go,0,none⟩) 64 64) 64 (bv (lI key))],fun _ _ _ x _=>n1-x.toNat,⟨0,rfl,by omega,by simp,by simpa using h9⟩,?_⟩
   rintro ya yn yc y w10 ⟨i,rfl,hi,rfl,h10⟩
   have hft:=bI ls i
   refine ⟨fun h=>?_,fun h=>?_⟩
   · have hi':i<n1:=by simp at h;omega
     obtain ⟨b,o,a',n',c',ha,hv,hrd,hld⟩:=ixS hr16.cells h26 (i:=i) (by omega)
     have hl':=hrd.bB
     have hf1:=gM (ls:=ls) (i:=i) (by omega)
     have hf2:=bI ls (i+1)
     have hf3:=congrArg List.length hf1
     rw [List.length_append,hl'] at hf3
     obtain ⟨va,vc,w11,r11,h11⟩:=h10.bJ (i:=0) rfl (h10.rd1 hrd) (by omega)
     refine ⟨b,o,ha,by omega,by omega,_,_,_,hld w10 (hr16.cells.au h10.chg),_,_,_,_,r11,⟨i+1,ay hi' hn1,by omega,by omega,?_⟩,aB hi' hn1⟩
     rw [hf1,←List.append_assoc];exact h11
   · have hi':i=n1:=by simp at h;omega
     have hta:ls.take i=ls:=by rw [hi',←hln,List.take_length]
     rw [hta] at h10 ⊢
     obtain ⟨ms,hms⟩:∃ms,ls.flatten=ms:=⟨_,rfl⟩
     rw [hms] at h10 hb1 ⊢
     obtain ⟨g11,w11,r11,h11⟩:=h10.lit bbT [.slice ya (64+ms.length) yc] (by simp [Value.oneCell']) (by simp)
     refine ⟨_,_,_,_,r11,(u6 _ 1 1 _ [fq key++ms] w11 (h11.rd (i:=2) rfl) (eu (h11.rd (i:=0) rfl)) (by simp [hip];omega) (by decide)).mono ?_⟩
     rintro e w12 ⟨rfl,hc12⟩
     have hk1:dI [fq key++ms].flatten=dI (fq key++ms):=by simp
     rw [hk1]
     have h12:=h11.same hc12
     obtain ⟨g13,w13,r13,h13⟩:=h12.aD eD
     obtain ⟨w14,r14,h14⟩:=h13.stA (i:=3) (v:=bv (dI (fq key++ms))) rfl (cL _) (by simp) (by simp) (aO _)
     obtain ⟨g15,w15,r15,h15⟩:=h14.lit bbT [.slice (some ⟨go,0,none⟩) 64 64,.slice (some ⟨g13,0,none⟩) 32 32] (by simp [Value.oneCell']) (by simp)
     refine ⟨_,rfl,g13,w13,r13,w14,r14,by omega,by omega,_,_,_,_,r15,(u6 _ 2 2 _ [lI key,dI (fq key++ms)] w15 (h15.rd (i:=4) rfl) (oO (h15.rd (i:=1) rfl) (h15.rdA (i:=3) rfl (by simp))) (by simp [hop]) (by decide)).mono ?_⟩
     rintro e w16 ⟨rfl,hc16⟩
     have hm:dI [lI key,dI (fq key++ms)].flatten=dx key ms:=by rw [zV];simp
     rw [hm]
     have hfin:=h6.same (h15.chg.trans hc16)
     obtain ⟨w17,r17,h17⟩:=hfin.stA (i:=0) (v:=bv (dx key ms)) rfl (cL _) (by simp) (by simp) (aO _)
     exact ⟨_,rfl,w17,r17,_,h17.bQ (i:=0) (l:=bv (dx key ms)) rfl (jY _) (cL _) (by simp),rfl,h17.chg⟩

theorem mW {w:World} {a:Option Addr} {n c:Nat} {l:List UInt8} {a2:Option Addr} {n2 c2:Nat} {l2:List UInt8} {a3:Option Addr} {n3 c3:Nat} {l3:List UInt8} (h:RdB w a n c l) (h2:RdB w a2 n2 c2 l2) (h3:RdB w a3 n3 c3 l3):cH w [.slice a n c,.slice a2 n2 c2,.slice a3 n3 c3] [l,l2,l3]:=
 (oO h2 h3).cons h

end Go.Proofs.YtpmhjnhgpplmnaaGreatDoor
end

section
namespace Go.Proofs.YtpmhjnhgpplmnaaGreatDoor
open Go Sx
set_option maxRecDepth 8000

theorem L1 (j:Nat):IntKind.wrap .u8 ((j+1:Nat):Int)=((UInt8.ofNat (j+1)).toNat:Int):=by
 rw [wrap_u8,UInt8.toNat_ofNat'];omega

theorem ES {k k':List UInt8} (h:iC k=iC k') (m:List UInt8):dx k m=dx k' m:=by simp only [dx,h]

theorem yj {n j:Nat} (h1:n≤32*j) (h2:j=0∨32*(j-1)<n):(n+31) / 32=j:=by omega

theorem DK (a0:Option Addr) (n0 c0:Nat) (salt:List UInt8) (a1:Option Addr) (n1 c1:Nat) (secret:List UInt8) (a2:Option Addr) (n2 c2:Nat) (info:List UInt8) (x:Int) (w:World) (hK:cI w) (hr0:RdB w a0 n0 c0 salt) (hr1:RdB w a1 n1 c1 secret) (hr2:RdB w a2 n2 c2 info) (hb:n0+n1+n2≤1099511627776):
   Calls Tryz.prog 292 #[.slice a0 n0 c0,.slice a1 n1 c1,.slice a2 n2 c2,.int .i64 x] w fun e w'=>
     ((x<0∨8160<x)∧e=.returned (.tuple #[.slice none 0 0,bG (some 7)])∧w'=w)∨
     (0≤x∧x≤8160∧∃a n c,e=.returned (.tuple #[.slice a n c,bG none])∧aY w w' a n c (iz salt secret info x.toNat)):=by
 have e0:=hr0.bB
 have e1:=hr1.bB
 have e2:=hr2.bB
 apply zf
 refine ⟨fun h=>.inl ⟨by simp at h;omega,rfl,rfl⟩,fun h=>?_⟩
 have hx:0≤x∧x≤8160:=by simp at h;omega
 obtain ⟨n,rfl⟩:=Int.eq_ofNat_of_zero_le hx.1
 clear h
 obtain ⟨g1,w1,r1,h1⟩:=(St.start w).lit bbT [.slice a1 n1 c1] (by simp [Value.oneCell']) (by simp)
 refine ⟨_,_,_,_,r1,(o9 a0 n0 c0 salt _ 1 1 _ [secret] w1 (hK.au h1.chg) (h1.rd1 hr0) (by omega) (h1.rd (i:=0) rfl) (eu (h1.rd1 hr1)) (by simp;omega) (by decide)).mono ?_⟩
 rintro e w2 ⟨rfl,hc2⟩
 have hk1:dx salt [secret].flatten=dx salt secret:=by simp
 rw [hk1]
 obtain ⟨prk,hprk⟩:∃p,dx salt secret=p:=⟨_,rfl⟩
 have hpl:prk.length=32:=by rw [←hprk];exact oV _ _
 rw [hprk]
 have hdF:iz salt secret info n=(qi prk info ((n+31) / 32)).take n:=by rw [iz,hprk]
 have hc2':=h1.chg.trans hc2
 obtain ⟨g3,w3,r3,h3⟩:=((St.start w).same hc2').aD eD
 obtain ⟨w4,r4,h4⟩:=h3.stA (i:=0) (v:=bv prk) rfl (cL _) (by simp) (by simp [hpl]) (aO _)
 have h4':St w [] w4 [.arr g3 39 (bv prk),.row 5 1 (.slice none 0 0) 0 [],Res.emp]:=(h4.bZ _ _).bZ _ _
 refine ⟨_,rfl,g3,w3,r3,w4,r4,fun xa xn xc ya yn yc z w'=>∃(j:Nat) (L:Res),z=((j+1:Nat):Int)∧(j=0∨32*(j-1)<n)∧xn=32*j∧(∀w',L.holds w'→RdB w' ya yn yc (tF prk info j))∧St w [] w' [.arr g3 39 (bv prk),.row 5 1 (.slice xa xn xc) xn (bv (qi prk info j)),L],
   fun _ xn _ _ _ _ _ _=>n+32-xn,⟨0,Res.emp,rfl,.inl rfl,rfl,fun w' _=>JU w',h4'⟩,?_⟩
 rintro xa xn xc ya yn yc z w5 ⟨j,L,rfl,hj,rfl,hL,h5⟩
 refine ⟨fun h=>?_,fun h=>?_⟩
 · have hlt:32*j<n:=by simp at h;omega
   have hrl:=hL w5 (h5.holds 2 _ rfl)
   have htl:(tF prk info j).length≤32:=by
     cases j with
     | zero=>simp [tF]
     | succ j=>simp [tF]
   rw [L1]
   obtain ⟨g6,w6,r6,h6⟩:=h5.lit bT [.int .u8 ((UInt8.ofNat (j+1)).toNat:Int)] (by simp [Value.oneCell']) (by simp)
   obtain ⟨g7,w7,r7,h7⟩:=h6.lit bbT [.slice ya yn yc,.slice a2 n2 c2,.slice (some ⟨g6,0,none⟩) 1 1] (by simp [Value.oneCell']) (by simp)
   have q1:RdB w7 ya yn yc (tF prk info j):=hL w7 (h7.holds 2 _ rfl)
   have q3:RdB w7 (some ⟨g6,0,none⟩) 1 1 [UInt8.ofNat (j+1)]:=h7.rd (i:=3) rfl
   refine ⟨by omega,by omega,_,_,_,_,r6,_,_,_,_,r7,(o9 _ 32 32 prk _ 3 3 _ [tF prk info j,info,[UInt8.ofNat (j+1)]] w7 (hK.au h7.chg) (h7.rdA (i:=0) rfl (by simp [hpl])) (by omega) (h7.rd (i:=4) rfl) (mW q1 (h7.rd1 hr2) q3) (by simp;omega) (by decide)).mono ?_⟩
   rintro e w8 ⟨rfl,hc8⟩
   have hk2:dx prk [tF prk info j,info,[UInt8.ofNat (j+1)]].flatten=tF prk info (j+1):=by rw [tF];simp
   rw [hk2]
   have h8:=h7.same hc8
   obtain ⟨g9,w9,r9,h9⟩:=h8.aD eD
   have htl1:(tF prk info (j+1)).length=32:=by simp [tF]
   obtain ⟨w10,r10,h10⟩:=h9.stA (i:=5) (v:=bv (tF prk info (j+1))) rfl (cL _) (by simp) (by simp [htl1]) (aO _)
   have hrd10:RdB w10 (some ⟨g9,0,none⟩) 32 32 (tF prk info (j+1)):=h10.rdA (i:=5) rfl (by simp [htl1])
   obtain ⟨va,vc,w11,r11,h11⟩:=h10.bJ (i:=1) rfl hrd10 (by omega)
   have e1':32*j+32=32*(j+1):=by omega
   rw [e1'] at r11 h11
   refine ⟨_,rfl,g9,w9,r9,w10,r10,by omega,by omega,_,_,_,_,r11,⟨j+1,.arr g9 39 (bv (tF prk info (j+1))),?_,.inr (by omega),rfl,fun w' hh=>?_,?_⟩,?_⟩
   · rw [wrap_i64 (by omega) (by omega)];omega
   · exact (St.GH (o:=.cells (bv (tF prk info (j+1))).toArray 39) hh).rdA (i:=0) rfl (by simp [htl1])
   · have:List.Sublist [Res.arr g3 39 (bv prk),.row 5 1 (.slice va (32*(j+1)) vc) (32*(j+1)) (bv (qi prk info (j+1))),.arr g9 39 (bv (tF prk info (j+1)))]
         [Res.arr g3 39 (bv prk),.row 5 1 (.slice va (32*(j+1)) vc) (32*(j+1)) (bv (qi prk info (j+1))),L,.row 5 1 (.slice (some ⟨g6,0,none⟩) 1 1) 1 (bv [UInt8.ofNat (j+1)]),.row 26 1 (.slice (some ⟨g7,0,none⟩) 3 3) 3 [.slice ya yn yc,.slice a2 n2 c2,.slice (some ⟨g6,0,none⟩) 1 1],.arr g9 39 (bv (tF prk info (j+1)))]:=
       List.Sublist.cons_cons _ (List.Sublist.cons_cons _ (List.Sublist.cons _ (List.Sublist.cons _ (List.Sublist.cons _ (List.Sublist.refl _)))))
     exact St.sub h11 this
   · show n+32-32*(j+1)<n+32-32*j
     omega
 · have hge:n≤32*j:=by simp at h;omega
   have hj':=yj hge hj
   have hrow:=h5.rd (i:=1) rfl
   have hle:=hrow.le
   refine ⟨by omega,by omega,?_⟩
   rw [Int.toNat_natCast]
   have hru:=jc (l:=qi prk info j) hrow (k:=n) hge
   refine (mQ _ n xc _ w5 hru (by omega)).mono ?_
   rintro e w6 ⟨a6,c6,rfl,hf6⟩
   refine ⟨_,_,_,rfl,.inr ⟨by omega,by omega,_,_,_,rfl,?_⟩⟩
   rw [hdF,hj']
   exact ⟨h5.chg.trans hf6.1,hf6.2.1,iq hf6.2.2 h5.chg.size⟩

theorem zm (a0:Option Addr) (n0 c0:Nat) (salt:List UInt8) (a1:Option Addr) (n1 c1:Nat) (secret:List UInt8) (a2:Option Addr) (n2 c2:Nat) (info:List UInt8) (x:Int) (w:World) (hr0:RdB w a0 n0 c0 salt) (hr1:RdB w a1 n1 c1 secret) (hr2:RdB w a2 n2 c2 info) (hb:n0+n1+n2≤1099511627776):
   Calls Tryz.prog 195 #[.slice a0 n0 c0,.slice a1 n1 c1,.slice a2 n2 c2,.int .i64 x] w fun e w'=>
     ((x<0∨8160<x)∧e=.returned (.tuple #[.slice none 0 0,.int .i64 7])∧w'=w)∨
     (0≤x∧x≤8160∧∃a n c,e=.returned (.tuple #[.slice a n c,.int .i64 0])∧Chg [] w w'∧RdB w' a n c (iz salt secret info x.toNat)∧∀ad,a=some ad→w.heap.size≤ad.block):=by
 have e0:=hr0.bB
 have e1:=hr1.bB
 have e2:=hr2.bB
 apply mF
 refine ⟨fun h=>.inl ⟨by simp at h;omega,rfl,rfl⟩,fun h=>?_⟩
 have hx:0≤x∧x≤8160:=by simp at h;omega
 obtain ⟨n,rfl⟩:=Int.eq_ofNat_of_zero_le hx.1
 clear h
 refine ⟨fun xa xn xc w'=>∃s:List UInt8,RdB w' xa xn xc s∧iC s=iC salt∧xn≤1099511627776∧Chg [] w w',⟨fun h=>?_,fun _=>⟨salt,hr0,rfl,by omega,Chg.refl _ _⟩⟩,?_⟩
 · have hn0:n0=0:=by simp at h;omega
   have hs:salt=[]:=List.eq_nil_of_length_eq_zero (by omega)
   obtain ⟨g,w1,r1,h1⟩:=(St.start w).mkN (kl:=.i64) (kc:=.i64) (c:=32) bT rfl (by omega) (by omega) (by omega)
   have h1':St w [] w1 [.row 5 1 (.slice (some ⟨g,0,none⟩) 32 32) 32 (bv (List.replicate 32 0))]:=by rw [CD];exact h1
   refine ⟨_,_,_,_,r1,List.replicate 32 0,h1'.rd (i:=0) rfl,?_,by omega,h1.chg⟩
   rw [hs];rfl
 rintro xa xn xc w2 ⟨s,hrs,hms,hxn,hc2⟩
 have es:=hrs.bB
 obtain ⟨g3,w3,r3,h3⟩:=(St.start w2).lit bbT [.slice a1 n1 c1] (by simp [Value.oneCell']) (by simp)
 have hc3:=hc2.trans h3.chg
 refine ⟨_,_,_,_,r3,(ue xa xn xc s _ 1 1 _ [secret] w3 (h3.rd1 hrs) (by omega) (h3.rd (i:=0) rfl) (eu (hr1.au hc3)) (by simp;omega) (by decide)).mono ?_⟩
 rintro e w4 ⟨rfl,hc4⟩
 have hk1:dx s [secret].flatten=dx salt secret:=by rw [ES hms];simp
 rw [hk1]
 obtain ⟨prk,hprk⟩:∃p,dx salt secret=p:=⟨_,rfl⟩
 have hpl:prk.length=32:=by rw [←hprk];exact oV _ _
 rw [hprk]
 have hdF:iz salt secret info n=(qi prk info ((n+31) / 32)).take n:=by rw [iz,hprk]
 have hc4':=hc3.trans hc4
 obtain ⟨g5,w5,r5,h5⟩:=((St.start w).same hc4').aD eD
 obtain ⟨w6,r6,h6⟩:=h5.stA (i:=0) (v:=bv prk) rfl (cL _) (by simp) (by simp [hpl]) (aO _)
 have h6n:=h6.bZ 5 1
 obtain ⟨g7,w7,r7,h7⟩:=h6n.lit bT [] (by simp) (by simp)
 refine ⟨_,rfl,g5,w5,r5,w6,r6,_,_,_,_,r7,fun xa xn xc ya yn yc z w'=>∃j:Nat,z=((j+1:Nat):Int)∧(j=0∨32*(j-1)<n)∧xn=32*j∧St w [] w' [.arr g5 39 (bv prk),.row 5 1 (.slice xa xn xc) xn (bv (qi prk info j)),.row 5 1 (.slice ya yn yc) yn (bv (tF prk info j))],
   fun _ xn _ _ _ _ _ _=>n+32-xn,⟨0,rfl,.inl rfl,rfl,h7⟩,?_⟩
 rintro xa' xn' xc' ya yn yc z w8 ⟨j,rfl,hj,rfl,h8⟩
 refine ⟨fun h=>?_,fun h=>?_⟩
 · have hlt:32*j<n:=by simp at h;omega
   have htl:(tF prk info j).length≤32:=by
     cases j with
     | zero=>simp [tF]
     | succ j=>simp [tF]
   rw [L1]
   obtain ⟨g9,w9,r9,h9⟩:=h8.lit bT [.int .u8 ((UInt8.ofNat (j+1)).toNat:Int)] (by simp [Value.oneCell']) (by simp)
   obtain ⟨g10,w10,r10,h10⟩:=h9.lit bbT [.slice ya yn yc,.slice a2 n2 c2,.slice (some ⟨g9,0,none⟩) 1 1] (by simp [Value.oneCell']) (by simp)
   have q1:RdB w10 ya yn yc (tF prk info j):=h10.rd (i:=2) rfl
   have q3:RdB w10 (some ⟨g9,0,none⟩) 1 1 [UInt8.ofNat (j+1)]:=h10.rd (i:=3) rfl
   refine ⟨by omega,by omega,_,_,_,_,r9,_,_,_,_,r10,(ue _ 32 32 prk _ 3 3 _ [tF prk info j,info,[UInt8.ofNat (j+1)]] w10 (h10.rdA (i:=0) rfl (by simp [hpl])) (by omega) (h10.rd (i:=4) rfl) (mW q1 (h10.rd1 hr2) q3) (by simp;omega) (by decide)).mono ?_⟩
   rintro e w11 ⟨rfl,hc11⟩
   have hk2:dx prk [tF prk info j,info,[UInt8.ofNat (j+1)]].flatten=tF prk info (j+1):=by rw [tF];simp
   rw [hk2]
   have h11:=h10.same hc11
   obtain ⟨g12,w12,r12,h12⟩:=h11.aD eD
   have htl1:(tF prk info (j+1)).length=32:=by simp [tF]
   obtain ⟨w13,r13,h13⟩:=h12.stA (i:=5) (v:=bv (tF prk info (j+1))) rfl (cL _) (by simp) (by simp [htl1]) (aO _)
   obtain ⟨g14,w14,r14,h14⟩:=h13.lit bT [] (by simp) (by simp)
   obtain ⟨ta,tc,w15,r15,h15⟩:=h14.bJ (i:=6) (xs:=[]) rfl (h14.rdA (i:=5) (l:=bv (tF prk info (j+1))) (n:=32) rfl (by simp [htl1])) (by simp)
   simp only [List.length_nil,Nat.zero_add,List.nil_append] at r15 h15
   obtain ⟨va,vc,w16,r16,h16⟩:=h15.bJ (i:=1) rfl (h15.rd (i:=6) rfl) (by omega)
   have e1':32*j+32=32*(j+1):=by omega
   rw [e1'] at r16 h16
   refine ⟨_,rfl,g12,w12,r12,w13,r13,_,_,_,_,r14,by omega,by omega,_,_,_,_,r15,_,_,_,_,r16,⟨j+1,?_,.inr (by omega),rfl,?_⟩,?_⟩
   · rw [wrap_i64 (by omega) (by omega)];omega
   · have:List.Sublist [Res.arr g5 39 (bv prk),.row 5 1 (.slice va (32*(j+1)) vc) (32*(j+1)) (bv (qi prk info (j+1))),.row 5 1 (.slice ta 32 tc) 32 (bv (tF prk info (j+1)))]
         [Res.arr g5 39 (bv prk),.row 5 1 (.slice va (32*(j+1)) vc) (32*(j+1)) (bv (qi prk info (j+1))),.row 5 1 (.slice ya yn yc) yn (bv (tF prk info j)),.row 5 1 (.slice (some ⟨g9,0,none⟩) 1 1) 1 (bv [UInt8.ofNat (j+1)]),.row 26 1 (.slice (some ⟨g10,0,none⟩) 3 3) 3 [.slice ya yn yc,.slice a2 n2 c2,.slice (some ⟨g9,0,none⟩) 1 1],.arr g12 39 (bv (tF prk info (j+1))),.row 5 1 (.slice ta 32 tc) 32 (bv (tF prk info (j+1)))]:=
       List.Sublist.cons_cons _ (List.Sublist.cons_cons _ (List.Sublist.cons _ (List.Sublist.cons _ (List.Sublist.cons _ (List.Sublist.cons _ (List.Sublist.refl _))))))
     exact St.sub h16 this
   · show n+32-32*(j+1)<n+32-32*j
     omega
 · have hge:n≤32*j:=by simp at h;omega
   have hj':=yj hge hj
   have hrow:=h8.rd (i:=1) rfl
   have hle:=hrow.le
   refine ⟨by omega,by omega,.inr ⟨by omega,by omega,_,_,_,rfl,h8.chg,?_,fun ad e=>?_⟩⟩
   · rw [Int.toNat_natCast,hdF,hj']
     exact jc (l:=qi prk info j) hrow (k:=n) hge
   · subst e
     have:=h8.own 1 _ rfl ad.block (by simp [Res.fp,Value.ownBlock])
     simpa using this

end Go.Proofs.YtpmhjnhgpplmnaaGreatDoor
end

section
namespace Go.Proofs.YtpmhjnhgpplmnaaGreatDoor
open Go Sx
set_option maxRecDepth 8000

def lY (l:List Nat) (i j:Nat):List Nat:=l.set i (bp (l.getD i 0) (l.getD j 0))
def l8 (l:List Nat) (i j n:Nat):List Nat:=l.set i (rotl (l.getD i 0^^^l.getD j 0) n)
@[simp] theorem Nc (l:List Nat) (i j:Nat):(lY l i j).length=l.length:=by simp [lY]
@[simp] theorem Nb (l:List Nat) (i j n:Nat):(l8 l i j n).length=l.length:=by simp [l8]
theorem cM.lY {l:List Nat} (h:cM l) (i j:Nat):cM (lY l i j):=h.set i (dz _ _)
theorem cM.l8 {l:List Nat} (h:cM l) (i j n:Nat):cM (l8 l i j n):=h.set i (A1 n (fW (h i) (h j)))

def rnd (l:List Nat) (a b c d:Nat):List Nat:=l8 (lY (l8 (lY (l8 (lY (l8 (lY l a b) d a 16) c d) b c 12) a b) d a 8) c d) b c 7
@[simp] theorem Od (l:List Nat) (a b c d:Nat):(rnd l a b c d).length=l.length:=by simp [rnd]
theorem cM.rnd {l:List Nat} (h:cM l) (a b c d:Nat):cM (rnd l a b c d):=(((((((h.lY a b).l8 d a 16).lY c d).l8 b c 12).lY a b).l8 d a 8).lY c d).l8 b c 7

def hA (a b:Nat):Nat:=bp a b
def hD (a b d m:Nat):Nat:=rotl (d^^^bp a b) m
def hC (a b c d m:Nat):Nat:=bp c (hD a b d m)
def hB (a b c d m n:Nat):Nat:=rotl (b^^^hC a b c d m) n

def qA (a b c d:Nat):Nat:=hA (hA a b) (hB a b c d 16 12)
def qD (a b c d:Nat):Nat:=hD (hA a b) (hB a b c d 16 12) (hD a b d 16) 8
def qC (a b c d:Nat):Nat:=hC (hA a b) (hB a b c d 16 12) (hC a b c d 16) (hD a b d 16) 8
def qB (a b c d:Nat):Nat:=hB (hA a b) (hB a b c d 16 12) (hC a b c d 16) (hD a b d 16) 8 7

theorem Mc {l:List Nat} {a b c d:Nat} (ha:a<l.length) (hb:b<l.length) (hc:c<l.length) (hd:d<l.length) (ab:a≠b) (ac:a≠c) (ad:a≠d) (bc:b≠c) (bd:b≠d) (cd:c≠d):
   rnd l a b c d=(((l.set a (qA (l.getD a 0) (l.getD b 0) (l.getD c 0) (l.getD d 0))).set b (qB (l.getD a 0) (l.getD b 0) (l.getD c 0) (l.getD d 0))).set c (qC (l.getD a 0) (l.getD b 0) (l.getD c 0) (l.getD d 0))).set d (qD (l.getD a 0) (l.getD b 0) (l.getD c 0) (l.getD d 0)):=by
 have h1:∀(k:List Nat) (i v:Nat),i<l.length→k.length=l.length→(k.set i v).getD i 0=v:=fun k i v hi hk=>lP (by omega)
 unfold rnd
 simp only [lY,l8]
 simp only [h1,getD_set_ne ab,getD_set_ne ac,getD_set_ne ad,getD_set_ne bc,getD_set_ne bd,getD_set_ne cd,getD_set_ne ab.symm,getD_set_ne ac.symm,getD_set_ne ad.symm,getD_set_ne bc.symm,getD_set_ne bd.symm,getD_set_ne cd.symm,ha,hb,hc,hd,List.length_set]
 simp only [qA,qB,qC,qD,hA,hB,hC,hD]
 apply List.ext_getElem?
 intro i
 simp only [List.getElem?_set,List.length_set]
 by_cases e1:b=i
 · subst e1;simp [hb,bc.symm,bd.symm,ab,cd]
 · by_cases e2:c=i
   · subst e2;simp [hc,e1,cd.symm]
   · by_cases e3:d=i
     · subst e3;simp [hd,e1,e2]
     · by_cases e4:a=i
       · subst e4;simp [ha,e1,e2,e3]
       · simp [e1,e2,e3,e4]

def wg:Nat→List Nat→List Nat
 | 0,l=>l
 | k+1,l=>rnd (wg k l) k (4+k) (8+k) (12+k)
def zq:Nat→List Nat→List Nat
 | 0,l=>l
 | k+1,l=>rnd (zq k l) k (4+(k+1)%4) (8+(k+2)%4) (12+(k+3)%4)
def eS:Nat→List Nat→List Nat
 | 0,l=>l
 | k+1,l=>zq 4 (wg 4 (eS k l))

@[simp] theorem Kk:∀(k:Nat) (l:List Nat),(wg k l).length=l.length
 | 0,_=>rfl
 | k+1,l=>by simp [wg,Kk k l]
@[simp] theorem JJ:∀(k:Nat) (l:List Nat),(zq k l).length=l.length
 | 0,_=>rfl
 | k+1,l=>by simp [zq,JJ k l]
@[simp] theorem J5:∀(k:Nat) (l:List Nat),(eS k l).length=l.length
 | 0,_=>rfl
 | k+1,l=>by simp [eS,J5 k l]
theorem cM.wg {l:List Nat} (h:cM l):∀k,cM (wg k l)
 | 0=>h
 | k+1=>(cM.wg h k).rnd _ _ _ _
theorem cM.zq {l:List Nat} (h:cM l):∀k,cM (zq k l)
 | 0=>h
 | k+1=>(cM.zq h k).rnd _ _ _ _
theorem cM.eS {l:List Nat} (h:cM l):∀k,cM (eS k l)
 | 0=>h
 | k+1=>((cM.eS h k).wg 4).zq 4

def le4 (l:List UInt8) (o:Nat):Nat:=
 (((l.getD o 0).toNat||| (l.getD (o+1) 0).toNat*2^8%4294967296)||| (l.getD (o+2) 0).toNat*2^16%4294967296)||| (l.getD (o+3) 0).toNat*2^24%4294967296

theorem Mj (l:List UInt8) (o:Nat):le4 l o<4294967296:=by
 have h0:=(l.getD o 0).toNat_lt
 exact Nat.or_lt_two_pow (n:=32) (Nat.or_lt_two_pow (n:=32) (Nat.or_lt_two_pow (n:=32) (by omega) (Nat.mod_lt _ (by decide))) (Nat.mod_lt _ (by decide))) (Nat.mod_lt _ (by decide))

def uh (base:Nat) (key:List UInt8):Nat→List Nat→List Nat
 | 0,l=>l
 | k+1,l=>(uh base key k l).set (base+k) (le4 key (4*k))
@[simp] theorem Jw (base:Nat) (key:List UInt8):∀(k:Nat) (l:List Nat),(uh base key k l).length=l.length
 | 0,_=>rfl
 | k+1,l=>by simp [uh,Jw base key k l]
theorem cM.uh {l:List Nat} (h:cM l) (base:Nat) (key:List UInt8):∀k,cM (uh base key k l)
 | 0=>h
 | k+1=>(cM.uh h base key k).set _ (Mj _ _)
def lK (key:List UInt8) (ctr:Nat) (nonce:List UInt8):List Nat:=
 uh 13 nonce 3 ((uh 4 key 8 ([1634760805,857760878,2036477234,1797285236]++List.replicate 12 0)).set 12 ctr)
theorem Fz (key:List UInt8) (ctr:Nat) (nonce:List UInt8):(lK key ctr nonce).length=16:=by simp [lK]

theorem Fv:cM ([1634760805,857760878,2036477234,1797285236]++List.replicate 12 0):=by
 intro i
 by_cases h:i<16
 · have:∀i<16,([1634760805,857760878,2036477234,1797285236]++List.replicate 12 0:List Nat).getD i 0<4294967296:=by decide
   exact this i h
 · rw [List.getD,List.getElem?_eq_none (by simp;omega)];decide
theorem FN (key:List UInt8) {ctr:Nat} (nonce:List UInt8) (h:ctr<4294967296):cM (lK key ctr nonce):=((Fv.uh 4 key 8).set 12 h).uh 13 nonce 3

def vZ (x y:List Nat) (i:Nat):UInt8:=UInt8.ofNat (bp (x.getD (i / 4) 0) (y.getD (i / 4) 0) / 2^(8*(i%4))%256)
def FC (x y:List Nat):List UInt8:=(List.range 64).map (vZ x y)
@[simp] theorem Ob (x y:List Nat):(FC x y).length=64:=by simp [FC]
def jr (key:List UInt8) (ctr:Nat) (nonce:List UInt8):List UInt8:=FC (eS 10 (lK key ctr nonce)) (lK key ctr nonce)
@[simp] theorem Mr (key:List UInt8) (ctr:Nat) (nonce:List UInt8):(jr key ctr nonce).length=64:=by simp [jr]

end Go.Proofs.YtpmhjnhgpplmnaaGreatDoor
end
